/- The program's functions as plain functions (printed by wip/lift). No statement of the program stands here. -/
import Derived.Test.YtkbipbfncbopnaaLiw
namespace Go.F
open Go Go.Lift
set_option linter.unusedVariables false
def slices_Clone_int_int (x_0 : List Int) : Comp (List Int) :=
     (app [] x_0).bind fun x5 => Comp.pure x5
def core_Minimal_l5 (x11 : List Int) (x21 : Int) (x22 : Int) : Comp (Comp.Step Int (Sum Unit Unit)) :=
   if (decide (x22 < (x11.length : Int))) = true then
    ((idx x11 x22).bind fun x24 =>  (Comp.pure ((bif (decide (x24 ≠ x21)) then (decide ((andB .i64 x21 x24) = x24)) else false))).bind fun x25 => if x25 = true then
    (Comp.pure (.done (.inl ())))
    else
    ( Comp.pure (.next (IntKind.wrap .i64 (x22 + 1)))))
    else
    (Comp.pure (.done (.inr ())))
def core_Minimal_j3 (x19 : Int) (x26 : List Int) : Comp (Comp.Step ((List Int) × Int) (List Int)) :=
   Comp.pure (.next (x26, (IntKind.wrap .i64 (x19 + 1))))
def core_Minimal_j4 (x16 : List Int) (x21 : Int) (x19 : Int) : Comp (Comp.Step ((List Int) × Int) (List Int)) :=
   (app x16 [x21]).bind fun x32 => core_Minimal_j3 x19 x32
def core_Minimal_l2 (x11 : List Int) (x16 : List Int) (x19 : Int) : Comp (Comp.Step ((List Int) × Int) (List Int)) :=
   if (decide (x19 < (x11.length : Int))) = true then
    ((idx x11 x19).bind fun x21 =>  (Comp.loop (fun s => core_Minimal_l5 x11 x21 s) 0).bind (fun e => match e with | (.inl ()) => (core_Minimal_j3 x19 x16) | (.inr ()) => (core_Minimal_j4 x16 x21 x19)))
    else
    (Comp.pure (.done x16))
def core_Minimal_j1 (x39 : List Int) : Comp (List Int) :=
   Comp.pure x39
def core_Minimal (x_0 : List Int) : Comp (List Int) :=
    (slices_Clone_int_int x_0).bind fun x1 =>  (sortI x1).bind fun x6 =>  (compactI x6).bind fun x11 =>   (Comp.loop (fun s => core_Minimal_l2 x11 s.1 s.2) ([], 0)).bind (fun x38 => core_Minimal_j1 x38)
def colletref32_Same_l2 (x_0 : List Int) (x_1 : List Int) (x2 : Int) : Comp (Comp.Step Int (Sum Bool Unit)) :=
   if (decide (x2 < (x_0.length : Int))) = true then
    ((idx x_0 x2).bind fun x4 => (idx x_1 x2).bind fun x5 => if (decide (x4 ≠ x5)) = true then
    ( Comp.pure (.done (.inl false)))
    else
    ( Comp.pure (.next (IntKind.wrap .i64 (x2 + 1)))))
    else
    (Comp.pure (.done (.inr ())))
def colletref32_Same_j1  : Comp Bool :=
   Comp.pure true
def colletref32_Same (x_0 : List Int) (x_1 : List Int) : Comp Bool :=
    (Comp.pure ((decide ((x_0.length : Int) ≠ (x_1.length : Int))))).bind fun x1 => if x1 = true then
    ( Comp.pure false)
    else
    ( (Comp.loop (fun s => colletref32_Same_l2 x_0 x_1 s) 0).bind (fun e => match e with | (.inl x6) => (Comp.pure x6) | (.inr ()) => (colletref32_Same_j1)))
def core_Hitting_f1 (x_0 : Int) (x_1 : Int) : Comp Bool :=
   (Comp.gd ((decide (x_0 < 0)) == false) (nonneg x_1) default).bind fun x1 => (Comp.pure ((bif (decide (x_0 < 0)) then true else (decide (x_0 ≥ (shlF .i64 1 x_1)))))).bind fun x2 => Comp.pure x2
def slices_IndexFunc_int_int_l2 (x_0 : List Int) (x_1 : Int → Comp Bool) (x1 : Int) : Comp (Comp.Step Int (Sum Int Unit)) :=
   if (decide (x1 < (x_0.length : Int))) = true then
    ( (idx x_0 x1).bind fun x3 => (x_1 x3).bind fun x4 => if x4 = true then
    ( Comp.pure (.done (.inl x1)))
    else
    ( Comp.pure (.next (IntKind.wrap .i64 (x1 + 1)))))
    else
    (Comp.pure (.done (.inr ())))
def slices_IndexFunc_int_int_j1  : Comp Int :=
   Comp.pure (-1)
def slices_IndexFunc_int_int (x_0 : List Int) (x_1 : Int → Comp Bool) : Comp Int :=
    (Comp.loop (fun s => slices_IndexFunc_int_int_l2 x_0 x_1 s) 0).bind (fun e => match e with | (.inl x5) => (Comp.pure x5) | (.inr ()) => (slices_IndexFunc_int_int_j1))
def slices_ContainsFunc_int_int (x_0 : List Int) (x_1 : Int → Comp Bool) : Comp Bool :=
   (slices_IndexFunc_int_int x_0 x_1).bind fun x1 => Comp.pure (decide (x1 ≥ 0))
def core_Hitting_j7 (x36 : Int) (x47 : List Int) : Comp (Comp.Step ((List Int) × Int) (List Int)) :=
   Comp.pure (.next (x47, (IntKind.wrap .i64 (x36 + 1))))
def core_Hitting_l6 (x_1 : Int) (x17 : Int) (x23 : Int) (x33 : List Int) (x36 : Int) : Comp (Comp.Step ((List Int) × Int) (List Int)) :=
   if (decide (x36 < x_1)) = true then
    ( (nonneg x36).bind fun x38 => (Comp.pure ((decide ((andB .i64 (shrF .i64 x17 x36) 1) = 1)))).bind fun x39 => if x39 = true then
    ((nonneg x36).bind fun x40 => (app x33 [(orB .i64 x23 (shlF .i64 1 x36))]).bind fun x43 => core_Hitting_j7 x36 x43)
    else
    (core_Hitting_j7 x36 x33))
    else
    (Comp.pure (.done x33))
def core_Hitting_j5 (x21 : Int) (x30 : List Int) : Comp (Comp.Step ((List Int) × Int) (List Int)) :=
   Comp.pure (.next (x30, (IntKind.wrap .i64 (x21 + 1))))
def core_Hitting_l4 (x10 : List Int) (x17 : Int) (x_1 : Int) (x18 : List Int) (x21 : Int) : Comp (Comp.Step ((List Int) × Int) (List Int)) :=
   if (decide (x21 < (x10.length : Int))) = true then
    ((idx x10 x21).bind fun x23 =>  if (decide ((andB .i64 x23 x17) ≠ 0)) = true then
    ( (app x18 [x23]).bind fun x26 => core_Hitting_j5 x21 x26)
    else
    ( (Comp.loop (fun s => core_Hitting_l6 x_1 x17 x23 s.1 s.2) (x18, 0)).bind (fun x52 => core_Hitting_j5 x21 x52)))
    else
    (Comp.pure (.done x18))
def core_Hitting_j3 (x13 : Int) (x56 : List Int) : Comp (Comp.Step ((List Int) × Int) (List Int)) :=
   (core_Minimal x56).bind fun x62 =>  Comp.pure (.next (x62, (IntKind.wrap .i64 (x13 + 1))))
def core_Hitting_l2 (x_0 : List Int) (x_1 : Int) (x10 : List Int) (x13 : Int) : Comp (Comp.Step ((List Int) × Int) (List Int)) :=
   if (decide (x13 < (x_0.length : Int))) = true then
    ((idx x_0 x13).bind fun x17 =>   (Comp.loop (fun s => core_Hitting_l4 x10 x17 x_1 s.1 s.2) ([], 0)).bind (fun x55 => core_Hitting_j3 x13 x55))
    else
    (Comp.pure (.done x10))
def core_Hitting_j1 (x71 : List Int) : Comp ((List Int) × Int) :=
   Comp.pure (x71, 0)
def core_Hitting (x_0 : List Int) (x_1 : Int) : Comp ((List Int) × Int) :=
    (Comp.pure ((bif (decide (x_1 < 0)) then true else (decide (x_1 > 10))))).bind fun x3 => if x3 = true then
    ( Comp.pure ([], 2))
    else
    ( (slices_ContainsFunc_int_int x_0 (fun z0 => core_Hitting_f1 z0 x_1)).bind fun x5 => if x5 = true then
    ( Comp.pure ([], 3))
    else
    (  (Comp.loop (fun s => core_Hitting_l2 x_0 x_1 s.1 s.2) ([0], 0)).bind (fun x70 => core_Hitting_j1 x70)))
def colletlaw32_hits (x_0 : List Int) (x_1 : Int) (x_2 : List Int) : Comp Bool :=
   (core_Hitting x_0 x_1).bind fun x1 => (Comp.gd ((decide (x1.2 = 0)) == true) (colletref32_Same x1.1 x_2) default).bind fun x4 => (Comp.pure ((bif (decide (x1.2 = 0)) then x4 else false))).bind fun x5 => Comp.pure x5
def math_bits_Len32_j2 (x4 : Int) (x5 : Int) : Comp Int :=
  (strIdx [0, 1, 2, 2, 3, 3, 3, 3, 4, 4, 4, 4, 4, 4, 4, 4, 5, 5, 5, 5, 5, 5, 5, 5, 5, 5, 5, 5, 5, 5, 5, 5, 6, 6, 6, 6, 6, 6, 6, 6, 6, 6, 6, 6, 6, 6, 6, 6, 6, 6, 6, 6, 6, 6, 6, 6, 6, 6, 6, 6, 6, 6, 6, 6, 7, 7, 7, 7, 7, 7, 7, 7, 7, 7, 7, 7, 7, 7, 7, 7, 7, 7, 7, 7, 7, 7, 7, 7, 7, 7, 7, 7, 7, 7, 7, 7, 7, 7, 7, 7, 7, 7, 7, 7, 7, 7, 7, 7, 7, 7, 7, 7, 7, 7, 7, 7, 7, 7, 7, 7, 7, 7, 7, 7, 7, 7, 7, 7, 8, 8, 8, 8, 8, 8, 8, 8, 8, 8, 8, 8, 8, 8, 8, 8, 8, 8, 8, 8, 8, 8, 8, 8, 8, 8, 8, 8, 8, 8, 8, 8, 8, 8, 8, 8, 8, 8, 8, 8, 8, 8, 8, 8, 8, 8, 8, 8, 8, 8, 8, 8, 8, 8, 8, 8, 8, 8, 8, 8, 8, 8, 8, 8, 8, 8, 8, 8, 8, 8, 8, 8, 8, 8, 8, 8, 8, 8, 8, 8, 8, 8, 8, 8, 8, 8, 8, 8, 8, 8, 8, 8, 8, 8, 8, 8, 8, 8, 8, 8, 8, 8, 8, 8, 8, 8, 8, 8, 8, 8, 8, 8, 8, 8, 8, 8, 8, 8, 8, 8, 8, 8, 8, 8, 8, 8, 8, 8] (IntKind.wrap .u8 x4)).bind fun x7 => (Comp.pure ((IntKind.wrap .i64 (x5 + (IntKind.wrap .i64 x7))))).bind fun x8 => Comp.pure x8
def math_bits_Len32_j1 (x1 : Int) (x2 : Int) : Comp Int :=
   if (decide (x1 ≥ 256)) = true then
    (  math_bits_Len32_j2 (shrF .u32 x1 8) (IntKind.wrap .i64 (x2 + 8)))
    else
    (math_bits_Len32_j2 x1 x2)
def math_bits_Len32 (x_0 : Int) : Comp Int :=
    if (decide (x_0 ≥ 65536)) = true then
    (  math_bits_Len32_j1 (shrF .u32 x_0 16) 16)
    else
    (math_bits_Len32_j1 x_0 0)
def math_bits_Len64_j3 (x7 : Int) (x8 : Int) : Comp Int :=
  (strIdx [0, 1, 2, 2, 3, 3, 3, 3, 4, 4, 4, 4, 4, 4, 4, 4, 5, 5, 5, 5, 5, 5, 5, 5, 5, 5, 5, 5, 5, 5, 5, 5, 6, 6, 6, 6, 6, 6, 6, 6, 6, 6, 6, 6, 6, 6, 6, 6, 6, 6, 6, 6, 6, 6, 6, 6, 6, 6, 6, 6, 6, 6, 6, 6, 7, 7, 7, 7, 7, 7, 7, 7, 7, 7, 7, 7, 7, 7, 7, 7, 7, 7, 7, 7, 7, 7, 7, 7, 7, 7, 7, 7, 7, 7, 7, 7, 7, 7, 7, 7, 7, 7, 7, 7, 7, 7, 7, 7, 7, 7, 7, 7, 7, 7, 7, 7, 7, 7, 7, 7, 7, 7, 7, 7, 7, 7, 7, 7, 8, 8, 8, 8, 8, 8, 8, 8, 8, 8, 8, 8, 8, 8, 8, 8, 8, 8, 8, 8, 8, 8, 8, 8, 8, 8, 8, 8, 8, 8, 8, 8, 8, 8, 8, 8, 8, 8, 8, 8, 8, 8, 8, 8, 8, 8, 8, 8, 8, 8, 8, 8, 8, 8, 8, 8, 8, 8, 8, 8, 8, 8, 8, 8, 8, 8, 8, 8, 8, 8, 8, 8, 8, 8, 8, 8, 8, 8, 8, 8, 8, 8, 8, 8, 8, 8, 8, 8, 8, 8, 8, 8, 8, 8, 8, 8, 8, 8, 8, 8, 8, 8, 8, 8, 8, 8, 8, 8, 8, 8, 8, 8, 8, 8, 8, 8, 8, 8, 8, 8, 8, 8, 8, 8, 8, 8, 8, 8] (IntKind.wrap .u8 x7)).bind fun x10 => (Comp.pure ((IntKind.wrap .i64 (x8 + (IntKind.wrap .i64 x10))))).bind fun x11 => Comp.pure x11
def math_bits_Len64_j2 (x4 : Int) (x5 : Int) : Comp Int :=
   if (decide (x4 ≥ 256)) = true then
    (  math_bits_Len64_j3 (shrF .u64 x4 8) (IntKind.wrap .i64 (x5 + 8)))
    else
    (math_bits_Len64_j3 x4 x5)
def math_bits_Len64_j1 (x1 : Int) (x2 : Int) : Comp Int :=
   if (decide (x1 ≥ 65536)) = true then
    (  math_bits_Len64_j2 (shrF .u64 x1 16) (IntKind.wrap .i64 (x2 + 16)))
    else
    (math_bits_Len64_j2 x1 x2)
def math_bits_Len64 (x_0 : Int) : Comp Int :=
    if (decide (x_0 ≥ 4294967296)) = true then
    (  math_bits_Len64_j1 (shrF .u64 x_0 32) 32)
    else
    (math_bits_Len64_j1 x_0 0)
def math_bits_Len (x_0 : Int) : Comp Int :=
   (math_bits_Len64 x_0).bind fun x1 => Comp.pure x1
def core_Conflicts_f1_l2 (x_1 : Int) (x_0 : Int) (x_2 : List Bool) (x1 : Int) : Comp (Comp.Step Int (Sum Bool Unit)) :=
   if (decide (x1 < x_1)) = true then
    ( (nonneg x1).bind fun x3 => (Comp.gd ((decide ((andB .i64 (shrF .i64 x_0 x1) 1) = 1)) == true) (nonneg x1) default).bind fun x4 => (Comp.gd ((decide ((andB .i64 (shrF .i64 x_0 x1) 1) = 1)) == true) (idx x_2 (andNotB .i64 x_0 (shlF .i64 1 x1))) default).bind fun x5 => (Comp.pure ((bif (decide ((andB .i64 (shrF .i64 x_0 x1) 1) = 1)) then (!x5) else false))).bind fun x6 => if x6 = true then
    ( Comp.pure (.done (.inl false)))
    else
    ( Comp.pure (.next (IntKind.wrap .i64 (x1 + 1)))))
    else
    (Comp.pure (.done (.inr ())))
def core_Conflicts_f1_j1  : Comp Bool :=
   Comp.pure true
def core_Conflicts_f1 (x_0 : Int) (x_1 : Int) (x_2 : List Bool) : Comp Bool :=
    (Comp.loop (fun s => core_Conflicts_f1_l2 x_1 x_0 x_2 s) 0).bind (fun e => match e with | (.inl x7) => (Comp.pure x7) | (.inr ()) => (core_Conflicts_f1_j1))
def core_Conflicts_f2 (x_0 : Int) (x_1 : List Bool) (x_2 : Int → Comp Bool) : Comp Bool :=
   (idx x_1 x_0).bind fun x1 => (Comp.gd (x1 == true) (x_2 x_0) default).bind fun x2 => Comp.pure (bif x1 then (!x2) else false)
def core_only_j3 (x4 : Int) (x13 : List Int) : Comp (Comp.Step ((List Int) × Int) (List Int)) :=
   Comp.pure (.next (x13, (IntKind.wrap .i64 (x4 + 1))))
def core_only_l2 (x_0 : Int) (x_1 : Int → Comp Bool) (x1 : List Int) (x4 : Int) : Comp (Comp.Step ((List Int) × Int) (List Int)) :=
   if (decide (x4 < x_0)) = true then
    ( (x_1 x4).bind fun x6 => if x6 = true then
    ( (app x1 [x4]).bind fun x9 => core_only_j3 x4 x9)
    else
    (core_only_j3 x4 x1))
    else
    (Comp.pure (.done x1))
def core_only_j1 (x19 : List Int) : Comp (List Int) :=
   Comp.pure x19
def core_only (x_0 : Int) (x_1 : Int → Comp Bool) : Comp (List Int) :=
     (Comp.loop (fun s => core_only_l2 x_0 x_1 s.1 s.2) ([], 0)).bind (fun x18 => core_only_j1 x18)
def core_Conflicts_f3 (x_0 : Int) (x_1 : List Bool) (x_2 : Int → Comp Bool) : Comp Bool :=
   (idx x_1 x_0).bind fun x1 => (Comp.gd ((!x1) == true) (x_2 x_0) default).bind fun x2 => Comp.pure (bif (!x1) then x2 else false)
def core_Conflicts (x_0 : List Bool) : Comp ((List Int) × Int) :=
     if (decide ((x_0.length : Int) > 1024)) = true then
    ( Comp.pure ([], 2))
    else
    ( (Comp.pure ((bif (decide ((x_0.length : Int) = 0)) then true else (decide ((andB .i64 (x_0.length : Int) (IntKind.wrap .i64 ((x_0.length : Int) - 1))) ≠ 0))))).bind fun x3 => if x3 = true then
    ( Comp.pure ([], 4))
    else
    ((math_bits_Len (IntKind.wrap .u64 (x_0.length : Int))).bind fun x4 =>  (core_only (x_0.length : Int) (fun z0 => core_Conflicts_f2 z0 x_0 (fun z0 => core_Conflicts_f1 z0 (IntKind.wrap .i64 (x4 - 1)) x_0))).bind fun x22 => if (decide ((x22.length : Int) > 0)) = true then
    ( Comp.pure ([], 7))
    else
    ( (core_only (x_0.length : Int) (fun z0 => core_Conflicts_f3 z0 x_0 (fun z0 => core_Conflicts_f1 z0 (IntKind.wrap .i64 (x4 - 1)) x_0))).bind fun x24 => Comp.pure (x24, 0))))
def slices_MinFunc_int_int_j4 (x4 : Int) (x9 : Int) : Comp (Comp.Step (Int × Int) Int) :=
   Comp.pure (.next (x9, (IntKind.wrap .i64 (x4 + 1))))
def slices_MinFunc_int_int_l3 (x_0 : List Int) (x_1 : Int → Int → Comp Int) (x3 : Int) (x4 : Int) : Comp (Comp.Step (Int × Int) Int) :=
   if (decide (x4 < (x_0.length : Int))) = true then
    ((idx x_0 x4).bind fun x6 => (x_1 x6 x3).bind fun x7 => if (decide (x7 < 0)) = true then
    ((idx x_0 x4).bind fun x8 => slices_MinFunc_int_int_j4 x4 x8)
    else
    (slices_MinFunc_int_int_j4 x4 x3))
    else
    (Comp.pure (.done x3))
def slices_MinFunc_int_int_j2 (x13 : Int) : Comp Int :=
   Comp.pure x13
def slices_MinFunc_int_int_j1 (x_0 : List Int) (x_1 : Int → Int → Comp Int) : Comp Int :=
  (idx x_0 0).bind fun x2 =>  (Comp.loop (fun s => slices_MinFunc_int_int_l3 x_0 x_1 s.1 s.2) (x2, 1)).bind (fun x12 => slices_MinFunc_int_int_j2 x12)
def slices_MinFunc_int_int (x_0 : List Int) (x_1 : Int → Int → Comp Int) : Comp Int :=
    if (decide ((x_0.length : Int) < 1)) = true then
    Comp.fail
    else
    (slices_MinFunc_int_int_j1 x_0 x_1)
def math_bits_OnesCount64 (x_0 : Int) : Comp Int :=
    (Comp.pure ((IntKind.wrap .u64 ((andB .u64 (shrF .u64 x_0 1) 6148914691236517205) + (andB .u64 x_0 6148914691236517205))))).bind fun x1 =>  (Comp.pure ((IntKind.wrap .u64 ((andB .u64 (shrF .u64 x1 2) 3689348814741910323) + (andB .u64 x1 3689348814741910323))))).bind fun x2 =>  (Comp.pure ((andB .u64 (IntKind.wrap .u64 ((shrF .u64 x2 4) + x2)) 1085102592571150095))).bind fun x3 =>  (Comp.pure ((IntKind.wrap .u64 (x3 + (shrF .u64 x3 8))))).bind fun x4 =>  (Comp.pure ((IntKind.wrap .u64 (x4 + (shrF .u64 x4 16))))).bind fun x5 =>  (Comp.pure ((IntKind.wrap .u64 (x5 + (shrF .u64 x5 32))))).bind fun x6 =>  Comp.pure (andB .i64 (IntKind.wrap .i64 x6) 127)
def core_size (x_0 : Int) : Comp Int :=
   (math_bits_OnesCount64 (IntKind.wrap .u64 x_0)).bind fun x1 => Comp.pure x1
def core_Least_f1 (x_0 : Int) (x_1 : Int) : Comp Int :=
   (core_size x_0).bind fun x1 => (core_size x_1).bind fun x2 => Comp.pure (IntKind.wrap .i64 (x1 - x2))
def core_Least (x_0 : List Int) : Comp (Int × Bool) :=
    if (decide ((x_0.length : Int) = 0)) = true then
    ( Comp.pure (0, false))
    else
    ((slices_MinFunc_int_int x_0 core_Least_f1).bind fun x1 => Comp.pure (x1, true))
def colletlaw32_sanity  : Comp Bool :=
   (core_Minimal [7, 3, 5, 3, 12]).bind fun x1 => (colletref32_Same x1 [3, 5, 12]).bind fun x2 => (Comp.gd (x2 == true) (colletlaw32_hits [3, 5] 3 [1, 6]) default).bind fun x3 => (Comp.gd ((bif x2 then x3 else false) == true) (colletlaw32_hits [0] 3 []) default).bind fun x4 => (Comp.gd ((bif (bif x2 then x3 else false) then x4 else false) == true) (colletlaw32_hits [] 3 [0]) default).bind fun x5 => (Comp.pure ((bif (bif (bif x2 then x3 else false) then x4 else false) then x5 else false))).bind fun x6 => (core_Hitting [8] 3).bind fun x7 => (core_Hitting [] 11).bind fun x8 => (core_Conflicts [true, true, true, false, true, false, false, false]).bind fun x9 => (core_Conflicts [false]).bind fun x12 => (mk 3 false).bind fun x15 => (core_Conflicts x15).bind fun x16 => (core_Conflicts [false, true]).bind fun x17 => (core_Least [7, 6, 3]).bind fun x18 => (core_Least []).bind fun x19 => (Comp.gd ((bif (bif (bif (bif x6 then (decide (x7.2 = 3)) else false) then (decide (x8.2 = 2)) else false) then (decide (x9.2 = 0)) else false) then (decide (x12.2 = 0)) else false) == true) (colletref32_Same x9.1 [3, 5, 6]) default).bind fun x20 => (Comp.gd ((bif (bif (bif (bif (bif x6 then (decide (x7.2 = 3)) else false) then (decide (x8.2 = 2)) else false) then (decide (x9.2 = 0)) else false) then (decide (x12.2 = 0)) else false) then x20 else false) == true) (colletref32_Same x12.1 [0]) default).bind fun x21 => (Comp.pure ((bif (bif (bif (bif (bif (bif (bif (bif (bif (bif (bif x6 then (decide (x7.2 = 3)) else false) then (decide (x8.2 = 2)) else false) then (decide (x9.2 = 0)) else false) then (decide (x12.2 = 0)) else false) then x20 else false) then x21 else false) then (decide (x16.2 = 4)) else false) then (decide (x17.2 = 7)) else false) then x18.2 else false) then (decide (x18.1 = 6)) else false) then (!x19.2) else false))).bind fun x22 => Comp.pure x22
def colletlaw32_cut (x_0 : List Int) : Comp (List Int) :=
   (sub x_0 0 (min (x_0.length : Int) 10)).bind fun x1 => Comp.pure x1
def colletref01_Mod (x_0 : Int) (x_1 : Int) : Comp Int :=
    if (decide (x_1 < 1)) = true then
    ( Comp.pure 0)
    else
    ((rem x_0 x_1).bind fun x1 => (rem (IntKind.wrap .i64 (x1 + x_1)) x_1).bind fun x2 => Comp.pure x2)
def colletref32_Sets_l2 (x_0 : List Int) (x_1 : Int) (x1 : List Int) (x4 : Int) : Comp (Comp.Step ((List Int) × Int) (List Int)) :=
   (Comp.pure ((bif (decide (x4 < (x_0.length : Int))) then (decide (x4 < 8)) else false))).bind fun x6 => if x6 = true then
    ((idx x_0 x4).bind fun x7 => (nonneg x_1).bind fun x8 => (colletref01_Mod x7 (shlF .i64 1 x_1)).bind fun x9 => (app x1 [x9]).bind fun x12 =>  Comp.pure (.next (x12, (IntKind.wrap .i64 (x4 + 1)))))
    else
    (Comp.pure (.done x1))
def colletref32_Sets_j1 (x18 : List Int) : Comp (List Int) :=
   Comp.pure x18
def colletref32_Sets (x_0 : List Int) (x_1 : Int) : Comp (List Int) :=
     (Comp.loop (fun s => colletref32_Sets_l2 x_0 x_1 s.1 s.2) ([], 0)).bind (fun x17 => colletref32_Sets_j1 x17)
def colletref32_has (x_0 : Int) (x_1 : Int) : Comp Bool :=
    Comp.pure (decide ((andB .i64 x_0 x_1) = x_1))
def colletref32_put_l2 (x_0 : List Int) (x_1 : Int) (x1 : Int) : Comp (Comp.Step Int Int) :=
  (Comp.gd ((decide (x1 < (x_0.length : Int))) == true) (idx x_0 x1) default).bind fun x3 => (Comp.pure ((bif (decide (x1 < (x_0.length : Int))) then (decide (x3 < x_1)) else false))).bind fun x4 => if x4 = true then
    ( Comp.pure (.next (IntKind.wrap .i64 (x1 + 1))))
    else
    (Comp.pure (.done x1))
def colletref32_put_j1 (x_0 : List Int) (x_1 : Int) (x7 : Int) : Comp (List Int) :=
  (Comp.gd ((decide (x7 < (x_0.length : Int))) == true) (idx x_0 x7) default).bind fun x9 => (Comp.pure ((bif (decide (x7 < (x_0.length : Int))) then (decide (x9 = x_1)) else false))).bind fun x10 => if x10 = true then
    ( Comp.pure x_0)
    else
    ( (sub x_0 0 x7).bind fun x15 => (app [] x15).bind fun x18 => (app x18 [x_1]).bind fun x24 => (sub x_0 x7 x_0.length).bind fun x28 => (app x24 x28).bind fun x31 => Comp.pure x31)
def colletref32_put (x_0 : List Int) (x_1 : Int) : Comp (List Int) :=
    (Comp.loop (fun s => colletref32_put_l2 x_0 x_1 s) 0).bind (fun x6 => colletref32_put_j1 x_0 x_1 x6)
def colletref32_Minimal_l5 (x_0 : List Int) (x4 : Int) (x6 : Bool) (x7 : Int) : Comp (Comp.Step (Bool × Int) Bool) :=
   if (decide (x7 < (x_0.length : Int))) = true then
    ((Comp.gd (x6 == true) (idx x_0 x7) default).bind fun x9 => (Comp.gd (x6 == true) (idx x_0 x4) default).bind fun x10 => (Comp.gd ((x6 == true) && ((decide (x9 = x10)) == false)) (idx x_0 x4) default).bind fun x11 => (Comp.gd ((x6 == true) && ((decide (x9 = x10)) == false)) (idx x_0 x7) default).bind fun x12 => (Comp.gd ((x6 == true) && ((decide (x9 = x10)) == false)) (colletref32_has x11 x12) default).bind fun x13 => (Comp.pure ((bif x6 then (bif (decide (x9 = x10)) then true else (!x13)) else false))).bind fun x14 =>  Comp.pure (.next (x14, (IntKind.wrap .i64 (x7 + 1)))))
    else
    (Comp.pure (.done x6))
def colletref32_Minimal_j3 (x4 : Int) (x23 : List Int) : Comp (Comp.Step ((List Int) × Int) (List Int)) :=
   Comp.pure (.next (x23, (IntKind.wrap .i64 (x4 + 1))))
def colletref32_Minimal_j4 (x_0 : List Int) (x4 : Int) (x1 : List Int) (x17 : Bool) : Comp (Comp.Step ((List Int) × Int) (List Int)) :=
   if x17 = true then
    ((idx x_0 x4).bind fun x19 => (colletref32_put x1 x19).bind fun x20 => colletref32_Minimal_j3 x4 x20)
    else
    (colletref32_Minimal_j3 x4 x1)
def colletref32_Minimal_l2 (x_0 : List Int) (x1 : List Int) (x4 : Int) : Comp (Comp.Step ((List Int) × Int) (List Int)) :=
   if (decide (x4 < (x_0.length : Int))) = true then
    (  (Comp.loop (fun s => colletref32_Minimal_l5 x_0 x4 s.1 s.2) (true, 0)).bind (fun x16 => colletref32_Minimal_j4 x_0 x4 x1 x16))
    else
    (Comp.pure (.done x1))
def colletref32_Minimal_j1 (x29 : List Int) : Comp (List Int) :=
   Comp.pure x29
def colletref32_Minimal (x_0 : List Int) : Comp (List Int) :=
     (Comp.loop (fun s => colletref32_Minimal_l2 x_0 s.1 s.2) ([], 0)).bind (fun x28 => colletref32_Minimal_j1 x28)
def colletref32_Count_l2 (x_0 : Int) (x1 : Int) (x2 : Int) : Comp (Comp.Step (Int × Int) Int) :=
   if (decide (x2 < 64)) = true then
    ((nonneg x2).bind fun x4 => (Comp.pure ((IntKind.wrap .i64 (x1 + (andB .i64 (shrF .i64 x_0 x2) 1))))).bind fun x5 =>  Comp.pure (.next (x5, (IntKind.wrap .i64 (x2 + 1)))))
    else
    (Comp.pure (.done x1))
def colletref32_Count_j1 (x8 : Int) : Comp Int :=
   Comp.pure x8
def colletref32_Count (x_0 : Int) : Comp Int :=
     (Comp.loop (fun s => colletref32_Count_l2 x_0 s.1 s.2) (0, 0)).bind (fun x7 => colletref32_Count_j1 x7)
def colletref32_Least_j3 (x3 : Int) (x9 : Int) : Comp (Comp.Step (Int × Int) Int) :=
   Comp.pure (.next (x9, (IntKind.wrap .i64 (x3 + 1))))
def colletref32_Least_l2 (x_0 : List Int) (x2 : Int) (x3 : Int) : Comp (Comp.Step (Int × Int) Int) :=
   if (decide (x3 < (x_0.length : Int))) = true then
    ((idx x_0 x3).bind fun x5 => (colletref32_Count x5).bind fun x6 => (colletref32_Count x2).bind fun x7 => if (decide (x6 < x7)) = true then
    ((idx x_0 x3).bind fun x8 => colletref32_Least_j3 x3 x8)
    else
    (colletref32_Least_j3 x3 x2))
    else
    (Comp.pure (.done x2))
def colletref32_Least_j1 (x13 : Int) : Comp (Int × Bool) :=
   Comp.pure (x13, true)
def colletref32_Least (x_0 : List Int) : Comp (Int × Bool) :=
    if (decide ((x_0.length : Int) = 0)) = true then
    ( Comp.pure (0, false))
    else
    ((idx x_0 0).bind fun x1 =>  (Comp.loop (fun s => colletref32_Least_l2 x_0 s.1 s.2) (x1, 0)).bind (fun x12 => colletref32_Least_j1 x12))
def colletref32_meets_l2 (x_1 : List Int) (x_0 : Int) (x1 : Int) : Comp (Comp.Step Int (Sum Bool Unit)) :=
   if (decide (x1 < (x_1.length : Int))) = true then
    ((idx x_1 x1).bind fun x3 => if (decide ((andB .i64 x_0 x3) = 0)) = true then
    ( Comp.pure (.done (.inl false)))
    else
    ( Comp.pure (.next (IntKind.wrap .i64 (x1 + 1)))))
    else
    (Comp.pure (.done (.inr ())))
def colletref32_meets_j1  : Comp Bool :=
   Comp.pure true
def colletref32_meets (x_0 : Int) (x_1 : List Int) : Comp Bool :=
    (Comp.loop (fun s => colletref32_meets_l2 x_1 x_0 s) 0).bind (fun e => match e with | (.inl x4) => (Comp.pure x4) | (.inr ()) => (colletref32_meets_j1))
def colletref32_Hitting_l2 (x_0 : List Int) (x_1 : Int) (x2 : Int) : Comp (Comp.Step Int (Sum ((List Int) × Int) Unit)) :=
   if (decide (x2 < (x_0.length : Int))) = true then
    ((idx x_0 x2).bind fun x4 => (Comp.gd ((decide (x4 < 0)) == false) (idx x_0 x2) default).bind fun x5 => (Comp.gd ((decide (x4 < 0)) == false) (nonneg x_1) default).bind fun x6 => (Comp.pure ((bif (decide (x4 < 0)) then true else (decide (x5 ≥ (shlF .i64 1 x_1)))))).bind fun x7 => if x7 = true then
    ( Comp.pure (.done (.inl ([], 3))))
    else
    ( Comp.pure (.next (IntKind.wrap .i64 (x2 + 1)))))
    else
    (Comp.pure (.done (.inr ())))
def colletref32_Hitting_l7 (x_1 : Int) (x14 : Int) (x_0 : List Int) (x21 : Bool) (x22 : Int) : Comp (Comp.Step (Bool × Int) Bool) :=
   if (decide (x22 < x_1)) = true then
    ((Comp.gd (x21 == true) (nonneg x22) default).bind fun x24 => (Comp.gd ((x21 == true) && ((decide ((andB .i64 (shrF .i64 x14 x22) 1) = 0)) == false)) (nonneg x22) default).bind fun x25 => (Comp.gd ((x21 == true) && ((decide ((andB .i64 (shrF .i64 x14 x22) 1) = 0)) == false)) (colletref32_meets (andNotB .i64 x14 (shlF .i64 1 x22)) x_0) default).bind fun x26 => (Comp.pure ((bif x21 then (bif (decide ((andB .i64 (shrF .i64 x14 x22) 1) = 0)) then true else (!x26)) else false))).bind fun x27 =>  Comp.pure (.next (x27, (IntKind.wrap .i64 (x22 + 1)))))
    else
    (Comp.pure (.done x21))
def colletref32_Hitting_j5 (x14 : Int) (x18 : List Int) : Comp (Comp.Step ((List Int) × Int) (List Int)) :=
   Comp.pure (.next (x18, (IntKind.wrap .i64 (x14 + 1))))
def colletref32_Hitting_j6 (x11 : List Int) (x14 : Int) (x30 : Bool) : Comp (Comp.Step ((List Int) × Int) (List Int)) :=
   if x30 = true then
    ( (app x11 [x14]).bind fun x34 => colletref32_Hitting_j5 x14 x34)
    else
    (colletref32_Hitting_j5 x14 x11)
def colletref32_Hitting_l4 (x_1 : Int) (x_0 : List Int) (x11 : List Int) (x14 : Int) : Comp (Comp.Step ((List Int) × Int) (List Int)) :=
  (nonneg x_1).bind fun x16 => if (decide (x14 < (shlF .i64 1 x_1))) = true then
    ((colletref32_meets x14 x_0).bind fun x17 => if (!x17) = true then
    (colletref32_Hitting_j5 x14 x11)
    else
    (  (Comp.loop (fun s => colletref32_Hitting_l7 x_1 x14 x_0 s.1 s.2) (true, 0)).bind (fun x29 => colletref32_Hitting_j6 x11 x14 x29)))
    else
    (Comp.pure (.done x11))
def colletref32_Hitting_j3 (x41 : List Int) : Comp ((List Int) × Int) :=
   Comp.pure (x41, 0)
def colletref32_Hitting_j1 (x_1 : Int) (x_0 : List Int) : Comp ((List Int) × Int) :=
    (Comp.loop (fun s => colletref32_Hitting_l4 x_1 x_0 s.1 s.2) ([], 0)).bind (fun x40 => colletref32_Hitting_j3 x40)
def colletref32_Hitting (x_0 : List Int) (x_1 : Int) : Comp ((List Int) × Int) :=
    (Comp.pure ((bif (decide (x_1 < 0)) then true else (decide (x_1 > 10))))).bind fun x1 => if x1 = true then
    ( Comp.pure ([], 2))
    else
    ( (Comp.loop (fun s => colletref32_Hitting_l2 x_0 x_1 s) 0).bind (fun e => match e with | (.inl (x8, x9)) => (Comp.pure (x8, x9)) | (.inr ()) => (colletref32_Hitting_j1 x_1 x_0)))
def colletlaw32_CoreSets_j4 (x25 : Int) : Comp (Comp.Step Int (Sum Bool Unit)) :=
   Comp.pure (.next (IntKind.wrap .i64 (x25 + 1)))
def colletlaw32_CoreSets_l3 (x_1 : Int) (x5 : Int) (x2 : (List Int)) (x12 : List Int) (x25 : Int) : Comp (Comp.Step Int (Sum Bool Unit)) :=
   (Comp.pure ((decide (x25 < ([x_1, x5, 10].length : Int))))).bind fun x27 => if x27 = true then
    ((idx [x_1, x5, 10] x25).bind fun x28 =>  (Comp.pure ((bif (decide (x28 = 10)) then (decide ((Int.tmod (x2.length : Int) 4) > 0)) else false))).bind fun x29 => if x29 = true then
    (colletlaw32_CoreSets_j4 x25)
    else
    ((core_Hitting x12 x28).bind fun x30 => (colletref32_Hitting x12 x28).bind fun x33 => (Comp.gd ((decide (x30.2 ≠ x33.2)) == false) (colletref32_Same x30.1 x33.1) default).bind fun x36 => (Comp.pure ((bif (decide (x30.2 ≠ x33.2)) then true else (!x36)))).bind fun x37 => if x37 = true then
    ( Comp.pure (.done (.inl false)))
    else
    (colletlaw32_CoreSets_j4 x25)))
    else
    (Comp.pure (.done (.inr ())))
def colletlaw32_CoreSets_l2 (x2 : (List Int)) (x6 : (List Int)) (x_1 : Int) (x5 : Int) (x9 : Int) : Comp (Comp.Step Int (Sum Bool Unit)) :=
   (Comp.pure ((decide (x9 < ([x2, x6, []].length : Int))))).bind fun x11 => if x11 = true then
    ((idx [x2, x6, []] x9).bind fun x12 => (core_Minimal x12).bind fun x15 => (colletref32_Minimal x12).bind fun x16 => (colletref32_Same x15 x16).bind fun x17 => if (!x17) = true then
    ( Comp.pure (.done (.inl false)))
    else
    ((core_Least x12).bind fun x19 => (colletref32_Least x12).bind fun x20 =>  (Comp.pure ((bif (decide (x19.1 ≠ x20.1)) then true else (decide (x19.2 ≠ x20.2))))).bind fun x21 => if x21 = true then
    ( Comp.pure (.done (.inl false)))
    else
    ( (Comp.loop (fun s => colletlaw32_CoreSets_l3 x_1 x5 x2 x12 s) 0).bind (fun e => match e with | (.inl x38) => (Comp.pure (.done (.inl x38))) | (.inr ()) => ( Comp.pure (.next (IntKind.wrap .i64 (x9 + 1))))))))
    else
    (Comp.pure (.done (.inr ())))
def colletlaw32_CoreSets_j1 (x1 : Bool) : Comp Bool :=
   Comp.pure x1
def colletlaw32_CoreSets (x_0 : List Int) (x_1 : Int) : Comp Bool :=
   (colletlaw32_sanity).bind fun x1 => (colletlaw32_cut x_0).bind fun x2 => (colletref01_Mod x_1 7).bind fun x5 => (colletref32_Sets x2 x5).bind fun x6 => (Comp.loop (fun s => colletlaw32_CoreSets_l2 x2 x6 x_1 x5 s) 0).bind (fun e => match e with | (.inl x18) => (Comp.pure x18) | (.inr ()) => (colletlaw32_CoreSets_j1 x1))
def colletref32_Closed_l3 (x_0 : List Int) (x10 : Int) (x14 : List Bool) (x17 : Int) : Comp (Comp.Step ((List Bool) × Int) (List Bool)) :=
   if (decide (x17 < (x_0.length : Int))) = true then
    ((idx x14 x10).bind fun x19 => (Comp.gd (x19 == false) (idx x_0 x17) default).bind fun x20 => (Comp.gd (x19 == false) (colletref32_has x20 x10) default).bind fun x21 => (idx x14 x10).bind fun x22 => (upd x14 x10 (bif x19 then true else x21)).bind fun x26 =>  Comp.pure (.next (x26, (IntKind.wrap .i64 (x17 + 1)))))
    else
    (Comp.pure (.done x14))
def colletref32_Closed_l2 (x_0 : List Int) (x7 : List Bool) (x10 : Int) : Comp (Comp.Step ((List Bool) × Int) (List Bool)) :=
   if (decide (x10 < (x7.length : Int))) = true then
    ( (Comp.loop (fun s => colletref32_Closed_l3 x_0 x10 s.1 s.2) (x7, 0)).bind (fun x28 =>  Comp.pure (.next (x28, (IntKind.wrap .i64 (x10 + 1))))))
    else
    (Comp.pure (.done x7))
def colletref32_Closed_j1 (x31 : List Bool) : Comp (List Bool) :=
   Comp.pure x31
def colletref32_Closed (x_0 : List Int) (x_1 : Int) : Comp (List Bool) :=
   (nonneg x_1).bind fun x1 => (mk (shlF .i64 1 x_1) false).bind fun x2 =>  (Comp.loop (fun s => colletref32_Closed_l2 x_0 s.1 s.2) (x2, 0)).bind (fun x30 => colletref32_Closed_j1 x30)
def colletref32_Conflicts_l2 (x_0 : List Bool) (x1 : Int) : Comp (Comp.Step Int Int) :=
  (nonneg x1).bind fun x3 => (Comp.pure ((decide ((shlF .i64 1 x1) < (x_0.length : Int))))).bind fun x4 => if x4 = true then
    ( Comp.pure (.next (IntKind.wrap .i64 (x1 + 1))))
    else
    (Comp.pure (.done x1))
def colletref32_Conflicts_l7 (x7 : Int) (x14 : Int) (x_0 : List Bool) (x16 : Bool) (x17 : Int) : Comp (Comp.Step (Bool × Int) Bool) :=
   if (decide (x17 < x7)) = true then
    ((Comp.gd (x16 == true) (nonneg x17) default).bind fun x19 => (Comp.gd ((x16 == true) && ((decide ((andB .i64 (shrF .i64 x14 x17) 1) = 0)) == false)) (nonneg x17) default).bind fun x20 => (Comp.gd ((x16 == true) && ((decide ((andB .i64 (shrF .i64 x14 x17) 1) = 0)) == false)) (idx x_0 (andNotB .i64 x14 (shlF .i64 1 x17))) default).bind fun x21 => (Comp.pure ((bif x16 then (bif (decide ((andB .i64 (shrF .i64 x14 x17) 1) = 0)) then true else x21) else false))).bind fun x22 =>  Comp.pure (.next (x22, (IntKind.wrap .i64 (x17 + 1)))))
    else
    (Comp.pure (.done x16))
def colletref32_Conflicts_j5 (x14 : Int) (x37 : List Int) : Comp (Comp.Step ((List Int) × Int) (Sum ((List Int) × Int) (List Int))) :=
   Comp.pure (.next (x37, (IntKind.wrap .i64 (x14 + 1))))
def colletref32_Conflicts_j6 (x_0 : List Bool) (x14 : Int) (x11 : List Int) (x25 : Bool) : Comp (Comp.Step ((List Int) × Int) (Sum ((List Int) × Int) (List Int))) :=
  (idx x_0 x14).bind fun x27 => if (bif x27 then (!x25) else false) = true then
    ( Comp.pure (.done (.inl ([], 7))))
    else
    ((idx x_0 x14).bind fun x30 => if (bif (!x30) then x25 else false) = true then
    ( (app x11 [x14]).bind fun x33 => colletref32_Conflicts_j5 x14 x33)
    else
    (colletref32_Conflicts_j5 x14 x11))
def colletref32_Conflicts_l4 (x_0 : List Bool) (x7 : Int) (x11 : List Int) (x14 : Int) : Comp (Comp.Step ((List Int) × Int) (Sum ((List Int) × Int) (List Int))) :=
   if (decide (x14 < (x_0.length : Int))) = true then
    (  (Comp.loop (fun s => colletref32_Conflicts_l7 x7 x14 x_0 s.1 s.2) (true, 0)).bind (fun x24 => colletref32_Conflicts_j6 x_0 x14 x11 x24))
    else
    (Comp.pure (.done (.inr x11)))
def colletref32_Conflicts_j3 (x43 : List Int) : Comp ((List Int) × Int) :=
   Comp.pure (x43, 0)
def colletref32_Conflicts_j1 (x_0 : List Bool) (x7 : Int) : Comp ((List Int) × Int) :=
  (nonneg x7).bind fun x9 => (Comp.pure ((decide ((x_0.length : Int) ≠ (shlF .i64 1 x7))))).bind fun x10 => if x10 = true then
    ( Comp.pure ([], 4))
    else
    (  (Comp.loop (fun s => colletref32_Conflicts_l4 x_0 x7 s.1 s.2) ([], 0)).bind (fun e => match e with | (.inl (x28, x29)) => (Comp.pure (x28, x29)) | (.inr x42) => (colletref32_Conflicts_j3 x42)))
def colletref32_Conflicts (x_0 : List Bool) : Comp ((List Int) × Int) :=
    if (decide ((x_0.length : Int) > 1024)) = true then
    ( Comp.pure ([], 2))
    else
    ( (Comp.loop (fun s => colletref32_Conflicts_l2 x_0 s) 0).bind (fun x6 => colletref32_Conflicts_j1 x_0 x6))
def colletlaw32_CoreConflicts_l2 (x33 : Int) (x3 : (List Bool)) (x20 : List Bool) (x21 : List Bool) (x27 : List Bool) (x28 : List Bool) (x29 : List Bool) (x34 : Int) : Comp (Comp.Step Int (Sum Bool Unit)) :=
   if (decide (x34 < x33)) = true then
    ((idx [x3, x20, x21, x27, x28, x29] x34).bind fun x36 => (core_Conflicts x36).bind fun x39 => (colletref32_Conflicts x36).bind fun x42 => (Comp.gd ((decide (x39.2 ≠ x42.2)) == false) (colletref32_Same x39.1 x42.1) default).bind fun x45 => (Comp.pure ((bif (decide (x39.2 ≠ x42.2)) then true else (!x45)))).bind fun x46 => if x46 = true then
    ( Comp.pure (.done (.inl false)))
    else
    ( Comp.pure (.next (IntKind.wrap .i64 (x34 + 1)))))
    else
    (Comp.pure (.done (.inr ())))
def colletlaw32_CoreConflicts_j1 (x1 : Bool) : Comp Bool :=
   Comp.pure x1
def colletlaw32_CoreConflicts (x_0 : List Int) (x_1 : Int) (x_2 : Int) (x_3 : List Bool) : Comp Bool :=
   (colletlaw32_sanity).bind fun x1 =>  (colletref32_Sets x_0 (Int.tmod (IntKind.wrap .i64 x_1) 7)).bind fun x2 => (colletref32_Closed x2 (Int.tmod (IntKind.wrap .i64 x_1) 7)).bind fun x3 =>  (app [] x3).bind fun x10 => (rem (IntKind.wrap .i64 x_2) (x10.length : Int)).bind fun x14 => (idx x10 x14).bind fun x15 => (idx x10 x14).bind fun x16 => (upd x10 x14 (!x15)).bind fun x20 => (sub x_3 0 (min (x_3.length : Int) 70)).bind fun x21 => (app [] x3).bind fun x26 => (app x26 x21).bind fun x27 => (mk 1025 false).bind fun x28 => (sub x3 0 x14).bind fun x29 => (Comp.pure (([x3, x20, x21, x27, x28, x29].length : Int))).bind fun x33 => (Comp.loop (fun s => colletlaw32_CoreConflicts_l2 x33 x3 x20 x21 x27 x28 x29 s) 0).bind (fun e => match e with | (.inl x47) => (Comp.pure x47) | (.inr ()) => (colletlaw32_CoreConflicts_j1 x1))
def colletlaw32_CoreDuality (x_0 : List Int) (x_1 : Int) : Comp Bool :=
   (colletlaw32_sanity).bind fun x1 =>  (colletref32_Sets x_0 (Int.tmod (IntKind.wrap .i64 x_1) 7)).bind fun x2 => (core_Minimal x2).bind fun x5 => (core_Hitting x2 (Int.tmod (IntKind.wrap .i64 x_1) 7)).bind fun x8 => (core_Hitting x8.1 (Int.tmod (IntKind.wrap .i64 x_1) 7)).bind fun x11 => (core_Hitting x5 (Int.tmod (IntKind.wrap .i64 x_1) 7)).bind fun x14 => (Comp.gd ((bif (bif (bif x1 then (decide (x8.2 = 0)) else false) then (decide (x11.2 = 0)) else false) then (decide (x14.2 = 0)) else false) == true) (colletref32_Same x11.1 x5) default).bind fun x17 => (Comp.gd ((bif (bif (bif (bif x1 then (decide (x8.2 = 0)) else false) then (decide (x11.2 = 0)) else false) then (decide (x14.2 = 0)) else false) then x17 else false) == true) (colletref32_Same x14.1 x8.1) default).bind fun x18 => (Comp.gd ((bif (bif (bif (bif (bif x1 then (decide (x8.2 = 0)) else false) then (decide (x11.2 = 0)) else false) then (decide (x14.2 = 0)) else false) then x17 else false) then x18 else false) == true) (core_Minimal x8.1) default).bind fun x19 => (Comp.gd ((bif (bif (bif (bif (bif x1 then (decide (x8.2 = 0)) else false) then (decide (x11.2 = 0)) else false) then (decide (x14.2 = 0)) else false) then x17 else false) then x18 else false) == true) (colletref32_Same x19 x8.1) default).bind fun x20 => (Comp.gd ((bif (bif (bif (bif (bif (bif x1 then (decide (x8.2 = 0)) else false) then (decide (x11.2 = 0)) else false) then (decide (x14.2 = 0)) else false) then x17 else false) then x18 else false) then x20 else false) == true) (core_Minimal x5) default).bind fun x21 => (Comp.gd ((bif (bif (bif (bif (bif (bif x1 then (decide (x8.2 = 0)) else false) then (decide (x11.2 = 0)) else false) then (decide (x14.2 = 0)) else false) then x17 else false) then x18 else false) then x20 else false) == true) (colletref32_Same x21 x5) default).bind fun x22 => (Comp.pure ((bif (bif (bif (bif (bif (bif (bif x1 then (decide (x8.2 = 0)) else false) then (decide (x11.2 = 0)) else false) then (decide (x14.2 = 0)) else false) then x17 else false) then x18 else false) then x20 else false) then x22 else false))).bind fun x23 => Comp.pure x23
def colletlaw32_CoreHits_f1_l2 (x_1 : List Int) (x_0 : Int) (x3 : Int) : Comp (Comp.Step Int (Sum Bool Unit)) :=
   if (decide (x3 < (x_1.length : Int))) = true then
    ((idx x_1 x3).bind fun x5 =>  if (decide ((andB .i64 x_0 x5) = 0)) = true then
    ( Comp.pure (.done (.inl false)))
    else
    ( Comp.pure (.next (IntKind.wrap .i64 (x3 + 1)))))
    else
    (Comp.pure (.done (.inr ())))
def colletlaw32_CoreHits_f1_j1  : Comp Bool :=
   Comp.pure true
def colletlaw32_CoreHits_f1 (x_0 : Int) (x_1 : List Int) : Comp Bool :=
    (Comp.loop (fun s => colletlaw32_CoreHits_f1_l2 x_1 x_0 s) 0).bind (fun e => match e with | (.inl x6) => (Comp.pure x6) | (.inr ()) => (colletlaw32_CoreHits_f1_j1))
def colletlaw32_CoreHits_l3 (x_1 : Int) (x22 : Int) (x2 : (List Int)) (x29 : Int) : Comp (Comp.Step Int (Sum Bool Unit)) :=
   (Comp.pure ((decide (x29 < (Int.tmod (IntKind.wrap .i64 x_1) 7))))).bind fun x31 => if x31 = true then
    ( (nonneg x29).bind fun x32 => (Comp.gd ((decide ((andB .i64 (shrF .i64 x22 x29) 1) = 1)) == true) (nonneg x29) default).bind fun x33 => (Comp.gd ((decide ((andB .i64 (shrF .i64 x22 x29) 1) = 1)) == true) ((fun z0 => colletlaw32_CoreHits_f1 z0 x2) (andNotB .i64 x22 (shlF .i64 1 x29))) default).bind fun x34 => (Comp.pure ((bif (decide ((andB .i64 (shrF .i64 x22 x29) 1) = 1)) then x34 else false))).bind fun x35 => if x35 = true then
    ( Comp.pure (.done (.inl false)))
    else
    ( Comp.pure (.next (IntKind.wrap .i64 (x29 + 1)))))
    else
    (Comp.pure (.done (.inr ())))
def colletlaw32_CoreHits_l2 (x11 : ((List Int) × Int)) (x18 : Int) (x2 : (List Int)) (x_1 : Int) (x19 : Bool) (x20 : Int) : Comp (Comp.Step (Bool × Int) (Sum Bool Bool)) :=
   if (decide (x20 < (x11.1.length : Int))) = true then
    ((idx x11.1 x20).bind fun x22 =>  (Comp.pure ((bif x19 then true else (decide ((andB .i64 x18 x22) = x22))))).bind fun x23 => ((fun z0 => colletlaw32_CoreHits_f1 z0 x2) x22).bind fun x24 => (Comp.gd ((bif (!x24) then true else (decide (x22 < 0))) == false) (nonneg (Int.tmod (IntKind.wrap .i64 x_1) 7)) default).bind fun x25 => (Comp.gd (((bif (bif (!x24) then true else (decide (x22 < 0))) then true else (decide (x22 ≥ (shlF .i64 1 (Int.tmod (IntKind.wrap .i64 x_1) 7))))) == false) && ((decide (x20 > 0)) == true)) (idx x11.1 (IntKind.wrap .i64 (x20 - 1))) default).bind fun x26 => (Comp.pure ((bif (bif (bif (!x24) then true else (decide (x22 < 0))) then true else (decide (x22 ≥ (shlF .i64 1 (Int.tmod (IntKind.wrap .i64 x_1) 7))))) then true else (bif (decide (x20 > 0)) then (decide (x22 ≤ x26)) else false)))).bind fun x27 => if x27 = true then
    ( Comp.pure (.done (.inl false)))
    else
    ( (Comp.loop (fun s => colletlaw32_CoreHits_l3 x_1 x22 x2 s) 0).bind (fun e => match e with | (.inl x36) => (Comp.pure (.done (.inl x36))) | (.inr ()) => ( Comp.pure (.next (x23, (IntKind.wrap .i64 (x20 + 1))))))))
    else
    (Comp.pure (.done (.inr x19)))
def colletlaw32_CoreHits_j1 (x1 : Bool) (x2 : (List Int)) (x18 : Int) (x39 : Bool) : Comp Bool :=
  (Comp.gd (x1 == true) ((fun z0 => colletlaw32_CoreHits_f1 z0 x2) x18) default).bind fun x41 => (Comp.pure ((bif x1 then (decide (x39 = x41)) else false))).bind fun x42 => Comp.pure x42
def colletlaw32_CoreHits (x_0 : List Int) (x_1 : Int) (x_2 : Int) : Comp Bool :=
   (colletlaw32_sanity).bind fun x1 =>  (colletref32_Sets x_0 (Int.tmod (IntKind.wrap .i64 x_1) 7)).bind fun x2 => (core_Hitting x2 (Int.tmod (IntKind.wrap .i64 x_1) 7)).bind fun x11 =>  if (decide (x11.2 ≠ 0)) = true then
    ( Comp.pure false)
    else
    ( (nonneg (Int.tmod (IntKind.wrap .i64 x_1) 7)).bind fun x17 => (rem (IntKind.wrap .i64 x_2) (shlF .i64 1 (Int.tmod (IntKind.wrap .i64 x_1) 7))).bind fun x18 =>   (Comp.loop (fun s => colletlaw32_CoreHits_l2 x11 x18 x2 x_1 s.1 s.2) (false, 0)).bind (fun e => match e with | (.inl x28) => (Comp.pure x28) | (.inr x38) => (colletlaw32_CoreHits_j1 x1 x2 x18 x38)))
def colletlaw32_CoreRefuses_l3 (x_1 : Int) (x14 : Int) (x3 : (List Bool)) (x19 : Int) : Comp (Comp.Step Int (Sum Bool Unit)) :=
   (Comp.pure ((decide (x19 < (Int.tmod (IntKind.wrap .i64 x_1) 7))))).bind fun x21 => if x21 = true then
    ( (nonneg x19).bind fun x22 => (Comp.gd ((decide ((andB .i64 (shrF .i64 x14 x19) 1) = 1)) == true) (nonneg x19) default).bind fun x23 => (Comp.gd ((decide ((andB .i64 (shrF .i64 x14 x19) 1) = 1)) == true) (idx x3 (andNotB .i64 x14 (shlF .i64 1 x19))) default).bind fun x24 => (Comp.pure ((bif (decide ((andB .i64 (shrF .i64 x14 x19) 1) = 1)) then (!x24) else false))).bind fun x25 => if x25 = true then
    ( Comp.pure (.done (.inl false)))
    else
    ( Comp.pure (.next (IntKind.wrap .i64 (x19 + 1)))))
    else
    (Comp.pure (.done (.inr ())))
def colletlaw32_CoreRefuses_l2 (x6 : ((List Int) × Int)) (x10 : Int) (x3 : (List Bool)) (x_1 : Int) (x11 : Bool) (x12 : Int) : Comp (Comp.Step (Bool × Int) (Sum Bool Bool)) :=
   if (decide (x12 < (x6.1.length : Int))) = true then
    ((idx x6.1 x12).bind fun x14 =>  (Comp.pure ((bif x11 then true else (decide ((andB .i64 x10 x14) = x14))))).bind fun x15 => (Comp.gd ((bif (decide (x14 < 0)) then true else (decide (x14 ≥ (x3.length : Int)))) == false) (idx x3 x14) default).bind fun x16 => (Comp.pure ((bif (bif (decide (x14 < 0)) then true else (decide (x14 ≥ (x3.length : Int)))) then true else x16))).bind fun x17 => if x17 = true then
    ( Comp.pure (.done (.inl false)))
    else
    ( (Comp.loop (fun s => colletlaw32_CoreRefuses_l3 x_1 x14 x3 s) 0).bind (fun e => match e with | (.inl x26) => (Comp.pure (.done (.inl x26))) | (.inr ()) => ( Comp.pure (.next (x15, (IntKind.wrap .i64 (x12 + 1))))))))
    else
    (Comp.pure (.done (.inr x11)))
def colletlaw32_CoreRefuses_l5 (x31 : ((List Int) × Int)) (x_1 : Int) (x10 : Int) (x36 : Bool) (x37 : Int) : Comp (Comp.Step (Bool × Int) Bool) :=
   if (decide (x37 < (x31.1.length : Int))) = true then
    ((idx x31.1 x37).bind fun x39 => (Comp.gd (x36 == false) (nonneg (Int.tmod (IntKind.wrap .i64 x_1) 7)) default).bind fun x40 => (Comp.pure ((bif x36 then true else (decide ((IntKind.wrap .i64 ((IntKind.wrap .i64 ((shlF .i64 1 (Int.tmod (IntKind.wrap .i64 x_1) 7)) - 1)) - x39)) = x10))))).bind fun x41 =>  Comp.pure (.next (x41, (IntKind.wrap .i64 (x37 + 1)))))
    else
    (Comp.pure (.done x36))
def colletlaw32_CoreRefuses_l7 (x_1 : Int) (x10 : Int) (x3 : (List Bool)) (x47 : Bool) (x48 : Int) : Comp (Comp.Step (Bool × Int) Bool) :=
   (Comp.pure ((decide (x48 < (Int.tmod (IntKind.wrap .i64 x_1) 7))))).bind fun x50 => if x50 = true then
    ( (Comp.gd (x47 == true) (nonneg x48) default).bind fun x51 => (Comp.gd ((x47 == true) && ((decide ((andB .i64 (shrF .i64 x10 x48) 1) = 1)) == false)) (nonneg x48) default).bind fun x52 => (Comp.gd ((x47 == true) && ((decide ((andB .i64 (shrF .i64 x10 x48) 1) = 1)) == false)) (idx x3 (orB .i64 x10 (shlF .i64 1 x48))) default).bind fun x53 => (Comp.pure ((bif x47 then (bif (decide ((andB .i64 (shrF .i64 x10 x48) 1) = 1)) then true else (!x53)) else false))).bind fun x54 =>  Comp.pure (.next (x54, (IntKind.wrap .i64 (x48 + 1)))))
    else
    (Comp.pure (.done x47))
def colletlaw32_CoreRefuses_j6 (x1 : Bool) (x44 : Bool) (x57 : Bool) : Comp Bool :=
   (Comp.pure ((bif x1 then (decide (x44 = x57)) else false))).bind fun x59 => Comp.pure x59
def colletlaw32_CoreRefuses_j4 (x3 : (List Bool)) (x10 : Int) (x_1 : Int) (x1 : Bool) (x44 : Bool) : Comp Bool :=
  (idx x3 x10).bind fun x46 =>  (Comp.loop (fun s => colletlaw32_CoreRefuses_l7 x_1 x10 x3 s.1 s.2) (x46, 0)).bind (fun x56 => colletlaw32_CoreRefuses_j6 x1 x44 x56)
def colletlaw32_CoreRefuses_j1 (x6 : ((List Int) × Int)) (x_1 : Int) (x3 : (List Bool)) (x10 : Int) (x1 : Bool) (x29 : Bool) : Comp Bool :=
  (core_Hitting x6.1 (Int.tmod (IntKind.wrap .i64 x_1) 7)).bind fun x31 => (Comp.gd ((decide (x31.2 ≠ 0)) == false) (idx x3 x10) default).bind fun x34 => (Comp.pure ((bif (decide (x31.2 ≠ 0)) then true else (decide (x29 = x34))))).bind fun x35 => if x35 = true then
    ( Comp.pure false)
    else
    (  (Comp.loop (fun s => colletlaw32_CoreRefuses_l5 x31 x_1 x10 s.1 s.2) (false, 0)).bind (fun x43 => colletlaw32_CoreRefuses_j4 x3 x10 x_1 x1 x43))
def colletlaw32_CoreRefuses (x_0 : List Int) (x_1 : Int) (x_2 : Int) : Comp Bool :=
   (colletlaw32_sanity).bind fun x1 =>  (colletref32_Sets x_0 (Int.tmod (IntKind.wrap .i64 x_1) 7)).bind fun x2 => (colletref32_Closed x2 (Int.tmod (IntKind.wrap .i64 x_1) 7)).bind fun x3 => (core_Conflicts x3).bind fun x6 =>  if (decide (x6.2 ≠ 0)) = true then
    ( Comp.pure false)
    else
    ((nonneg (Int.tmod (IntKind.wrap .i64 x_1) 7)).bind fun x9 => (rem (IntKind.wrap .i64 x_2) (shlF .i64 1 (Int.tmod (IntKind.wrap .i64 x_1) 7))).bind fun x10 =>   (Comp.loop (fun s => colletlaw32_CoreRefuses_l2 x6 x10 x3 x_1 s.1 s.2) (false, 0)).bind (fun e => match e with | (.inl x18) => (Comp.pure x18) | (.inr x28) => (colletlaw32_CoreRefuses_j1 x6 x_1 x3 x10 x1 x28)))
def colletlaw32_CoreLeasts_f1_l2 (x1 : Int) (x2 : Int) : Comp (Comp.Step (Int × Int) Int) :=
   if (decide (x1 ≠ 0)) = true then
    (  (Comp.pure ((andB .i64 x1 (IntKind.wrap .i64 (x1 - 1))))).bind fun x4 => Comp.pure (.next (x4, (IntKind.wrap .i64 (x2 + 1)))))
    else
    (Comp.pure (.done x2))
def colletlaw32_CoreLeasts_f1_j1 (x7 : Int) : Comp Int :=
   Comp.pure x7
def colletlaw32_CoreLeasts_f1 (x_0 : Int) : Comp Int :=
    (Comp.loop (fun s => colletlaw32_CoreLeasts_f1_l2 s.1 s.2) (x_0, 0)).bind (fun x6 => colletlaw32_CoreLeasts_f1_j1 x6)
def colletlaw32_CoreLeasts_l2 (x2 : (List Int)) (x5 : (Int × Bool)) (x9 : Bool) (x10 : Int) : Comp (Comp.Step (Bool × Int) (Sum Bool Bool)) :=
   if (decide (x10 < (x2.length : Int))) = true then
    ((idx x2 x10).bind fun x12 => (colletlaw32_CoreLeasts_f1 x12).bind fun x13 => (colletlaw32_CoreLeasts_f1 x5.1).bind fun x14 => (Comp.gd (((decide (x13 < x14)) == false) && ((bif (!x9) then (decide (x12 ≠ x5.1)) else false) == true)) (colletlaw32_CoreLeasts_f1 x12) default).bind fun x15 => (Comp.gd (((decide (x13 < x14)) == false) && ((bif (!x9) then (decide (x12 ≠ x5.1)) else false) == true)) (colletlaw32_CoreLeasts_f1 x5.1) default).bind fun x16 => (Comp.pure ((bif (decide (x13 < x14)) then true else (bif (bif (!x9) then (decide (x12 ≠ x5.1)) else false) then (decide (x15 = x16)) else false)))).bind fun x17 => if x17 = true then
    ( Comp.pure (.done (.inl false)))
    else
    ( (Comp.pure ((bif x9 then true else (decide (x12 = x5.1))))).bind fun x19 =>  Comp.pure (.next (x19, (IntKind.wrap .i64 (x10 + 1))))))
    else
    (Comp.pure (.done (.inr x9)))
def colletlaw32_CoreLeasts_l4 (x24 : (List Int)) (x5 : (Int × Bool)) (x27 : Bool) (x28 : Int) : Comp (Comp.Step (Bool × Int) Bool) :=
   if (decide (x28 < (x24.length : Int))) = true then
    ((idx x24 x28).bind fun x30 =>  (Comp.pure ((bif x27 then true else (decide (x30 = x5.1))))).bind fun x31 =>  Comp.pure (.next (x31, (IntKind.wrap .i64 (x28 + 1)))))
    else
    (Comp.pure (.done x27))
def colletlaw32_CoreLeasts_j3 (x1 : Bool) (x22 : Bool) (x34 : Bool) : Comp Bool :=
   (Comp.pure ((bif (bif x1 then x22 else false) then x34 else false))).bind fun x36 => Comp.pure x36
def colletlaw32_CoreLeasts_j1 (x2 : (List Int)) (x5 : (Int × Bool)) (x1 : Bool) (x22 : Bool) : Comp Bool :=
   (core_Minimal x2).bind fun x24 => (Comp.loop (fun s => colletlaw32_CoreLeasts_l4 x24 x5 s.1 s.2) (false, 0)).bind (fun x33 => colletlaw32_CoreLeasts_j3 x1 x22 x33)
def colletlaw32_CoreLeasts (x_0 : List Int) : Comp Bool :=
   (colletlaw32_sanity).bind fun x1 => (colletlaw32_cut x_0).bind fun x2 => (core_Least x2).bind fun x5 =>  (Comp.pure ((decide (x5.2 ≠ (decide ((x2.length : Int) > 0)))))).bind fun x6 => if x6 = true then
    ( Comp.pure false)
    else
    ( if (!x5.2) = true then
    ( (Comp.pure ((bif x1 then (decide (x5.1 = 0)) else false))).bind fun x7 => Comp.pure x7)
    else
    (   (Comp.loop (fun s => colletlaw32_CoreLeasts_l2 x2 x5 s.1 s.2) (false, 0)).bind (fun e => match e with | (.inl x18) => (Comp.pure x18) | (.inr x21) => (colletlaw32_CoreLeasts_j1 x2 x5 x1 x21))))
end Go.F
