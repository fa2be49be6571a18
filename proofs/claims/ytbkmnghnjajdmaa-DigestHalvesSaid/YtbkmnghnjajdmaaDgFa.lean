/- The program's functions as plain functions (printed by wip/lift). No statement of the program stands here. -/
import Derived.Test.YtbkmnghnjajdmaaDgc
namespace Go.F
open Go Go.Lift
set_option linter.unusedVariables false
structure colletlaw02_Change where
  At : Int
  Byte : Int
  Tail : Bytes
  deriving DecidableEq
instance : Inhabited colletlaw02_Change := ⟨⟨default, default, default⟩⟩
def digest_of_l3 (x10 : Bytes) (x13 : Int) (x14 : Int) (x15 : Int) : Comp (Comp.Step (Int × Int × Int) (Int × Int)) :=
   (Comp.pure ((decide (x15 < ((ofStr x10).length : Int))))).bind fun x17 => if x17 = true then
    ((idx (ofStr x10) x15).bind fun x18 =>  (Comp.pure ((Int.tmod (IntKind.wrap .u64 ((IntKind.wrap .u64 ((IntKind.wrap .u64 (48271 * x13)) + (IntKind.wrap .u64 x18))) + 1)) 2147483629))).bind fun x19 =>  (Comp.pure ((Int.tmod (IntKind.wrap .u64 ((IntKind.wrap .u64 ((IntKind.wrap .u64 (69621 * x14)) + (IntKind.wrap .u64 x18))) + 1)) 2147483587))).bind fun x20 =>  Comp.pure (.next (x19, x20, (IntKind.wrap .i64 (x15 + 1)))))
    else
    (Comp.pure (.done (x13, x14)))
def digest_of_l2 (x_0 : List Bytes) (x6 : Int) (x7 : Int) (x8 : Int) : Comp (Comp.Step (Int × Int × Int) (Int × Int)) :=
   if (decide (x8 < (x_0.length : Int))) = true then
    ((idx x_0 x8).bind fun x10 =>  (Comp.loop (fun s => digest_of_l3 x10 s.1 s.2.1 s.2.2) (x6, x7, 0)).bind (fun (x23, x24) =>  Comp.pure (.next (x23, x24, (IntKind.wrap .i64 (x8 + 1))))))
    else
    (Comp.pure (.done (x6, x7)))
def digest_of_l5 (x29 : Int) (x30 : Int) (x37 : Int) (x38 : Vector Int 8) : Comp (Comp.Step (Int × (Vector Int 8)) (Vector Int 8)) :=
   if (decide (x37 < 4)) = true then
    ( (nonneg (IntKind.wrap .i64 (24 - (IntKind.wrap .i64 (8 * x37))))).bind fun x40 => (nonneg (IntKind.wrap .i64 (24 - (IntKind.wrap .i64 (8 * x37))))).bind fun x41 => (idx x38.toList x37).bind fun x42 => (vupd x38 x37 (IntKind.wrap .u8 (shrF .u64 x29 (IntKind.wrap .i64 (24 - (IntKind.wrap .i64 (8 * x37))))))).bind fun x43 => (idx x43.toList (IntKind.wrap .i64 (4 + x37))).bind fun x44 => (vupd x43 (IntKind.wrap .i64 (4 + x37)) (IntKind.wrap .u8 (shrF .u64 x30 (IntKind.wrap .i64 (24 - (IntKind.wrap .i64 (8 * x37))))))).bind fun x45 =>  Comp.pure (.next ((IntKind.wrap .i64 (x37 + 1)), x45)))
    else
    (Comp.pure (.done x38))
def digest_of_j4 (x49 : Vector Int 8) : Comp (Vector Int 8) :=
   Comp.pure x49
def digest_of_j1 (x29 : Int) (x30 : Int) : Comp (Vector Int 8) :=
    (Comp.loop (fun s => digest_of_l5 x29 x30 s.1 s.2) (0, (Vector.replicate 8 0))).bind (fun x48 => digest_of_j4 x48)
def digest_of (x_0 : List Bytes) : Comp (Vector Int 8) :=
     (Comp.loop (fun s => digest_of_l2 x_0 s.1 s.2.1 s.2.2) (17, 29, 0)).bind (fun (x27, x28) => digest_of_j1 x27 x28)
def strings_Clone (x_0 : Bytes) : Comp Bytes :=
   (cloneS x_0).bind fun x1 => Comp.pure x1
def digest_digest_text (x_0 : Vector Int 8) : Comp Bytes :=
   (toStr x_0.toList).bind fun x3 => (strings_Clone x3).bind fun x4 => Comp.pure x4
def digest_Of (x_0 : Bytes) : Comp Bytes :=
   (digest_of [x_0]).bind fun x1 => (digest_digest_text x1).bind fun x2 => Comp.pure x2
def digest_length (x_0 : Bytes) : Comp Bytes :=
    (toStr [(IntKind.wrap .u8 (x_0.length : Int)), (IntKind.wrap .u8 (shrF .i64 (x_0.length : Int) 8)), (IntKind.wrap .u8 (shrF .i64 (x_0.length : Int) 16)), (IntKind.wrap .u8 (shrF .i64 (x_0.length : Int) 24))]).bind fun x1 => Comp.pure x1
def digest_marked (x_0 : Bytes) (x_1 : Bytes) : Comp (Vector Int 8) :=
   (digest_length x_0).bind fun x6 => (digest_length x_1).bind fun x7 => (digest_of [[5], x6, x_0, x7, x_1, x_0]).bind fun x8 => Comp.pure x8
def digest_Mark (x_0 : Bytes) (x_1 : Bytes) : Comp Bytes :=
   (digest_marked x_0 x_1).bind fun x1 => (digest_digest_text x1).bind fun x2 => Comp.pure x2
def digest_Chain (x_0 : Bytes) (x_1 : Bytes) : Comp Bytes :=
   (digest_length x_0).bind fun x1 => (digest_of [[4], x1, x_0, x_1]).bind fun x2 => (digest_digest_text x2).bind fun x3 => Comp.pure x3
def digest_Check (x_0 : Bytes) (x_1 : Bytes) (x_2 : Bytes) : Comp Bool :=
   (Comp.gd ((bif (decide (x_0 ≠ ([] : Bytes))) then (decide ((x_2.length : Int) = 8)) else false) == true) (toVec 8 (ofStr x_2)) default).bind fun x1 => (Comp.gd ((bif (decide (x_0 ≠ ([] : Bytes))) then (decide ((x_2.length : Int) = 8)) else false) == true) (digest_marked x_0 x_1) default).bind fun x2 => (Comp.pure ((bif (bif (decide (x_0 ≠ ([] : Bytes))) then (decide ((x_2.length : Int) = 8)) else false) then (decide (x1 = x2)) else false))).bind fun x3 => Comp.pure x3
def digest_Leaf (x_0 : Bytes) : Comp Bytes :=
   (digest_of [[1], x_0]).bind fun x1 => (digest_digest_text x1).bind fun x2 => Comp.pure x2
def digest_Inner (x_0 : Bytes) (x_1 : Bytes) : Comp Bytes :=
   (digest_of [[2], x_0, x_1]).bind fun x1 => (digest_digest_text x1).bind fun x2 => Comp.pure x2
def digest_Missing  : Comp Bytes :=
   (digest_of [[3]]).bind fun x1 => (digest_digest_text x1).bind fun x2 => Comp.pure x2
def colletlaw02_sanity  : Comp Bool :=
   (digest_Of [1, 97]).bind fun x1 => (digest_Of [1, 98]).bind fun x2 => (digest_Of [1, 99]).bind fun x3 => (digest_Of [3]).bind fun x4 => (digest_Mark [107] [109]).bind fun x5 => (digest_Of ([] : Bytes)).bind fun x6 => (Comp.gd ((decide (x6 = [0, 0, 0, 17, 0, 0, 0, 29])) == true) (digest_Of [0]) default).bind fun x7 => (Comp.gd ((bif (decide (x6 = [0, 0, 0, 17, 0, 0, 0, 29])) then (decide (x7 = [0, 12, 133, 128, 0, 30, 206, 194])) else false) == true) (digest_Chain ([] : Bytes) ([] : Bytes)) default).bind fun x8 => (Comp.gd ((bif (decide (x6 = [0, 0, 0, 17, 0, 0, 0, 29])) then (decide (x7 = [0, 12, 133, 128, 0, 30, 206, 194])) else false) == true) (digest_Of [4, 0, 0, 0, 0]) default).bind fun x9 => (Comp.pure ((bif (bif (decide (x6 = [0, 0, 0, 17, 0, 0, 0, 29])) then (decide (x7 = [0, 12, 133, 128, 0, 30, 206, 194])) else false) then (decide (x8 = x9)) else false))).bind fun x10 => (digest_Of [5, 1, 0, 0, 0, 107, 1, 0, 0, 0, 109, 107]).bind fun x11 => (Comp.gd ((decide (x5 = x11)) == true) (digest_Check [107] [109] x5) default).bind fun x12 => (Comp.gd ((bif (decide (x5 = x11)) then x12 else false) == true) (digest_Mark ([] : Bytes) [109]) default).bind fun x13 => (Comp.gd ((bif (decide (x5 = x11)) then x12 else false) == true) (digest_Check ([] : Bytes) [109] x13) default).bind fun x14 => (Comp.pure ((bif (bif (decide (x5 = x11)) then x12 else false) then (!x14) else false))).bind fun x15 => (digest_Leaf [97]).bind fun x16 => (Comp.gd ((decide (x16 = x1)) == true) (digest_Inner [97] [98]) default).bind fun x17 => (Comp.gd ((decide (x16 = x1)) == true) (digest_Of [2, 97, 98]) default).bind fun x18 => (Comp.gd ((bif (decide (x16 = x1)) then (decide (x17 = x18)) else false) == true) (digest_Missing) default).bind fun x19 => (Comp.gd ((bif (bif (decide (x16 = x1)) then (decide (x17 = x18)) else false) then (decide (x19 = x4)) else false) == true) (rootC []) default).bind fun x20 => (Comp.gd ((bif (bif (bif (decide (x16 = x1)) then (decide (x17 = x18)) else false) then (decide (x19 = x4)) else false) then (decide (x20 = x4)) else false) == true) (rootC [[97]]) default).bind fun x21 => (Comp.pure ((bif (bif (bif (bif (decide (x16 = x1)) then (decide (x17 = x18)) else false) then (decide (x19 = x4)) else false) then (decide (x20 = x4)) else false) then (decide (x21 = x1)) else false))).bind fun x22 => (Comp.gd ((bif (bif x10 then x15 else false) then x22 else false) == true) (rootC [[97], [98], [99]]) default).bind fun x23 => (Comp.gd ((bif (bif x10 then x15 else false) then x22 else false) == true) (cat [2] x1) default).bind fun x24 => (Comp.gd ((bif (bif x10 then x15 else false) then x22 else false) == true) (cat x24 x2) default).bind fun x25 => (Comp.gd ((bif (bif x10 then x15 else false) then x22 else false) == true) (digest_Of x25) default).bind fun x26 => (Comp.gd ((bif (bif x10 then x15 else false) then x22 else false) == true) (cat [2] x26) default).bind fun x27 => (Comp.gd ((bif (bif x10 then x15 else false) then x22 else false) == true) (cat [2] x3) default).bind fun x28 => (Comp.gd ((bif (bif x10 then x15 else false) then x22 else false) == true) (cat x28 x4) default).bind fun x29 => (Comp.gd ((bif (bif x10 then x15 else false) then x22 else false) == true) (digest_Of x29) default).bind fun x30 => (Comp.gd ((bif (bif x10 then x15 else false) then x22 else false) == true) (cat x27 x30) default).bind fun x31 => (Comp.gd ((bif (bif x10 then x15 else false) then x22 else false) == true) (digest_Of x31) default).bind fun x32 => (Comp.pure ((bif (bif (bif x10 then x15 else false) then x22 else false) then (decide (x23 = x32)) else false))).bind fun x33 => Comp.pure x33
def colletlaw02_short (x_0 : Bytes) : Comp Bytes :=
   (sub x_0 0 (min (x_0.length : Int) 60)).bind fun x1 => Comp.pure x1
def colletref02_least4 (x_0 : Int) : Comp Bytes :=
   (toStr [(IntKind.wrap .u8 x_0), (IntKind.wrap .u8 (shrF .i64 x_0 8)), (IntKind.wrap .u8 (shrF .i64 x_0 16)), (IntKind.wrap .u8 (shrF .i64 x_0 24))]).bind fun x1 => Comp.pure x1
def colletref02_most4 (x_0 : Int) : Comp Bytes :=
   (toStr [(IntKind.wrap .u8 (shrF .i64 x_0 24)), (IntKind.wrap .u8 (shrF .i64 x_0 16)), (IntKind.wrap .u8 (shrF .i64 x_0 8)), (IntKind.wrap .u8 x_0)]).bind fun x1 => Comp.pure x1
def colletref02_Of_l2 (x_0 : Bytes) (x1 : Int) (x2 : Int) (x3 : Int) : Comp (Comp.Step (Int × Int × Int) (Int × Int)) :=
   if (decide (x3 < (x_0.length : Int))) = true then
    ((strIdx x_0 x3).bind fun x5 => (Comp.pure ((Int.tmod (IntKind.wrap .i64 ((IntKind.wrap .i64 ((IntKind.wrap .i64 (48271 * x1)) + (IntKind.wrap .i64 x5))) + 1)) 2147483629))).bind fun x6 => (strIdx x_0 x3).bind fun x7 => (Comp.pure ((Int.tmod (IntKind.wrap .i64 ((IntKind.wrap .i64 ((IntKind.wrap .i64 (69621 * x2)) + (IntKind.wrap .i64 x7))) + 1)) 2147483587))).bind fun x8 =>  Comp.pure (.next (x6, x8, (IntKind.wrap .i64 (x3 + 1)))))
    else
    (Comp.pure (.done (x1, x2)))
def colletref02_Of_j1 (x13 : Int) (x14 : Int) : Comp Bytes :=
  (colletref02_most4 x13).bind fun x16 => (colletref02_most4 x14).bind fun x17 => (cat x16 x17).bind fun x18 => Comp.pure x18
def colletref02_Of (x_0 : Bytes) : Comp Bytes :=
      (Comp.loop (fun s => colletref02_Of_l2 x_0 s.1 s.2.1 s.2.2) (17, 29, 0)).bind (fun (x11, x12) => colletref02_Of_j1 x11 x12)
def colletref02_Mark (x_0 : Bytes) (x_1 : Bytes) : Comp Bytes :=
   (colletref02_least4 (x_0.length : Int)).bind fun x1 => (cat [5] x1).bind fun x2 => (cat x2 x_0).bind fun x3 => (colletref02_least4 (x_1.length : Int)).bind fun x4 => (cat x3 x4).bind fun x5 => (cat x5 x_1).bind fun x6 => (cat x6 x_0).bind fun x7 => (colletref02_Of x7).bind fun x8 => Comp.pure x8
def colletref02_Chain (x_0 : Bytes) (x_1 : Bytes) : Comp Bytes :=
   (colletref02_least4 (x_0.length : Int)).bind fun x1 => (cat [4] x1).bind fun x2 => (cat x2 x_0).bind fun x3 => (cat x3 x_1).bind fun x4 => (colletref02_Of x4).bind fun x5 => Comp.pure x5
def colletref02_Check (x_0 : Bytes) (x_1 : Bytes) (x_2 : Bytes) : Comp Bool :=
   (Comp.gd ((decide (x_0 ≠ ([] : Bytes))) == true) (colletref02_Mark x_0 x_1) default).bind fun x1 => (Comp.pure ((bif (decide (x_0 ≠ ([] : Bytes))) then (decide (x_2 = x1)) else false))).bind fun x2 => Comp.pure x2
def colletlaw02_DigestForms_l3 (x22 : Bytes) (x38 : Bytes) (x39 : Bytes) (x40 : Bytes) (x13 : Vector Bytes 2) (x43 : Int) : Comp (Comp.Step Int (Sum Bool Unit)) :=
   (Comp.pure ((decide (x43 < ([x22, x38, x39, x40].length : Int))))).bind fun x45 => if x45 = true then
    ((idx [x22, x38, x39, x40] x43).bind fun x46 => (idx x13.toList 0).bind fun x47 => (idx x13.toList 1).bind fun x48 => (digest_Check x47 x48 x46).bind fun x49 => (idx x13.toList 0).bind fun x50 => (idx x13.toList 1).bind fun x51 => (colletref02_Check x50 x51 x46).bind fun x52 => if (decide (x49 ≠ x52)) = true then
    ( Comp.pure (.done (.inl false)))
    else
    ( Comp.pure (.next (IntKind.wrap .i64 (x43 + 1)))))
    else
    (Comp.pure (.done (.inr ())))
def colletlaw02_DigestForms_l2 (x10 : Int) (x4 : Bytes) (x5 : Bytes) (x6 : Bytes) (x7 : Bytes) (x_2 : colletlaw02_Change) (x11 : Int) : Comp (Comp.Step Int (Sum Bool Unit)) :=
   if (decide (x11 < x10)) = true then
    ((idx [(#v[x4, x5] : Vector Bytes 2), (#v[x5, x4] : Vector Bytes 2), (#v[x4, x6] : Vector Bytes 2), (#v[x7, ([] : Bytes)] : Vector Bytes 2)] x11).bind fun x13 => (idx x13.toList 0).bind fun x20 => (idx x13.toList 1).bind fun x21 => (colletref02_Mark x20 x21).bind fun x22 => (idx x13.toList 0).bind fun x23 => (digest_Of x23).bind fun x24 => (idx x13.toList 0).bind fun x25 => (colletref02_Of x25).bind fun x26 => (Comp.gd ((decide (x24 ≠ x26)) == false) (idx x13.toList 0) default).bind fun x27 => (Comp.gd ((decide (x24 ≠ x26)) == false) (idx x13.toList 1) default).bind fun x28 => (Comp.gd ((decide (x24 ≠ x26)) == false) (digest_Chain x27 x28) default).bind fun x29 => (Comp.gd ((decide (x24 ≠ x26)) == false) (idx x13.toList 0) default).bind fun x30 => (Comp.gd ((decide (x24 ≠ x26)) == false) (idx x13.toList 1) default).bind fun x31 => (Comp.gd ((decide (x24 ≠ x26)) == false) (colletref02_Chain x30 x31) default).bind fun x32 => (Comp.gd ((bif (decide (x24 ≠ x26)) then true else (decide (x29 ≠ x32))) == false) (idx x13.toList 0) default).bind fun x33 => (Comp.gd ((bif (decide (x24 ≠ x26)) then true else (decide (x29 ≠ x32))) == false) (idx x13.toList 1) default).bind fun x34 => (Comp.gd ((bif (decide (x24 ≠ x26)) then true else (decide (x29 ≠ x32))) == false) (digest_Mark x33 x34) default).bind fun x35 => (Comp.pure ((bif (bif (decide (x24 ≠ x26)) then true else (decide (x29 ≠ x32))) then true else (decide (x35 ≠ x22))))).bind fun x36 => if x36 = true then
    ( Comp.pure (.done (.inl false)))
    else
    (((fun (c : colletlaw02_Change) s => chgC c.At c.Byte c.Tail s) x_2 x22).bind fun x38 => (idx x13.toList 1).bind fun x39 => (sub x22 0 7).bind fun x40 => (Comp.loop (fun s => colletlaw02_DigestForms_l3 x22 x38 x39 x40 x13 s) 0).bind (fun e => match e with | (.inl x53) => (Comp.pure (.done (.inl x53))) | (.inr ()) => ( Comp.pure (.next (IntKind.wrap .i64 (x11 + 1)))))))
    else
    (Comp.pure (.done (.inr ())))
def colletlaw02_DigestForms_j1 (x3 : Bool) : Comp Bool :=
   Comp.pure x3
def colletlaw02_DigestForms (x_0 : Bytes) (x_1 : Bytes) (x_2 : colletlaw02_Change) : Comp Bool :=
   (colletlaw02_sanity).bind fun x3 => (colletlaw02_short x_0).bind fun x4 => (colletlaw02_short x_1).bind fun x5 => ((fun (c : colletlaw02_Change) s => chgC c.At c.Byte c.Tail s) x_2 x4).bind fun x6 => (cat x4 x5).bind fun x7 => (Comp.pure (([(#v[x4, x5] : Vector Bytes 2), (#v[x5, x4] : Vector Bytes 2), (#v[x4, x6] : Vector Bytes 2), (#v[x7, ([] : Bytes)] : Vector Bytes 2)].length : Int))).bind fun x10 => (Comp.loop (fun s => colletlaw02_DigestForms_l2 x10 x4 x5 x6 x7 x_2 s) 0).bind (fun e => match e with | (.inl x37) => (Comp.pure x37) | (.inr ()) => (colletlaw02_DigestForms_j1 x3))
def colletlaw02_list_l2 (x_0 : List Bytes) (x1 : List Bytes) (x4 : Int) : Comp (Comp.Step ((List Bytes) × Int) (List Bytes)) :=
   (Comp.pure ((bif (decide (x4 < (x_0.length : Int))) then (decide (x4 < 20)) else false))).bind fun x6 => if x6 = true then
    ((idx x_0 x4).bind fun x7 => (idx x_0 x4).bind fun x8 => (sub x7 0 (min (x8.length : Int) 30)).bind fun x9 => (app x1 [x9]).bind fun x12 =>  Comp.pure (.next (x12, (IntKind.wrap .i64 (x4 + 1)))))
    else
    (Comp.pure (.done x1))
def colletlaw02_list_j1 (x18 : List Bytes) : Comp (List Bytes) :=
   Comp.pure x18
def colletlaw02_list (x_0 : List Bytes) : Comp (List Bytes) :=
     (Comp.loop (fun s => colletlaw02_list_l2 x_0 s.1 s.2) ([], 0)).bind (fun x17 => colletlaw02_list_j1 x17)
def colletlaw02_DigestHalves_l2 (x_1 : Int) (x8 : List Bytes) : Comp (Comp.Step (List Bytes) (List Bytes)) :=
   (Comp.pure ((decide ((x8.length : Int) < (shlF .i64 2 (Int.tmod x_1 4)))))).bind fun x14 => if x14 = true then
    ( (app x8 [([] : Bytes)]).bind fun x17 => Comp.pure (.next x17))
    else
    (Comp.pure (.done x8))
def colletlaw02_DigestHalves_l4 (x_1 : Int) (x39 : Bytes) (x40 : Int) : Comp (Comp.Step (Bytes × Int) Bytes) :=
   (Comp.pure ((decide (x40 < (IntKind.wrap .i64 (Int.tdiv (shlF .i64 2 (Int.tmod x_1 4)) 2)))))).bind fun x42 => if x42 = true then
    ((digest_Inner x39 x39).bind fun x43 =>  Comp.pure (.next (x43, (IntKind.wrap .i64 (2 * x40)))))
    else
    (Comp.pure (.done x39))
def colletlaw02_DigestHalves_l6 (x_1 : Int) (x51 : Bytes) (x52 : Bytes) (x53 : Int) : Comp (Comp.Step (Bytes × Bytes × Int) (Bytes × Bytes)) :=
   (Comp.pure ((decide (x53 < (IntKind.wrap .i64 (Int.tdiv (shlF .i64 2 (Int.tmod x_1 4)) 2)))))).bind fun x55 => if x55 = true then
    ((digest_Inner x51 x52).bind fun x56 => (digest_Inner x52 x52).bind fun x57 =>  Comp.pure (.next (x56, x57, (IntKind.wrap .i64 (2 * x53)))))
    else
    (Comp.pure (.done (x51, x52)))
def colletlaw02_DigestHalves_j5 (x1 : Bool) (x46 : Bytes) (x29 : List Bytes) (x32 : List Bytes) (x33 : List Bytes) (x_1 : Int) (x62 : Bytes) (x63 : Bytes) : Comp Bool :=
  (Comp.gd ((bif x1 then (decide (x63 = x46)) else false) == true) (rootC x29) default).bind fun x65 => (Comp.gd ((bif x1 then (decide (x63 = x46)) else false) == true) (rootC x32) default).bind fun x66 => (Comp.gd ((bif x1 then (decide (x63 = x46)) else false) == true) (rootC x33) default).bind fun x67 => (Comp.gd ((bif x1 then (decide (x63 = x46)) else false) == true) (digest_Inner x66 x67) default).bind fun x68 => (Comp.gd ((bif (bif x1 then (decide (x63 = x46)) else false) then (decide (x65 = x68)) else false) == true) (sub x29 0 (IntKind.wrap .i64 ((IntKind.wrap .i64 (Int.tdiv (shlF .i64 2 (Int.tmod x_1 4)) 2)) + 1))) default).bind fun x69 => (Comp.gd ((bif (bif x1 then (decide (x63 = x46)) else false) then (decide (x65 = x68)) else false) == true) (rootC x69) default).bind fun x70 => (Comp.gd ((bif (bif x1 then (decide (x63 = x46)) else false) then (decide (x65 = x68)) else false) == true) (rootC x32) default).bind fun x71 => (Comp.gd ((bif (bif x1 then (decide (x63 = x46)) else false) then (decide (x65 = x68)) else false) == true) (digest_Inner x71 x62) default).bind fun x72 => (Comp.pure ((bif (bif (bif x1 then (decide (x63 = x46)) else false) then (decide (x65 = x68)) else false) then (decide (x70 = x72)) else false))).bind fun x73 => Comp.pure x73
def colletlaw02_DigestHalves_j3 (x33 : List Bytes) (x_1 : Int) (x1 : Bool) (x29 : List Bytes) (x32 : List Bytes) (x46 : Bytes) : Comp Bool :=
  (idx x33 0).bind fun x48 => (digest_Leaf x48).bind fun x49 => (digest_Missing).bind fun x50 =>  (Comp.loop (fun s => colletlaw02_DigestHalves_l6 x_1 s.1 s.2.1 s.2.2) (x49, x50, 1)).bind (fun (x60, x61) => colletlaw02_DigestHalves_j5 x1 x46 x29 x32 x33 x_1 x60 x61)
def colletlaw02_DigestHalves_j1 (x_1 : Int) (x1 : Bool) (x23 : List Bytes) : Comp Bool :=
  (sub x23 0 (shlF .i64 2 (Int.tmod x_1 4))).bind fun x29 => (sub x29 0 (IntKind.wrap .i64 (Int.tdiv (shlF .i64 2 (Int.tmod x_1 4)) 2))).bind fun x32 => (sub x29 (IntKind.wrap .i64 (Int.tdiv (shlF .i64 2 (Int.tmod x_1 4)) 2)) x29.length).bind fun x33 => (digest_Missing).bind fun x38 =>  (Comp.loop (fun s => colletlaw02_DigestHalves_l4 x_1 s.1 s.2) (x38, 1)).bind (fun x45 => colletlaw02_DigestHalves_j3 x33 x_1 x1 x29 x32 x45)
def colletlaw02_DigestHalves (x_0 : List Bytes) (x_1 : Int) : Comp Bool :=
   (colletlaw02_sanity).bind fun x1 =>  (colletlaw02_list x_0).bind fun x2 => (nonneg (Int.tmod x_1 4)).bind fun x7 => (Comp.loop (fun s => colletlaw02_DigestHalves_l2 x_1 s) x2).bind (fun x22 => colletlaw02_DigestHalves_j1 x_1 x1 x22)
def colletlaw02_DigestBinds_l2 (x7 : List Bytes) (x26 : List Bytes) (x29 : Int) : Comp (Comp.Step ((List Bytes) × Int) (List Bytes)) :=
   if (decide (x29 < (x7.length : Int))) = true then
    ( (idx x7 x29).bind fun x31 => (digest_Leaf x31).bind fun x32 => (app x26 [x32]).bind fun x35 =>  Comp.pure (.next (x35, (IntKind.wrap .i64 (x29 + 1)))))
    else
    (Comp.pure (.done x26))
def colletlaw02_DigestBinds_l4 (x45 : List Bytes) : Comp (Comp.Step (List Bytes) (List Bytes)) :=
   (Comp.pure ((decide ((andB .i64 (x45.length : Int) (IntKind.wrap .i64 ((x45.length : Int) - 1))) ≠ 0)))).bind fun x49 => if x49 = true then
    ((digest_Missing).bind fun x50 => (app x45 [x50]).bind fun x53 => Comp.pure (.next x53))
    else
    (Comp.pure (.done x45))
def colletlaw02_DigestBinds_l8 (x69 : List Bytes) (x77 : List Bytes) (x80 : Int) : Comp (Comp.Step ((List Bytes) × Int) (List Bytes)) :=
   (Comp.pure ((decide ((IntKind.wrap .i64 (x80 + 1)) < (x69.length : Int))))).bind fun x82 => if x82 = true then
    ((idx x69 x80).bind fun x83 => (idx x69 (IntKind.wrap .i64 (x80 + 1))).bind fun x84 => (digest_Inner x83 x84).bind fun x85 => (app x77 [x85]).bind fun x88 =>  Comp.pure (.next (x88, (IntKind.wrap .i64 (x80 + 2)))))
    else
    (Comp.pure (.done x77))
def colletlaw02_DigestBinds_j9 (x74 : Bool) (x94 : List Bytes) (x75 : Int) (x104 : Bytes) (x105 : Bytes) : Comp (Comp.Step ((List Bytes) × Bytes × Bytes × Bool × Int) (Bytes × Bytes × Bool)) :=
   (Comp.pure ((bif x74 then true else (decide (x104 = x105))))).bind fun x111 =>   Comp.pure (.next (x94, x104, x105, x111, (IntKind.wrap .i64 (Int.tdiv x75 2))))
def colletlaw02_DigestBinds_j7 (x75 : Int) (x69 : List Bytes) (x72 : Bytes) (x73 : Bytes) (x74 : Bool) (x94 : List Bytes) : Comp (Comp.Step ((List Bytes) × Bytes × Bytes × Bool × Int) (Bytes × Bytes × Bool)) :=
   if (decide ((Int.tmod x75 2) = 0)) = true then
    ((idx x69 (IntKind.wrap .i64 (x75 + 1))).bind fun x100 => (digest_Inner x72 x100).bind fun x101 => (idx x69 (IntKind.wrap .i64 (x75 + 1))).bind fun x102 => (digest_Inner x73 x102).bind fun x103 => colletlaw02_DigestBinds_j9 x74 x94 x75 x101 x103)
    else
    ((idx x69 (IntKind.wrap .i64 (x75 - 1))).bind fun x106 => (digest_Inner x106 x72).bind fun x107 => (idx x69 (IntKind.wrap .i64 (x75 - 1))).bind fun x108 => (digest_Inner x108 x73).bind fun x109 => colletlaw02_DigestBinds_j9 x74 x94 x75 x107 x109)
def colletlaw02_DigestBinds_l6 (x69 : List Bytes) (x72 : Bytes) (x73 : Bytes) (x74 : Bool) (x75 : Int) : Comp (Comp.Step ((List Bytes) × Bytes × Bytes × Bool × Int) (Bytes × Bytes × Bool)) :=
   if (decide ((x69.length : Int) > 1)) = true then
    (  (Comp.loop (fun s => colletlaw02_DigestBinds_l8 x69 s.1 s.2) ([], 0)).bind (fun x93 => colletlaw02_DigestBinds_j7 x75 x69 x72 x73 x74 x93))
    else
    (Comp.pure (.done (x72, x73, x74)))
def colletlaw02_DigestBinds_j5 (x7 : List Bytes) (x25 : List Bytes) (x3 : Bool) (x10 : Int) (x118 : Bytes) (x119 : Bytes) (x120 : Bool) : Comp Bool :=
  (rootC x7).bind fun x122 => (Comp.gd ((decide (x122 ≠ x118)) == false) (rootC x25) default).bind fun x123 => (Comp.pure ((bif (decide (x122 ≠ x118)) then true else (decide (x123 ≠ x119))))).bind fun x124 => if x124 = true then
    ( Comp.pure false)
    else
    ((Comp.gd ((x3 == true) && (x120 == false)) (idx x25 x10) default).bind fun x125 => (Comp.gd ((x3 == true) && (x120 == false)) (idx x7 x10) default).bind fun x126 => (Comp.gd (((x3 == true) && (x120 == false)) && ((decide (x125 ≠ x126)) == true)) (rootC x7) default).bind fun x127 => (Comp.gd (((x3 == true) && (x120 == false)) && ((decide (x125 ≠ x126)) == true)) (rootC x25) default).bind fun x128 => (Comp.pure ((bif x3 then (bif x120 then true else (bif (decide (x125 ≠ x126)) then (decide (x127 ≠ x128)) else false)) else false))).bind fun x129 => Comp.pure x129)
def colletlaw02_DigestBinds_j3 (x7 : List Bytes) (x10 : Int) (x25 : List Bytes) (x3 : Bool) (x59 : List Bytes) : Comp Bool :=
  (idx x7 x10).bind fun x65 => (digest_Leaf x65).bind fun x66 => (idx x25 x10).bind fun x67 => (digest_Leaf x67).bind fun x68 =>   (Comp.loop (fun s => colletlaw02_DigestBinds_l6 s.1 s.2.1 s.2.2.1 s.2.2.2.1 s.2.2.2.2) (x59, x66, x68, (decide (x66 = x68)), x10)).bind (fun (x115, x116, x117) => colletlaw02_DigestBinds_j5 x7 x25 x3 x10 x115 x116 x117)
def colletlaw02_DigestBinds_j1 (x7 : List Bytes) (x10 : Int) (x25 : List Bytes) (x3 : Bool) (x41 : List Bytes) : Comp Bool :=
  (Comp.loop (fun s => colletlaw02_DigestBinds_l4 s) x41).bind (fun x58 => colletlaw02_DigestBinds_j3 x7 x10 x25 x3 x58)
def colletlaw02_DigestBinds (x_0 : List Bytes) (x_1 : Int) (x_2 : colletlaw02_Change) : Comp Bool :=
   (colletlaw02_sanity).bind fun x3 => (colletlaw02_list x_0).bind fun x4 => (sub x4 0 (min (x4.length : Int) 16)).bind fun x7 =>  if (decide ((x7.length : Int) = 0)) = true then
    ( Comp.pure x3)
    else
    ((rem (IntKind.wrap .i64 x_1) (x7.length : Int)).bind fun x10 =>  (app [] x7).bind fun x15 => (idx x7 x10).bind fun x19 => ((fun (c : colletlaw02_Change) s => chgC c.At c.Byte c.Tail s) x_2 x19).bind fun x20 => (idx x15 x10).bind fun x21 => (upd x15 x10 x20).bind fun x25 =>   (Comp.loop (fun s => colletlaw02_DigestBinds_l2 x7 s.1 s.2) ([], 0)).bind (fun x40 => colletlaw02_DigestBinds_j1 x7 x10 x25 x3 x40))
end Go.F
