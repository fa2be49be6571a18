/- For every case, BillBest returns true, and its argument read afterwards as before; no condition. -/
import Derived.Test.YtknbpncolbmoaaaGreatKBBestF
import Derived.SliceStrings
import Derived.ChangeSlices
import Derived.Lib.SmallJoins
import Derived.OpenShut
import Derived.ShutString
import Derived.ChangeOld
import Derived.Test.YtknbpncolbmoaaaGreatRows
import Derived.WalkKit
import Derived.ProofKit
import Derived.Below
set_option linter.unusedSimpArgs false
set_option linter.unusedVariables false
open Go.Lift.Comp (vC)
noncomputable section
set_option maxRecDepth 200000
namespace Go.Dn
open Go Go.Proofs Go.RowKit Go.Eng Go.Lift Go.Den
def t222:Ty:=.seq (.cons t224 .nil)
def t235:Ty:=.seq (.cons (.slo t106) .nil)
open Go.F Go.Proofs.Tryz
abbrev sz (h:H):H:=.s .z h
abbrev kv (n:Nat) (t:Ty):Bool×Nat×Knd:=(false,n,.v t)
abbrev kw (n:Nat) (t:Ty):Bool×Nat×Knd:=(true,n,.v t)
abbrev ko (n:Nat) (t:Ty) (T:Nat):Bool×Nat×Knd:=(false,n,.o true t T)
def s55:FS:=⟨(.cons t104 (.cons t104 .nil)),(.cons t107 .nil),[some 106],fun x=>yG x.1 x.2.1⟩
theorem HK:s55.ok prog 55:=fS (E0) .z func55
def s48:FS:=⟨.nil,(.cons t36 .nil),[none],fun x=>gf ⟩
theorem zET:s48.ok prog 48:=fS ((E0).S HK) (sz (.s (.xr [0,6,7] [2,3,4,0,1,5,6,7] [(1,[]),(2,[]),(3,[]),(4,[]),(5,[])]) (.s (sz (.b (.l ⟨[kv 2 t3,(true,1,(.ag (.pr (.ag (.pr (.v t9) (.pr (.o true t107 107) (.pr (.o true t3 3) .un)))) (.pr (.ag (.pr (.v t31) (.pr (.v t31) (.pr (.o true t107 107) .un)))) (.pr (.o true t62 62) .un)))))],[0,1],[2]⟩ [(some 0,⟨[(true,1,(.ag (.pr (.ag (.pr (.v t9) (.pr (.o true t107 107) (.pr (.o true t3 3) .un)))) (.pr (.ag (.pr (.v t31) (.pr (.v t31) (.pr (.o true t107 107) .un)))) (.pr (.o true t62 62) .un)))))],[0,1],[]⟩)] .z))) (sz (.s (.f [3] .z) .z))))) func48
def zId:FS:=⟨(.cons t3 .nil),(.cons t4 .nil),[none],fun x=>vv x.1⟩
theorem zBW:zId.ok prog 117:=fS (E0) .z func117
def zIR:FS:=⟨(.cons t23 (.cons t117 .nil)),(.cons t3 .nil),[none],fun x=>gW x.1 x.2.1⟩
theorem QW:zIR.ok prog 129:=fS (E0) (sz (.s (sz (.b (.l ⟨[kv 8 t3],[0,1,7],[8]⟩ [(some 0,⟨[],[],[]⟩),(none,⟨[kv 4 t3],[],[4]⟩)] .z))) .z)) func129
def s72:FS:=⟨(.cons t23 (.cons t117 .nil)),(.cons t4 .nil),[none],fun x=>zR x.1 x.2.1⟩
theorem HJ:s72.ok prog 72:=fS ((E0).S QW) .z func72
def zHj:FS:=⟨(.cons t28 (.cons t166 .nil)),(.cons t3 .nil),[none],fun x=>yI x.1 x.2.1⟩
theorem QO:zHj.ok prog 168:=fS (E0) (sz (.s (sz (.b (.l ⟨[kv 8 t3],[0,1,7],[8]⟩ [(some 0,⟨[],[],[]⟩),(none,⟨[kv 4 t3],[],[4]⟩)] .z))) .z)) func168
def zIH:FS:=⟨(.cons t28 (.cons t166 .nil)),(.cons t4 .nil),[none],fun x=>zK x.1 x.2.1⟩
theorem ml:zIH.ok prog 140:=fS ((E0).S QO) .z func140
def zHQ:FS:=⟨(.cons t107 (.cons t198 .nil)),(.cons t3 .nil),[none],fun x=>yH x.1 x.2.1⟩
theorem QK:zHQ.ok prog 188:=fS (E0) (sz (.s (sz (.b (.l ⟨[kv 8 t3],[0,1,7],[8]⟩ [(some 0,⟨[],[],[]⟩),(none,⟨[kv 4 t3],[],[4]⟩)] .z))) .z)) func188
def zHm:FS:=⟨(.cons t107 (.cons t198 .nil)),(.cons t4 .nil),[none],fun x=>zZ x.1 x.2.1⟩
theorem QP:zHm.ok prog 165:=fS ((E0).S QK) .z func165
def zHP:FS:=⟨(.cons t3 (.cons t23 .nil)),(.cons t4 .nil),[none],fun x=>jH x.1 x.2.1⟩
theorem zAn:zHP.ok prog 189:=fS (E0) (sz (.s (sz (.b (.l ⟨[kv 9 t3],[0,7,8],[9]⟩ [(some 0,⟨[],[],[]⟩),(none,⟨[kv 4 t4],[],[4]⟩)] .z))) .z)) func189
def zGr:FS:=⟨(.cons t3 .nil),(.cons t3 .nil),[none],fun x=>jv x.1⟩
theorem zAR:zGr.ok prog 213:=fS (E0) .z func213
def zHO:FS:=⟨(.cons t23 .nil),(.cons t3 .nil),[none],fun x=>Zf x.1⟩
theorem zAm:zHO.ok prog 190:=fS ((E0).S zAR) (sz (sz (.s (sz (.b (.l ⟨[kv 3 t3,kv 8 t3],[6,7],[3,8]⟩ [(some 0,⟨[kv 3 t3],[],[3]⟩),(none,⟨[kv 2 t3],[],[2]⟩)] (sz (sz (.s (.b (sz (sz (sz (.b (.l ⟨[kv 3 t3,kv 5 t3],[6,7,8],[3,5]⟩ [(some 2,⟨[kv 3 t3],[6,7,8],[3]⟩)] .z)))))) .z)))))) .z))) func190
def zHk:FS:=⟨(.cons t106 .nil),(.cons t4 .nil),[none],fun x=>Yw x.1⟩
theorem zAz:zHk.ok prog 167:=fS (((E0).S zAm).S zAn) (sz (.s (.xg ⟨[kv 2 t4],[],[2]⟩) .z)) func167
def zHl:FS:=⟨(.cons t106 .nil),(.cons t4 .nil),[none],fun x=>jS x.1⟩
theorem zBA:zHl.ok prog 166:=fS ((E0).S zAz) .z func166
def zII:FS:=⟨(.cons t107 .nil),(.cons t43 .nil),[none],fun x=>vg x.1⟩
theorem wx:zII.ok prog 139:=fS (((E0).S zBA).S QP) .z func139
def zHg:FS:=⟨(.cons t107 .nil),(.cons t4 .nil),[none],fun x=>jR x.1⟩
theorem zAw:zHg.ok prog 172:=fS ((E0).S wx) .z func172
def zHx:FS:=⟨(.cons t28 .nil),(.cons t4 .nil),[none],fun x=>ZZ x.1⟩
theorem EJ:zHx.ok prog 154:=fS (((E0).S zAw).S ml) .z func154
def zHL:FS:=⟨(.cons t3 .nil),(.cons t107 .nil),[some 106],fun x=>vk x.1⟩
theorem zAk:zHL.okN prog 193:=fN (E0) (sz (.s (sz (.j ⟨[],[0,1],[]⟩ .z .z)) (.s (sz (sz (.j ⟨[ko 0 t106 106],[],[]⟩ (.xg ⟨[ko 0 t106 106],[],[]⟩) .z))) .z))) func193
def zHf:FS:=⟨(.cons t28 .nil),(.cons t107 .nil),[some 106],fun x=>zO x.1⟩
theorem QN:zHf.ok prog 173:=fS ((E0).N zAk) (sz (sz (.s (sz (.b (.l ⟨[kv 3 t3,kv 11 t3],[0,9,10],[3,11]⟩ [(some 0,⟨[kv 3 t3],[0],[3]⟩)] (sz (sz (.s (.b (sz (sz (sz (.j ⟨[],[0,3,9,10,11],[]⟩ .z .z))))) .z)))))) (sz (.s (sz (.b (.l ⟨[ko 6 t106 106,kv 27 t3],[25,26],[27]⟩ [(some 2,⟨[ko 6 t106 106],[],[]⟩)] .z))) .z))))) func173
def zHw:FS:=⟨(.cons t28 .nil),(.cons t189 .nil),[some 106],fun x=>cell_of x.1⟩
theorem EH:zHw.ok prog 155:=fS ((E0).S QN) (sz (sz (.s (sz (.b (.l ⟨[ko 3 t106 106,kv 16 t3],[14,15],[16]⟩ [(some 0,⟨[ko 3 t106 106],[],[]⟩)] .z))) .z))) func155
def zGp:GS:=⟨(.cons (.box t189) .nil),(.cons t224 .nil),fun x=>vj x.1⟩
theorem zAP:zGp.ok prog 215:=fQ (E0) (sz (.b (.l ⟨[kv 11 t3],[0,1,9,10],[11]⟩ [(some 0,⟨[],[],[]⟩),(none,⟨[],[],[]⟩)] (sz (sz (.s (.b (sz (.s (.f [4] .z) (.b (.l ⟨[kv 21 t3],[0,1,3,4,9,10,11,19,20],[21]⟩ [(some 2,⟨[],[0,1,9,10,11],[]⟩),(none,⟨[],[],[]⟩)] (sz (sz (.s (.b (sz (.s (.f [6] .z) (.b (.l ⟨[kv 33 t3],[0,1,3,4,6,9,10,11,19,20,21,31,32],[33]⟩ [(some 4,⟨[],[0,1,3,4,9,10,11,19,20,21],[]⟩),(none,⟨[],[],[]⟩)] (sz (sz (.s (.b (sz (.s (.f [8] .y) .z))) .z)))))))) .z)))))))) .z)))))) func215
def zHK:FS:=⟨(.cons t189 .nil),(.cons t222 .nil),[none],fun x=>kF x.1⟩
theorem zAj:zHK.ok prog 194:=fS ((E0).Q zAP) (sz (.s (.f [1] .z) .z)) func194
def zGo:FS:=⟨(.cons t104 (.cons t104 .nil)),(.cons t104 .nil),[none],fun x=>Zl x.1 x.2.1⟩
theorem zAO:zGo.ok prog 216:=fS (E0) .z func216
def zHF:FS:=⟨(.cons t104 (.cons t104 .nil)),(.cons t3 .nil),[none],fun x=>Zb x.1 x.2.1⟩
theorem QI:zHF.ok prog 199:=fS (E0) .z func199
def zGm:FS:=⟨(.cons t104 (.cons t3 .nil)),(.cons t104 .nil),[none],fun x=>Ye x.1 x.2.1⟩
theorem zAM:zGm.ok prog 218:=fS (E0) .z func218
def zGn:FS:=⟨(.cons t104 (.cons t104 .nil)),(.cons t104 .nil),[none],fun x=>XL x.1 x.2.1⟩
theorem zAN:zGn.ok prog 217:=fS (E0) .z func217
def zGl:FS:=⟨(.cons t23 .nil),(.cons t3 .nil),[none],fun x=>KY x.1⟩
theorem zAL:zGl.ok prog 219:=fS (E0) (sz (sz (.s (sz (.b (.l ⟨[kv 3 t3,kv 8 t3],[6,7],[3,8]⟩ [(some 0,⟨[kv 3 t3],[],[3]⟩)] (sz (sz (.s (.b (sz (.b (.l ⟨[kv 3 t3,kv 5 t3],[6,7,8],[3,5]⟩ [(some 2,⟨[kv 3 t3],[6,7,8],[3]⟩)] .z)))) .z)))))) .z))) func219
def zHJ:FS:=⟨(.cons t224 .nil),(.cons t208 (.cons t4 .nil)),[none,none],fun x=>XO x.1⟩
theorem zAi:zHJ.ok prog 195:=fS ((((((E0).S zAL).S zAN).S zAM).S QI).S zAO) (sz (sz (sz (.s (sz (.b (.l ⟨[kv 5 t3,kv 11 t3,kw 4 t104],[1,2,4,10],[5,11,4]⟩ [(some 0,⟨[kv 5 t3,kw 4 t104],[2,4],[5,4]⟩)] (sz (sz (.s (.b (sz (.s (.xr [13,14] [0,1,2,3,4,5,6,7,8,9,10,11,12,13,14] [(0,[]),(1,[]),(2,[]),(3,[]),(4,[]),(5,[]),(6,[]),(7,[]),(8,[]),(9,[]),(10,[]),(11,[]),(12,[])]) .z))) .z)))))) (sz (sz (.s (sz (.j ⟨[kv 9 t3],[2,4,5],[9]⟩ .z .z)) .z))))))) func195
def zHZ:FS:=⟨(.cons t106 (.cons t208 .nil)),(.cons t3 .nil),[none],fun x=>Zd x.1 x.2.1⟩
theorem EB:zHZ.ok prog 179:=fS ((E0).S QI) .z func179
def zGk:FS:=⟨(.cons t106 (.cons (.box t208) .nil)),(.cons t4 .nil),[none],fun x=>gx x.1 x.2.1⟩
theorem zAK:zGk.ok prog 220:=fS ((E0).S EB) .z func220
def zHI:FS:=⟨(.cons t107 (.cons t208 .nil)),(.cons t4 .nil),[none],fun x=>Zo x.1 x.2.1⟩
theorem zAh:zHI.ok prog 196:=fS (((E0).S QP).S zAK) .z func196
def zHe:FS:=⟨(.cons t189 .nil),(.cons t203 .nil),[some 208],fun x=>vb x.1⟩
theorem QM:zHe.ok prog 174:=fS ((((E0).S zAh).S zAi).S zAj) (sz (sz (sz (.s (sz (.b (.l ⟨[(true,3,(.o true t208 208)),(true,4,(.m true t208 t4))],[1,3,4,10],[]⟩ [] (sz (.b (sz (sz (.j ⟨[(true,3,(.o true t208 208)),(true,4,(.m true t208 t4))],[1,3,4,10],[]⟩ .z .z)))))))) .z)))) func174
def zHa:FS:=⟨(.cons t208 (.cons (.box t106) .nil)),(.cons t4 .nil),[none],fun x=>yP x.1 x.2.1⟩
theorem zAs:zHa.ok prog 178:=fS ((E0).S EB) .z func178
def zHG:FS:=⟨(.cons t203 (.cons t210 .nil)),(.cons t3 .nil),[none],fun x=>vX x.1 x.2.1⟩
theorem zAf:zHG.ok prog 198:=fS (E0) (sz (.s (sz (.b (.l ⟨[kv 8 t3],[0,1,7],[8]⟩ [(some 0,⟨[],[],[]⟩),(none,⟨[kv 4 t3],[],[4]⟩)] .z))) .z)) func198
def zHb:FS:=⟨(.cons t203 (.cons t210 .nil)),(.cons t4 .nil),[none],fun x=>yK x.1 x.2.1⟩
theorem zAt:zHb.ok prog 177:=fS ((E0).S zAf) .z func177
def zHc:FS:=⟨(.cons t106 (.cons (.box t203) .nil)),(.cons t4 .nil),[none],fun x=>yv x.1 x.2.1⟩
theorem zAu:zHc.ok prog 176:=fS (((E0).S zAt).S zAs) .z func176
def zHH:FS:=⟨(.cons t189 (.cons t198 .nil)),(.cons t3 .nil),[none],fun x=>vK x.1 x.2.1⟩
theorem zAg:zHH.ok prog 197:=fS (E0) (sz (.s (sz (.b (.l ⟨[kv 8 t3],[0,1,7],[8]⟩ [(some 0,⟨[],[],[]⟩),(none,⟨[kv 4 t3],[],[4]⟩)] .z))) .z)) func197
def zHd:FS:=⟨(.cons t189 (.cons t198 .nil)),(.cons t4 .nil),[none],fun x=>yC x.1 x.2.1⟩
theorem zAv:zHd.ok prog 175:=fS ((E0).S zAg) .z func175
def zHv:FS:=⟨(.cons t189 .nil),(.cons t4 .nil),[none],fun x=>gq x.1⟩
theorem QS:zHv.ok prog 156:=fS ((((E0).S zAv).S zAu).S QM) .z func156
def zIc:FS:=⟨(.cons t107 .nil),(.cons t4 .nil),[none],fun x=>kC x.1⟩
theorem mr:zIc.ok prog 118:=fS ((((E0).S QS).S EH).S EJ) (sz (.s (.xg ⟨[kv 2 t4],[],[2]⟩) .z)) func118
def zIT:FS:=⟨(.cons t107 (.cons t107 .nil)),(.cons t4 .nil),[none],fun x=>j3 x.1 x.2.1⟩
theorem mq:zIT.ok prog 127:=fS ((((E0).S QS).S EH).S EJ) (sz (.s (.xg ⟨[kv 4 t4],[],[4]⟩) .z)) func127
def zHu:FS:=⟨(.cons t107 (.cons (.box t107) .nil)),(.cons t4 .nil),[none],fun x=>gv x.1 x.2.1⟩
theorem zBF:zHu.ok prog 157:=fS ((E0).S mq) .z func157
def zIb:FS:=⟨(.cons t107 (.cons t28 .nil)),(.cons t4 .nil),[none],fun x=>yA x.1 x.2.1⟩
theorem qj:zIb.ok prog 119:=fS (((E0).S ml).S zBF) .z func119
def s58:FS:=⟨(.cons t30 .nil),(.cons t43 .nil),[none],fun x=>kc x.1⟩
theorem Rh:s58.ok prog 58:=fS (((((E0).S qj).S mr).S HJ).S zBW) (sz (sz (sz (sz (.s (sz (.b (.l ⟨[kv 32 t3],[1,30,31],[32]⟩ [(some 1,⟨[],[],[]⟩),(none,⟨[kv 2 t43],[],[2]⟩)] .z))) .z))))) func58
def zIJ:FS:=⟨(.cons t107 .nil),(.cons t4 .nil),[none],fun x=>jI x.1⟩
theorem zBN:zIJ.ok prog 138:=fS ((E0).S wx) .z func138
def s87:FS:=⟨(.cons t30 (.cons t33 .nil)),(.cons t4 .nil),[none],fun x=>JT x.1 x.2.1⟩
theorem zDz:s87.ok prog 87:=fS (((E0).S ml).S zBN) .z func87
def zHt:FS:=⟨(.cons t3 .nil),(.cons t28 .nil),[some 107],fun x=>vm x.1⟩
theorem zBE:zHt.okN prog 158:=fN (E0) (sz (.s (sz (.j ⟨[],[0,1],[]⟩ .z .z)) (.s (sz (sz (.j ⟨[ko 0 t107 107],[],[]⟩ (.xg ⟨[ko 0 t107 107],[],[]⟩) .z))) .z))) func158
def zIY:FS:=⟨(.cons t191 .nil),(.cons t28 .nil),[some 107],fun x=>zX x.1⟩
theorem QY:zIY.ok prog 122:=fS ((E0).N zBE) (sz (sz (.s (sz (.b (.l ⟨[kv 3 t3,kv 11 t3],[0,9,10],[3,11]⟩ [(some 0,⟨[kv 3 t3],[0],[3]⟩)] (sz (sz (.s (.b (sz (sz (sz (.j ⟨[],[0,3,9,10,11],[]⟩ .z .z))))) .z)))))) (sz (.s (sz (.b (.l ⟨[ko 6 t107 107,kv 27 t3],[25,26],[27]⟩ [(some 2,⟨[ko 6 t107 107],[],[]⟩)] .z))) .z))))) func122
def zIG:FS:=⟨(.cons t23 .nil),(.cons t4 .nil),[none],fun x=>ku x.1⟩
theorem zBM:zIG.ok prog 141:=fS (E0) (sz (.s (sz (.b (.l ⟨[kv 3 t3],[0],[3]⟩ [(some 0,⟨[],[],[]⟩),(none,⟨[kv 2 t4],[],[2]⟩)] .z))) .z)) func141
def s88:FS:=⟨(.cons t34 (.cons t3 .nil)),(.cons t43 .nil),[none],fun x=>Zm x.1 x.2.1⟩
theorem zDy:s88.ok prog 88:=fS ((((E0).S zBM).S wx).S QY) (sz (sz (.s (sz (.b (.l ⟨[kv 22 t3],[0,1,5,20,21],[22]⟩ [(some 0,⟨[],[0,1,5],[]⟩),(none,⟨[kv 4 t43],[],[4]⟩)] .z))) (sz (.s (sz (.b (.l ⟨[kv 43 t3],[0,1,5,41,42],[43]⟩ [(some 2,⟨[],[5],[]⟩),(none,⟨[kv 4 t43],[],[4]⟩)] .z))) .z))))) func88
def s30:FS:=⟨(.cons t36 .nil),(.cons t43 .nil),[none],fun x=>Yb x.1⟩
theorem WN:s30.ok prog 30:=fS ((((E0).S zDy).S zDz).S Rh) (sz (sz (sz (sz (.s (sz (.b (.l ⟨[kv 4 t3,kv 33 t3],[1,31,32],[4,33]⟩ [(some 1,⟨[kv 4 t3],[],[4]⟩),(none,⟨[kv 2 t43],[],[2]⟩)] .z))) .z))))) func30
def s56:FS:=⟨(.cons (.box t36) .nil),(.cons t43 .nil),[none],fun x=>ZC x.1⟩
theorem zEO:s56.ok prog 56:=fS ((E0).S WN) .z func56
def s57:FS:=⟨(.cons (.box t30) .nil),(.cons t43 .nil),[none],fun x=>ZB x.1⟩
theorem zEN:s57.ok prog 57:=fS ((E0).S Rh) .z func57
def zIa:FS:=⟨(.cons t3 (.cons (.box t3) .nil)),(.cons t4 .nil),[none],fun x=>jA x.1 x.2.1⟩
theorem zBV:zIa.ok prog 120:=fS (E0) .z func120
def s60:FS:=⟨(.cons t3 (.cons t23 .nil)),(.cons t43 .nil),[none],fun x=>Y0 x.1 x.2.1⟩
theorem zEL:s60.ok prog 60:=fS (((E0).S HJ).S zBV) (sz (.b (sz (sz (sz (.s (sz (.b (.l ⟨[kv 5 t43,kv 15 t3],[1,13,14],[5,15]⟩ [(some 0,⟨[kv 5 t43],[],[5]⟩)] (sz (sz (.s (.b (sz (sz (.b (.l ⟨[kv 5 t43,kv 24 t3],[1,7,13,14,15,22,23],[5,24]⟩ [(some 0,⟨[kv 5 t43],[],[5]⟩),(some 2,⟨[kv 5 t43],[1,13,14,15],[5]⟩)] .z))))) .z)))))) .z)))))) func60
def s59:FS:=⟨(.cons (.box t36) (.cons (.box t23) .nil)),(.cons t43 .nil),[none],fun x=>ZA x.1 x.2.1⟩
theorem zEM:s59.ok prog 59:=fS ((E0).S zEL) .z func59
def zIZ:FS:=⟨(.cons t28 .nil),(.cons t43 .nil),[none],fun x=>jO x.1⟩
theorem QZ:zIZ.ok prog 121:=fS ((E0).S wx) (sz (.s (sz (.b (.l ⟨[kv 8 t3],[6,7],[8]⟩ [(some 0,⟨[],[],[]⟩),(none,⟨[kv 2 t43],[],[2]⟩)] .z))) .z)) func121
def zIh:FS:=⟨(.cons t30 (.cons t33 .nil)),(.cons t43 .nil),[none],fun x=>ky x.1 x.2.1⟩
theorem Qa:zIh.ok prog 112:=fS (((E0).S QZ).S Rh) .z func112
def zIX:FS:=⟨(.cons t31 .nil),(.cons t31 .nil),[some 4],fun x=>yj x.1⟩
theorem zBU:zIX.ok prog 123:=fS (E0) .z func123
def zHs:FS:=⟨(.cons t107 .nil),(.cons t107 .nil),[some 106],fun x=>za x.1⟩
theorem QR:zHs.ok prog 159:=fS (E0) .z func159
def zIW:FS:=⟨(.cons t28 .nil),(.cons t28 .nil),[some 107],fun x=>YE x.1⟩
theorem zBT:zIW.ok prog 124:=fS ((E0).S QR) (sz (sz (.s (sz (.b (.l ⟨[ko 3 t107 107,kv 8 t3],[6,7],[8]⟩ [(some 0,⟨[ko 3 t107 107],[],[]⟩)] .z))) .z))) func124
def zIU:FS:=⟨(.cons t3 (.cons t107 (.cons (.box t107) .nil))),(.cons t4 .nil),[none],fun x=>vP x.1 x.2.1 x.2.2.1⟩
theorem zBR:zIU.ok prog 126:=fS ((E0).S mq) .z func126
def zIV:FS:=⟨(.cons t28 (.cons t173 .nil)),(.cons t28 .nil),[some 107],fun x=>yf x.1 x.2.1⟩
theorem zBS:zIV.ok prog 125:=fS (E0) (sz (sz (.s (sz (.b (.l ⟨[ko 5 t107 107,kv 10 t3],[1,8,9],[10]⟩ [(some 0,⟨[ko 5 t107 107],[],[]⟩)] (sz (sz (.s (.b (sz (sz (.j ⟨[ko 5 t107 107],[1,8,9,10],[]⟩ .z .z)))) .z)))))) .z))) func125
def zHY:FS:=⟨(.cons t28 .nil),(.cons t43 .nil),[none],fun x=>Yu x.1⟩
theorem zAr:zHY.ok prog 180:=fS ((E0).S wx) (sz (sz (.s (sz (.b (.l ⟨[kv 11 t3],[9,10],[11]⟩ [(some 0,⟨[],[],[]⟩),(none,⟨[kv 2 t43],[],[2]⟩)] .z))) .z))) func180
def zHE:FS:=⟨(.cons t107 .nil),(.cons t203 .nil),[some 208],fun x=>Yz x.1⟩
theorem zAe:zHE.ok prog 200:=fS ((((E0).S QM).S EH).S EJ) .z func200
def zHC:FS:=⟨(.cons t106 (.cons (.box t203) .nil)),(.cons t4 .nil),[none],fun x=>j9 x.1 x.2.1⟩
theorem zAc:zHC.ok prog 202:=fS ((E0).S EB) (sz (sz (.s (sz (.b (.l ⟨[kv 4 t3,kv 9 t3],[2,7,8],[4,9]⟩ [(some 0,⟨[kv 4 t3],[],[4]⟩)] (sz (sz (.s (.b (sz (sz (.j ⟨[kv 4 t3],[2,7,8,9],[4]⟩ .z .z)))) .z)))))) .z))) func202
def zHD:FO:=⟨t106,106,(.cons t198 .nil),true,fun xs x=>yB xs x.1⟩
theorem zAd:zHD.ok prog 201:=fO ((E0).S QK) (sz (sz (sz (.s (sz (.b (.l ⟨[kw 0 t107,kv 5 t3,kv 6 t3],[0,1],[5,6]⟩ [(some 0,⟨[kw 0 t107,kv 5 t3],[0],[5]⟩)] (sz (.s (.b (sz (sz (.j ⟨[kw 0 t107,kv 5 t3],[0,1,6],[5]⟩ .z .z)))) .z))))) (.s (.f [0] .z) (.s (.xg ⟨[(false,4,(.o false t106 106))],[],[]⟩) .z)))))) func201
def zHB:FO:=⟨t106,106,(.cons t233 .nil),false,fun xs x=>zw xs x.1⟩
theorem zAb:zHB.ok prog 203:=Md (ρ:=Go.Proofs.Tryz.rV) Go.Proofs.Tryz.zDk (zDb 106 zDQ (by kernel_rfl)).ty rfl ⟨_,func203,rfl,by kernel_rfl⟩
def zGj:FS:=⟨(.cons t3 (.cons t3 .nil)),(.cons t3 .nil),[none],fun x=>Zk x.1 x.2.1⟩
theorem zAJ:zGj.ok prog 223:=fS (E0) .z func223
def zHA:FS:=⟨(.cons t106 (.cons t106 .nil)),(.cons t3 .nil),[none],fun x=>kK x.1 x.2.1⟩
theorem zAa:zHA.ok prog 204:=fS ((E0).S zAJ) (sz (.b (sz (sz (.s (sz (.b (.l ⟨[kv 5 t3,kv 36 t3],[34,35],[5,36]⟩ [(some 0,⟨[kv 5 t3],[],[5]⟩)] .z))) .z))))) func204
def zGz:FO:=⟨t106,106,.nil,true,fun xs x=>zy xs ⟩
theorem zAZ:zGz.ok prog 205:=fO (E0) (sz (sz (.s (sz (.b (.l ⟨[kw 0 t107,kv 3 t3],[0],[3]⟩ [(some 0,⟨[kw 0 t107],[0],[]⟩),(none,⟨[(false,2,(.o false t106 106))],[],[]⟩)] (sz (.s (.b (sz (.s (.s (.f [0] .z) (.s (sz (.b (.l ⟨[kw 0 t107,kv 3 t3,kv 5 t3],[0,4],[3,5]⟩ [(some 2,⟨[kw 0 t107,kv 3 t3],[0],[3]⟩)] (sz (.s (.b (sz (.j ⟨[kw 0 t107,kv 3 t3],[0,4,5],[3]⟩ .z .z))) .z))))) (.s (.f [0] .z) (.s (.xg ⟨[(false,2,(.o false t106 106))],[],[]⟩) .z)))) .z))) .z))))) .z))) func205
def zHX:FS:=⟨(.cons t107 .nil),(.cons t107 .nil),[some 106],fun x=>gR x.1⟩
theorem D9:zHX.ok prog 181:=fS (((((((((E0).O zAZ).S zAa).O zAb).O zAd).S zAc).S QR).S zAe).S mr) .z func181
def zGZ:FS:=⟨(.cons t104 (.cons t104 .nil)),(.cons t104 .nil),[none],fun x=>K6 x.1 x.2.1⟩
theorem W9:zGZ.ok prog 243:=fS (E0) .z func243
def zGh:FS:=⟨(.cons t106 .nil),(.cons t106 .nil),[none],fun x=>Ya x.1⟩
theorem zAH:zGh.ok prog 225:=fS ((E0).S W9) .z func225
def zGi:GS:=⟨(.cons (.box t107) (.cons (.box t107) .nil)),(.cons (.slo t106) .nil),fun x=>ju x.1 x.2.1⟩
theorem zAI:zGi.ok prog 224:=fQ ((((E0).S D9).S QN).S zAH) (sz (sz (.b (.l ⟨[kv 4 t107,kv 11 t3],[0,9,10],[4,11]⟩ [(some 0,⟨[],[],[]⟩),(none,⟨[],[],[]⟩)] (sz (sz (.s (.b (sz (.s (.s (.f [6] .z) (.s (.s .y .z) .z)) (.s (sz (.s .y .z)) .z)))) .z))))))) func224
def zGy:FS:=⟨(.cons t107 (.cons t107 .nil)),(.cons t235 .nil),[none],fun x=>Zj x.1 x.2.1⟩
theorem zAY:zGy.ok prog 206:=fS ((E0).Q zAI) (sz (.s (.f [2,3] .z) .z)) func206
def zHW:FS:=⟨(.cons t28 (.cons t107 .nil)),(.cons t28 (.cons t43 .nil)),[none,none],fun x=>kJ x.1 x.2.1⟩
theorem zAq:zHW.ok prog 182:=fS (((((E0).S zAY).S mq).S D9).S mr) (sz (sz (sz (.s (.f [16,6] .z) (.s (sz (.b (.l ⟨[kv 19 t3,kw 4 t28,kw 5 t43,(true,7,(.o true t107 107))],[1,4,5,6,7,17,18],[19,4,5]⟩ [(some 0,⟨[kw 4 t28,kw 5 t43,(true,7,(.o true t107 107))],[4,5,7],[4,5]⟩),(none,⟨[kw 4 t28,kw 5 t43],[4,5],[4,5]⟩)] (sz (sz (.s (.jb ⟨[kw 4 t28,kw 5 t43,(true,7,(.o true t107 107))],[1,4,5,6,7,17,18,19],[4,5]⟩ (sz (sz (sz (.b (.l ⟨[kw 4 t28,kw 5 t43,(true,7,(.o true t107 107))],[1,4,5,6,7,17,18,19,32],[4,5]⟩ [(none,⟨[kw 4 t28,kw 5 t43],[4,5],[4,5]⟩)] (sz .z))))))) .z)))))) .z))))) func182
def zHr:FS:=⟨(.cons t107 (.cons t28 .nil)),(.cons t28 (.cons t43 .nil)),[none,none],fun x=>Ys x.1 x.2.1⟩
theorem zBD:zHr.ok prog 160:=fS ((((((E0).S zAq).S D9).S mr).S zAr).S wx) (sz (sz (sz (sz (sz (.s (.s (.f [27] .z) (.b (.l ⟨[kv 8 t28,kv 30 t3],[28,29],[8,30]⟩ [(some 0,⟨[kv 8 t28],[],[8]⟩),(none,⟨[kv 4 t28,kv 5 t43],[],[4,5]⟩)] .z))) .z)))))) func160
def zIS:FS:=⟨(.cons t28 (.cons t107 .nil)),(.cons t4 (.cons t43 .nil)),[none,none],fun x=>gP x.1 x.2.1⟩
theorem QX:zIS.ok prog 128:=fS ((E0).S zBD) .z func128
def s61:FS:=⟨(.cons t30 (.cons t33 (.cons t28 (.cons t28 .nil)))),(.cons t33 (.cons t43 .nil)),[none,none],fun x=>Yr x.1 x.2.1 x.2.2.1 x.2.2.2.1⟩
theorem zEK:s61.ok prog 61:=fS ((((((((((E0).S QX).S zBS).S zBR).S qj).S zBT).S zBU).S QZ).S QY).S Qa) (sz (sz (sz (sz (.s (.xr [2,5,11,13,14] [0,1,3,4,6,7,8,9,2,5,10,11,12,13,14] [(0,[]),(1,[]),(3,[]),(4,[]),(6,[]),(7,[]),(8,[]),(9,[]),(10,[]),(12,[])]) (.s (sz (.b (.l ⟨[kv 58 t3,kw 8 t33,(true,12,(.ag (.pr (.o true t4 4) (.pr (.o true t4 4) (.pr (.v t28) .un)))))],[2,3,8,12,56,57],[58,8]⟩ [(some 0,⟨[kw 8 t33,(true,12,(.ag (.pr (.o true t4 4) (.pr (.o true t4 4) (.pr (.v t28) .un)))))],[8,12],[8]⟩),(none,⟨[kv 9 t43,kw 8 t33],[8],[9,8]⟩)] (sz (sz (.s (.jb ⟨[kw 8 t33,(true,12,(.ag (.pr (.o true t4 4) (.pr (.o true t4 4) (.pr (.v t28) .un)))))],[2,3,8,12,56,57,58],[8]⟩ (sz (sz (sz (.s (.f [14] .z) .z))))) .z)))))) .z)))))) func61
def zIg:FS:=⟨(.cons t162 (.cons t3 .nil)),(.cons t4 .nil),[none],fun x=>yM x.1 x.2.1⟩
theorem zBZ:zIg.ok prog 113:=fS ((E0).S qj) .z func113
def zIf:FS:=⟨(.cons t162 (.cons t3 .nil)),(.cons t4 .nil),[none],fun x=>yN x.1 x.2.1⟩
theorem zBY:zIf.ok prog 114:=fS (E0) .z func114
def zIe:FS:=⟨(.cons t162 (.cons t3 .nil)),(.cons t4 .nil),[none],fun x=>yh x.1 x.2.1⟩
theorem zBX:zIe.ok prog 115:=fS (E0) .z func115
def s47:FS:=⟨(.cons t30 (.cons t33 .nil)),(.cons t43 .nil),[none],fun x=>jP x.1 x.2.1⟩
theorem WL:s47.ok prog 47:=fS (((((E0).S zBX).S zBY).S zBZ).S Qa) (sz (sz (sz (.s (sz (.b (.l ⟨[kv 30 t3],[2,28,29],[30]⟩ [(some 0,⟨[],[],[]⟩),(none,⟨[kv 4 t43],[],[4]⟩)] (sz (sz (.s (.b (sz (sz (.b (.l ⟨[kv 37 t3],[2,8,28,29,30,36],[37]⟩ [(some 2,⟨[],[2,28,29,30],[]⟩),(none,⟨[kv 4 t43],[],[4]⟩)] .z))))) .z)))))) .z)))) func47
def s62:FS:=⟨(.cons t23 .nil),(.cons t23 .nil),[some 3],fun x=>gJ x.1⟩
theorem zEJ:s62.ok prog 62:=fS (E0) .z func62
def s65:FS:=⟨(.cons t30 (.cons t62 .nil)),(.cons t4 .nil),[none],fun x=>YH x.1 x.2.1⟩
theorem zEG:s65.ok prog 65:=fS ((E0).S qj) (sz (.s (sz (.b (.l ⟨[kv 10 t3],[2,3,8,9],[10]⟩ [(some 0,⟨[],[],[]⟩),(none,⟨[kv 4 t4],[],[4]⟩)] .z))) .z)) func65
def s64:FS:=⟨(.cons t3 (.cons (.box t30) (.cons (.box t36) .nil))),(.cons t4 .nil),[none],fun x=>kB x.1 x.2.1 x.2.2.1⟩
theorem zEH:s64.ok prog 64:=fS ((E0).S zEG) .z func64
def s63:FO:=⟨t3,3,(.cons t117 .nil),true,fun xs x=>gE xs x.1⟩
theorem zEI:s63.ok prog 63:=fO ((E0).S QW) (sz (sz (sz (.s (sz (.b (.l ⟨[kw 0 t23,kv 5 t3,kv 6 t3],[0,1],[5,6]⟩ [(some 0,⟨[kw 0 t23,kv 5 t3],[0],[5]⟩)] (sz (.s (.b (sz (sz (.j ⟨[kw 0 t23,kv 5 t3],[0,1,6],[5]⟩ .z .z)))) .z))))) (.s (.f [0] .z) (.s (.xg ⟨[(false,4,(.o false t3 3))],[],[]⟩) .z)))))) func63
def s17:FS:=⟨(.cons t36 (.cons t23 (.cons t23 .nil))),(.cons t23 (.cons t43 .nil)),[some 3,none],fun x=>Ze x.1 x.2.1 x.2.2.1⟩
theorem HL:s17.ok prog 17:=fS (((((((((E0).O zEI).S zEH).S zEJ).S WL).S zEK).S zEM).S zEN).S zEO) (sz (sz (.s (.s (.f [3,8,5] .z) (.b (.l ⟨[kv 31 t3],[3,5,8,29,30],[31]⟩ [(some 0,⟨[],[3,5,8],[]⟩),(none,⟨[ko 6 t3 3,kv 7 t43],[],[7]⟩)] .z))) (sz (.s (sz (.b (.l ⟨[ko 12 t107 107,ko 13 t107 107,kv 43 t3],[3,5,8,41,42],[43]⟩ [(some 2,⟨[ko 12 t107 107,ko 13 t107 107],[3,5,8],[]⟩)] (sz (sz (.s (.b (sz (.xr [7,15] [0,1,2,3,4,5,6,8,9,10,11,12,13,14,7,15,16,17] [(8,[47,12,54]),(9,[47,12,54]),(10,[47,12,54]),(11,[47,12,54]),(12,[47,12,54]),(13,[47,12,54]),(14,[47,12,54])]))) .z)))))) .z))))) func17
def s19:FS:=⟨(.cons t23 (.cons t23 .nil)),(.cons t4 .nil),[none],fun x=>vO x.1 x.2.1⟩
theorem zEb:s19.ok prog 19:=fS (E0) (sz (sz (.s (sz (.b (.l ⟨[kv 5 t3],[0,1],[5]⟩ [(some 0,⟨[],[],[]⟩),(none,⟨[kv 4 t4],[],[4]⟩)] .z))) .z))) func19
def s49:FS:=⟨(.cons t36 (.cons t23 (.cons t23 (.cons t23 .nil)))),(.cons t4 .nil),[none],fun x=>vy x.1 x.2.1 x.2.2.1 x.2.2.2.1⟩
theorem zES:s49.ok prog 49:=fS (((E0).S zEb).S HL) .z func49
def s50:FS:=⟨(.cons t36 (.cons t23 (.cons t23 (.cons t43 .nil)))),(.cons t4 .nil),[none],fun x=>vU x.1 x.2.1 x.2.2.1 x.2.2.2.1⟩
theorem zER:s50.ok prog 50:=fS ((E0).S HL) .z func50
def s71:FS:=⟨(.cons t3 .nil),(.cons t4 .nil),[none],fun x=>yy x.1⟩
theorem zEE:s71.ok prog 71:=fS (E0) .z func71
def s73:FS:=⟨(.cons t3 (.cons (.box t23) .nil)),(.cons t4 .nil),[none],fun x=>gI x.1 x.2.1⟩
theorem zED:s73.ok prog 73:=fS (E0) .z func73
def s74:FS:=⟨(.cons t23 (.cons t3 .nil)),(.cons t3 .nil),[none],fun x=>yg x.1 x.2.1⟩
theorem zEC:s74.ok prog 74:=fS (E0) (sz (.s (sz (.b (.l ⟨[kv 8 t3],[0,1,7],[8]⟩ [(some 0,⟨[],[],[]⟩),(none,⟨[kv 4 t3],[],[4]⟩)] .z))) .z)) func74
def s22:FS:=⟨(.cons t36 (.cons t23 (.cons t23 (.cons t23 (.cons t23 (.cons t23 .nil)))))),(.cons t51 (.cons t43 .nil)),[some 60,none],fun x=>ZD x.1 x.2.1 x.2.2.1 x.2.2.2.1 x.2.2.2.2.1 x.2.2.2.2.2.1⟩
theorem zEa:s22.ok prog 22:=fS ((((((E0).S zEC).S HJ).S zED).S zEE).S HL) (sz (sz (sz (sz (sz (.s (sz (.b (.l ⟨[ko 17 t60 60,kv 66 t3],[2,3,4,6,11,64,65],[66]⟩ [(some 1,⟨[ko 17 t60 60],[],[]⟩)] (sz (sz (.s (.b (sz (sz (sz (.s (sz (sz (.j ⟨[kv 21 t3],[2,3,4,6,11,17,19,64,65,66],[21]⟩ .z .z))) .z))))) .z)))))) .z)))))) func22
def s24:FS:=⟨(.cons t51 (.cons t51 .nil)),(.cons t4 .nil),[none],fun x=>ZP x.1 x.2.1⟩
theorem zEZ:s24.ok prog 24:=fS (E0) (sz (sz (.s (sz (.b (.l ⟨[kv 5 t3],[0,1],[5]⟩ [(some 0,⟨[],[],[]⟩),(none,⟨[kv 4 t4],[],[4]⟩)] .z))) .z))) func24
def s25:FS:=⟨(.cons t51 (.cons t3 .nil)),(.cons t3 .nil),[none],fun x=>qY x.1 x.2.1⟩
theorem zEY:s25.ok prog 25:=fS (E0) (sz (sz (.s (sz (.b (.l ⟨[(false,5,(.m true t3 t3)),kv 11 t3],[1,9,10],[11]⟩ [(some 0,⟨[(false,5,(.m true t3 t3))],[1],[]⟩)] .z))) .z))) func25
def s14:FS:=⟨.nil,(.cons t4 .nil),[none],fun x=>jF ⟩
theorem zEd:s14.ok prog 14:=fS (((((((E0).S zEY).S zEZ).S zEa).S zER).S zES).S zET) (sz (sz (sz (sz (.s (.xg ⟨[kv 5 t4],[1,2,3,4],[5]⟩) (.s (.xg ⟨[kv 6 t4],[1,3,4,5],[6]⟩) (sz (sz (.s (.xg ⟨[kv 0 t4],[],[0]⟩) .z))))))))) func14
def s41:FS:=⟨(.cons t3 (.cons t3 .nil)),(.cons t3 .nil),[none],fun x=>jM x.1 x.2.1⟩
theorem WM:s41.ok prog 41:=fS (E0) .z func41
def s85:FM:=⟨(.cons (.box t130) (.cons t3 .nil)),[some 130,none],(.cons t3 .nil),fun x=>zH x.1 x.2.1⟩
theorem CU:s85.ok prog 85:=fM ((E0).S WM) .z func85
def zHn:FS:=⟨(.cons t104 (.cons t104 .nil)),(.cons t104 .nil),[none],fun x=>Z7 x.1 x.2.1⟩
theorem zBB:zHn.ok prog 164:=fS (E0) .z func164
def zIK:FS:=⟨(.cons t106 .nil),(.cons t106 .nil),[none],fun x=>vA x.1⟩
theorem QU:zIK.ok prog 137:=fS ((E0).S zBB) .z func137
def zHN:FS:=⟨(.cons t104 .nil),(.cons t26 .nil),[none],fun x=>zz x.1⟩
theorem QJ:zHN.ok prog 191:=fS (E0) .z func191
def zGq:FS:=⟨(.cons t3 .nil),(.cons t3 .nil),[none],fun x=>vN x.1⟩
theorem zAQ:zGq.ok prog 214:=fS (E0) .z func214
def zHM:FS:=⟨(.cons t104 .nil),(.cons t104 (.cons t3 .nil)),[none,none],fun x=>gm x.1⟩
theorem zAl:zHM.ok prog 192:=fS (((E0).S zAQ).S QJ) (sz (sz (sz (.s (sz (.b (.l ⟨[kv 5 t3,kv 6 t3,kw 2 t104],[1,2,4],[5,6,2]⟩ [(some 0,⟨[kv 5 t3,kw 2 t104],[1,2],[5,2]⟩),(none,⟨[kv 3 t3,kw 2 t104],[2],[3,2]⟩)] (sz (.s (.b (sz (sz (.b (.l ⟨[kv 5 t3,kv 7 t3],[1,2,4,6],[5,7]⟩ [(some 2,⟨[kv 5 t3],[1,2,4,6],[5]⟩)] .z))))) .z))))) (sz (.s (.xr [14] [0,1,2,3,4,5,6,7,8,9,10,11,12,13,14,15] [(13,[2])]) .z)))))) func192
def zHi:FS:=⟨(.cons t106 .nil),(.cons t4 .nil),[none],fun x=>gO x.1⟩
theorem zAy:zHi.ok prog 169:=fS (((E0).S zAl).S QJ) (sz (sz (.s (sz (.b (.l ⟨[kv 4 t3],[1,3],[4]⟩ [(some 0,⟨[],[1],[]⟩),(none,⟨[kv 2 t4],[],[2]⟩)] .z))) .z))) func169
def zIF:FS:=⟨(.cons t107 .nil),(.cons t43 .nil),[none],fun x=>zb x.1⟩
theorem J6:zIF.ok prog 142:=fS ((E0).S zAy) (sz (sz (.s (sz (.b (.l ⟨[kv 3 t3],[0],[3]⟩ [(some 0,⟨[],[],[]⟩),(none,⟨[kv 2 t43],[],[2]⟩)] .z))) .z))) func142
def zHp:FS:=⟨(.cons t107 .nil),(.cons t107 .nil),[some 106],fun x=>gH x.1⟩
theorem EF:zHp.ok prog 162:=fS ((E0).S HK) (sz (sz (sz (.s (.xr [0,2,6] [1,3,4,0,2,5,6,7] [(1,[]),(3,[7]),(4,[7])]) .z)))) func162
def zGf:FS:=⟨(.cons t104 (.cons t104 .nil)),(.cons t104 .nil),[none],fun x=>vR x.1 x.2.1⟩
theorem zAF:zGf.ok prog 227:=fS (E0) .z func227
def zGg:FS:=⟨(.cons t104 (.cons t104 .nil)),(.cons t3 .nil),[none],fun x=>Z8 x.1 x.2.1⟩
theorem zAG:zGg.ok prog 226:=fS (E0) .z func226
def zGe:FS:=⟨(.cons t104 (.cons t3 .nil)),(.cons t104 .nil),[none],fun x=>yc x.1 x.2.1⟩
theorem zAE:zGe.ok prog 228:=fS (E0) .z func228
def zGd:FS:=⟨(.cons t104 (.cons t104 .nil)),(.cons t104 .nil),[none],fun x=>kO x.1 x.2.1⟩
theorem zAD:zGd.ok prog 229:=fS (E0) .z func229
def zGc:FS:=⟨(.cons t3 (.cons t3 .nil)),(.cons t3 .nil),[none],fun x=>zp x.1 x.2.1⟩
theorem zAC:zGc.ok prog 230:=fS (E0) (sz (.s (.b (.l ⟨[kv 0 t3,kv 1 t3],[],[0,1]⟩ [(some 0,⟨[kv 0 t3],[],[0]⟩)] .z)) .z)) func230
def zGx:FS:=⟨(.cons t106 (.cons t106 (.cons t106 .nil))),(.cons t208 (.cons t4 .nil)),[none,none],fun x=>y9 x.1 x.2.1 x.2.2.1⟩
theorem zAX:zGx.ok prog 207:=fS ((((((E0).S zAC).S zAD).S zAE).S zAG).S zAF) (sz (sz (sz (.s (.xr [8,9] [0,1,2,3,4,5,6,7,8,9] [(0,[]),(1,[]),(2,[]),(3,[]),(4,[]),(5,[]),(6,[]),(7,[])]) (sz (sz (.s (sz (.j ⟨[kv 8 t3,kw 9 t104],[6,9],[8,9]⟩ .z .z)) .z))))))) func207
def zHU:FS:=⟨(.cons t106 (.cons t208 .nil)),(.cons t3 .nil),[none],fun x=>zg x.1 x.2.1⟩
theorem D8:zHU.ok prog 184:=fS (E0) .z func184
def zGw:FS:=⟨(.cons t107 (.cons t208 .nil)),(.cons t4 .nil),[none],fun x=>vw x.1 x.2.1⟩
theorem zAW:zGw.ok prog 208:=fS ((E0).S D8) (sz (.s (sz (.b (.l ⟨[kv 5 t3],[0,3],[5]⟩ [(some 0,⟨[],[],[]⟩),(none,⟨[kv 4 t4],[],[4]⟩)] .z))) .z)) func208
def zGv:FS:=⟨(.cons t203 (.cons t208 .nil)),(.cons t4 .nil),[none],fun x=>ym x.1 x.2.1⟩
theorem zAV:zGv.ok prog 209:=fS (E0) (sz (.s (sz (.b (.l ⟨[kv 5 t3],[0,3],[5]⟩ [(some 0,⟨[],[],[]⟩),(none,⟨[kv 4 t4],[],[4]⟩)] .z))) .z)) func209
def zHV:FS:=⟨(.cons t107 .nil),(.cons t203 .nil),[some 208],fun x=>vZ x.1⟩
theorem QL:zHV.ok prog 183:=fS ((((E0).S zAV).S zAW).S zAX) (sz (sz (.s (sz (.b (.l ⟨[ko 3 t208 208,kv 4 t3],[0],[4]⟩ [(some 0,⟨[ko 3 t208 208],[],[]⟩)] (sz (.s (.b (sz (.b (.l ⟨[ko 3 t208 208,kv 5 t3],[0,4],[5]⟩ [(some 2,⟨[ko 3 t208 208],[0,4],[]⟩)] (sz (.s (.b (sz (.b (.l ⟨[ko 3 t208 208,kv 6 t3],[0,4,5],[6]⟩ [(some 4,⟨[ko 3 t208 208],[0,4,5],[]⟩)] (sz (.s (.b (.s (.xr [16,17] [0,1,2,3,4,5,6,7,8,9,10,11,12,13,14,15,16,17,18] [(0,[]),(1,[]),(2,[]),(3,[]),(4,[]),(5,[]),(6,[]),(7,[]),(8,[]),(9,[]),(10,[]),(11,[]),(12,[]),(13,[]),(14,[]),(15,[7])]) (sz (.j ⟨[ko 3 t208 208],[0,4,5,6],[]⟩ .z .z)))) .z)))))) .z)))))) .z))))) .z))) func183
def zHq:FS:=⟨(.cons t107 .nil),(.cons t4 .nil),[none],fun x=>gl x.1⟩
theorem QQ:zHq.ok prog 161:=fS (((E0).S D8).S QL) (sz (sz (.s (sz (.b (.l ⟨[kv 4 t3],[0,3],[4]⟩ [(some 0,⟨[],[],[]⟩),(none,⟨[kv 2 t4],[],[2]⟩)] (sz (.s (.b (sz (.s (sz (.b (.l ⟨[kv 5 t4,kv 6 t3],[0,3,4],[5,6]⟩ [(some 2,⟨[kv 5 t4],[0,3,4],[5]⟩)] .z))) .z))) .z))))) .z))) func161
def zIQ:FS:=⟨(.cons t107 .nil),(.cons t4 .nil),[none],fun x=>zu x.1⟩
theorem qi:zIQ.ok prog 130:=fS ((((E0).S QQ).S EF).S J6) (sz (.s (.xg ⟨[kv 2 t4],[],[2]⟩) .z)) func130
def s83:FS:=⟨(.cons t22 .nil),(.cons t30 .nil),[none],fun x=>j6 x.1⟩
theorem zEB:s83.ok prog 83:=fS (((((E0).S qi).S QU).S HK).M CU) (sz (sz (.s (sz (.b (.l ⟨[kv 4 t3,kw 3 t41],[0,2,3],[4,3]⟩ [(some 0,⟨[kw 3 t41],[2,3],[3]⟩)] .z))) (sz (sz (sz (.s (.xg ⟨[kv 8 t4,kw 5 t130],[2,3,5,6,7],[8,5]⟩) (sz (sz (.s (sz (.b (.l ⟨[kv 9 t3,kv 11 t3,(true,6,(.ag (.pr (.v t9) (.pr (.o true t107 107) (.pr (.o true t3 3) .un))))),kw 5 t130],[2,3,5,6,7,8,10],[9,11,5]⟩ [(some 2,⟨[(true,6,(.ag (.pr (.v t9) (.pr (.o true t107 107) (.pr (.o true t3 3) .un))))),kw 5 t130],[2,3,5,6],[5]⟩)] (sz (.s (.b (sz (sz (.s (sz (.j ⟨[(true,6,(.ag (.pr (.v t9) (.pr (.o true t107 107) (.pr (.o true t3 3) .un)))))],[2,3,5,6,7,8,9,10,11,12],[]⟩ .z .z)) .z)))) .z))))) (.s (.s (.xg ⟨[kv 102 t4,kw 5 t130],[2,3,5,6],[102,5]⟩) (.j ⟨[(true,6,(.ag (.pr (.v t9) (.pr (.o true t107 107) (.pr (.o true t3 3) .un)))))],[2,3,6],[]⟩ (sz (sz (.s (.xr [0,6,9] [1,2,3,4,5,7,8,0,6,9,10] [(1,[]),(2,[]),(3,[]),(4,[]),(5,[]),(7,[113]),(8,[113])]) (.s (.xr [0,6,10] [1,2,3,4,5,7,0,6,8,9,10,11] [(1,[]),(2,[]),(3,[]),(4,[]),(5,[]),(7,[123])]) (sz (.j ⟨[(true,6,(.ag (.pr (.v t9) (.pr (.o true t107 107) (.pr (.o true t3 3) .un)))))],[2,3,6],[]⟩ .z .z)))))) .z)) (sz (.s (sz (.b (.l ⟨[kv 18 t3,(true,6,(.ag (.pr (.v t9) (.pr (.o true t107 107) (.pr (.o true t3 3) .un))))),kw 17 t130],[2,6,17],[18,17]⟩ [(some 4,⟨[(true,6,(.ag (.pr (.v t9) (.pr (.o true t107 107) (.pr (.o true t3 3) .un)))))],[2,6],[]⟩)] (sz (.s (.b (.xr [4,8,10] [0,1,2,3,4,5,6,7,8,9,10] [(0,[165,17,154]),(1,[165,17,154]),(2,[165,17,154])])) .z))))) .z))))))))))))) func83
def s84:FS:=⟨(.cons t30 .nil),(.cons t33 .nil),[none],fun x=>kN x.1⟩
theorem zEA:s84.ok prog 84:=fS (E0) (sz (.s (.xr [3,9] [0,1,2,4,5,6,7,3,8,9] [(4,[]),(5,[]),(6,[]),(7,[])]) .z)) func84
def s86:FS:=⟨(.cons t22 (.cons t30 .nil)),(.cons t28 .nil),[some 107],fun x=>y8 x.1 x.2.1⟩
theorem WG:s86.ok prog 86:=fS (((E0).S HK).M CU) (sz (sz (.s (sz (.b (.l ⟨[ko 5 t107 107,kv 6 t3],[0,3],[6]⟩ [(some 0,⟨[ko 5 t107 107],[],[]⟩)] (sz (.s (.b (sz (sz (.s (.xr [7,10] [0,1,2,3,4,5,6,7,8,9,10,11] [(0,[33,7,27]),(1,[33,7,27]),(2,[33,7,27])]) (.s (sz (.j ⟨[kv 9 t107,kw 7 t130],[0,3,5,6,7,8],[9,7]⟩ (sz (.xr [5,10] [0,1,2,3,4,5,6,7,8,9,10,11] [(0,[52,7,27]),(1,[52,7,27]),(2,[52,7,27]),(3,[52,7,27])])) .z)) (.s (sz (.j ⟨[kv 9 t107],[0,3,5,6],[9]⟩ (sz (.xr [5,11,17,20] [0,1,2,3,4,7,8,9,10,13,14,15,16,5,6,11,12,17,18,19,20,21] [(0,[75,7,27,81,87]),(1,[75,7,27,81,87]),(2,[75,7,27,81,87]),(3,[75,7,27,81,87]),(6,[81,7,27,87]),(7,[75,7,27,81,87]),(8,[75,7,27,81,87]),(9,[75,7,27,81,87]),(10,[75,7,27]),(12,[87,7,27]),(13,[75,7,27,81,87]),(14,[75,7,27,81,87]),(15,[75,7,27,81,87]),(16,[75,7,27,81])])) .z)) .z)))))) .z))))) .z))) func86
def zIP:FS:=⟨(.cons t107 (.cons t107 .nil)),(.cons t4 .nil),[none],fun x=>zf x.1 x.2.1⟩
theorem mm:zIP.ok prog 131:=fS ((((E0).S QQ).S EF).S J6) .z func131
def s67:FS:=⟨(.cons t30 .nil),(.cons t43 .nil),[none],fun x=>gM x.1⟩
theorem WJ:s67.ok prog 67:=fS (((E0).S mm).S qi) (sz (sz (sz (.s (sz (.b (.l ⟨[kv 3 t3],[1],[3]⟩ [(some 0,⟨[],[1],[]⟩),(none,⟨[kv 2 t43],[],[2]⟩)] .z))) (.s (sz (.b (.l ⟨[kv 4 t3],[1],[4]⟩ [(some 2,⟨[],[],[]⟩),(none,⟨[kv 2 t43],[],[2]⟩)] (sz (.s (.b (sz (sz (.b (.l ⟨[kv 5 t3],[1,4],[5]⟩ [(some 4,⟨[],[1,4],[]⟩),(none,⟨[kv 2 t43],[],[2]⟩)] .z))))) .z))))) .z))))) func67
def zIO:FS:=⟨(.cons t28 .nil),(.cons t43 .nil),[none],fun x=>yU x.1⟩
theorem QV:zIO.ok prog 132:=fS ((E0).S J6) (sz (.s (sz (.b (.l ⟨[kv 3 t3],[0],[3]⟩ [(some 0,⟨[],[],[]⟩),(none,⟨[kv 2 t43],[],[2]⟩)] .z))) .z)) func132
def s89:FS:=⟨(.cons t30 (.cons t33 .nil)),(.cons t4 .nil),[none],fun x=>gj x.1 x.2.1⟩
theorem WD:s89.ok prog 89:=fS ((E0).S QV) .z func89
def zIi:FS:=⟨(.cons t28 .nil),(.cons t28 .nil),[some 107],fun x=>gk x.1⟩
theorem zBa:zIi.ok prog 111:=fS (E0) (sz (sz (.s (sz (.b (.l ⟨[ko 3 t107 107,kv 4 t3],[0],[4]⟩ [(some 0,⟨[ko 3 t107 107],[],[]⟩)] .z))) .z))) func111
def zIN:FS:=⟨(.cons t107 (.cons t28 .nil)),(.cons t4 .nil),[none],fun x=>yk x.1 x.2.1⟩
theorem zBQ:zIN.ok prog 133:=fS ((E0).S mm) (sz (.s (sz (.b (.l ⟨[kv 5 t3],[0,1],[5]⟩ [(some 0,⟨[],[],[]⟩),(none,⟨[kv 4 t4],[],[4]⟩)] .z))) .z)) func133
def zIL:FS:=⟨(.cons t28 (.cons t107 .nil)),(.cons t28 .nil),[some 107],fun x=>vQ x.1 x.2.1⟩
theorem zBO:zIL.ok prog 135:=fS ((E0).S mm) (sz (sz (.s (sz (.b (.l ⟨[ko 5 t107 107,kv 6 t3],[0,1],[6]⟩ [(some 0,⟨[ko 5 t107 107],[],[]⟩)] (sz (.s (.b (sz (.j ⟨[ko 5 t107 107],[0,1,6],[]⟩ .z .z))) .z))))) .z))) func135
def zHT:FS:=⟨(.cons t28 .nil),(.cons t43 .nil),[none],fun x=>jg x.1⟩
theorem zAp:zHT.ok prog 185:=fS ((E0).S J6) (sz (sz (.s (sz (.b (.l ⟨[kv 3 t3],[0],[3]⟩ [(some 0,⟨[],[],[]⟩),(none,⟨[kv 2 t43],[],[2]⟩)] .z))) .z))) func185
def zGu:FS:=⟨(.cons t107 .nil),(.cons t203 .nil),[some 208],fun x=>jE x.1⟩
theorem zAU:zGu.ok prog 210:=fS ((((E0).S QL).S EF).S J6) .z func210
def zGb:FS:=⟨(.cons t106 (.cons t106 .nil)),(.cons t3 .nil),[none],fun x=>yu x.1 x.2.1⟩
theorem zAB:zGb.ok prog 231:=fS (E0) (sz (sz (sz (.s (sz (.b (.l ⟨[kv 7 t3],[5,6],[7]⟩ [(some 0,⟨[],[],[]⟩),(none,⟨[kv 4 t3],[],[4]⟩)] .z))) .z)))) func231
def zGt:FS:=⟨(.cons t107 (.cons t106 .nil)),(.cons t107 .nil),[none],fun x=>jL x.1 x.2.1⟩
theorem zAT:zGt.ok prog 211:=fS ((E0).S zAB) (sz (sz (.s (.b (.l ⟨[kv 5 t3],[0,3],[5]⟩ [(some 0,⟨[kv 5 t3],[0,3],[5]⟩)] .z)) .z))) func211
def zHS:FS:=⟨(.cons t107 .nil),(.cons t107 .nil),[none],fun x=>zm x.1⟩
theorem D7:zHS.ok prog 186:=fS (((((E0).S zAT).S D8).S zAU).S qi) (sz (sz (sz (sz (.s (sz (.b (.l ⟨[kv 4 t107,kv 5 t3],[0,3],[4,5]⟩ [(some 0,⟨[kv 4 t107],[],[4]⟩)] (sz (.s (.b (sz (.s (sz (.b (.l ⟨[kv 6 t3,kv 7 t3],[0,3,4,5],[6,7]⟩ [(some 2,⟨[kv 6 t3],[0,3,4,5],[6]⟩)] (sz (.s (.b (sz (.j ⟨[kv 6 t3],[0,3,4,5,7],[6]⟩ .z .z))) .z))))) (sz (.j ⟨[kv 4 t107],[0,3,5],[4]⟩ .z .z))))) .z))))) .z))))) func186
def zGa:FS:=⟨(.cons t107 (.cons t106 .nil)),(.cons t107 .nil),[some 106],fun x=>yJ x.1 x.2.1⟩
theorem zAA:zGa.ok prog 232:=fS (E0) (sz (.s (.xr [0,2,5] [1,3,4,0,2,5,6] [(1,[]),(3,[5]),(4,[5])]) .z)) func232
def zGs:FS:=⟨(.cons t107 (.cons t107 .nil)),(.cons t28 (.cons t43 .nil)),[some 107,none],fun x=>gN x.1 x.2.1⟩
theorem zAS:zGs.ok prog 212:=fS ((((E0).S D7).S zAA).S QU) (sz (sz (sz (.s (sz (.b (.l ⟨[ko 6 t107 107,kv 7 t107,kv 8 t3],[1],[7,8]⟩ [(some 0,⟨[ko 6 t107 107],[],[]⟩),(none,⟨[ko 4 t107 107,kv 5 t43],[],[5]⟩)] (sz (.s (.b (sz (sz (.s (sz (.j ⟨[ko 6 t107 107],[1,7,8],[]⟩ .z .z)) .z)))) .z))))) .z)))) func212
def zHR:FS:=⟨(.cons t28 (.cons t107 .nil)),(.cons t28 (.cons t43 .nil)),[none,none],fun x=>yr x.1 x.2.1⟩
theorem zAo:zHR.ok prog 187:=fS (((((E0).S zAS).S D7).S mm).S qi) (sz (sz (sz (.s (sz (.b (.l ⟨[ko 6 t107 107,kv 7 t3],[0,1],[7]⟩ [(some 0,⟨[ko 6 t107 107],[],[]⟩),(none,⟨[kv 4 t28,kv 5 t43],[],[4,5]⟩)] (sz (.s (.jb ⟨[ko 6 t107 107],[0,1,7],[]⟩ .z) .z))))) .z)))) func187
def zHo:FS:=⟨(.cons t107 (.cons t28 .nil)),(.cons t28 (.cons t43 .nil)),[none,none],fun x=>jf x.1 x.2.1⟩
theorem zBC:zHo.ok prog 163:=fS ((((((E0).S zAo).S D7).S qi).S zAp).S J6) (sz (sz (.s (sz (.j ⟨[kv 6 t43],[0,1],[6]⟩ .z .z)) (sz (sz (.s (sz (.j ⟨[kv 7 t28],[1],[7]⟩ .z .z)) (.s (.s (.f [26] .z) (.b (.l ⟨[kv 7 t28,kv 8 t3],[1],[7,8]⟩ [(some 0,⟨[kv 7 t28],[],[7]⟩),(none,⟨[kv 4 t28,kv 5 t43],[],[4,5]⟩)] .z))) .z))))))) func163
def zIM:FS:=⟨(.cons t28 (.cons t107 .nil)),(.cons t4 (.cons t43 .nil)),[none,none],fun x=>y7 x.1 x.2.1⟩
theorem zBP:zIM.ok prog 134:=fS ((E0).S zBC) .z func134
def s68:FS:=⟨(.cons t30 (.cons t33 (.cons t28 (.cons t28 .nil)))),(.cons t33 (.cons t43 .nil)),[none,none],fun x=>je x.1 x.2.1 x.2.2.1 x.2.2.2.1⟩
theorem zEF:s68.ok prog 68:=fS ((((((((E0).S zBP).S zBO).S zBQ).S zBa).S QV).S WD).S WJ) (sz (sz (sz (sz (sz (.s (sz (.j ⟨[kv 10 t43],[2,3,4,5,8],[10]⟩ .z .z)) (sz (sz (sz (.s (sz (.b (.l ⟨[kv 12 t3,kw 8 t33,(true,11,(.ag (.pr (.o true t4 4) (.pr (.o true t4 4) (.pr (.v t28) .un)))))],[2,3,4,5,8,11],[12,8]⟩ [(some 0,⟨[kw 8 t33,(true,11,(.ag (.pr (.o true t4 4) (.pr (.o true t4 4) (.pr (.v t28) .un)))))],[8,11],[8]⟩),(none,⟨[kv 9 t43,kw 8 t33],[8],[9,8]⟩)] (sz (.s (.b (sz (sz (sz (.s (sz (.j ⟨[kv 14 t4,kw 8 t33],[2,3,4,5,8,11,12],[14,8]⟩ .z .z)) .z))))) .z))))) .z)))))))))) func68
def s44:FS:=⟨(.cons t30 (.cons t23 (.cons t3 .nil))),(.cons t62 .nil),[none],fun x=>y6 x.1 x.2.1 x.2.2.1⟩
theorem zEU:s44.ok prog 44:=fS (((E0).S WG).M CU) (sz (sz (sz (.s (.s (.xg ⟨[kv 25 t4,kw 7 t130],[1,2,3,6,7,8],[25,7]⟩) (.j ⟨[(true,8,(.ag (.pr (.o true t107 107) (.pr (.o true t107 107) (.pr (.v t3) (.pr (.o true t3 3) .un))))))],[1,3,6,7,8],[]⟩ .z .z)) (sz (.s (sz (.b (.l ⟨[kv 10 t3,(true,8,(.ag (.pr (.o true t107 107) (.pr (.o true t107 107) (.pr (.v t3) (.pr (.o true t3 3) .un)))))),kw 7 t130],[1,3,6,7,8,9],[10,7]⟩ [(some 0,⟨[(true,8,(.ag (.pr (.o true t107 107) (.pr (.o true t107 107) (.pr (.v t3) (.pr (.o true t3 3) .un))))))],[1,3,6,8,9],[]⟩)] (sz (.s (.b (sz (.s (sz (.j ⟨[kv 11 t4,kw 7 t130],[1,3,6,7,8,9,10],[11,7]⟩ (.xg ⟨[kv 11 t4,kw 7 t130],[1,3,6,7,8,9,10],[11,7]⟩) .z)) (sz (.j ⟨[(true,8,(.ag (.pr (.o true t107 107) (.pr (.o true t107 107) (.pr (.v t3) (.pr (.o true t3 3) .un))))))],[1,3,6,7,8,9,10],[]⟩ (.xr [2,8,9,10,12] [0,1,3,4,5,6,7,2,8,9,10,11,12] [(0,[58]),(1,[58]),(3,[]),(4,[]),(5,[]),(6,[]),(7,[])]) .z))))) .z))))) (.s (sz (.j ⟨[(true,8,(.ag (.pr (.o true t107 107) (.pr (.o true t107 107) (.pr (.v t3) (.pr (.o true t3 3) .un))))))],[1,3,6,8,9],[]⟩ .z .z)) (.s (sz (.j ⟨[(true,8,(.ag (.pr (.o true t107 107) (.pr (.o true t107 107) (.pr (.v t3) (.pr (.o true t3 3) .un))))))],[6,8],[]⟩ .z .z)) .z)))))))) func44
def zIE:FS:=⟨(.cons t23 .nil),(.cons t4 .nil),[none],fun x=>jU x.1⟩
theorem zBL:zIE.ok prog 143:=fS (E0) (sz (.s (sz (.b (.l ⟨[kv 3 t3],[0],[3]⟩ [(some 0,⟨[],[],[]⟩),(none,⟨[kv 2 t4],[],[2]⟩)] .z))) .z)) func143
def s90:FS:=⟨(.cons t34 (.cons t3 .nil)),(.cons t43 .nil),[none],fun x=>vt x.1 x.2.1⟩
theorem zDx:s90.ok prog 90:=fS (((E0).S zBL).S J6) (sz (sz (.s (.xr [0,3,6] [1,2,4,5,0,3,6,7] [(1,[]),(2,[]),(4,[14]),(5,[14])]) (.s (sz (.b (.l ⟨[kv 7 t3],[0,1,5,6],[7]⟩ [(some 0,⟨[],[0,1,5],[]⟩),(none,⟨[kv 4 t43],[],[4]⟩)] .z))) (sz (.s (sz (.b (.l ⟨[kv 9 t3],[0,1,5],[9]⟩ [(some 2,⟨[],[5],[]⟩),(none,⟨[kv 4 t43],[],[4]⟩)] .z))) .z)))))) func90
def s31:FS:=⟨(.cons t36 .nil),(.cons t43 .nil),[none],fun x=>gL x.1⟩
theorem zEW:s31.ok prog 31:=fS ((((E0).S zDx).S WD).S WJ) (sz (sz (sz (sz (sz (sz (.s (sz (.b (.l ⟨[kv 4 t3,kv 5 t3],[1],[4,5]⟩ [(some 0,⟨[kv 4 t3],[],[4]⟩),(none,⟨[kv 2 t43],[],[2]⟩)] .z))) .z))))))) func31
def s28:FJ:=⟨(.cons t22 .nil),(.pr (.ag (.pr (.v t30) (.pr (.v t33) (.pr (.o true t62 62) .un)))) .un),fun x=>j5 x.1⟩
theorem zEX:s28.ok prog 28:=fJ ((((((((E0).S zEW).S zEU).S zEF).S WG).M CU).S zEA).S zEB) (sz (sz (.s (.xr [2,4,5] [0,1,2,3,4,5] [(0,[]),(1,[]),(3,[])]) (.s (sz (.j ⟨[(true,4,(.ag (.pr (.v t30) (.pr (.v t33) (.pr (.o true t62 62) .un)))))],[0,2,3,4],[]⟩ (sz (sz (.j ⟨[(true,4,(.ag (.pr (.v t30) (.pr (.v t33) (.pr (.o true t62 62) .un)))))],[0,2,3,4],[]⟩ (.s (.xr [19,20] [0,1,2,3,4,5,6,7,8,9,10,11,12,13,14,15,16,17,18,19,20,21] [(0,[]),(1,[]),(2,[]),(3,[]),(4,[]),(5,[]),(6,[]),(7,[]),(8,[]),(9,[]),(10,[]),(11,[]),(12,[]),(13,[]),(14,[]),(15,[]),(16,[]),(17,[]),(18,[6])]) (sz (.j ⟨[(true,4,(.ag (.pr (.v t30) (.pr (.v t33) (.pr (.o true t62 62) .un)))))],[0,2,3,4],[]⟩ .z .z))) .z))) .z)) (.s (sz (.b (.l ⟨[kv 8 t3,(true,4,(.ag (.pr (.v t30) (.pr (.v t33) (.pr (.o true t62 62) .un)))))],[0,2,3,4],[8]⟩ [(some 0,⟨[(true,4,(.ag (.pr (.v t30) (.pr (.v t33) (.pr (.o true t62 62) .un)))))],[2,3,4],[]⟩)] .z))) (.s (sz (.j ⟨[(true,4,(.ag (.pr (.v t30) (.pr (.v t33) (.pr (.o true t62 62) .un)))))],[2,4],[]⟩ .z .z)) (.s (.b (.l ⟨[(true,4,(.ag (.pr (.v t30) (.pr (.v t33) (.pr (.o true t62 62) .un)))))],[2,4],[]⟩ [(some 2,⟨[(true,4,(.ag (.pr (.v t30) (.pr (.v t33) (.pr (.o true t62 62) .un)))))],[2,4],[]⟩)] (sz (.b (.xg ⟨[(true,4,(.ag (.pr (.v t30) (.pr (.v t33) (.pr (.o true t62 62) .un)))))],[2,4],[]⟩))))) .z))))))) func28
def s51:FS:=⟨(.cons t36 (.cons t23 .nil)),(.cons t23 .nil),[some 3],fun x=>jd x.1 x.2.1⟩
theorem zEQ:s51.ok prog 51:=fS ((E0).M CU) (sz (sz (sz (.s (sz (.b (.l ⟨[ko 6 t3 3,kv 7 t3,kw 5 t130],[2,5],[7,5]⟩ [(some 0,⟨[ko 6 t3 3],[],[]⟩)] (sz (.s (.b (sz (sz (.s (sz (.j ⟨[kv 9 t3],[2,5,6,7],[9]⟩ .z .z)) .z)))) .z))))) .z)))) func51
def s52:FS:=⟨(.cons t36 (.cons t23 .nil)),(.cons t23 .nil),[some 3],fun x=>j4 x.1 x.2.1⟩
theorem zEP:s52.ok prog 52:=fS ((E0).S WM) (sz (sz (.s (sz (.b (.l ⟨[ko 5 t3 3,kv 6 t3],[1,2],[6]⟩ [(some 0,⟨[ko 5 t3 3],[],[]⟩)] (sz (.s (.b (sz (sz (.s (sz (.b (.l ⟨[kv 8 t4,kv 9 t3],[1,2,5,6,7],[8,9]⟩ [(some 2,⟨[kv 8 t4],[1,2,5,6,7],[8]⟩)] .z))) (sz (.j ⟨[ko 5 t3 3],[1,2,6],[]⟩ .z .z)))))) .z))))) .z))) func52
def s15:FJ:=⟨(.cons t25 .nil),(.pr (.ag (.pr (.v t30) (.pr (.v t33) (.pr (.o true t62 62) .un)))) (.pr (.v t23) (.pr (.v t23) .un))),fun x=>vz x.1⟩
theorem zEc:s15.ok prog 15:=fJ ((((E0).S zEP).S zEQ).J zEX) (sz (sz (.s (.xr [4,8,9] [0,1,2,3,5,6,7,4,8,9,10,11] [(0,[]),(5,[]),(6,[]),(7,[])]) .z))) func15
def zIA:FS:=⟨(.cons t107 (.cons (.box t28) .nil)),(.cons t4 .nil),[none],fun x=>vp x.1 x.2.1⟩
theorem zBH:zIA.ok prog 147:=fS ((E0).S qj) .z func147
def s95:FS:=⟨(.cons t36 .nil),(.cons t140 .nil),[none],fun x=>XY x.1⟩
theorem zDw:s95.ok prog 95:=fS (((E0).S ml).S zBH) (sz (sz (sz (.s (sz (.b (.l ⟨[kv 16 t3,(true,4,(.o true t107 107))],[1,2,3,4,14,15],[16]⟩ [(some 0,⟨[(true,4,(.o true t107 107))],[1,2,3,4],[]⟩)] (sz (sz (.s (.b (sz (sz (.j ⟨[(true,4,(.o true t107 107))],[1,2,3,4,14,15,16],[]⟩ .z .z)))) .z)))))) (sz (.s (sz (.b (.l ⟨[kv 37 t3,kw 3 t140],[2,3,4,7,33,35,36],[37,3]⟩ [(some 2,⟨[kw 3 t140],[2,3],[3]⟩)] .z))) .z)))))) func95
def zIk:FS:=⟨(.cons t136 .nil),(.cons t23 .nil),[some 3],fun x=>vo x.1⟩
theorem qk:zIk.ok prog 103:=fS (E0) (sz (sz (.s (sz (.b (.l ⟨[ko 3 t3 3,kv 7 t3],[6],[7]⟩ [(some 0,⟨[ko 3 t3 3],[],[]⟩)] (sz (sz (.s (.b (sz (sz (.j ⟨[ko 3 t3 3],[6,7],[]⟩ .z .z)))) .z)))))) .z))) func103
def zHh:FS:=⟨(.cons t3 (.cons (.box t136) .nil)),(.cons t4 .nil),[none],fun x=>gK x.1 x.2.1⟩
theorem zAx:zHh.ok prog 170:=fS (E0) .z func170
def zHz:FS:=⟨(.cons t140 (.cons t136 .nil)),(.cons t136 .nil),[none],fun x=>jx x.1 x.2.1⟩
theorem QT:zHz.ok prog 148:=fS ((((E0).S HJ).S zAx).S qk) (sz (sz (.s (sz (.b (.l ⟨[kv 14 t3,kw 5 t136],[2,3,4,5,13],[14,5]⟩ [(some 0,⟨[kw 5 t136],[2,4,5],[5]⟩)] .z))) (.s (sz (.b (.l ⟨[(false,7,(.bv true t136 136)),kw 5 t136],[2,4,5],[5]⟩ [(some 2,⟨[kw 5 t136],[4,5],[5]⟩)] (sz (.s (.b (sz (sz (.b (.l ⟨[kv 39 t3,kw 5 t136],[2,4,5,7,37,38],[39,5]⟩ [(some 4,⟨[kw 5 t136],[2,4,5,7],[5]⟩)] .z))))) .z))))) .z)))) func148
def s96:FS:=⟨(.cons t140 (.cons t136 .nil)),(.cons t4 .nil),[none],fun x=>jc x.1 x.2.1⟩
theorem zDv:s96.ok prog 96:=fS ((E0).S QT) (sz (sz (.s (sz (.b (.l ⟨[kv 11 t3,kw 5 t136],[2,3,5,10],[11,5]⟩ [(some 0,⟨[kw 5 t136],[2,3,5],[5]⟩)] .z))) .z))) func96
def zID:FS:=⟨(.cons t28 .nil),(.cons t28 .nil),[some 107],fun x=>zh x.1⟩
theorem zBK:zID.ok prog 144:=fS (E0) .z func144
def zIB:FS:=⟨(.cons t107 (.cons (.box t107) .nil)),(.cons t4 .nil),[none],fun x=>yT x.1 x.2.1⟩
theorem zBI:zIB.ok prog 146:=fS ((E0).S mq) .z func146
def zIC:FO:=⟨t107,107,(.cons t166 .nil),true,fun xs x=>zl xs x.1⟩
theorem zBJ:zIC.ok prog 145:=fO ((E0).S QO) (sz (sz (sz (.s (sz (.b (.l ⟨[kw 0 t28,kv 5 t3,kv 6 t3],[0,1],[5,6]⟩ [(some 0,⟨[kw 0 t28,kv 5 t3],[0],[5]⟩)] (sz (.s (.b (sz (sz (.j ⟨[kw 0 t28,kv 5 t3],[0,1,6],[5]⟩ .z .z)))) .z))))) (.s (.f [0] .z) (.s (.xg ⟨[(false,4,(.o false t107 107))],[],[]⟩) .z)))))) func145
def s92:FS:=⟨(.cons t140 (.cons t136 .nil)),(.cons t4 (.cons t43 .nil)),[none,none],fun x=>vr x.1 x.2.1⟩
theorem WC:s92.ok prog 92:=fS ((((((E0).S QX).O zBJ).S zBI).S qk).S zBK) (sz (sz (.s (sz (.b (.l ⟨[ko 6 t107 107,kv 22 t3],[2,20,21],[22]⟩ [(some 0,⟨[ko 6 t107 107],[2],[]⟩)] .z))) (.s (.s (.f [6] .z) (.b (.l ⟨[kv 41 t3],[2,6,39,40],[41]⟩ [(some 2,⟨[],[],[]⟩),(none,⟨[kv 4 t4,kv 5 t43],[],[4,5]⟩)] (sz (sz (.s (.jb ⟨[],[2,6,39,40,41],[]⟩ .z) .z)))))) .z)))) func92
def zIm:FS:=⟨(.cons t140 (.cons t136 .nil)),(.cons t3 .nil),[none],fun x=>gw x.1 x.2.1⟩
theorem Qb:zIm.ok prog 101:=fS ((E0).S qk) (sz (sz (.s (sz (.b (.l ⟨[kv 5 t3,kv 11 t3],[2,9,10],[5,11]⟩ [(some 0,⟨[kv 5 t3],[],[5]⟩)] .z))) .z))) func101
def zIn (n:Nat):FK:=⟨(.cons t3 (.cons t136 .nil)),[.r t140 140,.p t3 3,.p t136 136,.s 147],t43,43,fun x c y=>YF n x.1 x.2.1 c.1 y.1 y.2.1⟩
theorem zBd:∀n,(zIn n).ok prog 100:=zDD ⟨_,func100,rfl,by kernel_rfl⟩ (fun _ _ _=>rfl) fun n ih=>fK ((((E0).S Qb).S WC).S zDv) (sz (.s (sz (.j ⟨[kw 3 t3,kw 4 t136],[0,2,3,4,5,7],[3,4]⟩ (sz (.s (sz (.s .q .z)) (sz (sz (.j ⟨[kw 3 t3,kw 4 t136],[0,2,3,4,5,7],[3,4]⟩ (.xr [2,3] [0,1,2,3] [(1,[3])]) .z))))) .z)) (sz (.b (.l ⟨[kv 11 t3,kw 3 t3,kw 4 t136],[2,3,4,5,7],[11,3,4]⟩ [(some 0,⟨[kw 3 t3,kw 4 t136],[2,3,4,5],[3,4]⟩),(some 1000000007,⟨[kv 0 t43],[],[]⟩)] (sz (.s (.b (sz (sz .q))) .z))))))) ih func100
def zIj:FS:=⟨(.cons t140 (.cons t136 (.cons t136 .nil))),(.cons t4 .nil),[none],fun x=>jK x.1 x.2.1 x.2.2.1⟩
theorem zBb:zIj.ok prog 110:=fS ((((E0).S WC).S qk).S QT) (sz (sz (.s (sz (.b (.l ⟨[kv 18 t3],[3,7,16,17],[18]⟩ [(some 0,⟨[],[3,7],[]⟩),(none,⟨[kv 6 t4],[],[6]⟩)] .z))) .z))) func110
def zHy (n:Nat):FK:=⟨(.cons t3 (.cons t136 (.cons t136 .nil))),[.r t3 3,.r t140 140,.o t81 81 73,.s 185],.nil,0,fun x c y=>ja n x.1 x.2.1 x.2.2.1 c.1 c.2.1 y.1⟩
theorem zBG:∀n,(zHy n).ok prog 151:=zDD ⟨_,func151,rfl,by kernel_rfl⟩ (fun _ _ _=>rfl) fun n ih=>fK (((E0).S zBb).S Qb) (sz (.b (sz (.j ⟨[(true,5,(.o false t81 81))],[3,4,5,6],[]⟩ .z (sz (.j ⟨[(true,5,(.o false t81 81))],[3,4,5,6],[]⟩ .z (sz (.s (.xr [2,3,4,5] [0,1,3,2,4,5] [(0,[]),(1,[10])]) (sz (.s .q .q)))))))))) ih func151
def zIl:FS:=⟨(.cons t140 (.cons t3 .nil)),(.cons t73 .nil),[some 81],fun x=>jw x.1 x.2.1⟩
theorem zBc:zIl.ok prog 102:=fSK (E0) (zBG 40) (sz (sz (sz (sz (.s .q .z))))) func102
def s37:FS:=⟨(.cons t36 .nil),(.cons t23 (.cons t3 (.cons t73 (.cons t43 .nil)))),[none,none,none,none],fun x=>JU x.1⟩
theorem zEV:s37.ok prog 37:=fR (c:=Tryz.f37.body.getD .skip) (((((E0).S qk).S zBc).S zDw).S WN) (zBd 40) zDn .z .z (sz (sz (sz (sz (.s .q (sz (.s (.xr [1,5,6,7,8,9] [0,2,3,4,1,5,6,7,8,9] [(2,[2]),(3,[]),(4,[])]) .z))))))) (sz (.j ⟨[kw 0 t23,kw 1 t3,kw 2 t73,kw 3 t43],[0,1,2,3],[0,1,2,3]⟩ .z .z)) func37
def s13:FS:=⟨(.cons t25 .nil),(.cons t4 .nil),[none],fun x=>jj x.1⟩
theorem zEe:s13.ok prog 13:=fS ((((((E0).S HL).S WL).S zEV).J zEc).S zEd) (sz (sz (sz (.s (sz (.b (.l ⟨[kv 24 t3,(true,4,(.ag (.pr (.v t30) (.pr (.v t33) (.pr (.o true t62 62) .un)))))],[3,4,23],[24]⟩ [(some 0,⟨[(true,4,(.ag (.pr (.v t30) (.pr (.v t33) (.pr (.o true t62 62) .un)))))],[3,4],[]⟩)] .z))) .z)))) func13
end Go.Dn
end
section
namespace Go.Lift
open Go Go.RowKit Go.Eng Go.ChangeShapes Go.WideShapes Go.ChangeAt Go.Joins Go.Deep Go.WideElems
variable {H:Type} {enc:TypeId×Value→H} {P:Program} {w:World} {base:Nat} {sp:Nat→Bool} {held:Bool} {α β γ:Type}
abbrev O0:zS:=fun _=>0
structure Opens (enc:TypeId×Value→H) (P:Program) (w:World) (base:Nat) (sp:Nat→Bool) (held:Bool) (t:Nat) (r:GR α) (Q:α→Prop):Prop where
 size:P.cellsOf t=r.sz
 fits:r.fits
 op:∀fuel cs x,DataW.trod enc P w base sp held fuel t cs=some x→∃y,r.rel O0 w cs y∧Q y
theorem H8 {t:Nat} {k:IntKind} (ht:P.underlying t=some (.int k)) (hs:P.cellsOf t=1):Opens enc P w base sp held t (Vc k) fun n=>(Lit.int k n).wf=true :=
 ⟨hs,fun _=>rfl,fun fuel cs x h=>by obtain⟨n,h1,_,h2⟩:=DataW.trod_int ht h;exact⟨n,h1,h2⟩⟩
theorem E3 {r:GR α} {O:zS} {Q:α→Prop}:∀ {vs:List Value},(∀v∈vs,∃y,r.v O w v y∧Q y)→∃ys,yi r O w vs ys∧∀y∈ys,Q y
 | [],_=>⟨[],trivial,by simp⟩
 |v::vs,h=>by
   obtain⟨y,h1,h2⟩:=h v (by simp)
   obtain⟨ys,h3,h4⟩:=E3 (vs:=vs) fun u hu=>h u (List.mem_cons_of_mem _ hu)
   exact⟨y::ys,⟨h1,h3⟩,fun z hz=>(List.mem_cons.1 hz).elim (fun e=>by rw[e];exact h2) (h4 z)⟩
theorem wU {t e:Nat} {r:GR α} {Q:α→Prop} (ht:P.underlying t=some (.slice e)) (hs:P.cellsOf t=1) (hE:Opens enc P w base sp held e r Q) (hpos:0<r.sz):Opens enc P w base sp held t (rSl r) fun xs=>(∀x∈xs,Q x)∧xs.length≤maxLen:=by
 refine⟨hs,fun _=>rfl,fun fuel cs x h=>?_⟩
 rcases DataW.trod_slice ht h with ⟨rfl,_⟩|⟨a,len,cap,elems,rest,n,_,rfl,_,hb,hl,hm,hlen,hel,_,_⟩
 ·exact⟨[],⟨_,[],rfl,⟨none,0,rfl,by simp,by simp,.inl rfl⟩,trivial,fun h=>absurd rfl h⟩,by simp,by simp⟩
 ·have each:∀i,i<len→∃cs,w.cells? base (a.add (i * r.sz)) r.sz=some cs∧∃y,r.rel O0 w cs y∧Q y:=by
   intro i hi
   have:=hel i hi
   rw[List.getElem?_eq_getElem (by omega),hE.size,Option.bind_eq_some_iff]at this
   obtain⟨cs,h1,h2⟩:=this
   exact⟨cs,h1,hE.op n cs _ h2⟩
  let f:Nat→Value:=fun i=>z6 r.agg ((w.cells? base (a.add (i * r.sz)) r.sz).getD [])
  have hf:∀i,i<len→∃y,r.v O0 w (f i) y∧Q y:=by
   intro i hi
   obtain⟨cs,h1,y,h2,h3⟩:=each i hi
   exact⟨y,⟨cs,h2,by show z6 r.agg ((w.cells? base (a.add (i * r.sz)) r.sz).getD [])=_;rw[h1];rfl⟩,h3⟩
  have hfc:∀i,i<len→∀j,j<r.sz→w.cell? (a.add (i * r.sz+j))=(f i).cells[j]?:=by
   intro i hi j hj
   obtain⟨cs,h1,y,h2,_⟩:=each i hi
   have h4:=(World.cells?_some h1).2.2 j hj
   have h5:(f i).cells=cs.toArray:=by
    show (z6 r.agg ((w.cells? base (a.add (i * r.sz)) r.sz).getD [])).cells=_
    rw[h1]
    exact j0 (fun ha=>by show cs.length=1;rw[r.len h2,hE.fits ha]) (r.one h2)
   rw[h5,List.getElem?_toArray,←h4]
   rw[_root_.Go.Addr.add_add]
  obtain⟨ys,h1,h2⟩:=E3 (r:=r) (O:=O0) (w:=w) (Q:=Q) (vs:=(List.range len).map f) (by
   intro v hv
   obtain⟨i,hi,rfl⟩:=List.mem_map.1 hv
   exact hf i (List.mem_range.1 hi))
  have hyl:ys.length=len:=by have:=h1.len;simpa using this.symm
  refine⟨ys,⟨_,(List.range len).map f,rfl,⟨some a,cap,by simp,by simpa using hl,?_,?_⟩,h1,?_⟩,h2,by omega⟩
  ·intro v hv
   obtain⟨y,hy⟩:∃y,r.v O0 w v y:=by
    obtain⟨i,hi,rfl⟩:=List.mem_map.1 hv
    obtain⟨y,hy,_⟩:=hf i (List.mem_range.1 hi);exact⟨y,hy⟩
   exact r.ZY hE.fits hy
  ·by_cases h0:len=0
   ·left;simp[h0]
   ·right
    obtain⟨b,off,spot⟩:=a
    have hc0:(w.cell? (Addr.add ⟨b,off,spot⟩ (0 * r.sz+0))).isSome=true:=by
     rw[hfc 0 (by omega) 0 hpos]
     obtain⟨y,hy,_⟩:=hf 0 (by omega)
     have:=r.ZY hE.fits hy
     rw[Array.getElem?_eq_getElem (by omega)];rfl
    obtain⟨v0,hv0⟩:=Option.isSome_iff_exists.1 hc0
    have hspot:spot=none:=by simpa[Addr.add] using World.cell?_spot hv0
    subst hspot
    refine⟨b,off,rfl,fun i x hx j hj=>?_⟩
    have hi:i<len:=by have:=(List.getElem?_eq_some_iff.1 hx).1;simpa using this
    have hx':x=f i:=by
     rw[List.getElem?_map,List.getElem?_range hi]at hx
     simpa using hx.symm
    rw[hx',←hfc i hi j hj]
    unfold Addr.add
    split
    ·rename_i h0;congr 1;simp[h0]
    ·rfl
  ·intro hne g hg
   have h0:0<len:=by
    rcases Nat.eq_zero_or_pos len with h0|h0
    ·subst h0;exact absurd rfl hne
    ·exact h0
   have hgb:g=a.block:=by
    have:(Value.slice (some a) len cap).ownBlock=some a.block:=rfl
    rw[this]at hg;exact(Option.some.inj hg).symm
   subst hgb
   refine⟨?_,rfl⟩
   obtain⟨cs,h3,_⟩:=each 0 h0
   have h4:=(World.cells?_some h3)
   have h5:=h4.2.2 0 hpos
   rw[List.getElem?_eq_getElem (by omega)]at h5
   have he:(a.add (0 * r.sz)).add 0=a:=by simp[Addr.add]
   rw[he]at h5
   exact World.block_lt_of_cell? _ _ h5
theorem My {t:Nat} {r:GR α} {Q:α→Prop} {v:Value} {d:DataW H} {ps:List MemPlace} (hE:Opens enc P w base sp held t r Q) (hv:z6 r.agg v.cells.toList=v) (h:DataW.Trod enc P w base sp held t v d ps):∃x,r.v O0 w v x∧Q x:=by
 obtain⟨fuel,hf⟩:=h
 obtain⟨y,h1,h2⟩:=hE.op fuel _ _ hf
 exact⟨y,⟨_,h1,hv.symm⟩,h2⟩
theorem zBu:OkO O0 w:=fun _ _=>rfl
theorem zDW (cs:List Value) (off s:Nat):cs.drop off=(cs.drop off).take s++cs.drop (off+s):=by
 rw[←List.drop_drop,List.take_append_drop]
theorem Opens.at_ {t:Nat} {r:GR α} {Q:α→Prop} (hE:Opens enc P w base sp held t r Q) {off n:Nat} {cs:List Value} {y} (h:DataW.trod enc P w base sp held n t ((cs.drop off).take (P.cellsOf t))=some y):∃a,r.rel O0 w ((cs.drop off).take r.sz) a∧Q a:=by
 rw[hE.size]at h;exact hE.op n _ _ h
theorem lr {t:Nat} {fs:Array Field} {r:GR α} {Q:α→Prop} {re:Reach} {b0:Nat} {v:Value} {d:DataW H} {ps:List MemPlace} (ht:P.underlying t=some (.struct fs)) (hE:Opens enc P w base sp held t r Q) (ha:r.agg=true) (hval:Value.okWide P w re b0 t v) (h:DataW.Trod enc P w base sp held t v d ps):∃x,r.v O0 w v x∧Q x:=by
 obtain⟨cs,rfl,_⟩:=okWide_struct ht hval
 exact My hE (by simp[Value.cells,z6,ha]) h
end Go.Lift
end
section
namespace Go.Den
open Go Go.RowKit Go.Eng Go.Lift Go.ChangeShapes Go.WideShapes Go.ChangeAt Go.Joins Go.Deep Go.WideElems
variable {H:Type} {enc:TypeId×Value→H} {P:Program} {w:World} {base:Nat} {sp:Nat→Bool} {held:Bool} {α β γ:Type}
theorem DG {rs vs:List Value} {v v1:Value} (h3:kV rs v) (h4:rs=v1::vs) (h7:vs=[]):v=v1:=by
 subst h7 h4
 rcases h3 with h|h
 ·cases h
 ·exact h
end Go.Den
end
section
namespace Go.Proofs.YtknbpncolbmoaaaGreat.billBestDone
open Go Go.ChangeShapes Go.WideShapes Go.ChangeAt Go.RowKit Go.Eng Go.Lift Go.Joins Go.Den Go.Dn
open Go.ChangeMaps (open_string shut_string)
set_option maxRecDepth 100000
theorem zIu {H:Type} {enc:TypeId×Value→H} {w:World} {base:Nat} {sp:Nat→Bool} {held:Bool}:Opens enc Tryz.prog w base sp held 3 (Ty.gr Tryz.prog t3) (fun (z:Int)=>(Lit.int .i64 z).wf=true):=H8 Tryz.underlying3 (by kernel_rfl)
theorem Rg {H:Type} {enc:TypeId×Value→H} {w:World} {base:Nat} {sp:Nat→Bool} {held:Bool}:Opens enc Tryz.prog w base sp held 23 (Ty.gr Tryz.prog t23) (fun (z:List Int)=>(∀y∈(z:List Int),(fun (z:Int)=>(Lit.int .i64 z).wf=true) y)∧(z:List Int).length≤maxLen):=wU Tryz.underlying23 (by kernel_rfl) zIu (of_decide_eq_true (by kernel_rfl))
theorem zDt {H:Type} {enc:TypeId×Value→H} {w:World} {base:Nat} {sp:Nat→Bool} {held:Bool}:Opens enc Tryz.prog w base sp held 22 (Ty.gr Tryz.prog t22) (fun (z:List (List Int))=>(∀y∈(z:List (List Int)),(fun (z:List Int)=>(∀y∈(z:List Int),(fun (z:Int)=>(Lit.int .i64 z).wf=true) y)∧(z:List Int).length≤maxLen) y)∧(z:List (List Int)).length≤maxLen):=wU Tryz.underlying22 (by kernel_rfl) Rg (of_decide_eq_true (by kernel_rfl))
def zJe (x:List (List Int)×List Int×List Int×Unit):Prop:=((∀y∈(x.1:List (List Int)),(fun (z:List Int)=>(∀y∈(z:List Int),(fun (z:Int)=>(Lit.int .i64 z).wf=true) y)∧(z:List Int).length≤maxLen) y)∧(x.1:List (List Int)).length≤maxLen)∧((∀y∈(x.2.1:List Int),(fun (z:Int)=>(Lit.int .i64 z).wf=true) y)∧(x.2.1:List Int).length≤maxLen)∧((∀y∈(x.2.2.1:List Int),(fun (z:Int)=>(Lit.int .i64 z).wf=true) y)∧(x.2.2.1:List Int).length≤maxLen)∧True
theorem zDs {H:Type} {enc:TypeId×Value→H} {w:World} {base:Nat} {sp:Nat→Bool} {held:Bool}:Opens enc Tryz.prog w base sp held 25 (Ty.gr Tryz.prog t25) zJe:=by
 refine⟨by kernel_rfl,Ty.fits _ _,fun fuel cs x h=>?_⟩
 obtain⟨xs,n,rfl,rfl,hl,hlen,hf⟩:=DataW.trod_struct Tryz.underlying25 h
 have hl':cs.length=3:=hl.trans (by kernel_rfl)
 obtain⟨y0,hy0⟩:∃y,xs[0]?=some y:=⟨_,List.getElem?_eq_getElem (by rw[hlen];decide)⟩
 obtain⟨a0,k0,q0⟩:=Opens.at_ (off:=0) (n:=n) (cs:=cs) (zDt (enc:=enc) (w:=w) (base:=base) (sp:=sp) (held:=held)) ((hf 0 _ rfl).trans hy0)
 obtain⟨y1,hy1⟩:∃y,xs[1]?=some y:=⟨_,List.getElem?_eq_getElem (by rw[hlen];decide)⟩
 obtain⟨a1,k1,q1⟩:=Opens.at_ (off:=1) (n:=n) (cs:=cs) (Rg (enc:=enc) (w:=w) (base:=base) (sp:=sp) (held:=held)) ((hf 1 _ rfl).trans hy1)
 obtain⟨y2,hy2⟩:∃y,xs[2]?=some y:=⟨_,List.getElem?_eq_getElem (by rw[hlen];decide)⟩
 obtain⟨a2,k2,q2⟩:=Opens.at_ (off:=2) (n:=n) (cs:=cs) (Rg (enc:=enc) (w:=w) (base:=base) (sp:=sp) (held:=held)) ((hf 2 _ rfl).trans hy2)
 exact⟨⟨a0,a1,a2,()⟩,⟨_,_,zDW cs 0 1,k0,⟨_,_,zDW cs 1 1,k1,⟨_,_,zDW cs 2 1,k2,List.drop_of_length_le (by rw[hl'];decide)⟩⟩⟩,⟨q0,q1,q2,trivial⟩⟩
theorem own:ownKnob Tryz.prog.godebug=none:=by kernel_rfl
theorem laidOut:laidOutB Tryz.prog=true:=by kernel_rfl
theorem lifted (os:Os) (started:os.Started) (H:Type) (enc:TypeId×Value→H) :
  ReturnsInHanded {} Tryz.checked os 13 .any (Rows.billBestSpec.pre6 enc Tryz.prog Tryz.f13 Rows.billBestRow.domain false) (Rows.billBestSpec.post enc Tryz.prog Tryz.f13 false true false false):=by
 refine returnsInHanded_of_change (C:=Tryz.checked) own started (by kernel_rfl) Tryz.func13
  (ChangeSpec.witness6 (enc:=enc) (C:=Tryz.checked) false ⟨#[],#[.agg #[.slice none 0 0,.slice none 0 0,.slice none 0 0]],[]⟩ 8 (by kernel_rfl) (by kernel_rfl) (by kernel_rfl) (by kernel_rfl)) ?_
 intro W base args ds gs before hval0 hW hcnd _
 have hval:∀(j:Nat) t v,Tryz.f13.params[j]?=some t→args[j]?=some v→Value.okWide Tryz.prog W .any base t v:=hval0
 have hW':=hW
 obtain⟨p,q,hA0,hV,rfl,hfz,hnd⟩:=hW
 have hA:DataW.TrodAll enc Tryz.prog W 0 (fun _=>true) true Tryz.f13.params.toList args.toList ds p:=hA0
 rw[Tryz.params13]at hA hval
 obtain⟨v0,vs0,d0,ds0,p0,q0_,hargs,rfl,rfl,h0,r0⟩:=trodAll_cons hA
 obtain⟨rfl,rfl,rfl⟩:=trodAll_nil r0
 obtain rfl:args=#[v0]:=by cases args;simp_all
 obtain⟨rfl,rfl⟩:=trodVars_none hV
 have k0:=h0
 have lt0:∀x∈p0,x.block<W.heap.size:=by obtain⟨m,hm⟩:=k0;exact DataW.trod_lt m _ _ _ hm
 obtain⟨x0,hr0,q0⟩:=lr Tryz.underlying25 zDs rfl (hval 0 25 v0 rfl rfl) h0
 clear hA0 hval0
 obtain⟨⟨b_,u_⟩,hv_,hb_⟩:=(Go.Geo.NO x0)
 obtain⟨n_,hn_⟩:=vC.1 hv_
 have walk:=zEe.2 O0 W zBu [v0] (x0,()) ⟨_,_,rfl,hr0,rfl⟩ n_ _ hn_
 refine Calls.mono (R:=fun e W'=>e=.returned (.bool true)∧Below W.heap.size W W') ?_ fun e W' ⟨he,bel⟩=>?_
 ·exact Calls.mono walk fun e W' ⟨v,h1,h2,rs,h3,v1,vs1,h4,⟨cs,h5,h6⟩,h7,_⟩=>⟨by rw[h1,DG h3 h4 h7,h6,show cs=[Value.bool b_] from h5,show b_=true from hb_];rfl,h2⟩
 ·subst he
  exact⟨_,rfl,_,_,_,[],_,[],hW',trodAll_mk1 (shut_bool Tryz.underlying4 _),(trodAll_cons_mk (Below.trod laidOut (by kernel_rfl) (of_decide_eq_true (by kernel_rfl)) k0 bel lt0) trodAll_mk0),rfl,bel.frame _,fun h=>by cases h⟩
theorem proved:Rows.BillBestSaid :=
 OpenClaim.holds_of_wide 13 Tryz.f13 rfl rfl rfl rfl rfl rfl rfl ⟨rfl,rfl,rfl,rfl,rfl⟩ rfl rfl rfl rfl rfl (by kernel_rfl) Tryz.func13 (by kernel_rfl)
  (of_decide_eq_true (by kernel_rfl)) (by unfold Func.isWrapper;first|(rw[if_pos (by decide +kernel)];kernel_rfl)|(rw[if_neg (by decide +kernel)];exact⟨rfl,rfl⟩))
  (fun os started H enc _=>lifted os started H enc)
#print axioms proved
end Go.Proofs.YtknbpncolbmoaaaGreat.billBestDone
end
