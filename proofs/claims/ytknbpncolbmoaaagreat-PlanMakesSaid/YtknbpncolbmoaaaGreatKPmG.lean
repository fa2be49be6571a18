/- Lemmas behind a claim. -/
import Derived.Test.YtknbpncolbmoaaaGreatKPmF
import Derived.SliceStrings
import Derived.ChangeSlices
import Derived.Lib.SmallJoins
import Derived.OpenShut
import Derived.ShutString
import Derived.ChangeOld
set_option linter.unusedSimpArgs false
set_option linter.unusedVariables false
noncomputable section
set_option maxRecDepth 200000
namespace Go.Dn
open Go Go.Proofs Go.RowKit Go.Eng Go.Lift Go.Den
def t222:Ty:=.seq (.cons t224 .nil)
def t235:Ty:=.seq (.cons (.slo t106) .nil)
open Go.F Go.Proofs.Tryz
abbrev sz(h:H):H:=.s .z h
abbrev kv(n:Nat)(t:Ty):Bool×Nat×Knd:=(false,n,.v t)
abbrev kw(n:Nat)(t:Ty):Bool×Nat×Knd:=(true,n,.v t)
abbrev ko(n:Nat)(t:Ty)(T:Nat):Bool×Nat×Knd:=(false,n,.o true t T)
def s55:FS:=⟨(.cons t104 (.cons t104 .nil)),(.cons t107 .nil),[some 106],fun x=>zw x.1 x.2.1⟩
theorem IJ:s55.ok prog 55:=fS (E0) .z func55
def zKm:FS:=⟨(.cons t3 (.cons t3 .nil)),(.cons t107 .nil),[some 106],fun x=>yb x.1 x.2.1⟩
theorem zDp:zKm.ok prog 136:=fS ((E0).S IJ) .z func136
def s84:FS:=⟨(.cons t30 .nil),(.cons t33 .nil),[none],fun x=>jL x.1⟩
theorem zBS:s84.ok prog 84:=fS (E0) (sz (.s (.xr [3,9] [0,1,2,4,5,6,7,3,8,9] [(4,[]),(5,[]),(6,[]),(7,[])]) .z)) func84
def s77:FJ:=⟨.nil,(.pr (.ag (.pr (.v t30) (.pr (.v t33) (.pr (.o true t62 62) .un)))) .un),fun x=>y6 ⟩
theorem zBT:s77.ok prog 77:=fJ (((E0).S zBS).S zDp) (sz (sz (.s (.f [1] (.xr [2,4,16,18] [0,1,2,3,6,7,8,9,10,11,12,13,14,15,4,5,16,17,18] [(0,[]),(6,[]),(7,[]),(8,[]),(9,[]),(10,[]),(11,[]),(12,[]),(13,[]),(14,[]),(15,[])])) .z))) func77
def zLE:FS:=⟨(.cons t3 .nil),(.cons t4 .nil),[none],fun x=>gD x.1⟩
theorem zDy:zLE.ok prog 117:=fS (E0) .z func117
def zKt:FS:=⟨(.cons t23 (.cons t117 .nil)),(.cons t3 .nil),[none],fun x=>kC x.1 x.2.1⟩
theorem zDt:zKt.ok prog 129:=fS (E0) (sz (.s (sz (.b (.l ⟨[kv 8 t3],[0,1,7],[8]⟩ [(some 0,⟨[],[],[]⟩),(none,⟨[kv 4 t3],[],[4]⟩)] .z))) .z)) func129
def s72:FS:=⟨(.cons t23 (.cons t117 .nil)),(.cons t4 .nil),[none],fun x=>zl x.1 x.2.1⟩
theorem zBU:s72.ok prog 72:=fS ((E0).S zDt) .z func72
def zKK:FS:=⟨(.cons t28 (.cons t166 .nil)),(.cons t3 .nil),[none],fun x=>yL x.1 x.2.1⟩
theorem Rm:zKK.ok prog 168:=fS (E0) (sz (.s (sz (.b (.l ⟨[kv 8 t3],[0,1,7],[8]⟩ [(some 0,⟨[],[],[]⟩),(none,⟨[kv 4 t3],[],[4]⟩)] .z))) .z)) func168
def zKi:FS:=⟨(.cons t28 (.cons t166 .nil)),(.cons t4 .nil),[none],fun x=>zG x.1 x.2.1⟩
theorem l9:zKi.ok prog 140:=fS ((E0).S Rm) .z func140
def zJr:FS:=⟨(.cons t107 (.cons t198 .nil)),(.cons t3 .nil),[none],fun x=>yK x.1 x.2.1⟩
theorem Ri:zJr.ok prog 188:=fS (E0) (sz (.s (sz (.b (.l ⟨[kv 8 t3],[0,1,7],[8]⟩ [(some 0,⟨[],[],[]⟩),(none,⟨[kv 4 t3],[],[4]⟩)] .z))) .z)) func188
def zKN:FS:=⟨(.cons t107 (.cons t198 .nil)),(.cons t4 .nil),[none],fun x=>zY x.1 x.2.1⟩
theorem Rn:zKN.ok prog 165:=fS ((E0).S Ri) .z func165
def zJq:FS:=⟨(.cons t3 (.cons t23 .nil)),(.cons t4 .nil),[none],fun x=>jK x.1 x.2.1⟩
theorem zDP:zJq.ok prog 189:=fS (E0) (sz (.s (sz (.b (.l ⟨[kv 9 t3],[0,7,8],[9]⟩ [(some 0,⟨[],[],[]⟩),(none,⟨[kv 4 t4],[],[4]⟩)] .z))) .z)) func189
def zJS:FS:=⟨(.cons t3 .nil),(.cons t3 .nil),[none],fun x=>jj x.1⟩
theorem zCt:zJS.ok prog 213:=fS (E0) .z func213
def zJp:FS:=⟨(.cons t23 .nil),(.cons t3 .nil),[none],fun x=>Zf x.1⟩
theorem zDO:zJp.ok prog 190:=fS ((E0).S zCt) (sz (sz (.s (sz (.b (.l ⟨[kv 3 t3,kv 8 t3],[6,7],[3,8]⟩ [(some 0,⟨[kv 3 t3],[],[3]⟩),(none,⟨[kv 2 t3],[],[2]⟩)] (sz (sz (.s (.b (sz (sz (sz (.b (.l ⟨[kv 3 t3,kv 5 t3],[6,7,8],[3,5]⟩ [(some 2,⟨[kv 3 t3],[6,7,8],[3]⟩)] .z)))))) .z)))))) .z))) func190
def zKL:FS:=⟨(.cons t106 .nil),(.cons t4 .nil),[none],fun x=>Yw x.1⟩
theorem zDb:zKL.ok prog 167:=fS (((E0).S zDO).S zDP) (sz (.s (.xg ⟨[kv 2 t4],[],[2]⟩) .z)) func167
def zKM:FS:=⟨(.cons t106 .nil),(.cons t4 .nil),[none],fun x=>kJ x.1⟩
theorem zDc:zKM.ok prog 166:=fS ((E0).S zDb) .z func166
def zKj:FS:=⟨(.cons t107 .nil),(.cons t43 .nil),[none],fun x=>vn x.1⟩
theorem uH:zKj.ok prog 139:=fS (((E0).S zDc).S Rn) .z func139
def zKH:FS:=⟨(.cons t107 .nil),(.cons t4 .nil),[none],fun x=>jR x.1⟩
theorem zDY:zKH.ok prog 172:=fS ((E0).S uH) .z func172
def zKY:FS:=⟨(.cons t28 .nil),(.cons t4 .nil),[none],fun x=>ZY x.1⟩
theorem Ez:zKY.ok prog 154:=fS (((E0).S zDY).S l9) .z func154
def zJm:FS:=⟨(.cons t3 .nil),(.cons t107 .nil),[some 106],fun x=>vt x.1⟩
theorem zDM:zJm.okN prog 193:=fN (E0) (sz (.s (sz (.j ⟨[],[0,1],[]⟩ .z .z)) (.s (sz (sz (.j ⟨[ko 0 t106 106],[],[]⟩ (.xg ⟨[ko 0 t106 106],[],[]⟩) .z))) .z))) func193
def zKG:FS:=⟨(.cons t28 .nil),(.cons t107 .nil),[some 106],fun x=>zM x.1⟩
theorem Rl:zKG.ok prog 173:=fS ((E0).N zDM) (sz (sz (.s (sz (.b (.l ⟨[kv 3 t3,kv 11 t3],[0,9,10],[3,11]⟩ [(some 0,⟨[kv 3 t3],[0],[3]⟩)] (sz (sz (.s (.b (sz (sz (sz (.j ⟨[],[0,3,9,10,11],[]⟩ .z .z))))) .z)))))) (sz (.s (sz (.b (.l ⟨[ko 6 t106 106,kv 27 t3],[25,26],[27]⟩ [(some 2,⟨[ko 6 t106 106],[],[]⟩)] .z))) .z))))) func173
def zKX:FS:=⟨(.cons t28 .nil),(.cons t189 .nil),[some 106],fun x=>cell_of x.1⟩
theorem Ey:zKX.ok prog 155:=fS ((E0).S Rl) (sz (sz (.s (sz (.b (.l ⟨[ko 3 t106 106,kv 16 t3],[14,15],[16]⟩ [(some 0,⟨[ko 3 t106 106],[],[]⟩)] .z))) .z))) func155
def zJQ:GS:=⟨(.cons (.box t189) .nil),(.cons t224 .nil),fun x=>vr x.1⟩
theorem zCr:zJQ.ok prog 215:=fQ (E0) (sz (.b (.l ⟨[kv 11 t3],[0,1,9,10],[11]⟩ [(some 0,⟨[],[],[]⟩),(none,⟨[],[],[]⟩)] (sz (sz (.s (.b (sz (.s (.f [4] .z) (.b (.l ⟨[kv 21 t3],[0,1,3,4,9,10,11,19,20],[21]⟩ [(some 2,⟨[],[0,1,9,10,11],[]⟩),(none,⟨[],[],[]⟩)] (sz (sz (.s (.b (sz (.s (.f [6] .z) (.b (.l ⟨[kv 33 t3],[0,1,3,4,6,9,10,11,19,20,21,31,32],[33]⟩ [(some 4,⟨[],[0,1,3,4,9,10,11,19,20,21],[]⟩),(none,⟨[],[],[]⟩)] (sz (sz (.s (.b (sz (.s (.f [8] .y) .z))) .z)))))))) .z)))))))) .z)))))) func215
def zJl:FS:=⟨(.cons t189 .nil),(.cons t222 .nil),[none],fun x=>j8 x.1⟩
theorem zDL:zJl.ok prog 194:=fS ((E0).Q zCr) (sz (.s (.f [1] .z) .z)) func194
def zJP:FS:=⟨(.cons t104 (.cons t104 .nil)),(.cons t104 .nil),[none],fun x=>Zk x.1 x.2.1⟩
theorem zCq:zJP.ok prog 216:=fS (E0) .z func216
def zJg:FS:=⟨(.cons t104 (.cons t104 .nil)),(.cons t3 .nil),[none],fun x=>Zb x.1 x.2.1⟩
theorem Rg:zJg.ok prog 199:=fS (E0) .z func199
def zJN:FS:=⟨(.cons t104 (.cons t3 .nil)),(.cons t104 .nil),[none],fun x=>Yc x.1 x.2.1⟩
theorem zCo:zJN.ok prog 218:=fS (E0) .z func218
def zJO:FS:=⟨(.cons t104 (.cons t104 .nil)),(.cons t104 .nil),[none],fun x=>XM x.1 x.2.1⟩
theorem zCp:zJO.ok prog 217:=fS (E0) .z func217
def zJM:FS:=⟨(.cons t23 .nil),(.cons t3 .nil),[none],fun x=>Ki x.1⟩
theorem zCn:zJM.ok prog 219:=fS (E0) (sz (sz (.s (sz (.b (.l ⟨[kv 3 t3,kv 8 t3],[6,7],[3,8]⟩ [(some 0,⟨[kv 3 t3],[],[3]⟩)] (sz (sz (.s (.b (sz (.b (.l ⟨[kv 3 t3,kv 5 t3],[6,7,8],[3,5]⟩ [(some 2,⟨[kv 3 t3],[6,7,8],[3]⟩)] .z)))) .z)))))) .z))) func219
def zJk:FS:=⟨(.cons t224 .nil),(.cons t208 (.cons t4 .nil)),[none,none],fun x=>XO x.1⟩
theorem zDK:zJk.ok prog 195:=fS ((((((E0).S zCn).S zCp).S zCo).S Rg).S zCq) (sz (sz (sz (.s (sz (.b (.l ⟨[kv 5 t3,kv 11 t3,kw 4 t104],[1,2,4,10],[5,11,4]⟩ [(some 0,⟨[kv 5 t3,kw 4 t104],[2,4],[5,4]⟩)] (sz (sz (.s (.b (sz (.s (.xr [13,14] [0,1,2,3,4,5,6,7,8,9,10,11,12,13,14] [(0,[]),(1,[]),(2,[]),(3,[]),(4,[]),(5,[]),(6,[]),(7,[]),(8,[]),(9,[]),(10,[]),(11,[]),(12,[])]) .z))) .z)))))) (sz (sz (.s (sz (.j ⟨[kv 9 t3],[2,4,5],[9]⟩ .z .z)) .z))))))) func195
def zKA:FS:=⟨(.cons t106 (.cons t208 .nil)),(.cons t3 .nil),[none],fun x=>Ze x.1 x.2.1⟩
theorem Ew:zKA.ok prog 179:=fS ((E0).S Rg) .z func179
def zJL:FS:=⟨(.cons t106 (.cons (.box t208) .nil)),(.cons t4 .nil),[none],fun x=>jo x.1 x.2.1⟩
theorem zCm:zJL.ok prog 220:=fS ((E0).S Ew) .z func220
def zJj:FS:=⟨(.cons t107 (.cons t208 .nil)),(.cons t4 .nil),[none],fun x=>Zo x.1 x.2.1⟩
theorem zDJ:zJj.ok prog 196:=fS (((E0).S Rn).S zCm) .z func196
def zKF:FS:=⟨(.cons t189 .nil),(.cons t203 .nil),[some 208],fun x=>vk x.1⟩
theorem Rk:zKF.ok prog 174:=fS ((((E0).S zDJ).S zDK).S zDL) (sz (sz (sz (.s (sz (.b (.l ⟨[(true,3,(.o true t208 208)),(true,4,(.m true t208 t4))],[1,3,4,10],[]⟩ [] (sz (.b (sz (sz (.j ⟨[(true,3,(.o true t208 208)),(true,4,(.m true t208 t4))],[1,3,4,10],[]⟩ .z .z)))))))) .z)))) func174
def zKB:FS:=⟨(.cons t208 (.cons (.box t106) .nil)),(.cons t4 .nil),[none],fun x=>yq x.1 x.2.1⟩
theorem zDU:zKB.ok prog 178:=fS ((E0).S Ew) .z func178
def zJh:FS:=⟨(.cons t203 (.cons t210 .nil)),(.cons t3 .nil),[none],fun x=>vh x.1 x.2.1⟩
theorem zDH:zJh.ok prog 198:=fS (E0) (sz (.s (sz (.b (.l ⟨[kv 8 t3],[0,1,7],[8]⟩ [(some 0,⟨[],[],[]⟩),(none,⟨[kv 4 t3],[],[4]⟩)] .z))) .z)) func198
def zKC:FS:=⟨(.cons t203 (.cons t210 .nil)),(.cons t4 .nil),[none],fun x=>yP x.1 x.2.1⟩
theorem zDV:zKC.ok prog 177:=fS ((E0).S zDH) .z func177
def zKD:FS:=⟨(.cons t106 (.cons (.box t203) .nil)),(.cons t4 .nil),[none],fun x=>y7 x.1 x.2.1⟩
theorem zDW:zKD.ok prog 176:=fS (((E0).S zDV).S zDU) .z func176
def zJi:FS:=⟨(.cons t189 (.cons t198 .nil)),(.cons t3 .nil),[none],fun x=>vR x.1 x.2.1⟩
theorem zDI:zJi.ok prog 197:=fS (E0) (sz (.s (sz (.b (.l ⟨[kv 8 t3],[0,1,7],[8]⟩ [(some 0,⟨[],[],[]⟩),(none,⟨[kv 4 t3],[],[4]⟩)] .z))) .z)) func197
def zKE:FS:=⟨(.cons t189 (.cons t198 .nil)),(.cons t4 .nil),[none],fun x=>yH x.1 x.2.1⟩
theorem zDX:zKE.ok prog 175:=fS ((E0).S zDI) .z func175
def zKW:FS:=⟨(.cons t189 .nil),(.cons t4 .nil),[none],fun x=>gw x.1⟩
theorem Rr:zKW.ok prog 156:=fS ((((E0).S zDX).S zDW).S Rk) .z func156
def zLD:FS:=⟨(.cons t107 .nil),(.cons t4 .nil),[none],fun x=>j5 x.1⟩
theorem AC:zLD.ok prog 118:=fS ((((E0).S Rr).S Ey).S Ez) (sz (.s (.xg ⟨[kv 2 t4],[],[2]⟩) .z)) func118
def zKv:FS:=⟨(.cons t107 (.cons t107 .nil)),(.cons t4 .nil),[none],fun x=>jv x.1 x.2.1⟩
theorem AB:zKv.ok prog 127:=fS ((((E0).S Rr).S Ey).S Ez) (sz (.s (.xg ⟨[kv 4 t4],[],[4]⟩) .z)) func127
def zKV:FS:=⟨(.cons t107 (.cons (.box t107) .nil)),(.cons t4 .nil),[none],fun x=>ji x.1 x.2.1⟩
theorem zDh:zKV.ok prog 157:=fS ((E0).S AB) .z func157
def zLC:FS:=⟨(.cons t107 (.cons t28 .nil)),(.cons t4 .nil),[none],fun x=>vD x.1 x.2.1⟩
theorem E1:zLC.ok prog 119:=fS (((E0).S l9).S zDh) .z func119
def s58:FS:=⟨(.cons t30 .nil),(.cons t43 .nil),[none],fun x=>Zh x.1⟩
theorem zBW:s58.ok prog 58:=fS (((((E0).S E1).S AC).S zBU).S zDy) (sz (sz (sz (sz (.s (sz (.b (.l ⟨[kv 32 t3],[1,30,31],[32]⟩ [(some 1,⟨[],[],[]⟩),(none,⟨[kv 2 t43],[],[2]⟩)] .z))) .z))))) func58
def zKk:FS:=⟨(.cons t107 .nil),(.cons t4 .nil),[none],fun x=>j3 x.1⟩
theorem zDo:zKk.ok prog 138:=fS ((E0).S uH) .z func138
def s87:FS:=⟨(.cons t30 (.cons t33 .nil)),(.cons t4 .nil),[none],fun x=>JO x.1 x.2.1⟩
theorem zGf:s87.ok prog 87:=fS (((E0).S l9).S zDo) .z func87
def zKU:FS:=⟨(.cons t3 .nil),(.cons t28 .nil),[some 107],fun x=>vu x.1⟩
theorem zDg:zKU.okN prog 158:=fN (E0) (sz (.s (sz (.j ⟨[],[0,1],[]⟩ .z .z)) (.s (sz (sz (.j ⟨[ko 0 t107 107],[],[]⟩ (.xg ⟨[ko 0 t107 107],[],[]⟩) .z))) .z))) func158
def zLA:FS:=⟨(.cons t191 .nil),(.cons t28 .nil),[some 107],fun x=>zW x.1⟩
theorem Rx:zLA.ok prog 122:=fS ((E0).N zDg) (sz (sz (.s (sz (.b (.l ⟨[kv 3 t3,kv 11 t3],[0,9,10],[3,11]⟩ [(some 0,⟨[kv 3 t3],[0],[3]⟩)] (sz (sz (.s (.b (sz (sz (sz (.j ⟨[],[0,3,9,10,11],[]⟩ .z .z))))) .z)))))) (sz (.s (sz (.b (.l ⟨[ko 6 t107 107,kv 27 t3],[25,26],[27]⟩ [(some 2,⟨[ko 6 t107 107],[],[]⟩)] .z))) .z))))) func122
def zKh:FS:=⟨(.cons t23 .nil),(.cons t4 .nil),[none],fun x=>jm x.1⟩
theorem Rt:zKh.ok prog 141:=fS (E0) (sz (.s (sz (.b (.l ⟨[kv 3 t3],[0],[3]⟩ [(some 0,⟨[],[],[]⟩),(none,⟨[kv 2 t4],[],[2]⟩)] .z))) .z)) func141
def s88:FS:=⟨(.cons t34 (.cons t3 .nil)),(.cons t43 .nil),[none],fun x=>Zl x.1 x.2.1⟩
theorem zGe:s88.ok prog 88:=fS ((((E0).S Rt).S uH).S Rx) (sz (sz (.s (sz (.b (.l ⟨[kv 22 t3],[0,1,5,20,21],[22]⟩ [(some 0,⟨[],[0,1,5],[]⟩),(none,⟨[kv 4 t43],[],[4]⟩)] .z))) (sz (.s (sz (.b (.l ⟨[kv 43 t3],[0,1,5,41,42],[43]⟩ [(some 2,⟨[],[5],[]⟩),(none,⟨[kv 4 t43],[],[4]⟩)] .z))) .z))))) func88
def s30:FS:=⟨(.cons t36 .nil),(.cons t43 .nil),[none],fun x=>kW x.1⟩
theorem IK:s30.ok prog 30:=fS ((((E0).S zGe).S zGf).S zBW) (sz (sz (sz (sz (.s (sz (.b (.l ⟨[kv 4 t3,kv 33 t3],[1,31,32],[4,33]⟩ [(some 1,⟨[kv 4 t3],[],[4]⟩),(none,⟨[kv 2 t43],[],[2]⟩)] .z))) .z))))) func30
def s91:FS:=⟨(.cons t36 (.cons t23 .nil)),(.cons t136 (.cons t4 .nil)),[none,none],fun x=>YN x.1 x.2.1⟩
theorem zBP:s91.ok prog 91:=fS ((E0).S Rt) (sz (.s (sz (.b (.l ⟨[kv 10 t3,kw 4 t136],[1,2,4,8,9],[10,4]⟩ [(some 0,⟨[kw 4 t136],[1,4],[4]⟩),(none,⟨[kv 5 t4,kw 4 t136],[4],[5,4]⟩)] .z))) .z)) func91
def zKb:FS:=⟨(.cons t107 (.cons (.box t28) .nil)),(.cons t4 .nil),[none],fun x=>vy x.1 x.2.1⟩
theorem zDj:zKb.ok prog 147:=fS ((E0).S E1) .z func147
def s95:FS:=⟨(.cons t36 .nil),(.cons t140 .nil),[none],fun x=>kV x.1⟩
theorem UI:s95.ok prog 95:=fS (((E0).S l9).S zDj) (sz (sz (sz (.s (sz (.b (.l ⟨[kv 16 t3,(true,4,(.o true t107 107))],[1,2,3,4,14,15],[16]⟩ [(some 0,⟨[(true,4,(.o true t107 107))],[1,2,3,4],[]⟩)] (sz (sz (.s (.b (sz (sz (.j ⟨[(true,4,(.o true t107 107))],[1,2,3,4,14,15,16],[]⟩ .z .z)))) .z)))))) (sz (.s (sz (.b (.l ⟨[kv 37 t3,kw 3 t140],[2,3,4,7,33,35,36],[37,3]⟩ [(some 2,⟨[kw 3 t140],[2,3],[3]⟩)] .z))) .z)))))) func95
def zLJ:FS:=⟨(.cons t136 .nil),(.cons t23 .nil),[some 3],fun x=>vw x.1⟩
theorem qy:zLJ.ok prog 103:=fS (E0) (sz (sz (.s (sz (.b (.l ⟨[ko 3 t3 3,kv 7 t3],[6],[7]⟩ [(some 0,⟨[ko 3 t3 3],[],[]⟩)] (sz (sz (.s (.b (sz (sz (.j ⟨[ko 3 t3 3],[6,7],[]⟩ .z .z)))) .z)))))) .z))) func103
def zKI:FS:=⟨(.cons t3 (.cons (.box t136) .nil)),(.cons t4 .nil),[none],fun x=>yr x.1 x.2.1⟩
theorem zDZ:zKI.ok prog 170:=fS (E0) .z func170
def zKa:FS:=⟨(.cons t140 (.cons t136 .nil)),(.cons t136 .nil),[none],fun x=>jl x.1 x.2.1⟩
theorem Rs:zKa.ok prog 148:=fS ((((E0).S zBU).S zDZ).S qy) (sz (sz (.s (sz (.b (.l ⟨[kv 14 t3,kw 5 t136],[2,3,4,5,13],[14,5]⟩ [(some 0,⟨[kw 5 t136],[2,4,5],[5]⟩)] .z))) (.s (sz (.b (.l ⟨[(false,7,(.bv true t136 136)),kw 5 t136],[2,4,5],[5]⟩ [(some 2,⟨[kw 5 t136],[4,5],[5]⟩)] (sz (.s (.b (sz (sz (.b (.l ⟨[kv 39 t3,kw 5 t136],[2,4,5,7,37,38],[39,5]⟩ [(some 4,⟨[kw 5 t136],[2,4,5,7],[5]⟩)] .z))))) .z))))) .z)))) func148
def s96:FS:=⟨(.cons t140 (.cons t136 .nil)),(.cons t4 .nil),[none],fun x=>vZ x.1 x.2.1⟩
theorem zBO:s96.ok prog 96:=fS ((E0).S Rs) (sz (sz (.s (sz (.b (.l ⟨[kv 11 t3,kw 5 t136],[2,3,5,10],[11,5]⟩ [(some 0,⟨[kw 5 t136],[2,3,5],[5]⟩)] .z))) .z))) func96
def s35:FS:=⟨(.cons t36 (.cons t23 .nil)),(.cons t4 .nil),[none],fun x=>zU x.1 x.2.1⟩
theorem zBZ:s35.ok prog 35:=fS (((((E0).S zBO).S UI).S zBP).S IK) .z func35
def s78:FJ:=⟨.nil,(.pr (.ag (.pr (.v t30) (.pr (.v t33) (.pr (.o true t62 62) .un)))) .un),fun x=>gU ⟩
theorem zGl:s78.ok prog 78:=fJ ((E0).J zBT) .z func78
def zKe:FS:=⟨(.cons t28 .nil),(.cons t28 .nil),[some 107],fun x=>zh x.1⟩
theorem zDm:zKe.ok prog 144:=fS (E0) .z func144
def zKc:FS:=⟨(.cons t107 (.cons (.box t107) .nil)),(.cons t4 .nil),[none],fun x=>yy x.1 x.2.1⟩
theorem zDk:zKc.ok prog 146:=fS ((E0).S AB) .z func146
def zKd:FO:=⟨t107,107,(.cons t166 .nil),true,fun xs x=>zn xs x.1⟩
theorem zDl:zKd.ok prog 145:=fO ((E0).S Rm) (sz (sz (sz (.s (sz (.b (.l ⟨[kw 0 t28,kv 5 t3,kv 6 t3],[0,1],[5,6]⟩ [(some 0,⟨[kw 0 t28,kv 5 t3],[0],[5]⟩)] (sz (.s (.b (sz (sz (.j ⟨[kw 0 t28,kv 5 t3],[0,1,6],[5]⟩ .z .z)))) .z))))) (.s (.f [0] .z) (.s (.xg ⟨[(false,4,(.o false t107 107))],[],[]⟩) .z)))))) func145
def zJz:FS:=⟨(.cons t28 .nil),(.cons t43 .nil),[none],fun x=>Yu x.1⟩
theorem zDT:zJz.ok prog 180:=fS ((E0).S uH) (sz (sz (.s (sz (.b (.l ⟨[kv 11 t3],[9,10],[11]⟩ [(some 0,⟨[],[],[]⟩),(none,⟨[kv 2 t43],[],[2]⟩)] .z))) .z))) func180
def zJf:FS:=⟨(.cons t107 .nil),(.cons t203 .nil),[some 208],fun x=>Yz x.1⟩
theorem zDG:zJf.ok prog 200:=fS ((((E0).S Rk).S Ey).S Ez) .z func200
def zKT:FS:=⟨(.cons t107 .nil),(.cons t107 .nil),[some 106],fun x=>zZ x.1⟩
theorem Rq:zKT.ok prog 159:=fS (E0) .z func159
def zJd:FS:=⟨(.cons t106 (.cons (.box t203) .nil)),(.cons t4 .nil),[none],fun x=>j4 x.1 x.2.1⟩
theorem zDE:zJd.ok prog 202:=fS ((E0).S Ew) (sz (sz (.s (sz (.b (.l ⟨[kv 4 t3,kv 9 t3],[2,7,8],[4,9]⟩ [(some 0,⟨[kv 4 t3],[],[4]⟩)] (sz (sz (.s (.b (sz (sz (.j ⟨[kv 4 t3],[2,7,8,9],[4]⟩ .z .z)))) .z)))))) .z))) func202
def zJe:FO:=⟨t106,106,(.cons t198 .nil),true,fun xs x=>yG xs x.1⟩
theorem zDF:zJe.ok prog 201:=fO ((E0).S Ri) (sz (sz (sz (.s (sz (.b (.l ⟨[kw 0 t107,kv 5 t3,kv 6 t3],[0,1],[5,6]⟩ [(some 0,⟨[kw 0 t107,kv 5 t3],[0],[5]⟩)] (sz (.s (.b (sz (sz (.j ⟨[kw 0 t107,kv 5 t3],[0,1,6],[5]⟩ .z .z)))) .z))))) (.s (.f [0] .z) (.s (.xg ⟨[(false,4,(.o false t106 106))],[],[]⟩) .z)))))) func201
def zJc:FO:=⟨t106,106,(.cons t233 .nil),false,fun xs x=>yA xs x.1⟩
theorem zDD:zJc.ok prog 203:=Nk (ρ:=Go.Proofs.Tryz.pE) Go.Proofs.Tryz.zGS (zAx 106 zFz (by kernel_rfl)).ty rfl ⟨_,func203,rfl,by kernel_rfl⟩
def zJK:FS:=⟨(.cons t3 (.cons t3 .nil)),(.cons t3 .nil),[none],fun x=>Zj x.1 x.2.1⟩
theorem zCl:zJK.ok prog 223:=fS (E0) .z func223
def zJb:FS:=⟨(.cons t106 (.cons t106 .nil)),(.cons t3 .nil),[none],fun x=>kG x.1 x.2.1⟩
theorem zDC:zJb.ok prog 204:=fS ((E0).S zCl) (sz (.b (sz (sz (.s (sz (.b (.l ⟨[kv 5 t3,kv 36 t3],[34,35],[5,36]⟩ [(some 0,⟨[kv 5 t3],[],[5]⟩)] .z))) .z))))) func204
def zJa:FO:=⟨t106,106,.nil,true,fun xs x=>yB xs ⟩
theorem zDB:zJa.ok prog 205:=fO (E0) (sz (sz (.s (sz (.b (.l ⟨[kw 0 t107,kv 3 t3],[0],[3]⟩ [(some 0,⟨[kw 0 t107],[0],[]⟩),(none,⟨[(false,2,(.o false t106 106))],[],[]⟩)] (sz (.s (.b (sz (.s (.s (.f [0] .z) (.s (sz (.b (.l ⟨[kw 0 t107,kv 3 t3,kv 5 t3],[0,4],[3,5]⟩ [(some 2,⟨[kw 0 t107,kv 3 t3],[0],[3]⟩)] (sz (.s (.b (sz (.j ⟨[kw 0 t107,kv 3 t3],[0,4,5],[3]⟩ .z .z))) .z))))) (.s (.f [0] .z) (.s (.xg ⟨[(false,2,(.o false t106 106))],[],[]⟩) .z)))) .z))) .z))))) .z))) func205
def zJy:FS:=⟨(.cons t107 .nil),(.cons t107 .nil),[some 106],fun x=>gX x.1⟩
theorem Ev:zJy.ok prog 181:=fS (((((((((E0).O zDB).S zDC).O zDD).O zDF).S zDE).S Rq).S zDG).S AC) .z func181
def zJA:FS:=⟨(.cons t104 (.cons t104 .nil)),(.cons t104 .nil),[none],fun x=>wP x.1 x.2.1⟩
theorem zCb:zJA.ok prog 243:=fS (E0) .z func243
def zJI:FS:=⟨(.cons t106 .nil),(.cons t106 .nil),[none],fun x=>YX x.1⟩
theorem zCj:zJI.ok prog 225:=fS ((E0).S zCb) .z func225
def zJJ:GS:=⟨(.cons (.box t107) (.cons (.box t107) .nil)),(.cons (.slo t106) .nil),fun x=>jh x.1 x.2.1⟩
theorem zCk:zJJ.ok prog 224:=fQ ((((E0).S Ev).S Rl).S zCj) (sz (sz (.b (.l ⟨[kv 4 t107,kv 11 t3],[0,9,10],[4,11]⟩ [(some 0,⟨[],[],[]⟩),(none,⟨[],[],[]⟩)] (sz (sz (.s (.b (sz (.s (.s (.f [6] .z) (.s (.s .y .z) .z)) (.s (sz (.s .y .z)) .z)))) .z))))))) func224
def zJZ:FS:=⟨(.cons t107 (.cons t107 .nil)),(.cons t235 .nil),[none],fun x=>Zi x.1 x.2.1⟩
theorem zDA:zJZ.ok prog 206:=fS ((E0).Q zCk) (sz (.s (.f [2,3] .z) .z)) func206
def zJx:FS:=⟨(.cons t28 (.cons t107 .nil)),(.cons t28 (.cons t43 .nil)),[none,none],fun x=>kF x.1 x.2.1⟩
theorem zDS:zJx.ok prog 182:=fS (((((E0).S zDA).S AB).S Ev).S AC) (sz (sz (sz (.s (.f [16,6] .z) (.s (sz (.b (.l ⟨[kv 19 t3,kw 4 t28,kw 5 t43,(true,7,(.o true t107 107))],[1,4,5,6,7,17,18],[19,4,5]⟩ [(some 0,⟨[kw 4 t28,kw 5 t43,(true,7,(.o true t107 107))],[4,5,7],[4,5]⟩),(none,⟨[kw 4 t28,kw 5 t43],[4,5],[4,5]⟩)] (sz (sz (.s (.jb ⟨[kw 4 t28,kw 5 t43,(true,7,(.o true t107 107))],[1,4,5,6,7,17,18,19],[4,5]⟩ (sz (sz (sz (.b (.l ⟨[kw 4 t28,kw 5 t43,(true,7,(.o true t107 107))],[1,4,5,6,7,17,18,19,32],[4,5]⟩ [(none,⟨[kw 4 t28,kw 5 t43],[4,5],[4,5]⟩)] (sz .z))))))) .z)))))) .z))))) func182
def zKS:FS:=⟨(.cons t107 (.cons t28 .nil)),(.cons t28 (.cons t43 .nil)),[none,none],fun x=>Ys x.1 x.2.1⟩
theorem zDf:zKS.ok prog 160:=fS ((((((E0).S zDS).S Ev).S AC).S zDT).S uH) (sz (sz (sz (sz (sz (.s (.s (.f [27] .z) (.b (.l ⟨[kv 8 t28,kv 30 t3],[28,29],[8,30]⟩ [(some 0,⟨[kv 8 t28],[],[8]⟩),(none,⟨[kv 4 t28,kv 5 t43],[],[4,5]⟩)] .z))) .z)))))) func160
def zKu:FS:=⟨(.cons t28 (.cons t107 .nil)),(.cons t4 (.cons t43 .nil)),[none,none],fun x=>gV x.1 x.2.1⟩
theorem Rw:zKu.ok prog 128:=fS ((E0).S zDf) .z func128
def s92:FS:=⟨(.cons t140 (.cons t136 .nil)),(.cons t4 (.cons t43 .nil)),[none,none],fun x=>vJ x.1 x.2.1⟩
theorem UJ:s92.ok prog 92:=fS ((((((E0).S Rw).O zDl).S zDk).S qy).S zDm) (sz (sz (.s (sz (.b (.l ⟨[ko 6 t107 107,kv 22 t3],[2,20,21],[22]⟩ [(some 0,⟨[ko 6 t107 107],[2],[]⟩)] .z))) (.s (.s (.f [6] .z) (.b (.l ⟨[kv 41 t3],[2,6,39,40],[41]⟩ [(some 2,⟨[],[],[]⟩),(none,⟨[kv 4 t4,kv 5 t43],[],[4,5]⟩)] (sz (sz (.s (.jb ⟨[],[2,6,39,40,41],[]⟩ .z) .z)))))) .z)))) func92
def s33:FS:=⟨(.cons t36 (.cons t23 .nil)),(.cons t4 (.cons t43 .nil)),[none,none],fun x=>yF x.1 x.2.1⟩
theorem UK:s33.ok prog 33:=fS ((((E0).S UJ).S zBP).S IK) .z func33
def s79:FS:=⟨(.cons t36 (.cons t4 (.cons t23 .nil))),(.cons t4 .nil),[none],fun x=>yD x.1 x.2.1 x.2.2.1⟩
theorem zGk:s79.ok prog 79:=fS ((E0).S UK) .z func79
def zLL:FS:=⟨(.cons t140 (.cons t136 .nil)),(.cons t3 .nil),[none],fun x=>vX x.1 x.2.1⟩
theorem E2:zLL.ok prog 101:=fS ((E0).S qy) (sz (sz (.s (sz (.b (.l ⟨[kv 5 t3,kv 11 t3],[2,9,10],[5,11]⟩ [(some 0,⟨[kv 5 t3],[],[5]⟩)] .z))) .z))) func101
def zLM(n:Nat):FK:=⟨(.cons t3 (.cons t136 .nil)),[.r t140 140,.p t3 3,.p t136 136,.s 147],t43,43,fun x c y=>YF n x.1 x.2.1 c.1 y.1 y.2.1⟩
theorem zED:∀n,(zLM n).ok prog 100:=zAU ⟨_,func100,rfl,by kernel_rfl⟩ (fun _ _ _=>rfl) fun n ih=>fK ((((E0).S E2).S UJ).S zBO) (sz (.s (sz (.j ⟨[kw 3 t3,kw 4 t136],[0,2,3,4,5,7],[3,4]⟩ (sz (.s (sz (.s .q .z)) (sz (sz (.j ⟨[kw 3 t3,kw 4 t136],[0,2,3,4,5,7],[3,4]⟩ (.xr [2,3] [0,1,2,3] [(1,[3])]) .z))))) .z)) (sz (.b (.l ⟨[kv 11 t3,kw 3 t3,kw 4 t136],[2,3,4,5,7],[11,3,4]⟩ [(some 0,⟨[kw 3 t3,kw 4 t136],[2,3,4,5],[3,4]⟩),(some 1000000007,⟨[kv 0 t43],[],[]⟩)] (sz (.s (.b (sz (sz .q))) .z))))))) ih func100
def zLH:FS:=⟨(.cons t140 (.cons t136 (.cons t136 .nil))),(.cons t4 .nil),[none],fun x=>gK x.1 x.2.1 x.2.2.1⟩
theorem Rz:zLH.ok prog 110:=fS ((((E0).S UJ).S qy).S Rs) (sz (sz (.s (sz (.b (.l ⟨[kv 18 t3],[3,7,16,17],[18]⟩ [(some 0,⟨[],[3,7],[]⟩),(none,⟨[kv 6 t4],[],[6]⟩)] .z))) .z))) func110
def zKZ(n:Nat):FK:=⟨(.cons t3 (.cons t136 (.cons t136 .nil))),[.r t3 3,.r t140 140,.o t81 81 73,.s 185],.nil,0,fun x c y=>jX n x.1 x.2.1 x.2.2.1 c.1 c.2.1 y.1⟩
theorem zDi:∀n,(zKZ n).ok prog 151:=zAU ⟨_,func151,rfl,by kernel_rfl⟩ (fun _ _ _=>rfl) fun n ih=>fK (((E0).S Rz).S E2) (sz (.b (sz (.j ⟨[(true,5,(.o false t81 81))],[3,4,5,6],[]⟩ .z (sz (.j ⟨[(true,5,(.o false t81 81))],[3,4,5,6],[]⟩ .z (sz (.s (.xr [2,3,4,5] [0,1,3,2,4,5] [(0,[]),(1,[10])]) (sz (.s .q .q)))))))))) ih func151
def zLK:FS:=⟨(.cons t140 (.cons t3 .nil)),(.cons t73 .nil),[some 81],fun x=>jk x.1 x.2.1⟩
theorem zEC:zLK.ok prog 102:=fSK (E0) (zDi 40) (sz (sz (sz (sz (.s .q .z))))) func102
def s37:FS:=⟨(.cons t36 .nil),(.cons t23 (.cons t3 (.cons t73 (.cons t43 .nil)))),[none,none,none,none],fun x=>Zc x.1⟩
theorem zBY:s37.ok prog 37:=fR (c:=Tryz.f37.body.getD .skip) (((((E0).S qy).S zEC).S UI).S IK) (zED 40) zGW .z .z (sz (sz (sz (sz (.s .q (sz (.s (.xr [1,5,6,7,8,9] [0,2,3,4,1,5,6,7,8,9] [(2,[2]),(3,[]),(4,[])]) .z))))))) (sz (.j ⟨[kw 0 t23,kw 1 t3,kw 2 t73,kw 3 t43],[0,1,2,3],[0,1,2,3]⟩ .z .z)) func37
def s19:FS:=⟨(.cons t23 (.cons t23 .nil)),(.cons t4 .nil),[none],fun x=>ye x.1 x.2.1⟩
theorem zGx:s19.ok prog 19:=fS (E0) (sz (sz (.s (sz (.b (.l ⟨[kv 5 t3],[0,1],[5]⟩ [(some 0,⟨[],[],[]⟩),(none,⟨[kv 4 t4],[],[4]⟩)] .z))) .z))) func19
def zLI(n:Nat):FK:=⟨(.cons t136 (.cons t136 .nil)),[.p t3 3,.r t73 73,.r t140 140,.s 158,.r t3 3],t156,156,fun x c y=>kH n x.1 x.2.1 c.1 c.2.1 c.2.2.1 y.1⟩
theorem zEB:∀n,(zLI n).ok prog 109:=zAU ⟨_,func109,rfl,by kernel_rfl⟩ (fun _ _ _=>rfl) fun n ih=>fK (((E0).S Rz).S E2) (sz (.s (sz (.s .q .z)) (sz (sz (.b (sz (.j ⟨[kw 2 t3],[2,3,4,5,6],[2]⟩ (.s (.xr [2,3,4,5] [0,1,3,2,4,5] [(0,[]),(1,[10])]) (.s (.xr [5,7] [0,1,2,3,4,5,6,7] [(2,[64,10]),(3,[64,10])]) (.s .q .q))) (sz (.j ⟨[],[2,3,4,5,6],[]⟩ .z (sz (sz .q))))))))))) ih func109
def s40:FS:=⟨(.cons t36 (.cons t3 (.cons t73 .nil))),(.cons t4 .nil),[none],fun x=>zr x.1 x.2.1 x.2.2.1⟩
theorem zBX:s40.ok prog 40:=fR (c:=Tryz.f40.body.getD .skip) (((E0).S UI).S IK) (zEB 40) zCU .z .z (sz (sz (sz (.s .q .z)))) (sz (.j ⟨[kw 0 t4],[0],[0]⟩ .z .z)) func40
def s80:FS:=⟨(.cons t36 (.cons t3 (.cons t23 .nil))),(.cons t4 .nil),[none],fun x=>yU x.1 x.2.1 x.2.2.1⟩
theorem zGj:s80.ok prog 80:=fS ((((E0).S zBX).S zGx).S zBY) .z func80
def s43:FS:=⟨.nil,(.cons t81 .nil),[none],fun x=>zp ⟩
theorem zGq:s43.ok prog 43:=fS (E0) .z func43
def s81:FS:=⟨(.cons t3 .nil),(.cons t81 .nil),[none],fun x=>yO x.1⟩
theorem zGi:s81.ok prog 81:=fS (E0) .z func81
def s82:FS:=⟨.nil,(.cons t81 .nil),[none],fun x=>yw ⟩
theorem zGh:s82.ok prog 82:=fS (E0) .z func82
def s27:FS:=⟨.nil,(.cons t4 .nil),[none],fun x=>jF ⟩
theorem zGw:s27.ok prog 27:=fS ((((((((((((E0).S zGh).S zGi).S zGq).S zBX).S zBY).S zGj).S zGk).S UK).J zGl).S zBZ).J zBT) (sz (sz (.s (.xg ⟨[kv 2 t4],[1],[2]⟩) (sz (.s (.xg ⟨[kv 5 t4],[1,2],[5]⟩) (sz (sz (sz (sz (sz (sz (.s (.f [12] (.xr [33,35,38] [0,1,2,3,4,5,6,7,8,9,10,11,12,13,14,15,16,17,18,19,20,21,22,23,24,25,26,27,28,29,30,31,32,34,33,35,36,37,38,39,40,41,42] [(32,[156,158]),(34,[])])) .z)))))))))))) func27
def s29:FS:=⟨(.cons t22 .nil),(.cons t22 .nil),[some 23],fun x=>kO x.1⟩
theorem zGu:s29.ok prog 29:=fS (E0) (sz (sz (.s (sz (.b (.l ⟨[ko 3 t23 23,kv 4 t3],[0],[4]⟩ [(some 0,⟨[ko 3 t23 23],[],[]⟩)] .z))) .z))) func29
def s41:FS:=⟨(.cons t3 (.cons t3 .nil)),(.cons t3 .nil),[none],fun x=>kN x.1 x.2.1⟩
theorem zGr:s41.ok prog 41:=fS (E0) .z func41
def s85:FM:=⟨(.cons (.box t130) (.cons t3 .nil)),[some 130,none],(.cons t3 .nil),fun x=>zF x.1 x.2.1⟩
theorem II:s85.ok prog 85:=fM ((E0).S zGr) .z func85
def zKO:FS:=⟨(.cons t104 (.cons t104 .nil)),(.cons t104 .nil),[none],fun x=>Z7 x.1 x.2.1⟩
theorem zDd:zKO.ok prog 164:=fS (E0) .z func164
def zKl:FS:=⟨(.cons t106 .nil),(.cons t106 .nil),[none],fun x=>vM x.1⟩
theorem Ru:zKl.ok prog 137:=fS ((E0).S zDd) .z func137
def zJo:FS:=⟨(.cons t104 .nil),(.cons t26 .nil),[none],fun x=>yC x.1⟩
theorem Rh:zJo.ok prog 191:=fS (E0) .z func191
def zJR:FS:=⟨(.cons t3 .nil),(.cons t3 .nil),[none],fun x=>vU x.1⟩
theorem zCs:zJR.ok prog 214:=fS (E0) .z func214
def zJn:FS:=⟨(.cons t104 .nil),(.cons t104 (.cons t3 .nil)),[none,none],fun x=>gm x.1⟩
theorem zDN:zJn.ok prog 192:=fS (((E0).S zCs).S Rh) (sz (sz (sz (.s (sz (.b (.l ⟨[kv 5 t3,kv 6 t3,kw 2 t104],[1,2,4],[5,6,2]⟩ [(some 0,⟨[kv 5 t3,kw 2 t104],[1,2],[5,2]⟩),(none,⟨[kv 3 t3,kw 2 t104],[2],[3,2]⟩)] (sz (.s (.b (sz (sz (.b (.l ⟨[kv 5 t3,kv 7 t3],[1,2,4,6],[5,7]⟩ [(some 2,⟨[kv 5 t3],[1,2,4,6],[5]⟩)] .z))))) .z))))) (sz (.s (.xr [14] [0,1,2,3,4,5,6,7,8,9,10,11,12,13,14,15] [(13,[2])]) .z)))))) func192
def zKJ:FS:=⟨(.cons t106 .nil),(.cons t4 .nil),[none],fun x=>gR x.1⟩
theorem zDa:zKJ.ok prog 169:=fS (((E0).S zDN).S Rh) (sz (sz (.s (sz (.b (.l ⟨[kv 4 t3],[1,3],[4]⟩ [(some 0,⟨[],[1],[]⟩),(none,⟨[kv 2 t4],[],[2]⟩)] .z))) .z))) func169
def zKg:FS:=⟨(.cons t107 .nil),(.cons t43 .nil),[none],fun x=>za x.1⟩
theorem KD:zKg.ok prog 142:=fS ((E0).S zDa) (sz (sz (.s (sz (.b (.l ⟨[kv 3 t3],[0],[3]⟩ [(some 0,⟨[],[],[]⟩),(none,⟨[kv 2 t43],[],[2]⟩)] .z))) .z))) func142
def zKQ:FS:=⟨(.cons t107 .nil),(.cons t107 .nil),[some 106],fun x=>gL x.1⟩
theorem Ex:zKQ.ok prog 162:=fS ((E0).S IJ) (sz (sz (sz (.s (.xr [0,2,6] [1,3,4,0,2,5,6,7] [(1,[]),(3,[7]),(4,[7])]) .z)))) func162
def zJG:FS:=⟨(.cons t104 (.cons t104 .nil)),(.cons t104 .nil),[none],fun x=>vd x.1 x.2.1⟩
theorem zCh:zJG.ok prog 227:=fS (E0) .z func227
def zJH:FS:=⟨(.cons t104 (.cons t104 .nil)),(.cons t3 .nil),[none],fun x=>Z8 x.1 x.2.1⟩
theorem zCi:zJH.ok prog 226:=fS (E0) .z func226
def zJF:FS:=⟨(.cons t104 (.cons t3 .nil)),(.cons t104 .nil),[none],fun x=>yc x.1 x.2.1⟩
theorem zCg:zJF.ok prog 228:=fS (E0) .z func228
def zJE:FS:=⟨(.cons t104 (.cons t104 .nil)),(.cons t104 .nil),[none],fun x=>kM x.1 x.2.1⟩
theorem zCf:zJE.ok prog 229:=fS (E0) .z func229
def zJD:FS:=⟨(.cons t3 (.cons t3 .nil)),(.cons t3 .nil),[none],fun x=>zy x.1 x.2.1⟩
theorem zCe:zJD.ok prog 230:=fS (E0) (sz (.s (.b (.l ⟨[kv 0 t3,kv 1 t3],[],[0,1]⟩ [(some 0,⟨[kv 0 t3],[],[0]⟩)] .z)) .z)) func230
def zJY:FS:=⟨(.cons t106 (.cons t106 (.cons t106 .nil))),(.cons t208 (.cons t4 .nil)),[none,none],fun x=>vL x.1 x.2.1 x.2.2.1⟩
theorem zCz:zJY.ok prog 207:=fS ((((((E0).S zCe).S zCf).S zCg).S zCi).S zCh) (sz (sz (sz (.s (.xr [8,9] [0,1,2,3,4,5,6,7,8,9] [(0,[]),(1,[]),(2,[]),(3,[]),(4,[]),(5,[]),(6,[]),(7,[])]) (sz (sz (.s (sz (.j ⟨[kv 8 t3,kw 9 t104],[6,9],[8,9]⟩ .z .z)) .z))))))) func207
def zJv:FS:=⟨(.cons t106 (.cons t208 .nil)),(.cons t3 .nil),[none],fun x=>zf x.1 x.2.1⟩
theorem Eu:zJv.ok prog 184:=fS (E0) .z func184
def zJX:FS:=⟨(.cons t107 (.cons t208 .nil)),(.cons t4 .nil),[none],fun x=>gE x.1 x.2.1⟩
theorem zCy:zJX.ok prog 208:=fS ((E0).S Eu) (sz (.s (sz (.b (.l ⟨[kv 5 t3],[0,3],[5]⟩ [(some 0,⟨[],[],[]⟩),(none,⟨[kv 4 t4],[],[4]⟩)] .z))) .z)) func208
def zJW:FS:=⟨(.cons t203 (.cons t208 .nil)),(.cons t4 .nil),[none],fun x=>yv x.1 x.2.1⟩
theorem zCx:zJW.ok prog 209:=fS (E0) (sz (.s (sz (.b (.l ⟨[kv 5 t3],[0,3],[5]⟩ [(some 0,⟨[],[],[]⟩),(none,⟨[kv 4 t4],[],[4]⟩)] .z))) .z)) func209
def zJw:FS:=⟨(.cons t107 .nil),(.cons t203 .nil),[some 208],fun x=>vj x.1⟩
theorem Rj:zJw.ok prog 183:=fS ((((E0).S zCx).S zCy).S zCz) (sz (sz (.s (sz (.b (.l ⟨[ko 3 t208 208,kv 4 t3],[0],[4]⟩ [(some 0,⟨[ko 3 t208 208],[],[]⟩)] (sz (.s (.b (sz (.b (.l ⟨[ko 3 t208 208,kv 5 t3],[0,4],[5]⟩ [(some 2,⟨[ko 3 t208 208],[0,4],[]⟩)] (sz (.s (.b (sz (.b (.l ⟨[ko 3 t208 208,kv 6 t3],[0,4,5],[6]⟩ [(some 4,⟨[ko 3 t208 208],[0,4,5],[]⟩)] (sz (.s (.b (.s (.xr [16,17] [0,1,2,3,4,5,6,7,8,9,10,11,12,13,14,15,16,17,18] [(0,[]),(1,[]),(2,[]),(3,[]),(4,[]),(5,[]),(6,[]),(7,[]),(8,[]),(9,[]),(10,[]),(11,[]),(12,[]),(13,[]),(14,[]),(15,[7])]) (sz (.j ⟨[ko 3 t208 208],[0,4,5,6],[]⟩ .z .z)))) .z)))))) .z)))))) .z))))) .z))) func183
def zKR:FS:=⟨(.cons t107 .nil),(.cons t4 .nil),[none],fun x=>gl x.1⟩
theorem Rp:zKR.ok prog 161:=fS (((E0).S Eu).S Rj) (sz (sz (.s (sz (.b (.l ⟨[kv 4 t3],[0,3],[4]⟩ [(some 0,⟨[],[],[]⟩),(none,⟨[kv 2 t4],[],[2]⟩)] (sz (.s (.b (sz (.s (sz (.b (.l ⟨[kv 5 t4,kv 6 t3],[0,3,4],[5,6]⟩ [(some 2,⟨[kv 5 t4],[0,3,4],[5]⟩)] .z))) .z))) .z))))) .z))) func161
def zKs:FS:=⟨(.cons t107 .nil),(.cons t4 .nil),[none],fun x=>z7 x.1⟩
theorem qx:zKs.ok prog 130:=fS ((((E0).S Rp).S Ex).S KD) (sz (.s (.xg ⟨[kv 2 t4],[],[2]⟩) .z)) func130
def s83:FS:=⟨(.cons t22 .nil),(.cons t30 .nil),[none],fun x=>jx x.1⟩
theorem zGg:s83.ok prog 83:=fS (((((E0).S qx).S Ru).S IJ).M II) (sz (sz (.s (sz (.b (.l ⟨[kv 4 t3,kw 3 t41],[0,2,3],[4,3]⟩ [(some 0,⟨[kw 3 t41],[2,3],[3]⟩)] .z))) (sz (sz (sz (.s (.xg ⟨[kv 8 t4,kw 5 t130],[2,3,5,6,7],[8,5]⟩) (sz (sz (.s (sz (.b (.l ⟨[kv 9 t3,kv 11 t3,(true,6,(.ag (.pr (.v t9) (.pr (.o true t107 107) (.pr (.o true t3 3) .un))))),kw 5 t130],[2,3,5,6,7,8,10],[9,11,5]⟩ [(some 2,⟨[(true,6,(.ag (.pr (.v t9) (.pr (.o true t107 107) (.pr (.o true t3 3) .un))))),kw 5 t130],[2,3,5,6],[5]⟩)] (sz (.s (.b (sz (sz (.s (sz (.j ⟨[(true,6,(.ag (.pr (.v t9) (.pr (.o true t107 107) (.pr (.o true t3 3) .un)))))],[2,3,5,6,7,8,9,10,11,12],[]⟩ .z .z)) .z)))) .z))))) (.s (.s (.xg ⟨[kv 102 t4,kw 5 t130],[2,3,5,6],[102,5]⟩) (.j ⟨[(true,6,(.ag (.pr (.v t9) (.pr (.o true t107 107) (.pr (.o true t3 3) .un)))))],[2,3,6],[]⟩ (sz (sz (.s (.xr [0,6,9] [1,2,3,4,5,7,8,0,6,9,10] [(1,[]),(2,[]),(3,[]),(4,[]),(5,[]),(7,[113]),(8,[113])]) (.s (.xr [0,6,10] [1,2,3,4,5,7,0,6,8,9,10,11] [(1,[]),(2,[]),(3,[]),(4,[]),(5,[]),(7,[123])]) (sz (.j ⟨[(true,6,(.ag (.pr (.v t9) (.pr (.o true t107 107) (.pr (.o true t3 3) .un)))))],[2,3,6],[]⟩ .z .z)))))) .z)) (sz (.s (sz (.b (.l ⟨[kv 18 t3,(true,6,(.ag (.pr (.v t9) (.pr (.o true t107 107) (.pr (.o true t3 3) .un))))),kw 17 t130],[2,6,17],[18,17]⟩ [(some 4,⟨[(true,6,(.ag (.pr (.v t9) (.pr (.o true t107 107) (.pr (.o true t3 3) .un)))))],[2,6],[]⟩)] (sz (.s (.b (.xr [4,8,10] [0,1,2,3,4,5,6,7,8,9,10] [(0,[165,17,154]),(1,[165,17,154]),(2,[165,17,154])])) .z))))) .z))))))))))))) func83
def s86:FS:=⟨(.cons t22 (.cons t30 .nil)),(.cons t28 .nil),[some 107],fun x=>vK x.1 x.2.1⟩
theorem zBR:s86.ok prog 86:=fS (((E0).S IJ).M II) (sz (sz (.s (sz (.b (.l ⟨[ko 5 t107 107,kv 6 t3],[0,3],[6]⟩ [(some 0,⟨[ko 5 t107 107],[],[]⟩)] (sz (.s (.b (sz (sz (.s (.xr [7,10] [0,1,2,3,4,5,6,7,8,9,10,11] [(0,[33,7,27]),(1,[33,7,27]),(2,[33,7,27])]) (.s (sz (.j ⟨[kv 9 t107,kw 7 t130],[0,3,5,6,7,8],[9,7]⟩ (sz (.xr [5,10] [0,1,2,3,4,5,6,7,8,9,10,11] [(0,[52,7,27]),(1,[52,7,27]),(2,[52,7,27]),(3,[52,7,27])])) .z)) (.s (sz (.j ⟨[kv 9 t107],[0,3,5,6],[9]⟩ (sz (.xr [5,11,17,20] [0,1,2,3,4,7,8,9,10,13,14,15,16,5,6,11,12,17,18,19,20,21] [(0,[75,7,27,81,87]),(1,[75,7,27,81,87]),(2,[75,7,27,81,87]),(3,[75,7,27,81,87]),(6,[81,7,27,87]),(7,[75,7,27,81,87]),(8,[75,7,27,81,87]),(9,[75,7,27,81,87]),(10,[75,7,27]),(12,[87,7,27]),(13,[75,7,27,81,87]),(14,[75,7,27,81,87]),(15,[75,7,27,81,87]),(16,[75,7,27,81])])) .z)) .z)))))) .z))))) .z))) func86
def zKr:FS:=⟨(.cons t107 (.cons t107 .nil)),(.cons t4 .nil),[none],fun x=>ze x.1 x.2.1⟩
theorem AA:zKr.ok prog 131:=fS ((((E0).S Rp).S Ex).S KD) .z func131
def s67:FS:=⟨(.cons t30 .nil),(.cons t43 .nil),[none],fun x=>gP x.1⟩
theorem zBV:s67.ok prog 67:=fS (((E0).S AA).S qx) (sz (sz (sz (.s (sz (.b (.l ⟨[kv 3 t3],[1],[3]⟩ [(some 0,⟨[],[1],[]⟩),(none,⟨[kv 2 t43],[],[2]⟩)] .z))) (.s (sz (.b (.l ⟨[kv 4 t3],[1],[4]⟩ [(some 2,⟨[],[],[]⟩),(none,⟨[kv 2 t43],[],[2]⟩)] (sz (.s (.b (sz (sz (.b (.l ⟨[kv 5 t3],[1,4],[5]⟩ [(some 4,⟨[],[1,4],[]⟩),(none,⟨[kv 2 t43],[],[2]⟩)] .z))))) .z))))) .z))))) func67
def zKq:FS:=⟨(.cons t28 .nil),(.cons t43 .nil),[none],fun x=>yX x.1⟩
theorem Rv:zKq.ok prog 132:=fS ((E0).S KD) (sz (.s (sz (.b (.l ⟨[kv 3 t3],[0],[3]⟩ [(some 0,⟨[],[],[]⟩),(none,⟨[kv 2 t43],[],[2]⟩)] .z))) .z)) func132
def s89:FS:=⟨(.cons t30 (.cons t33 .nil)),(.cons t4 .nil),[none],fun x=>gj x.1 x.2.1⟩
theorem zBQ:s89.ok prog 89:=fS ((E0).S Rv) .z func89
def zLG:FS:=⟨(.cons t28 .nil),(.cons t28 .nil),[some 107],fun x=>gk x.1⟩
theorem zEA:zLG.ok prog 111:=fS (E0) (sz (sz (.s (sz (.b (.l ⟨[ko 3 t107 107,kv 4 t3],[0],[4]⟩ [(some 0,⟨[ko 3 t107 107],[],[]⟩)] .z))) .z))) func111
def zKp:FS:=⟨(.cons t107 (.cons t28 .nil)),(.cons t4 .nil),[none],fun x=>yu x.1 x.2.1⟩
theorem zDs:zKp.ok prog 133:=fS ((E0).S AA) (sz (.s (sz (.b (.l ⟨[kv 5 t3],[0,1],[5]⟩ [(some 0,⟨[],[],[]⟩),(none,⟨[kv 4 t4],[],[4]⟩)] .z))) .z)) func133
def zKn:FS:=⟨(.cons t28 (.cons t107 .nil)),(.cons t28 .nil),[some 107],fun x=>vb x.1 x.2.1⟩
theorem zDq:zKn.ok prog 135:=fS ((E0).S AA) (sz (sz (.s (sz (.b (.l ⟨[ko 5 t107 107,kv 6 t3],[0,1],[6]⟩ [(some 0,⟨[ko 5 t107 107],[],[]⟩)] (sz (.s (.b (sz (.j ⟨[ko 5 t107 107],[0,1,6],[]⟩ .z .z))) .z))))) .z))) func135
def zJu:FS:=⟨(.cons t28 .nil),(.cons t43 .nil),[none],fun x=>ja x.1⟩
theorem zDR:zJu.ok prog 185:=fS ((E0).S KD) (sz (sz (.s (sz (.b (.l ⟨[kv 3 t3],[0],[3]⟩ [(some 0,⟨[],[],[]⟩),(none,⟨[kv 2 t43],[],[2]⟩)] .z))) .z))) func185
def zJV:FS:=⟨(.cons t107 .nil),(.cons t203 .nil),[some 208],fun x=>jE x.1⟩
theorem zCw:zJV.ok prog 210:=fS ((((E0).S Rj).S Ex).S KD) .z func210
def zJC:FS:=⟨(.cons t106 (.cons t106 .nil)),(.cons t3 .nil),[none],fun x=>y5 x.1 x.2.1⟩
theorem zCd:zJC.ok prog 231:=fS (E0) (sz (sz (sz (.s (sz (.b (.l ⟨[kv 7 t3],[5,6],[7]⟩ [(some 0,⟨[],[],[]⟩),(none,⟨[kv 4 t3],[],[4]⟩)] .z))) .z)))) func231
def zJU:FS:=⟨(.cons t107 (.cons t106 .nil)),(.cons t107 .nil),[none],fun x=>jM x.1 x.2.1⟩
theorem zCv:zJU.ok prog 211:=fS ((E0).S zCd) (sz (sz (.s (.b (.l ⟨[kv 5 t3],[0,3],[5]⟩ [(some 0,⟨[kv 5 t3],[0,3],[5]⟩)] .z)) .z))) func211
def zJt:FS:=⟨(.cons t107 .nil),(.cons t107 .nil),[none],fun x=>zo x.1⟩
theorem Et:zJt.ok prog 186:=fS (((((E0).S zCv).S Eu).S zCw).S qx) (sz (sz (sz (sz (.s (sz (.b (.l ⟨[kv 4 t107,kv 5 t3],[0,3],[4,5]⟩ [(some 0,⟨[kv 4 t107],[],[4]⟩)] (sz (.s (.b (sz (.s (sz (.b (.l ⟨[kv 6 t3,kv 7 t3],[0,3,4,5],[6,7]⟩ [(some 2,⟨[kv 6 t3],[0,3,4,5],[6]⟩)] (sz (.s (.b (sz (.j ⟨[kv 6 t3],[0,3,4,5,7],[6]⟩ .z .z))) .z))))) (sz (.j ⟨[kv 4 t107],[0,3,5],[4]⟩ .z .z))))) .z))))) .z))))) func186
def zJB:FS:=⟨(.cons t107 (.cons t106 .nil)),(.cons t107 .nil),[some 106],fun x=>yM x.1 x.2.1⟩
theorem zCc:zJB.ok prog 232:=fS (E0) (sz (.s (.xr [0,2,5] [1,3,4,0,2,5,6] [(1,[]),(3,[5]),(4,[5])]) .z)) func232
def zJT:FS:=⟨(.cons t107 (.cons t107 .nil)),(.cons t28 (.cons t43 .nil)),[some 107,none],fun x=>gQ x.1 x.2.1⟩
theorem zCu:zJT.ok prog 212:=fS ((((E0).S Et).S zCc).S Ru) (sz (sz (sz (.s (sz (.b (.l ⟨[ko 6 t107 107,kv 7 t107,kv 8 t3],[1],[7,8]⟩ [(some 0,⟨[ko 6 t107 107],[],[]⟩),(none,⟨[ko 4 t107 107,kv 5 t43],[],[5]⟩)] (sz (.s (.b (sz (sz (.s (sz (.j ⟨[ko 6 t107 107],[1,7,8],[]⟩ .z .z)) .z)))) .z))))) .z)))) func212
def zJs:FS:=⟨(.cons t28 (.cons t107 .nil)),(.cons t28 (.cons t43 .nil)),[none,none],fun x=>y4 x.1 x.2.1⟩
theorem zDQ:zJs.ok prog 187:=fS (((((E0).S zCu).S Et).S AA).S qx) (sz (sz (sz (.s (sz (.b (.l ⟨[ko 6 t107 107,kv 7 t3],[0,1],[7]⟩ [(some 0,⟨[ko 6 t107 107],[],[]⟩),(none,⟨[kv 4 t28,kv 5 t43],[],[4,5]⟩)] (sz (.s (.jb ⟨[ko 6 t107 107],[0,1,7],[]⟩ .z) .z))))) .z)))) func187
def zKP:FS:=⟨(.cons t107 (.cons t28 .nil)),(.cons t28 (.cons t43 .nil)),[none,none],fun x=>jZ x.1 x.2.1⟩
theorem zDe:zKP.ok prog 163:=fS ((((((E0).S zDQ).S Et).S qx).S zDR).S KD) (sz (sz (.s (sz (.j ⟨[kv 6 t43],[0,1],[6]⟩ .z .z)) (sz (sz (.s (sz (.j ⟨[kv 7 t28],[1],[7]⟩ .z .z)) (.s (.s (.f [26] .z) (.b (.l ⟨[kv 7 t28,kv 8 t3],[1],[7,8]⟩ [(some 0,⟨[kv 7 t28],[],[7]⟩),(none,⟨[kv 4 t28,kv 5 t43],[],[4,5]⟩)] .z))) .z))))))) func163
def zKo:FS:=⟨(.cons t28 (.cons t107 .nil)),(.cons t4 (.cons t43 .nil)),[none,none],fun x=>vG x.1 x.2.1⟩
theorem zDr:zKo.ok prog 134:=fS ((E0).S zDe) .z func134
def s68:FS:=⟨(.cons t30 (.cons t33 (.cons t28 (.cons t28 .nil)))),(.cons t33 (.cons t43 .nil)),[none,none],fun x=>jY x.1 x.2.1 x.2.2.1 x.2.2.2.1⟩
theorem zGm:s68.ok prog 68:=fS ((((((((E0).S zDr).S zDq).S zDs).S zEA).S Rv).S zBQ).S zBV) (sz (sz (sz (sz (sz (.s (sz (.j ⟨[kv 10 t43],[2,3,4,5,8],[10]⟩ .z .z)) (sz (sz (sz (.s (sz (.b (.l ⟨[kv 12 t3,kw 8 t33,(true,11,(.ag (.pr (.o true t4 4) (.pr (.o true t4 4) (.pr (.v t28) .un)))))],[2,3,4,5,8,11],[12,8]⟩ [(some 0,⟨[kw 8 t33,(true,11,(.ag (.pr (.o true t4 4) (.pr (.o true t4 4) (.pr (.v t28) .un)))))],[8,11],[8]⟩),(none,⟨[kv 9 t43,kw 8 t33],[8],[9,8]⟩)] (sz (.s (.b (sz (sz (sz (.s (sz (.j ⟨[kv 14 t4,kw 8 t33],[2,3,4,5,8,11,12],[14,8]⟩ .z .z)) .z))))) .z))))) .z)))))))))) func68
def s44:FS:=⟨(.cons t30 (.cons t23 (.cons t3 .nil))),(.cons t62 .nil),[none],fun x=>vF x.1 x.2.1 x.2.2.1⟩
theorem zGp:s44.ok prog 44:=fS (((E0).S zBR).M II) (sz (sz (sz (.s (.s (.xg ⟨[kv 25 t4,kw 7 t130],[1,2,3,6,7,8],[25,7]⟩) (.j ⟨[(true,8,(.ag (.pr (.o true t107 107) (.pr (.o true t107 107) (.pr (.v t3) (.pr (.o true t3 3) .un))))))],[1,3,6,7,8],[]⟩ .z .z)) (sz (.s (sz (.b (.l ⟨[kv 10 t3,(true,8,(.ag (.pr (.o true t107 107) (.pr (.o true t107 107) (.pr (.v t3) (.pr (.o true t3 3) .un)))))),kw 7 t130],[1,3,6,7,8,9],[10,7]⟩ [(some 0,⟨[(true,8,(.ag (.pr (.o true t107 107) (.pr (.o true t107 107) (.pr (.v t3) (.pr (.o true t3 3) .un))))))],[1,3,6,8,9],[]⟩)] (sz (.s (.b (sz (.s (sz (.j ⟨[kv 11 t4,kw 7 t130],[1,3,6,7,8,9,10],[11,7]⟩ (.xg ⟨[kv 11 t4,kw 7 t130],[1,3,6,7,8,9,10],[11,7]⟩) .z)) (sz (.j ⟨[(true,8,(.ag (.pr (.o true t107 107) (.pr (.o true t107 107) (.pr (.v t3) (.pr (.o true t3 3) .un))))))],[1,3,6,7,8,9,10],[]⟩ (.xr [2,8,9,10,12] [0,1,3,4,5,6,7,2,8,9,10,11,12] [(0,[58]),(1,[58]),(3,[]),(4,[]),(5,[]),(6,[]),(7,[])]) .z))))) .z))))) (.s (sz (.j ⟨[(true,8,(.ag (.pr (.o true t107 107) (.pr (.o true t107 107) (.pr (.v t3) (.pr (.o true t3 3) .un))))))],[1,3,6,8,9],[]⟩ .z .z)) (.s (sz (.j ⟨[(true,8,(.ag (.pr (.o true t107 107) (.pr (.o true t107 107) (.pr (.v t3) (.pr (.o true t3 3) .un))))))],[6,8],[]⟩ .z .z)) .z)))))))) func44
def zKf:FS:=⟨(.cons t23 .nil),(.cons t4 .nil),[none],fun x=>jS x.1⟩
theorem zDn:zKf.ok prog 143:=fS (E0) (sz (.s (sz (.b (.l ⟨[kv 3 t3],[0],[3]⟩ [(some 0,⟨[],[],[]⟩),(none,⟨[kv 2 t4],[],[2]⟩)] .z))) .z)) func143
def s90:FS:=⟨(.cons t34 (.cons t3 .nil)),(.cons t43 .nil),[none],fun x=>vz x.1 x.2.1⟩
theorem zGd:s90.ok prog 90:=fS (((E0).S zDn).S KD) (sz (sz (.s (.xr [0,3,6] [1,2,4,5,0,3,6,7] [(1,[]),(2,[]),(4,[14]),(5,[14])]) (.s (sz (.b (.l ⟨[kv 7 t3],[0,1,5,6],[7]⟩ [(some 0,⟨[],[0,1,5],[]⟩),(none,⟨[kv 4 t43],[],[4]⟩)] .z))) (sz (.s (sz (.b (.l ⟨[kv 9 t3],[0,1,5],[9]⟩ [(some 2,⟨[],[5],[]⟩),(none,⟨[kv 4 t43],[],[4]⟩)] .z))) .z)))))) func90
def s31:FS:=⟨(.cons t36 .nil),(.cons t43 .nil),[none],fun x=>gO x.1⟩
theorem zGt:s31.ok prog 31:=fS ((((E0).S zGd).S zBQ).S zBV) (sz (sz (sz (sz (sz (sz (.s (sz (.b (.l ⟨[kv 4 t3,kv 5 t3],[1],[4,5]⟩ [(some 0,⟨[kv 4 t3],[],[4]⟩),(none,⟨[kv 2 t43],[],[2]⟩)] .z))) .z))))))) func31
def s28:FJ:=⟨(.cons t22 .nil),(.pr (.ag (.pr (.v t30) (.pr (.v t33) (.pr (.o true t62 62) .un)))) .un),fun x=>jw x.1⟩
theorem zGv:s28.ok prog 28:=fJ ((((((((E0).S zGt).S zGp).S zGm).S zBR).M II).S zBS).S zGg) (sz (sz (.s (.xr [2,4,5] [0,1,2,3,4,5] [(0,[]),(1,[]),(3,[])]) (.s (sz (.j ⟨[(true,4,(.ag (.pr (.v t30) (.pr (.v t33) (.pr (.o true t62 62) .un)))))],[0,2,3,4],[]⟩ (sz (sz (.j ⟨[(true,4,(.ag (.pr (.v t30) (.pr (.v t33) (.pr (.o true t62 62) .un)))))],[0,2,3,4],[]⟩ (.s (.xr [19,20] [0,1,2,3,4,5,6,7,8,9,10,11,12,13,14,15,16,17,18,19,20,21] [(0,[]),(1,[]),(2,[]),(3,[]),(4,[]),(5,[]),(6,[]),(7,[]),(8,[]),(9,[]),(10,[]),(11,[]),(12,[]),(13,[]),(14,[]),(15,[]),(16,[]),(17,[]),(18,[6])]) (sz (.j ⟨[(true,4,(.ag (.pr (.v t30) (.pr (.v t33) (.pr (.o true t62 62) .un)))))],[0,2,3,4],[]⟩ .z .z))) .z))) .z)) (.s (sz (.b (.l ⟨[kv 8 t3,(true,4,(.ag (.pr (.v t30) (.pr (.v t33) (.pr (.o true t62 62) .un)))))],[0,2,3,4],[8]⟩ [(some 0,⟨[(true,4,(.ag (.pr (.v t30) (.pr (.v t33) (.pr (.o true t62 62) .un)))))],[2,3,4],[]⟩)] .z))) (.s (sz (.j ⟨[(true,4,(.ag (.pr (.v t30) (.pr (.v t33) (.pr (.o true t62 62) .un)))))],[2,4],[]⟩ .z .z)) (.s (.b (.l ⟨[(true,4,(.ag (.pr (.v t30) (.pr (.v t33) (.pr (.o true t62 62) .un)))))],[2,4],[]⟩ [(some 2,⟨[(true,4,(.ag (.pr (.v t30) (.pr (.v t33) (.pr (.o true t62 62) .un)))))],[2,4],[]⟩)] (sz (.b (.xg ⟨[(true,4,(.ag (.pr (.v t30) (.pr (.v t33) (.pr (.o true t62 62) .un)))))],[2,4],[]⟩))))) .z))))))) func28
def s32:FS:=⟨(.cons t3 (.cons t3 .nil)),(.cons t23 .nil),[some 3],fun x=>vH x.1 x.2.1⟩
theorem zGs:s32.ok prog 32:=fS (E0) (sz (sz (.s (sz (.b (.l ⟨[ko 5 t3 3,kv 6 t3],[0,1],[6]⟩ [(some 0,⟨[ko 5 t3 3],[],[]⟩)] (sz (.s (.b (sz (.j ⟨[ko 5 t3 3],[0,1,6],[]⟩ .z .z))) .z))))) .z))) func32
def zLB:FS:=⟨(.cons t28 .nil),(.cons t43 .nil),[none],fun x=>jP x.1⟩
theorem Ry:zLB.ok prog 121:=fS ((E0).S uH) (sz (.s (sz (.b (.l ⟨[kv 8 t3],[6,7],[8]⟩ [(some 0,⟨[],[],[]⟩),(none,⟨[kv 2 t43],[],[2]⟩)] .z))) .z)) func121
def zLF:FS:=⟨(.cons t30 (.cons t33 .nil)),(.cons t43 .nil),[none],fun x=>YD x.1 x.2.1⟩
theorem zDz:zLF.ok prog 112:=fS (((E0).S Ry).S zBW) .z func112
def zKz:FS:=⟨(.cons t31 .nil),(.cons t31 .nil),[some 4],fun x=>ym x.1⟩
theorem zDx:zKz.ok prog 123:=fS (E0) .z func123
def zKy:FS:=⟨(.cons t28 .nil),(.cons t28 .nil),[some 107],fun x=>YE x.1⟩
theorem zDw:zKy.ok prog 124:=fS ((E0).S Rq) (sz (sz (.s (sz (.b (.l ⟨[ko 3 t107 107,kv 8 t3],[6,7],[8]⟩ [(some 0,⟨[ko 3 t107 107],[],[]⟩)] .z))) .z))) func124
def zKw:FS:=⟨(.cons t3 (.cons t107 (.cons (.box t107) .nil))),(.cons t4 .nil),[none],fun x=>vW x.1 x.2.1 x.2.2.1⟩
theorem zDu:zKw.ok prog 126:=fS ((E0).S AB) .z func126
def zKx:FS:=⟨(.cons t28 (.cons t173 .nil)),(.cons t28 .nil),[some 107],fun x=>yd x.1 x.2.1⟩
theorem zDv:zKx.ok prog 125:=fS (E0) (sz (sz (.s (sz (.b (.l ⟨[ko 5 t107 107,kv 10 t3],[1,8,9],[10]⟩ [(some 0,⟨[ko 5 t107 107],[],[]⟩)] (sz (sz (.s (.b (sz (sz (.j ⟨[ko 5 t107 107],[1,8,9,10],[]⟩ .z .z)))) .z)))))) .z))) func125
def s61:FS:=⟨(.cons t30 (.cons t33 (.cons t28 (.cons t28 .nil)))),(.cons t33 (.cons t43 .nil)),[none,none],fun x=>Yr x.1 x.2.1 x.2.2.1 x.2.2.2.1⟩
theorem zGn:s61.ok prog 61:=fS ((((((((((E0).S Rw).S zDv).S zDu).S E1).S zDw).S zDx).S Ry).S Rx).S zDz) (sz (sz (sz (sz (.s (.xr [2,5,11,13,14] [0,1,3,4,6,7,8,9,2,5,10,11,12,13,14] [(0,[]),(1,[]),(3,[]),(4,[]),(6,[]),(7,[]),(8,[]),(9,[]),(10,[]),(12,[])]) (.s (sz (.b (.l ⟨[kv 58 t3,kw 8 t33,(true,12,(.ag (.pr (.o true t4 4) (.pr (.o true t4 4) (.pr (.v t28) .un)))))],[2,3,8,12,56,57],[58,8]⟩ [(some 0,⟨[kw 8 t33,(true,12,(.ag (.pr (.o true t4 4) (.pr (.o true t4 4) (.pr (.v t28) .un)))))],[8,12],[8]⟩),(none,⟨[kv 9 t43,kw 8 t33],[8],[9,8]⟩)] (sz (sz (.s (.jb ⟨[kw 8 t33,(true,12,(.ag (.pr (.o true t4 4) (.pr (.o true t4 4) (.pr (.v t28) .un)))))],[2,3,8,12,56,57,58],[8]⟩ (sz (sz (sz (.s (.f [14] .z) .z))))) .z)))))) .z)))))) func61
def s46:FS:=⟨(.cons t36 (.cons t23 .nil)),(.cons t33 (.cons t43 .nil)),[none,none],fun x=>gv x.1 x.2.1⟩
theorem zGo:s46.ok prog 46:=fS ((E0).S zGn) (sz (sz (.s (sz (.b (.l ⟨[kv 15 t3,kw 4 t33,kw 6 t33],[2,4,6,13,14],[15,4,6]⟩ [(some 0,⟨[kw 4 t33,kw 6 t33],[4,6],[4,6]⟩),(none,⟨[kv 5 t43,kw 4 t33],[4],[5,4]⟩)] (sz (sz (.s (.b (sz (.s (.xr [19,20] [0,1,2,3,4,5,6,7,8,9,10,11,12,13,14,15,16,17,18,19,20,21] [(0,[]),(1,[]),(2,[]),(3,[]),(4,[]),(5,[]),(6,[]),(7,[]),(8,[]),(9,[]),(10,[]),(11,[]),(12,[]),(13,[]),(14,[]),(15,[]),(16,[]),(17,[]),(18,[9])]) .z))) .z)))))) .z))) func46
def s12:FS:=⟨(.cons t22 (.cons t5 (.cons t5 .nil))),(.cons t4 .nil),[none],fun x=>jT x.1 x.2.1 x.2.2.1⟩
theorem zGy:s12.ok prog 12:=fS ((((((((E0).S zGo).S UK).S zBZ).S zGs).J zGv).S zGu).S zGw) (sz (sz (sz (.s (.xr [5,11,19] [0,1,2,3,4,6,7,8,9,10,12,13,14,15,16,17,18,5,11,19,20,21,22] [(6,[]),(7,[]),(8,[]),(9,[]),(10,[]),(12,[]),(13,[]),(14,[]),(15,[]),(16,[]),(17,[]),(18,[])]) (sz (sz (sz (sz (sz (sz (sz (sz (.s (sz (.b (.l ⟨[kv 18 t4,kv 120 t3],[7,8,9,12,16,118,119],[18,120]⟩ [(some 0,⟨[kv 18 t4],[7,12],[18]⟩),(none,⟨[kv 6 t4],[],[6]⟩)] .z))) .z))))))))))))) func12
end Go.Dn
end
section
namespace Go.Lift
open Go Go.RowKit Go.Eng Go.ChangeShapes Go.WideShapes Go.ChangeAt Go.Joins Go.Deep Go.WideElems
variable {H:Type} {enc:TypeId×Value->H} {P:Program} {w:World} {base:Nat} {sp:Nat->Bool} {held:Bool} {α β γ:Type}
abbrev O0:zQ:=fun _=>0
structure Opens(enc:TypeId×Value->H)(P:Program)(w:World)(base:Nat)(sp:Nat->Bool)(held:Bool)(t:Nat)(r:GR α)(Q:α->Prop):Prop where
 size:P.cellsOf t=r.sz
 fits:r.fits
 op:∀fuel cs x,DataW.trod enc P w base sp held fuel t cs=some x->∃y,r.rel O0 w cs y/\Q y
theorem MC{t:Nat}{k:IntKind}(ht:P.underlying t=some (.int k))(hs:P.cellsOf t=1):Opens enc P w base sp held t (zAV k) fun n=>(Lit.int k n).wf=true :=
 ⟨hs,fun _=>rfl,fun fuel cs x h=>by obtain⟨n,h1,_,h2⟩:=DataW.trod_int ht h;exact⟨n,h1,h2⟩⟩
theorem Gz{r:GR α}{O:zQ}{Q:α->Prop}:∀ {vs:List Value},(∀v∈vs,∃y,r.v O w v y/\Q y)->∃ys,yx r O w vs ys/\∀y∈ys,Q y
 | [],_=>⟨[],trivial,by simp⟩
 |v::vs,h=>by
   obtain⟨y,h1,h2⟩:=h v (by simp)
   obtain⟨ys,h3,h4⟩:=Gz (vs:=vs) fun u hu=>h u (zMa _ hu)
   exact⟨y::ys,⟨h1,h3⟩,fun z hz=>(zMU.1 hz).elim (fun e=>by grind) (h4 z)⟩
theorem wx{t e:Nat}{r:GR α}{Q:α->Prop}(ht:P.underlying t=some (.slice e))(hs:P.cellsOf t=1)(hE:Opens enc P w base sp held e r Q)(t7:0<r.sz):Opens enc P w base sp held t (rSl r) fun xs=>(∀x∈xs,Q x)/\xs.length<=maxLen:=by
 refine⟨hs,fun _=>rfl,fun fuel cs x h=>?_⟩
 rcases DataW.trod_slice ht h with ⟨rfl,_⟩|⟨a,len,cap,hC9,rest,n,_,rfl,_,hb,hl,hm,fA,hel,_,_⟩
 ·exact⟨[],⟨_,[],rfl,⟨none,0,rfl,by simp,by simp,.inl rfl⟩,trivial,fun h=>zMg rfl h⟩,by simp,by simp⟩
 ·have each:∀i,i<len->∃cs,w.cells? base (a.add (i * r.sz)) r.sz=some cs/\∃y,r.rel O0 w cs y/\Q y:=by
   intro i hi;have:=hel i hi
   rw[zMu (by omega),hE.size,Option.bind_eq_some_iff]at this
   obtain⟨cs,h1,h2⟩:=this;exact⟨cs,h1,hE.op n cs _ h2⟩
  let f:Nat->Value:=fun i=>yJ r.agg ((w.cells? base (a.add (i * r.sz)) r.sz).getD [])
  have hf:∀i,i<len->∃y,r.v O0 w (f i) y/\Q y:=by
   intro i hi;obtain⟨cs,h1,y,h2,h3⟩:=each i hi;exact⟨y,⟨cs,h2,by grind⟩,h3⟩
  have hfc:∀i,i<len->∀j,j<r.sz->w.cell? (a.add (i * r.sz+j))=(f i).cells[j]?:=by
   intro i hi j hj;obtain⟨cs,h1,y,h2,_⟩:=each i hi;have h4:=(World.cells?_some h1).2.2 j hj
   have h5:(f i).cells=cs.toArray:=by
    show (yJ r.agg ((w.cells? base (a.add (i * r.sz)) r.sz).getD [])).cells=_
    rw[h1];exact ju (fun ha=>by show cs.length=1;rw[r.len h2,hE.fits ha]) (r.one h2)
   grind [_root_.Go.Addr.add_add]
  obtain⟨ys,h1,h2⟩:=Gz (r:=r) (O:=O0) (w:=w) (Q:=Q) (vs:=(List.range len).map f) (by
   grind)
  have oA:ys.length=len:=by have:=h1.len;grind
  refine⟨ys,⟨_,(List.range len).map f,rfl,⟨some a,cap,by simp,by grind,?_,?_⟩,h1,?_⟩,h2,by omega⟩
  ·intro v hv
   obtain⟨y,hy⟩:∃y,r.v O0 w v y:=by
    grind
   exact r.ZX hE.fits hy
  ·by_cases h0:len=0
   ·grind
   ·right
    obtain⟨b,off,spot⟩:=a;have bS:(w.cell? (Addr.add ⟨b,off,spot⟩ (0 * r.sz+0))).isSome=true:=by
     rw[hfc 0 (by omega) 0 t7]
     obtain⟨y,hy,_⟩:=hf 0 (by omega)
     have:=r.ZX hE.fits hy;grind
    obtain⟨v0,hv0⟩:=Option.isSome_iff_exists.1 bS;have hC1:spot=none:=by simpa[Addr.add] using World.cell?_spot hv0
    subst hC1;refine⟨b,off,rfl,fun i x hx j hj=>?_⟩
    have hi:i<len:=by grind
    have hx':x=f i:=by
     grind
    grind [Addr.add]
  ·intro fE g hg
   have h0:0<len:=by
    grind
   have cR:g=a.block:=by
    have:(Value.slice (some a) len cap).ownBlock=some a.block:=rfl;grind
   subst cR;refine⟨?_,rfl⟩;obtain⟨cs,h3,_⟩:=each 0 h0;have h4:=(World.cells?_some h3)
   have h5:=h4.2.2 0 t7;simp_all [Addr.add,World.block_lt_of_cell?]
theorem N6{t:Nat}{r:GR α}{Q:α->Prop}{v:Value}{d:DataW H}{ps:List MemPlace}(hE:Opens enc P w base sp held t r Q)(hv:yJ r.agg v.cells.toList=v)(h:DataW.Trod enc P w base sp held t v d ps):∃x,r.v O0 w v x/\Q x:=by
 obtain⟨fuel,hf⟩:=h;obtain⟨y,h1,h2⟩:=hE.op fuel _ _ hf;exact⟨y,⟨_,h1,hv.symm⟩,h2⟩
theorem N7{t e:Nat}{r:GR α}{Q:α->Prop}{re:Reach}{b0:Nat}{v:Value}{d:DataW H}{ps:List MemPlace}(ht:P.underlying t=some (.slice e))(hs:P.cellsOf t=1)(hE:Opens enc P w base sp held e r Q)(t7:0<r.sz)(bF:Value.okWide P w re b0 t v)(h:DataW.Trod enc P w base sp held t v d ps) :
  ∃xs,(rSl r).v O0 w v xs/\(∀x∈xs,Q x)/\xs.length<=maxLen:=by
 obtain⟨a,len,cap,rfl⟩:=okWide_slice ht bF;exact N6 (wx ht hs hE t7) (by simp[Value.cells,yJ,rSl]) h
theorem zEU:OkO O0 w:=fun _ _=>rfl
theorem Opens.at_{t:Nat}{r:GR α}{Q:α->Prop}(hE:Opens enc P w base sp held t r Q){off n:Nat}{cs:List Value}{y}(h:DataW.trod enc P w base sp held n t ((cs.drop off).take (P.cellsOf t))=some y):∃a,r.rel O0 w ((cs.drop off).take r.sz) a/\Q a:=by
 rw[hE.size]at h;exact hE.op n _ _ h
theorem wf_u8{n:Int}(h:(Lit.int .u8 n).wf=true):0<=n/\n<256:=by
 grind [Lit.wf,IntKind.min,IntKind.max,IntKind.signed,IntKind.bits]
end Go.Lift
end
section
namespace Go.Den
open Go Go.RowKit Go.Eng Go.Lift Go.ChangeShapes Go.WideShapes Go.ChangeAt Go.Joins Go.Deep Go.WideElems
variable {H:Type} {enc:TypeId×Value->H} {P:Program} {w:World} {base:Nat} {sp:Nat->Bool} {held:Bool} {α β γ:Type}
theorem Dt{rs vs:List Value}{v v1:Value}(h3:kU rs v)(h4:rs=v1::vs)(h7:vs=[]):v=v1:=by
 subst h7 h4;rcases h3 with h|h
 ·cases h
 ·exact h
end Go.Den
end
