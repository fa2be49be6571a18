/- Lemmas behind a claim. -/
import Derived.Test.YtknbpncolbmoaaaGreatKPpF
import Derived.SliceStrings
import Derived.ChangeSlices
import Derived.Lib.SmallJoins
import Derived.OpenShut
import Derived.ShutString
import Derived.ChangeOld
set_option linter.unusedSimpArgs false
set_option linter.unusedVariables false
noncomputable section
set_option maxRecDepth 200000
namespace Go.Dn
open Go Go.Proofs Go.RowKit Go.Eng Go.Lift Go.Den
def t222:Ty:=.seq (.cons t224 .nil)
def t235:Ty:=.seq (.cons (.slo t106) .nil)
open Go.F Go.Proofs.Tryz
abbrev sz(h:H):H:=.s .z h
abbrev kv(n:Nat)(t:Ty):Bool×Nat×Knd:=(false,n,.v t)
abbrev kw(n:Nat)(t:Ty):Bool×Nat×Knd:=(true,n,.v t)
abbrev ko(n:Nat)(t:Ty)(T:Nat):Bool×Nat×Knd:=(false,n,.o true t T)
def s55:FS:=⟨(.cons t104 (.cons t104 .nil)),(.cons t107 .nil),[some 106],fun x=>zq x.1 x.2.1⟩
theorem H1:s55.ok prog 55:=fS (E0) .z func55
def zJy:FS:=⟨(.cons t3 (.cons t3 .nil)),(.cons t107 .nil),[some 106],fun x=>yd x.1 x.2.1⟩
theorem zCv:zJy.ok prog 136:=fS ((E0).S H1) .z func136
def s84:FS:=⟨(.cons t30 .nil),(.cons t33 .nil),[none],fun x=>jL x.1⟩
theorem zAg:s84.ok prog 84:=fS (E0) (sz (.s (.xr [3,9] [0,1,2,4,5,6,7,3,8,9] [(4,[]),(5,[]),(6,[]),(7,[])]) .z)) func84
def s77:FJ:=⟨.nil,(.pr (.ag (.pr (.v t30) (.pr (.v t33) (.pr (.o true t62 62) .un)))) .un),fun x=>y9 ⟩
theorem zAh:s77.ok prog 77:=fJ (((E0).S zAg).S zCv) (sz (sz (.s (.f [1] (.xr [2,4,16,18] [0,1,2,3,6,7,8,9,10,11,12,13,14,15,4,5,16,17,18] [(0,[]),(6,[]),(7,[]),(8,[]),(9,[]),(10,[]),(11,[]),(12,[]),(13,[]),(14,[]),(15,[])])) .z))) func77
def zKL:FS:=⟨(.cons t3 .nil),(.cons t4 .nil),[none],fun x=>gE x.1⟩
theorem zDA:zKL.ok prog 117:=fS (E0) .z func117
def zKF:FS:=⟨(.cons t23 (.cons t117 .nil)),(.cons t3 .nil),[none],fun x=>kQ x.1 x.2.1⟩
theorem zCx:zKF.ok prog 129:=fS (E0) (sz (.s (sz (.b (.l ⟨[kv 8 t3],[0,1,7],[8]⟩ [(some 0,⟨[],[],[]⟩),(none,⟨[kv 4 t3],[],[4]⟩)] .z))) .z)) func129
def s72:FS:=⟨(.cons t23 (.cons t117 .nil)),(.cons t4 .nil),[none],fun x=>zh x.1 x.2.1⟩
theorem zAi:s72.ok prog 72:=fS ((E0).S zCx) .z func72
def zJT:FS:=⟨(.cons t28 (.cons t166 .nil)),(.cons t3 .nil),[none],fun x=>yL x.1 x.2.1⟩
theorem RD:zJT.ok prog 168:=fS (E0) (sz (.s (sz (.b (.l ⟨[kv 8 t3],[0,1,7],[8]⟩ [(some 0,⟨[],[],[]⟩),(none,⟨[kv 4 t3],[],[4]⟩)] .z))) .z)) func168
def zJu:FS:=⟨(.cons t28 (.cons t166 .nil)),(.cons t4 .nil),[none],fun x=>zH x.1 x.2.1⟩
theorem l8:zJu.ok prog 140:=fS ((E0).S RD) .z func140
def zIz:FS:=⟨(.cons t107 (.cons t198 .nil)),(.cons t3 .nil),[none],fun x=>yK x.1 x.2.1⟩
theorem Q8:zIz.ok prog 188:=fS (E0) (sz (.s (sz (.b (.l ⟨[kv 8 t3],[0,1,7],[8]⟩ [(some 0,⟨[],[],[]⟩),(none,⟨[kv 4 t3],[],[4]⟩)] .z))) .z)) func188
def zJW:FS:=⟨(.cons t107 (.cons t198 .nil)),(.cons t4 .nil),[none],fun x=>zW x.1 x.2.1⟩
theorem RF:zJW.ok prog 165:=fS ((E0).S Q8) .z func165
def zIy:FS:=⟨(.cons t3 (.cons t23 .nil)),(.cons t4 .nil),[none],fun x=>jJ x.1 x.2.1⟩
theorem zCS:zIy.ok prog 189:=fS (E0) (sz (.s (sz (.b (.l ⟨[kv 9 t3],[0,7,8],[9]⟩ [(some 0,⟨[],[],[]⟩),(none,⟨[kv 4 t4],[],[4]⟩)] .z))) .z)) func189
def zIa:FS:=⟨(.cons t3 .nil),(.cons t3 .nil),[none],fun x=>jo x.1⟩
theorem zBw:zIa.ok prog 213:=fS (E0) .z func213
def zIx:FS:=⟨(.cons t23 .nil),(.cons t3 .nil),[none],fun x=>Zm x.1⟩
theorem zCR:zIx.ok prog 190:=fS ((E0).S zBw) (sz (sz (.s (sz (.b (.l ⟨[kv 3 t3,kv 8 t3],[6,7],[3,8]⟩ [(some 0,⟨[kv 3 t3],[],[3]⟩),(none,⟨[kv 2 t3],[],[2]⟩)] (sz (sz (.s (.b (sz (sz (sz (.b (.l ⟨[kv 3 t3,kv 5 t3],[6,7,8],[3,5]⟩ [(some 2,⟨[kv 3 t3],[6,7,8],[3]⟩)] .z)))))) .z)))))) .z))) func190
def zJU:FS:=⟨(.cons t106 .nil),(.cons t4 .nil),[none],fun x=>Y3 x.1⟩
theorem zCf:zJU.ok prog 167:=fS (((E0).S zCR).S zCS) (sz (.s (.xg ⟨[kv 2 t4],[],[2]⟩) .z)) func167
def zJV:FS:=⟨(.cons t106 .nil),(.cons t4 .nil),[none],fun x=>kW x.1⟩
theorem zCg:zJV.ok prog 166:=fS ((E0).S zCf) .z func166
def zJv:FS:=⟨(.cons t107 .nil),(.cons t43 .nil),[none],fun x=>gZ x.1⟩
theorem qn:zJv.ok prog 139:=fS (((E0).S zCg).S RF) .z func139
def zJP:FS:=⟨(.cons t107 .nil),(.cons t4 .nil),[none],fun x=>jP x.1⟩
theorem zCb:zJP.ok prog 172:=fS ((E0).S qn) .z func172
def zJh:FS:=⟨(.cons t28 .nil),(.cons t4 .nil),[none],fun x=>Zf x.1⟩
theorem Es:zJh.ok prog 154:=fS (((E0).S zCb).S l8) .z func154
def zIu:FS:=⟨(.cons t3 .nil),(.cons t107 .nil),[some 106],fun x=>vq x.1⟩
theorem zCP:zIu.okN prog 193:=fN (E0) (sz (.s (sz (.j ⟨[],[0,1],[]⟩ .z .z)) (.s (sz (sz (.j ⟨[ko 0 t106 106],[],[]⟩ (.xg ⟨[ko 0 t106 106],[],[]⟩) .z))) .z))) func193
def zJO:FS:=⟨(.cons t28 .nil),(.cons t107 .nil),[some 106],fun x=>zL x.1⟩
theorem RC:zJO.ok prog 173:=fS ((E0).N zCP) (sz (sz (.s (sz (.b (.l ⟨[kv 3 t3,kv 11 t3],[0,9,10],[3,11]⟩ [(some 0,⟨[kv 3 t3],[0],[3]⟩)] (sz (sz (.s (.b (sz (sz (sz (.j ⟨[],[0,3,9,10,11],[]⟩ .z .z))))) .z)))))) (sz (.s (sz (.b (.l ⟨[ko 6 t106 106,kv 27 t3],[25,26],[27]⟩ [(some 2,⟨[ko 6 t106 106],[],[]⟩)] .z))) .z))))) func173
def zJg:FS:=⟨(.cons t28 .nil),(.cons t189 .nil),[some 106],fun x=>cell_of x.1⟩
theorem Er:zJg.ok prog 155:=fS ((E0).S RC) (sz (sz (.s (sz (.b (.l ⟨[ko 3 t106 106,kv 16 t3],[14,15],[16]⟩ [(some 0,⟨[ko 3 t106 106],[],[]⟩)] .z))) .z))) func155
def zIY:GS:=⟨(.cons (.box t189) .nil),(.cons t224 .nil),fun x=>vp x.1⟩
theorem zBu:zIY.ok prog 215:=fQ (E0) (sz (.b (.l ⟨[kv 11 t3],[0,1,9,10],[11]⟩ [(some 0,⟨[],[],[]⟩),(none,⟨[],[],[]⟩)] (sz (sz (.s (.b (sz (.s (.f [4] .z) (.b (.l ⟨[kv 21 t3],[0,1,3,4,9,10,11,19,20],[21]⟩ [(some 2,⟨[],[0,1,9,10,11],[]⟩),(none,⟨[],[],[]⟩)] (sz (sz (.s (.b (sz (.s (.f [6] .z) (.b (.l ⟨[kv 33 t3],[0,1,3,4,6,9,10,11,19,20,21,31,32],[33]⟩ [(some 4,⟨[],[0,1,3,4,9,10,11,19,20,21],[]⟩),(none,⟨[],[],[]⟩)] (sz (sz (.s (.b (sz (.s (.f [8] .y) .z))) .z)))))))) .z)))))))) .z)))))) func215
def zIt:FS:=⟨(.cons t189 .nil),(.cons t222 .nil),[none],fun x=>kL x.1⟩
theorem zCO:zIt.ok prog 194:=fS ((E0).Q zBu) (sz (.s (.f [1] .z) .z)) func194
def zIX:FS:=⟨(.cons t104 (.cons t104 .nil)),(.cons t104 .nil),[none],fun x=>Zr x.1 x.2.1⟩
theorem zBt:zIX.ok prog 216:=fS (E0) .z func216
def zIo:FS:=⟨(.cons t104 (.cons t104 .nil)),(.cons t3 .nil),[none],fun x=>Zi x.1 x.2.1⟩
theorem Q6:zIo.ok prog 199:=fS (E0) .z func199
def zIV:FS:=⟨(.cons t104 (.cons t3 .nil)),(.cons t104 .nil),[none],fun x=>Yj x.1 x.2.1⟩
theorem zBr:zIV.ok prog 218:=fS (E0) .z func218
def zIW:FS:=⟨(.cons t104 (.cons t104 .nil)),(.cons t104 .nil),[none],fun x=>XU x.1 x.2.1⟩
theorem zBs:zIW.ok prog 217:=fS (E0) .z func217
def zIU:FS:=⟨(.cons t23 .nil),(.cons t3 .nil),[none],fun x=>Ko x.1⟩
theorem zBq:zIU.ok prog 219:=fS (E0) (sz (sz (.s (sz (.b (.l ⟨[kv 3 t3,kv 8 t3],[6,7],[3,8]⟩ [(some 0,⟨[kv 3 t3],[],[3]⟩)] (sz (sz (.s (.b (sz (.b (.l ⟨[kv 3 t3,kv 5 t3],[6,7,8],[3,5]⟩ [(some 2,⟨[kv 3 t3],[6,7,8],[3]⟩)] .z)))) .z)))))) .z))) func219
def zIs:FS:=⟨(.cons t224 .nil),(.cons t208 (.cons t4 .nil)),[none,none],fun x=>XW x.1⟩
theorem zCN:zIs.ok prog 195:=fS ((((((E0).S zBq).S zBs).S zBr).S Q6).S zBt) (sz (sz (sz (.s (sz (.b (.l ⟨[kv 5 t3,kv 11 t3,kw 4 t104],[1,2,4,10],[5,11,4]⟩ [(some 0,⟨[kv 5 t3,kw 4 t104],[2,4],[5,4]⟩)] (sz (sz (.s (.b (sz (.s (.xr [13,14] [0,1,2,3,4,5,6,7,8,9,10,11,12,13,14] [(0,[]),(1,[]),(2,[]),(3,[]),(4,[]),(5,[]),(6,[]),(7,[]),(8,[]),(9,[]),(10,[]),(11,[]),(12,[])]) .z))) .z)))))) (sz (sz (.s (sz (.j ⟨[kv 9 t3],[2,4,5],[9]⟩ .z .z)) .z))))))) func195
def zJI:FS:=⟨(.cons t106 (.cons t208 .nil)),(.cons t3 .nil),[none],fun x=>Zl x.1 x.2.1⟩
theorem Eo:zJI.ok prog 179:=fS ((E0).S Q6) .z func179
def zIT:FS:=⟨(.cons t106 (.cons (.box t208) .nil)),(.cons t4 .nil),[none],fun x=>jv x.1 x.2.1⟩
theorem zBp:zIT.ok prog 220:=fS ((E0).S Eo) .z func220
def zIr:FS:=⟨(.cons t107 (.cons t208 .nil)),(.cons t4 .nil),[none],fun x=>Zv x.1 x.2.1⟩
theorem zCM:zIr.ok prog 196:=fS (((E0).S RF).S zBp) .z func196
def zJN:FS:=⟨(.cons t189 .nil),(.cons t203 .nil),[some 208],fun x=>vj x.1⟩
theorem RB:zJN.ok prog 174:=fS ((((E0).S zCM).S zCN).S zCO) (sz (sz (sz (.s (sz (.b (.l ⟨[(true,3,(.o true t208 208)),(true,4,(.m true t208 t4))],[1,3,4,10],[]⟩ [] (sz (.b (sz (sz (.j ⟨[(true,3,(.o true t208 208)),(true,4,(.m true t208 t4))],[1,3,4,10],[]⟩ .z .z)))))))) .z)))) func174
def zJJ:FS:=⟨(.cons t208 (.cons (.box t106) .nil)),(.cons t4 .nil),[none],fun x=>yv x.1 x.2.1⟩
theorem zCX:zJJ.ok prog 178:=fS ((E0).S Eo) .z func178
def zIp:FS:=⟨(.cons t203 (.cons t210 .nil)),(.cons t3 .nil),[none],fun x=>vg x.1 x.2.1⟩
theorem zCK:zIp.ok prog 198:=fS (E0) (sz (.s (sz (.b (.l ⟨[kv 8 t3],[0,1,7],[8]⟩ [(some 0,⟨[],[],[]⟩),(none,⟨[kv 4 t3],[],[4]⟩)] .z))) .z)) func198
def zJK:FS:=⟨(.cons t203 (.cons t210 .nil)),(.cons t4 .nil),[none],fun x=>yP x.1 x.2.1⟩
theorem zCY:zJK.ok prog 177:=fS ((E0).S zCK) .z func177
def zJL:FS:=⟨(.cons t106 (.cons (.box t203) .nil)),(.cons t4 .nil),[none],fun x=>vA x.1 x.2.1⟩
theorem zCZ:zJL.ok prog 176:=fS (((E0).S zCY).S zCX) .z func176
def zIq:FS:=⟨(.cons t189 (.cons t198 .nil)),(.cons t3 .nil),[none],fun x=>vP x.1 x.2.1⟩
theorem zCL:zIq.ok prog 197:=fS (E0) (sz (.s (sz (.b (.l ⟨[kv 8 t3],[0,1,7],[8]⟩ [(some 0,⟨[],[],[]⟩),(none,⟨[kv 4 t3],[],[4]⟩)] .z))) .z)) func197
def zJM:FS:=⟨(.cons t189 (.cons t198 .nil)),(.cons t4 .nil),[none],fun x=>yG x.1 x.2.1⟩
theorem zCa:zJM.ok prog 175:=fS ((E0).S zCL) .z func175
def zJf:FS:=⟨(.cons t189 .nil),(.cons t4 .nil),[none],fun x=>gw x.1⟩
theorem RJ:zJf.ok prog 156:=fS ((((E0).S zCa).S zCZ).S RB) .z func156
def zKK:FS:=⟨(.cons t107 .nil),(.cons t4 .nil),[none],fun x=>kH x.1⟩
theorem l9:zKK.ok prog 118:=fS ((((E0).S RJ).S Er).S Es) (sz (.s (.xg ⟨[kv 2 t4],[],[2]⟩) .z)) func118
def zKH:FS:=⟨(.cons t107 (.cons t107 .nil)),(.cons t4 .nil),[none],fun x=>kt x.1 x.2.1⟩
theorem Et:zKH.ok prog 127:=fS ((((E0).S RJ).S Er).S Es) (sz (.s (.xg ⟨[kv 4 t4],[],[4]⟩) .z)) func127
def zJe:FS:=⟨(.cons t107 (.cons (.box t107) .nil)),(.cons t4 .nil),[none],fun x=>jm x.1 x.2.1⟩
theorem zCm:zJe.ok prog 157:=fS ((E0).S Et) .z func157
def zKJ:FS:=⟨(.cons t107 (.cons t28 .nil)),(.cons t4 .nil),[none],fun x=>jF x.1 x.2.1⟩
theorem RW:zKJ.ok prog 119:=fS (((E0).S l8).S zCm) .z func119
def s58:FS:=⟨(.cons t30 .nil),(.cons t43 .nil),[none],fun x=>Yy x.1⟩
theorem zFt:s58.ok prog 58:=fS (((((E0).S RW).S l9).S zAi).S zDA) (sz (sz (sz (sz (.s (sz (.b (.l ⟨[kv 32 t3],[1,30,31],[32]⟩ [(some 1,⟨[],[],[]⟩),(none,⟨[kv 2 t43],[],[2]⟩)] .z))) .z))))) func58
def zJw:FS:=⟨(.cons t107 .nil),(.cons t4 .nil),[none],fun x=>kF x.1⟩
theorem zCu:zJw.ok prog 138:=fS ((E0).S qn) .z func138
def s87:FS:=⟨(.cons t30 (.cons t33 .nil)),(.cons t4 .nil),[none],fun x=>JY x.1 x.2.1⟩
theorem zFl:s87.ok prog 87:=fS (((E0).S l8).S zCu) .z func87
def zJd:FS:=⟨(.cons t3 .nil),(.cons t28 .nil),[some 107],fun x=>vr x.1⟩
theorem zCl:zJd.okN prog 158:=fN (E0) (sz (.s (sz (.j ⟨[],[0,1],[]⟩ .z .z)) (.s (sz (sz (.j ⟨[ko 0 t107 107],[],[]⟩ (.xg ⟨[ko 0 t107 107],[],[]⟩) .z))) .z))) func158
def zKI:FS:=⟨(.cons t191 .nil),(.cons t28 .nil),[some 107],fun x=>yU x.1⟩
theorem zCz:zKI.ok prog 122:=fS ((E0).N zCl) (sz (sz (.s (sz (.b (.l ⟨[kv 3 t3,kv 11 t3],[0,9,10],[3,11]⟩ [(some 0,⟨[kv 3 t3],[0],[3]⟩)] (sz (sz (.s (.b (sz (sz (sz (.j ⟨[],[0,3,9,10,11],[]⟩ .z .z))))) .z)))))) (sz (.s (sz (.b (.l ⟨[ko 6 t107 107,kv 27 t3],[25,26],[27]⟩ [(some 2,⟨[ko 6 t107 107],[],[]⟩)] .z))) .z))))) func122
def zJt:FS:=⟨(.cons t23 .nil),(.cons t4 .nil),[none],fun x=>ju x.1⟩
theorem RN:zJt.ok prog 141:=fS (E0) (sz (.s (sz (.b (.l ⟨[kv 3 t3],[0],[3]⟩ [(some 0,⟨[],[],[]⟩),(none,⟨[kv 2 t4],[],[2]⟩)] .z))) .z)) func141
def s88:FS:=⟨(.cons t34 (.cons t3 .nil)),(.cons t43 .nil),[none],fun x=>Zs x.1 x.2.1⟩
theorem zFk:s88.ok prog 88:=fS ((((E0).S RN).S qn).S zCz) (sz (sz (.s (sz (.b (.l ⟨[kv 22 t3],[0,1,5,20,21],[22]⟩ [(some 0,⟨[],[0,1,5],[]⟩),(none,⟨[kv 4 t43],[],[4]⟩)] .z))) (sz (.s (sz (.b (.l ⟨[kv 43 t3],[0,1,5,41,42],[43]⟩ [(some 2,⟨[],[5],[]⟩),(none,⟨[kv 4 t43],[],[4]⟩)] .z))) .z))))) func88
def s30:FS:=⟨(.cons t36 .nil),(.cons t43 .nil),[none],fun x=>km x.1⟩
theorem H2:s30.ok prog 30:=fS ((((E0).S zFk).S zFl).S zFt) (sz (sz (sz (sz (.s (sz (.b (.l ⟨[kv 4 t3,kv 33 t3],[1,31,32],[4,33]⟩ [(some 1,⟨[kv 4 t3],[],[4]⟩),(none,⟨[kv 2 t43],[],[2]⟩)] .z))) .z))))) func30
def s91:FS:=⟨(.cons t36 (.cons t23 .nil)),(.cons t136 (.cons t4 .nil)),[none,none],fun x=>YV x.1 x.2.1⟩
theorem zAd:s91.ok prog 91:=fS ((E0).S RN) (sz (.s (sz (.b (.l ⟨[kv 10 t3,kw 4 t136],[1,2,4,8,9],[10,4]⟩ [(some 0,⟨[kw 4 t136],[1,4],[4]⟩),(none,⟨[kv 5 t4,kw 4 t136],[4],[5,4]⟩)] .z))) .z)) func91
def zJn:FS:=⟨(.cons t107 (.cons (.box t28) .nil)),(.cons t4 .nil),[none],fun x=>vw x.1 x.2.1⟩
theorem zCp:zJn.ok prog 147:=fS ((E0).S RW) .z func147
def s95:FS:=⟨(.cons t36 .nil),(.cons t140 .nil),[none],fun x=>kj x.1⟩
theorem Sr:s95.ok prog 95:=fS (((E0).S l8).S zCp) (sz (sz (sz (.s (sz (.b (.l ⟨[kv 16 t3,(true,4,(.o true t107 107))],[1,2,3,4,14,15],[16]⟩ [(some 0,⟨[(true,4,(.o true t107 107))],[1,2,3,4],[]⟩)] (sz (sz (.s (.b (sz (sz (.j ⟨[(true,4,(.o true t107 107))],[1,2,3,4,14,15,16],[]⟩ .z .z)))) .z)))))) (sz (.s (sz (.b (.l ⟨[kv 37 t3,kw 3 t140],[2,3,4,7,33,35,36],[37,3]⟩ [(some 2,⟨[kw 3 t140],[2,3],[3]⟩)] .z))) .z)))))) func95
def zKT:FS:=⟨(.cons t136 .nil),(.cons t23 .nil),[some 3],fun x=>vv x.1⟩
theorem qq:zKT.ok prog 103:=fS (E0) (sz (sz (.s (sz (.b (.l ⟨[ko 3 t3 3,kv 7 t3],[6],[7]⟩ [(some 0,⟨[ko 3 t3 3],[],[]⟩)] (sz (sz (.s (.b (sz (sz (.j ⟨[ko 3 t3 3],[6,7],[]⟩ .z .z)))) .z)))))) .z))) func103
def zJR:FS:=⟨(.cons t3 (.cons (.box t136) .nil)),(.cons t4 .nil),[none],fun x=>yw x.1 x.2.1⟩
theorem zCd:zJR.ok prog 170:=fS (E0) .z func170
def zJm:FS:=⟨(.cons t140 (.cons t136 .nil)),(.cons t136 .nil),[none],fun x=>jr x.1 x.2.1⟩
theorem RL:zJm.ok prog 148:=fS ((((E0).S zAi).S zCd).S qq) (sz (sz (.s (sz (.b (.l ⟨[kv 14 t3,kw 5 t136],[2,3,4,5,13],[14,5]⟩ [(some 0,⟨[kw 5 t136],[2,4,5],[5]⟩)] .z))) (.s (sz (.b (.l ⟨[(false,7,(.bv true t136 136)),kw 5 t136],[2,4,5],[5]⟩ [(some 2,⟨[kw 5 t136],[4,5],[5]⟩)] (sz (.s (.b (sz (sz (.b (.l ⟨[kv 39 t3,kw 5 t136],[2,4,5,7,37,38],[39,5]⟩ [(some 4,⟨[kw 5 t136],[2,4,5,7],[5]⟩)] .z))))) .z))))) .z)))) func148
def s96:FS:=⟨(.cons t140 (.cons t136 .nil)),(.cons t4 .nil),[none],fun x=>vX x.1 x.2.1⟩
theorem zAb:s96.ok prog 96:=fS ((E0).S RL) (sz (sz (.s (sz (.b (.l ⟨[kv 11 t3,kw 5 t136],[2,3,5,10],[11,5]⟩ [(some 0,⟨[kw 5 t136],[2,3,5],[5]⟩)] .z))) .z))) func96
def s35:FS:=⟨(.cons t36 (.cons t23 .nil)),(.cons t4 .nil),[none],fun x=>zu x.1 x.2.1⟩
theorem zFz:s35.ok prog 35:=fS (((((E0).S zAb).S Sr).S zAd).S H2) .z func35
def s78:FJ:=⟨.nil,(.pr (.ag (.pr (.v t30) (.pr (.v t33) (.pr (.o true t62 62) .un)))) .un),fun x=>gV ⟩
theorem zFr:s78.ok prog 78:=fJ ((E0).J zAh) .z func78
def zJq:FS:=⟨(.cons t28 .nil),(.cons t28 .nil),[some 107],fun x=>zf x.1⟩
theorem zCs:zJq.ok prog 144:=fS (E0) .z func144
def zJo:FS:=⟨(.cons t107 (.cons (.box t107) .nil)),(.cons t4 .nil),[none],fun x=>y6 x.1 x.2.1⟩
theorem zCq:zJo.ok prog 146:=fS ((E0).S Et) .z func146
def zJp:FO:=⟨t107,107,(.cons t166 .nil),true,fun xs x=>zl xs x.1⟩
theorem zCr:zJp.ok prog 145:=fO ((E0).S RD) (sz (sz (sz (.s (sz (.b (.l ⟨[kw 0 t28,kv 5 t3,kv 6 t3],[0,1],[5,6]⟩ [(some 0,⟨[kw 0 t28,kv 5 t3],[0],[5]⟩)] (sz (.s (.b (sz (sz (.j ⟨[kw 0 t28,kv 5 t3],[0,1,6],[5]⟩ .z .z)))) .z))))) (.s (.f [0] .z) (.s (.xg ⟨[(false,4,(.o false t107 107))],[],[]⟩) .z)))))) func145
def zJH:FS:=⟨(.cons t28 .nil),(.cons t43 .nil),[none],fun x=>Y0 x.1⟩
theorem zCW:zJH.ok prog 180:=fS ((E0).S qn) (sz (sz (.s (sz (.b (.l ⟨[kv 11 t3],[9,10],[11]⟩ [(some 0,⟨[],[],[]⟩),(none,⟨[kv 2 t43],[],[2]⟩)] .z))) .z))) func180
def zIn:FS:=⟨(.cons t107 .nil),(.cons t203 .nil),[some 208],fun x=>Y6 x.1⟩
theorem zCJ:zIn.ok prog 200:=fS ((((E0).S RB).S Er).S Es) .z func200
def zJc:FS:=⟨(.cons t107 .nil),(.cons t107 .nil),[some 106],fun x=>ya x.1⟩
theorem zCk:zJc.ok prog 159:=fS (E0) .z func159
def zIl:FS:=⟨(.cons t106 (.cons (.box t203) .nil)),(.cons t4 .nil),[none],fun x=>kG x.1 x.2.1⟩
theorem zCH:zIl.ok prog 202:=fS ((E0).S Eo) (sz (sz (.s (sz (.b (.l ⟨[kv 4 t3,kv 9 t3],[2,7,8],[4,9]⟩ [(some 0,⟨[kv 4 t3],[],[4]⟩)] (sz (sz (.s (.b (sz (sz (.j ⟨[kv 4 t3],[2,7,8,9],[4]⟩ .z .z)))) .z)))))) .z))) func202
def zIm:FO:=⟨t106,106,(.cons t198 .nil),true,fun xs x=>yF xs x.1⟩
theorem zCI:zIm.ok prog 201:=fO ((E0).S Q8) (sz (sz (sz (.s (sz (.b (.l ⟨[kw 0 t107,kv 5 t3,kv 6 t3],[0,1],[5,6]⟩ [(some 0,⟨[kw 0 t107,kv 5 t3],[0],[5]⟩)] (sz (.s (.b (sz (sz (.j ⟨[kw 0 t107,kv 5 t3],[0,1,6],[5]⟩ .z .z)))) .z))))) (.s (.f [0] .z) (.s (.xg ⟨[(false,4,(.o false t106 106))],[],[]⟩) .z)))))) func201
def zIk:FO:=⟨t106,106,(.cons t233 .nil),false,fun xs x=>z7 xs x.1⟩
theorem zCG:zIk.ok prog 203:=NM (ρ:=Go.Proofs.Tryz.rh) Go.Proofs.Tryz.zFQ (zAN 106 zEz (by kernel_rfl)).ty rfl ⟨_,func203,rfl,by kernel_rfl⟩
def zIS:FS:=⟨(.cons t3 (.cons t3 .nil)),(.cons t3 .nil),[none],fun x=>Zq x.1 x.2.1⟩
theorem zBo:zIS.ok prog 223:=fS (E0) .z func223
def zIj:FS:=⟨(.cons t106 (.cons t106 .nil)),(.cons t3 .nil),[none],fun x=>kS x.1 x.2.1⟩
theorem zCF:zIj.ok prog 204:=fS ((E0).S zBo) (sz (.b (sz (sz (.s (sz (.b (.l ⟨[kv 5 t3,kv 36 t3],[34,35],[5,36]⟩ [(some 0,⟨[kv 5 t3],[],[5]⟩)] .z))) .z))))) func204
def zIi:FO:=⟨t106,106,.nil,true,fun xs x=>yA xs ⟩
theorem zCE:zIi.ok prog 205:=fO (E0) (sz (sz (.s (sz (.b (.l ⟨[kw 0 t107,kv 3 t3],[0],[3]⟩ [(some 0,⟨[kw 0 t107],[0],[]⟩),(none,⟨[(false,2,(.o false t106 106))],[],[]⟩)] (sz (.s (.b (sz (.s (.s (.f [0] .z) (.s (sz (.b (.l ⟨[kw 0 t107,kv 3 t3,kv 5 t3],[0,4],[3,5]⟩ [(some 2,⟨[kw 0 t107,kv 3 t3],[0],[3]⟩)] (sz (.s (.b (sz (.j ⟨[kw 0 t107,kv 3 t3],[0,4,5],[3]⟩ .z .z))) .z))))) (.s (.f [0] .z) (.s (.xg ⟨[(false,2,(.o false t106 106))],[],[]⟩) .z)))) .z))) .z))))) .z))) func205
def zJG:FS:=⟨(.cons t107 .nil),(.cons t107 .nil),[some 106],fun x=>gX x.1⟩
theorem Em:zJG.ok prog 181:=fS (((((((((E0).O zCE).S zCF).O zCG).O zCI).S zCH).S zCk).S zCJ).S l9) .z func181
def zII:FS:=⟨(.cons t104 (.cons t104 .nil)),(.cons t104 .nil),[none],fun x=>wN x.1 x.2.1⟩
theorem zBe:zII.ok prog 243:=fS (E0) .z func243
def zIQ:FS:=⟨(.cons t106 .nil),(.cons t106 .nil),[none],fun x=>Ye x.1⟩
theorem zBm:zIQ.ok prog 225:=fS ((E0).S zBe) .z func225
def zIR:GS:=⟨(.cons (.box t107) (.cons (.box t107) .nil)),(.cons (.slo t106) .nil),fun x=>jl x.1 x.2.1⟩
theorem zBn:zIR.ok prog 224:=fQ ((((E0).S Em).S RC).S zBm) (sz (sz (.b (.l ⟨[kv 4 t107,kv 11 t3],[0,9,10],[4,11]⟩ [(some 0,⟨[],[],[]⟩),(none,⟨[],[],[]⟩)] (sz (sz (.s (.b (sz (.s (.s (.f [6] .z) (.s (.s .y .z) .z)) (.s (sz (.s .y .z)) .z)))) .z))))))) func224
def zIh:FS:=⟨(.cons t107 (.cons t107 .nil)),(.cons t235 .nil),[none],fun x=>Zp x.1 x.2.1⟩
theorem zCD:zIh.ok prog 206:=fS ((E0).Q zBn) (sz (.s (.f [2,3] .z) .z)) func206
def zJF:FS:=⟨(.cons t28 (.cons t107 .nil)),(.cons t28 (.cons t43 .nil)),[none,none],fun x=>kR x.1 x.2.1⟩
theorem zCV:zJF.ok prog 182:=fS (((((E0).S zCD).S Et).S Em).S l9) (sz (sz (sz (.s (.f [16,6] .z) (.s (sz (.b (.l ⟨[kv 19 t3,kw 4 t28,kw 5 t43,(true,7,(.o true t107 107))],[1,4,5,6,7,17,18],[19,4,5]⟩ [(some 0,⟨[kw 4 t28,kw 5 t43,(true,7,(.o true t107 107))],[4,5,7],[4,5]⟩),(none,⟨[kw 4 t28,kw 5 t43],[4,5],[4,5]⟩)] (sz (sz (.s (.jb ⟨[kw 4 t28,kw 5 t43,(true,7,(.o true t107 107))],[1,4,5,6,7,17,18,19],[4,5]⟩ (sz (sz (sz (.b (.l ⟨[kw 4 t28,kw 5 t43,(true,7,(.o true t107 107))],[1,4,5,6,7,17,18,19,32],[4,5]⟩ [(none,⟨[kw 4 t28,kw 5 t43],[4,5],[4,5]⟩)] (sz .z))))))) .z)))))) .z))))) func182
def zJb:FS:=⟨(.cons t107 (.cons t28 .nil)),(.cons t28 (.cons t43 .nil)),[none,none],fun x=>Yz x.1 x.2.1⟩
theorem zCj:zJb.ok prog 160:=fS ((((((E0).S zCV).S Em).S l9).S zCW).S qn) (sz (sz (sz (sz (sz (.s (.s (.f [27] .z) (.b (.l ⟨[kv 8 t28,kv 30 t3],[28,29],[8,30]⟩ [(some 0,⟨[kv 8 t28],[],[8]⟩),(none,⟨[kv 4 t28,kv 5 t43],[],[4,5]⟩)] .z))) .z)))))) func160
def zKG:FS:=⟨(.cons t28 (.cons t107 .nil)),(.cons t4 (.cons t43 .nil)),[none,none],fun x=>ZH x.1 x.2.1⟩
theorem zCy:zKG.ok prog 128:=fS ((E0).S zCj) .z func128
def s92:FS:=⟨(.cons t140 (.cons t136 .nil)),(.cons t4 (.cons t43 .nil)),[none,none],fun x=>vG x.1 x.2.1⟩
theorem Ss:s92.ok prog 92:=fS ((((((E0).S zCy).O zCr).S zCq).S qq).S zCs) (sz (sz (.s (sz (.b (.l ⟨[ko 6 t107 107,kv 22 t3],[2,20,21],[22]⟩ [(some 0,⟨[ko 6 t107 107],[2],[]⟩)] .z))) (.s (.s (.f [6] .z) (.b (.l ⟨[kv 41 t3],[2,6,39,40],[41]⟩ [(some 2,⟨[],[],[]⟩),(none,⟨[kv 4 t4,kv 5 t43],[],[4,5]⟩)] (sz (sz (.s (.jb ⟨[],[2,6,39,40,41],[]⟩ .z) .z)))))) .z)))) func92
def s33:FS:=⟨(.cons t36 (.cons t23 .nil)),(.cons t4 (.cons t43 .nil)),[none,none],fun x=>jH x.1 x.2.1⟩
theorem zAm:s33.ok prog 33:=fS ((((E0).S Ss).S zAd).S H2) .z func33
def s79:FS:=⟨(.cons t36 (.cons t4 (.cons t23 .nil))),(.cons t4 .nil),[none],fun x=>yC x.1 x.2.1 x.2.2.1⟩
theorem zFq:s79.ok prog 79:=fS ((E0).S zAm) .z func79
def zKV:FS:=⟨(.cons t140 (.cons t136 .nil)),(.cons t3 .nil),[none],fun x=>vW x.1 x.2.1⟩
theorem Ev:zKV.ok prog 101:=fS ((E0).S qq) (sz (sz (.s (sz (.b (.l ⟨[kv 5 t3,kv 11 t3],[2,9,10],[5,11]⟩ [(some 0,⟨[kv 5 t3],[],[5]⟩)] .z))) .z))) func101
def zKW(n:Nat):FK:=⟨(.cons t3 (.cons t136 .nil)),[.r t140 140,.p t3 3,.p t136 136,.s 147],t43,43,fun x c y=>YM n x.1 x.2.1 c.1 y.1 y.2.1⟩
theorem zDH:∀n,(zKW n).ok prog 100:=Wv ⟨_,func100,rfl,by kernel_rfl⟩ (fun _ _ _=>rfl) fun n ih=>fK ((((E0).S Ev).S Ss).S zAb) (sz (.s (sz (.j ⟨[kw 3 t3,kw 4 t136],[0,2,3,4,5,7],[3,4]⟩ (sz (.s (sz (.s .q .z)) (sz (sz (.j ⟨[kw 3 t3,kw 4 t136],[0,2,3,4,5,7],[3,4]⟩ (.xr [2,3] [0,1,2,3] [(1,[3])]) .z))))) .z)) (sz (.b (.l ⟨[kv 11 t3,kw 3 t3,kw 4 t136],[2,3,4,5,7],[11,3,4]⟩ [(some 0,⟨[kw 3 t3,kw 4 t136],[2,3,4,5],[3,4]⟩),(some 1000000007,⟨[kv 0 t43],[],[]⟩)] (sz (.s (.b (sz (sz .q))) .z))))))) ih func100
def zKN:FS:=⟨(.cons t140 (.cons t136 (.cons t136 .nil))),(.cons t4 .nil),[none],fun x=>gL x.1 x.2.1 x.2.2.1⟩
theorem RX:zKN.ok prog 110:=fS ((((E0).S Ss).S qq).S RL) (sz (sz (.s (sz (.b (.l ⟨[kv 18 t3],[3,7,16,17],[18]⟩ [(some 0,⟨[],[3,7],[]⟩),(none,⟨[kv 6 t4],[],[6]⟩)] .z))) .z))) func110
def zJj(n:Nat):FK:=⟨(.cons t3 (.cons t136 (.cons t136 .nil))),[.r t3 3,.r t140 140,.o t81 81 73,.s 185],.nil,0,fun x c y=>jX n x.1 x.2.1 x.2.2.1 c.1 c.2.1 y.1⟩
theorem zCn:∀n,(zJj n).ok prog 151:=Wv ⟨_,func151,rfl,by kernel_rfl⟩ (fun _ _ _=>rfl) fun n ih=>fK (((E0).S RX).S Ev) (sz (.b (sz (.j ⟨[(true,5,(.o false t81 81))],[3,4,5,6],[]⟩ .z (sz (.j ⟨[(true,5,(.o false t81 81))],[3,4,5,6],[]⟩ .z (sz (.s (.xr [2,3,4,5] [0,1,3,2,4,5] [(0,[]),(1,[10])]) (sz (.s .q .q)))))))))) ih func151
def zKU:FS:=⟨(.cons t140 (.cons t3 .nil)),(.cons t73 .nil),[some 81],fun x=>jq x.1 x.2.1⟩
theorem zDG:zKU.ok prog 102:=fSK (E0) (zCn 40) (sz (sz (sz (sz (.s .q .z))))) func102
def s37:FS:=⟨(.cons t36 .nil),(.cons t23 (.cons t3 (.cons t73 (.cons t43 .nil)))),[none,none,none,none],fun x=>Zj x.1⟩
theorem zAl:s37.ok prog 37:=fR (c:=Tryz.f37.body.getD .skip) (((((E0).S qq).S zDG).S Sr).S H2) (zDH 40) zFY .z .z (sz (sz (sz (sz (.s .q (sz (.s (.xr [1,5,6,7,8,9] [0,2,3,4,1,5,6,7,8,9] [(2,[2]),(3,[]),(4,[])]) .z))))))) (sz (.j ⟨[kw 0 t23,kw 1 t3,kw 2 t73,kw 3 t43],[0,1,2,3],[0,1,2,3]⟩ .z .z)) func37
def s19:FS:=⟨(.cons t23 (.cons t23 .nil)),(.cons t4 .nil),[none],fun x=>yg x.1 x.2.1⟩
theorem zGD:s19.ok prog 19:=fS (E0) (sz (sz (.s (sz (.b (.l ⟨[kv 5 t3],[0,1],[5]⟩ [(some 0,⟨[],[],[]⟩),(none,⟨[kv 4 t4],[],[4]⟩)] .z))) .z))) func19
def zKO(n:Nat):FK:=⟨(.cons t136 (.cons t136 .nil)),[.p t3 3,.r t73 73,.r t140 140,.s 158,.r t3 3],t156,156,fun x c y=>kU n x.1 x.2.1 c.1 c.2.1 c.2.2.1 y.1⟩
theorem zDC:∀n,(zKO n).ok prog 109:=Wv ⟨_,func109,rfl,by kernel_rfl⟩ (fun _ _ _=>rfl) fun n ih=>fK (((E0).S RX).S Ev) (sz (.s (sz (.s .q .z)) (sz (sz (.b (sz (.j ⟨[kw 2 t3],[2,3,4,5,6],[2]⟩ (.s (.xr [2,3,4,5] [0,1,3,2,4,5] [(0,[]),(1,[10])]) (.s (.xr [5,7] [0,1,2,3,4,5,6,7] [(2,[64,10]),(3,[64,10])]) (.s .q .q))) (sz (.j ⟨[],[2,3,4,5,6],[]⟩ .z (sz (sz .q))))))))))) ih func109
def s40:FS:=⟨(.cons t36 (.cons t3 (.cons t73 .nil))),(.cons t4 .nil),[none],fun x=>zg x.1 x.2.1 x.2.2.1⟩
theorem Sv:s40.ok prog 40:=fR (c:=Tryz.f40.body.getD .skip) (((E0).S Sr).S H2) (zDC 40) zBZ .z .z (sz (sz (sz (.s .q .z)))) (sz (.j ⟨[kw 0 t4],[0],[0]⟩ .z .z)) func40
def s80:FS:=⟨(.cons t36 (.cons t3 (.cons t23 .nil))),(.cons t4 .nil),[none],fun x=>yW x.1 x.2.1 x.2.2.1⟩
theorem zFp:s80.ok prog 80:=fS ((((E0).S Sv).S zGD).S zAl) .z func80
def s43:FS:=⟨.nil,(.cons t81 .nil),[none],fun x=>zn ⟩
theorem zFv:s43.ok prog 43:=fS (E0) .z func43
def s81:FS:=⟨(.cons t3 .nil),(.cons t81 .nil),[none],fun x=>yO x.1⟩
theorem zFo:s81.ok prog 81:=fS (E0) .z func81
def s82:FS:=⟨.nil,(.cons t81 .nil),[none],fun x=>y4 ⟩
theorem zFn:s82.ok prog 82:=fS (E0) .z func82
def s27:FS:=⟨.nil,(.cons t4 .nil),[none],fun x=>jD ⟩
theorem zGC:s27.ok prog 27:=fS ((((((((((((E0).S zFn).S zFo).S zFv).S Sv).S zAl).S zFp).S zFq).S zAm).J zFr).S zFz).J zAh) (sz (sz (.s (.xg ⟨[kv 2 t4],[1],[2]⟩) (sz (.s (.xg ⟨[kv 5 t4],[1,2],[5]⟩) (sz (sz (sz (sz (sz (sz (.s (.f [12] (.xr [33,35,38] [0,1,2,3,4,5,6,7,8,9,10,11,12,13,14,15,16,17,18,19,20,21,22,23,24,25,26,27,28,29,30,31,32,34,33,35,36,37,38,39,40,41,42] [(32,[156,158]),(34,[])])) .z)))))))))))) func27
def s29:FS:=⟨(.cons t22 .nil),(.cons t22 .nil),[some 23],fun x=>kZ x.1⟩
theorem zGA:s29.ok prog 29:=fS (E0) (sz (sz (.s (sz (.b (.l ⟨[ko 3 t23 23,kv 4 t3],[0],[4]⟩ [(some 0,⟨[ko 3 t23 23],[],[]⟩)] .z))) .z))) func29
def s41:FS:=⟨(.cons t3 (.cons t3 .nil)),(.cons t3 .nil),[none],fun x=>yJ x.1 x.2.1⟩
theorem zAk:s41.ok prog 41:=fS (E0) .z func41
def s85:FM:=⟨(.cons (.box t130) (.cons t3 .nil)),[some 130,none],(.cons t3 .nil),fun x=>zF x.1 x.2.1⟩
theorem H0:s85.ok prog 85:=fM ((E0).S zAk) .z func85
def zJX:FS:=⟨(.cons t104 (.cons t104 .nil)),(.cons t104 .nil),[none],fun x=>YF x.1 x.2.1⟩
theorem zCh:zJX.ok prog 164:=fS (E0) .z func164
def zJx:FS:=⟨(.cons t106 .nil),(.cons t106 .nil),[none],fun x=>vK x.1⟩
theorem RP:zJx.ok prog 137:=fS ((E0).S zCh) .z func137
def zIw:FS:=⟨(.cons t104 .nil),(.cons t26 .nil),[none],fun x=>yB x.1⟩
theorem Q7:zIw.ok prog 191:=fS (E0) .z func191
def zIZ:FS:=⟨(.cons t3 .nil),(.cons t3 .nil),[none],fun x=>vS x.1⟩
theorem zBv:zIZ.ok prog 214:=fS (E0) .z func214
def zIv:FS:=⟨(.cons t104 .nil),(.cons t104 (.cons t3 .nil)),[none,none],fun x=>gv x.1⟩
theorem zCQ:zIv.ok prog 192:=fS (((E0).S zBv).S Q7) (sz (sz (sz (.s (sz (.b (.l ⟨[kv 5 t3,kv 6 t3,kw 2 t104],[1,2,4],[5,6,2]⟩ [(some 0,⟨[kv 5 t3,kw 2 t104],[1,2],[5,2]⟩),(none,⟨[kv 3 t3,kw 2 t104],[2],[3,2]⟩)] (sz (.s (.b (sz (sz (.b (.l ⟨[kv 5 t3,kv 7 t3],[1,2,4,6],[5,7]⟩ [(some 2,⟨[kv 5 t3],[1,2,4,6],[5]⟩)] .z))))) .z))))) (sz (.s (.xr [14] [0,1,2,3,4,5,6,7,8,9,10,11,12,13,14,15] [(13,[2])]) .z)))))) func192
def zJS:FS:=⟨(.cons t106 .nil),(.cons t4 .nil),[none],fun x=>gR x.1⟩
theorem zCe:zJS.ok prog 169:=fS (((E0).S zCQ).S Q7) (sz (sz (.s (sz (.b (.l ⟨[kv 4 t3],[1,3],[4]⟩ [(some 0,⟨[],[1],[]⟩),(none,⟨[kv 2 t4],[],[2]⟩)] .z))) .z))) func169
def zJs:FS:=⟨(.cons t107 .nil),(.cons t43 .nil),[none],fun x=>zX x.1⟩
theorem KK:zJs.ok prog 142:=fS ((E0).S zCe) (sz (sz (.s (sz (.b (.l ⟨[kv 3 t3],[0],[3]⟩ [(some 0,⟨[],[],[]⟩),(none,⟨[kv 2 t43],[],[2]⟩)] .z))) .z))) func142
def zJZ:FS:=⟨(.cons t107 .nil),(.cons t107 .nil),[some 106],fun x=>gM x.1⟩
theorem Ep:zJZ.ok prog 162:=fS ((E0).S H1) (sz (sz (sz (.s (.xr [0,2,6] [1,3,4,0,2,5,6,7] [(1,[]),(3,[7]),(4,[7])]) .z)))) func162
def zIO:FS:=⟨(.cons t104 (.cons t104 .nil)),(.cons t104 .nil),[none],fun x=>vb x.1 x.2.1⟩
theorem zBk:zIO.ok prog 227:=fS (E0) .z func227
def zIP:FS:=⟨(.cons t104 (.cons t104 .nil)),(.cons t3 .nil),[none],fun x=>YG x.1 x.2.1⟩
theorem zBl:zIP.ok prog 226:=fS (E0) .z func226
def zIN:FS:=⟨(.cons t104 (.cons t3 .nil)),(.cons t104 .nil),[none],fun x=>yf x.1 x.2.1⟩
theorem zBj:zIN.ok prog 228:=fS (E0) .z func228
def zIM:FS:=⟨(.cons t104 (.cons t104 .nil)),(.cons t104 .nil),[none],fun x=>kY x.1 x.2.1⟩
theorem zBi:zIM.ok prog 229:=fS (E0) .z func229
def zIL:FS:=⟨(.cons t3 (.cons t3 .nil)),(.cons t3 .nil),[none],fun x=>zw x.1 x.2.1⟩
theorem zBh:zIL.ok prog 230:=fS (E0) (sz (.s (.b (.l ⟨[kv 0 t3,kv 1 t3],[],[0,1]⟩ [(some 0,⟨[kv 0 t3],[],[0]⟩)] .z)) .z)) func230
def zIg:FS:=⟨(.cons t106 (.cons t106 (.cons t106 .nil))),(.cons t208 (.cons t4 .nil)),[none,none],fun x=>vJ x.1 x.2.1 x.2.2.1⟩
theorem zCC:zIg.ok prog 207:=fS ((((((E0).S zBh).S zBi).S zBj).S zBl).S zBk) (sz (sz (sz (.s (.xr [8,9] [0,1,2,3,4,5,6,7,8,9] [(0,[]),(1,[]),(2,[]),(3,[]),(4,[]),(5,[]),(6,[]),(7,[])]) (sz (sz (.s (sz (.j ⟨[kv 8 t3,kw 9 t104],[6,9],[8,9]⟩ .z .z)) .z))))))) func207
def zJD:FS:=⟨(.cons t106 (.cons t208 .nil)),(.cons t3 .nil),[none],fun x=>zd x.1 x.2.1⟩
theorem Ek:zJD.ok prog 184:=fS (E0) .z func184
def zIf:FS:=⟨(.cons t107 (.cons t208 .nil)),(.cons t4 .nil),[none],fun x=>gG x.1 x.2.1⟩
theorem zCB:zIf.ok prog 208:=fS ((E0).S Ek) (sz (.s (sz (.b (.l ⟨[kv 5 t3],[0,3],[5]⟩ [(some 0,⟨[],[],[]⟩),(none,⟨[kv 4 t4],[],[4]⟩)] .z))) .z)) func208
def zIe:FS:=⟨(.cons t203 (.cons t208 .nil)),(.cons t4 .nil),[none],fun x=>yy x.1 x.2.1⟩
theorem zCA:zIe.ok prog 209:=fS (E0) (sz (.s (sz (.b (.l ⟨[kv 5 t3],[0,3],[5]⟩ [(some 0,⟨[],[],[]⟩),(none,⟨[kv 4 t4],[],[4]⟩)] .z))) .z)) func209
def zJE:FS:=⟨(.cons t107 .nil),(.cons t203 .nil),[some 208],fun x=>vi x.1⟩
theorem Q9:zJE.ok prog 183:=fS ((((E0).S zCA).S zCB).S zCC) (sz (sz (.s (sz (.b (.l ⟨[ko 3 t208 208,kv 4 t3],[0],[4]⟩ [(some 0,⟨[ko 3 t208 208],[],[]⟩)] (sz (.s (.b (sz (.b (.l ⟨[ko 3 t208 208,kv 5 t3],[0,4],[5]⟩ [(some 2,⟨[ko 3 t208 208],[0,4],[]⟩)] (sz (.s (.b (sz (.b (.l ⟨[ko 3 t208 208,kv 6 t3],[0,4,5],[6]⟩ [(some 4,⟨[ko 3 t208 208],[0,4,5],[]⟩)] (sz (.s (.b (.s (.xr [16,17] [0,1,2,3,4,5,6,7,8,9,10,11,12,13,14,15,16,17,18] [(0,[]),(1,[]),(2,[]),(3,[]),(4,[]),(5,[]),(6,[]),(7,[]),(8,[]),(9,[]),(10,[]),(11,[]),(12,[]),(13,[]),(14,[]),(15,[7])]) (sz (.j ⟨[ko 3 t208 208],[0,4,5,6],[]⟩ .z .z)))) .z)))))) .z)))))) .z))))) .z))) func183
def zJa:FS:=⟨(.cons t107 .nil),(.cons t4 .nil),[none],fun x=>gq x.1⟩
theorem RH:zJa.ok prog 161:=fS (((E0).S Ek).S Q9) (sz (sz (.s (sz (.b (.l ⟨[kv 4 t3],[0,3],[4]⟩ [(some 0,⟨[],[],[]⟩),(none,⟨[kv 2 t4],[],[2]⟩)] (sz (.s (.b (sz (.s (sz (.b (.l ⟨[kv 5 t4,kv 6 t3],[0,3,4],[5,6]⟩ [(some 2,⟨[kv 5 t4],[0,3,4],[5]⟩)] .z))) .z))) .z))))) .z))) func161
def zKE:FS:=⟨(.cons t107 .nil),(.cons t4 .nil),[none],fun x=>z6 x.1⟩
theorem qp:zKE.ok prog 130:=fS ((((E0).S RH).S Ep).S KK) (sz (.s (.xg ⟨[kv 2 t4],[],[2]⟩) .z)) func130
def s83:FS:=⟨(.cons t22 .nil),(.cons t30 .nil),[none],fun x=>j9 x.1⟩
theorem zFm:s83.ok prog 83:=fS (((((E0).S qp).S RP).S H1).M H0) (sz (sz (.s (sz (.b (.l ⟨[kv 4 t3,kw 3 t41],[0,2,3],[4,3]⟩ [(some 0,⟨[kw 3 t41],[2,3],[3]⟩)] .z))) (sz (sz (sz (.s (.xg ⟨[kv 8 t4,kw 5 t130],[2,3,5,6,7],[8,5]⟩) (sz (sz (.s (sz (.b (.l ⟨[kv 9 t3,kv 11 t3,(true,6,(.ag (.pr (.v t9) (.pr (.o true t107 107) (.pr (.o true t3 3) .un))))),kw 5 t130],[2,3,5,6,7,8,10],[9,11,5]⟩ [(some 2,⟨[(true,6,(.ag (.pr (.v t9) (.pr (.o true t107 107) (.pr (.o true t3 3) .un))))),kw 5 t130],[2,3,5,6],[5]⟩)] (sz (.s (.b (sz (sz (.s (sz (.j ⟨[(true,6,(.ag (.pr (.v t9) (.pr (.o true t107 107) (.pr (.o true t3 3) .un)))))],[2,3,5,6,7,8,9,10,11,12],[]⟩ .z .z)) .z)))) .z))))) (.s (.s (.xg ⟨[kv 102 t4,kw 5 t130],[2,3,5,6],[102,5]⟩) (.j ⟨[(true,6,(.ag (.pr (.v t9) (.pr (.o true t107 107) (.pr (.o true t3 3) .un)))))],[2,3,6],[]⟩ (sz (sz (.s (.xr [0,6,9] [1,2,3,4,5,7,8,0,6,9,10] [(1,[]),(2,[]),(3,[]),(4,[]),(5,[]),(7,[113]),(8,[113])]) (.s (.xr [0,6,10] [1,2,3,4,5,7,0,6,8,9,10,11] [(1,[]),(2,[]),(3,[]),(4,[]),(5,[]),(7,[123])]) (sz (.j ⟨[(true,6,(.ag (.pr (.v t9) (.pr (.o true t107 107) (.pr (.o true t3 3) .un)))))],[2,3,6],[]⟩ .z .z)))))) .z)) (sz (.s (sz (.b (.l ⟨[kv 18 t3,(true,6,(.ag (.pr (.v t9) (.pr (.o true t107 107) (.pr (.o true t3 3) .un))))),kw 17 t130],[2,6,17],[18,17]⟩ [(some 4,⟨[(true,6,(.ag (.pr (.v t9) (.pr (.o true t107 107) (.pr (.o true t3 3) .un)))))],[2,6],[]⟩)] (sz (.s (.b (.xr [4,8,10] [0,1,2,3,4,5,6,7,8,9,10] [(0,[165,17,154]),(1,[165,17,154]),(2,[165,17,154])])) .z))))) .z))))))))))))) func83
def s86:FS:=⟨(.cons t22 (.cons t30 .nil)),(.cons t28 .nil),[some 107],fun x=>vH x.1 x.2.1⟩
theorem zAf:s86.ok prog 86:=fS (((E0).S H1).M H0) (sz (sz (.s (sz (.b (.l ⟨[ko 5 t107 107,kv 6 t3],[0,3],[6]⟩ [(some 0,⟨[ko 5 t107 107],[],[]⟩)] (sz (.s (.b (sz (sz (.s (.xr [7,10] [0,1,2,3,4,5,6,7,8,9,10,11] [(0,[33,7,27]),(1,[33,7,27]),(2,[33,7,27])]) (.s (sz (.j ⟨[kv 9 t107,kw 7 t130],[0,3,5,6,7,8],[9,7]⟩ (sz (.xr [5,10] [0,1,2,3,4,5,6,7,8,9,10,11] [(0,[52,7,27]),(1,[52,7,27]),(2,[52,7,27]),(3,[52,7,27])])) .z)) (.s (sz (.j ⟨[kv 9 t107],[0,3,5,6],[9]⟩ (sz (.xr [5,11,17,20] [0,1,2,3,4,7,8,9,10,13,14,15,16,5,6,11,12,17,18,19,20,21] [(0,[75,7,27,81,87]),(1,[75,7,27,81,87]),(2,[75,7,27,81,87]),(3,[75,7,27,81,87]),(6,[81,7,27,87]),(7,[75,7,27,81,87]),(8,[75,7,27,81,87]),(9,[75,7,27,81,87]),(10,[75,7,27]),(12,[87,7,27]),(13,[75,7,27,81,87]),(14,[75,7,27,81,87]),(15,[75,7,27,81,87]),(16,[75,7,27,81])])) .z)) .z)))))) .z))))) .z))) func86
def zKD:FS:=⟨(.cons t107 (.cons t107 .nil)),(.cons t4 .nil),[none],fun x=>zZ x.1 x.2.1⟩
theorem qo:zKD.ok prog 131:=fS ((((E0).S RH).S Ep).S KK) .z func131
def s67:FS:=⟨(.cons t30 .nil),(.cons t43 .nil),[none],fun x=>gP x.1⟩
theorem zAj:s67.ok prog 67:=fS (((E0).S qo).S qp) (sz (sz (sz (.s (sz (.b (.l ⟨[kv 3 t3],[1],[3]⟩ [(some 0,⟨[],[1],[]⟩),(none,⟨[kv 2 t43],[],[2]⟩)] .z))) (.s (sz (.b (.l ⟨[kv 4 t3],[1],[4]⟩ [(some 2,⟨[],[],[]⟩),(none,⟨[kv 2 t43],[],[2]⟩)] (sz (.s (.b (sz (sz (.b (.l ⟨[kv 5 t3],[1,4],[5]⟩ [(some 4,⟨[],[1,4],[]⟩),(none,⟨[kv 2 t43],[],[2]⟩)] .z))))) .z))))) .z))))) func67
def zKC:FS:=⟨(.cons t28 .nil),(.cons t43 .nil),[none],fun x=>yb x.1⟩
theorem RV:zKC.ok prog 132:=fS ((E0).S KK) (sz (.s (sz (.b (.l ⟨[kv 3 t3],[0],[3]⟩ [(some 0,⟨[],[],[]⟩),(none,⟨[kv 2 t43],[],[2]⟩)] .z))) .z)) func132
def s89:FS:=⟨(.cons t30 (.cons t33 .nil)),(.cons t4 .nil),[none],fun x=>gl x.1 x.2.1⟩
theorem zAe:s89.ok prog 89:=fS ((E0).S RV) .z func89
def zKM:FS:=⟨(.cons t28 .nil),(.cons t28 .nil),[some 107],fun x=>gm x.1⟩
theorem zDB:zKM.ok prog 111:=fS (E0) (sz (sz (.s (sz (.b (.l ⟨[ko 3 t107 107,kv 4 t3],[0],[4]⟩ [(some 0,⟨[ko 3 t107 107],[],[]⟩)] .z))) .z))) func111
def zKB:FS:=⟨(.cons t107 (.cons t28 .nil)),(.cons t4 .nil),[none],fun x=>yN x.1 x.2.1⟩
theorem RT:zKB.ok prog 133:=fS ((E0).S qo) (sz (.s (sz (.b (.l ⟨[kv 5 t3],[0,1],[5]⟩ [(some 0,⟨[],[],[]⟩),(none,⟨[kv 4 t4],[],[4]⟩)] .z))) .z)) func133
def zJz:FS:=⟨(.cons t28 (.cons t107 .nil)),(.cons t28 .nil),[some 107],fun x=>vZ x.1 x.2.1⟩
theorem zCw:zJz.ok prog 135:=fS ((E0).S qo) (sz (sz (.s (sz (.b (.l ⟨[ko 5 t107 107,kv 6 t3],[0,1],[6]⟩ [(some 0,⟨[ko 5 t107 107],[],[]⟩)] (sz (.s (.b (sz (.j ⟨[ko 5 t107 107],[0,1,6],[]⟩ .z .z))) .z))))) .z))) func135
def zJC:FS:=⟨(.cons t28 .nil),(.cons t43 .nil),[none],fun x=>jc x.1⟩
theorem zCU:zJC.ok prog 185:=fS ((E0).S KK) (sz (sz (.s (sz (.b (.l ⟨[kv 3 t3],[0],[3]⟩ [(some 0,⟨[],[],[]⟩),(none,⟨[kv 2 t43],[],[2]⟩)] .z))) .z))) func185
def zId:FS:=⟨(.cons t107 .nil),(.cons t203 .nil),[some 208],fun x=>jC x.1⟩
theorem zBz:zId.ok prog 210:=fS ((((E0).S Q9).S Ep).S KK) .z func210
def zIK:FS:=⟨(.cons t106 (.cons t106 .nil)),(.cons t3 .nil),[none],fun x=>y8 x.1 x.2.1⟩
theorem zBg:zIK.ok prog 231:=fS (E0) (sz (sz (sz (.s (sz (.b (.l ⟨[kv 7 t3],[5,6],[7]⟩ [(some 0,⟨[],[],[]⟩),(none,⟨[kv 4 t3],[],[4]⟩)] .z))) .z)))) func231
def zIc:FS:=⟨(.cons t107 (.cons t106 .nil)),(.cons t107 .nil),[none],fun x=>jM x.1 x.2.1⟩
theorem zBy:zIc.ok prog 211:=fS ((E0).S zBg) (sz (sz (.s (.b (.l ⟨[kv 5 t3],[0,3],[5]⟩ [(some 0,⟨[kv 5 t3],[0,3],[5]⟩)] .z)) .z))) func211
def zJB:FS:=⟨(.cons t107 .nil),(.cons t107 .nil),[none],fun x=>zm x.1⟩
theorem Ej:zJB.ok prog 186:=fS (((((E0).S zBy).S Ek).S zBz).S qp) (sz (sz (sz (sz (.s (sz (.b (.l ⟨[kv 4 t107,kv 5 t3],[0,3],[4,5]⟩ [(some 0,⟨[kv 4 t107],[],[4]⟩)] (sz (.s (.b (sz (.s (sz (.b (.l ⟨[kv 6 t3,kv 7 t3],[0,3,4,5],[6,7]⟩ [(some 2,⟨[kv 6 t3],[0,3,4,5],[6]⟩)] (sz (.s (.b (sz (.j ⟨[kv 6 t3],[0,3,4,5,7],[6]⟩ .z .z))) .z))))) (sz (.j ⟨[kv 4 t107],[0,3,5],[4]⟩ .z .z))))) .z))))) .z))))) func186
def zIJ:FS:=⟨(.cons t107 (.cons t106 .nil)),(.cons t107 .nil),[some 106],fun x=>yM x.1 x.2.1⟩
theorem zBf:zIJ.ok prog 232:=fS (E0) (sz (.s (.xr [0,2,5] [1,3,4,0,2,5,6] [(1,[]),(3,[5]),(4,[5])]) .z)) func232
def zIb:FS:=⟨(.cons t107 (.cons t107 .nil)),(.cons t28 (.cons t43 .nil)),[some 107,none],fun x=>gQ x.1 x.2.1⟩
theorem zBx:zIb.ok prog 212:=fS ((((E0).S Ej).S zBf).S RP) (sz (sz (sz (.s (sz (.b (.l ⟨[ko 6 t107 107,kv 7 t107,kv 8 t3],[1],[7,8]⟩ [(some 0,⟨[ko 6 t107 107],[],[]⟩),(none,⟨[ko 4 t107 107,kv 5 t43],[],[5]⟩)] (sz (.s (.b (sz (sz (.s (sz (.j ⟨[ko 6 t107 107],[1,7,8],[]⟩ .z .z)) .z)))) .z))))) .z)))) func212
def zJA:FS:=⟨(.cons t28 (.cons t107 .nil)),(.cons t28 (.cons t43 .nil)),[none,none],fun x=>y7 x.1 x.2.1⟩
theorem zCT:zJA.ok prog 187:=fS (((((E0).S zBx).S Ej).S qo).S qp) (sz (sz (sz (.s (sz (.b (.l ⟨[ko 6 t107 107,kv 7 t3],[0,1],[7]⟩ [(some 0,⟨[ko 6 t107 107],[],[]⟩),(none,⟨[kv 4 t28,kv 5 t43],[],[4,5]⟩)] (sz (.s (.jb ⟨[ko 6 t107 107],[0,1,7],[]⟩ .z) .z))))) .z)))) func187
def zJY:FS:=⟨(.cons t107 (.cons t28 .nil)),(.cons t28 (.cons t43 .nil)),[none,none],fun x=>ja x.1 x.2.1⟩
theorem zCi:zJY.ok prog 163:=fS ((((((E0).S zCT).S Ej).S qp).S zCU).S KK) (sz (sz (.s (sz (.j ⟨[kv 6 t43],[0,1],[6]⟩ .z .z)) (sz (sz (.s (sz (.j ⟨[kv 7 t28],[1],[7]⟩ .z .z)) (.s (.s (.f [26] .z) (.b (.l ⟨[kv 7 t28,kv 8 t3],[1],[7,8]⟩ [(some 0,⟨[kv 7 t28],[],[7]⟩),(none,⟨[kv 4 t28,kv 5 t43],[],[4,5]⟩)] .z))) .z))))))) func163
def zKA:FS:=⟨(.cons t28 (.cons t107 .nil)),(.cons t4 (.cons t43 .nil)),[none,none],fun x=>ye x.1 x.2.1⟩
theorem RQ:zKA.ok prog 134:=fS ((E0).S zCi) .z func134
def s68:FS:=⟨(.cons t30 (.cons t33 (.cons t28 (.cons t28 .nil)))),(.cons t33 (.cons t43 .nil)),[none,none],fun x=>jZ x.1 x.2.1 x.2.2.1 x.2.2.2.1⟩
theorem zFs:s68.ok prog 68:=fS ((((((((E0).S RQ).S zCw).S RT).S zDB).S RV).S zAe).S zAj) (sz (sz (sz (sz (sz (.s (sz (.j ⟨[kv 10 t43],[2,3,4,5,8],[10]⟩ .z .z)) (sz (sz (sz (.s (sz (.b (.l ⟨[kv 12 t3,kw 8 t33,(true,11,(.ag (.pr (.o true t4 4) (.pr (.o true t4 4) (.pr (.v t28) .un)))))],[2,3,4,5,8,11],[12,8]⟩ [(some 0,⟨[kw 8 t33,(true,11,(.ag (.pr (.o true t4 4) (.pr (.o true t4 4) (.pr (.v t28) .un)))))],[8,11],[8]⟩),(none,⟨[kv 9 t43,kw 8 t33],[8],[9,8]⟩)] (sz (.s (.b (sz (sz (sz (.s (sz (.j ⟨[kv 14 t4,kw 8 t33],[2,3,4,5,8,11,12],[14,8]⟩ .z .z)) .z))))) .z))))) .z)))))))))) func68
def s44:FS:=⟨(.cons t30 (.cons t23 (.cons t3 .nil))),(.cons t62 .nil),[none],fun x=>vF x.1 x.2.1 x.2.2.1⟩
theorem zFu:s44.ok prog 44:=fS (((E0).S zAf).M H0) (sz (sz (sz (.s (.s (.xg ⟨[kv 25 t4,kw 7 t130],[1,2,3,6,7,8],[25,7]⟩) (.j ⟨[(true,8,(.ag (.pr (.o true t107 107) (.pr (.o true t107 107) (.pr (.v t3) (.pr (.o true t3 3) .un))))))],[1,3,6,7,8],[]⟩ .z .z)) (sz (.s (sz (.b (.l ⟨[kv 10 t3,(true,8,(.ag (.pr (.o true t107 107) (.pr (.o true t107 107) (.pr (.v t3) (.pr (.o true t3 3) .un)))))),kw 7 t130],[1,3,6,7,8,9],[10,7]⟩ [(some 0,⟨[(true,8,(.ag (.pr (.o true t107 107) (.pr (.o true t107 107) (.pr (.v t3) (.pr (.o true t3 3) .un))))))],[1,3,6,8,9],[]⟩)] (sz (.s (.b (sz (.s (sz (.j ⟨[kv 11 t4,kw 7 t130],[1,3,6,7,8,9,10],[11,7]⟩ (.xg ⟨[kv 11 t4,kw 7 t130],[1,3,6,7,8,9,10],[11,7]⟩) .z)) (sz (.j ⟨[(true,8,(.ag (.pr (.o true t107 107) (.pr (.o true t107 107) (.pr (.v t3) (.pr (.o true t3 3) .un))))))],[1,3,6,7,8,9,10],[]⟩ (.xr [2,8,9,10,12] [0,1,3,4,5,6,7,2,8,9,10,11,12] [(0,[58]),(1,[58]),(3,[]),(4,[]),(5,[]),(6,[]),(7,[])]) .z))))) .z))))) (.s (sz (.j ⟨[(true,8,(.ag (.pr (.o true t107 107) (.pr (.o true t107 107) (.pr (.v t3) (.pr (.o true t3 3) .un))))))],[1,3,6,8,9],[]⟩ .z .z)) (.s (sz (.j ⟨[(true,8,(.ag (.pr (.o true t107 107) (.pr (.o true t107 107) (.pr (.v t3) (.pr (.o true t3 3) .un))))))],[6,8],[]⟩ .z .z)) .z)))))))) func44
def zJr:FS:=⟨(.cons t23 .nil),(.cons t4 .nil),[none],fun x=>jQ x.1⟩
theorem zCt:zJr.ok prog 143:=fS (E0) (sz (.s (sz (.b (.l ⟨[kv 3 t3],[0],[3]⟩ [(some 0,⟨[],[],[]⟩),(none,⟨[kv 2 t4],[],[2]⟩)] .z))) .z)) func143
def s90:FS:=⟨(.cons t34 (.cons t3 .nil)),(.cons t43 .nil),[none],fun x=>gA x.1 x.2.1⟩
theorem zFj:s90.ok prog 90:=fS (((E0).S zCt).S KK) (sz (sz (.s (.xr [0,3,6] [1,2,4,5,0,3,6,7] [(1,[]),(2,[]),(4,[14]),(5,[14])]) (.s (sz (.b (.l ⟨[kv 7 t3],[0,1,5,6],[7]⟩ [(some 0,⟨[],[0,1,5],[]⟩),(none,⟨[kv 4 t43],[],[4]⟩)] .z))) (sz (.s (sz (.b (.l ⟨[kv 9 t3],[0,1,5],[9]⟩ [(some 2,⟨[],[5],[]⟩),(none,⟨[kv 4 t43],[],[4]⟩)] .z))) .z)))))) func90
def s31:FS:=⟨(.cons t36 .nil),(.cons t43 .nil),[none],fun x=>yx x.1⟩
theorem Sw:s31.ok prog 31:=fS ((((E0).S zFj).S zAe).S zAj) (sz (sz (sz (sz (sz (sz (.s (sz (.b (.l ⟨[kv 4 t3,kv 5 t3],[1],[4,5]⟩ [(some 0,⟨[kv 4 t3],[],[4]⟩),(none,⟨[kv 2 t43],[],[2]⟩)] .z))) .z))))))) func31
def s28:FJ:=⟨(.cons t22 .nil),(.pr (.ag (.pr (.v t30) (.pr (.v t33) (.pr (.o true t62 62) .un)))) .un),fun x=>j8 x.1⟩
theorem zGB:s28.ok prog 28:=fJ ((((((((E0).S Sw).S zFu).S zFs).S zAf).M H0).S zAg).S zFm) (sz (sz (.s (.xr [2,4,5] [0,1,2,3,4,5] [(0,[]),(1,[]),(3,[])]) (.s (sz (.j ⟨[(true,4,(.ag (.pr (.v t30) (.pr (.v t33) (.pr (.o true t62 62) .un)))))],[0,2,3,4],[]⟩ (sz (sz (.j ⟨[(true,4,(.ag (.pr (.v t30) (.pr (.v t33) (.pr (.o true t62 62) .un)))))],[0,2,3,4],[]⟩ (.s (.xr [19,20] [0,1,2,3,4,5,6,7,8,9,10,11,12,13,14,15,16,17,18,19,20,21] [(0,[]),(1,[]),(2,[]),(3,[]),(4,[]),(5,[]),(6,[]),(7,[]),(8,[]),(9,[]),(10,[]),(11,[]),(12,[]),(13,[]),(14,[]),(15,[]),(16,[]),(17,[]),(18,[6])]) (sz (.j ⟨[(true,4,(.ag (.pr (.v t30) (.pr (.v t33) (.pr (.o true t62 62) .un)))))],[0,2,3,4],[]⟩ .z .z))) .z))) .z)) (.s (sz (.b (.l ⟨[kv 8 t3,(true,4,(.ag (.pr (.v t30) (.pr (.v t33) (.pr (.o true t62 62) .un)))))],[0,2,3,4],[8]⟩ [(some 0,⟨[(true,4,(.ag (.pr (.v t30) (.pr (.v t33) (.pr (.o true t62 62) .un)))))],[2,3,4],[]⟩)] .z))) (.s (sz (.j ⟨[(true,4,(.ag (.pr (.v t30) (.pr (.v t33) (.pr (.o true t62 62) .un)))))],[2,4],[]⟩ .z .z)) (.s (.b (.l ⟨[(true,4,(.ag (.pr (.v t30) (.pr (.v t33) (.pr (.o true t62 62) .un)))))],[2,4],[]⟩ [(some 2,⟨[(true,4,(.ag (.pr (.v t30) (.pr (.v t33) (.pr (.o true t62 62) .un)))))],[2,4],[]⟩)] (sz (.b (.xg ⟨[(true,4,(.ag (.pr (.v t30) (.pr (.v t33) (.pr (.o true t62 62) .un)))))],[2,4],[]⟩))))) .z))))))) func28
def zKS(n:Nat):FS:=⟨(.cons t3 (.cons t3 .nil)),(.cons t22 .nil),[some 23],fun x=>jY n x.1 x.2.1⟩
theorem zDF:∀n,(zKS n).ok prog 104:=Wu ⟨_,func104,rfl,by kernel_rfl⟩ (fun _=>rfl) fun n ih=>fS ((E0).S ih) (sz (sz (.s (sz (.b (.l ⟨[ko 5 t23 23,kv 6 t3],[1],[6]⟩ [(some 0,⟨[ko 5 t23 23],[],[]⟩)] (sz (.s (.b (sz (sz (.b (.l ⟨[ko 5 t23 23,kv 8 t3],[1,6,7],[8]⟩ [(some 2,⟨[ko 5 t23 23],[1,6],[]⟩)] .z))))) .z))))) .z))) func104
def zJk:FS:=⟨(.cons t36 (.cons t62 .nil)),(.cons t4 .nil),[none],fun x=>jB x.1 x.2.1⟩
theorem zCo:zJk.ok prog 150:=fS ((E0).S RT) (sz (.s (sz (.b (.l ⟨[kv 5 t3],[2,3],[5]⟩ [(some 0,⟨[],[],[]⟩),(none,⟨[kv 4 t4],[],[4]⟩)] .z))) .z)) func150
def s98:FS:=⟨(.cons t36 .nil),(.cons t31 .nil),[some 4],fun x=>gC x.1⟩
theorem zAa:s98.ok prog 98:=fS ((E0).S zCo) (sz (sz (.s (sz (.b (.l ⟨[ko 3 t4 4,kv 4 t3],[1],[4]⟩ [(some 0,⟨[ko 3 t4 4],[],[]⟩)] .z))) .z))) func98
def zJl:FS:=⟨(.cons t23 (.cons t3 .nil)),(.cons t4 .nil),[none],fun x=>yI x.1 x.2.1⟩
theorem l7:zJl.ok prog 149:=fS (E0) (sz (.s (sz (.b (.l ⟨[kv 5 t3],[0,1],[5]⟩ [(some 0,⟨[],[],[]⟩),(none,⟨[kv 4 t4],[],[4]⟩)] .z))) .z)) func149
def s97:FS:=⟨(.cons t36 (.cons t31 (.cons t23 .nil))),(.cons t4 .nil),[none],fun x=>gh x.1 x.2.1 x.2.2.1⟩
theorem zFi:s97.ok prog 97:=fS ((E0).S l7) (sz (.s (sz (.b (.l ⟨[kv 7 t3],[1,2,3],[7]⟩ [(some 0,⟨[],[],[]⟩),(none,⟨[kv 6 t4],[],[6]⟩)] (sz (.s (.b (.s (.xr [8,9] [0,1,2,3,4,5,6,7,8,9] [(0,[]),(1,[]),(2,[]),(3,[]),(4,[]),(5,[]),(6,[]),(7,[])]) (sz (sz (.b (.l ⟨[kv 9 t3],[1,2,3,7,8],[9]⟩ [(some 2,⟨[],[1,2,3,7],[]⟩),(none,⟨[kv 6 t4],[],[6]⟩)] .z)))))) .z))))) .z)) func97
def s94:FS:=⟨(.cons t36 (.cons t23 .nil)),(.cons t4 (.cons t43 .nil)),[none,none],fun x=>vz x.1 x.2.1⟩
theorem zAc:s94.ok prog 94:=fS (((E0).S RQ).S qo) (sz (sz (.s (sz (.b (.l ⟨[ko 6 t107 107,kv 7 t3],[1,2],[7]⟩ [(some 0,⟨[ko 6 t107 107],[2],[]⟩)] .z))) (.s (sz (.b (.l ⟨[kv 8 t3],[2,6],[8]⟩ [(some 2,⟨[],[],[]⟩),(none,⟨[kv 4 t4,kv 5 t43],[],[4,5]⟩)] (sz (.s (.jb ⟨[],[2,6,8],[]⟩ (sz (sz (.s (sz (.b (.l ⟨[ko 9 t107 107,kv 10 t3],[2,6,8],[10]⟩ [(some 4,⟨[ko 9 t107 107],[2,6,8],[]⟩)] (sz (.s (.b (sz (.j ⟨[ko 9 t107 107],[2,6,8,10],[]⟩ .z .z))) .z))))) .z)))) .z))))) .z)))) func94
def zKR:FS:=⟨(.cons t36 (.cons t23 .nil)),(.cons t3 .nil),[none],fun x=>yV x.1 x.2.1⟩
theorem Eu:zKR.ok prog 105:=fS (E0) (sz (sz (.s (sz (.b (.l ⟨[kv 5 t3,kv 6 t3],[1,2],[5,6]⟩ [(some 0,⟨[kv 5 t3],[],[5]⟩)] .z))) .z))) func105
def zJQ:FS:=⟨(.cons t36 (.cons t31 (.cons t23 .nil))),(.cons t23 .nil),[some 3],fun x=>j7 x.1 x.2.1 x.2.2.1⟩
theorem zCc:zJQ.ok prog 171:=fS ((E0).S l7) (sz (sz (.s (sz (.b (.l ⟨[ko 7 t3 3,kv 8 t3],[1,2,3],[8]⟩ [(some 0,⟨[ko 7 t3 3],[3],[]⟩)] (sz (.s (.b (sz (.j ⟨[ko 7 t3 3],[1,2,3,8],[]⟩ .z .z))) .z))))) (.b (.l ⟨[ko 7 t3 3],[3],[]⟩ [(none,⟨[ko 6 t3 3],[],[]⟩)] (.b (sz (.s (sz (.b (.l ⟨[kv 9 t3,kv 10 t3],[3,7],[9,10]⟩ [(some 4,⟨[kv 9 t3],[3,7],[9]⟩)] (sz (.s (.b (sz (sz (.b (.l ⟨[kv 9 t3,kv 12 t3],[3,7,10,11],[9,12]⟩ [(some 6,⟨[kv 9 t3],[3,7,10],[9]⟩)] (sz (.s (.b (sz (.j ⟨[kv 9 t3],[3,7,10,11,12],[9]⟩ .z .z))) .z))))))) .z))))) (sz (.f [7] (.xr [0,4,9] [1,2,3,5,6,7,8,0,4,9,10] [(1,[]),(2,[]),(3,[]),(5,[71]),(6,[71]),(7,[71]),(8,[71])]))))))))))) func171
def zJi:FS:=⟨(.cons t36 (.cons t31 (.cons t23 (.cons t23 .nil)))),(.cons t4 .nil),[none],fun x=>vY x.1 x.2.1 x.2.2.1 x.2.2.2.1⟩
theorem RK:zJi.ok prog 152:=fS ((((E0).S zAc).S l7).S zCc) (sz (sz (.s (sz (.b (.l ⟨[kv 10 t3],[2,4,9],[10]⟩ [(some 0,⟨[],[4,9],[]⟩),(none,⟨[kv 8 t4],[],[8]⟩)] .z))) .z))) func152
def zKQ(n:Nat):FS:=⟨(.cons t36 (.cons t31 (.cons t3 (.cons t23 (.cons t23 (.cons t3 .nil)))))),(.cons t73 .nil),[some 81],fun x=>vy n x.1 x.2.1 x.2.2.1 x.2.2.2.1 x.2.2.2.2.1 x.2.2.2.2.2.1⟩
theorem zDE:∀n,(zKQ n).ok prog 106:=Wu ⟨_,func106,rfl,by kernel_rfl⟩ (fun _=>rfl) fun n ih=>fS ((((E0).S RK).S Eu).S ih) (sz (sz (sz (.s (.xr [6,8,11,15,16] [0,1,2,3,4,5,7,9,10,12,13,14,6,8,11,15,16,17] [(0,[45,47]),(1,[45,47]),(2,[45,47]),(3,[45,47]),(4,[45,47]),(5,[45,47]),(7,[]),(9,[45]),(10,[45]),(12,[45,47]),(13,[45,47]),(14,[45,47])]) (.s (.xr [5,7,10,13,14] [0,1,2,3,4,6,8,9,11,12,5,7,10,13,14,15] [(0,[61,63]),(1,[61,63]),(2,[61,63]),(3,[61,63]),(4,[61,63]),(6,[]),(8,[61]),(9,[61]),(11,[61,63]),(12,[61,63])]) .z))))) func106
def s38:FS:=⟨(.cons t36 .nil),(.cons t23 (.cons t3 (.cons t73 (.cons t43 .nil)))),[none,none,none,none],fun x=>gk x.1⟩
theorem zFy:s38.ok prog 38:=fS ((((((((E0).S (zDE 40)).S Eu).S zAc).S zFi).S zAa).S (zDF 40)).S Sw) (sz (sz (sz (sz (sz (sz (sz (.s (sz (.b (.l ⟨[kv 7 t23,kv 8 t3,kv 11 t3],[1,9,10],[7,8,11]⟩ [(some 0,⟨[kv 7 t23,kv 8 t3],[1,10],[7,8]⟩),(none,⟨[kv 2 t23,kv 3 t3,ko 4 t81 81,kv 5 t43],[],[2,3,5]⟩)] (sz (.s (.jb ⟨[kv 7 t23,kv 8 t3],[1,9,10,11],[7,8]⟩ (sz (sz (sz (sz (.j ⟨[kv 7 t23,kv 8 t3],[1,9,10,11],[7,8]⟩ .z .z)))))) .z))))) .z)))))))) func38
def s42:FS:=⟨(.cons t78 .nil),(.cons t73 .nil),[some 81],fun x=>gU x.1⟩
theorem zFw:s42.ok prog 42:=fS (E0) (sz (sz (.s (sz (.b (.l ⟨[ko 3 t81 81,kv 4 t3],[0],[4]⟩ [(some 0,⟨[ko 3 t81 81],[],[]⟩)] (sz (.s (.b (sz (.s (sz (.j ⟨[kw 5 t81],[0,3,4,5],[5]⟩ .z .z)) .z))) .z))))) .z))) func42
def zKP(n:Nat):FS:=⟨(.cons t36 (.cons t31 (.cons t3 (.cons t73 (.cons t3 (.cons t23 (.cons t23 .nil))))))),(.cons t3 .nil),[none],fun x=>yQ n x.1 x.2.1 x.2.2.1 x.2.2.2.1 x.2.2.2.2.1 x.2.2.2.2.2.1 x.2.2.2.2.2.2.1⟩
theorem zDD:∀n,(zKP n).ok prog 107:=Wu ⟨_,func107,rfl,by kernel_rfl⟩ (fun _=>rfl) fun n ih=>fS (((((E0).S RK).S Eu).S l7).S ih) (sz (sz (sz (.s (sz (.s (.s (.xr [0,2,6] [1,3,4,5,0,2,6,7] [(1,[]),(3,[61]),(4,[61]),(5,[61])]) (sz (.s (.xr [6,8,12] [0,1,2,3,4,5,7,9,10,11,6,8,12,13,14] [(0,[83,85]),(1,[83,85]),(2,[83,85]),(3,[83,85]),(4,[83,85]),(5,[83,85]),(7,[]),(9,[83]),(10,[83]),(11,[83])]) .z))) .z)) .z)))) func107
def s39:FS:=⟨(.cons t36 (.cons t3 (.cons t73 .nil))),(.cons t4 .nil),[none],fun x=>gO x.1 x.2.1 x.2.2.1⟩
theorem zFx:s39.ok prog 39:=fS ((((E0).S (zDD 40)).S zAa).S Sw) .z func39
def s9:FS:=⟨(.cons t22 (.cons t26 (.cons t3 (.cons t78 (.cons t73 .nil))))),(.cons t4 .nil),[none],fun x=>jA x.1 x.2.1 x.2.2.1 x.2.2.2.1 x.2.2.2.2.1⟩
theorem zKd:s9.ok prog 9:=fS (((((((((E0).S zFx).S Sv).S zFw).S zAk).S zFy).J zGB).S zGA).S zGC) (sz (sz (sz (sz (sz (.s (sz (.j ⟨[ko 17 t81 81],[2,3,4,11,12,14,15],[]⟩ (sz (sz (.b (sz (.j ⟨[ko 17 t81 81],[2,3,4,11,12,14,15],[]⟩ .z (sz (.j ⟨[ko 17 t81 81],[2,3,4,11,12,14,15],[]⟩ .z (sz (.j ⟨[ko 17 t81 81],[2,3,4,11,12,14,15],[]⟩ .z (sz (.j ⟨[ko 17 t81 81],[2,3,4,11,12,14,15],[]⟩ .z .z))))))))))) .z)) (.s (.s (.xr [10,12,13] [0,1,2,3,4,5,6,7,8,9,11,15,10,12,13,14] [(0,[98]),(1,[98]),(4,[98]),(5,[98]),(6,[98]),(7,[98]),(8,[98]),(11,[]),(15,[98,88,15,32,89,17,36,91,96,100])]) (.b (.l ⟨[kv 103 t3],[2,11,12,14,101,102],[103]⟩ [(some 1,⟨[],[11],[]⟩),(none,⟨[kv 10 t4],[],[10]⟩)] (sz (sz (.s (.b (sz (sz (.b (.l ⟨[kv 117 t3],[2,11,12,14,20,101,102,103,115,116],[117]⟩ [(some 3,⟨[],[2,11,12,14,101,102,103],[]⟩),(none,⟨[kv 10 t4],[],[10]⟩)] .z))))) .z)))))) .z))))))) func9
end Go.Dn
end
section
namespace Go.Lift
open Go Go.RowKit Go.Eng Go.ChangeShapes Go.WideShapes Go.ChangeAt Go.Joins Go.Deep Go.WideElems
variable {H:Type} {enc:TypeId×Value->H} {P:Program} {w:World} {base:Nat} {sp:Nat->Bool} {held:Bool} {α β γ:Type}
abbrev O0:zR:=fun _=>0
structure Opens(enc:TypeId×Value->H)(P:Program)(w:World)(base:Nat)(sp:Nat->Bool)(held:Bool)(t:Nat)(r:GR α)(Q:α->Prop):Prop where
 size:P.cellsOf t=r.sz
 fits:r.fits
 op:∀fuel cs x,DataW.trod enc P w base sp held fuel t cs=some x->∃y,r.rel O0 w cs y/\Q y
theorem pF{t:Nat}{k:IntKind}(ht:P.underlying t=some (.int k))(hs:P.cellsOf t=1):Opens enc P w base sp held t (Ww k) fun n=>(Lit.int k n).wf=true :=
 ⟨hs,fun _=>rfl,fun fuel cs x h=>by obtain⟨n,h1,_,h2⟩:=DataW.trod_int ht h;exact⟨n,h1,h2⟩⟩
theorem Gk{r:GR α}{O:zR}{Q:α->Prop}:∀ {vs:List Value},(∀v∈vs,∃y,r.v O w v y/\Q y)->∃ys,y5 r O w vs ys/\∀y∈ys,Q y
 | [],_=>⟨[],trivial,by simp⟩
 |v::vs,h=>by
   obtain⟨y,h1,h2⟩:=h v (by simp)
   obtain⟨ys,h3,h4⟩:=Gk (vs:=vs) fun u hu=>h u (zLj _ hu)
   exact⟨y::ys,⟨h1,h3⟩,fun z hz=>(zLd.1 hz).elim (fun e=>by grind) (h4 z)⟩
theorem wq{t e:Nat}{r:GR α}{Q:α->Prop}(ht:P.underlying t=some (.slice e))(hs:P.cellsOf t=1)(hE:Opens enc P w base sp held e r Q)(t7:0<r.sz):Opens enc P w base sp held t (rSl r) fun xs=>(∀x∈xs,Q x)/\xs.length<=maxLen:=by
 refine⟨hs,fun _=>rfl,fun fuel cs x h=>?_⟩
 rcases DataW.trod_slice ht h with ⟨rfl,_⟩|⟨a,len,cap,hC6,rest,n,_,rfl,_,hb,hl,hm,fA,oS,_,_⟩
 ·exact⟨[],⟨_,[],rfl,⟨none,0,rfl,by simp,by simp,.inl rfl⟩,trivial,fun h=>zLp rfl h⟩,by simp,by simp⟩
 ·have each:∀i,i<len->∃cs,w.cells? base (a.add (i * r.sz)) r.sz=some cs/\∃y,r.rel O0 w cs y/\Q y:=by
   intro i hi;have:=oS i hi
   rw[zMD (by omega),hE.size,Option.bind_eq_some_iff]at this
   obtain⟨cs,h1,h2⟩:=this;exact⟨cs,h1,hE.op n cs _ h2⟩
  let f:Nat->Value:=fun i=>yD r.agg ((w.cells? base (a.add (i * r.sz)) r.sz).getD [])
  have hf:∀i,i<len->∃y,r.v O0 w (f i) y/\Q y:=by
   intro i hi;obtain⟨cs,h1,y,h2,h3⟩:=each i hi;exact⟨y,⟨cs,h2,by grind⟩,h3⟩
  have hfc:∀i,i<len->∀j,j<r.sz->w.cell? (a.add (i * r.sz+j))=(f i).cells[j]?:=by
   intro i hi j hj;obtain⟨cs,h1,y,h2,_⟩:=each i hi;have h4:=(World.cells?_some h1).2.2 j hj
   have h5:(f i).cells=cs.toArray:=by
    show (yD r.agg ((w.cells? base (a.add (i * r.sz)) r.sz).getD [])).cells=_
    rw[h1];exact j6 (fun ha=>by show cs.length=1;rw[r.len h2,hE.fits ha]) (r.one h2)
   grind [_root_.Go.Addr.add_add]
  obtain⟨ys,h1,h2⟩:=Gk (r:=r) (O:=O0) (w:=w) (Q:=Q) (vs:=(List.range len).map f) (by
   grind)
  have dW:ys.length=len:=by have:=h1.len;grind
  refine⟨ys,⟨_,(List.range len).map f,rfl,⟨some a,cap,by simp,by grind,?_,?_⟩,h1,?_⟩,h2,by omega⟩
  ·intro v hv
   obtain⟨y,hy⟩:∃y,r.v O0 w v y:=by
    grind
   exact r.Ze hE.fits hy
  ·by_cases h0:len=0
   ·grind
   ·right
    obtain⟨b,off,spot⟩:=a;have a8:(w.cell? (Addr.add ⟨b,off,spot⟩ (0 * r.sz+0))).isSome=true:=by
     rw[hfc 0 (by omega) 0 t7]
     obtain⟨y,hy,_⟩:=hf 0 (by omega)
     have:=r.Ze hE.fits hy;grind
    obtain⟨v0,hv0⟩:=Option.isSome_iff_exists.1 a8;have hB7:spot=none:=by simpa[Addr.add] using World.cell?_spot hv0
    subst hB7;refine⟨b,off,rfl,fun i x hx j hj=>?_⟩
    have hi:i<len:=by grind
    have hx':x=f i:=by
     grind
    grind [Addr.add]
  ·intro fD g hg
   have h0:0<len:=by
    grind
   have cS:g=a.block:=by
    have:(Value.slice (some a) len cap).ownBlock=some a.block:=rfl;grind
   subst cS;refine⟨?_,rfl⟩;obtain⟨cs,h3,_⟩:=each 0 h0;have h4:=(World.cells?_some h3)
   have h5:=h4.2.2 0 t7;simp_all [Addr.add,World.block_lt_of_cell?]
theorem Bc{t:Nat}{r:GR α}{Q:α->Prop}{v:Value}{d:DataW H}{ps:List MemPlace}(hE:Opens enc P w base sp held t r Q)(hv:yD r.agg v.cells.toList=v)(h:DataW.Trod enc P w base sp held t v d ps):∃x,r.v O0 w v x/\Q x:=by
 obtain⟨fuel,hf⟩:=h;obtain⟨y,h1,h2⟩:=hE.op fuel _ _ hf;exact⟨y,⟨_,h1,hv.symm⟩,h2⟩
theorem qV{t e:Nat}{r:GR α}{Q:α->Prop}{re:Reach}{b0:Nat}{v:Value}{d:DataW H}{ps:List MemPlace}(ht:P.underlying t=some (.slice e))(hs:P.cellsOf t=1)(hE:Opens enc P w base sp held e r Q)(t7:0<r.sz)(xF:Value.okWide P w re b0 t v)(h:DataW.Trod enc P w base sp held t v d ps) :
  ∃xs,(rSl r).v O0 w v xs/\(∀x∈xs,Q x)/\xs.length<=maxLen:=by
 obtain⟨a,len,cap,rfl⟩:=okWide_slice ht xF;exact Bc (wq ht hs hE t7) (by simp[Value.cells,yD,rSl]) h
theorem zDY:OkO O0 w:=fun _ _=>rfl
theorem zHw(cs:List Value)(off s:Nat):cs.drop off=(cs.drop off).take s++cs.drop (off+s):=by
 rw[<-List.drop_drop,List.take_append_drop]
theorem Opens.at_{t:Nat}{r:GR α}{Q:α->Prop}(hE:Opens enc P w base sp held t r Q){off n:Nat}{cs:List Value}{y}(h:DataW.trod enc P w base sp held n t ((cs.drop off).take (P.cellsOf t))=some y):∃a,r.rel O0 w ((cs.drop off).take r.sz) a/\Q a:=by
 rw[hE.size]at h;exact hE.op n _ _ h
theorem nD{n e:Nat}{t:TypeId}{r:Reach}{b:Nat}{v:Value}(ht:P.underlying t=some (.array n e))(h:Value.okWide P w r b t v):∃cs,v=.agg cs/\cs.size=P.cellsOf t:=by
 simp only[Value.okWide,ht]at h;grind
theorem Dh{t n e:Nat}{r:GR α}{Q:α->Prop}{re:Reach}{b0:Nat}{v:Value}{d:DataW H}{ps:List MemPlace}(ht:P.underlying t=some (.array n e))(hE:Opens enc P w base sp held t r Q)(ha:r.agg=true)(xF:Value.okWide P w re b0 t v)(h:DataW.Trod enc P w base sp held t v d ps):∃x,r.v O0 w v x/\Q x:=by
 obtain⟨cs,rfl,_⟩:=nD ht xF;exact Bc hE (by simp[Value.cells,yD,ha]) h
theorem wf_u8{n:Int}(h:(Lit.int .u8 n).wf=true):0<=n/\n<256:=by
 grind [Lit.wf,IntKind.min,IntKind.max,IntKind.signed,IntKind.bits]
end Go.Lift
end
section
namespace Go.Den
open Go Go.RowKit Go.Eng Go.Lift Go.ChangeShapes Go.WideShapes Go.ChangeAt Go.Joins Go.Deep Go.WideElems
variable {H:Type} {enc:TypeId×Value->H} {P:Program} {w:World} {base:Nat} {sp:Nat->Bool} {held:Bool} {α β γ:Type}
theorem HC{r:GR α}{Q:α->Prop}:∀(n:Nat) (cs:List Value),cs.length=n * r.sz->(∀i,i<n->∃y,r.rel O0 w ((cs.drop (i * r.sz)).take r.sz) y/\Q y)->∃ys:List α,ys.length=n/\jf r O0 w cs ys/\∀y∈ys,Q y
 |0,cs,h,_=>⟨[],rfl,List.eq_nil_of_length_eq_zero (by omega),by simp⟩
 |n+1,cs,h,hh=>by
  obtain⟨y,h1,h2⟩:=hh 0 (by omega)
  rw[Nat.zero_mul,List.drop_zero]at h1;obtain⟨ys,h3,h4,h5⟩:=HC (r:=r) (Q:=Q) n (cs.drop r.sz) (by grind) (fun i hi=>by
   obtain⟨z,h6,h7⟩:=hh (i+1) (by omega)
   refine⟨z,?_,h7⟩;simp_all [Nat.add_mul,Nat.add_comm])
  refine⟨y::ys,by grind,⟨cs.take r.sz,cs.drop r.sz,(List.take_append_drop _ _).symm,h1,h4⟩,fun z hz=>?_⟩
  grind
theorem Iv{t e n:Nat}{r:GR α}{Q:α->Prop}(ht:P.underlying t=some (.array n e))(hs:P.cellsOf t=n * r.sz)(hE:Opens enc P w base sp held e r Q):Opens enc P w base sp held t (zHP n r) fun x=>x.length=n/\∀y∈x,Q y:=by
 refine⟨hs,(fun h=>by cases h),fun fuel cs x h=>?_⟩
 obtain⟨xs,m,rfl,rfl,fA,hxl,oS⟩:=DataW.trod_array ht h;obtain⟨ys,h1,h2,h3⟩:=HC (w:=w) (r:=r) (Q:=Q) n cs (by omega) (fun i hi=>by
  have:=oS i hi;rw[zMD (by omega)]at this
  have hc:P.cellsOf e=r.sz:=hE.size;rw[hc]at this;have h4:(cs.drop (i * r.sz)).take r.sz=(cs.drop (i * r.sz)).take (P.cellsOf e):=by rw[hc]
  rw[h4]at this;exact hE.at_ this)
 exact⟨ys,⟨h1,h2⟩,h1,h3⟩
theorem Dj{rs vs:List Value}{v v1:Value}(h3:kh rs v)(h4:rs=v1::vs)(h7:vs=[]):v=v1:=by
 subst h7 h4;rcases h3 with h|h
 ·cases h
 ·exact h
end Go.Den
end
