/- The texts T0, C0, C1, A0, D0, D1, D2, D3, B0, B1, D4, E0, E1, G0, G1, G2, H0, H1, I0, I1, R1, R2, X0, R3, V0, S14, S15, S16, S17, S18, S19, R4, one behind the other: walks of the program, and plain laws of what it computes. Conditions: as each theorem says. -/
import Derived.Test.YtpaohlmgfifebaaGreatDoorXG1
import Derived.Test.YtpaohlmgfifebaaGreatDoorChecked
import Derived.Maps.Range
import Derived.JoinedOf
import Derived.SliceStrings
import Derived.Deep.Slices
import Derived.HandedShaped

set_option linter.unusedVariables false
set_option linter.unusedSimpArgs false
set_option maxHeartbeats 4000000
set_option maxRecDepth 100000
namespace Go.Proofs.YtpaohlmgfifebaaGreatDoor
open Go
section
abbrev zC:=WN Tryz.prog
set_option maxRecDepth 100000
theorem Cz:Tryz.prog.follows .mixedOrders=true:=zK
theorem fB:PN Tryz.prog 105=some 5:=zK
theorem DC:PN Tryz.prog 146=some 2:=zK
theorem Lr:PN Tryz.prog 148=some 3:=zK
theorem EC:PN Tryz.prog 201=some 3:=zK
theorem KS:PN Tryz.prog 204=some 5:=zK
theorem KT:PN Tryz.prog 217=some 5:=zK
theorem YI:PN Tryz.prog 250=some 8:=zK
theorem wi:PN Tryz.prog 264=some 4:=zK
theorem WT:PN Tryz.prog 267=some 4:=zK
theorem fC:PN Tryz.prog 313=some 2:=zK
theorem qF:PN Tryz.prog 317=some 4:=zK
theorem kT:PN Tryz.prog 342=some 16:=zK
theorem wj:PN Tryz.prog 349=some 8:=zK
theorem wk:PN Tryz.prog 351=some 10:=zK
theorem kU:PN Tryz.prog 365=some 4:=zK
theorem qG:PN Tryz.prog 376=some 64:=zK
theorem wl:PN Tryz.prog 378=some 2:=zK
theorem wJ:PN Tryz.prog 38=some 3:=zK
theorem Hy:PN Tryz.prog 43=some 4:=zK
theorem yv:PN Tryz.prog 45=some 6:=zK
theorem Mw:PN Tryz.prog 55=some 2:=zK
theorem qR:RW Tryz.prog 146=some 24:=zK
theorem fI:RW Tryz.prog 148=some 40:=zK
theorem aV:RW Tryz.prog 204=some 64:=zK
theorem yx:RW Tryz.prog 22=some 24:=zK
theorem Sb:RW Tryz.prog 36=some 4:=zK
theorem yy:RW Tryz.prog 4=some 1:=zK
theorem Sc:RW Tryz.prog 43=some 32:=zK
theorem YM:RW Tryz.prog 5=some 1:=zK
theorem dU:RW Tryz.prog 55=some 24:=zK
theorem tQ:RW Tryz.prog 9=some 16:=zK
theorem mY:AP Tryz.prog 100=true:=zK
theorem tT:AP Tryz.prog 101=true:=zK
theorem mZ:AP Tryz.prog 102=true:=zK
theorem tU:AP Tryz.prog 103=true:=zK
theorem tV:AP Tryz.prog 104=true:=zK
theorem tW:AP Tryz.prog 106=true:=zK
theorem fh:AP Tryz.prog 108=true:=zK
theorem tX:AP Tryz.prog 109=true:=zK
theorem tY:AP Tryz.prog 110=true:=zK
theorem Zu:AP Tryz.prog 111=true:=zK
theorem tZ:AP Tryz.prog 112=true:=zK
theorem ta:AP Tryz.prog 113=true:=zK
theorem tc:AP Tryz.prog 114=true:=zK
theorem td:AP Tryz.prog 115=true:=zK
theorem ma:AP Tryz.prog 116=true:=zK
theorem fi:AP Tryz.prog 117=true:=zK
theorem Vb:AP Tryz.prog 118=true:=zK
theorem Vc:AP Tryz.prog 119=true:=zK
theorem Zv:AP Tryz.prog 120=true:=zK
theorem Zw:AP Tryz.prog 121=true:=zK
theorem Zx:AP Tryz.prog 122=true:=zK
theorem Zy:AP Tryz.prog 123=true:=zK
theorem te:AP Tryz.prog 124=true:=zK
theorem mc:AP Tryz.prog 125=true:=zK
theorem md:AP Tryz.prog 126=true:=zK
theorem me:AP Tryz.prog 127=true:=zK
theorem mf:AP Tryz.prog 128=true:=zK
theorem tf:AP Tryz.prog 129=true:=zK
theorem tg:AP Tryz.prog 130=true:=zK
theorem ti:AP Tryz.prog 131=true:=zK
theorem mg:AP Tryz.prog 132=true:=zK
theorem mh:AP Tryz.prog 133=true:=zK
theorem tj:AP Tryz.prog 134=true:=zK
theorem tn:AP Tryz.prog 136=true:=zK
theorem mi:AP Tryz.prog 137=true:=zK
theorem to:AP Tryz.prog 138=true:=zK
theorem tp:AP Tryz.prog 139=true:=zK
theorem YQ:AP Tryz.prog 14=true:=zK
theorem tq:AP Tryz.prog 140=true:=zK
theorem tu:AP Tryz.prog 143=true:=zK
theorem mj:AP Tryz.prog 144=true:=zK
theorem tv:AP Tryz.prog 145=true:=zK
theorem tw:AP Tryz.prog 148=true:=zK
theorem XV:AP Tryz.prog 149=true:=zK
theorem tx:AP Tryz.prog 150=true:=zK
theorem tz:AP Tryz.prog 151=true:=zK
theorem ml:AP Tryz.prog 152=true:=zK
theorem mm:AP Tryz.prog 153=true:=zK
theorem t0:AP Tryz.prog 154=true:=zK
theorem mn:AP Tryz.prog 155=true:=zK
theorem t9:AP Tryz.prog 156=true:=zK
theorem mo:AP Tryz.prog 157=true:=zK
theorem uA:AP Tryz.prog 158=true:=zK
theorem mq:AP Tryz.prog 159=true:=zK
theorem kj:AP Tryz.prog 16=true:=zK
theorem mr:AP Tryz.prog 160=true:=zK
theorem ms:AP Tryz.prog 161=true:=zK
theorem Zz:AP Tryz.prog 162=true:=zK
theorem mu:AP Tryz.prog 163=true:=zK
theorem mw:AP Tryz.prog 165=true:=zK
theorem uB:AP Tryz.prog 166=true:=zK
theorem Z0:AP Tryz.prog 167=true:=zK
theorem uC:AP Tryz.prog 168=true:=zK
theorem uD:AP Tryz.prog 169=true:=zK
theorem qY:AP Tryz.prog 17=true:=zK
theorem uE:AP Tryz.prog 170=true:=zK
theorem uF:AP Tryz.prog 171=true:=zK
theorem uG:AP Tryz.prog 172=true:=zK
theorem uH:AP Tryz.prog 173=true:=zK
theorem uI:AP Tryz.prog 174=true:=zK
theorem uJ:AP Tryz.prog 175=true:=zK
theorem uK:AP Tryz.prog 176=true:=zK
theorem uL:AP Tryz.prog 177=true:=zK
theorem uM:AP Tryz.prog 178=true:=zK
theorem fj:AP Tryz.prog 179=true:=zK
theorem kl:AP Tryz.prog 18=true:=zK
theorem uN:AP Tryz.prog 180=true:=zK
theorem Z1:AP Tryz.prog 181=true:=zK
theorem uO:AP Tryz.prog 182=true:=zK
theorem uP:AP Tryz.prog 183=true:=zK
theorem fm:AP Tryz.prog 184=true:=zK
theorem uQ:AP Tryz.prog 185=true:=zK
theorem uR:AP Tryz.prog 186=true:=zK
theorem fp:AP Tryz.prog 187=true:=zK
theorem uS:AP Tryz.prog 188=true:=zK
theorem uT:AP Tryz.prog 189=true:=zK
theorem aw:AP Tryz.prog 19=true:=zK
theorem uU:AP Tryz.prog 191=true:=zK
theorem uV:AP Tryz.prog 192=true:=zK
theorem uW:AP Tryz.prog 193=true:=zK
theorem uX:AP Tryz.prog 194=true:=zK
theorem uY:AP Tryz.prog 195=true:=zK
theorem uZ:AP Tryz.prog 196=true:=zK
theorem mz:AP Tryz.prog 197=true:=zK
theorem ua:AP Tryz.prog 198=true:=zK
theorem m0:AP Tryz.prog 199=true:=zK
theorem Wc:AP Tryz.prog 20=true:=zK
theorem ub:AP Tryz.prog 200=true:=zK
theorem uc:AP Tryz.prog 201=true:=zK
theorem OT:AP Tryz.prog 202=true:=zK
theorem nA:AP Tryz.prog 203=true:=zK
theorem ud:AP Tryz.prog 204=true:=zK
theorem ue:AP Tryz.prog 205=true:=zK
theorem uf:AP Tryz.prog 206=true:=zK
theorem ug:AP Tryz.prog 207=true:=zK
theorem uh:AP Tryz.prog 208=true:=zK
theorem ui:AP Tryz.prog 209=true:=zK
theorem wu:AP Tryz.prog 21=true:=zK
theorem fq:AP Tryz.prog 210=true:=zK
theorem XW:AP Tryz.prog 211=true:=zK
theorem uj:AP Tryz.prog 212=true:=zK
theorem OU:AP Tryz.prog 213=true:=zK
theorem uk:AP Tryz.prog 214=true:=zK
theorem ul:AP Tryz.prog 215=true:=zK
theorem nB:AP Tryz.prog 216=true:=zK
theorem nC:AP Tryz.prog 217=true:=zK
theorem um:AP Tryz.prog 218=true:=zK
theorem un:AP Tryz.prog 219=true:=zK
theorem wv:AP Tryz.prog 22=true:=zK
theorem nD:AP Tryz.prog 220=true:=zK
theorem uo:AP Tryz.prog 221=true:=zK
theorem ft:AP Tryz.prog 222=true:=zK
theorem fu:AP Tryz.prog 223=true:=zK
theorem uq:AP Tryz.prog 224=true:=zK
theorem ur:AP Tryz.prog 225=true:=zK
theorem nE:AP Tryz.prog 226=true:=zK
theorem ut:AP Tryz.prog 227=true:=zK
theorem Z2:AP Tryz.prog 228=true:=zK
theorem Z3:AP Tryz.prog 229=true:=zK
theorem ww:AP Tryz.prog 23=true:=zK
theorem fx:AP Tryz.prog 230=true:=zK
theorem nF:AP Tryz.prog 231=true:=zK
theorem nG:AP Tryz.prog 232=true:=zK
theorem uu:AP Tryz.prog 233=true:=zK
theorem uv:AP Tryz.prog 234=true:=zK
theorem uw:AP Tryz.prog 235=true:=zK
theorem wx:AP Tryz.prog 24=true:=zK
theorem ux:AP Tryz.prog 241=true:=zK
theorem uz:AP Tryz.prog 244=true:=zK
theorem nH:AP Tryz.prog 245=true:=zK
theorem u2:AP Tryz.prog 246=true:=zK
theorem u3:AP Tryz.prog 247=true:=zK
theorem u4:AP Tryz.prog 248=true:=zK
theorem nI:AP Tryz.prog 249=true:=zK
theorem fy:AP Tryz.prog 250=true:=zK
theorem u5:AP Tryz.prog 251=true:=zK
theorem u6:AP Tryz.prog 252=true:=zK
theorem u7:AP Tryz.prog 253=true:=zK
theorem u9:AP Tryz.prog 254=true:=zK
theorem nJ:AP Tryz.prog 255=true:=zK
theorem vA:AP Tryz.prog 256=true:=zK
theorem nK:AP Tryz.prog 257=true:=zK
theorem vC:AP Tryz.prog 258=true:=zK
theorem vD:AP Tryz.prog 259=true:=zK
theorem vE:AP Tryz.prog 260=true:=zK
theorem nL:AP Tryz.prog 266=true:=zK
theorem vF:AP Tryz.prog 267=true:=zK
theorem Vd:AP Tryz.prog 268=true:=zK
theorem vG:AP Tryz.prog 269=true:=zK
theorem wy:AP Tryz.prog 27=true:=zK
theorem vH:AP Tryz.prog 270=true:=zK
theorem vJ:AP Tryz.prog 271=true:=zK
theorem nM:AP Tryz.prog 272=true:=zK
theorem vK:AP Tryz.prog 273=true:=zK
theorem vL:AP Tryz.prog 274=true:=zK
theorem nN:AP Tryz.prog 275=true:=zK
theorem nO:AP Tryz.prog 276=true:=zK
theorem vM:AP Tryz.prog 277=true:=zK
theorem vN:AP Tryz.prog 278=true:=zK
theorem wz:AP Tryz.prog 28=true:=zK
theorem vQ:AP Tryz.prog 280=true:=zK
theorem Rf:AP Tryz.prog 281=true:=zK
theorem Pp:AP Tryz.prog 282=true:=zK
theorem vR:AP Tryz.prog 283=true:=zK
theorem vT:AP Tryz.prog 284=true:=zK
theorem f0:AP Tryz.prog 285=true:=zK
theorem vU:AP Tryz.prog 286=true:=zK
theorem Pq:AP Tryz.prog 287=true:=zK
theorem vV:AP Tryz.prog 288=true:=zK
theorem nP:AP Tryz.prog 289=true:=zK
theorem w4:AP Tryz.prog 29=true:=zK
theorem nQ:AP Tryz.prog 290=true:=zK
theorem Z4:AP Tryz.prog 291=true:=zK
theorem km:AP Tryz.prog 30=true:=zK
theorem w5:AP Tryz.prog 31=true:=zK
theorem w6:AP Tryz.prog 36=true:=zK
theorem qZ:AP Tryz.prog 37=true:=zK
theorem w7:AP Tryz.prog 39=true:=zK
theorem kn:AP Tryz.prog 40=true:=zK
theorem w8:AP Tryz.prog 41=true:=zK
theorem qa:AP Tryz.prog 42=true:=zK
theorem w9:AP Tryz.prog 43=true:=zK
theorem xA:AP Tryz.prog 44=true:=zK
theorem xB:AP Tryz.prog 45=true:=zK
theorem xC:AP Tryz.prog 46=true:=zK
theorem xD:AP Tryz.prog 47=true:=zK
theorem Um:AP Tryz.prog 49=true:=zK
theorem xE:AP Tryz.prog 50=true:=zK
theorem qb:AP Tryz.prog 51=true:=zK
theorem f3:AP Tryz.prog 52=true:=zK
theorem kp:AP Tryz.prog 53=true:=zK
theorem xF:AP Tryz.prog 54=true:=zK
theorem kq:AP Tryz.prog 55=true:=zK
theorem xG:AP Tryz.prog 56=true:=zK
theorem qc:AP Tryz.prog 57=true:=zK
theorem xH:AP Tryz.prog 58=true:=zK
theorem xI:AP Tryz.prog 59=true:=zK
theorem qe:AP Tryz.prog 60=true:=zK
theorem f4:AP Tryz.prog 61=true:=zK
theorem xJ:AP Tryz.prog 62=true:=zK
theorem qf:AP Tryz.prog 64=true:=zK
theorem kr:AP Tryz.prog 65=true:=zK
theorem xK:AP Tryz.prog 66=true:=zK
theorem qg:AP Tryz.prog 67=true:=zK
theorem xL:AP Tryz.prog 68=true:=zK
theorem xM:AP Tryz.prog 69=true:=zK
theorem qh:AP Tryz.prog 70=true:=zK
theorem xN:AP Tryz.prog 71=true:=zK
theorem qi:AP Tryz.prog 73=true:=zK
theorem qj:AP Tryz.prog 75=true:=zK
theorem Un:AP Tryz.prog 76=true:=zK
theorem f6:AP Tryz.prog 77=true:=zK
theorem Rx:AP Tryz.prog 78=true:=zK
theorem ax:AP Tryz.prog 79=true:=zK
theorem xO:AP Tryz.prog 80=true:=zK
theorem xP:AP Tryz.prog 81=true:=zK
theorem f7:AP Tryz.prog 82=true:=zK
theorem ku:AP Tryz.prog 83=true:=zK
theorem kw:AP Tryz.prog 84=true:=zK
theorem kx:AP Tryz.prog 85=true:=zK
theorem ky:AP Tryz.prog 86=true:=zK
theorem f8:AP Tryz.prog 87=true:=zK
theorem qk:AP Tryz.prog 88=true:=zK
theorem ql:AP Tryz.prog 89=true:=zK
theorem qm:AP Tryz.prog 90=true:=zK
theorem qo:AP Tryz.prog 91=true:=zK
theorem f9:AP Tryz.prog 92=true:=zK
theorem xQ:AP Tryz.prog 93=true:=zK
theorem xR:AP Tryz.prog 95=true:=zK
theorem kz:AP Tryz.prog 96=true:=zK
theorem ay:AP Tryz.prog 97=true:=zK
theorem xS:AP Tryz.prog 98=true:=zK
theorem gA:AP Tryz.prog 99=true:=zK
theorem zp:Tryz.prog.cellsOf 5=1:=zK
theorem xV:jL Tryz.prog 146=some [(0,.int .u32),(1,.string)]:=zK
theorem k9:jL Tryz.prog 201=some [(0,.int .u32),(1,.int .u32),(2,.int .i64)]:=zK
theorem zA:jL Tryz.prog 43=some [(0,.int .u64),(1,.int .u32),(2,.int .u32),(3,.string)]:=zK
theorem zB:jL Tryz.prog 55=some [(0,.int .u32),(1,.string)]:=zK
theorem Xj:fo Tryz.prog 102 0=some 0:=zK
theorem Xk:fo Tryz.prog 102 1=some 4:=zK
theorem Xl:fo Tryz.prog 102 2=some 5:=zK
theorem NK:fo Tryz.prog 102 4=some 7:=zK
theorem L7:fo Tryz.prog 105 0=some 0:=zK
theorem Oq:fo Tryz.prog 105 1=some 1:=zK
theorem Uu:fo Tryz.prog 109 0=some 0:=zK
theorem rE:fo Tryz.prog 109 1=some 1:=zK
theorem jO:fo Tryz.prog 109 2=some 2:=zK
theorem Sk:fo Tryz.prog 118 0=some 0:=zK
theorem Sl:fo Tryz.prog 118 1=some 1:=zK
theorem jP:fo Tryz.prog 118 2=some 2:=zK
theorem NL:fo Tryz.prog 118 3=some 3:=zK
theorem Xm:fo Tryz.prog 118 4=some 6:=zK
theorem jQ:fo Tryz.prog 118 5=some 7:=zK
theorem L8:fo Tryz.prog 131 0=some 0:=zK
theorem jR:fo Tryz.prog 131 1=some 1:=zK
theorem RB:fo Tryz.prog 131 2=some 2:=zK
theorem jS:fo Tryz.prog 131 3=some 3:=zK
theorem bN:fo Tryz.prog 131 4=some 4:=zK
theorem bO:fo Tryz.prog 137 0=some 0:=zK
theorem jT:fo Tryz.prog 137 1=some 1:=zK
theorem jU:fo Tryz.prog 137 2=some 2:=zK
theorem rF:fo Tryz.prog 137 3=some 3:=zK
theorem bP:fo Tryz.prog 137 4=some 4:=zK
theorem Uv:fo Tryz.prog 137 5=some 5:=zK
theorem Sm:fo Tryz.prog 142 0=some 0:=zK
theorem rG:fo Tryz.prog 142 1=some 1:=zK
theorem bQ:fo Tryz.prog 142 2=some 2:=zK
theorem rH:fo Tryz.prog 142 3=some 3:=zK
theorem bR:fo Tryz.prog 142 4=some 4:=zK
theorem P5:fo Tryz.prog 142 5=some 5:=zK
theorem Ds:fo Tryz.prog 146 0=some 0:=zK
theorem Or:fo Tryz.prog 146 1=some 1:=zK
theorem jV:fo Tryz.prog 148 0=some 0:=zK
theorem EU:fo Tryz.prog 148 1=some 1:=zK
theorem Xn:fo Tryz.prog 161 0=some 0:=zK
theorem KE:fo Tryz.prog 161 1=some 1:=zK
theorem HE:fo Tryz.prog 201 0=some 0:=zK
theorem HF:fo Tryz.prog 201 1=some 1:=zK
theorem Eg:fo Tryz.prog 201 2=some 2:=zK
theorem Ot:fo Tryz.prog 204 0=some 0:=zK
theorem Sn:fo Tryz.prog 204 1=some 3:=zK
theorem Ih:fo Tryz.prog 204 2=some 4:=zK
theorem rI:fo Tryz.prog 214 0=some 0:=zK
theorem bS:fo Tryz.prog 214 1=some 1:=zK
theorem Uw:fo Tryz.prog 214 2=some 2:=zK
theorem NM:fo Tryz.prog 217 0=some 0:=zK
theorem Xo:fo Tryz.prog 217 1=some 1:=zK
theorem Xp:fo Tryz.prog 217 2=some 2:=zK
theorem So:fo Tryz.prog 217 3=some 3:=zK
theorem jW:fo Tryz.prog 229 0=some 0:=zK
theorem Xq:fo Tryz.prog 229 1=some 1:=zK
theorem Ux:fo Tryz.prog 229 2=some 2:=zK
theorem Xr:fo Tryz.prog 229 3=some 3:=zK
theorem Sp:fo Tryz.prog 229 4=some 4:=zK
theorem Sq:fo Tryz.prog 250 0=some 0:=zK
theorem K0:fo Tryz.prog 250 1=some 1:=zK
theorem L9:fo Tryz.prog 250 2=some 4:=zK
theorem GK:fo Tryz.prog 250 3=some 5:=zK
theorem Ou:fo Tryz.prog 250 4=some 6:=zK
theorem jX:fo Tryz.prog 267 0=some 0:=zK
theorem Xs:fo Tryz.prog 267 1=some 1:=zK
theorem bT:fo Tryz.prog 267 2=some 2:=zK
theorem bU:fo Tryz.prog 267 3=some 3:=zK
theorem Uy:fo Tryz.prog 298 0=some 0:=zK
theorem jY:fo Tryz.prog 317 0=some 0:=zK
theorem jZ:fo Tryz.prog 317 1=some 1:=zK
theorem bV:fo Tryz.prog 317 2=some 2:=zK
theorem bW:fo Tryz.prog 317 3=some 3:=zK
theorem bX:fo Tryz.prog 323 0=some 0:=zK
theorem bY:fo Tryz.prog 351 0=some 0:=zK
theorem NN:fo Tryz.prog 351 1=some 8:=zK
theorem Xt:fo Tryz.prog 351 2=some 9:=zK
theorem Ri:fo Tryz.prog 38 0=some 0:=zK
theorem gI:fo Tryz.prog 38 1=some 1:=zK
theorem Rj:fo Tryz.prog 38 2=some 2:=zK
theorem Mq:fo Tryz.prog 43 0=some 0:=zK
theorem JS:fo Tryz.prog 43 1=some 1:=zK
theorem JT:fo Tryz.prog 43 2=some 2:=zK
theorem Ov:fo Tryz.prog 43 3=some 3:=zK
theorem vc:fo Tryz.prog 45 4=some 4:=zK
theorem vd:fo Tryz.prog 45 5=some 5:=zK
theorem Gy:fo Tryz.prog 55 0=some 0:=zK
theorem TR:fo Tryz.prog 55 1=some 1:=zK
theorem gJ:fo Tryz.prog 92 0=some 0:=zK
theorem Rk:fo Tryz.prog 92 1=some 1:=zK
theorem Z7:fo Tryz.prog 92 2=some 2:=zK
theorem Iq:fo Tryz.prog 95 0=some 0:=zK
theorem Kk:fo Tryz.prog 95 1=some 3:=zK
theorem Nj:fo Tryz.prog 95 2=some 4:=zK
theorem Vg:fo Tryz.prog 95 3=some 5:=zK
theorem Qg:fo Tryz.prog 95 4=some 6:=zK
theorem Z8:fo Tryz.prog 95 5=some 7:=zK
theorem nX:fo Tryz.prog 97 0=some 0:=zK
theorem nY:fo Tryz.prog 97 1=some 1:=zK
theorem gK:fo Tryz.prog 97 2=some 2:=zK
theorem nZ:fo Tryz.prog 97 3=some 3:=zK
theorem TY:liesAt Tryz.prog Tryz.prog.depth 161 (2 / Tryz.prog.cellsOf 161) 0 161 1=true:=zK
theorem rS:liesAt Tryz.prog Tryz.prog.depth 298 (2 / Tryz.prog.cellsOf 298) 0 161 1=true:=zK
theorem gQ:liesAt Tryz.prog Tryz.prog.depth 323 (2 / Tryz.prog.cellsOf 323) 0 161 1=true:=zK
theorem xb:NU Tryz.prog 102=true:=zK
theorem xc:NU Tryz.prog 105=true:=zK
theorem xd:NU Tryz.prog 109=true:=zK
theorem xe:NU Tryz.prog 118=true:=zK
theorem xf:NU Tryz.prog 131=true:=zK
theorem xg:NU Tryz.prog 137=true:=zK
theorem xh:NU Tryz.prog 142=true:=zK
theorem Ox:NU Tryz.prog 146=true:=zK
theorem lM:NU Tryz.prog 148=true:=zK
theorem QR:NU Tryz.prog 201=true:=zK
theorem Yf:NU Tryz.prog 204=true:=zK
theorem xi:NU Tryz.prog 214=true:=zK
theorem Wt:NU Tryz.prog 217=true:=zK
theorem xj:NU Tryz.prog 229=true:=zK
theorem gY:NU Tryz.prog 250=true:=zK
theorem rj:NU Tryz.prog 267=true:=zK
theorem gZ:NU Tryz.prog 313=true:=zK
theorem xk:NU Tryz.prog 314=true:=zK
theorem xl:NU Tryz.prog 317=true:=zK
theorem xm:NU Tryz.prog 351=true:=zK
theorem xn:NU Tryz.prog 365=true:=zK
theorem xo:NU Tryz.prog 379=true:=zK
theorem zH:NU Tryz.prog 38=true:=zK
theorem wP:NU Tryz.prog 43=true:=zK
theorem zJ:NU Tryz.prog 45=true:=zK
theorem eI:NU Tryz.prog 55=true:=zK
theorem wQ:NU Tryz.prog 92=true:=zK
theorem zL:NU Tryz.prog 95=true:=zK
theorem xp:NT Tryz.prog 102=some [(0,4),(4,1),(5,1),(6,1),(7,3)]:=zK
theorem xq:NT Tryz.prog 105=some [(0,1),(1,4)]:=zK
theorem xr:NT Tryz.prog 109=some [(0,1),(1,1),(2,1)]:=zK
theorem xt:NT Tryz.prog 118=some [(0,1),(1,1),(2,1),(3,3),(6,1),(7,1)]:=zK
theorem xu:NT Tryz.prog 131=some [(0,1),(1,1),(2,1),(3,1),(4,1)]:=zK
theorem xv:NT Tryz.prog 137=some [(0,1),(1,1),(2,1),(3,1),(4,1),(5,1)]:=zK
theorem xw:NT Tryz.prog 142=some [(0,1),(1,1),(2,1),(3,1),(4,1),(5,1)]:=zK
theorem Oy:NT Tryz.prog 146=some [(0,1),(1,1)]:=zK
theorem lN:NT Tryz.prog 148=some [(0,1),(1,2)]:=zK
theorem QS:NT Tryz.prog 201=some [(0,1),(1,1),(2,1)]:=zK
theorem Yg:NT Tryz.prog 204=some [(0,3),(3,1),(4,1)]:=zK
theorem xx:NT Tryz.prog 214=some [(0,1),(1,1),(2,1)]:=zK
theorem Wu:NT Tryz.prog 217=some [(0,1),(1,1),(2,1),(3,2)]:=zK
theorem xy:NT Tryz.prog 229=some [(0,1),(1,1),(2,1),(3,1),(4,1),(5,1)]:=zK
theorem ga:NT Tryz.prog 250=some [(0,1),(1,3),(4,1),(5,1),(6,2)]:=zK
theorem rk:NT Tryz.prog 267=some [(0,1),(1,1),(2,1),(3,1)]:=zK
theorem gb:NT Tryz.prog 313=some [(0,1),(1,1)]:=zK
theorem xz:NT Tryz.prog 314=some [(0,2),(2,2),(4,2),(6,2)]:=zK
theorem yA:NT Tryz.prog 317=some [(0,1),(1,1),(2,1),(3,1)]:=zK
theorem yB:NT Tryz.prog 351=some [(0,8),(8,1),(9,1)]:=zK
theorem yC:NT Tryz.prog 365=some [(0,1),(1,1),(2,1),(3,1)]:=zK
theorem yD:NT Tryz.prog 379=some [(0,2),(2,2)]:=zK
theorem zM:NT Tryz.prog 38=some [(0,1),(1,1),(2,1)]:=zK
theorem wR:NT Tryz.prog 43=some [(0,1),(1,1),(2,1),(3,1)]:=zK
theorem zP:NT Tryz.prog 45=some [(0,1),(1,1),(2,1),(3,1),(4,1),(5,1)]:=zK
theorem eJ:NT Tryz.prog 55=some [(0,1),(1,1)]:=zK
theorem wS:NT Tryz.prog 92=some [(0,1),(1,1),(2,1)]:=zK
theorem zY:NT Tryz.prog 95=some [(0,3),(3,1),(4,1),(5,1),(6,1),(7,1)]:=zK
theorem cQ:KM Tryz.prog 100=true:=zK
theorem Tn:KM Tryz.prog 116=true:=zK
theorem SN:KM Tryz.prog 123=true:=zK
theorem Pf:KM Tryz.prog 126=true:=zK
theorem Yq:KM Tryz.prog 129=true:=zK
theorem li:KM Tryz.prog 144=true:=zK
theorem lj:KM Tryz.prog 159=true:=zK
theorem sH:KM Tryz.prog 184=true:=zK
theorem SO:KM Tryz.prog 202=true:=zK
theorem sI:KM Tryz.prog 207=true:=zK
theorem gr:KM Tryz.prog 209=true:=zK
theorem yH:KM Tryz.prog 212=true:=zK
theorem HI:KM Tryz.prog 22=true:=zK
theorem MI:KM Tryz.prog 248=true:=zK
theorem VG:KM Tryz.prog 25=true:=zK
theorem K6:KM Tryz.prog 26=true:=zK
theorem gt:KM Tryz.prog 272=true:=zK
theorem EF:KM Tryz.prog 3=true:=zK
theorem Sw:KM Tryz.prog 30=true:=zK
theorem Gl:KM Tryz.prog 33=true:=zK
theorem RP:KM Tryz.prog 345=true:=zK
theorem A4:KM Tryz.prog 36=true:=zK
theorem cR:KM Tryz.prog 4=true:=zK
theorem zd:KM Tryz.prog 40=true:=zK
theorem wT:KM Tryz.prog 50=true:=zK
theorem eW:KM Tryz.prog 68=true:=zK
theorem ZU:KM Tryz.prog 73=true:=zK
theorem ze:KM Tryz.prog 79=true:=zK
theorem K7:KM Tryz.prog 89=true:=zK
theorem HJ:KM Tryz.prog 9=true:=zK
theorem nr:KM Tryz.prog 90=true:=zK
theorem QA:KM Tryz.prog 93=true:=zK
theorem Rq:KM Tryz.prog 98=true:=zK
theorem nt:KM Tryz.prog 99=true:=zK
theorem cV:DU Tryz.prog 105=some 5:=zK
theorem yI:DU Tryz.prog 116=some 1:=zK
theorem lm:DU Tryz.prog 123=some 1:=zK
theorem ln:DU Tryz.prog 129=some 1:=zK
theorem yJ:DU Tryz.prog 144=some 1:=zK
theorem EZ:DU Tryz.prog 146=some 2:=zK
theorem Ea:DU Tryz.prog 148=some 3:=zK
theorem yK:DU Tryz.prog 159=some 1:=zK
theorem lo:DU Tryz.prog 161=some 2:=zK
theorem N1:DU Tryz.prog 201=some 3:=zK
theorem cW:DU Tryz.prog 202=some 1:=zK
theorem Gj:DU Tryz.prog 204=some 5:=zK
theorem yL:DU Tryz.prog 207=some 1:=zK
theorem O4:DU Tryz.prog 217=some 5:=zK
theorem My:DU Tryz.prog 22=some 1:=zK
theorem sP:DU Tryz.prog 248=some 1:=zK
theorem sQ:DU Tryz.prog 250=some 8:=zK
theorem yM:DU Tryz.prog 267=some 4:=zK
theorem yN:DU Tryz.prog 272=some 1:=zK
theorem PB:DU Tryz.prog 3=some 1:=zK
theorem cX:DU Tryz.prog 30=some 1:=zK
theorem hC:DU Tryz.prog 313=some 2:=zK
theorem yO:DU Tryz.prog 317=some 4:=zK
theorem nw:DU Tryz.prog 33=some 1:=zK
theorem sR:DU Tryz.prog 342=some 16:=zK
theorem yP:DU Tryz.prog 351=some 10:=zK
theorem Bx:DU Tryz.prog 36=some 1:=zK
theorem hE:DU Tryz.prog 365=some 4:=zK
theorem yQ:DU Tryz.prog 376=some 64:=zK
theorem yR:DU Tryz.prog 378=some 2:=zK
theorem zh:DU Tryz.prog 38=some 3:=zK
theorem Ql:DU Tryz.prog 4=some 1:=zK
theorem DQ:DU Tryz.prog 43=some 4:=zK
theorem wU:DU Tryz.prog 45=some 6:=zK
theorem LS:DU Tryz.prog 5=some 1:=zK
theorem Fq:DU Tryz.prog 55=some 2:=zK
theorem wV:DU Tryz.prog 73=some 1:=zK
theorem ny:DU Tryz.prog 89=some 1:=zK
theorem Il:DU Tryz.prog 9=some 1:=zK
theorem wW:DU Tryz.prog 92=some 3:=zK
theorem sS:DU Tryz.prog 98=some 1:=zK
theorem ce:Tryz.prog.underlying 100=some (.map 36 4):=zK
theorem RT:Tryz.prog.underlying 116=some (.slice 4):=zK
theorem Cm:Tryz.prog.underlying 123=some (.slice 5):=zK
theorem yS:Tryz.prog.underlying 126=some (.pointer 142):=zK
theorem CT:Tryz.prog.underlying 129=some (.slice 36):=zK
theorem lz:Tryz.prog.underlying 144=some (.map 3 4):=zK
theorem N2:Tryz.prog.underlying 155=some (.int .u64):=zK
theorem cf:Tryz.prog.underlying 159=some (.pointer 161):=zK
theorem sT:Tryz.prog.underlying 196=some (.pointer 5):=zK
theorem zj:Tryz.prog.underlying 2=some (.int .i64):=zK
theorem M7:Tryz.prog.underlying 202=some (.slice 204):=zK
theorem sU:Tryz.prog.underlying 207=some (.map 9 146):=zK
theorem Ca:Tryz.prog.underlying 22=some (.slice 43):=zK
theorem hY:Tryz.prog.underlying 225=some (.map 36 148):=zK
theorem sV:Tryz.prog.underlying 239=some (.unsafePointer):=zK
theorem Jk:Tryz.prog.underlying 248=some (.slice 146):=zK
theorem n6:Tryz.prog.underlying 25=some (.pointer 95):=zK
theorem ZX:Tryz.prog.underlying 26=some (.pointer 102):=zK
theorem QT:Tryz.prog.underlying 264=some (.array 4 22):=zK
theorem Yv:Tryz.prog.underlying 272=some (.slice 22):=zK
theorem Im:Tryz.prog.underlying 3=some (.int .i64):=zK
theorem VN:Tryz.prog.underlying 313=some (.array 2 36):=zK
theorem hZ:Tryz.prog.underlying 314=some (.array 4 313):=zK
theorem DH:Tryz.prog.underlying 33=some (.int .u64):=zK
theorem SS:Tryz.prog.underlying 342=some (.array 16 36):=zK
theorem yT:Tryz.prog.underlying 345=some (.pointer 351):=zK
theorem sW:Tryz.prog.underlying 348=some (.array 8 36):=zK
theorem RU:Tryz.prog.underlying 349=some (.array 8 36):=zK
theorem CD:Tryz.prog.underlying 36=some (.int .u32):=zK
theorem Yw:Tryz.prog.underlying 364=some (.array 4 3):=zK
theorem Yx:Tryz.prog.underlying 365=some (.array 4 36):=zK
theorem Tv:Tryz.prog.underlying 376=some (.array 64 36):=zK
theorem iA:Tryz.prog.underlying 378=some (.array 2 3):=zK
theorem yU:Tryz.prog.underlying 379=some (.array 2 378):=zK
theorem Dl:Tryz.prog.underlying 5=some (.int .u8):=zK
theorem ZY:Tryz.prog.underlying 50=some (.pointer 109):=zK
theorem FW:Tryz.prog.underlying 73=some (.slice 55):=zK
theorem VO:Tryz.prog.underlying 79=some (.slice 105):=zK
theorem FH:Tryz.prog.underlying 89=some (.slice 148):=zK
theorem Cu:Tryz.prog.underlying 9=some (.string):=zK
theorem WL:Tryz.prog.underlying 90=some (.map 36 36):=zK
theorem ec:Tryz.prog.underlying 93=some (.pointer 137):=zK
theorem FX:Tryz.prog.underlying 98=some (.slice 9):=zK
theorem n7:Tryz.prog.underlying 99=some (.map 36 9):=zK
theorem yY:Ev Tryz.prog 102=some (.agg #[.bool false,.bool false,.int .i64 0,.int .i64 0,zN,.map none,.map none,.int .u64 0,.string ⟨⟨[]⟩⟩,.int .u32 0]):=zK
theorem mI:Ev Tryz.prog 105=some (.agg #[.int .i64 0,.int .u64 0,.int .u32 0,.int .u32 0,.string ⟨⟨[]⟩⟩]):=zK
theorem yZ:Ev Tryz.prog 109=some (.agg #[.pointer none,.int .i64 0,.int .u32 0]):=zK
theorem ya:Ev Tryz.prog 118=some (.agg #[zN,zN,zN,.int .u64 0,.string ⟨⟨[]⟩⟩,.int .u32 0,.int .i64 0,.bool false]):=zK
theorem yb:Ev Tryz.prog 129=some zN:=zK
theorem yc:Ev Tryz.prog 131=some (.agg #[.pointer none,zN,zN,zN,.bool false]):=zK
theorem yd:Ev Tryz.prog 137=some (.agg #[.pointer none,zN,.int .u32 0,.int .u32 0,.int .u64 0,.map none]):=zK
theorem ye:Ev Tryz.prog 142=some (.agg #[.pointer none,zN,.int .u32 0,.int .u32 0,.int .u64 0,zN]):=zK
theorem yf:Ev Tryz.prog 144=some (.map none):=zK
theorem FU:Ev Tryz.prog 146=some (.agg #[.int .u32 0,.string ⟨⟨[]⟩⟩]):=zK
theorem In:Ev Tryz.prog 148=some (.agg #[.string ⟨⟨[]⟩⟩,.int .u32 0,.string ⟨⟨[]⟩⟩]):=zK
theorem cq:Ev Tryz.prog 161=some (.agg #[.pointer none,zN]):=zK
theorem Io:Ev Tryz.prog 201=some (.agg #[.int .u32 0,.int .u32 0,.int .i64 0]):=zK
theorem Ha:Ev Tryz.prog 204=some (.agg #[.int .u32 0,.int .u32 0,.int .i64 0,zN,zN]):=zK
theorem yg:Ev Tryz.prog 207=some (.map none):=zK
theorem yh:Ev Tryz.prog 214=some (.agg #[.nilFunc,zN,.int .i64 0]):=zK
theorem Kq:Ev Tryz.prog 217=some (.agg #[.int .u64 0,.int .u32 0,.int .u32 0,.int .u32 0,.string ⟨⟨[]⟩⟩]):=zK
theorem oC:Ev Tryz.prog 22=some zN:=zK
theorem yi:Ev Tryz.prog 229=some (.agg #[.pointer none,zN,zN,zN,.int .i64 0,zN]):=zK
theorem Y1:Ev Tryz.prog 250=some (.agg #[.int .i64 0,.int .u32 0,.int .u32 0,.int .i64 0,zN,zN,.int .u32 0,.string ⟨⟨[]⟩⟩]):=zK
theorem yj:Ev Tryz.prog 264=some (.agg #[zN,zN,zN,zN]):=zK
theorem mJ:Ev Tryz.prog 267=some (.agg #[.int .u32 0,.int .u32 0,.int .u32 0,.int .u64 0]):=zK
theorem yk:Ev Tryz.prog 298=some (.agg #[.pointer none,zN]):=zK
theorem pY:Ev Tryz.prog 3=some (.int .i64 0):=zK
theorem wY:Ev Tryz.prog 30=some (.int .i64 0):=zK
theorem VP:Ev Tryz.prog 313=some (.agg #[.int .u32 0,.int .u32 0]):=zK
theorem yl:Ev Tryz.prog 314=some (.agg #[.int .u32 0,.int .u32 0,.int .u32 0,.int .u32 0,.int .u32 0,.int .u32 0,.int .u32 0,.int .u32 0]):=zK
theorem si:Ev Tryz.prog 317=some (.agg #[.int .u32 0,.int .u32 0,.int .u32 0,.int .u32 0]):=zK
theorem sj:Ev Tryz.prog 323=some (.agg #[.pointer none,zN]):=zK
theorem iJ:Ev Tryz.prog 342=some (.agg #[.int .u32 0,.int .u32 0,.int .u32 0,.int .u32 0,.int .u32 0,.int .u32 0,.int .u32 0,.int .u32 0,.int .u32 0,.int .u32 0,.int .u32 0,.int .u32 0,.int .u32 0,.int .u32 0,.int .u32 0,.int .u32 0]):=zK
theorem ym:Ev Tryz.prog 348=some (.agg #[.int .u32 0,.int .u32 0,.int .u32 0,.int .u32 0,.int .u32 0,.int .u32 0,.int .u32 0,.int .u32 0]):=zK
theorem sk:Ev Tryz.prog 351=some (.agg #[.int .u32 0,.int .u32 0,.int .u32 0,.int .u32 0,.int .u32 0,.int .u32 0,.int .u32 0,.int .u32 0,.string ⟨⟨[]⟩⟩,.int .i64 0]):=zK
theorem H5:Ev Tryz.prog 36=some (.int .u32 0):=zK
theorem yn:Ev Tryz.prog 364=some (.agg #[.int .i64 0,.int .i64 0,.int .i64 0,.int .i64 0]):=zK
theorem VQ:Ev Tryz.prog 365=some (.agg #[.int .u32 0,.int .u32 0,.int .u32 0,.int .u32 0]):=zK
theorem sm:Ev Tryz.prog 376=some (.agg #[.int .u32 0,.int .u32 0,.int .u32 0,.int .u32 0,.int .u32 0,.int .u32 0,.int .u32 0,.int .u32 0,.int .u32 0,.int .u32 0,.int .u32 0,.int .u32 0,.int .u32 0,.int .u32 0,.int .u32 0,.int .u32 0,.int .u32 0,.int .u32 0,.int .u32 0,.int .u32 0,.int .u32 0,.int .u32 0,.int .u32 0,.int .u32 0,.int .u32 0,.int .u32 0,.int .u32 0,.int .u32 0,.int .u32 0,.int .u32 0,.int .u32 0,.int .u32 0,.int .u32 0,.int .u32 0,.int .u32 0,.int .u32 0,.int .u32 0,.int .u32 0,.int .u32 0,.int .u32 0,.int .u32 0,.int .u32 0,.int .u32 0,.int .u32 0,.int .u32 0,.int .u32 0,.int .u32 0,.int .u32 0,.int .u32 0,.int .u32 0,.int .u32 0,.int .u32 0,.int .u32 0,.int .u32 0,.int .u32 0,.int .u32 0,.int .u32 0,.int .u32 0,.int .u32 0,.int .u32 0,.int .u32 0,.int .u32 0,.int .u32 0,.int .u32 0]):=zK
theorem mK:Ev Tryz.prog 378=some (.agg #[.int .i64 0,.int .i64 0]):=zK
theorem yo:Ev Tryz.prog 379=some (.agg #[.int .i64 0,.int .i64 0,.int .i64 0,.int .i64 0]):=zK
theorem wZ:Ev Tryz.prog 38=some (.agg #[.int .u64 0,.string ⟨⟨[]⟩⟩,.int .u32 0]):=zK
theorem kJ:Ev Tryz.prog 4=some (.bool false):=zK
theorem Gm:Ev Tryz.prog 43=some (.agg #[.int .u64 0,.int .u32 0,.int .u32 0,.string ⟨⟨[]⟩⟩]):=zK
theorem sn:Ev Tryz.prog 45=some (.agg #[.int .i64 0,.int .i64 0,.int .i64 0,.int .u64 0,.int .u32 0,.int .i64 0]):=zK
theorem ML:Ev Tryz.prog 5=some (.int .u8 0):=zK
theorem KL:Ev Tryz.prog 55=some (.agg #[.int .u32 0,.string ⟨⟨[]⟩⟩]):=zK
theorem Vt:Ev Tryz.prog 9=some (.string ⟨⟨[]⟩⟩):=zK
theorem wa:Ev Tryz.prog 92=some (.agg #[zN,zN,.map none]):=zK
theorem zk:Ev Tryz.prog 95=some (.agg #[zN,zN,.map none,.pointer none,.pointer none,zN,.int .u32 0,.bool false]):=zK
end

section
variable {K:Nat→Prop}{w0:World}{H:List AX}
def q9(p:UInt32×Bool):List Value:=[AB p.1,vB p.2]
theorem Vp(v:Value):zC K w0 110 [v] [] H (fun r M=>∃b,r=.func (.func 148) #[] #[vP b 0]∧M=[own b (.cells v.cells 73)]):=by
 refine WN.enter Tryz.func110 rfl rfl ?_
 refine Y ?_
 refine Bg E E zU fun b0=>?_
 refine U E (V (Y ?_))
 refine HK (fv:=#[]) (cv:=#[_]) E E E ?_
 refine U E (V (AK ?_))
 exact An (Cx E E) (Ao (M:=[_]) ⟨b0,E,E⟩ fun _ h=>h)
theorem Vr(v:Value)(ks:List BD)(b:Nat)(hk:By K w0 AU 2 v ks)(hv:v.cells=#[v])(hn:ks.length≤1099511627776):qC Tryz.prog K w0 148 [vP b 0] [own b (.cells v.cells 73)] q9 (M4 ks):=by
 intro lp J9 X T hy G h0
 rw[hv]
 refine WN.enter Tryz.func148 rfl rfl ?_
 refine Y (U E (V (Y (AG 0 ZU E (Bt hk E FW E (J E (V (AN ?_))))))))
 refine SX.mono (BK (α:=Nat×List AX) (fun x=>x.1≤ks.length∧J9 ((M4 ks).take x.1) x.2) (fun x=>[(0,vY lp),(3,AB (MF ks x.1)),(6,v),(7,vI ks.length),(8,vI x.1)]) (fun x=>own b (.cells #[v] 73)::(x.2++T)) (fun x=>ks.length-x.1) (fun x D hp=>?_) (0,G) ⟨Nat.zero_le _,h0⟩) tL
 obtain⟨i,G⟩:=x
 obtain⟨hi,hJ⟩:=hp
 simp only at hi hJ
 refine Y (Z E A9 (V (AH ?_)))
 refine A7 E (fun hc=>?_) (fun hc=>?_)
 have hlt:i<ks.length:=by simpa using hc
 obtain⟨key,hkey⟩:=RC hlt
 have hg:=Wj ks i hlt
 rw[MB hkey]at hg
 refine AI (AJ (AH (AN (Y ?_))))
 refine S3 i key hk E FW Fq E E E hkey fun be off hcell=>?_
 refine Aw (AU key) E Mw E E (YT (hcell _)) ?_
 refine Au E KL zU fun b0=>?_
 refine A3 0 E E E E Fq E E E zT (V (AH (Y (J E (AE E Gy (AG 0 A4 E (AE E Gy (AG 0 A4 E (J E ?_)))))))))
 refine Z E (ST (b:=MF ks i)) ?_
 refine J E ?_
 refine CV (c:=decide ((key.secret.length:Int)=32)) 19 5 24 E (fun hb k=>?_) (fun hb k=>?_) ?_
 refine AE E TR (AG 0 HJ E (B7 E Cu E (Z E Ba (Ag E E E ?_))))
 exact k.mono tL
 refine AC E (AC E (AC E (AC E (Ag E E E ?_))))
 exact k.mono tL
 refine I8 (M2:=[_,_]) (G:=G) (T:=T) (vs:=[_,_]) (ok:=fun G1=>J9 ((M4 ks).take (i+1)) G1) (no:=X) E E ⟨E,E,zT⟩ E ?_ (fun bb G1 hG1=>⟨zT,?_⟩)
 intro M
 have:=hy _ _ _ (F6 hg).1 G hJ M
 rw[←(F6 hg).2]at this
 have e:QO ks i=(decide (MF ks i<key.gen)&&decide ((key.secret.length:Int)=32)):=by unfold QO;rw[MB hkey]
 rw[e]at this
 exact this
 refine CF E E (V ?_)
 refine A7 E (fun hc=>?_) (fun hc=>?_)
 obtain rfl:bb=false:=by simpa using hc
 refine AK (Aa (BI (Aa (EX (BI ?_)))))
 exact An (Ed E) (Ao (M:=G1) (.inr hG1) fun _ h=>h.skip [_,_])
 obtain rfl:bb=true:=by simpa using hc
 refine AI (AJ (AM (AE E Gy (AG 0 A4 E (U E (AZ (Av (AJ (AM (Z E (Bh zO zO) (J E (AZ ?_))))))))))))
 refine A1 (i+1,G1) ⟨hlt,hG1⟩ (by simp only;omega) ⟨E,by rw[MF,MB hkey];rfl,E,E,E,zT⟩ (fun w h=>h.skip [_])
 refine A5 (BC (Bb (BB ?_)))
 have hle:i=ks.length:=by simp at hc;omega
 exact Da (Ed E) (Ao (M:=G) (.inl (by rw[List.take_of_length_le (by rw[R9];omega)]at hJ;exact hJ)) fun _ h=>h.skip [_])
theorem Ru(v:Value)(ks:List BD)(hk:By K w0 AU 2 v ks)(hv:v.cells=#[v])(hn:ks.length≤1099511627776):zC K w0 79 [v] [] H (fun r M=>r=vB (Dt ks)∧M=[]):=by
 refine WN.enter Tryz.func79 rfl rfl ?_
 refine Y (U E (V (LA (Y (J E (Bt hk E FW E (Z E Jo ?_)))))))
 refine Au E kJ zU fun b0=>?_
 refine A3 0 E E E E Ql E E E zT (V (AH (K9 (AJ (AH (Y (J E (BY 0 tY (Vp v) E ?_))))))))
 rintro _ _ ⟨b1,rfl,rfl⟩
 refine V (AN ?_)
 refine Va (enc:=q9) (M4 ks) (fun pre G=>pre.all (·.2)=true∧G=own b0 (.cells #[vB (decide ((ks.length:Int)≤16))] 4)::H) (fun c G=>c=.exit 0∧(M4 ks).all (·.2)=false∧G=own b0 (.cells #[vB false] 4)::H) E tw E zV (Vr v ks b1 hk hv hn) E ⟨E,E⟩ (fun pre x suf G hxs hJ r lp Rest=>?_) (fun G D hJ=>?_) (fun c G D hX=>?_)
 obtain⟨hpre,rfl⟩:=hJ
 refine AM (U E (AZ (Jm (AN (Y (J E (CF E E (V ?_))))))))
 refine A7 E (fun hc=>?_) (fun hc=>?_)
 refine Y (A3 0 E E E E Ql E E E zT (V (A5 (Hc ?_))))
 exact NB ⟨E,by rw[hxs];simp at hc;simp[hc],E⟩ (fun _ h=>h)
 refine AI (Av ?_)
 exact IK ⟨by simp at hc;simp[hpre,hc],E⟩ (fun _ h=>h)
 obtain⟨hall,rfl⟩:=hJ
 refine Av (AJ (Y (AG 0 cR E (U E (V (AK (ES ?_)))))))
 exact An (Cx E E) (Ao (M:=[]) ⟨by simp only[Dt,hall];simp;try omega,E⟩ fun _ h=>h.skip [_])
 obtain⟨rfl,hall,rfl⟩:=hX
 refine A5 (BB (AJ (Y (AG 0 cR E (U E (V (AK (ES ?_))))))))
 exact An (Cx E E) (Ao (M:=[]) ⟨by simp only[Dt,hall];simp;try omega,E⟩ fun _ h=>h.skip [_])
end

section
variable {K:Nat→Prop}{w0:World}{H:List AX}
theorem Zb(k:BD)(g:UInt32)(b:Nat):zC K w0 140 [.agg (AU k).toArray,vP b 0] [own b (.cells #[AB g] 36)] H (fun r M=>r=vB (decide (g≤k.gen))∧M=[own b (.cells #[AB g] 36)]):=by
 refine WN.enter Tryz.func140 rfl rfl ?_
 refine Y ?_
 refine Bg E E zU fun b0=>?_
 refine U E (V (Y (AE E Gy (AG 0 A4 E (AG 1 A4 E (Z E GN (U E (V (AK ?_)))))))))
 exact An (Cx E E) (Ao (M:=[_]) ⟨E,E⟩ fun _ h=>h.skip [_])
theorem Sd(v:Value)(ks:List BD)(g:FuncId)(cap:List Value)(B:List AX)(φ:BD→Bool)(hk:By K w0 AU 2 v ks)(hn:ks.length≤1099511627776)(hcal:AP Tryz.prog g=true)
(hf:∀(H:List AX) (k:BD),zC K w0 g (.agg (AU k).toArray::cap) B H (fun r M=>r=vB (φ k)∧M=B)):
  zC K w0 102 [v,.func (.func g) #[] cap.toArray] B H (fun r M=>r=vI (if ks.findIdx φ<ks.length then(ks.findIdx φ:Int)else -1)∧M=B):=by
 refine WN.enter Tryz.func102 rfl rfl ?_
 refine Y (U E (V (AH (Y (J E (Bt hk E FW E (J E (V (AN ?_)))))))))
 refine SX.mono (BK (α:=Nat) (fun i=>i≤ks.length∧∀j y,j<i→ks[j]? = some y→φ y=false) (fun i=>[(0,v),(1,.func (.func g) #[] cap.toArray),(7,vI ks.length),(8,vI i)]) (fun i=>B++H) (fun i=>ks.length-i) (fun i D hp=>?_) 0 ⟨Nat.zero_le _,fun j y hj=>absurd hj (Nat.not_lt_zero _)⟩) tL
 obtain⟨hi,hb⟩:=hp
 refine Y (Z E A9 (V (AH ?_)))
 refine A7 E (fun hc=>?_) (fun hc=>?_)
 have hlt:i<ks.length:=by simpa using hc
 obtain⟨key,hkey⟩:=RC hlt
 refine AI (AJ (AH (AN (Y (J E (U E (V (Y (J E (J E (J E ?_)))))))))))
 refine S3 i key hk E FW Fq E E E hkey fun be off hcell=>?_
 refine Aw (AU key) E Mw E E (YT (hcell _)) ?_
 refine BT (vs:=[_]) (Hin:=B) E E ⟨E,zT⟩ hcal E E (hf _ key) ?_
 rintro _ M ⟨rfl,hM⟩
 rw[hM]
 refine⟨trivial,?_⟩
 refine V ?_
 refine A7 E (fun hc2=>?_) (fun hc2=>?_)
 refine Y (J E (U E (V (AK (BI (Aa (EX (BI (Aa ?_)))))))))
 exact An (Cx E E) (Ao (M:=B) ⟨by rw[ZD hkey hc2 hb];simp[hlt],E⟩ fun _ h=>h)
 refine AI (Av (AJ (AM (Z E (Bh zO zO) (J E (AZ ?_))))))
 refine A1 (i+1) ⟨hlt,fun j y hj hy=>?_⟩ zO ⟨E,E,E,E,zT⟩
 rcases Nat.lt_or_ge j i with h | h
 exact hb j y h hy
 obtain rfl:j=i:=zO
 rw[hkey]at hy
 cases hy
 exact hc2
 refine A5 (BC (Bb (BB (AJ (Y (U E (V (AK ?_))))))))
 have hle:i=ks.length:=by simp at hc;omega
 exact An (Cx rfl rfl) (Ao (M:=B) ⟨by rw[jK (fun j y hy=>hb j y (by obtain⟨h,_⟩:=List.getElem?_eq_some_iff.1 hy;omega) hy)];simp,rfl⟩ fun _ h=>h)
theorem Vx(v:Value)(ks:List BD)(g:UInt32)(hk:By K w0 AU 2 v ks)(hn:ks.length≤1099511627776):zC K w0 100 [v,AB g] [] H (fun r M=>r=.tuple #[vI (Ln g ks),vB (Qm g ks)]∧M=[]):=by
 refine WN.enter Tryz.func100 rfl rfl ?_
 refine Y ?_
 refine Bg E E zU fun b0=>?_
 refine U E (U E (V (Y (J E ?_))))
 refine HK (fv:=#[]) (cv:=#[_]) E E E ?_
 refine AQ 1 mZ (Sd v ks 140 [vP b0 0] [_] (fun k=>decide (g≤k.gen)) hk hn tq (fun H k=>Zb k g b0)) E ?_
 change SL _ _ _ _ _ _ _ _ _ _ ((9,vI (if Ln g ks<ks.length then(Ln g ks:Int)else -1))::_) _
 generalize hpl:Ln g ks=pl
 refine U E (V (AH (Y (J E (Z E A9 (V ?_))))))
 refine A7 E (fun hc=>?_) (fun hc=>?_)
 refine Y ?_
 have hnl:¬pl<ks.length:=by intro h;simp[h]at hc;omega
 have hpe:pl=ks.length:=by have:=lO g ks;omega
 refine J E (Bt hk E FW E (U E (U E (V (AK (Aa ?_))))))
 exact An (C9 E E E) (Ao (M:=[]) ⟨by simp[Qm,hpl,hpe],E⟩ fun _ h=>h.skip [_])
 have hlt:pl<ks.length:=by
  rcases Nat.lt_or_ge pl ks.length with h | h
  exact h
  simp[Nat.not_lt.2 h]at hc
 rw[if_pos hlt]
 obtain⟨key,hkey⟩:=RC hlt
 refine AI (AJ (AH (Ax Cz [0] (Pl.of (G4 0 10)) zK (J E (J E (J E ?_))))))
 refine S3 pl key hk E FW Fq E E E hkey fun be off hcell=>?_
 refine AE E Gy ?_
 refine Bm E A4 E (fun w hw=>hcell _ w hw 0 _ E) ?_
 refine AG 0 A4 E (Z E Iz (U E (U E (V (AK ?_)))))
 exact An (C9 E E E) (Ao (M:=[]) ⟨by simp[Qm,hpl,hkey],E⟩ fun _ h=>h.skip [_])
theorem XO(v:Value)(ks:List BD)(g:UInt32)(hk:By K w0 AU 2 v ks)(hv:v.cells=#[v])(hn:ks.length≤1099511627776):zC K w0 99 [v,AB g] [] H (fun r M=>r=.tuple #[.agg (AU (C6 ks g).1).toArray,vI (C6 ks g).2]∧M=[]):=by
 refine WN.enter Tryz.func99 rfl rfl ?_
 refine Y ?_
 refine Au E KL zU fun b0=>?_
 refine U E (V (AH (Y (J E (AQ 0 ax (Ru v ks hk hv hn) E (CF E E (V ?_)))))))
 refine A7 E (fun hc=>?_) (fun hc=>?_)
 have hf:C6 ks g=(HU,40):=by unfold C6;rw[if_pos (by simpa using hc)]
 rw[hf]
 refine Y (B5 [] E eJ eI KL zT E (A3 0 E E E E Fq E E E zT (U E (V (AK (Aa ?_))))))
 exact An (FA E (B2 0 (AU HU) Mw E E E E) E) (Ao (M:=[]) ⟨E,E⟩ fun _ h=>h.skip [_])
 have hr:Dt ks=true:=by simpa using hc
 refine AI (AJ (Y (J E (J E (AQ 0 mY (Vx v ks g hk hn) E (J E (Ah E E E (Ah E E E (U E (U E (V (AH (Y ?_)))))))))))))
 refine J E (CF E E (V ?_))
 refine A7 E (fun hc=>?_) (fun hc=>?_)
 have hf:C6 ks g=(HU,41):=by
  have:Qm g ks=false:=by simpa using hc
  unfold Qm at this
  unfold C6
  rw[hr]
  cases h:ks[Ln g ks]? with
  | none=>simp
  | some k=>rw[h]at this;simp at this;simp[this]
 rw[hf]
 refine Y (B5 [] E eJ eI KL zT E (A3 0 E E E E Fq E E E zT (U E (V (AK (Aa ?_))))))
 exact An (FA E (B2 0 (AU HU) Mw E E E E) E) (Ao (M:=[]) ⟨E,E⟩ fun _ h=>h.skip [_])
 have hth:Qm g ks=true:=by simpa using hc
 obtain⟨key,hkey,hg⟩:∃key,ks[Ln g ks]? = some key∧key.gen=g:=by
  unfold Qm at hth
  cases h:ks[Ln g ks]? with
  | none=>rw[h]at hth;cases hth
  | some k=>rw[h]at hth;exact⟨k,rfl,by simpa using hth⟩
 have hf:C6 ks g=(key,0):=by
  unfold C6
  rw[hr]
  simp[hkey,hg]
 rw[hf]
 refine AI (AJ (Y (J E (J E ?_))))
 refine S3 (Ln g ks) key hk E FW Fq E E E hkey fun be off hcell=>?_
 refine Aw (AU key) E Mw E E (YT (hcell _)) (A3 0 E E E E Fq E E E zT (U E (V (AK ?_))))
 exact An (FA E (B2 0 (AU key) Mw E E E E) E) (Ao (M:=[]) ⟨E,E⟩ fun _ h=>h.skip [_])
end

section
variable {K:Nat→Prop}{w0:World}{H:List AX}
theorem i5(b:List UInt8)(hb:b.length≤9223372036854775807):zC K w0 171 [vS b] [] H (fun v M=>v=vS (b.drop (b.length-32))∧M=[]):=by
 refine WN.enter Tryz.func171 rfl rfl ?_
 refine AH (AM (U E (AZ (AJ (AH (AM (J E (J E (B7 E Cu E (Z E (EV zO zO) (ie E E E (Qu (b.length-32) E Cu E E zO zO (U E (AZ (AJ (AK ?_))))))))))))))))
 exact An (Cx E E) (Ao (M:=[]) ⟨E,E⟩ fun _ h=>h.skip [])
def X4(x:UInt32)(k:Int):UInt32:=shl32 x (B9 k &&& 31).toNat ||| shr32 x (32-(B9 k &&& 31)).toNat
theorem Iw(x:UInt32)(k:Int):zC K w0 285 [AB x,vI k] [] H (fun v M=>v=AB (X4 x k)∧M=[]):=by
 refine WN.enter Tryz.func285 rfl rfl ?_
 refine AH (AM (U E (AZ (AJ (AH (AM (J E (BO E E (Ee Im N2) ?_))))))))
 refine Z E (Qt (b:=31)) ?_
 refine U E (AZ (AJ (AH (AM (J E (J E (Z E GT.shl32 (J E (J E ?_)))))))))
 refine Z E (WM (a:=32)) ?_
 refine Z E GT.shr32 (Z E Fy (U E (AZ (AJ (AK ?_)))))
 exact An (Cx E E) (Ao (M:=[]) ⟨E,E⟩ fun _ h=>h.skip [])
end

section
variable {K:Nat→Prop}{w0:World}{H:List AX}
theorem pS:∀n:Fin 32,0<n.1→(B9 (-(n.1:Int)) &&& 31).toNat=32-n.1∧(32-(B9 (-(n.1:Int)) &&& 31)).toNat=n.1:=by decide
theorem pF(x:UInt32)(n:Nat)(h0:0<n)(h1:n<32):X4 x (-(n:Int))=Lo x n:=by
 obtain⟨e1,e2⟩:=pS ⟨n,h1⟩ h0
 simp only at e1 e2
 unfold X4 Lo
 rw[e1,e2,UInt32.or_comm]
theorem Hz(x:UInt32)(n:Nat)(h0:0<n)(h1:n<32):zC K w0 287 [AB x,vI n] [] H (fun r M=>r=AB (Lo x n)∧M=[]):=by
 refine WN.enter Tryz.func287 rfl rfl ?_
 refine Y (U E (V (Y (J E (J E (pj E E zO zO (AQ 0 f0 (Iw x (-(n:Int))) E (U E (V (AK ?_))))))))))
 exact An (Cx E E) (Ao (M:=[]) ⟨by rw[pF x n h0 h1],E⟩ fun _ h=>h.skip [])
theorem dB(s:List UInt8)(hs:s.length=64):zC K w0 286 [vS s] [] H (fun r M=>r=.agg (Dx AB (En s))∧M=[]):=by
 refine WN.enter Tryz.func286 rfl rfl ?_
 refine Y ?_
 refine Au E sm zU fun b0=>?_
 refine V (Y ?_)
 refine Au E sm zU fun b1=>?_
 refine V (AH (Y (J E (V (AN ?_)))))
 refine SX.mono (BK (α:=Nat) (fun i=>i≤64) (fun i=>[(0,vS s),(2,vP b0 0),(3,vP b1 0),(8,vI i)]) (fun i=>own b1 (.cells (Dx AB (F5 s i++List.replicate (64-i) 0)) 376)::own b0 (.cells (Dx AB (List.replicate 64 0)) 376)::H) (fun i=>64-i) (fun i D hp=>?_) 0 zO) tL
 have hlen:=Nm s i
 refine Y (Z E A9 (V (AH ?_)))
 refine A7 E (fun hc1=>?_) (fun hc1=>?_)
 have hi:i<64:=by simp at hc1;omega
 refine AI (AJ (AH (AN (Y (J E (U E (V (AH (Y (J E (Z E A9 (V ?_))))))))))))
 refine A7 E (fun hc2=>?_) (fun hc2=>?_)
 have h16:i<16:=by simp at hc2;omega
 refine Y (J E (Z E (PH zO zO) (U E (V (AH (Ax Cz [] (Bs (G4 0 27) (.last 27 .nil)) zK (J E (J E (J E (MO (4*i) E Cu E E zO zO ?_))))))))))
 refine BO E E (GP Dl CD) ?_
 refine Z E (GT.shl32 (n:=24)) ?_
 refine J E (J E (Z E (Bh zO zO) (MO ((4*i)+1) E Cu E E zO zO (BO E E (GP Dl CD) ?_))))
 refine Z E (GT.shl32 (n:=16)) ?_
 refine Z E Fy (J E (J E (Z E (Bh zO zO) (MO ((4*i)+2) E Cu E E zO zO (BO E E (GP Dl CD) ?_)))))
 refine Z E (GT.shl32 (n:=8)) ?_
 refine Z E Fy (J E (J E (Z E (Bh zO zO) (MO ((4*i)+3) E Cu E E zO zO (BO E E (GP Dl CD) (Z E Fy ?_))))))
 refine DK (n:=i) E Tv Bx E E zO zO ?_
 refine BU ?_
 refine XE (f:=AB) 0 E E E E Bx E E zQ zT ?_
 rw[Vf _ _ _ 64 i hlen hi]
 refine V (A5 (BC (BB (AJ (AM (Z E (Bh zO zO) (J E (AZ ?_))))))))
 refine A1 (i+1) zO zO ⟨E,E,E,E,zT⟩ (fun w h=>by
  have e:Ta s (F5 s i)=oB s (4*i):=by unfold Ta;rw[hlen,if_pos h16]
  rw[F5,e]
  exact h)
 have h16:16≤i:=by simp at hc2;omega
 refine AI (AJ (AH (Ax Cz [0] (Pl.of (G4 0 10)) zK (J E (Z E (EV zO zO) ?_)))))
 refine DK (n:=(i-15)) E Tv Bx E E zO zO ?_
 refine Bm E A4 E (Dd 0 E (XL 0 zO)) (J E (Z E (EV zO zO) ?_))
 refine DK (n:=(i-2)) E Tv Bx E E zO zO ?_
 refine Bm E A4 E (Dd 0 E (XL 0 zO)) (U E (U E (V (Ax Cz [0] (Bs [(true,0),(true,1),(true,2),(true,3),(true,4),(true,5),(true,6),(true,7),(true,8),(true,9),(true,10),(true,12),(true,15),(true,16),(true,19),(true,21),(true,24),(true,25),(false,11),(false,13),(true,14),(true,17),(true,18),(false,20),(false,22),(true,23),(true,26),(true,27),(true,28)] (.last 29 .nil)) zK (J E (J E (Z E (EV zO zO) ?_)))))))
 refine DK (n:=(i-16)) E Tv Bx E E zO zO ?_
 refine Bm E A4 E (Dd 0 E (XL 0 zO)) (J E (Z E (EV zO zO) ?_))
 refine DK (n:=(i-7)) E Tv Bx E E zO zO ?_
 refine Bm E A4 E (Dd 0 E (XL 0 zO)) (Z E B3 (J E (J E (J E ?_))))
 refine Z E (GT.shr32 (n:=3)) ?_
 refine J E (J E (J E ?_))
 refine Z E (GT.shr32 (n:=10)) ?_
 refine BS 0 Pq (Hz _ 7 zO zO) E ⟨⟨0,E⟩,zT⟩ (BS 0 Pq (Hz _ 18 zO zO) E ⟨⟨0,E⟩,zT⟩ (Z E Cw (Z E Cw (Z E B3 (BS 0 Pq (Hz _ 17 zO zO) E ⟨⟨0,E⟩,zT⟩ (BS 0 Pq (Hz _ 19 zO zO) E ⟨⟨0,E⟩,zT⟩ (Z E Cw ?_)))))))
 refine Z E Cw (Z E B3 ?_)
 refine DK (n:=i) E Tv Bx E E zO zO ?_
 refine BU ?_
 refine XE (f:=AB) 0 E E E E Bx E E zQ zT ?_
 rw[Vf _ _ _ 64 i hlen hi]
 refine AZ (Av (AJ (AM (Z E (Bh zO zO) (J E (AZ ?_))))))
 refine A1 (i+1) zO zO ⟨E,E,E,E,zT⟩ (fun w h=>by
  have e:Ta s (F5 s i)=(F5 s i).getD (i-16) 0+(F5 s i).getD (i-7) 0+sL ((F5 s i).getD (i-15) 0)+sM ((F5 s i).getD (i-2) 0):=by unfold Ta;rw[hlen,if_neg zO]
  rw[F5,e]
  exact h)
 have hi:i=64:=by simp at hc1;omega
 subst hi
 refine A5 (BC (Bb (BB (AJ (Y ?_)))))
 refine Aw ((En s).map AB) E qG (by simp[En,hlen]) E (Ct 0 E (fun j u hu=>by simpa[Dx,En]using hu)) ?_
 refine S4 1 E E E E yQ (by simp[En,hlen]) (by simp[Dx]) (Sa zV (En s)) zT ?_
 refine V (AK ?_)
 exact An (GM E (B2 1 ((En s).map AB) qG (by simp[En,hlen]) E E (by simp only[List.drop_zero];exact List.take_of_length_le (by simp[En,hlen])))) (Ao (M:=[]) ⟨E,E⟩ fun _ h=>h.skip [_,_])
end

section
variable {K:Nat→Prop}{w0:World}{H:List AX}
theorem fe(T h:List UInt32)(tl:List Value)(s:List UInt8)(b:Nat)(e:TypeId)(hT:Vo K w0 3 T)(hTl:T.length=64)(hh:h.length=8)(hs:s.length=64):zC K w0 276 [vP b 0,vS s] [own b (.cells (PC AB h tl) e)] H (fun r M=>r=.tuple #[]∧M=[own b (.cells (PC AB (TW T h s) tl) e)]):=by
 refine WN.enter Tryz.func276 rfl rfl ?_
 refine AH (Ax Cz [0] (Pl.of (G4 0 40)) zK (J E (AT E E ?_)))
 refine DK (n:=0) E RU Bx E E zO zO ?_
 refine Bm E A4 E (Dd 0 E (LB 0 zO)) (J E (AT E E ?_))
 refine DK (n:=1) E RU Bx E E zO zO ?_
 refine Bm E A4 E (Dd 0 E (LB 0 zO)) (J E (AT E E ?_))
 refine DK (n:=2) E RU Bx E E zO zO ?_
 refine Bm E A4 E (Dd 0 E (LB 0 zO)) (J E (AT E E ?_))
 refine DK (n:=3) E RU Bx E E zO zO ?_
 refine Bm E A4 E (Dd 0 E (LB 0 zO)) (J E (AT E E ?_))
 refine DK (n:=4) E RU Bx E E zO zO ?_
 refine Bm E A4 E (Dd 0 E (LB 0 zO)) (J E (AT E E ?_))
 refine DK (n:=5) E RU Bx E E zO zO ?_
 refine Bm E A4 E (Dd 0 E (LB 0 zO)) (J E (AT E E ?_))
 refine DK (n:=6) E RU Bx E E zO zO ?_
 refine Bm E A4 E (Dd 0 E (LB 0 zO)) (J E (AT E E ?_))
 refine DK (n:=7) E RU Bx E E zO zO ?_
 refine Bm E A4 E (Dd 0 E (LB 0 zO)) (U E (U E (U E (U E (U E (U E (U E ?_)))))))
 refine U E (V (AH (Y (J E (AQ 0 vU (dB s hs) E (J E (V (AN ?_))))))))
 refine SX.mono (BK (α:=Nat) (fun i=>i≤64) (fun i=>[(0,vP b 0),(4,AB (Ho T (En s) h i).a),(5,AB (Ho T (En s) h i).b),(6,AB (Ho T (En s) h i).c),(7,AB (Ho T (En s) h i).d),(8,AB (Ho T (En s) h i).e),(9,AB (Ho T (En s) h i).f),(10,AB (Ho T (En s) h i).g),(11,AB (Ho T (En s) h i).i),(51,.agg (Dx AB (En s))),(52,vI i)]) (fun i=>own b (.cells (PC AB h tl) e)::H) (fun i=>64-i) (fun i D hp=>?_) 0 zO) tL
 refine Y (Z E A9 (V (AH ?_)))
 refine A7 E (fun hc1=>?_) (fun hc1=>?_)
 have hi:i<64:=by simp at hc1;omega
 have hw:(En s)[i]? = some ((En s).getD i 0):=by
  rw[List.getD_eq_getElem?_getD,List.getElem?_eq_getElem (by rw[En,Nm];exact hi)]
  rfl
 refine AI (AJ (AH (AN (Y (J E ?_)))))
 refine RY (i:=i) E Tv A4 E E zO zO (Hd hw) ?_
 refine U E (U E (V (AH (Ax Cz [] (Pl.of [(true,0),(true,1),(true,3),(true,6),(true,10),(true,11),(true,12),(true,13),(true,14),(true,15),(true,16),(true,17),(true,19),(true,20),(true,21),(true,23),(false,2),(false,4),(true,5),(false,7),(true,8),(true,9),(true,18),(true,22),(true,24),(true,25)]) zK (J E (J E (J E (J E (J E ?_)))))))))
 refine J E (Z E IF (J E (dP E E (J E (Z E IF (Z E Cw (J E ?_)))))))
 refine DK (b:=3) (n:=i) E Tv Bx E E zO zO ?_
 refine Bm E A4 E (hT.load zO) (J E (AQ 0 Pq (Hz _ 6 zO zO) E (AQ 0 Pq (Hz _ 11 zO zO) E (Z E Cw (AQ 0 Pq (Hz _ 25 zO zO) E (Z E Cw (Z E B3 ?_)))))))
 refine Z E B3 (Z E B3 (Z E B3 (U E (V (Y (J E (AQ 0 Pq (Hz _ 2 zO zO) E (J E (AQ 0 Pq (Hz _ 13 zO zO) E ?_)))))))))
 refine Z E Cw (J E (AQ 0 Pq (Hz _ 22 zO zO) E (Z E Cw (J E (J E (Z E IF (J E ?_)))))))
 refine J E (Z E IF (Z E Cw (J E (J E (Z E IF (Z E Cw (Z E B3 ?_)))))))
 refine U E (V (AM (J E (J E (J E (J E (J E (Z E B3 (J E ?_)))))))))
 refine J E (J E (J E (J E (Z E B3 (U E (U E (U E ?_)))))))
 refine U E (U E (U E (U E (U E (AZ (Av (AJ (AM (Z E (Bh zO zO) (J E (AZ ?_)))))))))))
 exact A1 (i+1) zO zO ⟨E,E,E,E,E,E,E,E,E,E,E,zT⟩
 have hi:i=64:=by simp at hc1;omega
 subst hi
 generalize hfin:Ho T (En s) h 64=fin
 refine A5 (BC (Bb (BB (AJ (Y (J E (J E (J E (J E (J E (J E (J E (J E ?_)))))))))))))
 refine W8 (fin.list.map AB) rfl sW Bx ym rfl ⟨rfl,rfl,rfl,rfl,rfl,rfl,rfl,rfl,trivial⟩ rfl rfl (fun v hv=>by obtain⟨x,_,rfl⟩:=List.mem_map.1 hv;rfl) ?_
 refine J E ?_
 have hfl:fin.list.length=h.length:=by rw[hh];rfl
 refine V (AN ?_)
 refine SX.mono (BK (α:=Nat) (fun i=>i≤8) (fun i=>[(0,vP b 0),(122,.agg (Dx AB fin.list)),(123,vI i)]) (fun i=>own b (.cells (PC AB (T7 h fin.list i) tl) e)::H) (fun i=>8-i) (fun i D hp=>?_) 0 zO) tL
 refine Y (Z E A9 (V (AH ?_)))
 refine A7 E (fun hc2=>?_) (fun hc2=>?_)
 have hi:i<8:=by simp at hc2;omega
 have hml:=Xz h _ hfl i
 have hw:fin.list[i]? = some (fin.list.getD i 0):=by
  rw[List.getD_eq_getElem?_getD,List.getElem?_eq_getElem zO]
  rfl
 refine AI (AJ (AH (AN (Y (J E ?_)))))
 refine RY (i:=i) E sW A4 E E zO zO (Hd hw) ?_
 refine U E (U E (V (Ax Cz [0] (Bs (G4 0 9) (.last 9 .nil)) zK (J E (J E (AT E E ?_))))))
 refine DK (n:=i) E RU Bx E E zO zO ?_
 refine Bm E A4 E (Dd 0 E (LB 0 zO)) ?_
 rw[d7 h _ hfl i zO]
 refine J E (Z E B3 (AT E E ?_))
 refine DK (n:=i) E RU Bx E E zO zO ?_
 refine BU ?_
 refine tN (f:=AB) 0 E E E E Bx E E zO zT ?_
 rw[d8 h _ hfl i zO]
 refine AZ (Av (AJ (AM (Z E (Bh zO zO) (J E (AZ ?_))))))
 exact A1 (i+1) zO zO ⟨E,E,E,zT⟩
 have hi:i=8:=by simp at hc2;omega
 subst hi
 refine A5 (BC (Bb (BB ?_)))
 have hfull:=cB h _ hfl
 rw[hh]at hfull
 rw[hfull,←hfin]
 exact Da (Ed E) (Ao (M:=[_]) ⟨E,E⟩ fun _ h=>h)
theorem ZA(T:List UInt32)(h:O8)(rest s:List UInt8)(n:Int)(b:Nat)(e:TypeId)(hT:Vo K w0 3 T)(hTl:T.length=64)(hs:s.length=64):zC K w0 276 [vP b 0,vS s] [own b (.cells (QB h rest n) e)] H (fun r M=>r=.tuple #[]∧M=[own b (.cells (QB (Wm T h s) rest n) e)]):=by
 have h1:=fe (K:=K) (w0:=w0) (H:=H) T h.list [vS rest,vI n] s b e hT hTl rfl hs
 rw[←S9 (WG (T:=T) (s:=s) (show h.list.length=8 from rfl))]at h1
 exact h1
end

section
variable {K:Nat→Prop}{w0:World}{H:List AX}
def jF(p:Nat×List UInt8):List Value:=[vI p.1,vS p.2]
theorem gf(s:List UInt8)(b:Nat)(hn:s.length≤1099511627776):qC Tryz.prog K w0 288 [vP b 0] [own b (.cells #[vS s] 9)] jF (Qj s):=by
 intro lp J9 X T hy G h0
 refine WN.enter Tryz.func288 rfl rfl ?_
 refine Y (U E (V (AN ?_)))
 refine SX.mono (BK (α:=Nat×List AX) (fun x=>x.1≤s.length / 64∧J9 ((Qj s).take x.1) x.2) (fun x=>[(0,vY lp),(1,vP b 0),(3,vI (64*(x.1+1):Nat))]) (fun x=>own b (.cells #[vS s] 9)::(x.2++T)) (fun x=>s.length / 64-x.1) (fun x D hp=>?_) (0,G) ⟨Nat.zero_le _,h0⟩) tL
 obtain⟨i,G⟩:=x
 obtain⟨hi,hJ⟩:=hp
 simp only at hi hJ
 refine AH (Y (J E (AG 0 HJ E (B7 E Cu E (Z E Jo (V ?_))))))
 refine A7 E (fun hc1=>?_) (fun hc1=>?_)
 have hlt:i<s.length / 64:=by simp at hc1;omega
 have hg:=ZN s i hlt
 refine AI (AJ (AH (AN (Y (J E (J E (AG 0 HJ E (J E (Z E (EV zO zO) (J E (mR (64*i) (64*(i+1)) E Cu E E E zO zO zO zO ?_)))))))))))
 have ht:64*(i+1)-64*i=64:=zO
 rw[ht]
 refine I8 (M2:=[_]) (G:=G) (T:=T) (vs:=[_,_]) (ok:=fun G1=>J9 ((Qj s).take (i+1)) G1) (no:=X) E E ⟨E,E,zT⟩ E ?_ (fun bb G1 hG1=>⟨zT,?_⟩)
 intro M
 have:=hy _ _ _ (F6 hg).1 G hJ M
 rw[←(F6 hg).2]at this
 exact this
 refine CF E E (V ?_)
 refine A7 E (fun hc2=>?_) (fun hc2=>?_)
 obtain rfl:bb=false:=by simpa using hc2
 refine AK (BI (Aa (EX (BI ?_))))
 exact An (Ed E) (Ao (M:=G1) (.inr hG1) fun _ h=>h.skip [_])
 obtain rfl:bb=true:=by simpa using hc2
 refine AI (Av (AJ (AM (J E (Z E (Bh zO zO) (U E (AZ ?_)))))))
 refine A1 (i+1,G1) ⟨hlt,hG1⟩ (by simp only;omega) ⟨E,E,?_,zT⟩
 have e:((64*(i+1):Nat):Int)+64=((64*(i+1+1):Nat):Int):=zO
 simp only[look,Nat.beq,CC]
 rw[←e]
 refine A5 (BC (Bb (BB ?_)))
 have hle:i=s.length / 64:=by simp at hc1;omega
 exact Da (Ed E) (Ao (M:=G) (.inl (by rw[List.take_of_length_le (by rw[RG];omega)]at hJ;exact hJ)) fun _ h=>h.skip [_])
theorem ff(s:List UInt8):zC K w0 277 [vS s] [] H (fun r M=>∃b,r=.func (.func 288) #[] #[vP b 0]∧M=[own b (.cells #[vS s] 9)]):=by
 refine WN.enter Tryz.func277 rfl rfl ?_
 refine Y ?_
 refine Bg E E zU fun b0=>?_
 refine U E (V (Y ?_))
 refine HK (fv:=#[]) (cv:=#[_]) E E E ?_
 refine U E (V (AK ?_))
 exact An (Cx E E) (Ao (M:=[_]) ⟨b0,E,E⟩ fun _ h=>h)
theorem fc(h:O8)(tl:List Value)(b:Nat)(e:TypeId):zC K w0 278 [vP b 0] [own b (.cells (PC AB h.list tl) e)] H (fun r M=>r=vS (h.list.flatMap IL)∧M=[own b (.cells (PC AB h.list tl) e)]):=by
 refine WN.enter Tryz.func278 rfl rfl ?_
 refine Y (U E (V (Y (U E (V (AH (Y (J E (J E (V (AN (KR 5 1 ?_))))))))))))
 refine SX.mono (BK (α:=Nat×Value) (fun x=>x.1≤8) (fun x=>[(3,x.2),(6,vP b 0),(7,vI x.1)]) (fun x=>D7 5 1 x.2 (4*x.1) (((h.list.take x.1).flatMap IL).map fun b=>FE b)::own b (.cells (PC AB h.list tl) e)::H) (fun x=>8-x.1) (fun x D hp=>?_) (0,zN) zD) tL
 obtain⟨i,v⟩:=x
 simp only at hp
 refine Y (Z E A9 (V (AH ?_)))
 refine A7 E (fun hc1=>?_) (fun hc1=>?_)
 have hlt:i<8:=by simp at hc1;omega
 refine AI (AJ (AH (AN (Y (AT E E ?_)))))
 refine DK (n:=i) E RU Bx E E zO zO ?_
 refine Bm E A4 E (Dd 1 E (LB 0 hlt)) (U E (V (AM (J E (J E ?_)))))
 refine Z E (GT.shr32 (n:=24)) ?_
 refine BO E E (DJ CD Dl) (J E ?_)
 refine Z E (GT.shr32 (n:=16)) ?_
 refine BO E E (DJ CD Dl) (J E ?_)
 refine Z E (GT.shr32 (n:=8)) ?_
 refine BO E E (DJ CD Dl) (J E (BO E E (DJ CD Dl) ?_))
 refine CA [_,_,_,_] E Cm LS ML ⟨E,E,E,E,zT⟩ E E E zX E E zU fun b0=>?_
 refine W7 1 rfl (m:=4) (news:=(IL (h.list.getD i 0)).map fun b=>FE b) Cm LS YM ML rfl zD rfl rfl rfl rfl (Ap 0 rfl) (by intro u hu;obtain⟨x,_,rfl⟩:=List.mem_map.1 hu;rfl) zO zO zU fun v'=>?_
 refine U E (AZ (Av (AJ (AM (Z E (Bh zO zO) (J E (AZ ?_)))))))
 refine A1 (i+1,v') (by simp only;omega) (by simp only;omega) ⟨E,E,E,zT⟩ (fun w hw=>by
  have e1:h.list.take (i+1)=h.list.take i++[h.list.getD i 0]:=by
   rw[List.take_add_one,List.getD_eq_getElem?_getD,List.getElem?_eq_getElem (show i<h.list.length from hlt)]
   rfl
  simp only
  rw[e1,List.flatMap_append,List.map_append]
  simp only[List.flatMap_cons,List.flatMap_nil,List.append_nil]
  exact hw.skip [_])
 have hi:i=8:=by simp at hc1;omega
 subst hi
 refine A5 (BC (Bb (BB (AJ (Y (J E ?_))))))
 refine aH (s:=h.list.flatMap IL) 0 E Cm Dl Cu E E ?_
 refine U E (V (AK ?_))
 exact An (Cx E E) (Ao (M:=[_]) ⟨E,E⟩ fun _ h=>h.skip [_])
end

section
variable {K:Nat→Prop}{w0:World}{H:List AX}
theorem XS(T:List UInt32)(h:O8)(rest s:List UInt8)(n:Int)(b:Nat)(e:TypeId)(hT:Vo K w0 3 T)(hTl:T.length=64)(hr:rest.length<64)(hn:s.length≤1099511627776):zC K w0 257 [vP b 0,vS s] [own b (.cells (QB h rest n) e)] H (fun r M=>r=.tuple #[]∧M=[own b (.cells (QB (Ew T h (rest++s)).1 (Ew T h (rest++s)).2 n) e)]):=by
 refine WN.enter Tryz.func257 rfl rfl ?_
 refine Y ?_
 refine Bg E E zU fun b0=>?_
 refine Bg E E zU fun b1=>?_
 refine V (LA ?_)
 refine aL (α:=O8×List UInt8×List UInt8) (fun x=>Ew T x.1 (x.2.1++x.2.2)=Ew T h (rest++s)∧x.2.1.length<64∧(x.2.1≠[]→(x.2.1++x.2.2).length<64)∧x.2.2.length≤s.length) (fun x=>[(2,vP b0 0),(3,vP b1 0)]) (fun x=>own b1 (.cells #[vS x.2.2] 9)::own b0 (.cells #[vP b 0] 345)::own b (.cells (QB x.1 x.2.1 n) e)::H) ?_ (fun x hx=>?_)
 refine AH (Ax Cz [0,1,2] (Pl.of (G4 0 16)) zK (AG 1 RP E (AT E E (AE E NN (AG 2 HJ E ?_)))))
 refine Z E (W2 (t:=[])) ?_
 refine J E ?_
 refine CV (c:=decide ((64:Int)≤(rest.length:Int)+s.length)) 13 10 23 E (fun hb k=>?_) (fun hb k=>?_) ?_
 refine AG 1 RP E (AT E E (AE E NN (AG 2 HJ E (B7 E Cu E (AG 0 HJ E (B7 E Cu E (Z E (Bh zO zO) ?_)))))))
 refine Z E M8 (Ag E E E ?_)
 exact k.mono tL
 refine AC E (AC E (AC E (AC E (AC E (AC E (AC E (AC E ?_)))))))
 refine AC E (Ag E E E ?_)
 exact k.mono tL
 refine V ?_
 refine A7 E (fun hc1=>?_) (fun hc1=>?_)
 have hne:rest≠[]∧64≤rest.length+s.length:=by simp at hc1;exact⟨hc1.1,by omega⟩
 refine Y (AG 1 RP E (AT E E (AE E NN (AG 2 HJ E (B7 E Cu E (Z E (EV zO zO) (U E (V (AH (Ax Cz [0,1,2] (Bs (G4 0 11) (.last 11 .nil)) zK ?_))))))))))
 refine AG 1 RP E (AT E E (AE E bY (AG 1 RP E (AT E E (AE E NN (AG 2 HJ E (AG 0 HJ E ?_)))))))
 refine J E (UT (64-rest.length) E Cu E E zO zO (Z E (Hb zQ) (BU (SL.pick [2,0,1] 3 (AQ 1 nO (ZA T h rest (rest++s.take (64-rest.length)) n b e hT hTl zQ) E (SL.pick [1,2,0] 3 (V (Ax Cz [0,1] (Bs [(true,0),(true,1),(true,2),(true,3),(true,4),(true,5),(false,6)] (.last 7 .nil)) zK (AG 1 RP E ?_)))))))))
 refine AG 0 HJ E (J E (Qu (64-rest.length) E Cu E E zO zO (AT E E (AE E NN (A3 2 E E E E Il E E E ⟨⟨0,E⟩,⟨1,E⟩,zT⟩ (BU (A3 0 E E E E Il E E E zT (AZ ?_))))))))
 refine XF (Wm T h (rest++s.take (64-rest.length)),[],s.drop (64-rest.length)) ⟨?_,by simp,fun h=>absurd E h,by simp⟩ tL
 have e1:rest++s=(rest++s.take (64-rest.length))++s.drop (64-rest.length):=by rw[List.append_assoc,List.take_append_drop]
 have e2:=XH (T:=T) (h:=h) (p:=rest++s.take (64-rest.length)) (s:=s.drop (64-rest.length)) zQ
 rw[e1,e2]
 rfl
 refine AI ?_
 refine XF (h,rest,s) ⟨E,hr,fun hne=>?_,Nat.le_refl _⟩ tL
 simp at hc1
 have:=hc1 hne
 simp
 omega
 
 obtain⟨h1,r1,s1⟩:=x
 obtain⟨hx1,hx2,hx3,hx4⟩:=hx
 simp only at hx1 hx2 hx3 hx4
 refine AH (Y (AG 1 RP E (AT E E (AE E NN (AG 2 HJ E ?_)))))
 refine Z E (W2 (t:=[])) ?_
 refine V ?_
 refine A7 E (fun hc2=>?_) (fun hc2=>?_)
 have hsh:=hx3 (by simpa using hc2)
 rw[Rs hsh]at hx1
 rw[←hx1]
 refine AH (Ax Cz [0,1,2] (Bs (G4 0 8) (.last 8 .nil)) zK (AG 1 RP E (AT E E (AE E NN (AG 2 HJ E (AG 0 HJ E (Z E (Hb zQ) (AT E E ?_))))))))
 refine AE E NN (BU (A3 2 E E E E Il E E E zT (V (AK (Aa (ES ?_))))))
 exact An (Ed E) (Ao (M:=[_]) ⟨E,E⟩ fun _ h=>h.skip [_,_])
 have hr1:r1=[]:=by simpa using hc2
 subst hr1
 rw[List.nil_append,NC]at hx1
 rw[←hx1]
 refine AI (AJ (Y ?_))
 refine Au E pY zU fun b2=>?_
 refine A3 0 E E E E PB E E E zT (V (AH (K9 (AJ (AH (Y (AG 1 HJ E (BY 0 vM (ff s1) E ?_))))))))
 rintro _ _ ⟨bi,rfl,rfl⟩
 refine V (AN ?_)
 refine Va (enc:=jF) (Qj s1) (fun pre G=>G=own b2 (.cells #[vI (64*pre.length:Nat)] 3)::own b1 (.cells #[vS s1] 9)::own b0 (.cells #[vP b 0] 345)::own b (.cells (QB (Hx T h1 s1 pre.length) [] n) e)::H) (fun c G=>c=.exit 0∧G=own b2 (.cells #[vI (64*(s1.length / 64):Nat)] 3)::own b1 (.cells #[vS s1] 9)::own b0 (.cells #[vP b 0] 345)::own b (.cells (QB (Hx T h1 s1 (s1.length / 64)) [] n) e)::H) E vV E zV (gf s1 bi zO) E E (fun pre x suf G hxs hJ r lp Rest=>?_) (fun G D hJ=>?_) (fun c G D hX=>?_)
 obtain rfl:=hJ
 have hget:(Qj s1)[pre.length]? = some x:=by rw[hxs];simp
 have hlt:pre.length<s1.length / 64:=by
  have:=RG s1
  rw[hxs]at this
  simp at this
  omega
 rw[ZN s1 _ hlt]at hget
 obtain rfl:=zI hget
 refine Y (U E (V (AM (U E (AZ (Jm (AN (Y (AG 2 RP E (AT E E (AE E bY (J E (SL.pick [3,0,1,2] 4 (AQ 1 nO (ZA T (Hx T h1 s1 pre.length) [] _ n b e hT hTl zQ) E ?_))))))))))))))
 refine SL.pick [1,2,3,0] 4 (V (Y (J E (A3 0 E E E E PB E E E zT (V (Y (AG 1 HJ E (B7 E Cu E (J E (Z E (EV zO zO) (Z E A9 (V ?_))))))))))))
 refine A7 E (fun hc3=>?_) (fun hc3=>?_)
 refine A5 (Hc ?_)
 have e1:pre.length+1=s1.length / 64:=by simp at hc3;omega
 exact NB (G:=_::_::_::_::H) (by rw[←e1];exact⟨E,E⟩) (fun _ h=>h)
 refine AI (Av ?_)
 exact IK (G:=_::_::_::_::H) (by rw[show(pre++[(64*(pre.length+1),(s1.drop (64*pre.length)).take 64)]).length=pre.length+1 by simp];rfl) (fun _ h=>h)
 obtain rfl:=hJ
 rw[RG]
 refine Av (AJ (Ax Cz [0,1,2] (Bs (G4 0 6) (.last 6 .nil)) zK (AG 2 RP E (AG 1 HJ E (AG 0 EF E (Qu (64*(s1.length / 64)) E Cu E E zO zO (AT E E (AE E NN (BU (A3 3 E E E E Il E E E zT (AZ (mT ?_))))))))))))
 exact Da (Ed E) (Ao (M:=[_]) ⟨E,E⟩ fun _ h=>h.skip [_,_,_])
 obtain⟨rfl,rfl⟩:=hX
 refine A5 (BB (AJ (Ax Cz [0,1,2] (Bs (G4 0 6) (.last 6 .nil)) zK (AG 2 RP E (AG 1 HJ E (AG 0 EF E (Qu (64*(s1.length / 64)) E Cu E E zO zO (AT E E (AE E NN (BU (A3 3 E E E E Il E E E zT (AZ (mT ?_)))))))))))))
 exact Da (Ed E) (Ao (M:=[_]) ⟨E,E⟩ fun _ h=>h.skip [_,_,_])
end

section
variable {K:Nat→Prop}{w0:World}{H:List AX}
def dz(e:TypeId):Prop:=liesAt Tryz.prog Tryz.prog.depth e (2 / Tryz.prog.cellsOf e) 0 161 1=true
theorem zF(v:Value)(w:World):(callFunc 146 [v].toArray).run Tryz.prog w=.ok (.value v) w:=by
 rw[run_callFunc_extern (e:=Extern.AbiNoEscape.same) Tryz.func146 zK zK zK zK]
 rfl
theorem ct(e:TypeId)(b:Nat)(v:Value)(hl:dz e):zC K w0 108 [vP b 0] [own b (.cells #[.pointer none,v] e)] H (fun r M=>r=.tuple #[]∧M=[own b (.cells #[vP b 0,v] e)]):=by
 refine WN.enter Tryz.func108 rfl rfl ?_
 refine Y (J E (AT E E (AE E Xn (AG 0 lj E (Dr E cf E E (V (PK E (AM (J E (J E ?_))))))))))
 refine tO 0 E cf sV lo E E E E ?_
 refine ph E (vs:=[_]) ⟨E,zT⟩ (zF _) ?_
 refine sx 0 E sV cf lo E E hl (AT E E (AE E Xn (A3 0 E E E E yK E E E zT (AZ ?_))))
 exact Da (Ed E) (Ao (M:=[_]) ⟨E,E⟩ fun _ h=>h)
theorem cu(e:TypeId)(b:Nat)(v:Value):zC K w0 108 [vP b 0] [own b (.cells #[vP b 0,v] e)] H (fun r M=>r=.tuple #[]∧M=[own b (.cells #[vP b 0,v] e)]):=by
 refine WN.enter Tryz.func108 rfl rfl ?_
 refine Y (J E (AT E E (AE E Xn (AG 0 lj E (Dr E cf E E (V (C1 E (Y (J E (AT E E ?_))))))))))
 refine AE E Xn (AG 0 lj E (J E (pi E cf lo E E (V (C1 E (AI ?_))))))
 exact Da (Ed E) (Ao (M:=[_]) ⟨E,E⟩ fun _ h=>h)
def Qw(b:Nat)(p:Value):Prop:=p=.pointer none∨p=vP b 0
theorem TC(e:TypeId)(b:Nat)(p v:Value)(hp:Qw b p)(hl:dz e):zC K w0 108 [vP b 0] [own b (.cells #[p,v] e)] H (fun r M=>r=.tuple #[]∧M=[own b (.cells #[vP b 0,v] e)]):=by
 rcases hp with rfl | rfl
 exact ct e b v hl
 exact cu e b v
theorem Qc(e:TypeId)(b:Nat)(p v:Value)(n:Nat)(xs:List Value)(c:UInt8)(hp:Qw b p)(hl:dz e)(hn:n+1≤140737488355328):
  zC K w0 228 [vP b 0,FE c] [own b (.cells #[p,v] e),D7 5 1 v n xs] H
   (fun r M=>r=.nilIface∧∃v',M=[own b (.cells #[vP b 0,v'] e),D7 5 1 v' (n+1) (xs++[FE c])]):=by
 refine WN.enter Tryz.func228 rfl rfl ?_
 refine Y (U E (V (Y (J E (AQ 1 fh (TC e b p v hp hl) E (V (Y (J E (J E (AT E E (AE E KE (AG 0 SN E ?_))))))))))))
 refine J E ?_
 refine CA [FE c] E Cm LS ML ⟨E,zT⟩ E E E zX E E zU fun b1=>?_
 refine W7 2 E (news:=[FE c]) Cm LS YM ML E zD E E E E (Ap 0 E) (by simp[Value.oneCell']) zO zO zU fun v'=>?_
 refine AT E E (AE E KE ?_)
 refine iW (fun w hw=>cN (hw.holds _ (List.mem_append_left _ (List.mem_of_getElem? (i:=2) E)))) fun hsh=>?_
 have hc1:v'.cells=#[v']:=by rcases hsh with⟨rfl,_⟩ | ⟨g,cap,rfl,_⟩<;>rfl
 have ho1:v'.oneCell'=true:=by rcases hsh with⟨rfl,_⟩ | ⟨g,cap,rfl,_⟩<;>rfl
 refine A3 1 E E E E lm (by rw[hc1];rfl) (by rw[hc1];simp[ho1]) E zT ?_
 rw[hc1]
 refine V (Y (U E (V (AK ?_))))
 exact An (Cx E E) (Ao (M:=[_,_]) ⟨E,v',E⟩ fun _ h=>h.skip [_])
theorem IN(e:TypeId)(b:Nat)(p v:Value)(n:Nat)(xs:List Value)(s:List UInt8)(hp:Qw b p)(hl:dz e)(hn:n+s.length≤140737488355328):
  zC K w0 76 [vP b 0,vS s] [own b (.cells #[p,v] e),D7 5 1 v n xs] H
   (fun r M=>r=.tuple #[vI s.length,.nilIface]∧∃v',M=[own b (.cells #[vP b 0,v'] e),D7 5 1 v' (n+s.length) (xs++s.map fun b=>FE b)]):=by
 refine WN.enter Tryz.func76 rfl rfl ?_
 refine Y (U E (U E (V (Y (J E (AQ 1 fh (TC e b p v hp hl) E (V (Y (J E (J E (AT E E (AE E KE ?_))))))))))))
 refine AG 0 SN E (J E ?_)
 refine pg 1 E Cm Cu LS YM ML E E E hn zU fun v'=>?_
 refine AT E E (AE E KE ?_)
 refine iW (fun w hw=>cN (hw.holds _ (List.mem_append_left _ (List.mem_of_getElem? (i:=1) E)))) fun hsh=>?_
 have hc1:v'.cells=#[v']:=by rcases hsh with⟨rfl,_⟩ | ⟨g,cap,rfl,_⟩<;>rfl
 have ho1:v'.oneCell'=true:=by rcases hsh with⟨rfl,_⟩ | ⟨g,cap,rfl,_⟩<;>rfl
 refine A3 0 E E E E lm (by rw[hc1];rfl) (by rw[hc1];simp[ho1]) E zT ?_
 rw[hc1]
 refine V (Y (J E (B7 E Cu E (U E (U E (V (AK ?_)))))))
 exact An (C9 E E E) (Ao (M:=[_,_]) ⟨E,v',E⟩ fun _ h=>h)
theorem fK(e:TypeId)(b:Nat)(p v:Value)(n:Nat)(xs:List Value):
  zC K w0 77 [vP b 0] [own b (.cells #[p,v] e),D7 5 1 v n xs] H
   (fun r M=>r=vI n∧M=[own b (.cells #[p,v] e),D7 5 1 v n xs]):=by
 refine WN.enter Tryz.func77 rfl rfl ?_
 refine Y (U E (V (Y (J E (AT E E (AE E KE (AG 0 SN E (iZ 1 E Cm E E (U E (V (AK ?_)))))))))))
 exact An (Cx E E) (Ao (M:=[_,_]) ⟨E,E⟩ fun _ h=>h)
theorem LD(e:TypeId)(b:Nat)(p v:Value)(n:Nat)(s:List UInt8)(hn:n≤140737488355328):
  zC K w0 78 [vP b 0] [own b (.cells #[p,v] e),D7 5 1 v n (s.map fun b=>FE b)] H
   (fun r M=>r=vS s∧M=[own b (.cells #[p,v] e),D7 5 1 v n (s.map fun b=>FE b)]):=by
 refine WN.enter Tryz.func78 rfl rfl ?_
 refine Y (U E (V (AH (Ax Cz [0,1] (Pl.of [(true,0),(true,1),(true,2),(true,3),(true,5),(true,6),(true,7),(true,8),(true,9),(false,4),(false,10),(true,11)]) zK (J E (AT E E (AE E KE (AG 0 SN E (J E (AT E E ?_))))))))))
 refine AE E KE (AG 0 SN E (iZ 1 E Cm E E ?_))
 refine pz 1 E sT E E ⟨⟨0,E⟩,⟨1,E⟩,zT⟩ fun q hq=>?_
 refine p9 1 E sT zp E E hq E zO ⟨⟨0,E⟩,⟨1,E⟩,zT⟩ (U E (V (AK ?_)))
 exact An (Cx E E) (Ao (M:=[_,_]) ⟨E,E⟩ fun _ h=>h)
end

section
variable {K:Nat→Prop}{w0:World}{H:List AX}
theorem gu{y:UInt64}(h:y.toNat<4294967296):shr64 y 32=0:=by
 apply UInt64.toNat_inj.1
 have h1:y.toNat / 4294967296=0:=Nat.div_eq_of_lt h
 simp[shr64,h1]
theorem qL(n:Nat)(h:n<9223372036854775808):decide ((9223372036854775807:UInt64)<B9 n)=false:=by
 rw[decide_eq_false_iff_not,UInt64.lt_iff_toNat_lt]
 have h1:(9223372036854775807:UInt64).toNat=9223372036854775807:=by decide
 have h2:(B9 n).toNat=n:=by simp only[B9,UInt64.toNat_ofNat'];omega
 omega
theorem fD{y:UInt64}(h:y.toNat<4294967296):y &&& 4294967295=y:=by
 apply UInt64.toNat_inj.1
 rw[UInt64.toNat_and]
 exact Nat.and_two_pow_sub_one_of_lt_two_pow (n:=32) h
theorem qT(y:UInt64)(hy:y.toNat<4294967296):zC K w0 106 [Be 1,Be y] [] H (fun r M=>r=.tuple #[Be 0,Be y]∧M=[]):=by
 refine WN.enter Tryz.func106 rfl rfl ?_
 refine Y (U E (U E (V (Y (J E ?_)))))
 refine Z E (Qt (b:=4294967295)) ?_
 refine U E (V (Y (J E ?_)))
 refine Z E (GT.shr64 (n:=32)) ?_
 refine U E (V (Y (J E ?_)))
 refine Z E (Qt (b:=4294967295)) ?_
 refine U E (V (Y (J E ?_)))
 refine Z E (GT.shr64 (n:=32)) ?_
 refine U E (V (Y (J E (J E (Z E Nn (U E (V (Y (J E (J E (Z E Nn ?_)))))))))))
 refine J E ?_
 refine Z E (GT.shr64 (n:=32)) ?_
 refine Z E HV (U E (V (Y (J E ?_))))
 refine Z E (Qt (b:=4294967295)) ?_
 refine U E (V (Y (J E ?_)))
 refine Z E (GT.shr64 (n:=32)) ?_
 refine U E (V (Y (J E (J E (J E (Z E Nn (Z E HV (U E (V (Y (J E ?_)))))))))))
 refine J E (Z E Nn (J E (Z E HV (J E ?_))))
 refine Z E (GT.shr64 (n:=32)) ?_
 refine Z E HV (U E (V (Y (J E (J E (Z E Nn (U E (V (AK ?_)))))))))
 have h1:shr64 y 32=0:=gu hy
 have h2:y &&& 4294967295=y:=fD hy
 have h3:shr64 (1:UInt64) 32=0:=by decide
 have h4:(1:UInt64) &&& 4294967295=1:=by decide
 have h5:shr64 (0:UInt64) 32=0:=by decide
 have h6:(0:UInt64) &&& 4294967295=0:=by decide
 refine An (C9 E E E) (Ao (M:=[]) ⟨?_,E⟩ fun _ h=>h.skip [])
 simp[h1,h2,h3,h4,h5,h6]
theorem qS(y:UInt64)(hy:y.toNat<4294967296):zC K w0 73 [Be 1,Be y] [] H (fun r M=>r=.tuple #[Be 0,Be y]∧M=[]):=by
 refine WN.enter Tryz.func73 rfl rfl ?_
 refine Y (U E (U E (V (AH ?_))))
 refine A7 E (fun hc1=>absurd hc1 zD) (fun hc1=>?_)
 refine AI (AJ (Y (J E (J E (AQ 0 tW (qT y hy) E (J E (Ah E E E (Ah E E E (U E (U E (V (Y ?_))))))))))))
 refine J E (J E (U E (U E (V (AK ?_)))))
 exact An (C9 E E E) (Ao (M:=[]) ⟨E,E⟩ fun _ h=>h.skip [])
theorem qV(b n:Nat)(hn:n≤281474976710656):zC K w0 109 [vP b 0,vI n] [own b (.cells #[vP b 0,zN] 161)] H (fun r M=>r=.tuple #[]∧∃v,M=[own b (.cells #[vP b 0,v] 161),D7 5 1 v 0 []]):=by
 refine WN.enter Tryz.func109 rfl rfl ?_
 refine AH (Ax Cz [0] (Pl.of [(true,0),(true,1),(true,2),(true,3),(true,4),(true,5),(true,6),(true,7),(true,9),(true,10),(true,11),(true,12),(true,13),(false,8),(true,14),(true,15)]) zK (J E (AT E E (AE E KE (AG 0 SN E (iV E Cm E (Z E (PH zO zO) (J E ?_))))))))
 refine Z E (Bh zO zO) (J E (AT E E (AE E KE (AG 0 SN E (Py E Cm E ?_)))))
 refine tG (n:=n) (fn:=Tryz.f147) E E zO hn Cm (fun w r w' hr=>by rw[run_callFunc_extern (e:=Extern.BytealgMakeNoZero.makeNoZero #[3] #[123]) Tryz.func147 zK zK zK zK];rw[show(Extern.BytealgMakeNoZero.makeNoZero #[3] #[123] #[vI n]).run Tryz.prog w=.ok r w' from hr];rfl) (fun _ _=>⟨⟨1,E⟩,zT⟩) fun b1 cs hcs hcm=>?_
 refine ig 0 E Cm LS E E E zO (U E (V (Y (J E (J E (AT E E (AE E KE (AG 1 SN E (sw E Cm LS E E (V (AM ?_)))))))))))
 refine J E (J E (AT E E (AE E KE (A3 1 E E E E lm E E E zT (AZ ?_)))))
 refine SQ.heap (H':=D7 5 1 (.slice (some ⟨b1,0,none⟩) 0 cs.size) 0 []::own b (.cells #[vP b 0,.slice (some ⟨b1,0,none⟩) 0 cs.size] 161)::H) ?_ fun w hw=>iO hw zS zO
 exact Da (Ed E) (Ao (M:=[_,_]) ⟨E,_,E⟩ fun _ h=>h.perm (List.Perm.swap _ _ _))
theorem ir(b n:Nat)(p:Value)(hp:Qw b p)(h0:0<n)(hn:n≤281474976710656):zC K w0 75 [vP b 0,vI n] [own b (.cells #[p,zN] 161)] H (fun r M=>r=.tuple #[]∧∃v,M=[own b (.cells #[vP b 0,v] 161),D7 5 1 v 0 []]):=by
 refine WN.enter Tryz.func75 rfl rfl ?_
 refine Y (J E (AQ 1 fh (TC 161 b p (.slice none 0 0) hp TY) E (V (AH (Y (J E (Z E A9 (V ?_))))))))
 refine A7 E (fun hc1=>absurd hc1 zS) (fun hc1=>?_)
 refine AI (AJ (AH (Ax Cz [0] (Pl.of (G4 0 13)) zK (J E (AT E E (AE E KE (AG 0 SN E (iV E Cm E (J E (AT E E ?_))))))))))
 refine AE E KE (AG 0 SN E (Py E Cm E (Z E (EV zO zO) (J E (Z E A9 (V ?_))))))
 refine A7 E (fun hc2=>?_) (fun hc2=>absurd hc2 zQ)
 refine AM (J E (J E (BY 1 tX (qV b n hn) E ?_)))
 rintro _ _ ⟨rfl,v,rfl⟩
 refine AZ ?_
 exact Da (Ed E) (Ao (M:=[_,_]) ⟨E,v,E⟩ fun _ h=>h)
theorem PP(n:Nat)(hn:n≤8192):zC K w0 49 [vS [0],vI n] [] H (fun r M=>r=vS (List.replicate n 0)∧M=[]):=by
 refine WN.enter Tryz.func49 rfl rfl ?_
 refine Y (U E (V (AH (Y (J E (V (AN (Y (Z E Ba (U E (V ?_)))))))))))
 refine A7 E (fun hc1=>?_) (fun hc1=>?_)
 refine Y (U E (V (AK (BI (Aa ?_)))))
 exact An (Cx E E) (Ao (M:=[]) ⟨by have h0:n=0:=(by simpa using hc1);subst h0;rfl,E⟩ fun _ h=>h.skip [])
 have h0:n≠0:=by intro h;subst h;simp at hc1
 refine Y (Z E Ba (U E (V ?_)))
 refine A7 E (fun hc2=>?_) (fun hc2=>?_)
 refine Y (J E (U E (V (AK (BI (Aa ?_))))))
 exact An (Cx E E) (Ao (M:=[]) ⟨by have h1:n=1:=(by simp at hc2;omega);subst h1;rfl,E⟩ fun _ h=>h.skip [])
 refine AI (Av (AJ (AH (Y (J E (Z E A9 (V ?_)))))))
 refine A7 E (fun hc3=>absurd hc3 zS) (fun hc3=>?_)
 refine AI (AJ (Y (J E (B7 E Cu E (BO E E (Ee Im N2) (J E (BO E E (Ee Im N2) (AQ 0 qi (qS (B9 n) (by simp[B9];omega)) E (J E (Ah E E E ?_))))))))))
 refine Ah E E E (U E (U E (V (AH (Y (J E ?_))))))
 refine Z E (PG (b:=0)) ?_
 refine J E ?_
 refine Dw (c:=false) 31 3 34 E (fun hb k=>?_) (fun hb k=>?_) ?_
 refine AC E (AC E (Ag E E E ?_))
 exact k.mono tL
 refine J E ?_
 refine Z E (PG (b:=9223372036854775807)) ?_
 rw[qL n zO]
 refine Ag E E E ?_
 exact k.mono tL
 refine V ?_
 refine A7 E (fun hc4=>absurd hc4 zD) (fun hc4=>?_)
 refine AI (AJ (Y (J E ?_)))
 have hto:((B9 n).toNat:Int)=n:=by simp only[B9,UInt64.toNat_ofNat'];omega
 refine BO E E (mL (n:=((B9 n).toNat:Int)) N2 Im zO zO) ?_
 rw[hto]
 refine U E (V (AH (Y (J E (B7 E Cu E (Z E Ba (V ?_)))))))
 refine A7 E (fun hc5=>absurd hc5 zD) (fun hc5=>?_)
 refine AI (AJ (AH (Y (J E (MO 0 E Cu E E zD zD (V (AN (AH (Y ?_)))))))))
 refine Z E (UL (b:=32)) ?_
 refine U E (V ?_)
 refine A7 E (fun hc6=>absurd hc6 zD) (fun hc6=>?_)
 refine Y ?_
 refine Z E (UL (b:=45)) ?_
 refine U E (V ?_)
 refine A7 E (fun hc7=>absurd hc7 zD) (fun hc7=>?_)
 refine Y ?_
 refine Z E (UL (b:=48)) ?_
 refine U E (V ?_)
 refine A7 E (fun hc8=>absurd hc8 zD) (fun hc8=>?_)
 refine Y ?_
 refine Z E (UL (b:=61)) ?_
 refine U E (V ?_)
 refine A7 E (fun hc9=>absurd hc9 zD) (fun hc9=>?_)
 refine AM ?_
 refine Z E (UL (b:=9)) ?_
 refine U E (V ?_)
 refine A7 E (fun hc10=>absurd hc10 zD) (fun hc10=>?_)
 refine AI (Av (AJ (Y (J E (U E (V (AH (Y (J E (Z E Cj (V ?_)))))))))))
 refine A7 E (fun hc11=>absurd hc11 zQ) (fun hc11=>?_)
 refine AI (AJ (Y ?_))
 refine Au E cq zU fun b0=>?_
 refine V (Y (J E (BY 1 qj (ir b0 n _ (.inl E) zO zO) E ?_)))
 rintro _ _ ⟨rfl,v1,rfl⟩
 refine V (Y (J E (BY 2 Un (IN 161 b0 _ v1 0 [] [0] (.inr E) TY zS) E ?_)))
 rintro _ _ ⟨rfl,v2,rfl⟩
 refine V (AH (AN ?_))
 refine SX.mono (BK (α:=Nat×Value) (fun x=>1≤x.1∧x.1≤n) (fun x=>[(0,vS [0]),(7,vI n),(8,vI n),(9,vP b0 0)]) (fun x=>own b0 (.cells #[vP b0 0,x.2] 161)::D7 5 1 x.2 x.1 ((List.replicate x.1 0).map fun b=>FE b)::H) (fun x=>n-x.1) (fun x D hp=>?_) (1,v2) ⟨Nat.le_refl _,by simp only;omega⟩) tL
 obtain⟨m,v⟩:=x
 obtain⟨h1,h2⟩:=hp
 simp only at h1 h2
 refine AH (Y (AQ 2 f6 (fK 161 b0 (vP b0 0) v m _) E (J E (Z E A9 (V ?_)))))
 refine A7 E (fun hc12=>?_) (fun hc12=>?_)
 refine AI (AJ (AN (Y (J E (AQ 2 f6 (fK 161 b0 (vP b0 0) v m _) E (Z E (EV zO zO) (AQ 2 f6 (fK 161 b0 (vP b0 0) v m _) E (J E (oH E E E E (U E (V (AM (AQ 2 Rx (LD 161 b0 (vP b0 0) v m (List.replicate m 0) zO) E ?_)))))))))))))
 refine J E (UT (min (n-m) m) E Cu E E zO zQ (BY 2 Un (IN 161 b0 _ v m _ ((List.replicate m 0).take (min (n-m) m)) (.inr E) TY zQ) E ?_))
 rintro _ _ ⟨rfl,v',rfl⟩
 refine AZ (Av ?_)
 exact A1 (m+min (n-m) m,v') ⟨by simp only;omega,by simp only;omega⟩ (by simp at hc12;simp only;omega) ⟨E,E,E,E,zT⟩ (fun w h=>by
  have e:(List.replicate m 0).map (fun b=>FE b)++((List.replicate m 0).take (min (n-m) m)).map (fun b=>FE b)=(List.replicate (m+min (n-m) m) 0).map fun b=>FE b:=by
   rw[←List.map_append,List.take_replicate,List.replicate_append_replicate];congr 2;omega
  have e2:((List.replicate m (0:UInt8)).take (min (n-m) m)).length=min (n-m) m:=by simp
  rw[e,e2]at h
  exact h)
 refine A5 (BC (Bb (BB (AJ (Y (AQ 2 Rx (LD 161 b0 (vP b0 0) v m (List.replicate m 0) zO) E (U E (V (AK ?_)))))))))
 exact An (Cx E E) (Ao (M:=[]) ⟨by have h3:m=n:=(by simp at hc12;omega);subst h3;rfl,E⟩ fun _ h=>h.skip [_,_])
end

section
variable {K:Nat→Prop}{w0:World}{H:List AX}
theorem kX(n:UInt64)(i:Nat)(h:i<8):(UY n).take (i+1)=(UY n).take i++[(shr64 n (56-8*i)).toUInt8]:=by
 have:i=0∨i=1∨i=2∨i=3∨i=4∨i=5∨i=6∨i=7:=zO
 rcases this with rfl | rfl | rfl | rfl | rfl | rfl | rfl | rfl<;>rfl
theorem YH(T:List UInt32)(h:O8)(s:List UInt8):(Ew T h s).2.length=s.length%64:=by
 rw[NC]
 simp
 omega
theorem fb(T:List UInt32)(h:O8)(rest:List UInt8)(n:Nat)(b:Nat)(e:TypeId)(hT:Vo K w0 3 T)(hTl:T.length=64)(hr:rest.length=n%64)(hn:n≤1099511627776):zC K w0 258 [vP b 0] [own b (.cells (QB h rest n) e)] H (fun r M=>r=vS ((Ew T h (rest++M6 n)).1.list.flatMap IL)∧M=[own b (.cells (QB h rest n) e)]):=by
 refine WN.enter Tryz.func258 rfl rfl ?_
 refine Y (U E (V (AH (Y (J E (Dr E yT E E (V ?_)))))))
 refine A7 E (fun hc1=>absurd hc1 zS) (fun hc1=>?_)
 refine AI (AJ (Y (J E (AT E E ?_))))
 refine Aw (QB h rest n).toList E wk E E (Ct 0 E (fun j u hu=>by simpa using hu)) ?_
 refine Au E sk zU fun b0=>?_
 refine S4 (c':=QB h rest n) 0 E E E E yP E E (List.all_eq_true.1 (show(QB h rest n).toList.all (·.oneCell')=true from E)) zT ?_
 refine V (Y (J E (AT E E (AE E Xt (AG 1 EF E (BO E E (Ee Im DH) ?_))))))
 refine Z E (Nn (b:=8)) ?_
 refine U E (V (Y (J E (AT E E (AE E Xt (AG 1 EF E (Z E (YC zO zO) (Z E (EV zO zO) (Z E (YC zO zO) ?_)))))))))
 refine U E (V (Y (U E (V (AH (Y (U E (V (AN (KR 5 1 ?_))))))))))
 refine SX.mono (BK (α:=Nat×Value) (fun x=>x.1≤8) (fun x=>[(3,vP b0 0),(4,Be (B9 n*8)),(5,vI (NO n)),(6,x.2),(7,vI (56-8*(x.1:Int)))]) (fun x=>D7 5 1 x.2 x.1 (((UY (B9 n*8)).take x.1).map fun b=>FE b)::own b0 (.cells (QB h rest n) 351)::own b (.cells (QB h rest n) e)::H) (fun x=>8-x.1) (fun x D hp=>?_) (0,zN) zD) ⟨E,E,?_,E,E,zT⟩
 rotate_left
 have e1:((119-(n:Int)%64)%64)=(NO n:Int):=by unfold NO;omega
 rw[←e1]
 rfl
 obtain⟨i,v⟩:=x
 simp only at hp
 refine AH (Y (J E (Z E M8 (V ?_))))
 refine A7 E (fun hc2=>?_) (fun hc2=>?_)
 have hi:i<8:=by simp at hc2;omega
 have e1:(56-8*(i:Int))=((56-8*i:Nat):Int):=zO
 refine AI (AJ (AH (AN (AM (J E (J E (J E ?_)))))))
 refine mO E E (congrArg (fun z=>some (vI z)) e1) (GT.shr64 (n:=56-8*i)) ?_
 refine BO E E (GO DH Dl) ?_
 refine CA [_] E Cm LS ML ⟨E,zT⟩ E E E zX E E zU fun b1=>?_
 refine W7 1 E (m:=1) (news:=[FE (shr64 (B9 n*8) (56-8*i)).toUInt8]) Cm LS YM ML E zD E E E E (Ap 0 E) (by simp[Value.oneCell']) zO zO zU fun v'=>?_
 refine U E (AZ (Av (AJ (AM (J E (Z E (EV zO zO) (U E (AZ ?_))))))))
 refine A1 (i+1,v') (by simp only;omega) (by simp only;omega) ⟨E,E,E,E,?_,zT⟩ (fun w hw=>by
  simp only
  rw[kX _ _ hi,List.map_append]
  exact hw.skip [_])
 have e2:(56-8*((i+1:Nat):Int))=56-8*(i:Int)-8:=zO
 simp only[e2]
 rfl
 have hi:i=8:=by simp at hc2;omega
 subst hi
 refine A5 (BC (Bb (BB (AJ (AH (Ax Cz [0] (Bs [(true,0),(true,3),(true,4),(false,1),(true,2),(true,5)] (.last 6 .nil)) zK (J E (J E ?_))))))))
 refine aH (s:=UY (B9 n*8)) 0 E Cm Dl Cu E E ?_
 refine BS 0 Um (PP (NO n) (by unfold NO;omega)) E ⟨⟨0,E⟩,zT⟩ (Z E (Hb (by simp[NO];omega)) (Z E (Hb (by simp[NO,UY];omega)) (BU (SL.pick [1] 2 (AQ 1 nK (XS T h rest (M6 n) n b0 351 hT hTl zO (by simp[M6,NO,UY];omega)) E (V (Y (AE E bY (AQ 1 vN (fc (Ew T h (rest++M6 n)).1 [vS (Ew T h (rest++M6 n)).2,vI n] b0 351) E (U E (V (AK ?_))))))))))))
 exact An (Cx E E) (Ao (M:=[_]) ⟨E,E⟩ fun _ h=>h.skip [_])
theorem kf(hF:Vo K w0 1 Eh.list):zC K w0 256 [] [] H (fun r M=>∃b,r=vP b 0∧M=[own b (.cells (QB Eh [] 0) 351)]):=by
 refine WN.enter Tryz.func256 rfl rfl ?_
 refine Y (U E (V (Y ?_)))
 refine Aw (ad:=⟨1,0,none⟩) (Eh.list.map AB) E wj E E (fun w hw j u hu=>by
  rw[CU,Nat.zero_add]
  rw[List.getElem?_map]at hu
  cases hx:Eh.list[j]? with
  | none=>rw[hx]at hu;cases hu
  | some x=>
   rw[hx]at hu
   obtain rfl:=zI hu
   exact Q2 (ad:=⟨1,j,none⟩) hF.keep (hF.cell j x hx) w hw) ?_
 refine B5 [_] E yB xm sk ⟨E,zT⟩ E ?_
 refine Bg E E zU fun b0=>?_
 refine U E (V (AK ?_))
 exact An (Cx E E) (Ao (M:=[_]) ⟨b0,E,E⟩ fun _ h=>h)
theorem WY(T:List UInt32)(v:Value)(ls:List (List UInt8))(hT:Vo K w0 3 T)(hTl:T.length=64)(hF:Vo K w0 1 Eh.list)(hk:By K w0 WC 1 v ls)(hn:ls.flatten.length≤1099511627776)(hl:ls.length≤1099511627776):zC K w0 230 [v] [] H (fun r M=>r=vS (O3 T ls.flatten)∧M=[]):=by
 refine WN.enter Tryz.func230 rfl rfl ?_
 refine Y (U E (V (Y (BY 0 vA (kf hF) E ?_))))
 rintro _ _ ⟨b0,rfl,rfl⟩
 refine U E (V (AH (Y (J E (Bt hk E FX E (J E (V (AN ?_))))))))
 have h0:Ew T Eh (ls.take 0).flatten=(Eh,[]):=Rs zS
 refine SX.heap (H':=own b0 (.cells (QB (Ew T Eh (ls.take 0).flatten).1 (Ew T Eh (ls.take 0).flatten).2 ((ls.take 0).flatten.length:Nat)) 351)::H) ?_ (fun w hw=>by rw[h0];exact hw)
 refine SX.mono (BK (α:=Nat) (fun i=>i≤ls.length) (fun i=>[(3,vP b0 0),(7,v),(8,vI ls.length),(9,vI i)]) (fun i=>own b0 (.cells (QB (Ew T Eh (ls.take i).flatten).1 (Ew T Eh (ls.take i).flatten).2 ((ls.take i).flatten.length:Nat)) 351)::H) (fun i=>ls.length-i) (fun i D hp=>?_) 0 (Nat.zero_le _)) tL
 refine Y (Z E A9 (V (AH ?_)))
 refine A7 E (fun hc1=>?_) (fun hc1=>?_)
 have hlt:i<ls.length:=by simpa using hc1
 obtain⟨s,hs⟩:=RC hlt
 have hts:=(F6 hs).2
 have hfl:(ls.take (i+1)).flatten=(ls.take i).flatten++s:=by rw[hts];simp
 have hle:(ls.take (i+1)).flatten.length≤1099511627776:=by
  have:ls.flatten=(ls.take (i+1)).flatten++(ls.drop (i+1)).flatten:=by rw[←List.flatten_append,List.take_append_drop]
  rw[this]at hn
  simp only[List.length_append]at hn
  omega
 rw[hfl,List.length_append]at hle
 refine AI (AJ (AH (AN (Y ?_))))
 refine S3 i s hk E FX Il E E E hs fun be off hcell=>?_
 refine Bm E HJ E (fun w hw=>hcell _ w hw 0 _ E) ?_
 refine U E (V (Y (J E (J E (AQ 1 nK (XS T _ _ s _ b0 351 hT hTl (e9 T Eh _) zO) E (V (AM (J E (AT E E (AE E Xt (AG 0 EF E ?_)))))))))))
 refine J E (B7 E Cu E (Z E (Bh zO zO) (AT E E (AE E Xt (A3 0 E E E E PB E E E zT (AZ (Av (AJ (AM (Z E (Bh zO zO) (J E (AZ ?_))))))))))))
 refine A1 (i+1) hlt zO tL (fun w hw=>by
  rw[hfl,UX T Eh (ls.take i).flatten s,List.length_append]
  exact hw)
 have hi:i=ls.length:=by simp at hc1;omega
 have ht:ls.take i=ls:=by rw[hi];exact List.take_length
 rw[ht]
 refine A5 (BC (Bb (BB (AJ (Y (J E (AQ 1 vC (fb T _ _ ls.flatten.length b0 351 hT hTl (YH T Eh ls.flatten) hn) E (U E (V (AK ?_))))))))))
 exact An (Cx E E) (Ao (M:=[]) ⟨by unfold O3;rw[UX T Eh ls.flatten],E⟩ fun _ h=>h.skip [_])
theorem kg(T:List UInt32)(s:List UInt8)(hT:Vo K w0 3 T)(hTl:T.length=64)(hF:Vo K w0 1 Eh.list)(hn:s.length≤1099511627776):zC K w0 259 [vS s] [] H (fun r M=>r=vS (O3 T s)∧M=[]):=by
 refine WN.enter Tryz.func259 rfl rfl ?_
 refine Y (U E (V (Y (J E ?_))))
 refine CA [_] E FX Il Vt ⟨E,zT⟩ E E E zX E E zU fun b0=>?_
 refine BT (vs:=[_]) (Hin:=[_]) E E ⟨E,zT⟩ fx E E (CJ (B:=[own b0 (.cells #[vS s] 9)]) (Hin:=[]) fun K' w1 hk hB=>(WY T _ [s] (hT.keeps hk) hTl (hF.keeps hk) (By.lent (enc:=WC) (sz:=1) (xs:=[s]) zV (Nat.le_refl 1) E (hB _ (List.mem_cons_self ..))) (by simpa using hn) zS)) ?_
 rintro _ _ ⟨M',rfl,rfl,rfl⟩
 refine⟨trivial,?_⟩
 refine U E (V (AK ?_))
 exact An (Cx E E) (Ao (M:=[]) ⟨by simp,E⟩ fun _ h=>h.skip [_])
end

section
variable {K:Nat→Prop}{w0:World}{H:List AX}
structure Gk(K:Nat→Prop)(w0:World)(T:List UInt32):Prop where
 tab:Vo K w0 3 T
 len:T.length=64
 first:Vo K w0 1 Eh.list
theorem Gk.keeps{T:List UInt32}{K':Nat→Prop}{w1:World}(h:Gk K w0 T)(hk:YD K w0 K' w1):Gk K' w1 T:=⟨h.tab.keeps hk,h.len,h.first.keeps hk⟩
theorem WE(ls:List (List UInt8)):ls.flatMap WC=ls.map vS:=by
 induction ls with
 | nil=>rfl
 | cons s r ih=>rw[List.flatMap_cons,ih];rfl
theorem dE(k:List UInt8)(n i:Nat):(k++List.replicate n 0).getD i 0=k.getD i 0:=by
 simp only[List.getD_eq_getElem?_getD]
 rcases Nat.lt_or_ge i k.length with h | h
 rw[List.getElem?_append_left h]
 rw[List.getElem?_append_right h,List.getElem?_eq_none h]
 rw[List.getElem?_replicate]
 split<;>rfl
theorem i7(T:List UInt32)(v:Value)(ls:List (List UInt8))(hT:Gk K w0 T)(hn:ls.flatten.length≤1099511627776)(hl:ls.length≤1099511627776):zC K w0 230 [v] [D7 9 1 v ls.length (ls.flatMap WC)] H (fun r M=>r=vS (O3 T ls.flatten)∧M=[D7 9 1 v ls.length (ls.flatMap WC)]):=by
 intro w hw
 have h1:=CJ (P:=Tryz.prog) (K:=K) (w0:=w0) (f:=230) (args:=[v]) (H:=H) (B:=[D7 9 1 v ls.length (ls.flatMap WC)]) (Hin:=[]) (post:=fun r M=>r=vS (O3 T ls.flatten)∧M=[]) (fun K' w1 hk hB=>WY T v ls (hT.keeps hk).tab hT.len (hT.keeps hk).first (ik zV (hB _ (List.mem_cons_self ..))) hn hl) w hw
 refine h1.mono ?_
 rintro e w' ⟨r,M,rfl,⟨M',rfl,hr,rfl⟩,hw'⟩
 exact⟨r,_,rfl,⟨hr,rfl⟩,hw'⟩
theorem i6(T:List UInt32)(b:Nat)(ls:List (List UInt8))(hT:Gk K w0 T)(hn:ls.flatten.length≤1099511627776)(hl:ls.length≤1099511627776):zC K w0 230 [.slice (some ⟨b,0,none⟩) ls.length ls.length] [own b (.cells (Dx vS ls) 9)] H (fun r M=>r=vS (O3 T ls.flatten)∧M=[own b (.cells (Dx vS ls) 9)]):=by
 intro w hw
 have h1:=CJ (P:=Tryz.prog) (K:=K) (w0:=w0) (f:=230) (args:=[.slice (some ⟨b,0,none⟩) ls.length ls.length]) (H:=H) (B:=[own b (.cells (Dx vS ls) 9)]) (Hin:=[]) (post:=fun r M=>r=vS (O3 T ls.flatten)∧M=[]) (fun K' w1 hk hB=>WY T _ ls (hT.keeps hk).tab hT.len (hT.keeps hk).first (By.lent (enc:=WC) (sz:=1) zV (Nat.le_refl _) (by rw[WE,Y6];exact List.take_of_length_le zS) (hB _ (List.mem_cons_self ..))) hn hl) w hw
 refine h1.mono ?_
 rintro e w' ⟨r,M,rfl,⟨M',rfl,hr,rfl⟩,hw'⟩
 exact⟨r,_,rfl,⟨hr,rfl⟩,hw'⟩
theorem Y8(T:List UInt32)(key:List UInt8)(c:UInt8)(hT:Gk K w0 T)(hn:key.length≤549755813888):zC K w0 231 [vS key,FE c] [] H (fun r M=>r=vS (HH T key c)∧M=[]):=by
 refine WN.enter Tryz.func231 rfl rfl ?_
 refine Y (U E (V ?_))
 refine aL (α:=Unit) (fun _=>True) (fun _=>[(0,vS (GS T key)),(1,FE c)]) (fun _=>H) ?_ (fun x hx=>?_)
 refine Y (J E (B7 E Cu E (Z E Cj (V ?_))))
 refine A7 E (fun hc1=>?_) (fun hc1=>?_)
 refine AM (J rfl (AQ 0 vD (kg T key hT.tab hT.len hT.first zO) rfl (U rfl (AZ ?_))))
 have hk:GS T key=O3 T key:=by unfold GS;rw[if_pos (by simp at hc1;omega)]
 exact XF () zT (by rw[hk];exact⟨E,E,zT⟩)
 refine AI ?_
 have hk:GS T key=key:=by unfold GS;rw[if_neg (by simp at hc1;omega)]
 exact XF () zT (by rw[hk];exact⟨E,E,zT⟩)
 
 have hkl:=Ya T key
 refine Y (J E (J E (B7 E Cu E (Z E (EV zO zO) ?_))))
 refine BT (vs:=[_,_]) (Hin:=[]) E E ⟨E,E,zT⟩ Um (by rw[show(64-(((GS T key).length:Nat):Int))=((64-(GS T key).length:Nat):Int) by omega];rfl) E (PP (64-(GS T key).length) zO) ?_
 rintro _ _ ⟨rfl,rfl⟩
 refine⟨trivial,?_⟩
 refine Z E (Hb zQ) (U E (V (Y ?_)))
 refine Au E cq zU fun b0=>?_
 refine V (AH (Y (J E (V (AN (KR 5 1 (SX.pick [1,0] 2 ?_)))))))
 refine SX.mono (BK (α:=Nat×Value×Value) (fun x=>x.1≤64∧Qw b0 x.2.1) (fun x=>[(0,vS (GS T key++List.replicate (64-(GS T key).length) 0)),(1,FE c),(5,vP b0 0),(18,vI x.1)]) (fun x=>own b0 (.cells #[x.2.1,x.2.2] 161)::D7 5 1 x.2.2 x.1 (((HH T key c).take x.1).map fun b=>FE b)::H) (fun x=>64-x.1) (fun x D hp=>?_) (0,.pointer none,zN) ⟨by decide,.inl E⟩) tL
 obtain⟨i,p,v⟩:=x
 obtain⟨hp,hadr⟩:=hp
 simp only at hp hadr
 refine Y (Z E A9 (V (AH ?_)))
 refine A7 E (fun hc2=>?_) (fun hc2=>?_)
 have hi:i<64:=by simp at hc2;omega
 refine AI (AJ (AH (AN (Y (J E (U E (V (AM (J E (J E (MO i E Cu E E zO zQ (J E (Z E VU (BY 2 Z2 (Qc 161 b0 p v i _ _ hadr TY zO) E ?_))))))))))))))
 rintro _ _ ⟨rfl,v',rfl⟩
 refine AZ (Av (AJ (AM (Z E (Bh zO zO) (J E (AZ ?_))))))
 refine A1 (i+1,vP b0 0,v') ⟨by simp only;omega,.inr E⟩ (by simp only;omega) tL (fun w hw=>by
  have e1:(HH T key c).take (i+1)=(HH T key c).take i++[(GS T key++List.replicate (64-(GS T key).length) 0).getD i 0 ^^^ c]:=by
   rw[List.take_add_one,dE]
   simp[HH,hi]
  simp only
  rw[e1,List.map_append]
  exact hw)
 have hi:i=64:=by simp at hc2;omega
 subst hi
 have ht:(HH T key c).take 64=HH T key c:=List.take_of_length_le (by rw[NQ];omega)
 rw[ht]
 refine A5 (BC (Bb (BB (AJ (Y (AQ 2 Rx (LD 161 b0 p v 64 (HH T key c) zO) E (U E (V (AK ?_)))))))))
 exact An (Cx E E) (Ao (M:=[]) ⟨E,E⟩ fun _ h=>h.skip [_,_])
theorem aX(T:List UInt32)(key:List UInt8)(ls:List (List UInt8))(bs:Nat)(hT:Gk K w0 T)(hn:key.length≤549755813888)(hls:ls.flatten.length≤549755813888)(hl:ls.length≤549755813888):zC K w0 199 [vS key,.slice (some ⟨bs,0,none⟩) ls.length ls.length] [own bs (.cells (Dx vS ls) 9)] H (fun r M=>r=vS (T6 T key ls.flatten)∧M=[]):=by
 refine WN.enter Tryz.func199 rfl rfl ?_
 refine Y (U E (V (Y (J E (AQ 0 nF (Y8 T key 54 hT hn) E ?_)))))
 refine CA [_] E FX Il Vt ⟨E,zT⟩ E E E zX E E zU fun b0=>?_
 refine J E ?_
 refine SL.heap (H':=D7 9 1 (.slice (some ⟨b0,0,none⟩) 1 1) 1 [vS (HH T key 54)]::own bs (.cells (Dx vS ls) 9)::H) ?_ (fun w hw=>en hw E (Nat.le_refl 1) zD)
 refine W7 0 rfl (m:=ls.length) (news:=ls.map vS) FX Il tQ Vt rfl zD rfl rfl rfl zS (Ap 1 rfl) (by intro u hu;obtain⟨x,_,rfl⟩:=List.mem_map.1 hu;rfl) zO zO zU fun v'=>?_
 have e1:D7 9 1 v' (1+ls.length) ([vS (HH T key 54)]++ls.map vS)=D7 9 1 v' (HH T key 54::ls).length ((HH T key 54::ls).flatMap WC):=by
  rw[WE,List.length_cons,Nat.add_comm];rfl
 rw[e1]
 refine AQ 1 fx (i7 T v' (HH T key 54::ls) hT (by simp only[List.flatten_cons,List.length_append,NQ];omega) (by simp only[List.length_cons];omega)) E (U E (V (Y (J E (AQ 0 nF (Y8 T key 92 hT hn) E (J E ?_))))))
 refine CA [_,_] E FX Il Vt ⟨E,E,zT⟩ E E E zX E E zU fun b1=>?_
 refine AQ 1 fx (i6 T b1 [HH T key 92,O3 T (HH T key 54::ls).flatten] hT (by simp[NQ,Kp]) zS) E (U E (V (AK ?_)))
 exact An (Cx E E) (Ao (M:=[]) ⟨by simp[T6],E⟩ fun _ h=>h.skip [_,_,_])
theorem Zn(T:List UInt32)(key label:List UInt8)(bk bl:Nat)(hT:Gk K w0 T)(hn:key.length≤549755813888)(hl:label.length≤274877906944):qC Tryz.prog K w0 273 [vP bk 0,vP bl 0] [own bl (.cells #[vS label] 9),own bk (.cells #[vS key] 9)] WC (Xc T key label):=by
 intro lp J9 X T1 hy G h0
 refine WN.enter Tryz.func273 rfl rfl ?_
 refine Y (U E (V (Y (U E (V (AN ?_))))))
 refine SX.mono (BK (α:=Nat×List AX) (fun x=>x.1≤255∧J9 ((Xc T key label).take x.1) x.2) (fun x=>[(0,vY lp),(1,vP bk 0),(2,vP bl 0),(4,vS (Sj T key label x.1)),(5,vI (x.1+1:Nat))]) (fun x=>own bl (.cells #[vS label] 9)::own bk (.cells #[vS key] 9)::(x.2++T1)) (fun x=>255-x.1) (fun x D hp=>?_) (0,G) ⟨by simp,h0⟩) tL
 obtain⟨i,G⟩:=x
 obtain⟨hi,hJ⟩:=hp
 simp only at hi hJ
 refine AH (Y (J E (Z E Jo (V ?_))))
 refine A7 E (fun hc1=>?_) (fun hc1=>?_)
 have hlt:i<255:=by simp at hc1;omega
 have hg:=dd T key label i hlt
 have hel:=gF T key label i
 refine AI (AJ (AH (AN (Y (AG 1 HJ E (J E (AG 0 HJ E (J E (BO E E (Sy Im Dl) ?_)))))))))
 refine CA [_] E Cm LS ML ⟨E,zT⟩ E E E zX E E zU fun b0=>?_
 refine VW [_] E Cm Dl Cu E E (Ap 0 E) ?_
 refine CA [_,_,_] E FX Il Vt ⟨E,E,E,zT⟩ E E E zX E E zU fun b1=>?_
 refine AQ 1 m0 (aX T key [Sj T key label i,label,[KJ ((i+1:Nat):Int)]] _ hT hn zQ zS) E (U E (V (Y (J E (J E ?_)))))
 have e1:T6 T key [Sj T key label i,label,[KJ ((i+1:Nat):Int)]].flatten=Sj T key label (i+1):=by simp[Sj]
 rw[e1]
 refine I8 (M2:=[_,_,_]) (G:=G) (T:=T1) (vs:=[_]) (ok:=fun G1=>J9 ((Xc T key label).take (i+1)) G1) (no:=X) E E ⟨E,zT⟩ E ?_ (fun bb G1 hG1=>⟨zT,?_⟩)
 intro M
 have:=hy _ _ _ (F6 hg).1 G hJ M
 rw[←(F6 hg).2]at this
 exact this
 refine CF E E (V ?_)
 refine A7 E (fun hc2=>?_) (fun hc2=>?_)
 obtain rfl:bb=false:=by simpa using hc2
 refine AK (BI (Aa (EX (BI ?_))))
 exact An (Ed E) (Ao (M:=G1) (.inr hG1) fun _ h=>h.skip [_,_,_])
 obtain rfl:bb=true:=by simpa using hc2
 refine AI (Av (AJ (AM (J E (Z E (Bh zO zO) (U E (AZ ?_)))))))
 exact A1 (i+1,G1) ⟨hlt,hG1⟩ (by simp only;omega) tL (fun w hw=>hw.skip [_])
 refine A5 (BC (Bb (BB ?_)))
 have hle:i=255:=by simp at hc1;omega
 exact Da (Ed E) (Ao (M:=G) (.inl (by rw[List.take_of_length_le (by rw[Xd];omega)]at hJ;exact hJ)) fun _ h=>h.skip [_,_])
theorem Zc(key label:List UInt8):zC K w0 253 [vS key,vS label] [] H (fun r M=>∃bk bl,r=.func (.func 273) #[] #[vP bk 0,vP bl 0]∧M=[own bl (.cells #[vS label] 9),own bk (.cells #[vS key] 9)]):=by
 refine WN.enter Tryz.func253 rfl rfl ?_
 refine Y ?_
 refine Bg E E zU fun b0=>?_
 refine Bg E E zU fun b1=>?_
 refine U E (V (Y ?_))
 refine HK (fv:=#[]) (cv:=#[_,_]) E E E ?_
 refine U E (V (AK ?_))
 exact An (Cx E E) (Ao (M:=[_,_]) ⟨b0,b1,E,E⟩ fun _ h=>h)
theorem Vy(T:List UInt32)(key label:List UInt8)(hT:Gk K w0 T)(hn:key.length≤549755813888)(hl:label.length≤274877906944):zC K w0 226 [vS key,vS label,vI 32] [] H (fun r M=>r=.tuple #[vS (Hq T key label),vI 0]∧M=[]):=by
 refine WN.enter Tryz.func226 rfl rfl ?_
 refine Y ?_
 refine Bg E E zU fun b0=>?_
 refine U E (U E (V (LA (AH (Y (AG 0 EF E (Z E A9 (J E ?_))))))))
 refine Dw (c:=decide ((8160:Int)<32)) 12 3 15 E (fun hb k=>?_) (fun hb k=>?_) ?_
 refine AC E (AC E (Ag E E E ?_))
 exact k.mono tL
 refine AG 0 EF E (Z E Cj (Ag E E E ?_))
 exact k.mono tL
 refine V ?_
 refine A7 E (fun hc1=>absurd hc1 zD) (fun hc1=>?_)
 refine AI (AJ (Y ?_))
 refine Au E cq zU fun b1=>?_
 refine V (AH (K9 (AJ (AH (Y (J E (J E (BY 0 u7 (Zc key label) E ?_))))))))
 rintro _ _ ⟨bk,bl,rfl,rfl⟩
 refine V (KR 5 1 (SX.pick [1,2,3,0,4] 5 (AN ?_)))
 refine Va (enc:=WC) (Xc T key label) (fun pre G=>pre.length≤1∧∃p v,Qw b1 p∧G=own b1 (.cells #[p,v] 161)::D7 5 1 v pre.flatten.length (pre.flatten.map fun b=>FE b)::own b0 (.cells #[vI 32] 3)::H) (fun c G=>c=.exit 0∧∃p v,Qw b1 p∧G=own b1 (.cells #[p,v] 161)::D7 5 1 v 32 ((Hq T key label).map fun b=>FE b)::own b0 (.cells #[vI 32] 3)::H) E vK E zV (Zn T key label bk bl hT hn hl) E ⟨Nat.zero_le _,_,_,.inl E,E⟩ (fun pre x suf G hxs hJ r lp Rest=>?_) (fun G D hJ=>?_) (fun c G D hX=>?_)
 obtain⟨hpl,p,v,hadr,rfl⟩:=hJ
 have hx0:(Xc T key label)[0]? = some (Hq T key label):=by rw[dd T key label 0 zD,oZ]
 have he:(Hq T key label).length=32:=JW ..
 refine AM (U E (AZ (Jm (AN (AH (AH (Ax Cz [2] (Pl.of [(true,1),(false,0),(true,2)]) zK (AG 0 EF E (BS 2 f6 (fK 161 b1 p v _ _) E ⟨⟨2,E⟩,zT⟩ (Z E M8 (V ?_)))))))))))
 refine A7 E (fun hc2=>?_) (fun hc2=>?_)
 have hpre:pre=[Hq T key label]:=by
  match pre,hpl with
  | [],_=>simp at hc2
  | [y],_=>rw[hxs]at hx0;simpa using hx0
 subst hpre
 refine A5 (BC (Hc ?_))
 refine NB (G:=own b1 (.cells #[p,v] 161)::D7 5 1 v 32 ((Hq T key label).map fun b=>FE b)::own b0 (.cells #[vI 32] 3)::H) ⟨E,p,v,hadr,E⟩ (fun w hw=>?_)
 have e1:[Hq T key label].flatten=Hq T key label:=by simp
 rw[e1,he]at hw
 exact hw
 have hpre:pre=[]:=by
  match pre,hpl with
  | [],_=>rfl
  | [y],_=>
   rw[hxs]at hx0
   obtain rfl:y=Hq T key label:=by simpa using hx0
   simp[he]at hc2
 subst hpre
 obtain rfl:x=Hq T key label:=by rw[hxs]at hx0;simpa using hx0
 refine AI (AJ (AM (J E (BY 2 Un (IN 161 b1 p v _ _ (Hq T key label) hadr TY (by simp[he])) E ?_))))
 rintro _ _ ⟨rfl,v',rfl⟩
 refine AZ (Av ?_)
 refine IK (G:=own b1 (.cells #[vP b1 0,v'] 161)::D7 5 1 v' ([]++[Hq T key label]).flatten.length (([]++[Hq T key label]).flatten.map fun b=>FE b)::own b0 (.cells #[vI 32] 3)::H) ⟨by simp,_,v',.inr E,E⟩ (fun w hw=>?_)
 have e1:([]++[Hq T key label]).flatten=Hq T key label:=by simp
 rw[e1]
 simpa using hw
 exact absurd hJ.1 (by rw[Xd];omega)
 obtain⟨rfl,p,v,hadr,rfl⟩:=hX
 have he:(Hq T key label).length=32:=JW ..
 refine A5 (BB (AJ (AH (Ax Cz [2] (Pl.of [(true,1),(false,0),(true,2),(true,3),(true,4)]) zK (AG 0 EF E (BS 2 Rx (LD 161 b1 p v 32 (Hq T key label) zO) E ⟨⟨2,E⟩,zT⟩ (UT 32 E Cu E E zO zO (U E (U E (V (AK (ES ?_))))))))))))
 exact An (C9 E E E) (Ao (M:=[]) ⟨by rw[List.take_of_length_le zO],E⟩ fun _ h=>h.skip [_,_,_])
end

section
variable {K:Nat→Prop}{w0:World}{H:List AX}
theorem fP(T:List UInt32)(k:BD)(hT:Gk K w0 T):zC K w0 195 [.agg (AU k).toArray] [] H (fun r M=>r=(if Dt [k]=true then .tuple #[vS (RS T k Pg),vS (RS T k QD),vI 0]else .tuple #[vS [],vS [],vI 40])∧M=[]):=by
 refine WN.enter Tryz.func195 rfl rfl ?_
 refine Y ?_
 refine Bg E E zU fun b0=>?_
 refine U E (U E (U E (V (AH (Y (Aw (AU k) E Mw E E (Ap 0 E) ?_))))))
 refine CA [_] E FW Fq KL ⟨E,zT⟩ E E E (by simp[Value.cells,AU]) E E zU fun b1=>?_
 refine BT (vs:=[_]) (Hin:=[_]) E E ⟨E,zT⟩ ax E E (CJ (B:=[own b1 (.cells (AU k).toArray 55)]) (Hin:=[]) fun K' w1 hk hB=>Ru _ [k] (By.lent (enc:=AU) (sz:=2) (xs:=[k]) zV (Nat.le_refl 1) E (hB _ (List.mem_cons_self ..))) E zS) ?_
 rintro _ _ ⟨M',rfl,rfl,rfl⟩
 refine⟨trivial,?_⟩
 refine CF E E (V ?_)
 refine A7 E (fun hc1=>?_) (fun hc1=>?_)
 have hr:Dt [k]=false:=by simpa using hc1
 refine Y (U E (U E (U E (V (AK (Aa ?_))))))
 exact An (VA E E E E) (Ao (M:=[]) ⟨by rw[hr];rfl,E⟩ fun _ h=>h.skip [_,_])
 have hr:Dt [k]=true:=by simpa using hc1
 have hkl:=ZR hr
 refine AI (AJ (Y (AE E Gy (AG 1 A4 E (BO E E (DJ CD Dl) (AE E Gy (AG 1 A4 E ?_)))))))
 refine Z E (GT.shr32 (n:=8)) ?_
 refine BO E E (DJ CD Dl) (AE E Gy (AG 1 A4 E ?_))
 refine Z E (GT.shr32 (n:=16)) ?_
 refine BO E E (DJ CD Dl) (AE E Gy (AG 1 A4 E ?_))
 refine Z E (GT.shr32 (n:=24)) ?_
 refine BO E E (DJ CD Dl) ?_
 refine CA [_,_,_,_] E Cm LS ML ⟨E,E,E,E,zT⟩ E E E zX E E zU fun b2=>?_
 refine VW [_,_,_,_] E Cm Dl Cu E E (Ap 0 E) (U E (V (Y (AE E TR (AG 2 HJ E (J E ?_))))))
 refine Z E (Hb (s:=Pg) (t:=HG k.gen) (by simp[HG,Pg])) ?_
 refine AQ 0 nE (Vy T k.secret (Pg++HG k.gen) hT zO (by simp[HG,Pg])) E (J E (Ah E E E (Ah E E E (U E (U E (V (Y (AE E TR (AG 2 HJ E ?_)))))))))
 refine J E ?_
 refine Z E (Hb (s:=QD) (t:=HG k.gen) (by simp[HG,QD])) ?_
 refine AQ 0 nE (Vy T k.secret (QD++HG k.gen) hT zO (by simp[HG,QD])) E (J E (Ah E E E (Ah E E E (U E (U E (V (Y (J E (J E ?_)))))))))
 refine U E (U E (U E (V (AK ?_))))
 exact An (VA E E E E) (Ao (M:=[]) ⟨by rw[hr];rfl,E⟩ fun _ h=>h.skip [_,_,_])
theorem kb(s:List UInt8)(hn:s.length≤9223372036854775807):zC K w0 194 [vS s] [] H (fun r M=>r=(if 198<s.length then .tuple #[vS [],vI 50]else .tuple #[vS (MD s),vI 0])∧M=[]):=by
 refine WN.enter Tryz.func194 rfl rfl ?_
 refine Y (U E (U E (V (AH (Y (J E (B7 E Cu E (Z E Cj (V ?_)))))))))
 refine A7 E (fun hc1=>?_) (fun hc1=>?_)
 have h0:198<s.length:=by simp at hc1;omega
 refine Y (U E (U E (V (AK (Aa ?_)))))
 exact An (C9 E E E) (Ao (M:=[]) ⟨by rw[if_pos h0],E⟩ fun _ h=>h.skip [])
 focus
  have h0:¬198<s.length:=by simp at hc1;omega
  have e1:(198-(s.length:Int))=((198-s.length:Nat):Int):=zO
  refine AI (AJ (AH (Ax Cz [] (Bs [(true,0),(true,1),(true,2),(true,3),(true,4),(true,5),(true,6),(true,9),(true,11),(true,12),(true,13)] (.alt 7 (.alt 8 (Pl.of [(true,10),(false,14),(true,15),(true,16),(true,17)]) (.cons (false,14) (Pl.of [(false,8),(true,10),(true,15),(true,16),(true,17)]))) (.cons (false,14) (Pl.of [(false,7),(false,8),(true,10),(true,15),(true,16),(true,17)])))) zK (J E (B7 E Cu E ?_)))))
  refine Z E (oF (n:=8) zO zO) ?_
  refine BO E E (Sy Im Dl) (J E (B7 E Cu E (BO E E (Sy Im Dl) (J E (J E (B7 E Cu E (Z E (EV zO zO) ?_)))))))
  rw[e1]
  refine OJ ?_ ?_
  refine CA [_,_] E Cm LS ML ⟨E,E,zT⟩ E E E zX E E zU fun b0=>?_
  refine OJ ?_ ?_
  refine VW [_,_] E Cm Dl Cu E E (Ap 0 E) (Z E (Hb zQ) (AQ 0 Um (PP (198-s.length) zO) E ?_))
  rotate_left
  refine AQ 0 Um (PP (198-s.length) zO) E (VW [_,_] E Cm Dl Cu E E (Ap 0 E) (Z E (Hb zQ) ?_))
  rotate_right
  rotate_left 2
  refine AQ 0 Um (PP (198-s.length) zO) E ?_
  refine CA [_,_] E Cm LS ML ⟨E,E,zT⟩ E E E zX E E zU fun b0=>?_
  refine VW [_,_] E Cm Dl Cu E E (Ap 0 E) (Z E (Hb zQ) ?_)
  all_goals
   refine Z E (Hb zQ) (U E (U E (V (AK ?_))))
   exact An (C9 E E E) (Ao (M:=[]) ⟨by rw[if_neg h0];rfl,E⟩ fun _ h=>h.skip [_])
end

section
variable {K:Nat→Prop}{w0:World}{H:List AX}
def wK(x:UInt32):List Value:=[AB x]
theorem iI{s:List UInt8}{j:Nat}(h:j<s.length / 4):(Ch s)[j]? = some (Lp s (4*j)):=by simp[Ch,h]
theorem iu(s:List UInt8)(hs:4≤s.length):zC K w0 284 [vS s] [] H (fun r M=>r=AB (Lp s 0)∧M=[]):=by
 refine WN.enter Tryz.func284 rfl rfl ?_
 refine Y (U E (V (AH (Ax Cz [] (Pl.of (G4 0 19)) zK (J E (MO 0 E Cu E E zO zO (BO E E (GP Dl CD) (J E (MO 1 E Cu E E zO zO (BO E E (GP Dl CD) ?_))))))))))
 refine Z E (GT.shl32 (n:=8)) ?_
 refine Z E Fy (J E (MO 2 E Cu E E zO zO (BO E E (GP Dl CD) ?_)))
 refine Z E (GT.shl32 (n:=16)) ?_
 refine Z E Fy (J E (MO 3 E Cu E E zO zO (BO E E (GP Dl CD) ?_)))
 refine Z E (GT.shl32 (n:=24)) ?_
 refine Z E Fy (U E (V (AK ?_)))
 exact An (Cx E E) (Ao (M:=[]) ⟨E,E⟩ fun _ h=>h.skip [])
theorem ge(ls:List (List UInt8))(bl bs:Nat)(hl:ls.length≤549755813888)(hls:∀s∈ls,s.length≤549755813888):qC Tryz.prog K w0 283 [vP bl 0] [own bl (.cells #[.slice (some ⟨bs,0,none⟩) ls.length ls.length] 98),own bs (.cells (Dx vS ls) 9)] wK (ls.flatMap Ch):=by
 intro lp J9 X T1 hy G h0
 refine WN.enter Tryz.func283 rfl rfl ?_
 refine Y (AG 0 Rq E (Py E FX E (J E (V (AN ?_)))))
 refine SX.mono (BK (α:=Nat×List AX) (fun x=>x.1≤ls.length∧J9 ((ls.take x.1).flatMap Ch) x.2) (fun x=>[(0,vY lp),(5,.slice (some ⟨bs,0,none⟩) ls.length ls.length),(6,vI ls.length),(7,vI x.1)]) (fun x=>own bl (.cells #[.slice (some ⟨bs,0,none⟩) ls.length ls.length] 98)::own bs (.cells (Dx vS ls) 9)::(x.2++T1)) (fun x=>ls.length-x.1) (fun x D hp=>?_) (0,G) ⟨Nat.zero_le _,h0⟩) tL
 obtain⟨i,G⟩:=x
 obtain⟨hi,hJ⟩:=hp
 simp only at hi hJ
 refine Y (Z E A9 (V (AH ?_)))
 refine A7 E (fun hc1=>?_) (fun hc1=>?_)
 have hlt:i<ls.length:=by simpa using hc1
 obtain⟨s,hs⟩:=RC hlt
 have hsl:=hls s (List.mem_of_getElem? hs)
 have hsplit:=F6 hs
 refine AI (AJ (AH (AN (Y ?_))))
 refine sy (n:=i) E FX Il E E zO zO ?_
 refine Bm E HJ E (Dd 1 E (Hd hs)) (U E (V (AN ?_)))
 refine SX.mono (BK (α:=Nat×List AX) (fun x=>x.1≤s.length / 4∧J9 ((ls.take i).flatMap Ch++(Ch s).take x.1) x.2) (fun x=>[(0,vY lp),(4,vS (s.drop (4*x.1))),(5,.slice (some ⟨bs,0,none⟩) ls.length ls.length),(6,vI ls.length),(7,vI i)]) (fun x=>own bl (.cells #[.slice (some ⟨bs,0,none⟩) ls.length ls.length] 98)::own bs (.cells (Dx vS ls) 9)::(x.2++T1)) (fun x=>s.length / 4-x.1) (fun x D hp=>?_) (0,G) ⟨Nat.zero_le _,by simpa using hJ⟩) tL
 obtain⟨j,G⟩:=x
 obtain⟨hj,hJ2⟩:=hp
 simp only at hj hJ2
 refine AH (Y (J E (B7 E Cu E (Z E M8 (V ?_)))))
 refine A7 E (fun hc2=>?_) (fun hc2=>?_)
 have hjlt:j<s.length / 4:=by simp at hc2;omega
 have hw:=iI hjlt
 have hws:=F6 hw
 refine AI (AJ (AH (AN (Y (J E (J E (AQ 0 vT (iu (s.drop (4*j)) zQ) E ?_)))))))
 rw[iH,Nat.add_zero]
 refine I8 (M2:=[_,_]) (G:=G) (T:=T1) (vs:=[_]) (ok:=fun G1=>J9 ((ls.take i).flatMap Ch++(Ch s).take (j+1)) G1) (no:=X) E E ⟨E,zT⟩ E ?_ (fun bb G1 hG1=>⟨zT,?_⟩)
 intro M
 have e1:ls.flatMap Ch=((ls.take i).flatMap Ch++(Ch s).take j)++Lp s (4*j)::((Ch s).drop (j+1)++(ls.drop (i+1)).flatMap Ch):=by
  have h1:ls.flatMap Ch=(ls.take i).flatMap Ch++(Ch s++(ls.drop (i+1)).flatMap Ch):=by
   rw[←List.flatMap_cons,←List.flatMap_append,←hsplit.1]
  have h2:Ch s++(ls.drop (i+1)).flatMap Ch=(Ch s).take j++Lp s (4*j)::((Ch s).drop (j+1)++(ls.drop (i+1)).flatMap Ch):=by
   rw[←List.cons_append,←List.append_assoc,←hws.1]
  rw[h1,h2,List.append_assoc]
 have:=hy _ _ _ e1 G hJ2 M
 rw[List.append_assoc,←hws.2]at this
 exact this
 refine CF E E (V ?_)
 refine A7 E (fun hc3=>?_) (fun hc3=>?_)
 obtain rfl:bb=false:=by simpa using hc3
 refine AK (BI (Aa (EX (BI (BI (Aa (EX (BI ?_))))))))
 exact An (Ed E) (Ao (M:=G1) (.inr hG1) fun _ h=>h.skip [_,_])
 obtain rfl:bb=true:=by simpa using hc3
 refine AI (Av (AJ (AM (J E (Qu 4 E Cu E E zO zQ ?_)))))
 rw[List.drop_drop,show 4*j+4=4*(j+1) by omega]
 refine U E (AZ ?_)
 exact A1 (j+1,G1) ⟨hjlt,hG1⟩ (by simp only;omega) tL
 have hje:j=s.length / 4:=by simp at hc2;omega
 refine A5 (BC (Bb (BB (Av (AJ (AM (Z E (Bh zO zO) (J E (AZ ?_)))))))))
 refine A1 (i+1,G) ⟨hlt,?_⟩ (by simp only;omega) tL
 simp only
 rw[hsplit.2,List.flatMap_append,List.flatMap_cons,List.flatMap_nil,List.append_nil]
 have ht:(Ch s).take j=Ch s:=List.take_of_length_le (by rw[FD];omega)
 rw[ht]at hJ2
 exact hJ2
 have hle:i=ls.length:=by simp at hc1;omega
 refine A5 (BC (Bb (BB ?_)))
 exact Da (Ed E) (Ao (M:=G) (.inl (by rw[hle,List.take_length]at hJ;exact hJ)) fun _ h=>h.skip [_,_])
theorem fN(ls:List (List UInt8))(bs:Nat):zC K w0 274 [.slice (some ⟨bs,0,none⟩) ls.length ls.length] [own bs (.cells (Dx vS ls) 9)] H (fun r M=>∃bl,r=.func (.func 283) #[] #[vP bl 0]∧M=[own bl (.cells #[.slice (some ⟨bs,0,none⟩) ls.length ls.length] 98),own bs (.cells (Dx vS ls) 9)]):=by
 refine WN.enter Tryz.func274 rfl rfl ?_
 refine Y ?_
 refine Bg E E zU fun b0=>?_
 refine U E (V (Y ?_))
 refine HK (fv:=#[]) (cv:=#[_]) E E E ?_
 refine U E (V (AK ?_))
 exact An (Cx E E) (Ao (M:=[_,_]) ⟨b0,E,E⟩ fun _ h=>h)
theorem fM(key nonce:List UInt8)(counter:UInt32)(hk:key.length=32)(hn:nonce.length=12):zC K w0 254 [vS key,AB counter,vS nonce] [] H (fun r M=>r=.agg (Dx AB (JA key counter nonce))∧M=[]):=by
 refine WN.enter Tryz.func254 rfl rfl ?_
 refine Y ?_
 refine Au E iJ zU fun b0=>?_
 refine V (LA (Y ?_))
 refine Au E iJ zU fun b1=>?_
 refine V (Y ?_)
 refine Au E pY zU fun b2=>?_
 refine A3 0 E E E E PB E E E zT (V (Y (J E (BO E E (DJ CD Dl) (J E ?_)))))
 refine Z E (GT.shr32 (n:=8)) ?_
 refine BO E E (DJ CD Dl) (J E ?_)
 refine Z E (GT.shr32 (n:=16)) ?_
 refine BO E E (DJ CD Dl) (J E ?_)
 refine Z E (GT.shr32 (n:=24)) ?_
 refine BO E E (DJ CD Dl) ?_
 refine CA [_,_,_,_] E Cm LS ML ⟨E,E,E,E,zT⟩ E E E zX E E zU fun b3=>?_
 refine VW [_,_,_,_] E Cm Dl Cu E E (Ap 0 E) (U E (V (AH (K9 (AJ (AH (Y (J E (J E (J E ?_))))))))))
 refine CA [_,_,_,_] E FX Il Vt ⟨E,E,E,E,zT⟩ E E E zX E E zU fun b4=>?_
 refine BY 1 vL (fN [Lv,key,HG counter,nonce] b4) E ?_
 rintro _ _ ⟨bl,rfl,rfl⟩
 refine V ?_
 have hbl:=OL (counter:=counter) hk hn
 have hfm:[Lv,key,HG counter,nonce].flatMap Ch=JA key counter nonce:=by simp[JA,List.flatMap_cons]
 refine AN ?_
 refine Va (enc:=wK) ([Lv,key,HG counter,nonce].flatMap Ch) (fun pre G=>G=own b3 (.cells (Dx FE (HG counter)) 5)::own b2 (.cells #[vI pre.length] 3)::own b1 (.cells (Dx AB (pre++List.replicate (16-pre.length) 0)) 342)::own b0 (.cells (Dx AB (List.replicate 16 0)) 342)::H) (fun c G=>False) E vR E zV (ge [Lv,key,HG counter,nonce] bl b4 zS (by simp[hk,hn,Lv,HG])) E E (fun pre x suf G hxs hJ r lp Rest=>?_) (fun G D hJ=>?_) (fun c G D hX=>hX.elim)
 obtain rfl:=hJ
 have hlt:pre.length<16:=by
  rw[hfm]at hxs
  rw[hxs]at hbl
  simp at hbl
  omega
 refine AM (U E (AZ (Jm (AN (AH (Y (AG 1 EF E (Z E Ba (V ?_)))))))))
 refine A7 E (fun hc1=>absurd hc1 zQ) (fun hc1=>?_)
 refine AI (AJ (Y (AG 1 EF E (J E ?_))))
 refine DK (n:=pre.length) E SS Bx E E zO zO ?_
 refine XE (f:=AB) 2 E E E E Bx E E zQ zT ?_
 rw[Vf pre 0 x 16 pre.length rfl hlt]
 refine V (AM (AG 1 EF E (Z E (Bh zO zO) (A3 1 E E E E PB E E E zT (AZ (Av ?_))))))
 refine IK (G:=_::_::_::_::H) ?_ (fun _ h=>h)
 have e1:(pre++[x]).length=pre.length+1:=by simp
 rw[e1]
 rfl
 obtain rfl:=hJ
 rw[hfm,hbl]
 have e1:JA key counter nonce++List.replicate (16-16) 0=JA key counter nonce:=by simp
 rw[e1]
 refine Av (AJ (Y ?_))
 refine Aw ((JA key counter nonce).map AB) E kT (by simp[hbl]) E (Ct 2 E (fun j u hu=>by simpa[Dx]using hu)) ?_
 refine S4 3 E E E E sR (by simp[hbl]) (by simp[Dx]) (Sa zV (JA key counter nonce)) zT ?_
 refine V (AK (ES ?_))
 exact An (GM E (B2 3 ((JA key counter nonce).map AB) kT (by simp[hbl]) E E (by simp only[List.drop_zero];exact List.take_of_length_le (by simp[hbl])))) (Ao (M:=[]) ⟨E,E⟩ fun _ h=>h.skip [_,_,_,_])
end

section
variable {K:Nat→Prop}{w0:World}{H:List AX}
theorem ol:∀n:Fin 32,(B9 (n.1:Int) &&& 31).toNat=n.1∧(32-(B9 (n.1:Int) &&& 31)).toNat=32-n.1:=by decide
theorem eP(x:UInt32)(n:Nat)(h1:n<32):X4 x (n:Int)=rl x n:=by
 obtain⟨e1,e2⟩:=ol ⟨n,h1⟩
 simp only at e1 e2
 unfold X4 rl
 rw[e1,e2]
theorem pQ:∀i,hQ i<32 | 0=>(by decide:16<32) | _+1=>(by decide:8<32)
theorem pR:∀i,hU i<32 | 0=>(by decide:12<32) | _+1=>(by decide:7<32)
theorem Ua(q:Q4):zC K w0 275 [AB q.a,AB q.b,AB q.c,AB q.d] [] H (fun r M=>r=.agg (Dx AB q.quarter.list)∧M=[]):=by
 refine WN.enter Tryz.func275 rfl rfl ?_
 refine Y ?_
 refine Au E VQ zU fun b0=>?_
 refine V (AH (Y (W8 [vI 16,vI 12] E iA PB mK E ⟨E,E,zT⟩ E E zX (W8 [vI 8,vI 7] E iA PB mK E ⟨E,E,zT⟩ E E zX ?_))))
 refine B5 (r:=#[vI 16,vI 12,vI 8,vI 7]) [_,_] E yD xo yo ⟨E,E,zT⟩ E ?_
 refine J E (V (AN ?_))
 refine SX.mono (BK (α:=Nat) (fun i=>i≤2) (fun i=>[(0,AB (q.steps i).a),(1,AB (q.steps i).b),(2,AB (q.steps i).c),(3,AB (q.steps i).d),(8,vP b0 0),(13,.agg #[vI 16,vI 12,vI 8,vI 7]),(14,vI i)]) (fun i=>own b0 (.cells (Dx AB [0,0,0,0]) 365)::H) (fun i=>2-i) (fun i D hp=>?_) 0 zO) tL
 refine Y (Z E A9 (V (AH ?_)))
 refine A7 E (fun hc1=>?_) (fun hc1=>?_)
 have hi:i<2:=by simp at hc1;omega
 refine AI (AJ (AH (AN (Y ?_))))
 refine UR (i:=i) (c':=#[vI (hQ i:Int),vI (hU i:Int)]) rfl yU wl rfl rfl zO zO (by rcases(by omega:i=0∨i=1)with rfl | rfl<;>rfl) ?_
 refine Au E mK zU fun b1=>?_
 refine A3 0 E E E E yR E E E zT (V (Y (J E (J E (Z E B3 (U E (V (Y (J E (J E (Z E Cw ?_)))))))))))
 refine DK (n:=0) E iA PB E E zO zO ?_
 refine AG 0 EF E (AQ 0 f0 (Iw _ (hQ i:Int)) E ?_)
 rw[eP _ _ (pQ i)]
 refine U E (V (Y (J E (J E (Z E B3 (U E (V (AM (J E (J E (Z E Cw ?_)))))))))))
 refine DK (n:=1) E iA PB E E zO zO ?_
 refine AG 0 EF E (AQ 0 f0 (Iw _ (hU i:Int)) E ?_)
 rw[eP _ _ (pR i)]
 refine U E (AZ (Av (AJ (AM (Z E (Bh zO zO) (J E (AZ ?_)))))))
 exact A1 (i+1) zO zO tL (fun w hw=>hw.skip [_])
 have hi:i=2:=by simp at hc1;omega
 subst hi
 refine A5 (BC (Bb (BB (AJ (Y (J E (J E (J E (J E ?_)))))))))
 refine W8 (q.quarter.list.map AB) rfl Yx Bx VQ rfl ⟨rfl,rfl,rfl,rfl,trivial⟩ rfl rfl (fun v hv=>by obtain⟨x,_,rfl⟩:=List.mem_map.1 hv;rfl) ?_
 refine S4 0 E E E E hE E E (Sa zV q.quarter.list) zT ?_
 refine V (AK ?_)
 exact An (GM E (B2 0 (q.quarter.list.map AB) kU E E E E)) (Ao (M:=[]) ⟨E,E⟩ fun _ h=>h.skip [_])
theorem XM(ws:List UInt32)(step:Nat)(b:Nat)(e:TypeId)(hw:ws.length=16)(hs:step≤1):zC K w0 255 [vP b 0,vI step] [own b (.cells (Dx AB ws) e)] H (fun r M=>r=.tuple #[]∧M=[own b (.cells (Dx AB (X5 ws step)) e)]):=by
 refine WN.enter Tryz.func255 rfl rfl ?_
 refine Y (J E (V (AN ?_)))
 refine SX.mono (BK (α:=Nat) (fun i=>i≤4) (fun i=>[(0,vP b 0),(1,vI step),(10,vI i)]) (fun i=>own b (.cells (Dx AB (ER ws step i)) e)::H) (fun i=>4-i) (fun i D hp=>?_) 0 zO) tL
 have hwl:(ER ws step i).length=16:=(MH ws step i).trans hw
 refine Y (Z E A9 (V (AH ?_)))
 refine A7 E (fun hc1=>?_) (fun hc1=>?_)
 have hi:i<4:=by simp at hc1;omega
 have h16:∀k,k<4→Ji step i k<16:=fun k hk=>by unfold Ji;omega
 refine AI (AJ (AH (AN (Y (J E (U E (V (Y ?_))))))))
 refine Au E yn zU fun b0=>?_
 refine V (AH (Y (J E (V (AN ?_)))))
 refine SX.mono (BK (α:=Nat) (fun k=>k≤4) (fun k=>[(0,vP b 0),(1,vI step),(4,vI i),(5,vP b0 0),(10,vI i),(13,vI k)]) (fun k=>own b0 (.cells (Dx vI (((List.range k).map fun j=>((Ji step i j:Nat):Int))++List.replicate (4-k) 0)) 364)::own b (.cells (Dx AB (ER ws step i)) e)::H) (fun k=>4-k) (fun k D hp=>?_) 0 zO) tL
 refine Y (Z E A9 (V (AH ?_)))
 refine A7 E (fun hc2=>?_) (fun hc2=>?_)
 have hk:k<4:=by simp at hc2;omega
 have hks:k*step≤3:=Nat.le_trans (Nat.mul_le_mul_left k hs) zO
 have hks2:((k:Int)*step)=((k*step:Nat):Int):=by simp
 refine AI (AJ (AH (AN (Y (J E (U E (V (AM (J E (J E (Z E (PH zO zO) (J E (J E (J E ?_))))))))))))))
 refine Z E (PH zO zO) (Z E (Bh zO zO) (Z E (YC zO zO) (Z E (Bh zO zO) ?_)))
 refine DK (n:=k) E Yw PB E E zO zO ?_
 refine XE (f:=vI) 0 E E E E PB E E zQ zT ?_
 rw[Vf _ _ _ 4 k zS hk]
 refine AZ (Av (AJ (AM (Z E (Bh zO zO) (J E (AZ ?_))))))
 refine A1 (k+1) zO zO tL (fun w hw=>?_)
 have e1:(4*(k:Int)+((i:Int)+(k:Int)*step)%4)=((Ji step i k:Nat):Int):=by simp[Ji]
 simp only[List.range_succ,List.map_append,List.map_cons,List.map_nil]
 rw[e1]at hw
 exact hw
 have hk:k=4:=by simp at hc2;omega
 subst hk
 have hat:((List.range 4).map fun j=>((Ji step i j:Nat):Int))++List.replicate (4-4) 0=[((Ji step i 0:Nat):Int),((Ji step i 1:Nat):Int),((Ji step i 2:Nat):Int),((Ji step i 3:Nat):Int)]:=by rfl
 rw[hat]
 refine A5 (BC (Bb (BB (AJ ?_))))
 generalize hq:(⟨(ER ws step i).getD (Ji step i 0) 0,(ER ws step i).getD (Ji step i 1) 0,(ER ws step i).getD (Ji step i 2) 0,(ER ws step i).getD (Ji step i 3) 0⟩:Q4)=q
 refine aL (α:=Nat) (fun _=>True) (fun x=>[(0,vP b 0),(1,vI step),(5,vP b0 0),(7,vP x 0),(10,vI i)]) (fun x=>own x (.cells (Dx AB q.quarter.list) 365)::own b0 (.cells (Dx vI [((Ji step i 0:Nat):Int),((Ji step i 1:Nat):Int),((Ji step i 2:Nat):Int),((Ji step i 3:Nat):Int)]) 364)::own b (.cells (Dx AB (ER ws step i)) e)::H) ?_ (fun x hx=>?_)
 focus
  refine Ax Cz [0,1] (Bs (G4 0 24) (.alt 24 (Pl.of [(false,25),(false,26)]) (.cons (false,25) (Pl.of [(false,24),(false,26)])))) zK (J E ?_)
  refine DK (n:=0) E Yw PB E E zO zO ?_
  refine AG 0 EF E (AT E E ?_)
  refine DK (n:=Ji step i 0) E SS Bx E E E (h16 _ zO) ?_
  refine Bm E A4 E (Dd 1 E (Hd (LL 0 (by rw[hwl];exact h16 _ zO)))) (J E ?_)
  refine DK (n:=1) E Yw PB E E zO zO ?_
  refine AG 0 EF E (AT E E ?_)
  refine DK (n:=Ji step i 1) E SS Bx E E E (h16 _ zO) ?_
  refine Bm E A4 E (Dd 1 E (Hd (LL 0 (by rw[hwl];exact h16 _ zO)))) (J E ?_)
  refine DK (n:=2) E Yw PB E E zO zO ?_
  refine AG 0 EF E (AT E E ?_)
  refine DK (n:=Ji step i 2) E SS Bx E E E (h16 _ zO) ?_
  refine Bm E A4 E (Dd 1 E (Hd (LL 0 (by rw[hwl];exact h16 _ zO)))) (J E ?_)
  refine DK (n:=3) E Yw PB E E zO zO ?_
  refine AG 0 EF E (AT E E ?_)
  refine DK (n:=Ji step i 3) E SS Bx E E E (h16 _ zO) ?_
  refine Bm E A4 E (Dd 1 E (Hd (LL 0 (by rw[hwl];exact h16 _ zO)))) ?_
  refine OJ ?_ ?_
  refine BT (vs:=[_,_,_,_]) (Hin:=[]) E E ⟨E,E,E,E,zT⟩ nN (by rw[←hq];rfl) E (Ua q) ?_
  rintro _ _ ⟨rfl,rfl⟩
  refine⟨⟨⟨0,rfl⟩,⟨1,rfl⟩,trivial⟩,?_⟩
  refine Au E VQ (fun _=>⟨⟨1,E⟩,⟨2,E⟩,zT⟩) fun b1=>?_
  rotate_left
  refine Au E VQ (fun _=>⟨⟨1,E⟩,⟨2,E⟩,zT⟩) fun b1=>?_
  refine BT (vs:=[_,_,_,_]) (Hin:=[]) E E ⟨E,E,E,E,zT⟩ nN (by rw[←hq];rfl) E (Ua q) ?_
  rintro _ _ ⟨rfl,rfl⟩
  refine⟨⟨⟨1,rfl⟩,⟨2,rfl⟩,trivial⟩,?_⟩
  all_goals
   refine S4 0 E E E E hE E E (Sa zV q.quarter.list) ⟨⟨1,E⟩,⟨2,E⟩,zT⟩ ?_
   refine AZ ?_
   exact XF b1 zT tL
 
 refine Y (Aw (q.quarter.list.map AB) E kU E E (Ap 0 E) (J E (V (AN ?_))))
 refine SX.mono (BK (α:=Nat) (fun k=>k≤4) (fun k=>[(0,vP b 0),(1,vI step),(5,vP b0 0),(10,vI i),(53,.agg (Dx AB q.quarter.list)),(54,vI k)]) (fun k=>own x (.cells (Dx AB q.quarter.list) 365)::own b0 (.cells (Dx vI [((Ji step i 0:Nat):Int),((Ji step i 1:Nat):Int),((Ji step i 2:Nat):Int),((Ji step i 3:Nat):Int)]) 364)::own b (.cells (Dx AB (Wz (ER ws step i) (Ji step i) q.quarter.list k)) e)::H) (fun k=>4-k) (fun k D hp=>?_) 0 zO) tL
 refine Y (Z E A9 (V (AH ?_)))
 refine A7 E (fun hc3=>?_) (fun hc3=>?_)
 have hk:k<4:=by simp at hc3;omega
 have hix:[((Ji step i 0:Nat):Int),((Ji step i 1:Nat):Int),((Ji step i 2:Nat):Int),((Ji step i 3:Nat):Int)][k]? = some ((Ji step i k:Nat):Int):=by
  rcases(by omega:k=0∨k=1∨k=2∨k=3)with rfl | rfl | rfl | rfl<;>rfl
 have hsl:(Wz (ER ws step i) (Ji step i) q.quarter.list k).length=16:=(SP ..).trans hwl
 refine AI (AJ (AH (AN (Y (J E ?_)))))
 refine RY (i:=k) E Yx A4 E E zO zO (Hd (LL 0 hk)) ?_
 refine U E (U E (V (Ax Cz [1] (Bs (G4 0 7) (.last 7 .nil)) zK (J E (J E ?_)))))
 refine DK (n:=k) E Yw PB E E zO zO ?_
 refine Bm E EF E (Dd 0 E (Hd hix)) (J E (AT E E ?_))
 refine DK (n:=Ji step i k) E SS Bx E E E (h16 _ hk) ?_
 refine BU ?_
 refine XE (f:=AB) 2 E E E E Bx E E (by rw[hsl];exact h16 _ hk) zT ?_
 refine AZ (Av (AJ (AM (Z E (Bh zO zO) (J E (AZ ?_))))))
 exact A1 (k+1) zO zO tL
 have hk:k=4:=by simp at hc3;omega
 subst hk
 refine A5 (BC (Bb (BB (Av (AJ (AM (Z E (Bh zO zO) (J E (AZ ?_)))))))))
 refine A1 (i+1) zO zO tL (fun w hw=>?_)
 have e1:Wz (ER ws step i) (Ji step i) q.quarter.list 4=ER ws step (i+1):=by rw[ER,pE,hq]
 rw[e1]at hw
 exact hw.skip [_,_]
 have hi:i=4:=by simp at hc1;omega
 subst hi
 refine A5 (BC (Bb (BB ?_)))
 exact Da (Ed E) (Ao (M:=[_]) ⟨E,E⟩ fun _ h=>h)
end

section
variable {K:Nat→Prop}{w0:World}{H:List AX}
theorem pb(W B:List UInt32)(i:Nat)(h1:i<W.length)(h2:i<B.length):(List.zipWith (·+·) W B).take (i+1)=(List.zipWith (·+·) W B).take i++[W.getD i 0+B.getD i 0]:=by
 rw[List.take_add_one,List.getElem?_eq_getElem zQ]
 simp[List.getD_eq_getElem?_getD,h1,h2]
theorem ji(j:Nat):UInt32.ofNat j+1=UInt32.ofNat (j+1):=by
 apply UInt32.toNat_inj.1
 simp
theorem mG(key nonce s:List UInt8)(n:Nat)(h:n<s.length):(KK key nonce s).take (n+1)=(KK key nonce s).take n++[s.getD n 0 ^^^ RR key nonce n]:=by
 rw[List.take_add_one,List.getElem?_eq_getElem (by rw[G5];exact h)]
 simp[KK]
theorem fL(key nonce:List UInt8)(counter:UInt32)(hk:key.length=32)(hn:nonce.length=12):zC K w0 227 [vS key,AB counter,vS nonce] [] H (fun r M=>r=.tuple #[vS (LV key counter nonce),vI 0]∧M=[]):=by
 refine WN.enter Tryz.func227 rfl rfl ?_
 refine Y (U E (U E (V (AH (Y (J E (B7 E Cu E (Z E BQ (J E ?_)))))))))
 refine Dw (c:=(!decide ((nonce.length:Int)=12))) 16 4 20 E (fun hb k=>?_) (fun hb k=>?_) ?_
 refine AC E (AC E (AC E (Ag E E E ?_)))
 exact k.mono tL
 refine J E (B7 E Cu E (Z E BQ (Ag E E E ?_)))
 exact k.mono tL
 refine V ?_
 refine A7 E (fun hc1=>absurd hc1 (by simp[hk,hn])) (fun hc1=>?_)
 refine AI (AJ (Y (J E (J E (J E (AQ 0 u9 (fM key nonce counter hk hn) E ?_))))))
 have hB:=OL (counter:=counter) hk hn
 generalize hBe:JA key counter nonce=B at hB
 refine Au E iJ zU fun b0=>?_
 refine S4 (c':=Dx AB B) 0 E E E E sR (by rw[YL];exact hB) E (Sa zV B) zT ?_
 refine V (Y ?_)
 refine Au E iJ zU fun b1=>?_
 refine V (AH (Ax Cz [] (Bs [(true,0),(true,1)] (.last 2 .nil)) zK (mQ E SS Bx E zD (mQ E SS Bx E zD (BU ?_)))))
 refine su (f:=AB) (xs:=List.replicate 16 0) (ys:=B) 0 1 E CT Bx E E E E E hB zV zT ?_
 refine V (AH (Y (J E (V (AN ?_)))))
 refine SX.mono (BK (α:=Nat) (fun i=>i≤10) (fun i=>[(8,vP b0 0),(9,vP b1 0),(28,vI i)]) (fun i=>own b1 (.cells (Dx AB (VL B i)) 342)::own b0 (.cells (Dx AB B) 342)::H) (fun i=>10-i) (fun i D hp=>?_) 0 zO) tL
 have htl:=(O5 B i).trans hB
 refine Y (Z E A9 (V (AH ?_)))
 refine A7 E (fun hc2=>?_) (fun hc2=>?_)
 have hi:i<10:=by simp at hc2;omega
 refine AI (AJ (AH (AN (Y (AQ 1 nJ (XM (VL B i) 0 b1 342 htl zO) E (V (AM (AQ 1 nJ (XM (X5 (VL B i) 0) 1 b1 342 ((MH ..).trans htl) zO) E (AZ (Av (AJ (AM (Z E (Bh zO zO) (J E (AZ ?_)))))))))))))))
 exact A1 (i+1) zO zO tL
 have hi:i=10:=by simp at hc2;omega
 subst hi
 generalize hW:VL B 10=W at htl
 refine A5 (BC (Bb (BB (AJ (Y (U E (V (AH (Y (Aw (W.map AB) E kT (by simp[htl]) E (Ap 0 E) (J E (V (AN (KR 5 1 ?_))))))))))))))
 refine SX.mono (BK (α:=Nat×Value) (fun x=>x.1≤16) (fun x=>[(8,vP b0 0),(10,x.2),(33,.agg (Dx AB W)),(34,vI x.1)]) (fun x=>D7 5 1 x.2 (4*x.1) ((((List.zipWith (·+·) W B).take x.1).flatMap HG).map fun b=>FE b)::own b1 (.cells (Dx AB W) 342)::own b0 (.cells (Dx AB B) 342)::H) (fun x=>16-x.1) (fun x D hp=>?_) (0,zN) zD) tL
 obtain⟨i,v⟩:=x
 simp only at hp
 refine Y (Z E A9 (V (AH ?_)))
 refine A7 E (fun hc3=>?_) (fun hc3=>?_)
 have hi:i<16:=by simp at hc3;omega
 refine AI (AJ (AH (AN (Y (J E ?_)))))
 refine RY (i:=i) E SS A4 E E zO zO (Hd (LL 0 zO)) ?_
 refine U E (U E (V (Y (J E (J E ?_)))))
 refine DK (n:=i) E SS Bx E E zO zO ?_
 refine Bm E A4 E (Dd 2 E (Hd (LL 0 zO))) (Z E B3 (U E (V (AM (J E (J E (BO E E (DJ CD Dl) (J E ?_))))))))
 refine Z E (GT.shr32 (n:=8)) ?_
 refine BO E E (DJ CD Dl) (J E ?_)
 refine Z E (GT.shr32 (n:=16)) ?_
 refine BO E E (DJ CD Dl) (J E ?_)
 refine Z E (GT.shr32 (n:=24)) ?_
 refine BO E E (DJ CD Dl) ?_
 refine CA [_,_,_,_] E Cm LS ML ⟨E,E,E,E,zT⟩ E E E zX E E zU fun b2=>?_
 refine W7 1 rfl (m:=4) (news:=(HG (W.getD i 0+B.getD i 0)).map fun b=>FE b) Cm LS YM ML rfl zD rfl rfl rfl rfl (Ap 0 rfl) (by intro u hu;obtain⟨x,_,rfl⟩:=List.mem_map.1 hu;rfl) zO zO zU fun v'=>?_
 refine U E (AZ (Av (AJ (AM (Z E (Bh zO zO) (J E (AZ ?_)))))))
 refine A1 (i+1,v') (by simp only;omega) (by simp only;omega) tL (fun w hw=>?_)
 simp only
 rw[pb W B i zO zO,List.flatMap_append,List.map_append]
 simp only[List.flatMap_cons,List.flatMap_nil,List.append_nil]
 exact hw.skip [_]
 have hi:i=16:=by simp at hc3;omega
 subst hi
 have ht:(List.zipWith (·+·) W B).take 16=List.zipWith (·+·) W B:=List.take_of_length_le zQ
 rw[ht]
 refine A5 (BC (Bb (BB (AJ (Y (J E ?_))))))
 refine aH (s:=(List.zipWith (·+·) W B).flatMap HG) 0 E Cm Dl Cu E E ?_
 refine U E (U E (V (AK ?_)))
 exact An (C9 E E E) (Ao (M:=[]) ⟨by rw[LV,nm,hBe,hW],E⟩ fun _ h=>h.skip [_,_,_])
theorem kZ(key nonce s:List UInt8)(hk:key.length=32)(hn:nonce.length=12)(hs:s.length≤1048576):zC K w0 196 [vS key,vS nonce,vS s] [] H (fun r M=>r=.tuple #[vS (KK key nonce s),vI 0]∧M=[]):=by
 refine WN.enter Tryz.func196 rfl rfl ?_
 refine Y (U E (U E (V (AH (Y (J E (B7 E Cu E (Z E BQ (J E ?_)))))))))
 refine Dw (c:=(!decide ((nonce.length:Int)=12))) 17 4 21 E (fun hb k=>?_) (fun hb k=>?_) ?_
 refine AC E (AC E (AC E (Ag E E E ?_)))
 exact k.mono tL
 refine J E (B7 E Cu E (Z E BQ (Ag E E E ?_)))
 exact k.mono tL
 refine J E ?_
 refine Dw (c:=decide ((1048576:Int)<s.length)) 22 4 26 E (fun hb k=>?_) (fun hb k=>?_) ?_
 refine AC E (AC E (AC E (Ag E E E ?_)))
 exact k.mono tL
 refine J E (B7 E Cu E (Z E Cj (Ag E E E ?_)))
 exact k.mono tL
 refine V ?_
 refine A7 E (fun hc1=>absurd hc1 (by simp[hk,hn];omega)) (fun hc1=>?_)
 refine AI (AJ (Y ?_))
 refine Au E cq zU fun b0=>?_
 refine V (AH (Y (U E (V (AN (KR 5 1 (SX.pick [1,0] 2 ?_)))))))
 have hxl:=G5 key nonce s
 refine SX.mono (BK (α:=Nat×Value×Value) (fun x=>64*x.1<s.length+64∧Qw b0 x.2.1) (fun x=>[(0,vS key),(1,vS nonce),(2,vS (s.drop (64*x.1))),(8,vP b0 0),(9,AB (UInt32.ofNat x.1))]) (fun x=>own b0 (.cells #[x.2.1,x.2.2] 161)::D7 5 1 x.2.2 (min (64*x.1) s.length) (((KK key nonce s).take (min (64*x.1) s.length)).map fun b=>FE b)::H) (fun x=>s.length+64-64*x.1) (fun x D hp=>?_) (0,.pointer none,zN) ⟨by simp,.inl E⟩) ⟨E,E,E,E,E,zT⟩
 obtain⟨j,p,v⟩:=x
 obtain⟨hj,hadr⟩:=hp
 simp only at hj hadr
 refine AH (Y (J E ?_))
 refine Z E (W2 (t:=[])) ?_
 refine V ?_
 refine A7 E (fun hc2=>?_) (fun hc2=>?_)
 have hjl:64*j<s.length:=by simp at hc2;omega
 have hmin:min (64*j) s.length=64*j:=zO
 rw[hmin]
 refine AI (AJ (AH (AN (Y (J E (J E (J E (AQ 0 ut (fL key nonce (UInt32.ofNat j) hk hn) E ?_))))))))
 have hbl:=UZ (counter:=UInt32.ofNat j) hk hn
 refine J E (Ah E E E (Ah E E E (U E (U E (V (Y (J E (J E (B7 E Cu E ?_)))))))))
 refine J E (B7 E Cu E (XC E E E (UT (min (s.length-64*j) 64) E Cu E E zQ zQ (U E (V (AH (Y (J E (B7 E Cu E (J E (V (AN ?_))))))))))))
 have hpl:((s.drop (64*j)).take (min (s.length-64*j) 64)).length=min (s.length-64*j) 64:=by simp
 refine SX.mono (BK (α:=Nat×Value×Value) (fun x=>x.1≤min (s.length-64*j) 64∧Qw b0 x.2.1) (fun x=>[(0,vS key),(1,vS nonce),(2,vS (s.drop (64*j))),(8,vP b0 0),(9,AB (UInt32.ofNat j)),(10,vS (LV key (UInt32.ofNat j) nonce)),(12,vS ((s.drop (64*j)).take (min (s.length-64*j) 64))),(46,vI ((s.drop (64*j)).take (min (s.length-64*j) 64)).length),(47,vI x.1)]) (fun x=>own b0 (.cells #[x.2.1,x.2.2] 161)::D7 5 1 x.2.2 (64*j+x.1) (((KK key nonce s).take (64*j+x.1)).map fun b=>FE b)::H) (fun x=>64-x.1) (fun x D hp=>?_) (0,p,v) ⟨Nat.zero_le _,hadr⟩) tL
 obtain⟨i,p,v⟩:=x
 obtain⟨hi,hadr⟩:=hp
 simp only at hi hadr
 refine Y (Z E A9 (V (AH ?_)))
 refine A7 E (fun hc3=>?_) (fun hc3=>?_)
 have hil:i<min (s.length-64*j) 64:=by simp only[hpl]at hc3;simpa using hc3
 refine AI (AJ (AH (AN (Y (J E (U E (V (Ax Cz [] (Bs (G4 0 7) (.last 7 .nil)) zK (J E (J E (MO i E Cu E E zO zO (J E (J E ?_)))))))))))))
 refine MO i E Cu E E zO zO (Z E VU (BU ?_))
 have e1:((s.drop (64*j)).take (min (s.length-64*j) 64)).getD i 0=s.getD (64*j+i) 0:=by
  simp[List.getD_eq_getElem?_getD,hil,show 64*j+i<s.length by omega]
 have e2:(LV key (UInt32.ofNat j) nonce).getD i 0=RR key nonce (64*j+i):=by
  rw[RR,show(64*j+i) / 64=j by omega,show(64*j+i)%64=i by omega]
 rw[e1,e2]
 refine BY 2 Z2 (Qc 161 b0 p v (64*j+i) _ _ hadr TY zO) E ?_
 rintro _ _ ⟨rfl,v',rfl⟩
 refine AZ (Av (AJ (AM (Z E (Bh zO zO) (J E (AZ ?_))))))
 refine A1 (i+1,vP b0 0,v') ⟨by simp only;omega,.inr E⟩ (by simp only;omega) tL (fun w hw=>?_)
 simp only
 rw[←Nat.add_assoc,mG key nonce s (64*j+i) zO,List.map_append]
 exact hw
 have hie:i=min (s.length-64*j) 64:=by simp only[hpl]at hc3;simp at hc3;omega
 refine A5 (BC (Bb (BB (AJ (AM (J E (J E (B7 E Cu E (Qu (min (s.length-64*j) 64) E Cu E E (by rw[hpl]) zQ ?_)))))))))
 rw[List.drop_drop]
 refine U E (AZ (Av (AJ (AM (J E ?_)))))
 refine Z E (B3 (b:=1)) ?_
 refine U E (AZ ?_)
 have e1:s.drop (64*j+min (s.length-64*j) 64)=s.drop (64*(j+1)):=by
  rcases Nat.lt_or_ge (s.length-64*j) 64 with h | h
  rw[List.drop_eq_nil_of_le zO,List.drop_eq_nil_of_le zO]
  rw[show 64*j+min (s.length-64*j) 64=64*(j+1) by omega]
 rw[e1,ji]
 refine A1 (j+1,p,v) ⟨by simp only;omega,hadr⟩ (by simp only;omega) tL (fun w hw=>?_)
 simp only
 rw[show min (64*(j+1)) s.length=64*j+i by omega]
 exact hw
 have hjl:s.length≤64*j:=by simp at hc2;omega
 have hmin:min (64*j) s.length=s.length:=zO
 have ht:(KK key nonce s).take s.length=KK key nonce s:=List.take_of_length_le zO
 rw[hmin,ht]
 refine A5 (BC (Bb (BB (AJ (Y (AQ 2 Rx (LD 161 b0 p v s.length (KK key nonce s) zO) E (U E (U E (V (AK ?_))))))))))
 exact An (C9 E E E) (Ao (M:=[]) ⟨E,E⟩ fun _ h=>h.skip [_,_])
end

section
variable {K:Nat→Prop}{w0:World}{H:List AX}
theorem Rc(b:Nat)(p v:Value)(e:TypeId)(n:UInt64)(w m:Nat)(xs:List UInt8)(hp:Qw b p)(hl:dz e)(hw:w≤8)(hm:m≤1048576):zC K w0 229 [vP b 0,Be n,vI w] [own b (.cells #[p,v] e),D7 5 1 v m (xs.map fun b=>FE b)] H (fun r M=>r=.tuple #[]∧∃p' v',Qw b p'∧M=[own b (.cells #[p',v'] e),D7 5 1 v' (m+w) ((xs++B0 n w).map fun b=>FE b)]):=by
 refine WN.enter Tryz.func229 rfl rfl ?_
 refine Y (J E (J E (V (AN ?_))))
 refine SX.mono (BK (α:=Nat×Value×Value) (fun x=>x.1≤w∧Qw b x.2.1) (fun x=>[(0,vP b 0),(1,Be n),(7,vI w),(8,vI x.1)]) (fun x=>own b (.cells #[x.2.1,x.2.2] e)::D7 5 1 x.2.2 (m+x.1) ((xs++B0 n x.1).map fun b=>FE b)::H) (fun x=>w-x.1) (fun x D hp=>?_) (0,p,v) ⟨Nat.zero_le _,hp⟩ |>.heap (fun w h=>by simpa[B0]using h)) tL
 obtain⟨i,p,v⟩:=x
 obtain⟨hi,hadr⟩:=hp
 simp only at hi hadr
 refine Y (Z E A9 (V (AH ?_)))
 refine A7 E (fun hc1=>?_) (fun hc1=>?_)
 have hlt:i<w:=by simpa using hc1
 refine AI (AJ (AH (AN (Y (J E (U E (V (Ax Cz [] (Bs (G4 0 8) (.last 8 .nil)) zK (J E (AT E E (AE E bX (J E (J E ?_)))))))))))))
 refine Z E (PH zO zO) ?_
 refine Z E (GT.shr64 (n:=(8*i))) ?_
 refine BO E E (GO DH Dl) (BU (BY 2 Z2 (Qc e b p v (m+i) _ _ hadr hl zO) E ?_))
 rintro _ _ ⟨rfl,v',rfl⟩
 refine AZ (Av (AJ (AM (Z E (Bh zO zO) (J E (AZ ?_))))))
 refine A1 (i+1,vP b 0,v') ⟨hlt,.inr E⟩ (by simp only;omega) tL (fun w hw=>?_)
 simp only
 rw[Rl,←List.append_assoc,List.map_append (l₁:=xs++B0 n i),←Nat.add_assoc]
 exact hw
 have hie:i=w:=by simp at hc1;omega
 subst hie
 refine A5 (BC (Bb (BB ?_)))
 exact Da (Ed E) (Ao (M:=[_,_]) ⟨E,p,v,hadr,E⟩ fun _ h=>h)
theorem WA(h:DX):zC K w0 197 [.agg (Lu h).toArray] [] H (fun r M=>r=vS (Mr h)∧M=[]):=by
 refine WN.enter Tryz.func197 rfl rfl ?_
 refine Y ?_
 refine Bg E E zU fun b0=>?_
 refine U E (V (Y ?_))
 refine Au E sj zU fun b1=>?_
 refine V (Y ?_)
 refine HK (fv:=#[_]) (cv:=#[]) E E E ?_
 refine U E (V (KR 5 1 (SX.pick [1,0,2] 3 (Y (J E (AE E bT (AG 2 A4 E (BO E E (Ck CD DH) (BY 2 Z3 (Rc b1 (.pointer none) (.slice none 0 0) 323 h.boot.toUInt64 4 0 [] (.inl E) gQ zO zO) E ?_)))))))))
 rintro _ _ ⟨rfl,p1,v1,ha1,rfl⟩
 refine V (Y (J E (AE E bU (AG 2 Gl E (BY 2 Z3 (Rc b1 p1 v1 323 h.seq 8 4 _ ha1 gQ zO zO) E ?_)))))
 rintro _ _ ⟨rfl,p2,v2,ha2,rfl⟩
 refine V (Y (AE E bX (AQ 2 Rx (LD 323 b1 p2 v2 12 (Mr h) zO) E (U E (V (AK ?_))))))
 exact An (Cx E E) (Ao (M:=[]) ⟨E,E⟩ fun _ h=>h.skip [_,_,_])
theorem i4(h:DX):zC K w0 198 [.agg (Lu h).toArray] [] H (fun r M=>r=vS (RJ h)∧M=[]):=by
 refine WN.enter Tryz.func198 rfl rfl ?_
 refine Y ?_
 refine Bg E E zU fun b0=>?_
 refine U E (V (Y ?_))
 refine Au E sj zU fun b1=>?_
 refine V (Y ?_)
 refine HK (fv:=#[_]) (cv:=#[]) E E E ?_
 refine U E (V (KR 5 1 (SX.pick [1,0,2] 3 (Y (J E (AE E jX (AG 2 A4 E (BO E E (Ck CD DH) (BY 2 Z3 (Rc b1 (.pointer none) (.slice none 0 0) 323 h.page.toUInt64 4 0 [] (.inl E) gQ zO zO) E ?_)))))))))
 rintro _ _ ⟨rfl,p1,v1,ha1,rfl⟩
 refine V (Y (J E (AE E Xs (AG 2 A4 E (BO E E (Ck CD DH) (BY 2 Z3 (Rc b1 p1 v1 323 h.gen.toUInt64 4 4 _ ha1 gQ zO zO) E ?_))))))
 rintro _ _ ⟨rfl,p2,v2,ha2,rfl⟩
 refine V (AH (Ax Cz [2] (Pl.of [(true,0),(true,2),(false,1),(false,3),(true,4),(true,5),(true,6)]) zK (AE E bX (Aw (Lu h) E WT E E (Ap 0 E) (BS 2 Rx (LD 323 b1 p2 v2 8 (B0 h.page.toUInt64 4++B0 h.gen.toUInt64 4) zO) E ⟨⟨2,E⟩,zT⟩ (BS 0 mz (WA h) E ⟨⟨2,E⟩,zT⟩ (Z E (Hb (by simp[BP,MC])) (Z E (Hb (by simp[BP,MC])) (U E (V (AK ?_)))))))))))
 exact An (Cx E E) (Ao (M:=[]) ⟨E,E⟩ fun _ h=>h.skip [_,_,_])
end

section
variable {K:Nat→Prop}{w0:World}{H:List AX}
end

section
variable {K:Nat→Prop}{w0:World}{H:List AX}
theorem tS(s:List UInt8)(hn:s.length≤9223372036854775807):zC K w0 194 [vS s] [] H (fun r M=>r=.tuple #[vS (RF s).1,vI (RF s).2]∧M=[]):=
 (kb s hn).mono fun v M h=>⟨by rw[h.1];unfold RF;split<;>rfl,h.2⟩
theorem qX(T:List UInt32)(k:BD)(hT:Gk K w0 T)(hr:Dt [k]=true):zC K w0 195 [.agg (AU k).toArray] [] H (fun r M=>r=.tuple #[vS (RS T k Pg),vS (RS T k QD),vI 0]∧M=[]):=
 (fP T k hT).mono fun v M h=>⟨by rw[h.1,if_pos hr],h.2⟩
theorem fZ(T:List UInt32)(v:Value)(l:List BD)(h:DX)(s:List UInt8)(hT:Gk K w0 T)(hk:By K w0 AU 2 v l)(hv:v.cells=#[v])(hl:l.length≤1099511627776)(hn:s.length≤9223372036854775807):zC K w0 169 [v,.agg (Lu h).toArray,vS s] [] H (fun r M=>r=.tuple #[vS (Ik T l h s).1,vI (Ik T l h s).2]∧M=[]):=by
 refine WN.enter Tryz.func169 rfl rfl ?_
 refine Y ?_
 refine Bg E E zU fun b0=>?_
 refine U E (U E (V (Y (J E (AE E Xs (AG 0 A4 E (AQ 0 gA (XO v l h.gen hk hv hl) E ?_)))))))
 generalize hf:C6 l h.gen=f
 refine J E (Ah E E E (Ah E E E ?_))
 refine Au E KL zU fun b1=>?_
 refine A3 0 E E E E Fq E E E zT (U E (V (AH (Y (J E (Z E BQ (V ?_)))))))
 refine A7 E (fun hc1=>?_) (fun hc1=>?_)
 have he:f.2≠0:=by simpa using hc1
 have hs:Ik T l h s=([],f.2):=by unfold Ik;rw[hf,if_pos he]
 rw[hs]
 refine Y (J E (U E (U E (V (AK (Aa ?_))))))
 exact An (C9 E E E) (Ao (M:=[]) ⟨E,E⟩ fun _ h=>h.skip [_,_])
 have he:f.2=0:=by simpa using hc1
 have hok:=Xf (l:=l) (g:=h.gen) (by rw[hf];exact he)
 rw[hf]at hok
 refine AI (AJ (Y (J E (AQ 0 uX (tS s hn) E (J E (Ah E E E (Ah E E E (U E (U E (V (AH (Y (J E ?_)))))))))))))
 refine Z E BQ (V ?_)
 refine A7 E (fun hc2=>?_) (fun hc2=>?_)
 have h1:198<s.length:=by
  unfold RF at hc2
  split at hc2
  assumption
  simp at hc2
 have hs:Ik T l h s=([],50):=by unfold Ik;rw[hf,if_neg (by simp[he]),if_pos h1]
 have hp:RF s=([],50):=by unfold RF;rw[if_pos h1]
 rw[hs,hp]
 refine Y (J E (U E (U E (V (AK (Aa ?_))))))
 exact An (C9 E E E) (Ao (M:=[]) ⟨E,E⟩ fun _ h=>h.skip [_,_])
 have h1:¬198<s.length:=by
  intro h1
  unfold RF at hc2
  rw[if_pos h1]at hc2
  simp at hc2
 have hp:RF s=(MD s,0):=by unfold RF;rw[if_neg h1]
 have hpl:(MD s).length=200:=Gz zO
 have hbl:=IM T f.1 h hpl
 have hsl1:=Qk T f.1 Pg
 have hsl2:=Qk T f.1 QD
 have hs:Ik T l h s=(Jp T f.1 h s,0):=by unfold Ik;rw[hf,if_neg (by simp[he]),if_neg h1]
 rw[hs,hp]
 refine AI (AJ (Y (Aw (AU f.1) E Mw E E (Ap 0 E) (AQ 0 uY (qX T f.1 hT hok.2.2.2) E (J E (Ah E E E (Ah E E E (Ah E E E (U E (U E ?_))))))))))
 refine U E (V (Y (J E (Aw (Lu h) E WT E E (Ap 1 E) (AQ 0 mz (WA h) E (J E (AQ 0 uZ (kZ (RS T f.1 Pg) (Mr h) (MD s) hsl1 (MC h) zO) E (J E (Ah E E E ?_)))))))))
 refine Ah E E E (U E (U E (V (Y (Aw (Lu h) E WT E E (Ap 1 E) (AQ 0 ua (i4 h) E (J E (Z E (Hb (by rw[JX,G5];omega)) (U E (V (Y ?_)))))))))))
 refine J E (J E (J E ?_))
 refine CA [_] E FX Il Vt ⟨E,zT⟩ E E E zX E E zU fun b2=>?_
 refine AQ 1 m0 (aX T (RS T f.1 QD) [MP T f.1 h (MD s)] b2 hT zO zQ zS) E ?_
 refine Z E (Hb (by rw[JW];have:=hbl;simp only[MP]at this;omega)) ?_
 refine U E (U E (V (AK ?_)))
 exact An (C9 E E E) (Ao (M:=[]) ⟨by simp[Jp,MP],E⟩ fun _ h=>h.skip [_,_])
end

section
variable {K:Nat→Prop}{w0:World}{H:List AX}
end

section
open Go Go.ChangeShapes Go.WideShapes Go.ChangeAt Go.RowKit
def Rg:List UInt32:=[1116352408,1899447441,3049323471,3921009573,961987163,1508970993,2453635748,2870763221,3624381080,310598401,607225278,1426881987,1925078388,2162078206,2614888103,3248222580,3835390401,4022224774,264347078,604807628,770255983,1249150122,1555081692,1996064986,2554220882,2821834349,2952996808,3210313671,3336571891,3584528711,113926993,338241895,666307205,773529912,1294757372,1396182291,1695183700,1986661051,2177026350,2456956037,2730485921,2820302411,3259730800,3345764771,3516065817,3600352804,4094571909,275423344,430227734,506948616,659060556,883997877,958139571,1322822218,1537002063,1747873779,1955562222,2024104815,2227730452,2361852424,2428436474,2756734187,3204031479,3329325298]
def XX:List Int:=[1116352408,1899447441,3049323471,3921009573,961987163,1508970993,2453635748,2870763221,3624381080,310598401,607225278,1426881987,1925078388,2162078206,2614888103,3248222580,3835390401,4022224774,264347078,604807628,770255983,1249150122,1555081692,1996064986,2554220882,2821834349,2952996808,3210313671,3336571891,3584528711,113926993,338241895,666307205,773529912,1294757372,1396182291,1695183700,1986661051,2177026350,2456956037,2730485921,2820302411,3259730800,3345764771,3516065817,3600352804,4094571909,275423344,430227734,506948616,659060556,883997877,958139571,1322822218,1537002063,1747873779,1955562222,2024104815,2227730452,2361852424,2428436474,2756734187,3204031479,3329325298]
def gH:List Int:=[1779033703,3144134277,1013904242,2773480762,1359893119,2600822924,528734635,1541459225]
section
variable {P:Program}{W:World}
theorem ZF{x:String×DataW Unit}{r:List (String×DataW Unit)}(h:laidMet P (x::r) W):laidMet P r W:=by
 obtain⟨ps,⟨g,t,cs,fuel,p,q,_,_,_,_,hs,rfl⟩,hn,hc⟩:=h
 exact⟨q,hs,(List.nodup_append.1 hn).2.1,fun b off hb=>hc b off (List.mem_append_right _ hb)⟩
theorem hK{name:String}{g:Nat}{zs:List Int}{T:List UInt32}(hg:P.globalNamed name=some g)(h:Lib.TabIs P W name .u32 zs)(hl:T≠[])(hz:zs=T.map fun x=>(x.toNat:Int)):Vo (· < W.heap.size) W g T:=by
 have hc:∀i x,T[i]? = some x→W.cell? ⟨g,i,none⟩=some (AB x):=by
  intro i x hx
  obtain⟨hi,rfl⟩:=List.getElem?_eq_some_iff.1 hx
  have:=h.cell hg i (by rw[hz];simpa using hi)
  rw[this,hz]
  simp[AB,List.getD_eq_getElem?_getD,hi]
 refine⟨?_,hc⟩
 obtain⟨x,r,rfl⟩:=List.exists_cons_of_ne_nil hl
 have h0:=hc 0 x rfl
 rcases Nat.lt_or_ge g W.heap.size with h | h
 exact h
 have:W.heap[g]? = none:=by simp[h]
 simp[World.cell?,this]at h0
end
theorem zG:ownKnob Tryz.prog.godebug=none:=zK
theorem dr:laidOutB Tryz.prog=true:=zK
theorem nb:Tryz.prog.globalNamed "sphragis/sha.first" = some 1:=zK
theorem na:Tryz.prog.globalNamed "sphragis/sha.constants" = some 3:=zK
theorem rK:(Tryz.prog.globals[1]?).map (·.type)=some 349:=zK
theorem rJ:(Tryz.prog.globals[3]?).map (·.type)=some 376:=zK
theorem YR:Tryz.prog.cellsOf 36=1:=zK
theorem k0:Tryz.prog.cellsOf 349=8:=zK
theorem bB:Tryz.prog.cellsOf 376=64:=zK
theorem sK{W:World}(h:laidMetH Tryz.prog [("sphragis/sha.first", Rows.laid_sphragis_sha_first),("sphragis/sha.constants", Rows.laid_sphragis_sha_constants)] W):Gk (· < W.heap.size) W Rg:=by
 have h0:laidMet Tryz.prog [("sphragis/sha.first", Lib.tabData .u32 gH),("sphragis/sha.constants", Lib.tabData .u32 XX)] W:=h
 refine⟨?_,rfl,?_⟩
 exact hK na (Lib.tabIs_of_head (rest:=[]) na rJ Tryz.underlying376 Tryz.underlying36 YR bB (ZF h0)) (by simp[Rg]) zK
 exact hK nb (Lib.tabIs_of_head nb rK Tryz.underlying349 Tryz.underlying36 YR k0 h0) (by simp[Eh,O8.list]) zK
def rQ(zs:List Int):Obj→Obj
 | .cells _ t frozen=>.cells (zs.map fun z=>Value.int .u32 z).toArray t frozen
 | o=>o
end

section
open Go Go.ChangeShapes Go.WideShapes Go.ChangeAt Go.RowKit Go.Deep Go.Lib Go.Joins
section
variable {G:Type}{enc:TypeId×Value→G}{P:Program}{W:World}
theorem o8{t:TypeId}{k:IntKind}{base:Nat}{v:Value}{d:DataW G}{p:List MemPlace}(ht:P.underlying t=some (.int k))(hval:Value.okWide P W .any base t v)(h:DataW.Trod enc P W 0 (fun _=>true) true t v d p):
  ∃z:Int,v=.int k z∧(Lit.int k z).wf=true:=by
 obtain⟨z,rfl⟩:=okWide_int ht hval
 obtain⟨n,hn⟩:=h
 obtain⟨z',e,_,w⟩:=DataW.trod_int ht hn
 simp[Value.cells]at e
 subst e
 exact⟨z,rfl,w⟩
end
end

section
variable {P:Program}{ro:Option Nat}{K:Nat→Prop}{w0:World}{N:Nat}{Q:Dg}{D:List Nat}{l l':Tm}{H H' Hs L:List AX}{ops:Array Oper}{items:I6}
variable {tk:Bool}{o:Oper}{t:Nat}{v:Value}{x y z:Operand}
def wI(x:Int):Int:=IntKind.i64.wrap x
theorem CR{x:Int}(h1 : -9223372036854775808≤x)(h2:x≤9223372036854775807):wI x=x:=O7 (k:=.i64) h1 h2
def BE{α:Type}(l:List α)(i:Int):Option α:=if 0≤i then l[i.toNat]? else none
def Iu{α:Type}(l:List α)(i j:Int):Option (List α):=if 0≤i∧i≤j∧j≤l.length then some ((l.drop i.toNat).take (j.toNat-i.toNat))else none
def Mx{α:Type}(l:List α)(i:Int)(a:α):Option (List α):=if 0≤i∧i<l.length then some (l.set i.toNat a)else none
def FG(s t:List UInt8):Option (List UInt8):=if s.length+t.length≤9223372036854775807 then some (s++t)else none
def C8{α:Type}(by_:Nat)(s t:List α):Option (List α):=if(s.length+t.length)*by_≤140737488355328∧s.length+t.length≤9223372036854775807 then some (s++t)else none
def Sx(i:Int):Option Nat:=if 0≤i then some i.toNat else none
def WH(a b:Int):Option Int:=if b=0 then none else some (wI (a.tdiv b))
def T8(a b:Int):Option Int:=if b=0 then none else some (a.tmod b)
def RM(a b:UInt64):Option UInt64:=if b=0 then none else some (a / b)
def SK(a b:UInt64):Option UInt64:=if b=0 then none else some (a%b)
def GA(b:Bool)(c:Option Bool):Option Bool:=cond b c (some false)
def Tc(b:Bool)(c:Option Bool):Option Bool:=cond b (some true) c
def CI{α β:Type}(F:(α→Option β)→α→Option β):Nat→α→Option β
 | 0,_=>none
 | m+1,a=>F (CI F m) a
def ret{α β:Type}(e:α)(k:α→β):β:=k e
theorem bnd{α β:Type}{a:Option α}{f:α→Option β}{r:β}(h:a.bind f=some r):∃x,a=some x∧f x=some r:=Option.bind_eq_some_iff.1 h
theorem Bz{α β:Type}{e:α}{k:α→Option β}{r:β}(h:ret e k=some r):∃x,e=x∧k x=some r:=⟨e,rfl,h⟩
theorem cT{α:Type}{b:Bool}{x y:Option α}{r:α}(hb:b=true)(h:cond b x y=some r):x=some r:=by subst hb;exact h
theorem cF{α:Type}{b:Bool}{x y:Option α}{r:α}(hb:b=false)(h:cond b x y=some r):y=some r:=by subst hb;exact h
theorem Ii{α:Type}{l:List α}{i:Int}{a:α}(h:BE l i=some a):i=(i.toNat:Int)∧i.toNat<l.length∧l[i.toNat]? = some a:=by
 unfold BE at h
 split at h
 rename_i h0
 obtain⟨hlt,_⟩:=List.getElem?_eq_some_iff.1 h
 exact⟨by omega,hlt,h⟩
 cases h
theorem MJ{α:Type}{l u:List α}{i j:Int}(h:Iu l i j=some u):i=(i.toNat:Int)∧j=(j.toNat:Int)∧i.toNat≤j.toNat∧j.toNat≤l.length∧u=(l.drop i.toNat).take (j.toNat-i.toNat):=by
 unfold Iu at h
 split at h
 rename_i h0
 exact⟨by omega,by omega,by omega,by omega,(zI h).symm⟩
 cases h
abbrev Gb(x:UInt8):List Value:=[FE x]
abbrev BV(x:UInt32):List Value:=[AB x]
abbrev eS(x:List UInt8):List Value:=[vS x]
abbrev eB(x:Bool):List Value:=[vB x]
theorem Bc{a b:Int}:GT .add (vI a) (vI b) (vI (wI (a+b))):=fun P w ty x y=>⟨Bi ..,by simp[binOp,Op.intArith,wI]⟩
theorem Dc{a b:Int}:GT .sub (vI a) (vI b) (vI (wI (a-b))):=fun P w ty x y=>⟨Bi ..,by simp[binOp,Op.intArith,wI]⟩
theorem PI{a b:Int}:GT .mul (vI a) (vI b) (vI (wI (a*b))):=fun P w ty x y=>⟨Bi ..,by simp[binOp,Op.intArith,wI]⟩
theorem YB{a b c:Int}(h:WH a b=some c):GT .quo (vI a) (vI b) (vI c):=fun P w ty x y=>⟨Bi ..,by
 unfold WH at h
 split at h
 cases h
 rename_i h0
 obtain rfl:=zI h
 simp[binOp,Op.intDiv,h0,wI]⟩
theorem SU{a b c:Int}(h:T8 a b=some c):GT .rem (vI a) (vI b) (vI c):=fun P w ty x y=>⟨Bi ..,by
 unfold T8 at h
 split at h
 cases h
 rename_i h0
 obtain rfl:=zI h
 simp[binOp,Op.intDiv,h0]⟩
theorem UN{a:UInt32}{k:IntKind}{i:Int}{n:Nat}(h:Sx i=some n):GT .shl (AB a) (.int k i) (AB (Go.Proofs.YtpaohlmgfifebaaGreatDoor.shl32 a n)):=by
 unfold Sx at h
 split at h
 obtain rfl:=zI h
 have:i=(i.toNat:Int):=zO
 rw[this]
 exact GT.shl32
 cases h
theorem Y4{a:UInt32}{k:IntKind}{i:Int}{n:Nat}(h:Sx i=some n):GT .shr (AB a) (.int k i) (AB (Go.Proofs.YtpaohlmgfifebaaGreatDoor.shr32 a n)):=by
 unfold Sx at h
 split at h
 obtain rfl:=zI h
 have:i=(i.toNat:Int):=zO
 rw[this]
 exact GT.shr32
 cases h
theorem iM{a:UInt64}{k:IntKind}{i:Int}{n:Nat}(h:Sx i=some n):GT .shr (Be a) (.int k i) (Be (Go.Proofs.YtpaohlmgfifebaaGreatDoor.shr64 a n)):=by
 unfold Sx at h
 split at h
 obtain rfl:=zI h
 have:i=(i.toNat:Int):=zO
 rw[this]
 exact GT.shr64
 cases h
theorem iL{a:UInt64}{k:IntKind}{i:Int}{n:Nat}(h:Sx i=some n):GT .shl (Be a) (.int k i) (Be (Go.Proofs.YtpaohlmgfifebaaGreatDoor.shl64 a n)):=by
 unfold Sx at h
 split at h
 obtain rfl:=zI h
 have:i=(i.toNat:Int):=zO
 rw[this]
 exact GT.shl64
 cases h
theorem Pv{a b c:UInt64}(h:RM a b=some c):GT .quo (Be a) (Be b) (Be c):=fun P w ty x y=>⟨Bi ..,by
 unfold RM at h
 split at h
 cases h
 rename_i hb
 obtain rfl:=zI h
 have h0:((b.toNat:Int))≠0:=by
  intro h
  have:b.toNat=0:=zO
  exact hb (UInt64.toNat_inj.1 this)
 have h1:IntKind.u64.wrap (Int.tdiv (a.toNat:Int) (b.toNat:Int))=((a / b).toNat:Int):=by
  rw[OE,Int.tdiv_eq_ediv_of_nonneg zO,UInt64.toNat_div]
  have h2:a.toNat / b.toNat≤a.toNat:=Nat.div_le_self _ _
  have:=a.toNat_lt
  rw[show((a.toNat:Int) / (b.toNat:Int))=((a.toNat / b.toNat:Nat):Int)from rfl]
  generalize a.toNat / b.toNat=q at h2 ⊢
  omega
 simp only[binOp,Op.intDiv,ne_eq,not_true_eq_false,if_false,h0,h1,Sem.run_pure]⟩
theorem UM{a b c:UInt64}(h:SK a b=some c):GT .rem (Be a) (Be b) (Be c):=by
 unfold SK at h
 split at h
 cases h
 rename_i hb
 obtain rfl:=zI h
 exact kK hb
theorem CX{s t u:List UInt8}(h:FG s t=some u):GT .add (vS s) (vS t) (vS u):=by
 unfold FG at h
 split at h
 rename_i hl
 obtain rfl:=zI h
 exact Hb hl
 cases h
theorem MN{s:List UInt8}{ty:TypeId}{k:IntKind}{i:Int}{c:UInt8}(hn:BE s i=some c)(ho:At ops N l o t (.index ty x y))(hty:P.underlying ty=some .string)(hx:Bo l x=some (vS s))(hy:Bo l y=some (.int k i))
(h:SL P ro K w0 N ops Hs items Q D ((t,FE c)::l) H):SL P ro K w0 N ops Hs (.cons (tk,o) items) Q D l H:=by
 obtain⟨h1,h2,h3⟩:=Ii hn
 refine MO i.toNat ho hty hx hy h1 h2 ?_
 have:s.getD i.toNat 0=c:=by simp[List.getD_eq_getElem?_getD,h3]
 rw[this]
 exact h
theorem tK{s u:List UInt8}{ty:TypeId}{k k':IntKind}{i j:Int}(hn:Iu s i j=some u)(ho:At ops N l o t (.slice ty x (some y) (some z) none))(hty:P.underlying ty=some .string)(hx:Bo l x=some (vS s))(hy:Bo l y=some (.int k i))(hz:Bo l z=some (.int k' j))
(h:SL P ro K w0 N ops Hs items Q D ((t,vS u)::l) H):SL P ro K w0 N ops Hs (.cons (tk,o) items) Q D l H:=by
 obtain⟨h1,h2,h3,h4,rfl⟩:=MJ hn
 exact mR i.toNat j.toNat ho hty hx hy hz h1 h2 h3 h4 h
theorem pu{s u:List UInt8}{ty:TypeId}{k:IntKind}{i:Int}(hn:Iu s i (s.length:Int)=some u)(ho:At ops N l o t (.slice ty x (some y) none none))(hty:P.underlying ty=some .string)(hx:Bo l x=some (vS s))(hy:Bo l y=some (.int k i))
(h:SL P ro K w0 N ops Hs items Q D ((t,vS u)::l) H):SL P ro K w0 N ops Hs (.cons (tk,o) items) Q D l H:=by
 obtain⟨h1,h2,h3,h4,rfl⟩:=MJ hn
 refine Qu i.toNat ho hty hx hy h1 zO ?_
 rw[List.take_of_length_le zS]at h
 exact h
theorem pr{s u:List UInt8}{ty:TypeId}{k:IntKind}{j:Int}(hn:Iu s 0 j=some u)(ho:At ops N l o t (.slice ty x none (some z) none))(hty:P.underlying ty=some .string)(hx:Bo l x=some (vS s))(hz:Bo l z=some (.int k j))
(h:SL P ro K w0 N ops Hs items Q D ((t,vS u)::l) H):SL P ro K w0 N ops Hs (.cons (tk,o) items) Q D l H:=by
 obtain⟨h1,h2,h3,h4,rfl⟩:=MJ hn
 exact UT j.toNat ho hty hx hz h2 h4 (by simpa using h)
theorem Co{α:Type}{enc:α→List Value}{sz:Nat}{xs:List α}{k:IntKind}{i:Int}{ty e:TypeId}{x0:α}(hn:BE xs i=some x0)(hk:By K w0 enc sz v xs)(ho:At ops N l o t (.indexAddr ty x y))(hty:P.underlying ty=some (.slice e))(hsz:DU P e=some sz)(hx:Bo l x=some v)(hy:Bo l y=some (.int k i))
(h:∀b off,(∀L w,HW K w0 L w→∀j u,(enc x0)[j]? = some u→w.cell? ⟨b,off+j,none⟩=some u)→SL P ro K w0 N ops Hs items Q D ((t,vP b off)::l) H):SL P ro K w0 N ops Hs (.cons (tk,o) items) Q D l H:=by
 obtain⟨h1,h2,h3⟩:=Ii hn
 exact S3 i.toNat x0 hk ho hty hsz hx hy h1 h3 h
theorem C5{b off j:Nat}{u:Value}{cs:List Value}(hc:∀L w,HW K w0 L w→∀j u,cs[j]? = some u→w.cell? ⟨b,off+j,none⟩=some u)(hj:cs[j]? = some u):∀w,HW K w0 L w→w.cell? ⟨b,off+j,none⟩=some u:=fun w hw=>hc L w hw j u hj
theorem DT{b off:Nat}{cs:List Value}(hc:∀L w,HW K w0 L w→∀j u,cs[j]? = some u→w.cell? ⟨b,off+j,none⟩=some u):∀w,HW K w0 L w→∀j u,cs[j]? = some u→w.cell? (Addr.add ⟨b,off,none⟩ j)=some u:=
 fun w hw j u hu=>by rw[CU];exact hc L w hw j u hu
theorem py{α:Type}{enc:α→List Value}{sz:Nat}{xs us:List α}{k:IntKind}{j:Int}{ty e:TypeId}(hn:Iu xs 0 j=some us)(hk:By K w0 enc sz v xs)(ho:At ops N l o t (.slice ty x none (some z) none))(hty:P.underlying ty=some (.slice e))(hsz:DU P e=some sz)(hx:Bo l x=some v)(hz:Bo l z=some (.int k j))
(h:∀v',By K w0 enc sz v' us→SL P ro K w0 N ops Hs items Q D ((t,v')::l) H):SL P ro K w0 N ops Hs (.cons (tk,o) items) Q D l H:=by
 obtain⟨h1,h2,h3,h4,rfl⟩:=MJ hn
 exact tM j.toNat hk ho hty hsz hx hz h2 h4 (fun v' hv'=>h v' (by simpa using hv'))
def AD{α:Type}(e:TypeId)(sz:Nat)(v:Value)(enc:α→List Value)(xs:List α):AX:=
 ⟨fun b=>v.ownBlock=some b,fun w=>w.ownsRow 0 e sz v xs.length (xs.flatMap enc),fun w w' h hw=>by
  refine⟨hw.1,?_⟩
  rcases hw.2 with hn | ⟨g,cap,cur,rfl,hb,hgg,rest⟩
  exact .inl hn
  exact .inr ⟨g,cap,cur,rfl,hb,by rw[h g rfl];exact hgg,rest⟩⟩
section rows
variable {α:Type}{enc:α→List Value}{sz:Nat}{xs us:List α}{e ty:TypeId}
theorem JR(hl:∀x,(enc x).length=sz):∀ys:List α,(ys.flatMap enc).length=ys.length*sz
 | []=>by simp
 | y::ys=>by rw[List.flatMap_cons,List.length_append,JR hl ys,hl,List.length_cons,Nat.add_mul,Nat.one_mul,Nat.add_comm]
theorem Bj.nilT{w:World}(e:TypeId)(sz:Nat)(enc:α→List Value)(h:Bj K w0 H w):Bj K w0 (AD e sz zN enc []::H) w:=by
 refine h.cons (n:=w.heap.size) (Nat.le_refl _) (fun d hd b hb=>(h.foot d hd b hb).1) h.kltw (World.ownsRow_nil ..) ?_
 intro b hb
 simp[AD,Value.ownBlock]at hb
theorem CE(e:TypeId)(sz:Nat)(enc:α→List Value)(h:SL P ro K w0 N ops Hs items Q D l (AD e sz zN enc []::H)):SL P ro K w0 N ops Hs items Q D l H:=
 fun a w ha hw hs=>h a w ha (hw.nilT e sz enc) hs
theorem jz{w:World}{g n cap i j:Nat}{c:α}{u:Value}(hl:∀x,(enc x).length=sz)(h:(AD e sz v enc xs).holds w)(hv:v=.slice (some ⟨g,0,none⟩) n cap)(hi:xs[i]? = some c)(hj:(enc c)[j]? = some u):w.cell? ⟨g,i*sz+j,none⟩=some u:=by
 have hrow:w.ownsRow 0 e sz v xs.length (xs.flatMap enc):=h
 have hF:=World.ownsRowF_of hrow
 have:=hF.cells (g:=g) (by rw[hv];rfl) (i*sz+j) u (TP hl xs i c j u hi hj)
 rw[CU]at this
 simpa using this
theorem Bq{g n cap:Nat}{c:α}{i:Int}{u:Value}(k j:Nat)(hl:∀x,(enc x).length=sz)(hk:L[k]? = some (AD e sz v enc xs))(hv:v=.slice (some ⟨g,0,none⟩) n cap)(hi:BE xs i=some c)(hj:(enc c)[j]? = some u):∀w,HW K w0 L w→w.cell? ⟨g,i.toNat*sz+j,none⟩=some u:=
 fun _w hw=>jz hl (hw.holds _ (List.mem_of_getElem? hk)) hv (Ii hi).2.2 hj
theorem H2{g n cap:Nat}{c:α}{i:Int}(k:Nat)(hl:∀x,(enc x).length=sz)(hk:L[k]? = some (AD e sz v enc xs))(hv:v=.slice (some ⟨g,0,none⟩) n cap)(hi:BE xs i=some c):∀w,HW K w0 L w→∀j u,(enc c)[j]? = some u→w.cell? (Addr.add ⟨g,i.toNat*sz,none⟩ j)=some u:=
 fun w hw j u hu=>by rw[CU];exact Bq k j hl hk hv hi hu w hw
theorem DL(k:Nat)(ho:At ops N l o t (.call { callee:=.builtin .len,args:=#[x],argTypes:=#[ty] }))(hty:P.underlying ty=some (.slice e))(hx:Bo l x=some v)
{e':TypeId}(hk:(bif tk then Hs else H)[k]? = some (AD e' sz v enc xs))(h:SL P ro K w0 N ops Hs items Q D ((t,vI xs.length)::l) H):SL P ro K w0 N ops Hs (.cons (tk,o) items) Q D l H:=
 SL.val ho rfl (fun a w ha hsw=>by
  have hrow:w.ownsRow 0 e' sz v xs.length (xs.flatMap enc):=hsw.holds _ (List.mem_of_getElem? hk)
  simp only[execOp,ho.op,resolve,invoke,builtin,Builtin.len_]
  rcases hrow.2 with⟨rfl,hn⟩ | ⟨g,cap,cur,rfl,_⟩
  simp[ha.eval hx,A2 hty,goInt,hn]
  simp[ha.eval hx,A2 hty,goInt]) h
theorem B6(k:Nat){kk:IntKind}{i:Int}{c:α}(hn:BE xs i=some c)(ho:At ops N l o t (.indexAddr ty x y))(hty:P.underlying ty=some (.slice e))(hsz:DU P e=some sz)(hx:Bo l x=some v)(hy:Bo l y=some (.int kk i))
(hk:H[k]? = some (AD e sz v enc xs))
(h:∀g m cap,v=.slice (some ⟨g,0,none⟩) m cap→SL P ro K w0 N ops Hs items Q D ((t,vP g (i.toNat*sz))::l) H):SL P ro K w0 N ops Hs (.cons (tk,o) items) Q D l H:=by
 intro a w ha hw hs
 have hrow:w.ownsRow 0 e sz v xs.length (xs.flatMap enc):=hw.holds _ (List.mem_append_left _ (List.mem_of_getElem? hk))
 obtain⟨h1,h2,h3⟩:=Ii hn
 rcases hrow.2 with⟨_,h0⟩ | ⟨g,cap,cur,hv,_⟩
 omega
 exact(kO (n:=i.toNat) ho hty hsz (hx.trans (by rw[hv])) hy h1 h2 (by simpa using h g xs.length cap hv)) a w ha hw hs
theorem Xh(hl:∀x,(enc x).length=sz):∀(xs:List α) (i:Nat) (a:α),i<xs.length→(xs.set i a).flatMap enc=(xs.flatMap enc).take (i*sz)++enc a++(xs.flatMap enc).drop (i*sz+sz)
 | [],i,a,h=>by simp at h
 | b::r,0,a,_=>by
  have hb:=hl b
  simp only[List.set_cons_zero,List.flatMap_cons,Nat.zero_mul,List.take_zero,List.nil_append,Nat.zero_add]
  rw[List.drop_append_of_le_length zO,List.drop_of_length_le zO,List.nil_append]
 | b::r,i+1,a,h=>by
  have hb:=hl b
  have ih:=Xh hl r i a (by simpa using h)
  simp only[List.set_cons_succ,List.flatMap_cons]
  rw[ih]
  have e1:(i+1)*sz=(enc b).length+i*sz:=by rw[hb,Nat.add_mul];omega
  have e2:(i+1)*sz+sz=(enc b).length+(i*sz+sz):=by rw[hb,Nat.add_mul];omega
  rw[e2,e1,List.take_length_add_append,List.drop_length_add_append]
  simp
theorem II(k:Nat){g m cap:Nat}{i:Int}{u:Value}{a:α}(hn:Mx xs i a=some us)(hl:∀x,(enc x).length=sz)(ho:At0 ops l o (.store ty x y))(hx:Bo l x=some (vP g (i.toNat*sz)))(hy:Bo l y=some u)(hu:u.cells.toList=enc a)(hk:H[k]? = some (AD e sz v enc xs))(hv:v=.slice (some ⟨g,0,none⟩) m cap)
(hsz:DU P ty=some sz)(h1:∀c∈enc a,c.oneCell'=true)(hs:FF Hs (H.set k (AD e sz v enc us)))(h:SL P ro K w0 N ops Hs items Q D l (H.set k (AD e sz v enc us))):SL P ro K w0 N ops Hs (.cons (false,o) items) Q D l H:=by
 unfold Mx at hn
 split at hn
 rename_i hi
 obtain rfl:=zI hn
 refine YF ho E (fun a' w ha hw=>?_) hs h
 have hrow:w.ownsRow 0 e sz v xs.length (xs.flatMap enc):=hw.holds _ (List.mem_append_left _ (List.mem_of_getElem? hk))
 have hlt:i.toNat<xs.length:=zO
 rcases hrow.2 with⟨hv',h0⟩ | ⟨g',cap',cur,hv',hb,hg,hnc,hcm,hcs,htk⟩
 rw[hv']at hv;cases hv
 obtain⟨rfl,rfl,rfl⟩:g'=g∧xs.length=m∧cap'=cap:=by rw[hv']at hv;simpa using hv
 have hucz:u.cells.size=sz:=by rw[←Array.length_toList,hu,hl]
 have hle:i.toNat*sz+sz≤xs.length*sz:=by
  have:=Nat.mul_le_mul_right sz (show i.toNat+1≤xs.length by omega)
  rw[Nat.add_mul,Nat.one_mul]at this
  exact this
 have hle2:xs.length*sz≤cap'*sz:=Nat.mul_le_mul_right _ hnc
 obtain⟨w',hrun,hw'⟩:=Nl (P:=P) u.cells.toList (i.toNat*sz) 0 cur w hg (by rw[Array.length_toList,hucz];omega) (by rw[hu];exact h1)
 refine⟨w',?_,?_⟩
 simp[execOp,ho.op,Instr.storeAt,Instr.sureAddr,ha.eval hx,ha.eval hy,storeVar,CY hsz,hucz]
 rw[hrun]
 rfl
 rw[hw']
 obtain⟨hlt2,_⟩:=Array.getElem?_eq_some_iff.1 hg
 refine hw.turnAt (c:=AD e sz v enc xs) k hk rfl rfl rfl zS (fun b hb hne=>World.putObj_heap_other (fun e=>hne (by subst e;rw[hv'];rfl))) ⟨JR hl _,.inr ⟨g',cap',_,by rw[hv',List.length_set],Nat.zero_le _,World.putObj_heap_same hlt2,by simpa using hnc,hcm,by rw[Wy,hcs],?_⟩⟩ (fun b hb=>⟨.inl hb,?_⟩)
 have hcl:(enc a).length=sz:=hl a
 rw[Mu _ _ _ (by rw[hu,hcl];omega),Xh hl xs i.toNat a hlt,hu,hcl,←htk,List.length_set,Nat.add_zero]
 have e1:(cur.toList.take (i.toNat*sz)).length=i.toNat*sz:=by simp;omega
 rw[List.take_take,Nat.min_eq_left zO]
 have e2:(cur.toList.take (i.toNat*sz)++enc a).length=i.toNat*sz+sz:=by rw[List.length_append,e1,hcl]
 rw[List.take_append,e2,List.take_of_length_le zO]
 congr 1
 rw[List.drop_take]
 have:b=g':=by
  have hb':v.ownBlock=some b:=hb
  rw[hv']at hb'
  simpa[Value.ownBlock]using hb'.symm
 subst this
 simpa using hlt2
 cases hn
theorem Cr{by_ m c:Nat}{zv:Value}{new:List α}{ad:Addr}(k:Nat)(hn:C8 by_ xs new=some us)(hl:∀x,(enc x).length=sz)(ho:At ops N l o t (.call { callee:=.builtin .append,args:=#[x,y],argTypes:=#[ty,ty] }))
(hty:P.underlying ty=some (.slice e))(hsz:DU P e=some sz)(hby:RW P e=some by_)(hze:Ev P e=some zv)(hzs:zv.cells.size=sz)(hsz0:0<sz)
(hx:Bo l x=some v)(hy:Bo l y=some (.slice (some ad) m c))(hm:m=new.length)(hk:H[k]? = some (AD e sz v enc xs))
(hnews:∀w,HW K w0 H w→∀j u,(new.flatMap enc)[j]? = some u→w.cell? (ad.add j)=some u)(h1:∀a,∀u∈enc a,u.oneCell'=true)
(hs:∀v',FF Hs (H.set k (AD e sz v' enc us)))
(h:∀v',SL P ro K w0 N ops Hs items Q D ((t,v')::l) (H.set k (AD e sz v' enc us))):SL P ro K w0 N ops Hs (.cons (false,o) items) Q D l H:=by
 unfold C8 at hn
 split at hn
 rename_i hb
 obtain rfl:=zI hn
 subst hm
 have hfl:=JR hl
 refine IJ (fun v'=>v') (fun v'=>H.set k (AD e sz v' enc (xs++new))) ho E (fun a w ha hw=>?_) hs h
 obtain⟨ii,hii,e1,e2,e3⟩:=RD hsz hby hze
 have hrow:w.ownsRow 0 e sz v xs.length (xs.flatMap enc):=hw.holds _ (List.mem_append_left _ (List.mem_of_getElem? hk))
 obtain⟨v',w',hr,hr2,hr3,_,hr4⟩:=run_append_own_at (P:=P) w 0 ty o.type e ii zv sz by_ hty hii e3 e1 e2 hzs hsz0 v xs.length _ hrow ad new.length c (new.flatMap enc) (hfl new) (hnews w hw.dropMarks.s) (fun u hu=>by
  obtain⟨a,_,ha⟩:=List.mem_flatMap.1 hu
  exact h1 a u ha) (by simp only[maxLen];omega) hb.1 (Nat.zero_le _)
 refine⟨v',w',?_,hw.turnAt (c:=AD e sz v enc xs) k hk hr3.os hr3.tape hr3.output hr3.size (fun b hb hne=>hr3.block b hb (fun e=>hne e.symm)) (show w'.ownsRow 0 e sz v' (xs++new).length ((xs++new).flatMap enc) by rw[List.flatMap_append,List.length_append];exact hr2) ?_⟩
 unfold execOp
 simp only[ho.op,resolve,invoke,builtin,Sem.run_bind,Sem.run_pure,Result.andThen_ok,List.map_toArray,List.map_cons,List.map_nil,ha.eval hx,ha.eval hy,hr]
 intro b hb
 refine⟨?_,(hr2.lt b hb).2⟩
 have hb':v'.ownBlock=some b:=hb
 rcases hr4 with h4 | h4
 exact .inl (by rw[h4]at hb';exact hb')
 rw[h4]at hb'
 right
 simp at hb'
 omega
 cases hn
theorem Bj.ownT{w:World}{b:Nat}{c:Array Value}(xs:List α)(h:Bj K w0 (own b (.cells c e)::H) w)(hc:c.toList=xs.flatMap enc)(hl:∀x,(enc x).length=sz)(hm:xs.length≤9223372036854775807):Bj K w0 (AD e sz (.slice (some ⟨b,0,none⟩) xs.length xs.length) enc xs::H) w:=by
 have hfl:=JR hl
 have hcs:c.size=xs.length*sz:=by rw[←Array.length_toList,hc,hfl]
 refine h.turn rfl rfl rfl (Nat.le_refl _) (fun _ _ _=>rfl) ⟨hfl xs,.inr ⟨b,xs.length,c,rfl,Nat.zero_le _,h.holds _ (List.mem_cons_self ..),Nat.le_refl _,by simp only[maxLen];omega,hcs,by rw[hc,←hfl];exact List.take_length⟩⟩ (fun k hk=>?_)
 have hkb:k=b:=by simp[AD,Value.ownBlock]at hk;exact hk.symm
 subst hkb
 exact⟨.inl rfl,(h.foot _ (List.mem_cons_self ..) k rfl).1⟩
theorem B4{b:Nat}{c:Array Value}(enc:α→List Value)(sz:Nat)(xs:List α)(hc:c.toList=xs.flatMap enc)(hl:∀x,(enc x).length=sz)(hm:Nat.ble xs.length 1000000=true)
(h:SL P ro K w0 N ops Hs items Q D l (AD e sz (.slice (some ⟨b,0,none⟩) xs.length xs.length) enc xs::H)):SL P ro K w0 N ops Hs items Q D l (own b (.cells c e)::H):=
 fun a w ha hw hs=>h a w ha (hw.ownT xs hc hl (by have:=Nat.le_of_ble_eq_true hm;omega)) hs
theorem ew{by_ n:Nat}{zv:Value}{k k':IntKind}(enc:α→List Value)(ho:At ops N l o t (.makeSlice ty x y))(hty:P.underlying ty=some (.slice e))(hsz:DU P e=some sz)(hby:RW P e=some by_)(hze:Ev P e=some zv)(_hzs:zv.cells.size=sz)
(hx:Bo l x=some (.int k 0))(hy:Bo l y=some (.int k' (n:Int)))(hb:Nat.ble (by_*n) 281474976710656=true)(h63:Nat.ble n 9223372036854775807=true)
(hs:∀v',FF Hs (AD e sz v' enc []::H))(h:∀v',SL P ro K w0 N ops Hs items Q D ((t,v')::l) (AD e sz v' enc []::H)):SL P ro K w0 N ops Hs (.cons (false,o) items) Q D l H:=
 IJ (fun b=>.slice (some ⟨b,0,none⟩) 0 n) (fun b=>AD e sz (.slice (some ⟨b,0,none⟩) 0 n) enc []::H) ho rfl (fun a w ha hw=>by
  obtain⟨ii,hii,e1,e2,e3⟩:=RD hsz hby hze
  have hbn:=Nat.le_of_ble_eq_true hb
  have h63n:=Nat.le_of_ble_eq_true h63
  have hb':(ii.bytes:Int)*(n:Int)≤281474976710656:=by rw[e2,←Int.natCast_mul];omega
  have hr:=run_make (P:=P) w ty e ii zv hty hii e3 k k' 0 n zO zO hb' zO
  rw[e1]at hr
  simp only[Int.toNat_natCast]at hr
  refine⟨w.heap.size,w.alloc (.cells (madeCells zv.cells (n*sz)) e),?_,?_⟩
  unfold execOp
  simp only[ho.op,ha.eval hx,ha.eval hy,Sem.run_bind,hr,Result.andThen_ok,Sem.run_pure]
  rfl
  have h2:=hw.alloc (.cells (madeCells zv.cells (n*sz)) e)
  refine h2.turn rfl rfl rfl (Nat.le_refl _) (fun _ _ _=>rfl) ⟨by simp,.inr ⟨w.heap.size,n,_,rfl,Nat.zero_le _,h2.holds _ (List.mem_cons_self ..),Nat.zero_le _,by simp only[maxLen];omega,?_,by simp⟩⟩ (fun k hk=>?_)
  simp[madeCells]
  have hkb:k=w.heap.size:=by simp[AD,Value.ownBlock]at hk;exact hk.symm
  subst hkb
  exact⟨.inl rfl,(h2.foot _ (List.mem_cons_self ..) _ rfl).1⟩) (fun b=>hs _) (fun b=>h _)
theorem Bp{K':Nat→Prop}{w1:World}(hl:∀x,(enc x).length=sz)(h:(AD e sz v enc xs).holds w1∧∀k,(AD e sz v enc xs).foot k→K' k):By K' w1 enc sz v xs:=by
 have hrow:w1.ownsRow 0 e sz v xs.length (xs.flatMap enc):=h.1
 refine⟨hl,?_⟩
 rcases hrow.2 with⟨rfl,h0⟩ | ⟨g,cap,cur,rfl,_,hg,hc,_⟩
 exact .inl ⟨_,rfl,List.length_eq_zero_iff.1 h0⟩
 refine .inr ⟨g,0,cap,rfl,hc,fun j u hu=>⟨h.2 g rfl,?_⟩⟩
 have:=(World.ownsRowF_of hrow).cells (g:=g) rfl j u hu
 rw[CU]at this
 exact this
theorem zE:∀s:List UInt8,s.flatMap Gb=s.map fun b=>FE b
 | []=>rfl
 | b::r=>by rw[List.flatMap_cons,zE r];rfl
theorem IH{src dst:TypeId}{s:List UInt8}(k:Nat)(ho:At ops N l o t (.convert src dst x))(hs:P.underlying src=some (.slice e))(he:P.underlying e=some (.int .u8))(hd:P.underlying dst=some .string)(hx:Bo l x=some v)
(hk:(bif tk then Hs else H)[k]? = some (AD e 1 v Gb s))
(h:SL P ro K w0 N ops Hs items Q D ((t,vS s)::l) H):SL P ro K w0 N ops Hs (.cons (tk,o) items) Q D l H:=
 SL.val ho rfl (fun a w ha hsw=>by
  have hrow:w.ownsRow 0 e 1 v s.length (s.flatMap Gb):=hsw.holds _ (List.mem_of_getElem? hk)
  rw[zE]at hrow
  rcases hrow.2 with⟨rfl,h0⟩ | ⟨g,cap,cur,rfl,_⟩
  have:s=[]:=List.length_eq_zero_iff.1 h0
  subst this
  have h0:(convert src dst (.slice none 0 0)).run P w=.ok (vS []) w:=by
   rw[run_convert_bytes_string w src dst e none 0 0 hs he hd]
   simp[Conv.bytesToString]
   rfl
  simp[execOp,ho.op,ha.eval hx,h0]
  simp[execOp,ho.op,ha.eval hx,cO hs he hd rfl ((World.ownsRowF_of hrow).cells rfl)]) h
theorem B8{b n cap:Nat}(k:Nat)(_hl:∀x,(enc x).length=sz)(hk:L[k]? = some (AD e sz (.slice (some ⟨b,0,none⟩) n cap) enc xs)):∀w,HW K w0 L w→∀j u,(xs.flatMap enc)[j]? = some u→w.cell? (Addr.add ⟨b,0,none⟩ j)=some u:=by
 intro w hw j u hu
 have hrow:w.ownsRow 0 e sz (.slice (some ⟨b,0,none⟩) n cap) xs.length (xs.flatMap enc):=hw.holds _ (List.mem_of_getElem? hk)
 exact(World.ownsRowF_of hrow).cells (g:=b) rfl j u hu
theorem Vs{w:World}(t ty e:TypeId)(i:TypeInfo)(ht:P.underlying t=some (.slice e))(hi:P.info? e=some i)
(v:Value)(n:Nat)(xs:List Value)(hown:w.ownsRow 0 e sz v n xs):(Builtin.append_ #[t,t] ty #[v,zN]).run P w=.ok v w:=by
 rcases hown.2 with⟨rfl,rfl⟩ | ⟨g,cap,cur,rfl,_,_,hnc,_⟩
 simp[Builtin.append_,A2 ht,sizeOf,typeInfo,hi,Builtin.lenOf,Builtin.firstCells]
 simp[Builtin.append_,A2 ht,sizeOf,typeInfo,hi,Builtin.lenOf,Builtin.firstCells,hnc,storeCells]
theorem iS{by_:Nat}{zv:Value}(k:Nat)(ho:At ops N l o t (.call { callee:=.builtin .append,args:=#[x,y],argTypes:=#[ty,ty] }))
(hty:P.underlying ty=some (.slice e))(hsz:DU P e=some sz)(hby:RW P e=some by_)(hze:Ev P e=some zv)
(hx:Bo l x=some v)(hy:Bo l y=some zN)(hk:H[k]? = some (AD e sz v enc xs))(hs:FF Hs H)
(h:SL P ro K w0 N ops Hs items Q D ((t,v)::l) H):SL P ro K w0 N ops Hs (.cons (false,o) items) Q D l H:=
 IJ (fun _:Unit=>v) (fun _=>H) ho rfl (fun a w ha hw=>by
  obtain⟨ii,hii,e1,e2,e3⟩:=RD hsz hby hze
  have hrow:w.ownsRow 0 e sz v xs.length (xs.flatMap enc):=hw.holds _ (List.mem_append_left _ (List.mem_of_getElem? hk))
  have hr:=Vs (P:=P) ty o.type e ii hty hii v xs.length _ hrow
  refine⟨(),w,?_,hw⟩
  unfold execOp
  simp only[ho.op,resolve,invoke,builtin,Sem.run_bind,Sem.run_pure,Result.andThen_ok,List.map_toArray,List.map_cons,List.map_nil,ha.eval hx,ha.eval hy,hr]) (fun _=>hs) (fun _=>h)
theorem eX{c:AX}{k:Nat}(hk:H[k]? = some c):H.set k c=H:=by
 obtain⟨hl,hg⟩:=List.getElem?_eq_some_iff.1 hk
 rw[←hg];exact List.set_getElem_self hl
theorem dQ{by_:Nat}(hn:C8 by_ xs []=some us):us=xs:=by
 unfold C8 at hn
 split at hn
 simpa using hn.symm
 cases hn
theorem Px{by_:Nat}{zv u:Value}{new:List α}(k:Nat)(hn:C8 by_ xs new=some us)(hu:By K w0 enc sz u new)(hl:∀x,(enc x).length=sz)(ho:At ops N l o t (.call { callee:=.builtin .append,args:=#[x,y],argTypes:=#[ty,ty] }))
(hty:P.underlying ty=some (.slice e))(hsz:DU P e=some sz)(hby:RW P e=some by_)(hze:Ev P e=some zv)(hzs:zv.cells.size=sz)(hsz0:0<sz)
(hx:Bo l x=some v)(hy:Bo l y=some u)(hk:H[k]? = some (AD e sz v enc xs))(h1:∀a,∀u∈enc a,u.oneCell'=true)
(hs:∀v',FF Hs (H.set k (AD e sz v' enc us)))
(h:∀v',SL P ro K w0 N ops Hs items Q D ((t,v')::l) (H.set k (AD e sz v' enc us))):SL P ro K w0 N ops Hs (.cons (false,o) items) Q D l H:=by
 rcases hu.at_ with⟨a0,rfl,rfl⟩ | ⟨b,off,cap,rfl,_,hc⟩
 cases a0 with
 | some ad=>exact Cr k hn hl ho hty hsz hby hze hzs hsz0 hx hy rfl hk (fun w hw j u hj=>by simp at hj) h1 hs h
 | none=>
  obtain rfl:=dQ hn
  have h2:=hs v
  have h3:=h v
  rw[eX hk]at h2 h3
  exact iS k ho hty hsz hby hze hx hy hk h2 h3
 refine Cr k hn hl ho hty hsz hby hze hzs hsz0 hx hy E hk (fun w hw j u hj=>?_) h1 hs h
 obtain⟨hb,hcell⟩:=hc j u hj
 rw[CU]
 exact Q2 (L:=H) hb hcell w hw
theorem iT{by_:Nat}{zv u:Value}{new:List α}(k k2:Nat)(hn:C8 by_ xs new=some us)(hl:∀x,(enc x).length=sz)(ho:At ops N l o t (.call { callee:=.builtin .append,args:=#[x,y],argTypes:=#[ty,ty] }))
(hty:P.underlying ty=some (.slice e))(hsz:DU P e=some sz)(hby:RW P e=some by_)(hze:Ev P e=some zv)(hzs:zv.cells.size=sz)(hsz0:0<sz)
(hx:Bo l x=some v)(hy:Bo l y=some u)(hk:H[k]? = some (AD e sz v enc xs))(hk2:H[k2]? = some (AD e sz u enc new))(h1:∀a,∀u∈enc a,u.oneCell'=true)
(hs:∀v',FF Hs (H.set k (AD e sz v' enc us)))
(h:∀v',SL P ro K w0 N ops Hs items Q D ((t,v')::l) (H.set k (AD e sz v' enc us))):SL P ro K w0 N ops Hs (.cons (false,o) items) Q D l H:=by
 intro a w ha hw hs0
 have hrow:w.ownsRow 0 e sz u new.length (new.flatMap enc):=hw.holds _ (List.mem_append_left _ (List.mem_of_getElem? hk2))
 rcases hrow.2 with⟨rfl,h0⟩ | ⟨g,cap,cur,rfl,_⟩
 have:new=[]:=List.length_eq_zero_iff.1 h0
 subst this
 obtain rfl:=dQ hn
 have h2:=hs v
 have h3:=h v
 rw[eX hk]at h2 h3
 exact iS k ho hty hsz hby hze hx hy hk h2 h3 a w ha hw hs0
 exact Cr k hn hl ho hty hsz hby hze hzs hsz0 hx hy E hk (B8 k2 hl hk2) h1 hs h a w ha hw hs0
theorem By.nil(hl:∀x,(enc x).length=sz):By K w0 enc sz zN []:=⟨hl,.inl ⟨_,rfl,rfl⟩⟩
end rows
theorem Ay{u:Value}(ho:At ops N l o t (.assign x))(hx:Bo l x=some v)(hu:v=u)(h:SL P ro K w0 N ops Hs items Q D ((t,u)::l) H):SL P ro K w0 N ops Hs (.cons (tk,o) items) Q D l H:=
 mN ho (by rw[hx,hu]) h
theorem kP{c:Code}(l':Tm)(H':List AX)(h:SX P ro K w0 N c Q D l' H')(e1:Ty l' l)(e2:H=H':=by rfl):SX P ro K w0 N c Q D l H:=by
 subst e2;exact h.mono e1
def midD{α:Type}(K:Nat→Prop)(w0:World)(N:Nat)(p:α→Prop)(I:α→Tm)(G:α→List AX)(Q:Dg):Dg
 | .normal,a,w=>∃x D,p x∧N8 N D (I x) a∧Bj K w0 (G x++[Bf D]) w
 | e,a,w=>Q e a w
theorem A8{α:Type}(p:α→Prop)(I:α→Tm)(G:α→List AX){c y:Code}(h:SX P ro K w0 N c (midD K w0 N p I G Q) D l H)(h2:∀x D,p x→SX P ro K w0 N y Q D (I x) (G x)):SX P ro K w0 N (.seq c y) Q D l H:=by
 intro a w ha hw
 refine wpIn_seq (wpIn_mono (h a w ha hw) ?_)
 intro e a w q
 cases e with
 | normal=>
  obtain⟨x,D',hx,ha,hw⟩:=q
  exact h2 x D' hx a w ha hw
 | _=>exact q
theorem Aq{α:Type}{p:α→Prop}{I:α→Tm}{G:α→List AX}(x:α)(hp:p x)(hl:Ty (I x) l)(hH:∀w,Bj K w0 (H++[Bf D]) w→Bj K w0 (G x++[Bf D]) w):
  SQ K w0 N (Go.Proofs.YtpaohlmgfifebaaGreatDoor.midD K w0 N p I G Q) .normal D l H:=fun _a w ha hw=>⟨x,D,hp,ha.mono hl,hH w hw⟩
theorem oJ{α:Type}{p:α→Prop}{I:α→Tm}{G:α→List AX}{i:Nat}(h:SQ K w0 N Q (.exit i) D l H):SQ K w0 N (Go.Proofs.YtpaohlmgfifebaaGreatDoor.midD K w0 N p I G Q) (.exit i) D l H:=h
theorem FY{α:Type}{p:α→Prop}{I:α→Tm}{G:α→List AX}(h:SQ K w0 N Q .ret D l H):SQ K w0 N (Go.Proofs.YtpaohlmgfifebaaGreatDoor.midD K w0 N p I G Q) .ret D l H:=h
theorem E0(t n tt:Nat){b y:Bool}{C:Option Bool}(hy:GA b C=some y)(hb:look l t=some (.bool b))
(ht:b=true→C=some y→SL P ro K w0 N ops Hs (items.drop n) Q D ((tt,.bool y)::(t,.bool true)::OV t l) H→SL P ro K w0 N ops Hs items Q D ((t,.bool true)::OV t l) H)
(hf:b=false→SL P ro K w0 N ops Hs (items.drop n) Q D ((tt,.bool false)::(t,.bool false)::OV t l) H→SL P ro K w0 N ops Hs items Q D ((t,.bool false)::OV t l) H)
(h:SL P ro K w0 N ops Hs (items.drop n) Q D ((tt,.bool y)::l) H):SL P ro K w0 N ops Hs items Q D l H:=by
 refine Qo t hb (fun e=>?_) (fun e=>?_)
 subst e;exact N6 (ht rfl hy (h.join hb))
 subst e
 obtain rfl:false=y:=zI hy
 exact N6 (hf E (h.join hb))
theorem Pi(t n tt:Nat){b y:Bool}{C:Option Bool}(hy:Tc b C=some y)(hb:look l t=some (.bool b))
(ht:b=true→SL P ro K w0 N ops Hs (items.drop n) Q D ((tt,.bool true)::(t,.bool true)::OV t l) H→SL P ro K w0 N ops Hs items Q D ((t,.bool true)::OV t l) H)
(hf:b=false→C=some y→SL P ro K w0 N ops Hs (items.drop n) Q D ((tt,.bool y)::(t,.bool false)::OV t l) H→SL P ro K w0 N ops Hs items Q D ((t,.bool false)::OV t l) H)
(h:SL P ro K w0 N ops Hs (items.drop n) Q D ((tt,.bool y)::l) H):SL P ro K w0 N ops Hs items Q D l H:=by
 refine Qo t hb (fun e=>?_) (fun e=>?_)
 subst e
 obtain rfl:true=y:=zI hy
 exact N6 (ht E (h.join hb))
 subst e;exact N6 (hf rfl hy (h.join hb))
theorem Kj{xs ys:Array Value}:HX [] xs ys=some true:=rfl
theorem C2{i:Nat}{d:TypeDesc}{r:List (Nat×TypeDesc)}{xs ys:Array Value}{u v:Value}{p q:Bool}(hx:xs[i]? = some u)(hy:ys[i]? = some v)(he:Wf d u v=some p)(hr:HX r xs ys=some q):HX ((i,d)::r) xs ys=some (p&&q):=by
 simp[HX,hx,hy,he,hr]
theorem bH{k:IntKind}{a b:Int}:Wf (.int k) (.int k a) (.int k b)=some (decide (a=b)):=by
 simp only[Wf,if_true]
 congr 1
theorem MT{a b:UInt32}:Wf (.int .u32) (AB a) (AB b)=some (decide (a=b)):=by
 rw[bH];congr 1;rw[Bool.eq_iff_iff,decide_eq_true_eq,decide_eq_true_eq,←UInt32.toNat_inj];omega
theorem vW{a b:UInt64}:Wf (.int .u64) (Be a) (Be b)=some (decide (a=b)):=by
 rw[bH];congr 1;rw[Bool.eq_iff_iff,decide_eq_true_eq,decide_eq_true_eq,←UInt64.toNat_inj];omega
theorem TK{a b:List UInt8}:Wf .string (vS a) (vS b)=some (decide (a=b)):=by
 simp only[Wf,W0];congr 1;rw[Bool.eq_iff_iff];simp
theorem so{src dst:TypeId}{d:TypeDesc}{k:IntKind}{n:Int}(hs:P.underlying src=some d)(hd:P.underlying dst=some (.int .i64)):Cv P src dst (.int k n) (vI (wI n)):=Cv.int hs hd rfl
theorem UQ{α:Type}{b m:Nat}{xs:List α}{k:IntKind}{i:Int}{c:α}{ty e:TypeId}(hn:BE xs i=some c)(ho:At ops N l o t (.indexAddr ty x y))(hty:P.underlying ty=some (.array m e))(hsz:DU P e=some 1)(hx:Bo l x=some (vP b 0))(hy:Bo l y=some (.int k i))
(hln:xs.length=m)(h:SL P ro K w0 N ops Hs items Q D ((t,vP b i.toNat)::l) H):SL P ro K w0 N ops Hs (.cons (tk,o) items) Q D l H:=by
 obtain⟨h1,h2,h3⟩:=Ii hn
 exact DK ho hty hsz hx hy h1 zO h
structure Jl(K:Nat→Prop)(w0:World)(g:Nat)(n:Nat)(T:List UInt32):Prop where
 tab:Vo K w0 g T
 len:T.length=n
theorem Jl.keeps{g n:Nat}{T:List UInt32}{K':Nat→Prop}{w1:World}(h:Jl K w0 g n T)(hk:YD K w0 K' w1):Jl K' w1 g n T:=⟨h.tab.keeps hk,h.len⟩
theorem wC{g n:Nat}{T:List UInt32}{i:Int}{c:UInt32}(h:Jl K w0 g n T)(hn:BE T i=some c):∀w,HW K w0 L w→w.cell? ⟨g,i.toNat,none⟩=some (AB c):=
 Q2 (ad:=⟨g,i.toNat,none⟩) h.tab.keep (h.tab.cell _ _ (Ii hn).2.2)
end

section
open Go Go.ChangeShapes Go.WideShapes Go.ChangeAt Go.RowKit
theorem jD:Rg.length=64:=by decide
theorem wL:Tryz.prog.globalNamed "sphragis/sphragisref02.table" = some 2:=zK
theorem xW:(Tryz.prog.globals[2]?).map (·.type)=some 376:=zK
theorem pM{W:World}(h:laidMetH Tryz.prog [("sphragis/sphragisref02.table", Rows.laid_sphragis_sphragisref02_table),("sphragis/sha.first", Rows.laid_sphragis_sha_first),("sphragis/sha.constants", Rows.laid_sphragis_sha_constants)] W):Gk (· < W.heap.size) W Rg∧Jl (· < W.heap.size) W 2 64 Rg:=by
 have h0:laidMet Tryz.prog [("sphragis/sphragisref02.table", Lib.tabData .u32 XX),("sphragis/sha.first", Lib.tabData .u32 gH),("sphragis/sha.constants", Lib.tabData .u32 XX)] W:=h
 refine⟨sK (ZF h0),hK wL (Lib.tabIs_of_head wL xW Tryz.underlying376 Tryz.underlying36 YR bB h0) (by simp[Rg]) zK,jD⟩
noncomputable def gO(os:Os):World:=
 { World.holding Tryz.prog os ⟨#[],#[],[]⟩with heap:=(((World.holding Tryz.prog os ⟨#[],#[],[]⟩).heap.modify 1 (rQ gH)).modify 3 (rQ XX)).modify 2 (rQ XX) }
end

section
theorem Et{α β:Type}{F:(α→Option β)→α→Option β}(I:Nat→α)(N:Nat){z:Option β}(hs:∀i,i<N→∀k,F k (I i)=k (I (i+1)))(he:∀k,F k (I N)=z){m:Nat}(hm:N<m):CI F m (I 0)=z:=by
 have key:∀d i m,i+d=N→d<m→CI F m (I i)=z:=by
  intro d
  induction d with
  | zero=>
   intro i m hi hm
   obtain rfl:i=N:=zO
   obtain⟨m,rfl⟩:∃k,m=k+1:=⟨m-1,by omega⟩
   exact he _
  | succ d ih=>
   intro i m hi hm
   obtain⟨m,rfl⟩:∃k,m=k+1:=⟨m-1,by omega⟩
   show F (CI F m) (I i)=z
   rw[hs i zO]
   exact ih (i+1) m zO zO
 exact key N 0 m zO hm
theorem oo{α β:Type}{F:(α→Option β)→α→Option β}(I:Nat→α)(Z9:Nat→Option β)(N:Nat)(hs:∀i,i<N→∀k,k (I (i+1))=Z9 (i+1)→F k (I i)=Z9 i)(he:∀k,F k (I N)=Z9 N){m:Nat}(hm:N<m):CI F m (I 0)=Z9 0:=by
 have key:∀d i m,i+d=N→d<m→CI F m (I i)=Z9 i:=by
  intro d
  induction d with
  | zero=>
   intro i m hi hm
   obtain rfl:i=N:=zO
   obtain⟨m,rfl⟩:∃k,m=k+1:=⟨m-1,by omega⟩
   exact he _
  | succ d ih=>
   intro i m hi hm
   obtain⟨m,rfl⟩:∃k,m=k+1:=⟨m-1,by omega⟩
   show F (CI F m) (I i)=Z9 i
   exact hs i zO _ (ih (i+1) m zO zO)
 exact key N 0 m zO hm
theorem oq{α β:Type}{F:(α→Option β)→α→Option β}(I:Nat→α)(p:Nat→Prop)(N:Nat){z:Option β}(hs:∀i,i<N→p i→∀k,(p (i+1)→k (I (i+1))=z)→F k (I i)=z)(he:p N→∀k,F k (I N)=z)(h0:p 0){m:Nat}(hm:N<m):CI F m (I 0)=z:=by
 have key:∀d i m,i+d=N→d<m→p i→CI F m (I i)=z:=by
  intro d
  induction d with
  | zero=>
   intro i m hi hm hp
   obtain rfl:i=N:=zO
   obtain⟨m,rfl⟩:∃k,m=k+1:=⟨m-1,by omega⟩
   exact he hp _
  | succ d ih=>
   intro i m hi hm hp
   obtain⟨m,rfl⟩:∃k,m=k+1:=⟨m-1,by omega⟩
   show F (CI F m) (I i)=z
   exact hs i zO hp _ (ih (i+1) m zO zO)
 exact key N 0 m zO hm h0
theorem EP{α:Type}{l:List α}{i:Nat}:BE l (i:Int)=l[i]? := by simp[BE]
theorem Fo{α:Type}{l:List α}{i:Int}{k:Nat}(h:i=(k:Int)):BE l i=l[k]? := by rw[h,EP]
theorem DG{α:Type}{l:List α}{i:Int}{k:Nat}(d:α)(h:i=(k:Int))(hk:k<l.length):BE l i=some (l.getD k d):=by rw[Fo h,LL d hk]
theorem KH{α:Type}{l:List α}{i:Int}{k:Nat}{a:α}(h:i=(k:Int))(hk:k<l.length):Mx l i a=some (l.set k a):=by
 subst h
 unfold Mx
 rw[if_pos zO]
 simp
theorem VJ{α:Type}{l:List α}{i j:Int}{p q:Nat}(hi:i=(p:Int))(hj:j=(q:Int))(h1:p≤q)(h2:q≤l.length):Iu l i j=some ((l.drop p).take (q-p)):=by
 subst hi;subst hj
 unfold Iu
 rw[if_pos zO]
 simp
theorem DM{α:Type}{b:Nat}{s t:List α}(h:(s.length+t.length)*b≤140737488355328)(h2:s.length+t.length≤9223372036854775807):C8 b s t=some (s++t):=if_pos ⟨h,h2⟩
theorem DF{s t:List UInt8}(h:s.length+t.length≤9223372036854775807):FG s t=some (s++t):=if_pos h
theorem VH{i:Nat}:Sx (i:Int)=some i:=by simp[Sx]
theorem X3{a b:Nat}(hb:b≠0):T8 (a:Int) (b:Int)=some ((a%b:Nat):Int):=by
 unfold T8
 rw[if_neg zO,Int.tmod_eq_emod_of_nonneg zO]
 rfl
theorem js{a b:Nat}(hb:b≠0)(ha:a≤9223372036854775807):WH (a:Int) (b:Int)=some ((a / b:Nat):Int):=by
 unfold WH
 have h1:a / b≤a:=Nat.div_le_self _ _
 rw[if_neg zO,Int.tdiv_eq_ediv_of_nonneg zO,show((a:Int) / (b:Int))=((a / b:Nat):Int)from rfl]
 generalize a / b=q at h1 ⊢
 rw[CR zO zO]
theorem AA{α β:Type}{a:α}{f:α→Option β}:(some a).bind f=f a:=by simp
theorem BN{α β:Type}{e:α}{k:α→β}:ret e k=k e:=by simp[ret]
theorem ZH{α β:Type}{F:(α→Option β)→α→Option β}{m:Nat}{a:α}:CI F (m+1) a=F (CI F m) a:=by rw[CI]
theorem Xu{α:Type}{l:List α}{k:Nat}(d:α)(h:k<l.length):l.getD k d=l[k]:=by simp[List.getD,h]
end

section
open Go Go.MapKept Go.ChangeMaps
variable {P:Program}{ro:Option Nat}{K:Nat→Prop}{w0:World}{N:Nat}{Q:Dg}{D:List Nat}{l l':Tm}{H H' Hs L:List AX}{ops:Array Oper}{items:I6}
variable {tk:Bool}{o:Oper}{t:Nat}{v:Value}{x y z:Operand}
theorem SE{α β:Type}(f:α→β){l:List α}(h:(l.map f).Nodup):l.Nodup:=(List.pairwise_map.1 h).imp fun hne e=>hne (congrArg f e)
theorem Nu{α:Type}:∀ {l l':List α},l.Nodup→(∀a∈l,a∈l')→l.length≤l'.length
  | [],_,_,_=>by simp
  | a::r,l',hn,hs=>by
    obtain⟨h1,h2⟩:=List.nodup_cons.1 hn
    obtain⟨p,q,rfl⟩:=List.append_of_mem (hs a (List.mem_cons_self ..))
    have:=Nu (l':=p++q) h2 (fun b hb=>by
      have hb':=hs b (List.mem_cons_of_mem _ hb)
      simp only[List.mem_append,List.mem_cons]at hb' ⊢
      rcases hb' with h | rfl | h
      exact .inl h
      exact absurd hb h1
      exact .inr h)
    simp at this ⊢
    omega
section lP
variable {κ α:Type}[DecidableEq κ]
def Bn(m:List (κ×α))(k:κ):Option α:=(m.find? fun p=>decide (p.1=k)).map (·.2)
def Eu(m:List (κ×α))(k:κ):List (κ×α):=m.filter fun p=>decide (p.1≠k)
def Hn(m:List (κ×α))(k:κ)(a:α):List (κ×α):=(k,a)::Eu m k
theorem PZ{m:List (κ×α)}{k:κ}(h:∀p∈m,p.1≠k):Bn m k=none:=by
  unfold Bn
  rw[List.find?_eq_none.2 (fun p hp=>by simpa using h p hp)]
  rfl
theorem RE{m:List (κ×α)}(hn:(m.map (·.1)).Nodup){p:κ×α}(hp:p∈m):Bn m p.1=some p.2:=by
  induction m with
  | nil=>cases hp
  | cons q r ih=>
    simp only[List.map_cons,List.nodup_cons]at hn
    unfold Bn
    rcases List.mem_cons.1 hp with rfl | hp
    simp
    have hne:q.1≠p.1:=fun e=>hn.1 (by rw[e];exact List.mem_map_of_mem hp)
    rw[List.find?_cons_of_neg (by simpa using hne)]
    exact ih hn.2 hp
theorem Qs{m:List (κ×α)}{k:κ}(h:∀p∈m,p.1≠k):Eu m k=m:=List.filter_eq_self.2 (fun p hp=>by simpa using h p hp)
theorem ZI{m:List (κ×α)}(hn:(m.map (·.1)).Nodup){p:κ×α}(hp:p∈m):m.Perm (p::Eu m p.1):=by
  induction m with
  | nil=>cases hp
  | cons q r ih=>
    simp only[List.map_cons,List.nodup_cons]at hn
    rcases List.mem_cons.1 hp with rfl | hp
    have h1:Eu (p::r) p.1=r:=by
      unfold Eu
      rw[List.filter_cons_of_neg zS]
      exact Qs fun q hq e=>hn.1 (by rw[←e];exact List.mem_map_of_mem hq)
    rw[h1]
    have hne:q.1≠p.1:=fun e=>hn.1 (by rw[e];exact List.mem_map_of_mem hp)
    have h1:Eu (q::r) p.1=q::Eu r p.1:=by
      unfold Eu
      rw[List.filter_cons_of_pos (by simpa using hne)]
    rw[h1]
    exact((ih hn.2 hp).cons q).trans (List.Perm.swap _ _ _)
theorem U3{m:List (κ×α)}{k:κ}(hn:(m.map (·.1)).Nodup):((Eu m k).map (·.1)).Nodup:=hn.sublist (List.Sublist.map _ (List.filter_sublist ..))
theorem ZK{m:List (κ×α)}{k:κ}{a:α}(hn:(m.map (·.1)).Nodup):((Hn m k a).map (·.1)).Nodup:=by
  simp only[Hn,List.map_cons,List.nodup_cons]
  refine⟨fun h=>?_,U3 hn⟩
  obtain⟨q,hq,e⟩:=List.mem_map.1 h
  have:=(List.mem_filter.1 hq).2
  simp[e]at this
theorem I5{m:List (κ×α)}{k j:κ}{a:α}:Bn (Hn m k a) j=if k=j then some a else Bn m j:=by
  unfold Hn Bn
  by_cases h:k=j
  rw[if_pos h,List.find?_cons_of_pos (by simpa using h)];rfl
  rw[if_neg h,List.find?_cons_of_neg (by simpa using h)]
  congr 1
  unfold Eu
  rw[List.find?_filter]
  congr 1
  funext p
  by_cases hj:p.1=j
  simp[hj,Ne.symm h]
  simp[hj]
theorem ou{m:List (κ×α)}{k j:κ}:Bn (Eu m k) j=if k=j then none else Bn m j:=by
  by_cases h:k=j
  subst h
  rw[if_pos rfl]
  exact PZ fun p hp=>by simpa using(List.mem_filter.1 hp).2
  rw[if_neg h]
  unfold Bn Eu
  congr 1
  rw[List.find?_filter]
  congr 1
  funext p
  by_cases hj:p.1=j
  simp[hj,Ne.symm h]
  simp[hj]
end lP
structure OG(P:Program)(k:TypeId){κ α:Type}(ek:κ→Value)(ev:α→Value):Prop where
  keyed:Go.Maps.Keyed P k
  lit:∀x,∃l,keyOf P k (ek x)=some l
  dk:∃f:Value→Option κ,∀x,f (ek x)=some x
  dv:∃f:Value→Option α,∀x,f (ev x)=some x
theorem OG.inj{k:TypeId}{κ α:Type}{ek:κ→Value}{ev:α→Value}(E9:OG P k ek ev){x y:κ}(h:ek x=ek y):x=y:=by
  obtain⟨f,hf⟩:=E9.dk
  have:=hf x
  rw[h,hf y]at this
  exact(zI this).symm
theorem X8{k:TypeId}(hk:P.underlying k=some (.int .u32))(a:UInt32):∃l,keyOf P k (AB a)=some l:=
  ⟨_,Maps.keyOf_int_mk hk (by have:=a.toNat_lt;simp[Lit.wf,IntKind.min,IntKind.max,IntKind.signed,IntKind.bits];omega)⟩
theorem WQ{k:TypeId}(hk:P.underlying k=some (.int .u32)):OG P k AB vS:=
  ⟨Maps.int_keyed hk,X8 hk,⟨fun v=>match v with | .int _ a=>some (UInt32.ofNat a.toNat) | _=>none,fun x=>by simp⟩,⟨fun v=>match v with | .string b=>some b.data.toList | _=>none,fun x=>rfl⟩⟩
theorem Sz{k:TypeId}(hk:P.underlying k=some (.int .u32)):OG P k AB vB:=
  ⟨Maps.int_keyed hk,X8 hk,⟨fun v=>match v with | .int _ a=>some (UInt32.ofNat a.toNat) | _=>none,fun x=>by simp⟩,⟨fun v=>match v with | .bool b=>some b | _=>none,fun x=>rfl⟩⟩
section maps
variable {κ α:Type}{ek:κ→Value}{ev:α→Value}{m:List (κ×α)}{k:TypeId}{b:Nat}
def OH(ek:κ→Value)(ev:α→Value)(m:List (κ×α))(es:Array MapEntry)(clock:Nat):Prop:=
  Stamped es clock∧es.size≤maxLen∧(es.toList.map fun e=>(e.key,e.val)).Perm (m.map fun p=>(ek p.1,ev p.2))
def AY(b:Nat)(ek:κ→Value)(ev:α→Value)(m:List (κ×α)):AX:=
  ⟨(·=b),fun w=>∃es clock,w.heap[b]? = some (.map es clock)∧OH ek ev m es clock,fun w w' h ⟨es,c,h1,h2⟩=>⟨es,c,by rw[h _ rfl];exact h1,h2⟩⟩
theorem OH.mem{es:Array MapEntry}{clock:Nat}(h:OH ek ev m es clock){e:MapEntry}(he:e∈es.toList):∃p∈m,e.key=ek p.1∧e.val=ev p.2:=by
  have:=h.2.2.mem_iff.1 (List.mem_map_of_mem (f:=fun e:MapEntry=>(e.key,e.val)) he)
  obtain⟨p,hp,e1⟩:=List.mem_map.1 this
  simp only[Prod.mk.injEq]at e1
  exact⟨p,hp,e1.1.symm,e1.2.symm⟩
theorem OH.nodup{es:Array MapEntry}{clock:Nat}(h:OH ek ev m es clock):(m.map (·.1)).Nodup:=by
  have h1:(es.toList.map (·.key)).Nodup:=h.1.2.2
  have h2:(es.toList.map (·.key)).Perm (m.map fun p=>ek p.1):=by
    have:=h.2.2.map (·.1)
    simpa[List.map_map,Function.comp_def]using this
  have h3:(m.map fun p=>ek p.1).Nodup:=h2.nodup_iff.1 h1
  have h4:(m.map fun p=>ek p.1)=(m.map (·.1)).map ek:=by simp
  rw[h4]at h3
  exact SE _ h3
theorem OH.keys{es:Array MapEntry}{clock:Nat}(E9:OG P k ek ev)(h:OH ek ev m es clock):∀e∈es.toList,∃l,keyOf P k e.key=some l:=fun e he=>by
  obtain⟨p,_,e1,_⟩:=h.mem he
  rw[e1]
  exact E9.lit _
theorem OH.size_eq{es:Array MapEntry}{clock:Nat}(h:OH ek ev m es clock):es.size=m.length:=by
  have:=h.2.2.length_eq
  simpa using this
variable [DecidableEq κ]
theorem OH.look{es:Array MapEntry}{clock:Nat}{w:World}(E9:OG P k ek ev)(h:OH ek ev m es clock)(hb:w.heap[b]? = some (.map es clock)){ty e:TypeId}(ht:P.underlying ty=some (.map k e)){zv:α}(hz:Ev P e=some (ev zv))(key:κ)(c:Bool):
    (Instr.lookup ty (.map (some b)) (ek key) c).run P w=.ok (if c then .tuple #[ev ((Bn m key).getD zv),.bool (Bn m key).isSome]else ev ((Bn m key).getD zv)) w:=by
  obtain⟨lx,hl⟩:=E9.lit key
  rcases E9.keyed.find w hl es.toList (h.keys E9)with⟨h1,h2⟩ | ⟨j,e0,h1,h2,h3⟩
  have hg:Bn m key=none:=PZ fun p hp e=>by
    have:=h.2.2.mem_iff.2 (List.mem_map_of_mem (f:=fun p:κ×α=>(ek p.1,ev p.2)) hp)
    obtain⟨e',he',e1⟩:=List.mem_map.1 this
    simp only[Prod.mk.injEq]at e1
    exact h2 e' he' (by rw[e1.1,e])
  simp[Instr.lookup,A2 ht,MapKept.run_getObj_map hb,E9.keyed.check w _ hl,h1,Pd hz,Result.andThen,hg]
  obtain⟨p,hp,e1,e2⟩:=h.mem (List.mem_of_getElem? h2)
  have hk:p.1=key:=E9.inj (by rw[←e1,h3])
  have hg:=RE h.nodup hp
  rw[hk]at hg
  simp[Instr.lookup,A2 ht,MapKept.run_getObj_map hb,E9.keyed.check w _ hl,h1,Result.andThen,hg,←e2]
theorem OH.upd{es:Array MapEntry}{clock:Nat}{w:World}(E9:OG P k ek ev)(h:OH ek ev m es clock)(hb:w.heap[b]? = some (.map es clock)){ty e:TypeId}(ht:P.underlying ty=some (.map k e))(key:κ)(a:α)(hroom:m.length<9223372036854775807):
    ∃es' clock',(Instr.mapUpdate ty (.map (some b)) (ek key) (ev a)).run P w=.ok () (setBlock w b (.map es' clock'))∧OH ek ev (Hn m key a) es' clock':=by
  obtain⟨lx,hl⟩:=E9.lit key
  have hsz:=h.size_eq
  rcases E9.keyed.find w hl es.toList (h.keys E9)with⟨h1,h2⟩ | ⟨j,e0,h1,h2,h3⟩
  have hno:∀p∈m,p.1≠key:=fun p hp e=>by
    have:=h.2.2.mem_iff.2 (List.mem_map_of_mem (f:=fun p:κ×α=>(ek p.1,ev p.2)) hp)
    obtain⟨e',he',e1⟩:=List.mem_map.1 this
    simp only[Prod.mk.injEq]at e1
    exact h2 e' he' (by rw[e1.1,e])
  refine⟨es.push ⟨ek key,ev a,clock⟩,clock+1,?_,stamped_push h.1 h2,by simp only[maxLen,Array.size_push];omega,?_⟩
  simp[Instr.mapUpdate,A2 ht,MapKept.run_getObj_map hb,E9.keyed.check w false hl,h1,MapKept.run_setObj_map _ hb,Result.andThen,setBlock]
  unfold Hn
  rw[Qs hno,Array.toList_push,List.map_append,List.map_cons]
  exact(List.perm_append_singleton _ _).trans (h.2.2.cons _)
  have hj:es[j]? = some e0:=by simpa using h2
  have hjl:j<es.toList.length:=(List.getElem?_eq_some_iff.1 h2).1
  obtain⟨p,hp,e1,e2⟩:=h.mem (List.mem_of_getElem? h2)
  have hk:p.1=key:=E9.inj (by rw[←e1,h3])
  have hkeyf:∀e',es[j]? = some e'→({ e' with key:=ek key,val:=ev a }:MapEntry).key=e'.key:=fun e' he'=>by rw[hj]at he';cases he';exact h3.symm
  have hlist:(es.modify j (fun e'=>{ e' with key:=ek key,val:=ev a })).toList=es.toList.set j { e0 with key:=ek key,val:=ev a }:=by rw[Array.toList_modify,modify_eq_set _ _ _ _ h2]
  refine⟨es.modify j (fun e'=>{ e' with key:=ek key,val:=ev a }),clock,?_,stamped_modify h.1 _ _ (fun _ _=>rfl) (fun e' _ he'=>hkeyf e' he'),by simpa using h.2.1,?_⟩
  simp[Instr.mapUpdate,A2 ht,MapKept.run_getObj_map hb,E9.keyed.check w false hl,h1,hj,h3,E9.keyed.stays w hl,MapKept.run_setObj_map _ hb,Result.andThen,setBlock]
  rw[hlist]
  unfold Hn
  have hspl:=ZI h.nodup hp
  rw[hk]at hspl
  have p1:es.toList=es.toList.take j++e0::es.toList.drop (j+1):=(F6 h2).1
  have p2:es.toList.set j { e0 with key:=ek key,val:=ev a }=es.toList.take j++{ e0 with key:=ek key,val:=ev a }::es.toList.drop (j+1):=by
    rw[List.set_eq_take_append_cons_drop,if_pos hjl]
  rw[p2]
  have q1:((es.toList.take j++es.toList.drop (j+1)).map fun e=>(e.key,e.val)).Perm ((Eu m key).map fun p=>(ek p.1,ev p.2)):=by
    have h5:=h.2.2
    rw[p1]at h5
    have h6:=(List.perm_middle (l₁:=es.toList.take j) (a:=e0) (l₂:=es.toList.drop (j+1))).symm.map (fun e:MapEntry=>(e.key,e.val))
    have h7:=(h6.trans h5).trans (hspl.map fun p=>(ek p.1,ev p.2))
    simp only[List.map_cons,e1,e2]at h7
    exact h7.cons_inv
  have h8:=(List.perm_middle (l₁:=es.toList.take j) (a:=({ e0 with key:=ek key,val:=ev a }:MapEntry)) (l₂:=es.toList.drop (j+1))).map (fun e:MapEntry=>(e.key,e.val))
  exact h8.trans (q1.cons _)
theorem OH.drop{es:Array MapEntry}{clock:Nat}{w:World}(E9:OG P k ek ev)(h:OH ek ev m es clock)(hb:w.heap[b]? = some (.map es clock)){t2 e rt:TypeId}(ht:P.underlying t2=some (.map k e))(key:κ):
    ∃es',(Builtin.delete_ #[t2,k] rt #[.map (some b),ek key]).run P w=.ok (.tuple #[]) (setBlock w b (.map es' clock))∧OH ek ev (Eu m key) es' clock:=by
  obtain⟨lx,hl⟩:=E9.lit key
  rcases E9.keyed.find w hl es.toList (h.keys E9)with⟨h1,h2⟩ | ⟨j,e0,h1,h2,h3⟩
  have hno:∀p∈m,p.1≠key:=fun p hp e=>by
    have:=h.2.2.mem_iff.2 (List.mem_map_of_mem (f:=fun p:κ×α=>(ek p.1,ev p.2)) hp)
    obtain⟨e',he',e1⟩:=List.mem_map.1 this
    simp only[Prod.mk.injEq]at e1
    exact h2 e' he' (by rw[e1.1,e])
  refine⟨es,?_,by rw[Qs hno];exact h⟩
  simp[Builtin.delete_,A2 ht,MapKept.run_getObj_map hb,E9.keyed.check w _ hl,h1,MapKept.run_setObj_map _ hb,Result.andThen,setBlock]
  have hjl:j<es.toList.length:=(List.getElem?_eq_some_iff.1 h2).1
  have hjs:j<es.size:=by simpa using hjl
  obtain⟨p,hp,e1,e2⟩:=h.mem (List.mem_of_getElem? h2)
  have hk:p.1=key:=E9.inj (by rw[←e1,h3])
  have hsub:(es.eraseIdxIfInBounds j).toList=es.toList.eraseIdx j:=by
    unfold Array.eraseIdxIfInBounds
    rw[dif_pos hjs]
    simp
  refine⟨es.eraseIdxIfInBounds j,?_,stamped_erase h.1 j,Nat.le_trans (MapFrom.size_erase es j) h.2.1,?_⟩
  simp[Builtin.delete_,A2 ht,MapKept.run_getObj_map hb,E9.keyed.check w _ hl,h1,MapKept.run_setObj_map _ hb,Result.andThen,setBlock]
  rw[hsub,List.eraseIdx_eq_take_drop_succ]
  have hspl:=ZI h.nodup hp
  rw[hk]at hspl
  have p1:es.toList=es.toList.take j++e0::es.toList.drop (j+1):=(F6 h2).1
  have h5:=h.2.2
  rw[p1]at h5
  have h6:=(List.perm_middle (l₁:=es.toList.take j) (a:=e0) (l₂:=es.toList.drop (j+1))).symm.map (fun e:MapEntry=>(e.key,e.val))
  have h7:=(h6.trans h5).trans (hspl.map fun p=>(ek p.1,ev p.2))
  simp only[List.map_cons,e1,e2]at h7
  exact h7.cons_inv
omit [DecidableEq κ]
theorem G3(w:World)(b:Nat)(o:Obj):setBlock w b o=w.putObj b o:=rfl
theorem QZ{ty:TypeId}(ek:κ→Value)(ev:α→Value)(ho:At ops N l o t (.makeMap ty none))(hs:∀b,FF Hs (AY b ek ev []::H))
(h:∀b,SL P ro K w0 N ops Hs items Q D ((t,.map (some b))::l) (AY b ek ev []::H)):SL P ro K w0 N ops Hs (.cons (false,o) items) Q D l H:=
  IJ (fun b=>.map (some b)) (fun b=>AY b ek ev []::H) ho rfl (fun a w ha hw=>by
    refine⟨w.heap.size,w.alloc (.map #[] 0),?_,?_⟩
    simp[execOp,ho.op,Instr.makeMap]
    have h2:=hw.alloc (.map #[] 0)
    refine h2.turn rfl rfl rfl (Nat.le_refl _) (fun _ _ _=>rfl) ⟨#[],0,h2.holds _ (List.mem_cons_self ..),stamped_empty 0,by simp,by simp⟩ (fun j hj=>?_)
    exact⟨.inl hj,(h2.foot _ (List.mem_cons_self ..) j hj).1⟩) hs h
variable [DecidableEq κ]
theorem VZ{ty e:TypeId}{key:κ}{zv:α}(i:Nat)(E9:OG P k ek ev)(ho:At ops N l o t (.lookup ty x y false))(ht:P.underlying ty=some (.map k e))(hz:Ev P e=some (ev zv))(hx:Bo l x=some (.map (some b)))(hy:Bo l y=some (ek key))
(hi:(bif tk then Hs else H)[i]? = some (AY b ek ev m))(h:SL P ro K w0 N ops Hs items Q D ((t,ev ((Bn m key).getD zv))::l) H):SL P ro K w0 N ops Hs (.cons (tk,o) items) Q D l H:=
  SL.val ho rfl (fun a w ha hsw=>by
    obtain⟨es,clock,hb,hr⟩:=hsw.holds _ (List.mem_of_getElem? hi)
    have:=hr.look E9 hb ht hz key false
    simp[execOp,ho.op,ha.eval hx,ha.eval hy,this]) h
theorem YE{ty e:TypeId}{key:κ}{zv:α}(i:Nat)(E9:OG P k ek ev)(ho:At ops N l o t (.lookup ty x y true))(ht:P.underlying ty=some (.map k e))(hz:Ev P e=some (ev zv))(hx:Bo l x=some (.map (some b)))(hy:Bo l y=some (ek key))
(hi:(bif tk then Hs else H)[i]? = some (AY b ek ev m))(h:SL P ro K w0 N ops Hs items Q D ((t,.tuple #[ev ((Bn m key).getD zv),.bool (Bn m key).isSome])::l) H):SL P ro K w0 N ops Hs (.cons (tk,o) items) Q D l H:=
  SL.val ho rfl (fun a w ha hsw=>by
    obtain⟨es,clock,hb,hr⟩:=hsw.holds _ (List.mem_of_getElem? hi)
    have:=hr.look E9 hb ht hz key true
    simp[execOp,ho.op,ha.eval hx,ha.eval hy,this]) h
theorem tI{ty e:TypeId}{key:κ}{a:α}{z:Operand}(i:Nat)(E9:OG P k ek ev)(ho:At0 ops l o (.mapUpdate ty x y z))(ht:P.underlying ty=some (.map k e))(hx:Bo l x=some (.map (some b)))(hy:Bo l y=some (ek key))(hz:Bo l z=some (ev a))
(hi:H[i]? = some (AY b ek ev m))(hroom:m.length<9223372036854775807)(hs:FF Hs (H.set i (AY b ek ev (Hn m key a))))(h:SL P ro K w0 N ops Hs items Q D l (H.set i (AY b ek ev (Hn m key a)))):SL P ro K w0 N ops Hs (.cons (false,o) items) Q D l H:=
  YF ho rfl (fun a' w ha hw=>by
    obtain⟨es,clock,hb,hr⟩:=hw.holds _ (List.mem_append_left _ (List.mem_of_getElem? hi))
    obtain⟨es',clock',hrun,hr'⟩:=hr.upd E9 hb ht key a hroom
    obtain⟨hlt,_⟩:=Array.getElem?_eq_some_iff.1 hb
    refine⟨_,by simp[execOp,ho.op,ha.eval hx,ha.eval hy,ha.eval hz,hrun];rfl,?_⟩
    refine hw.turnAt (c:=AY b ek ev m) i hi rfl rfl rfl (by simp[G3]) (fun j hj hne=>World.putObj_heap_other (fun e=>hne (by rw[e];rfl))) ⟨es',clock',World.putObj_heap_same hlt,hr'⟩ (fun j hj=>⟨.inl hj,?_⟩)
    obtain rfl:j=b:=hj
    simpa[G3]using hlt) hs h
theorem tB{ty k' e:TypeId}{key:κ}(i:Nat)(E9:OG P k ek ev)(hd:o.dst=none)(hop:o.op=.call { callee:=.builtin .delete,args:=#[x,y],argTypes:=#[ty,k'] })(hwt:Tw ops l o=some true)(hk:k'=k)(ht:P.underlying ty=some (.map k e))(hx:Bo l x=some (.map (some b)))(hy:Bo l y=some (ek key))
(hi:H[i]? = some (AY b ek ev m))(hs:FF Hs (H.set i (AY b ek ev (Eu m key))))(h:SL P ro K w0 N ops Hs items Q D l (H.set i (AY b ek ev (Eu m key)))):SL P ro K w0 N ops Hs (.cons (false,o) items) Q D l H:=by
  subst hk
  intro a w ha hw hs0
  have hw1:=GX hwt ha.vals
  simp only[PL,hw1,if_true]
  obtain⟨es,clock,hb,hr⟩:=hw.holds _ (List.mem_append_left _ (List.mem_of_getElem? hi))
  obtain⟨es',hrun,hr'⟩:=hr.drop (rt:=o.type) E9 hb ht key
  obtain⟨hlt,_⟩:=Array.getElem?_eq_some_iff.1 hb
  have hw':Bj K w0 (H.set i (AY b ek ev (Eu m key))++[Bf D]) (setBlock w b (.map es' clock)):=by
    refine hw.turnAt (c:=AY b ek ev m) i hi rfl rfl rfl (by simp[G3]) (fun j hj hne=>World.putObj_heap_other (fun e=>hne (by rw[e];rfl))) ⟨es',clock,World.putObj_heap_same hlt,hr'⟩ (fun j hj=>⟨.inl hj,?_⟩)
    obtain rfl:j=b:=hj
    simpa[G3]using hlt
  refine LM (by rw[hop];exact GW rfl) (v:=.tuple #[]) (w':=setBlock w b (.map es' clock)) ?_ ⟨hs.hs hw',?_⟩
  unfold execOp
  simp only[hop,resolve,invoke,builtin,Sem.run_bind,Sem.run_pure,Result.andThen_ok,List.map_toArray,List.map_cons,List.map_nil,ha.vals.eval hx,ha.vals.eval hy,hrun]
  rw[hd]
  exact h _ _ ha hw' (hs.hs hw')
omit [DecidableEq κ]
theorem tA{ty e:TypeId}(i:Nat)(hd:o.dst=none)(hop:o.op=.call { callee:=.builtin .clear,args:=#[x],argTypes:=#[ty] })(hwt:Tw ops l o=some true)(ht:P.underlying ty=some (.map k e))(hx:Bo l x=some (.map (some b)))
(hi:H[i]? = some (AY b ek ev m))(hs:FF Hs (H.set i (AY b ek ev [])))(h:SL P ro K w0 N ops Hs items Q D l (H.set i (AY b ek ev []))):SL P ro K w0 N ops Hs (.cons (false,o) items) Q D l H:=by
  intro a w ha hw hs0
  have hw1:=GX hwt ha.vals
  simp only[PL,hw1,if_true]
  obtain⟨es,clock,hb,hr⟩:=hw.holds _ (List.mem_append_left _ (List.mem_of_getElem? hi))
  obtain⟨hlt,_⟩:=Array.getElem?_eq_some_iff.1 hb
  have hw':Bj K w0 (H.set i (AY b ek ev [])++[Bf D]) (setBlock w b (.map #[] clock)):=by
    refine hw.turnAt (c:=AY b ek ev m) i hi rfl rfl rfl (by simp[G3]) (fun j hj hne=>World.putObj_heap_other (fun e=>hne (by rw[e];rfl))) ⟨#[],clock,World.putObj_heap_same hlt,stamped_empty clock,by simp,by simp⟩ (fun j hj=>⟨.inl hj,?_⟩)
    obtain rfl:j=b:=hj
    simpa[G3]using hlt
  refine LM (by rw[hop];exact GW rfl) (v:=.tuple #[]) (w':=setBlock w b (.map #[] clock)) ?_ ⟨hs.hs hw',?_⟩
  unfold execOp
  simp only[hop,resolve,invoke,builtin,Sem.run_bind,Sem.run_pure,Result.andThen_ok,List.map_toArray,List.map_cons,List.map_nil,ha.vals.eval hx]
  simp[Builtin.clear_,A2 ht,MapKept.run_getObj_map hb,MapKept.run_setObj_map _ hb,Result.andThen,setBlock]
  rw[hd]
  exact h _ _ ha hw' (hs.hs hw')
theorem iY{ty e:TypeId}(i:Nat)(ho:At ops N l o t (.call { callee:=.builtin .len,args:=#[x],argTypes:=#[ty] }))(ht:P.underlying ty=some (.map k e))(hx:Bo l x=some (.map (some b)))
(hi:(bif tk then Hs else H)[i]? = some (AY b ek ev m))(h:SL P ro K w0 N ops Hs items Q D ((t,vI m.length)::l) H):SL P ro K w0 N ops Hs (.cons (tk,o) items) Q D l H:=
  SL.val ho rfl (fun a w ha hsw=>by
    obtain⟨es,clock,hb,hr⟩:=hsw.holds _ (List.mem_of_getElem? hi)
    have hsz:=hr.size_eq
    simp only[execOp,ho.op,resolve,invoke,builtin,Builtin.len_]
    simp[ha.eval hx,A2 ht,MapKept.run_getObj_map hb,goInt,hsz]) h
def PY(b it:Nat)(ek:κ→Value)(ev:α→Value)(m done:List (κ×α)):AX:=
  ⟨fun j=>j=b∨j=it,fun w=>∃es clock seen,w.heap[b]? = some (.map es clock)∧OH ek ev m es clock∧w.heap[it]? = some (.mapIter (some b) clock seen clock)∧
    ∃ord:List MapEntry,seen.toList=ord.map MapEntry.born∧(∀e∈ord,e∈es.toList)∧(ord.map MapEntry.born).Nodup∧(ord.map fun e=>(e.key,e.val))=done.map fun p=>(ek p.1,ev p.2),
   fun w w' h ⟨es,c,s,h1,h2,h3,h4⟩=>⟨es,c,s,by rw[h _ (.inl rfl)];exact h1,h2,by rw[h _ (.inr rfl)];exact h3,h4⟩⟩
theorem tH{ty e:TypeId}(i:Nat)(ho:At ops N l o t (.range ty x))(ht:P.underlying ty=some (.map k e))(hx:Bo l x=some (.map (some b)))(hi:H[i]? = some (AY b ek ev m))
(hs:∀it,FF Hs (H.set i (PY b it ek ev m [])))(h:∀it,SL P ro K w0 N ops Hs items Q D ((t,vP it 0)::l) (H.set i (PY b it ek ev m []))):SL P ro K w0 N ops Hs (.cons (false,o) items) Q D l H:=
  IJ (fun it=>vP it 0) (fun it=>H.set i (PY b it ek ev m [])) ho rfl (fun a w ha hw=>by
    obtain⟨es,clock,hb,hr⟩:=hw.holds _ (List.mem_append_left _ (List.mem_of_getElem? hi))
    obtain⟨hlt,_⟩:=Array.getElem?_eq_some_iff.1 hb
    refine⟨w.heap.size,w.alloc (.mapIter (some b) clock #[] clock),?_,?_⟩
    simp[execOp,ho.op,Instr.range,ha.eval hx,A2 ht,MapKept.run_getObj_map hb]
    refine hw.turnAt (c:=AY b ek ev m) i hi rfl rfl rfl zS (fun j hj _=>SC w _ j hj) ⟨es,clock,#[],(SC w _ b hlt).trans hb,hr,?_,[],by simp,by simp,by simp,by simp⟩ (fun j hj=>?_)
    show(w.heap.push _)[w.heap.size]? = _
    simp
    rcases hj with rfl | rfl
    exact⟨.inl rfl,by simp;omega⟩
    exact⟨.inr (Nat.le_refl _),by simp⟩) hs h
theorem tF{it:Nat}{done:List (κ×α)}(i:Nat)(E9:OG P k ek ev)(ho:At ops N l o t (.next x false))(hx:Bo l x=some (vP it 0))(hi:H[i]? = some (PY b it ek ev m done))(hs0:FF Hs H)
(hA:done.Perm m→SL P ro K w0 N ops Hs items Q D ((t,.tuple #[.bool false])::l) H)
(hB:∀p,p∈m→done.length<m.length→FF Hs (H.set i (PY b it ek ev m (done++[p])))∧SL P ro K w0 N ops Hs items Q D ((t,.tuple #[.bool true,ek p.1,ev p.2])::l) (H.set i (PY b it ek ev m (done++[p])))):
    SL P ro K w0 N ops Hs (.cons (false,o) items) Q D l H:=by
  intro a w ha hw hsw
  have hw1:=GX ho.wt ha.vals
  simp only[PL,hw1,if_true]
  obtain⟨es,clock,seen,hb,hr,hit,ord,ho1,ho2,ho3,ho4⟩:=hw.holds _ (List.mem_append_left _ (List.mem_of_getElem? hi))
  obtain⟨hlt,_⟩:=Array.getElem?_eq_some_iff.1 hb
  obtain⟨hlt2,_⟩:=Array.getElem?_eq_some_iff.1 hit
  have hlen:ord.length=done.length:=by simpa using congrArg List.length ho4
  have hsz:=hr.size_eq
  have hnd:ord.Nodup:=SE _ ho3
  rcases run_next_at (P:=P) w o.type it b clock clock seen es clock hit hb hr.1.1 (Nat.le_refl _)with⟨h0,hrun⟩ | ⟨e,he,w1,hal,hrun⟩
  
  have hall:∀e∈es.toList,e∈ord:=fun e he=>by
    have:leftOf es seen=#[]:=Array.eq_empty_of_size_eq_zero h0
    unfold leftOf at this
    have h1:=Array.filter_eq_empty_iff.1 this e (by simpa using he)
    have h2:e.born∈seen.toList:=by simpa using h1
    rw[ho1]at h2
    obtain⟨e',he',eb⟩:=List.mem_map.1 h2
    have h3:=ho2 e' he'
    have:e'=e:=by
      have hn:=hr.1.2.1
      obtain⟨p,hp,e1⟩:=List.getElem_of_mem h3
      obtain⟨q,hq,e2⟩:=List.getElem_of_mem he
      have:=(List.getElem_inj (h₀:=by simpa using hp) (h₁:=by simpa using hq) hn).1 (by simp[e1,e2,eb])
      subst this
      rw[←e1,←e2]
    rw[←this];exact he'
  have hperm:ord.Perm es.toList:=by
    have hen:es.toList.Nodup:=SE _ hr.1.2.1
    exact(List.perm_ext_iff_of_nodup hnd hen).2 fun e=>⟨ho2 e,hall e⟩
  have hdm:done.Perm m:=by
    have h1:(done.map fun p=>(ek p.1,ev p.2)).Perm (m.map fun p=>(ek p.1,ev p.2)):=by
      rw[←ho4]
      exact(hperm.map _).trans hr.2.2
    obtain⟨fk,hfk⟩:=E9.dk
    obtain⟨fv,hfv⟩:=E9.dv
    have h2:=h1.filterMap fun q:Value×Value=>(fk q.1).bind fun a=>(fv q.2).map fun b=>(a,b)
    have h3:∀l:List (κ×α),(l.map fun p=>(ek p.1,ev p.2)).filterMap (fun q:Value×Value=>(fk q.1).bind fun a=>(fv q.2).map fun b=>(a,b))=l:=by
      intro l
      induction l with
      | nil=>rfl
      | cons p r ih=>simp[hfk,hfv,ih]
    rwa [h3,h3]at h2
  refine LM (by rw[ho.op];exact GW rfl) (v:=.tuple #[.bool false]) (w':=w) ?_ ⟨hs0.hs hw,hA hdm _ w (by rw[ho.dst];exact ha.put (JB ho.lt) _) hw (hs0.hs hw)⟩
  simp[execOp,ho.op,ha.vals.eval hx,hrun]
  
  have hel:e∈es.toList:=by
    unfold leftOf at he
    simp at he ⊢
    exact he.1
  have hens:e.born∉ord.map (·.born):=by
    unfold leftOf at he
    rw[←ho1]
    simp at he ⊢
    exact he.2
  obtain⟨p,hp,e1,e2⟩:=hr.mem hel
  have hlt3:done.length<m.length:=by
    have hnd2:(ord++[e]).Nodup:=by
      refine List.nodup_append.2 ⟨hnd,by simp,?_⟩
      intro x hx y hy
      simp only[List.mem_singleton]at hy
      subst hy
      intro exy
      exact hens (by rw[←exy];exact List.mem_map_of_mem hx)
    have hsub:(ord++[e])⊆es.toList:=by
      intro x hx
      rcases List.mem_append.1 hx with hx | hx
      exact ho2 x hx
      simp only[List.mem_singleton]at hx
      subst hx;exact hel
    have:=Nu hnd2 (fun a ha=>hsub ha)
    simp at this
    omega
  obtain⟨hsub,hcont⟩:=hB p hp hlt3
  have hhw1:w1.os=w.os∧w1.tape=w.tape∧w1.output=w.output∧w1.heap=w.heap:=by rcases hal with rfl | rfl<;>exact⟨rfl,rfl,rfl,rfl⟩
  have hne:it≠b:=fun e=>by rw[e,hb]at hit;cases hit
  have hw':Bj K w0 (H.set i (PY b it ek ev m (done++[p]))++[Bf D]) (setBlock w1 it (.mapIter (some b) clock (seen.push e.born) clock)):=by
    refine hw.turnAt (c:=PY b it ek ev m done) i hi hhw1.1 hhw1.2.1 hhw1.2.2.1 (by simp[G3,hhw1.2.2.2]) (fun j hj hnf=>?_) ⟨es,clock,seen.push e.born,?_,hr,World.putObj_heap_same (by rw[hhw1.2.2.2];exact hlt2),ord++[e],by simp[ho1],?_,?_,by simp[ho4,e1,e2]⟩ (fun j hj=>⟨.inl hj,?_⟩)
    exact(World.putObj_heap_other (fun e=>hnf (.inr e))).trans (by rw[hhw1.2.2.2])
    exact(World.putObj_heap_other (fun e=>hne e.symm)).trans (by rw[hhw1.2.2.2];exact hb)
    intro x hx
    rcases List.mem_append.1 hx with hx | hx
    exact ho2 x hx
    simp only[List.mem_singleton]at hx
    subst hx;exact hel
    rw[List.map_append]
    refine List.nodup_append.2 ⟨ho3,by simp,?_⟩
    intro x hx y hy
    simp only[List.map_cons,List.map_nil,List.mem_singleton]at hy
    subst hy
    intro exy
    exact hens (by rw[←exy];exact hx)
    rcases hj with rfl | rfl
    simpa[G3,hhw1.2.2.2]using hlt
    simpa[G3,hhw1.2.2.2]using hlt2
  refine LM (by rw[ho.op];exact GW rfl) (v:=.tuple #[.bool true,ek p.1,ev p.2]) (w':=setBlock w1 it (.mapIter (some b) clock (seen.push e.born) clock)) ?_ ⟨hsub.hs hw',hcont _ _ (by rw[ho.dst];exact ha.put (JB ho.lt) _) hw' (hsub.hs hw')⟩
  simp[execOp,ho.op,ha.vals.eval hx,hrun,e1,e2]
theorem tC{it:Nat}{done:List (κ×α)}{p:κ×α}(i:Nat)(ho:At ops N l o t (.entry x))(hx:Bo l x=some (vP it 0))(hi:(bif tk then Hs else H)[i]? = some (PY b it ek ev m (done++[p])))
(h:SL P ro K w0 N ops Hs items Q D ((t,.tuple #[ek p.1,ev p.2])::l) H):SL P ro K w0 N ops Hs (.cons (tk,o) items) Q D l H:=
  SL.val ho rfl (fun a w ha hsw=>by
    obtain⟨es,clock,seen,hb,hr,hit,ord,ho1,ho2,ho3,ho4⟩:=hsw.holds _ (List.mem_of_getElem? hi)
    have hne:ord≠[]:=fun e=>by rw[e]at ho4;simp at ho4
    obtain⟨ord',e,rfl⟩:∃o' e,ord=o'++[e]:=⟨_,_,(List.dropLast_concat_getLast hne).symm⟩
    simp only[List.map_append,List.map_cons,List.map_nil]at ho4 ho1
    have h4:=List.append_inj' ho4 rfl
    simp only[List.cons.injEq,Prod.mk.injEq,and_true]at h4
    have hse:seen=(ord'.map (·.born)).toArray.push e.born:=by
      apply Array.ext'
      simp[ho1]
    rw[hse]at hit
    have:=run_entry_at (P:=P) w it b clock _ es clock e hit hb (ho2 e zS) hr.1.2.1
    simp[execOp,ho.op,ha.eval hx,this,h4.2.1,h4.2.2]) h
theorem Bj.itOff{w:World}{M:List AX}{it:Nat}{done:List (κ×α)}(i:Nat)(h:Bj K w0 (H++M) w)(hi:H[i]? = some (PY b it ek ev m done)):Bj K w0 (H.set i (AY b ek ev m)++M) w:=by
  obtain⟨es,clock,seen,hb,hr,_⟩:=h.holds _ (List.mem_append_left _ (List.mem_of_getElem? hi))
  exact h.turnAt (c:=PY b it ek ev m done) i hi rfl rfl rfl (Nat.le_refl _) (fun _ _ _=>rfl) ⟨es,clock,hb,hr⟩ (fun j hj=>⟨.inl (.inl hj),(h.foot _ (List.mem_append_left _ (List.mem_of_getElem? hi)) j (.inl hj)).1⟩)
theorem oK{c:Code}{it:Nat}{done:List (κ×α)}(i:Nat)(hi:H[i]? = some (PY b it ek ev m done))(h:SX P ro K w0 N c Q D l (H.set i (AY b ek ev m))):SX P ro K w0 N c Q D l H:=
  fun a w ha hw=>h a w ha (hw.itOff i hi)
end maps
end

section
open Go Go.MapKept Go.ChangeMaps
variable {P:Program}{ro:Option Nat}{K:Nat→Prop}{w0:World}{N:Nat}{Q:Dg}{D:List Nat}{l l':Tm}{H H' Hs L:List AX}{ops:Array Oper}{items:I6}
variable {tk:Bool}{o:Oper}{t:Nat}{v:Value}{x y z:Operand}
theorem Cs{α:Type}{e:TypeId}{sz:Nat}{enc:α→List Value}{xs:List α}(i:Nat)(hi:H[i]? = some (AD e sz v enc xs))(h:v.cells=#[v]→v.oneCell'=true→SL P ro K w0 N ops Hs items Q D l H):SL P ro K w0 N ops Hs items Q D l H:=by
 intro a w ha hw hs
 have hrow:w.ownsRow 0 e sz v xs.length (xs.flatMap enc):=hw.holds _ (List.mem_append_left _ (List.mem_of_getElem? hi))
 rcases hrow.2 with⟨rfl,_⟩ | ⟨g,cap,cur,rfl,_⟩
 exact h rfl rfl a w ha hw hs
 exact h rfl rfl a w ha hw hs
theorem aI{α:Type}{sz:Nat}{enc:α→List Value}{xs:List α}(hk:By K w0 enc sz v xs)(h:v.cells=#[v]→v.oneCell'=true→SL P ro K w0 N ops Hs items Q D l H):SL P ro K w0 N ops Hs items Q D l H:=by
 rcases hk.at_ with⟨_,rfl,_⟩ | ⟨b,off,cap,rfl,_⟩
 exact h rfl rfl
 exact h rfl rfl
theorem iU{ty:TypeId}(hv:v.cells=#[v])(ho:At ops N l o t (.box ty x))(hx:Bo l x=some v)(hs:∀b,FF Hs (own b (.cells #[v] ty)::H))
(h:∀b,SL P ro K w0 N ops Hs items Q D ((t,vP b 0)::l) (own b (.cells #[v] ty)::H)):SL P ro K w0 N ops Hs (.cons (false,o) items) Q D l H:=
 Bg ho hx (by rw[hv];exact hs) (by rw[hv];exact h)
theorem EW{b off:Nat}{c:Array Value}{e ty:TypeId}(i:Nat)(ho:At0 ops l o (.store ty x y))(hx:Bo l x=some (vP b off))(hy:Bo l y=some v)(hi:H[i]? = some (own b (.cells c e)))
(hn:DU P ty=some 1)(hv:v.cells=#[v])(h1:v.oneCell'=true)(hle:Nat.ble (off+1) c.size=true)
(hs:FF Hs (H.set i (own b (.cells (Fp c off [v]) e))))(h:SL P ro K w0 N ops Hs items Q D l (H.set i (own b (.cells (Fp c off [v]) e)))):SL P ro K w0 N ops Hs (.cons (false,o) items) Q D l H:=
 A3 i ho hx hy hi hn (by rw[hv];rfl) (by rw[hv];simp[h1]) hle (by rw[hv];exact hs) (by rw[hv];exact h)
def jh{α:Type}(by_:Nat)(n:Int)(a:α):Option (List α):=if 0≤n∧by_*n.toNat≤281474976710656∧n≤9223372036854775807 then some (List.replicate n.toNat a)else none
theorem ov{α:Type}{by_:Nat}{n:Int}{a:α}{xs:List α}(h:jh by_ n a=some xs):n=(n.toNat:Int)∧by_*n.toNat≤281474976710656∧n.toNat≤9223372036854775807∧xs=List.replicate n.toNat a:=by
 unfold jh at h
 split at h
 rename_i hc
 exact⟨by omega,hc.2.1,by omega,(zI h).symm⟩
 cases h
theorem ot{α:Type}{enc:α→List Value}{a:α}{zv:Value}(hz:zv.cells.toList=enc a)(h1:(enc a).length=1)(n:Nat):(madeCells zv.cells (n*1)).toList=(List.replicate n a).flatMap enc:=by
 obtain⟨u,hu⟩:=List.length_eq_one_iff.1 h1
 have hs:zv.cells=#[u]:=by apply Array.ext';rw[hz,hu]
 rw[hs]
 have hrep:(List.replicate n a).flatMap enc=List.replicate n u:=by
  induction n with
  | zero=>rfl
  | succ k ih=>rw[List.replicate_succ,List.flatMap_cons,ih,hu,List.replicate_succ];rfl
 rw[hrep]
 apply List.ext_getElem
 simp[madeCells]
 intro i h2 h3
 simp[madeCells,Nat.mod_one]
theorem et{α:Type}{e ty:TypeId}{by_:Nat}{zv:Value}{n:Int}{a:α}{xs:List α}(hn:jh by_ n a=some xs)(enc:α→List Value)(ho:At ops N l o t (.makeSlice ty x x))(hty:P.underlying ty=some (.slice e))(hsz:DU P e=some 1)(hby:RW P e=some by_)(hze:Ev P e=some zv)
(hx:Bo l x=some (vI n))(hza:zv.cells.toList=enc a)(h1:(enc a).length=1)(hzs:zv.cells.size=1)
(hs:∀v',FF Hs (AD e 1 v' enc xs::H))(h:∀v',SL P ro K w0 N ops Hs items Q D ((t,v')::l) (AD e 1 v' enc xs::H)):SL P ro K w0 N ops Hs (.cons (false,o) items) Q D l H:=by
 obtain⟨h0,hb,h63,rfl⟩:=ov hn
 generalize n.toNat=m at h0 hb h63 hs h
 subst h0
 refine IJ (fun b=>.slice (some ⟨b,0,none⟩) m m) (fun b=>AD e 1 (.slice (some ⟨b,0,none⟩) m m) enc (List.replicate m a)::H) ho E (fun a' w ha hw=>?_) (fun b=>hs _) (fun b=>h _)
 obtain⟨ii,hii,e1,e2,e3⟩:=RD hsz hby hze
 have hb':(ii.bytes:Int)*(m:Int)≤281474976710656:=by rw[e2,←Int.natCast_mul];omega
 have hr:=run_make (P:=P) w ty e ii zv hty hii e3 .i64 .i64 m m zO zO hb' zO
 rw[e1]at hr
 simp only[Int.toNat_natCast]at hr
 refine⟨w.heap.size,w.alloc (.cells (madeCells zv.cells (m*1)) e),?_,?_⟩
 unfold execOp
 simp only[ho.op,ha.eval hx,Sem.run_bind,hr,Result.andThen_ok,Sem.run_pure]
 have h2:=hw.alloc (.cells (madeCells zv.cells (m*1)) e)
 have hlen:((List.replicate m a).flatMap enc).length=m*1:=by simp[h1]
 refine h2.turn rfl rfl rfl (Nat.le_refl _) (fun _ _ _=>rfl) ⟨by simp[h1],.inr ⟨w.heap.size,m,_,by simp,Nat.zero_le _,h2.holds _ (List.mem_cons_self ..),by simp,by simp only[maxLen];omega,?_,?_⟩⟩ (fun k hk=>?_)
 simp[madeCells]
 rw[ot hza h1]
 rw[List.take_of_length_le (by simp[h1])]
 have hkb:k=w.heap.size:=by simp[AD,Value.ownBlock]at hk;exact hk.symm
 subst hkb
 exact⟨.inl rfl,(h2.foot _ (List.mem_cons_self ..) _ rfl).1⟩
def Km{κ α:Type}[DecidableEq κ](m:List (κ×α))(k:κ)(a:α):Option (List (κ×α)):=if m.length<9223372036854775807 then some (Hn m k a)else none
theorem ZJ{κ α:Type}[DecidableEq κ]{m us:List (κ×α)}{k:κ}{a:α}(h:Km m k a=some us):m.length<9223372036854775807∧us=Hn m k a:=by
 unfold Km at h
 split at h
 exact⟨by assumption,(zI h).symm⟩
 cases h
theorem M9{κ α:Type}[DecidableEq κ]{ek:κ→Value}{ev:α→Value}{m us:List (κ×α)}{k:TypeId}{b:Nat}{ty e:TypeId}{key:κ}{a:α}(i:Nat)(hn:Km m key a=some us)(E9:OG P k ek ev)(ho:At0 ops l o (.mapUpdate ty x y z))(ht:P.underlying ty=some (.map k e))(hx:Bo l x=some (.map (some b)))(hy:Bo l y=some (ek key))(hz:Bo l z=some (ev a))
(hi:H[i]? = some (AY b ek ev m))(hs:FF Hs (H.set i (AY b ek ev us)))(h:SL P ro K w0 N ops Hs items Q D l (H.set i (AY b ek ev us))):SL P ro K w0 N ops Hs (.cons (false,o) items) Q D l H:=by
 obtain⟨hr,rfl⟩:=ZJ hn
 exact tI i E9 ho ht hx hy hz hi hr hs h
structure iQ where
 cnt:UInt64
 tag:List UInt8
 boots:UInt32
deriving DecidableEq
def nS(r:iQ):List Value:=[Be r.cnt,vS r.tag,AB r.boots]
structure OpA where
 act:Int
 page:UInt32
 num:Int
 txt:List UInt8
 lv:Value
 fates:List Int
structure Ai where
 off:Bool
 isCut:Bool
 lasts:Int
 counts:Int
 blocks:List (List UInt8)
 pend:List (UInt32×List UInt8)
 bad:List (UInt32×Bool)
 rcnt:UInt64
 rtag:List UInt8
 rboots:UInt32
structure A6 where
 blk:List (List UInt8)
 pnd:List (List UInt8)
 bads:List Bool
 rcnt:UInt64
 rtag:List UInt8
 rboots:UInt32
 left:Int
 off:Bool
end

section
variable {P:Program}{ro:Option Nat}{K:Nat→Prop}{w0:World}{N:Nat}{Q:Dg}{D:List Nat}{l l':Tm}{H H' Hs L:List AX}{ops:Array Oper}{items:I6}
variable {tk:Bool}{o:Oper}{t:Nat}{v:Value}{x y z:Operand}
theorem XD{b off n c sz:Nat}{k:IntKind}{j:Int}{ty e:TypeId}(q:Nat)(ho:At ops N l o t (.slice ty x (some z) none none))(hty:P.underlying ty=some (.slice e))(hsz:DU P e=some sz)(hx:Bo l x=some (.slice (some ⟨b,off,none⟩) n c))(hz:Bo l z=some (.int k j))
(hj:j=(q:Int))(hq:q≤n)(hqc:q<c)(h:SL P ro K w0 N ops Hs items Q D ((t,.slice (some ⟨b,off+q*sz,none⟩) (n-q) (c-q))::l) H):SL P ro K w0 N ops Hs (.cons (tk,o) items) Q D l H:=
 SL.val ho rfl (fun a w ha _=>by
  subst hj
  simp only[execOp,ho.op,Instr.sliceAt,Instr.slice,Option.map]
  simp[ha.eval hx,ha.eval hz,A2 hty,CY hsz,Instr.sliceBounds,Instr.sliceBound,asIntOf,hq,CU];omega) h
theorem mP{b off dl dc sl sc:Nat}{c:Array Value}{e ty ty':TypeId}{ad:Addr}(i:Nat)(news:List Value)(ho:At ops N l o t (.call { callee:=.builtin .copy,args:=#[x,y],argTypes:=#[ty,ty'] }))(hty:P.underlying ty=some (.slice e))(hsz:DU P e=some 1)
(hx:Bo l x=some (.slice (some ⟨b,off,none⟩) dl dc))(hy:Bo l y=some (.slice (some ad) sl sc))(hi:H[i]? = some (own b (.cells c e)))
(hn:news.length=Nat.min sl dl)(hnews:∀w,HW K w0 H w→∀j u,news[j]? = some u→w.cell? (ad.add j)=some u)(h1:∀u∈news,u.oneCell'=true)(hle:off+news.length≤c.size)
(hs:FF Hs (H.set i (own b (.cells (Fp c off news) e))))(h:SL P ro K w0 N ops Hs items Q D ((t,vI news.length)::l) (H.set i (own b (.cells (Fp c off news) e)))):SL P ro K w0 N ops Hs (.cons (false,o) items) Q D l H:=
 IJ (fun _:Unit=>vI news.length) (fun _=>H.set i (own b (.cells (Fp c off news) e))) ho rfl (fun a w ha hw=>by
  have hb:w.heap[b]? = some (.cells c e (0,0)):=hw.holds _ (List.mem_append_left _ (List.mem_of_getElem? hi))
  obtain⟨w',hrun,hw'⟩:=Nl (P:=P) news off 0 c w hb (by simpa using hle) h1
  have hl:=run_loadCells_list (P:=P) w ad news (hnews w hw.dropMarks.s)
  have hs1:=CY (w:=w) hsz
  refine⟨(),w',?_,?_⟩
  unfold execOp
  simp only[ho.op,resolve,Sem.run_bind,Sem.run_pure,Result.andThen_ok,invoke]
  simp only[List.map_toArray,List.map_cons,List.map_nil,ha.eval hx,ha.eval hy]
  simp[builtin,Builtin.copy_,A2 hty,Builtin.lenOf,Builtin.firstCells,hs1,←hn,hl,hrun,goInt]
  rw[hw']
  exact hw.putAt i hi) (fun _=>hs) (fun _=>h)
theorem oI{α:Type}{b n:Nat}{c:Array Value}{e:TypeId}(enc:α→List Value)(sz:Nat)(xs:List α)(hn:xs.length=n)(hc:c.toList=xs.flatMap enc)(hl:∀x,(enc x).length=sz)(hm:n≤1000000)
(h:SL P ro K w0 N ops Hs items Q D l (AD e sz (.slice (some ⟨b,0,none⟩) n n) enc xs::H)):SL P ro K w0 N ops Hs items Q D l (own b (.cells c e)::H):=by
 subst hn
 exact B4 enc sz xs hc hl (Nat.ble_eq_true_of_le hm) h
end

section
variable {P:Program}{ro:Option Nat}{K:Nat→Prop}{w0:World}{N:Nat}{Q:Dg}{D:List Nat}{l l':Tm}{H H' Hs L:List AX}{ops:Array Oper}{items:I6}
def QC(P:Program)(K:Nat→Prop)(w0:World)(f:FuncId)(cap:List Value)(Hit G0:List AX){α:Type}(enc:α→List Value)(xs:List α):Prop:=
 ∀(lp:Nat) (J9:List α→List AX→Prop) (X:List AX→Prop) (T:List AX) (rc:AX),
  (∀pre x suf,xs=pre++x::suf→∀G,J9 pre G→∀M,qE P K w0 lp (enc x) (G++M) fun b G'=>∃G1,G'=G1++M∧(if b then J9 (pre++[x]) G1 else X G1))→
  J9 [] (rc::G0)→WN P K w0 f (vY lp::cap) (Hit++(rc::G0)) T fun _ M=>J9 xs M∨X M
theorem N7{α:Type}{g:Operand}{ps:Array Tmp}{assign body:Code}{f:FuncId}{cap:List Value}{Hit:List AX}{enc:α→List Value}(xs:List α){G0:List AX}
(J9:List α→List AX→Prop)(X:Code→List AX→Prop)
(hg:Bo l g=some (.func (.func f) #[] cap.toArray))(hf:AP P f=true)(hps:ps.toList.all (fun p=>Nat.blt p N)=true)(hlen:∀x,(enc x).length=ps.size)
(hseq:QC P K w0 f cap Hit G0 enc xs)(hH:H=Hit++G0)(h0:J9 [] G0)
(hbody:∀pre x suf G,xs=pre++x::suf→J9 pre G→∀r lp Rest,SX P (some lp) K w0 N assign (bgn P lp body (jy K w0 J9 X pre x (Tl r lp Rest .busy))) [] (SH ps.toList (enc x) l) (G++Tl r lp Rest .ready))
(hdone:∀G D,J9 xs G→SQ K w0 N Q .normal D l G)
(hstop:∀c G D,X c G→SX P none K w0 N c Q D l G):SX P none K w0 N (.rangeFunc g ps assign body) Q D l H:=by
 intro a w ha hw
 subst hH
 refine wpIn_rangeFunc fun fn _=>?_
 let r:Loop:={ state:=.ready,pending:=none,fn:=fn,tmps:=a.tmps,params:=ps,assign:=assign,body:=body,defers:=w.heap.size }
 refine⟨w.heap.size+1,[{ target:=.collected w.heap.size,args:=#[] }],(w.alloc (.deferred (some []))).alloc (.loop r),{ target:=.fn (.func f) cap.toArray,args:=#[vY (w.heap.size+1)] },(w.alloc (.deferred (some []))).alloc (.loop r),
  f,(vY (w.heap.size+1)::cap).toArray,(w.alloc (.deferred (some []))).alloc (.loop r),?_,?_,fun _ _=>PJ _ _,?_,fun hd=>by simp[Qn]at hd,?_⟩
 rw[N5];exact run_enterLoop_outer fn a.tmps ps assign body
 have hev:=ha.vals.eval hg
 simp[resolve,hev,Deferred.ofValue]
 rfl
 simp[invoke,NW hf]
 
 generalize hlp:w.heap.size+1=lp
 have hw1:Bj K w0 ((Hit++(Tl r lp [] .ready++G0))++[Bf (w.heap.size::D)]) ((w.alloc (.deferred (some []))).alloc (.loop r)):=by
  have h1:=(hw.alloc (.deferred (some []))).alloc (.loop r)
  rw[World.size_alloc,hlp]at h1
  
  have hm:Bj K w0 (Bf (w.heap.size::D)::own lp (.loop r)::(Hit++G0)) ((w.alloc (.deferred (some []))).alloc (.loop r)):=by
   have hp:(own lp (.loop r)::own w.heap.size (.deferred (some []))::(Hit++G0++[Bf D])).Perm (own w.heap.size (.deferred (some []))::Bf D::own lp (.loop r)::(Hit++G0)):=by
    refine(List.Perm.swap _ _ _).trans (List.Perm.cons _ ?_)
    refine(List.Perm.cons _ (List.perm_append_comm (l₁:=Hit++G0) (l₂:=[Bf D]))).trans ?_
    exact List.Perm.swap _ _ _
   have h2:=h1.perm hp
   have hpw:=List.pairwise_cons.1 h2.disj
   have hpw2:=List.pairwise_cons.1 hpw.2
   have hmk:=h2.holds (Bf D) zS
   have hnew:=h2.holds (own w.heap.size (.deferred (some []))) (List.mem_cons_self ..)
   refine⟨h2.os,h2.tape,h2.output,h2.size,h2.klt,h2.keep,?_,?_,?_⟩
   intro c hc
   rcases List.mem_cons.1 hc with rfl | hc
   refine⟨List.nodup_cons.2 ⟨fun hin=>hpw.1 (Bf D) zS _ rfl hin,hmk.1⟩,fun b hb=>?_⟩
   rcases List.mem_cons.1 hb with rfl | hb
   exact hnew
   exact hmk.2 b hb
   exact h2.holds c (by simp only[List.mem_cons]at hc ⊢;exact .inr (.inr hc))
   intro c hc b hb
   rcases List.mem_cons.1 hc with rfl | hc
   rcases List.mem_cons.1 hb with rfl | hb
   exact h2.foot (own w.heap.size (.deferred (some []))) (List.mem_cons_self ..) _ rfl
   exact h2.foot (Bf D) zS b hb
   exact h2.foot c (by simp only[List.mem_cons]at hc ⊢;exact .inr (.inr hc)) b hb
   refine List.pairwise_cons.2 ⟨fun c hc b hb hb'=>?_,hpw2.2⟩
   rcases List.mem_cons.1 hb with rfl | hb
   exact hpw.1 c (List.mem_cons_of_mem _ hc) _ rfl hb'
   exact hpw2.1 c hc b hb hb'
  refine hm.perm ?_
  have e:Tl r lp [] .ready=[own lp (.loop r)]:=rfl
  rw[e]
  refine(List.perm_append_comm (l₁:=[Bf (w.heap.size::D)])).trans (List.Perm.append_right _ ?_)
  simpa using(List.perm_middle (l₁:=Hit) (a:=own lp (.loop r)) (l₂:=G0)).symm
 have hN:∀p∈ps.toList,p<a.tmps.size:=fun p hp=>by
  rw[ha.size]
  exact JB (List.all_eq_true.1 hps p hp)
 let D':=w.heap.size::D
 have hcon:=hseq lp (fun pre Gx=>∃G,J9 pre G∧Gx=Tl r lp [] .ready++G) (fun Gx=>∃c G,X c G∧Gx=own lp (.loop { r with state:=.done,pending:=some c })::G) [Bf D'] (own lp (.loop { r with state:=.ready,pending:=none })) ?_ ⟨G0,h0,rfl⟩
 refine SV none ((hcon _ hw1).mono ?_)
 rintro e w' ⟨v,M,rfl,hM,hw'⟩
 have hD:N8 N D' l { tmps:=a.tmps,defers:=[{ target:=.collected w.heap.size,args:=#[] }]++a.defers }:=⟨ha.size,by simp[ha.defers,D',d6],ha.vals⟩
 rcases hM with⟨G,hJ,rfl⟩ | ⟨c,G,hX,rfl⟩
 have hl:w'.heap[lp]? = some (.loop { r with state:=.ready,pending:=none }):=hw'.holds (own lp _) (by simp[Tl])
 refine⟨_,_,run_endLoop hl zS,?_⟩
 refine hdone G D' hJ _ _ hD ?_
 have h3:=(show Bj K w0 (own lp (.loop { r with state:=.ready,pending:=none })::(G++[Bf D'])) w' from hw').put (o':=.loop { r with state:=.exhausted,pending:=none })
 exact h3.sublist (List.sublist_cons_self _ _)
 have hl:w'.heap[lp]? = some (.loop { r with state:=.done,pending:=some c }):=hw'.holds (own lp _) zS
 refine⟨_,_,run_endLoop hl zS,?_⟩
 refine hstop c G D' hX _ _ hD ?_
 have h3:=(show Bj K w0 (own lp (.loop { r with state:=.done,pending:=some c })::(G++[Bf D'])) w' from hw').put (o':=.loop { r with state:=.exhausted,pending:=some c })
 exact h3.sublist (List.sublist_cons_self _ _)
 
 rintro pre x suf hxs Gx ⟨G,hJ,rfl⟩ M w₁ hw₁
 have hl:w₁.heap[lp]? = some (.loop { r with state:=.ready,pending:=none }):=hw₁.holds (own lp _) (by simp[Tl])
 refine⟨_,_,_,_,run_yield hl (by simp[hlen];rfl),?_⟩
 refine roundIn_of_wpIn trivial ?_
 have hw₂:Bj K w0 ((G++Tl r lp M .ready)++[Bf []]) w₁:=by
  refine Bj.marks0 (hw₁.perm ?_)
  show(own lp _::(G++M)).Perm (G++own lp _::M)
  exact List.perm_middle.symm
 have hzip:((ps.zip (enc x).toArray).foldl (fun tmps (t,a)=>tmps.setIfInBounds t a) a.tmps)=((ps.toList.zip (enc x)).foldl (fun tm (t,a)=>tm.setIfInBounds t a) a.tmps):=by
  rw[←Array.foldl_toList,Array.toList_zip]
 have hb:=hbody pre x suf G hxs hJ r lp M { tmps:=(ps.zip (enc x).toArray).foldl (fun tmps (t,a)=>tmps.setIfInBounds t a) a.tmps,defers:=[] } w₁
  ⟨by rw[hzip,K5];exact ha.size,rfl,by rw[hzip];exact Su ps.toList (enc x) l a.tmps hN ha.vals⟩ hw₂
 refine wpIn_mono hb ?_
 intro e a' w' q
 cases e with
 | normal=>
  obtain⟨w₃,hbr,hbody'⟩:=q
  refine⟨w₃,hbr,wpIn_mono hbody' ?_⟩
  have fin:∀(jump:Option Code) (G':List AX) (w₄:World),Bj K w0 (G'++Tl r lp M .busy) w₄→
    (Instr.endRound lp jump).run P w₄=.ok (.bool jump.isNone) (w₄.putObj lp (.loop { r with state:=if jump.isNone then .ready else .done,pending:=jump }))∧
    Bj K w0 ((own lp (.loop { r with state:=if jump.isNone then .ready else .done,pending:=jump })::G')++M) (w₄.putObj lp (.loop { r with state:=if jump.isNone then .ready else .done,pending:=jump })):=by
   intro jump G' w₄ h4
   have hl4:w₄.heap[lp]? = some (.loop { r with state:=.busy,pending:=none }):=h4.holds (own lp _) (by simp[Tl])
   refine⟨run_endRound (r:={ r with state:=.busy,pending:=none }) jump hl4,?_⟩
   have h5:Bj K w0 (own lp (.loop { r with state:=.busy,pending:=none })::(G'++M)) w₄:=h4.perm List.perm_middle
   exact h5.put
  intro e₂ a₂ w₄ q₂
  cases e₂ with
  | normal=>
   obtain⟨G',hJ',h4⟩:=q₂
   obtain⟨hrun,h5⟩:=fin none G' w₄ h4
   exact⟨_,_,hrun,_,_,rfl,⟨_,rfl,by simp only[Option.isNone_none,if_true];exact⟨G',hJ',rfl⟩⟩,h5⟩
  | ret=>
   obtain⟨G',hX',h4⟩:=q₂
   obtain⟨hrun,h5⟩:=fin (some .ret) G' w₄ h4
   exact⟨_,_,hrun,_,_,rfl,⟨_,rfl,by simp only[Option.isNone_some,Bool.false_eq_true,if_false];exact⟨_,G',hX',rfl⟩⟩,h5⟩
  | exit id=>
   obtain⟨G',hX',h4⟩:=q₂
   obtain⟨hrun,h5⟩:=fin (some (.exit id)) G' w₄ h4
   exact⟨_,_,hrun,_,_,rfl,⟨_,rfl,by simp only[Option.isNone_some,Bool.false_eq_true,if_false];exact⟨_,G',hX',rfl⟩⟩,h5⟩
  | goto _=>exact q₂.elim
  | panic _=>exact q₂.elim
  | outgrown=>exact q₂.elim
 | exit _=>exact q.elim
 | goto _=>exact q.elim
 | ret=>exact q.elim
 | panic _=>exact q.elim
 | outgrown=>exact q.elim
def Rn{α σ R:Type}(body:(σ→Option R)→α→σ→Option R)(fin:σ→Option R):List α→σ→Option R
 | [],s=>fin s
 | x::r,s=>body (Rn body fin r) x s
theorem Ts{α:Type}{xs pre suf suf':List α}{x:α}(h:xs=pre++x::suf)(h':xs=(pre++[x])++suf'):suf'=suf:=by
 rw[h,List.append_assoc]at h'
 simpa using(List.append_cancel_left h').symm
end

section
variable {P:Program}{ro:Option Nat}{K:Nat→Prop}{w0:World}{N:Nat}{Q:Dg}{D:List Nat}{l l':Tm}{H H' Hs L:List AX}{ops:Array Oper}{items:I6}
variable {tk:Bool}{o:Oper}{t:Nat}{v:Value}{x y z:Operand}
def wM{α:Type}:Option α→Option Unit
 | none=>some ()
 | some _=>none
theorem rW{α:Type}{o:Option α}{d:α}{u:Unit}(h:wM o=some u)(h':o=some d):False:=by
 rw[h']at h;cases h
def ltI(j:Int)(n:Nat):Option Unit:=if j<(n:Int)then some ()else none
theorem W9{ty e:TypeId}{sz:Nat}(ho:At ops N l o t (.buildSlice ty 0 #[]))(hty:P.underlying ty=some (.slice e))(hsz:DU P e=some sz)(hs:∀b,FF Hs (own b (.cells #[] e)::H))
(h:∀b,SL P ro K w0 N ops Hs items Q D ((t,.slice (some ⟨b,0,none⟩) 0 0)::l) (own b (.cells #[] e)::H)):SL P ro K w0 N ops Hs (.cons (false,o) items) Q D l H:=
 IJ (fun b=>.slice (some ⟨b,0,none⟩) 0 0) (fun b=>own b (.cells #[] e)::H) ho rfl (fun a w ha hw=>by
  refine⟨w.heap.size,w.alloc (.cells #[] e),?_,by exact hw.alloc _⟩
  unfold execOp
  simp only[ho.op,Instr.buildSlice,Sem.run_bind,A2 hty,Result.andThen_ok,CY hsz,Nat.zero_mul,if_neg (show ¬(0>2^24) by omega),if_true,Sem.run_pure,show(Array.range 0)=(#[]:Array Nat)from rfl,List.map_toArray,List.map_nil,Array.map_empty,Instr.fill,newRow,run_newObj]
  rfl) hs h
def YW(pl:List (Nat×Nat)):Array Value→List (Nat×Array Value)→Option (Array Value)
 | c,[]=>some c
 | c,(i,u)::r=>
  match pl[i]? with
  | none=>none
  | some (off,size)=>bif Nat.beq u.size size&&Nat.ble (off+u.size) c.size then YW pl (Fp c off u.toList) r else none
theorem jH(pl:List (Nat×Nat)):∀(is:List Nat) (vs:List Value) (c:Array Value),R6 pl c (is.zip vs)=YW pl c (is.zip (vs.map Value.cells))
 | [],vs,c=>by simp[R6,YW]
 | i::is,[],c=>by simp[R6,YW]
 | i::is,v::vs,c=>by
  simp only[List.zip_cons_cons,List.map_cons,R6,YW]
  cases hi:pl[i]? with
  | none=>rfl
  | some p=>
   obtain⟨off,size⟩:=p
   simp only[jH pl is vs]
theorem UP{ty:TypeId}{parts:Array (Nat×Operand)}{pl:List (Nat×Nat)}{zv:Value}{r:Array Value}(vs:List Value)(css:List (Array Value))(hc:vs.map Value.cells=css)(ho:At ops N l o t (.build ty parts))(hp:NT P ty=some pl)(hk:NU P ty=true)(hz:Ev P ty=some zv)
(hv:dD l (parts.toList.map (·.2)) vs)(hf:YW pl zv.cells ((parts.toList.map (·.1)).zip css)=some r)(h:SL P ro K w0 N ops Hs items Q D ((t,.agg r)::l) H):SL P ro K w0 N ops Hs (.cons (tk,o) items) Q D l H:=
 B5 vs ho hp hk hz hv (by rw[jH,hc];exact hf) h
def e6(P:Program)(K:Nat→Prop)(w0:World)(f:FuncId)(cap:List Value)(Hit G0:List AX){α:Type}(enc:α→List Value)(xs:List α):Prop:=
 ∀(lp:Nat) (J9:List α→List AX→Prop) (X:List AX→Prop) (T:List AX) (rc:AX),(∀pre G,J9 pre G→pre=[])→
  (∀pre x suf,xs=pre++x::suf→∀G,J9 pre G→∀M,qE P K w0 lp (enc x) (G++M) fun b G'=>∃G1,G'=G1++M∧(if b then J9 (pre++[x]) G1 else X G1))→
  J9 [] (rc::G0)→WN P K w0 f (vY lp::cap) (Hit++(rc::G0)) T fun _ M=>J9 xs M∨X M
theorem ez{α:Type}{g:Operand}{ps:Array Tmp}{assign body:Code}{f:FuncId}{cap:List Value}{Hit:List AX}{enc:α→List Value}(xs:List α){G0:List AX}
(J9:List α→List AX→Prop)(X:Code→List AX→Prop)
(hg:Bo l g=some (.func (.func f) #[] cap.toArray))(hf:AP P f=true)(hps:ps.toList.all (fun p=>Nat.blt p N)=true)(hlen:∀x,(enc x).length=ps.size)
(hseq:e6 P K w0 f cap Hit G0 enc xs)(hH:H=Hit++G0)(h0:J9 [] G0)(hJ1:∀pre G,J9 pre G→pre=[])
(hbody:∀pre x suf G,xs=pre++x::suf→J9 pre G→∀r lp Rest,SX P (some lp) K w0 N assign (bgn P lp body (jy K w0 J9 X pre x (Tl r lp Rest .busy))) [] (SH ps.toList (enc x) l) (G++Tl r lp Rest .ready))
(hdone:∀G D,J9 xs G→SQ K w0 N Q .normal D l G)
(hstop:∀c G D,X c G→SX P none K w0 N c Q D l G):SX P none K w0 N (.rangeFunc g ps assign body) Q D l H:=by
 intro a w ha hw
 subst hH
 refine wpIn_rangeFunc fun fn _=>?_
 let r:Loop:={ state:=.ready,pending:=none,fn:=fn,tmps:=a.tmps,params:=ps,assign:=assign,body:=body,defers:=w.heap.size }
 refine⟨w.heap.size+1,[{ target:=.collected w.heap.size,args:=#[] }],(w.alloc (.deferred (some []))).alloc (.loop r),{ target:=.fn (.func f) cap.toArray,args:=#[vY (w.heap.size+1)] },(w.alloc (.deferred (some []))).alloc (.loop r),
  f,(vY (w.heap.size+1)::cap).toArray,(w.alloc (.deferred (some []))).alloc (.loop r),?_,?_,fun _ _=>PJ _ _,?_,fun hd=>by simp[Qn]at hd,?_⟩
 rw[N5];exact run_enterLoop_outer fn a.tmps ps assign body
 have hev:=ha.vals.eval hg
 simp[resolve,hev,Deferred.ofValue]
 rfl
 simp[invoke,NW hf]
 
 generalize hlp:w.heap.size+1=lp
 have hw1:Bj K w0 ((Hit++(Tl r lp [] .ready++G0))++[Bf (w.heap.size::D)]) ((w.alloc (.deferred (some []))).alloc (.loop r)):=by
  have h1:=(hw.alloc (.deferred (some []))).alloc (.loop r)
  rw[World.size_alloc,hlp]at h1
  
  have hm:Bj K w0 (Bf (w.heap.size::D)::own lp (.loop r)::(Hit++G0)) ((w.alloc (.deferred (some []))).alloc (.loop r)):=by
   have hp:(own lp (.loop r)::own w.heap.size (.deferred (some []))::(Hit++G0++[Bf D])).Perm (own w.heap.size (.deferred (some []))::Bf D::own lp (.loop r)::(Hit++G0)):=by
    refine(List.Perm.swap _ _ _).trans (List.Perm.cons _ ?_)
    refine(List.Perm.cons _ (List.perm_append_comm (l₁:=Hit++G0) (l₂:=[Bf D]))).trans ?_
    exact List.Perm.swap _ _ _
   have h2:=h1.perm hp
   have hpw:=List.pairwise_cons.1 h2.disj
   have hpw2:=List.pairwise_cons.1 hpw.2
   have hmk:=h2.holds (Bf D) zS
   have hnew:=h2.holds (own w.heap.size (.deferred (some []))) (List.mem_cons_self ..)
   refine⟨h2.os,h2.tape,h2.output,h2.size,h2.klt,h2.keep,?_,?_,?_⟩
   intro c hc
   rcases List.mem_cons.1 hc with rfl | hc
   refine⟨List.nodup_cons.2 ⟨fun hin=>hpw.1 (Bf D) zS _ rfl hin,hmk.1⟩,fun b hb=>?_⟩
   rcases List.mem_cons.1 hb with rfl | hb
   exact hnew
   exact hmk.2 b hb
   exact h2.holds c (by simp only[List.mem_cons]at hc ⊢;exact .inr (.inr hc))
   intro c hc b hb
   rcases List.mem_cons.1 hc with rfl | hc
   rcases List.mem_cons.1 hb with rfl | hb
   exact h2.foot (own w.heap.size (.deferred (some []))) (List.mem_cons_self ..) _ rfl
   exact h2.foot (Bf D) zS b hb
   exact h2.foot c (by simp only[List.mem_cons]at hc ⊢;exact .inr (.inr hc)) b hb
   refine List.pairwise_cons.2 ⟨fun c hc b hb hb'=>?_,hpw2.2⟩
   rcases List.mem_cons.1 hb with rfl | hb
   exact hpw.1 c (List.mem_cons_of_mem _ hc) _ rfl hb'
   exact hpw2.1 c hc b hb hb'
  refine hm.perm ?_
  have e:Tl r lp [] .ready=[own lp (.loop r)]:=rfl
  rw[e]
  refine(List.perm_append_comm (l₁:=[Bf (w.heap.size::D)])).trans (List.Perm.append_right _ ?_)
  simpa using(List.perm_middle (l₁:=Hit) (a:=own lp (.loop r)) (l₂:=G0)).symm
 have hN:∀p∈ps.toList,p<a.tmps.size:=fun p hp=>by
  rw[ha.size]
  exact JB (List.all_eq_true.1 hps p hp)
 let D':=w.heap.size::D
 have hcon:=hseq lp (fun pre Gx=>∃G,J9 pre G∧Gx=Tl r lp [] .ready++G) (fun Gx=>∃c G,X c G∧Gx=own lp (.loop { r with state:=.done,pending:=some c })::G) [Bf D'] (own lp (.loop { r with state:=.ready,pending:=none })) (fun pre _ h=>hJ1 pre _ h.choose_spec.1) ?_ ⟨G0,h0,rfl⟩
 refine SV none ((hcon _ hw1).mono ?_)
 rintro e w' ⟨v,M,rfl,hM,hw'⟩
 have hD:N8 N D' l { tmps:=a.tmps,defers:=[{ target:=.collected w.heap.size,args:=#[] }]++a.defers }:=⟨ha.size,by simp[ha.defers,D',d6],ha.vals⟩
 rcases hM with⟨G,hJ,rfl⟩ | ⟨c,G,hX,rfl⟩
 have hl:w'.heap[lp]? = some (.loop { r with state:=.ready,pending:=none }):=hw'.holds (own lp _) (by simp[Tl])
 refine⟨_,_,run_endLoop hl zS,?_⟩
 refine hdone G D' hJ _ _ hD ?_
 have h3:=(show Bj K w0 (own lp (.loop { r with state:=.ready,pending:=none })::(G++[Bf D'])) w' from hw').put (o':=.loop { r with state:=.exhausted,pending:=none })
 exact h3.sublist (List.sublist_cons_self _ _)
 have hl:w'.heap[lp]? = some (.loop { r with state:=.done,pending:=some c }):=hw'.holds (own lp _) zS
 refine⟨_,_,run_endLoop hl zS,?_⟩
 refine hstop c G D' hX _ _ hD ?_
 have h3:=(show Bj K w0 (own lp (.loop { r with state:=.done,pending:=some c })::(G++[Bf D'])) w' from hw').put (o':=.loop { r with state:=.exhausted,pending:=some c })
 exact h3.sublist (List.sublist_cons_self _ _)
 
 rintro pre x suf hxs Gx ⟨G,hJ,rfl⟩ M w₁ hw₁
 have hl:w₁.heap[lp]? = some (.loop { r with state:=.ready,pending:=none }):=hw₁.holds (own lp _) (by simp[Tl])
 refine⟨_,_,_,_,run_yield hl (by simp[hlen];rfl),?_⟩
 refine roundIn_of_wpIn trivial ?_
 have hw₂:Bj K w0 ((G++Tl r lp M .ready)++[Bf []]) w₁:=by
  refine Bj.marks0 (hw₁.perm ?_)
  show(own lp _::(G++M)).Perm (G++own lp _::M)
  exact List.perm_middle.symm
 have hzip:((ps.zip (enc x).toArray).foldl (fun tmps (t,a)=>tmps.setIfInBounds t a) a.tmps)=((ps.toList.zip (enc x)).foldl (fun tm (t,a)=>tm.setIfInBounds t a) a.tmps):=by
  rw[←Array.foldl_toList,Array.toList_zip]
 have hb:=hbody pre x suf G hxs hJ r lp M { tmps:=(ps.zip (enc x).toArray).foldl (fun tmps (t,a)=>tmps.setIfInBounds t a) a.tmps,defers:=[] } w₁
  ⟨by rw[hzip,K5];exact ha.size,rfl,by rw[hzip];exact Su ps.toList (enc x) l a.tmps hN ha.vals⟩ hw₂
 refine wpIn_mono hb ?_
 intro e a' w' q
 cases e with
 | normal=>
  obtain⟨w₃,hbr,hbody'⟩:=q
  refine⟨w₃,hbr,wpIn_mono hbody' ?_⟩
  have fin:∀(jump:Option Code) (G':List AX) (w₄:World),Bj K w0 (G'++Tl r lp M .busy) w₄→
    (Instr.endRound lp jump).run P w₄=.ok (.bool jump.isNone) (w₄.putObj lp (.loop { r with state:=if jump.isNone then .ready else .done,pending:=jump }))∧
    Bj K w0 ((own lp (.loop { r with state:=if jump.isNone then .ready else .done,pending:=jump })::G')++M) (w₄.putObj lp (.loop { r with state:=if jump.isNone then .ready else .done,pending:=jump })):=by
   intro jump G' w₄ h4
   have hl4:w₄.heap[lp]? = some (.loop { r with state:=.busy,pending:=none }):=h4.holds (own lp _) (by simp[Tl])
   refine⟨run_endRound (r:={ r with state:=.busy,pending:=none }) jump hl4,?_⟩
   have h5:Bj K w0 (own lp (.loop { r with state:=.busy,pending:=none })::(G'++M)) w₄:=h4.perm List.perm_middle
   exact h5.put
  intro e₂ a₂ w₄ q₂
  cases e₂ with
  | normal=>
   obtain⟨G',hJ',h4⟩:=q₂
   obtain⟨hrun,h5⟩:=fin none G' w₄ h4
   exact⟨_,_,hrun,_,_,rfl,⟨_,rfl,by simp only[Option.isNone_none,if_true];exact⟨G',hJ',rfl⟩⟩,h5⟩
  | ret=>
   obtain⟨G',hX',h4⟩:=q₂
   obtain⟨hrun,h5⟩:=fin (some .ret) G' w₄ h4
   exact⟨_,_,hrun,_,_,rfl,⟨_,rfl,by simp only[Option.isNone_some,Bool.false_eq_true,if_false];exact⟨_,G',hX',rfl⟩⟩,h5⟩
  | exit id=>
   obtain⟨G',hX',h4⟩:=q₂
   obtain⟨hrun,h5⟩:=fin (some (.exit id)) G' w₄ h4
   exact⟨_,_,hrun,_,_,rfl,⟨_,rfl,by simp only[Option.isNone_some,Bool.false_eq_true,if_false];exact⟨_,G',hX',rfl⟩⟩,h5⟩
  | goto _=>exact q₂.elim
  | panic _=>exact q₂.elim
  | outgrown=>exact q₂.elim
 | exit _=>exact q.elim
 | goto _=>exact q.elim
 | ret=>exact q.elim
 | panic _=>exact q.elim
 | outgrown=>exact q.elim
theorem sC{fn:Func}{t u s r:Nat}{v v' v'' v4:Value}(hr:fn.results=#[.tmp t,.tmp u,.tmp s,.tmp r])(hv:look l t=some v)(hv':look l u=some v')(hv'':look l s=some v'')(h4:look l r=some v4):∀a w,LU l a→HW K w0 H w→(results fn a.tmps).run P w=.ok (.tuple #[v,v',v'',v4]) w:=by
 intro a w ha _
 have h1:=HZ ha hv
 have h2:=HZ ha hv'
 have h3:=HZ ha hv''
 have h4:=HZ ha h4
 simp[results,hr,←h1,←h2,←h3,←h4]
end

section
structure BR where
 page:UInt32
 tag:List UInt8
deriving DecidableEq
def Bd(r:BR):List Value:=[AB r.page,vS r.tag]
structure Am where
 ring:List BD
 gen:UInt32
 boot:UInt32
 seals:UInt64
 taken:List (UInt32×Bool)
structure BW where
 ring:List BD
 gen:UInt32
 boot:UInt32
 num:UInt64
 taken:List Bool
abbrev dO(b:Nat)(v:Value)(m n:Nat)(d:Ai):AX:=own b (.cells #[vB d.off,vB d.isCut,vI d.lasts,vI d.counts,v,.map (some m),.map (some n),Be d.rcnt,vS d.rtag,AB d.rboots] 102)
abbrev vO(b e:Nat)(v:Value)(m:Nat)(d:Am):AX:=own b (.cells #[vP e 0,v,AB d.gen,AB d.boot,Be d.seals,.map (some m)] 137)
abbrev eO(b:Nat)(x y z:Value)(d:A6):AX:=own b (.cells #[x,y,z,Be d.rcnt,vS d.rtag,AB d.rboots,vI d.left,vB d.off] 118)
abbrev wO(b e:Nat)(v u:Value)(d:BW):AX:=own b (.cells #[vP e 0,v,AB d.gen,AB d.boot,Be d.num,u] 142)
end

section
open Go Go.ChangeShapes Go.WideShapes Go.ChangeAt Go.RowKit Go.Deep Go.Lib Go.Joins
section
variable {G:Type}{enc:TypeId×Value→G}{P:Program}{W:World}
end
end
end Go.Proofs.YtpaohlmgfifebaaGreatDoor
