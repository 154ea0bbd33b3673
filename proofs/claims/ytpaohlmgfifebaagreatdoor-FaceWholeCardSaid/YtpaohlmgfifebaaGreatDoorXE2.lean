/- The texts T0, C0, C1, A0, D0, D1, D2, D3, B0, B1, D4, E0, E1, G0, G1, G2, H0, H1, I0, I1, R1, R2, X0, R3, V0, S14, S15, S16, S17, S18, S19, R4, one behind the other: walks of the program, and plain laws of what it computes. Conditions: as each theorem says. -/
import Derived.Test.YtpaohlmgfifebaaGreatDoorXE1
import Derived.Test.YtpaohlmgfifebaaGreatDoorChecked
import Derived.Maps.Range
import Derived.JoinedOf
import Derived.SliceStrings
import Derived.Deep.Slices
import Derived.HandedShaped

set_option linter.unusedVariables false
set_option linter.unusedSimpArgs false
set_option maxHeartbeats 4000000
set_option maxRecDepth 100000
namespace Go.Proofs.YtpaohlmgfifebaaGreatDoor
open Go
section
abbrev zC:=Vf Tryz.prog
set_option maxRecDepth 100000
theorem C2:Tryz.prog.follows .mixedOrders=true:=zK
theorem Si:PZ Tryz.prog 105=some 5:=zK
theorem EZ:PZ Tryz.prog 146=some 2:=zK
theorem Tx:PZ Tryz.prog 148=some 3:=zK
theorem HD:PZ Tryz.prog 201=some 3:=zK
theorem O4:PZ Tryz.prog 204=some 5:=zK
theorem KM:PZ Tryz.prog 217=some 5:=zK
theorem ZO:PZ Tryz.prog 250=some 8:=zK
theorem uk:PZ Tryz.prog 264=some 4:=zK
theorem Vj:PZ Tryz.prog 267=some 4:=zK
theorem cr:PZ Tryz.prog 313=some 2:=zK
theorem oI:PZ Tryz.prog 317=some 4:=zK
theorem il:PZ Tryz.prog 342=some 16:=zK
theorem ul:PZ Tryz.prog 349=some 8:=zK
theorem um:PZ Tryz.prog 351=some 10:=zK
theorem im:PZ Tryz.prog 365=some 4:=zK
theorem oJ:PZ Tryz.prog 376=some 64:=zK
theorem un:PZ Tryz.prog 378=some 2:=zK
theorem uY:PZ Tryz.prog 38=some 3:=zK
theorem IA:PZ Tryz.prog 43=some 4:=zK
theorem P6:PZ Tryz.prog 55=some 2:=zK
theorem uu:RB Tryz.prog 105=some 40:=zK
theorem uv:RB Tryz.prog 146=some 24:=zK
theorem oS:RB Tryz.prog 148=some 40:=zK
theorem c7:RB Tryz.prog 204=some 64:=zK
theorem xV:RB Tryz.prog 22=some 24:=zK
theorem R9:RB Tryz.prog 36=some 4:=zK
theorem xW:RB Tryz.prog 4=some 1:=zK
theorem ZV:RB Tryz.prog 43=some 32:=zK
theorem XV:RB Tryz.prog 5=some 1:=zK
theorem oT:RB Tryz.prog 55=some 24:=zK
theorem rR:RB Tryz.prog 9=some 16:=zK
theorem ob:AP Tryz.prog 10=true:=zK
theorem rV:AP Tryz.prog 100=true:=zK
theorem rW:AP Tryz.prog 102=true:=zK
theorem kT:AP Tryz.prog 104=true:=zK
theorem rX:AP Tryz.prog 106=true:=zK
theorem dU:AP Tryz.prog 108=true:=zK
theorem rY:AP Tryz.prog 109=true:=zK
theorem i7:AP Tryz.prog 11=true:=zK
theorem rZ:AP Tryz.prog 110=true:=zK
theorem Yv:AP Tryz.prog 111=true:=zK
theorem ra:AP Tryz.prog 112=true:=zK
theorem rf:AP Tryz.prog 113=true:=zK
theorem rg:AP Tryz.prog 114=true:=zK
theorem rh:AP Tryz.prog 115=true:=zK
theorem kU:AP Tryz.prog 116=true:=zK
theorem kV:AP Tryz.prog 117=true:=zK
theorem Yw:AP Tryz.prog 118=true:=zK
theorem dV:AP Tryz.prog 119=true:=zK
theorem u4:AP Tryz.prog 12=true:=zK
theorem dW:AP Tryz.prog 120=true:=zK
theorem dX:AP Tryz.prog 121=true:=zK
theorem dY:AP Tryz.prog 122=true:=zK
theorem dZ:AP Tryz.prog 123=true:=zK
theorem rm:AP Tryz.prog 124=true:=zK
theorem rn:AP Tryz.prog 125=true:=zK
theorem da:AP Tryz.prog 127=true:=zK
theorem kW:AP Tryz.prog 128=true:=zK
theorem kX:AP Tryz.prog 129=true:=zK
theorem i8:AP Tryz.prog 13=true:=zK
theorem kY:AP Tryz.prog 130=true:=zK
theorem kZ:AP Tryz.prog 131=true:=zK
theorem rq:AP Tryz.prog 132=true:=zK
theorem ka:AP Tryz.prog 133=true:=zK
theorem rr:AP Tryz.prog 134=true:=zK
theorem rz:AP Tryz.prog 135=true:=zK
theorem r5:AP Tryz.prog 136=true:=zK
theorem r6:AP Tryz.prog 137=true:=zK
theorem Zo:AP Tryz.prog 14=true:=zK
theorem r7:AP Tryz.prog 140=true:=zK
theorem r8:AP Tryz.prog 143=true:=zK
theorem kb:AP Tryz.prog 144=true:=zK
theorem r9:AP Tryz.prog 145=true:=zK
theorem sA:AP Tryz.prog 148=true:=zK
theorem Wk:AP Tryz.prog 149=true:=zK
theorem oc:AP Tryz.prog 15=true:=zK
theorem sB:AP Tryz.prog 150=true:=zK
theorem sC:AP Tryz.prog 151=true:=zK
theorem kc:AP Tryz.prog 152=true:=zK
theorem kd:AP Tryz.prog 153=true:=zK
theorem sD:AP Tryz.prog 154=true:=zK
theorem ke:AP Tryz.prog 155=true:=zK
theorem sE:AP Tryz.prog 156=true:=zK
theorem kf:AP Tryz.prog 157=true:=zK
theorem sF:AP Tryz.prog 158=true:=zK
theorem sG:AP Tryz.prog 159=true:=zK
theorem sH:AP Tryz.prog 160=true:=zK
theorem kg:AP Tryz.prog 161=true:=zK
theorem Yx:AP Tryz.prog 162=true:=zK
theorem kh:AP Tryz.prog 163=true:=zK
theorem ki:AP Tryz.prog 165=true:=zK
theorem sI:AP Tryz.prog 166=true:=zK
theorem Yy:AP Tryz.prog 167=true:=zK
theorem sJ:AP Tryz.prog 168=true:=zK
theorem sK:AP Tryz.prog 169=true:=zK
theorem sL:AP Tryz.prog 170=true:=zK
theorem sM:AP Tryz.prog 171=true:=zK
theorem sN:AP Tryz.prog 172=true:=zK
theorem sP:AP Tryz.prog 173=true:=zK
theorem sQ:AP Tryz.prog 174=true:=zK
theorem sR:AP Tryz.prog 175=true:=zK
theorem sS:AP Tryz.prog 176=true:=zK
theorem sT:AP Tryz.prog 177=true:=zK
theorem sU:AP Tryz.prog 178=true:=zK
theorem dd:AP Tryz.prog 179=true:=zK
theorem sV:AP Tryz.prog 180=true:=zK
theorem Yz:AP Tryz.prog 181=true:=zK
theorem sW:AP Tryz.prog 185=true:=zK
theorem sX:AP Tryz.prog 186=true:=zK
theorem de:AP Tryz.prog 187=true:=zK
theorem sY:AP Tryz.prog 188=true:=zK
theorem sZ:AP Tryz.prog 189=true:=zK
theorem sa:AP Tryz.prog 191=true:=zK
theorem sb:AP Tryz.prog 192=true:=zK
theorem sd:AP Tryz.prog 193=true:=zK
theorem se:AP Tryz.prog 194=true:=zK
theorem sf:AP Tryz.prog 195=true:=zK
theorem sg:AP Tryz.prog 196=true:=zK
theorem kj:AP Tryz.prog 197=true:=zK
theorem sh:AP Tryz.prog 198=true:=zK
theorem kl:AP Tryz.prog 199=true:=zK
theorem si:AP Tryz.prog 200=true:=zK
theorem sj:AP Tryz.prog 201=true:=zK
theorem OJ:AP Tryz.prog 202=true:=zK
theorem km:AP Tryz.prog 203=true:=zK
theorem sk:AP Tryz.prog 204=true:=zK
theorem sm:AP Tryz.prog 205=true:=zK
theorem sn:AP Tryz.prog 206=true:=zK
theorem df:AP Tryz.prog 207=true:=zK
theorem kn:AP Tryz.prog 208=true:=zK
theorem so:AP Tryz.prog 209=true:=zK
theorem sp:AP Tryz.prog 210=true:=zK
theorem ko:AP Tryz.prog 211=true:=zK
theorem su:AP Tryz.prog 212=true:=zK
theorem OK:AP Tryz.prog 213=true:=zK
theorem sw:AP Tryz.prog 214=true:=zK
theorem sx:AP Tryz.prog 215=true:=zK
theorem kp:AP Tryz.prog 216=true:=zK
theorem kq:AP Tryz.prog 217=true:=zK
theorem sy:AP Tryz.prog 218=true:=zK
theorem tA:AP Tryz.prog 219=true:=zK
theorem kr:AP Tryz.prog 220=true:=zK
theorem tB:AP Tryz.prog 221=true:=zK
theorem dh:AP Tryz.prog 222=true:=zK
theorem di:AP Tryz.prog 223=true:=zK
theorem tC:AP Tryz.prog 224=true:=zK
theorem tD:AP Tryz.prog 225=true:=zK
theorem kt:AP Tryz.prog 226=true:=zK
theorem tE:AP Tryz.prog 227=true:=zK
theorem Y0:AP Tryz.prog 228=true:=zK
theorem Y1:AP Tryz.prog 229=true:=zK
theorem dj:AP Tryz.prog 230=true:=zK
theorem ku:AP Tryz.prog 231=true:=zK
theorem kw:AP Tryz.prog 232=true:=zK
theorem tF:AP Tryz.prog 233=true:=zK
theorem tG:AP Tryz.prog 234=true:=zK
theorem tH:AP Tryz.prog 235=true:=zK
theorem tI:AP Tryz.prog 236=true:=zK
theorem tJ:AP Tryz.prog 237=true:=zK
theorem tK:AP Tryz.prog 238=true:=zK
theorem tM:AP Tryz.prog 239=true:=zK
theorem tN:AP Tryz.prog 240=true:=zK
theorem F7:AP Tryz.prog 241=true:=zK
theorem tO:AP Tryz.prog 242=true:=zK
theorem tP:AP Tryz.prog 243=true:=zK
theorem tQ:AP Tryz.prog 244=true:=zK
theorem kx:AP Tryz.prog 245=true:=zK
theorem tR:AP Tryz.prog 246=true:=zK
theorem tS:AP Tryz.prog 247=true:=zK
theorem tT:AP Tryz.prog 248=true:=zK
theorem ky:AP Tryz.prog 249=true:=zK
theorem od:AP Tryz.prog 25=true:=zK
theorem dm:AP Tryz.prog 250=true:=zK
theorem tU:AP Tryz.prog 251=true:=zK
theorem tV:AP Tryz.prog 252=true:=zK
theorem tW:AP Tryz.prog 253=true:=zK
theorem tX:AP Tryz.prog 254=true:=zK
theorem kz:AP Tryz.prog 255=true:=zK
theorem tY:AP Tryz.prog 256=true:=zK
theorem k0:AP Tryz.prog 257=true:=zK
theorem tZ:AP Tryz.prog 258=true:=zK
theorem ta:AP Tryz.prog 259=true:=zK
theorem u5:AP Tryz.prog 26=true:=zK
theorem tc:AP Tryz.prog 260=true:=zK
theorem dn:AP Tryz.prog 261=true:=zK
theorem td:AP Tryz.prog 262=true:=zK
theorem te:AP Tryz.prog 263=true:=zK
theorem dp:AP Tryz.prog 264=true:=zK
theorem k5:AP Tryz.prog 265=true:=zK
theorem k9:AP Tryz.prog 266=true:=zK
theorem tf:AP Tryz.prog 267=true:=zK
theorem Uy:AP Tryz.prog 268=true:=zK
theorem tg:AP Tryz.prog 269=true:=zK
theorem u6:AP Tryz.prog 27=true:=zK
theorem ti:AP Tryz.prog 270=true:=zK
theorem tj:AP Tryz.prog 271=true:=zK
theorem lA:AP Tryz.prog 272=true:=zK
theorem tn:AP Tryz.prog 273=true:=zK
theorem to:AP Tryz.prog 274=true:=zK
theorem lB:AP Tryz.prog 275=true:=zK
theorem lC:AP Tryz.prog 276=true:=zK
theorem tp:AP Tryz.prog 277=true:=zK
theorem tq:AP Tryz.prog 278=true:=zK
theorem dq:AP Tryz.prog 279=true:=zK
theorem u7:AP Tryz.prog 28=true:=zK
theorem tu:AP Tryz.prog 280=true:=zK
theorem RL:AP Tryz.prog 281=true:=zK
theorem PQ:AP Tryz.prog 282=true:=zK
theorem tv:AP Tryz.prog 283=true:=zK
theorem tw:AP Tryz.prog 284=true:=zK
theorem dr:AP Tryz.prog 285=true:=zK
theorem tx:AP Tryz.prog 286=true:=zK
theorem PR:AP Tryz.prog 287=true:=zK
theorem tz:AP Tryz.prog 288=true:=zK
theorem lD:AP Tryz.prog 289=true:=zK
theorem u9:AP Tryz.prog 29=true:=zK
theorem lE:AP Tryz.prog 290=true:=zK
theorem Y2:AP Tryz.prog 291=true:=zK
theorem oe:AP Tryz.prog 30=true:=zK
theorem vA:AP Tryz.prog 31=true:=zK
theorem vC:AP Tryz.prog 32=true:=zK
theorem Zp:AP Tryz.prog 33=true:=zK
theorem vD:AP Tryz.prog 34=true:=zK
theorem vE:AP Tryz.prog 35=true:=zK
theorem oh:AP Tryz.prog 36=true:=zK
theorem i9:AP Tryz.prog 37=true:=zK
theorem vF:AP Tryz.prog 38=true:=zK
theorem vG:AP Tryz.prog 48=true:=zK
theorem UE:AP Tryz.prog 49=true:=zK
theorem vH:AP Tryz.prog 50=true:=zK
theorem ol:AP Tryz.prog 51=true:=zK
theorem om:AP Tryz.prog 52=true:=zK
theorem oo:AP Tryz.prog 53=true:=zK
theorem vJ:AP Tryz.prog 54=true:=zK
theorem oq:AP Tryz.prog 55=true:=zK
theorem vK:AP Tryz.prog 56=true:=zK
theorem vL:AP Tryz.prog 57=true:=zK
theorem vM:AP Tryz.prog 58=true:=zK
theorem vN:AP Tryz.prog 59=true:=zK
theorem vQ:AP Tryz.prog 60=true:=zK
theorem vR:AP Tryz.prog 61=true:=zK
theorem vT:AP Tryz.prog 62=true:=zK
theorem vU:AP Tryz.prog 63=true:=zK
theorem vV:AP Tryz.prog 64=true:=zK
theorem xX:AP Tryz.prog 7=true:=zK
theorem vW:AP Tryz.prog 72=true:=zK
theorem ot:AP Tryz.prog 73=true:=zK
theorem ou:AP Tryz.prog 75=true:=zK
theorem UF:AP Tryz.prog 76=true:=zK
theorem dt:AP Tryz.prog 77=true:=zK
theorem Rg:AP Tryz.prog 78=true:=zK
theorem jA:AP Tryz.prog 79=true:=zK
theorem ov:AP Tryz.prog 8=true:=zK
theorem vX:AP Tryz.prog 80=true:=zK
theorem vZ:AP Tryz.prog 81=true:=zK
theorem vc:AP Tryz.prog 82=true:=zK
theorem ow:AP Tryz.prog 83=true:=zK
theorem ox:AP Tryz.prog 84=true:=zK
theorem oy:AP Tryz.prog 85=true:=zK
theorem jB:AP Tryz.prog 86=true:=zK
theorem du:AP Tryz.prog 87=true:=zK
theorem oz:AP Tryz.prog 88=true:=zK
theorem vd:AP Tryz.prog 89=true:=zK
theorem uZ:AP Tryz.prog 9=true:=zK
theorem ve:AP Tryz.prog 90=true:=zK
theorem vf:AP Tryz.prog 91=true:=zK
theorem Zq:AP Tryz.prog 92=true:=zK
theorem vh:AP Tryz.prog 93=true:=zK
theorem vi:AP Tryz.prog 94=true:=zK
theorem jC:AP Tryz.prog 95=true:=zK
theorem pA:AP Tryz.prog 97=true:=zK
theorem pB:AP Tryz.prog 99=true:=zK
theorem yD:Tryz.prog.cellsOf 5=1:=zK
theorem vl:jK Tryz.prog 146=some [(0,.int .u32),(1,.string)]:=zK
theorem jJ:jK Tryz.prog 201=some [(0,.int .u32),(1,.int .u32),(2,.int .i64)]:=zK
theorem pI:jK Tryz.prog 43=some [(0,.int .u64),(1,.int .u32),(2,.int .u32),(3,.string)]:=zK
theorem Wv:fo Tryz.prog 102 0=some 0:=zK
theorem Ww:fo Tryz.prog 102 1=some 4:=zK
theorem Wx:fo Tryz.prog 102 2=some 5:=zK
theorem ND:fo Tryz.prog 102 4=some 7:=zK
theorem Wy:fo Tryz.prog 105 0=some 0:=zK
theorem Z4:fo Tryz.prog 105 1=some 1:=zK
theorem SK:fo Tryz.prog 118 0=some 0:=zK
theorem SM:fo Tryz.prog 118 1=some 1:=zK
theorem gX:fo Tryz.prog 118 2=some 2:=zK
theorem NE:fo Tryz.prog 118 3=some 3:=zK
theorem Wz:fo Tryz.prog 118 4=some 6:=zK
theorem gY:fo Tryz.prog 118 5=some 7:=zK
theorem Lw:fo Tryz.prog 131 0=some 0:=zK
theorem pK:fo Tryz.prog 131 1=some 1:=zK
theorem W0:fo Tryz.prog 131 2=some 2:=zK
theorem pL:fo Tryz.prog 131 3=some 3:=zK
theorem gZ:fo Tryz.prog 137 0=some 0:=zK
theorem pM:fo Tryz.prog 137 1=some 1:=zK
theorem pN:fo Tryz.prog 137 2=some 2:=zK
theorem pO:fo Tryz.prog 137 3=some 3:=zK
theorem Z5:fo Tryz.prog 137 4=some 4:=zK
theorem W1:fo Tryz.prog 137 5=some 5:=zK
theorem Qt:fo Tryz.prog 142 0=some 0:=zK
theorem pP:fo Tryz.prog 142 1=some 1:=zK
theorem Z6:fo Tryz.prog 142 2=some 2:=zK
theorem pQ:fo Tryz.prog 142 3=some 3:=zK
theorem Z7:fo Tryz.prog 142 4=some 4:=zK
theorem UN:fo Tryz.prog 142 5=some 5:=zK
theorem HB:fo Tryz.prog 146 0=some 0:=zK
theorem Og:fo Tryz.prog 146 1=some 1:=zK
theorem pR:fo Tryz.prog 148 0=some 0:=zK
theorem Lx:fo Tryz.prog 148 1=some 1:=zK
theorem W2:fo Tryz.prog 161 0=some 0:=zK
theorem J8:fo Tryz.prog 161 1=some 1:=zK
theorem Kw:fo Tryz.prog 201 0=some 0:=zK
theorem Kx:fo Tryz.prog 201 1=some 1:=zK
theorem H2:fo Tryz.prog 201 2=some 2:=zK
theorem SN:fo Tryz.prog 204 0=some 0:=zK
theorem UO:fo Tryz.prog 204 1=some 3:=zK
theorem Ly:fo Tryz.prog 204 2=some 4:=zK
theorem pS:fo Tryz.prog 214 0=some 0:=zK
theorem Z8:fo Tryz.prog 214 1=some 1:=zK
theorem UP:fo Tryz.prog 214 2=some 2:=zK
theorem NF:fo Tryz.prog 217 0=some 0:=zK
theorem W3:fo Tryz.prog 217 1=some 1:=zK
theorem W4:fo Tryz.prog 217 2=some 2:=zK
theorem SO:fo Tryz.prog 217 3=some 3:=zK
theorem ga:fo Tryz.prog 229 0=some 0:=zK
theorem pT:fo Tryz.prog 229 1=some 1:=zK
theorem aA:fo Tryz.prog 229 2=some 2:=zK
theorem gb:fo Tryz.prog 229 3=some 3:=zK
theorem aB:fo Tryz.prog 229 4=some 4:=zK
theorem SP:fo Tryz.prog 250 0=some 0:=zK
theorem Ky:fo Tryz.prog 250 1=some 1:=zK
theorem Lz:fo Tryz.prog 250 2=some 4:=zK
theorem HW:fo Tryz.prog 250 3=some 5:=zK
theorem Oh:fo Tryz.prog 250 4=some 6:=zK
theorem gc:fo Tryz.prog 267 0=some 0:=zK
theorem W5:fo Tryz.prog 267 1=some 1:=zK
theorem aC:fo Tryz.prog 267 2=some 2:=zK
theorem aD:fo Tryz.prog 267 3=some 3:=zK
theorem UQ:fo Tryz.prog 298 0=some 0:=zK
theorem gd:fo Tryz.prog 317 0=some 0:=zK
theorem ge:fo Tryz.prog 317 1=some 1:=zK
theorem aE:fo Tryz.prog 317 2=some 2:=zK
theorem aF:fo Tryz.prog 317 3=some 3:=zK
theorem aG:fo Tryz.prog 323 0=some 0:=zK
theorem aH:fo Tryz.prog 351 0=some 0:=zK
theorem NG:fo Tryz.prog 351 1=some 8:=zK
theorem W6:fo Tryz.prog 351 2=some 9:=zK
theorem RO:fo Tryz.prog 38 0=some 0:=zK
theorem eA:fo Tryz.prog 38 1=some 1:=zK
theorem RP:fo Tryz.prog 38 2=some 2:=zK
theorem RQ:fo Tryz.prog 43 0=some 0:=zK
theorem Nd:fo Tryz.prog 43 1=some 1:=zK
theorem Nf:fo Tryz.prog 43 2=some 2:=zK
theorem QH:fo Tryz.prog 43 3=some 3:=zK
theorem Iq:fo Tryz.prog 55 0=some 0:=zK
theorem U0:fo Tryz.prog 55 1=some 1:=zK
theorem RR:fo Tryz.prog 83 0=some 0:=zK
theorem U1:fo Tryz.prog 83 1=some 1:=zK
theorem RS:fo Tryz.prog 85 0=some 0:=zK
theorem Y5:fo Tryz.prog 85 1=some 2:=zK
theorem t9:fo Tryz.prog 85 2=some 3:=zK
theorem eC:fo Tryz.prog 92 0=some 0:=zK
theorem eE:fo Tryz.prog 92 1=some 1:=zK
theorem uA:fo Tryz.prog 92 2=some 2:=zK
theorem RT:fo Tryz.prog 95 0=some 0:=zK
theorem QI:fo Tryz.prog 95 1=some 3:=zK
theorem U2:fo Tryz.prog 95 2=some 4:=zK
theorem lL:fo Tryz.prog 95 4=some 6:=zK
theorem eF:fo Tryz.prog 95 5=some 7:=zK
theorem lM:fo Tryz.prog 97 0=some 0:=zK
theorem lN:fo Tryz.prog 97 1=some 1:=zK
theorem eG:fo Tryz.prog 97 2=some 2:=zK
theorem lO:fo Tryz.prog 97 3=some 3:=zK
theorem S5:liesAt Tryz.prog Tryz.prog.depth 161 (2 / Tryz.prog.cellsOf 161) 0 161 1=true:=zK
theorem pb:liesAt Tryz.prog Tryz.prog.depth 298 (2 / Tryz.prog.cellsOf 298) 0 161 1=true:=zK
theorem eP:liesAt Tryz.prog Tryz.prog.depth 323 (2 / Tryz.prog.cellsOf 323) 0 161 1=true:=zK
theorem vx:NM Tryz.prog 102=true:=zK
theorem vy:NM Tryz.prog 105=true:=zK
theorem vz:NM Tryz.prog 118=true:=zK
theorem wA:NM Tryz.prog 131=true:=zK
theorem wB:NM Tryz.prog 137=true:=zK
theorem wC:NM Tryz.prog 142=true:=zK
theorem Pz:NM Tryz.prog 146=true:=zK
theorem py:NM Tryz.prog 148=true:=zK
theorem S9:NM Tryz.prog 201=true:=zK
theorem eZ:NM Tryz.prog 204=true:=zK
theorem wD:NM Tryz.prog 214=true:=zK
theorem V6:NM Tryz.prog 217=true:=zK
theorem wE:NM Tryz.prog 229=true:=zK
theorem je:NM Tryz.prog 250=true:=zK
theorem pz:NM Tryz.prog 267=true:=zK
theorem ea:NM Tryz.prog 313=true:=zK
theorem wF:NM Tryz.prog 314=true:=zK
theorem wG:NM Tryz.prog 317=true:=zK
theorem wH:NM Tryz.prog 351=true:=zK
theorem wJ:NM Tryz.prog 365=true:=zK
theorem wK:NM Tryz.prog 379=true:=zK
theorem xb:NM Tryz.prog 38=true:=zK
theorem gz:NM Tryz.prog 43=true:=zK
theorem hC:NM Tryz.prog 55=true:=zK
theorem xc:NM Tryz.prog 81=true:=zK
theorem xd:NM Tryz.prog 85=true:=zK
theorem xe:NM Tryz.prog 92=true:=zK
theorem xf:NM Tryz.prog 95=true:=zK
theorem wL:NL Tryz.prog 102=some [(0,4),(4,1),(5,1),(6,1),(7,3)]:=zK
theorem wM:NL Tryz.prog 105=some [(0,1),(1,4)]:=zK
theorem wN:NL Tryz.prog 118=some [(0,1),(1,1),(2,1),(3,3),(6,1),(7,1)]:=zK
theorem wP:NL Tryz.prog 131=some [(0,1),(1,1),(2,1),(3,1),(4,1)]:=zK
theorem wQ:NL Tryz.prog 137=some [(0,1),(1,1),(2,1),(3,1),(4,1),(5,1)]:=zK
theorem wR:NL Tryz.prog 142=some [(0,1),(1,1),(2,1),(3,1),(4,1),(5,1)]:=zK
theorem P0:NL Tryz.prog 146=some [(0,1),(1,1)]:=zK
theorem p9:NL Tryz.prog 148=some [(0,1),(1,2)]:=zK
theorem TA:NL Tryz.prog 201=some [(0,1),(1,1),(2,1)]:=zK
theorem ec:NL Tryz.prog 204=some [(0,3),(3,1),(4,1)]:=zK
theorem wS:NL Tryz.prog 214=some [(0,1),(1,1),(2,1)]:=zK
theorem V7:NL Tryz.prog 217=some [(0,1),(1,1),(2,1),(3,2)]:=zK
theorem wT:NL Tryz.prog 229=some [(0,1),(1,1),(2,1),(3,1),(4,1),(5,1)]:=zK
theorem jf:NL Tryz.prog 250=some [(0,1),(1,3),(4,1),(5,1),(6,2)]:=zK
theorem qA:NL Tryz.prog 267=some [(0,1),(1,1),(2,1),(3,1)]:=zK
theorem ed:NL Tryz.prog 313=some [(0,1),(1,1)]:=zK
theorem wU:NL Tryz.prog 314=some [(0,2),(2,2),(4,2),(6,2)]:=zK
theorem wV:NL Tryz.prog 317=some [(0,1),(1,1),(2,1),(3,1)]:=zK
theorem wW:NL Tryz.prog 351=some [(0,8),(8,1),(9,1)]:=zK
theorem wX:NL Tryz.prog 365=some [(0,1),(1,1),(2,1),(3,1)]:=zK
theorem wY:NL Tryz.prog 379=some [(0,2),(2,2)]:=zK
theorem xg:NL Tryz.prog 38=some [(0,1),(1,1),(2,1)]:=zK
theorem hE:NL Tryz.prog 43=some [(0,1),(1,1),(2,1),(3,1)]:=zK
theorem hI:NL Tryz.prog 55=some [(0,1),(1,1)]:=zK
theorem xh:NL Tryz.prog 81=some [(0,1),(1,1),(2,1),(3,1)]:=zK
theorem xi:NL Tryz.prog 85=some [(0,2),(2,1),(3,1)]:=zK
theorem xj:NL Tryz.prog 92=some [(0,1),(1,1),(2,1)]:=zK
theorem xk:NL Tryz.prog 95=some [(0,3),(3,1),(4,1),(5,1),(6,1),(7,1)]:=zK
theorem ez:Kh Tryz.prog 100=true:=zK
theorem Xt:Kh Tryz.prog 116=true:=zK
theorem Rs:Kh Tryz.prog 123=true:=zK
theorem PJ:Kh Tryz.prog 126=true:=zK
theorem js:Kh Tryz.prog 129=true:=zK
theorem wa:Kh Tryz.prog 132=true:=zK
theorem jt:Kh Tryz.prog 159=true:=zK
theorem WB:Kh Tryz.prog 202=true:=zK
theorem qM:Kh Tryz.prog 207=true:=zK
theorem fA:Kh Tryz.prog 209=true:=zK
theorem wc:Kh Tryz.prog 212=true:=zK
theorem HC:Kh Tryz.prog 22=true:=zK
theorem Mv:Kh Tryz.prog 248=true:=zK
theorem lg:Kh Tryz.prog 25=true:=zK
theorem Ow:Kh Tryz.prog 26=true:=zK
theorem fB:Kh Tryz.prog 272=true:=zK
theorem Gi:Kh Tryz.prog 3=true:=zK
theorem ST:Kh Tryz.prog 30=true:=zK
theorem Il:Kh Tryz.prog 33=true:=zK
theorem Q5:Kh Tryz.prog 345=true:=zK
theorem WC:Kh Tryz.prog 353=true:=zK
theorem Ah:Kh Tryz.prog 36=true:=zK
theorem Xu:Kh Tryz.prog 4=true:=zK
theorem xp:Kh Tryz.prog 40=true:=zK
theorem af:Kh Tryz.prog 68=true:=zK
theorem qN:Kh Tryz.prog 73=true:=zK
theorem cV:Kh Tryz.prog 79=true:=zK
theorem SU:Kh Tryz.prog 89=true:=zK
theorem H9:Kh Tryz.prog 9=true:=zK
theorem xq:Kh Tryz.prog 90=true:=zK
theorem Ue:Kh Tryz.prog 93=true:=zK
theorem RY:Kh Tryz.prog 98=true:=zK
theorem lh:Kh Tryz.prog 99=true:=zK
theorem WG:Ee Tryz.prog 105=some 5:=zK
theorem wi:Ee Tryz.prog 116=some 1:=zK
theorem jx:Ee Tryz.prog 123=some 1:=zK
theorem jy:Ee Tryz.prog 129=some 1:=zK
theorem F6:Ee Tryz.prog 146=some 2:=zK
theorem MC:Ee Tryz.prog 148=some 3:=zK
theorem wj:Ee Tryz.prog 159=some 1:=zK
theorem jz:Ee Tryz.prog 161=some 2:=zK
theorem Ug:Ee Tryz.prog 201=some 3:=zK
theorem fI:Ee Tryz.prog 202=some 1:=zK
theorem KD:Ee Tryz.prog 204=some 5:=zK
theorem wk:Ee Tryz.prog 207=some 1:=zK
theorem Om:Ee Tryz.prog 217=some 5:=zK
theorem K5:Ee Tryz.prog 22=some 1:=zK
theorem wl:Ee Tryz.prog 248=some 1:=zK
theorem wm:Ee Tryz.prog 250=some 8:=zK
theorem wn:Ee Tryz.prog 267=some 4:=zK
theorem wo:Ee Tryz.prog 272=some 1:=zK
theorem QP:Ee Tryz.prog 3=some 1:=zK
theorem iL:Ee Tryz.prog 30=some 1:=zK
theorem fJ:Ee Tryz.prog 313=some 2:=zK
theorem wq:Ee Tryz.prog 317=some 4:=zK
theorem lk:Ee Tryz.prog 33=some 1:=zK
theorem qU:Ee Tryz.prog 342=some 16:=zK
theorem wu:Ee Tryz.prog 351=some 10:=zK
theorem fK:Ee Tryz.prog 353=some 1:=zK
theorem Aa:Ee Tryz.prog 36=some 1:=zK
theorem Xy:Ee Tryz.prog 365=some 4:=zK
theorem wv:Ee Tryz.prog 376=some 64:=zK
theorem ww:Ee Tryz.prog 378=some 2:=zK
theorem xt:Ee Tryz.prog 38=some 3:=zK
theorem Ti:Ee Tryz.prog 4=some 1:=zK
theorem FE:Ee Tryz.prog 43=some 4:=zK
theorem LM:Ee Tryz.prog 5=some 1:=zK
theorem It:Ee Tryz.prog 55=some 2:=zK
theorem qV:Ee Tryz.prog 79=some 1:=zK
theorem qW:Ee Tryz.prog 89=some 1:=zK
theorem Is:Ee Tryz.prog 9=some 1:=zK
theorem xu:Ee Tryz.prog 92=some 3:=zK
theorem qX:Ee Tryz.prog 98=some 1:=zK
theorem fO:Tryz.prog.underlying 100=some (.map 36 4):=zK
theorem Uj:Tryz.prog.underlying 116=some (.slice 4):=zK
theorem DO:Tryz.prog.underlying 123=some (.slice 5):=zK
theorem wx:Tryz.prog.underlying 126=some (.pointer 142):=zK
theorem Af:Tryz.prog.underlying 129=some (.slice 36):=zK
theorem PN:Tryz.prog.underlying 155=some (.int .u64):=zK
theorem ar:Tryz.prog.underlying 159=some (.pointer 161):=zK
theorem qY:Tryz.prog.underlying 196=some (.pointer 5):=zK
theorem xw:Tryz.prog.underlying 2=some (.int .i64):=zK
theorem P2:Tryz.prog.underlying 202=some (.slice 204):=zK
theorem qZ:Tryz.prog.underlying 207=some (.map 9 146):=zK
theorem D8:Tryz.prog.underlying 22=some (.slice 43):=zK
theorem qa:Tryz.prog.underlying 225=some (.map 36 148):=zK
theorem qb:Tryz.prog.underlying 239=some (.unsafePointer):=zK
theorem xx:Tryz.prog.underlying 24=some (.pointer 85):=zK
theorem Kk:Tryz.prog.underlying 248=some (.slice 146):=zK
theorem lm:Tryz.prog.underlying 25=some (.pointer 95):=zK
theorem YY:Tryz.prog.underlying 26=some (.pointer 102):=zK
theorem P3:Tryz.prog.underlying 264=some (.array 4 22):=zK
theorem Xz:Tryz.prog.underlying 272=some (.slice 22):=zK
theorem Jh:Tryz.prog.underlying 3=some (.int .i64):=zK
theorem Uk:Tryz.prog.underlying 313=some (.array 2 36):=zK
theorem fP:Tryz.prog.underlying 314=some (.array 4 313):=zK
theorem En:Tryz.prog.underlying 33=some (.int .u64):=zK
theorem Ru:Tryz.prog.underlying 342=some (.array 16 36):=zK
theorem wy:Tryz.prog.underlying 345=some (.pointer 351):=zK
theorem qc:Tryz.prog.underlying 348=some (.array 8 36):=zK
theorem Q9:Tryz.prog.underlying 349=some (.array 8 36):=zK
theorem wz:Tryz.prog.underlying 353=some (.int .u64):=zK
theorem C6:Tryz.prog.underlying 36=some (.int .u32):=zK
theorem X0:Tryz.prog.underlying 364=some (.array 4 3):=zK
theorem Rv:Tryz.prog.underlying 365=some (.array 4 36):=zK
theorem TM:Tryz.prog.underlying 376=some (.array 64 36):=zK
theorem fQ:Tryz.prog.underlying 378=some (.array 2 3):=zK
theorem w4:Tryz.prog.underlying 379=some (.array 2 378):=zK
theorem Ej:Tryz.prog.underlying 5=some (.int .u8):=zK
theorem IF:Tryz.prog.underlying 73=some (.slice 55):=zK
theorem Tb:Tryz.prog.underlying 79=some (.slice 105):=zK
theorem MD:Tryz.prog.underlying 89=some (.slice 148):=zK
theorem De:Tryz.prog.underlying 9=some (.string):=zK
theorem ln:Tryz.prog.underlying 90=some (.map 36 36):=zK
theorem lo:Tryz.prog.underlying 93=some (.pointer 137):=zK
theorem F8:Tryz.prog.underlying 98=some (.slice 9):=zK
theorem lq:Tryz.prog.underlying 99=some (.map 36 9):=zK
theorem w9:Fk Tryz.prog 102=some (.agg #[.bool false,.bool false,.int .i64 0,.int .i64 0,zN,.map none,.map none,.int .u64 0,.string ⟨⟨[]⟩⟩,.int .u32 0]):=zK
theorem X4:Fk Tryz.prog 105=some (.agg #[.int .i64 0,.int .u64 0,.int .u32 0,.int .u32 0,.string ⟨⟨[]⟩⟩]):=zK
theorem xA:Fk Tryz.prog 118=some (.agg #[zN,zN,zN,.int .u64 0,.string ⟨⟨[]⟩⟩,.int .u32 0,.int .i64 0,.bool false]):=zK
theorem xB:Fk Tryz.prog 129=some zN:=zK
theorem xC:Fk Tryz.prog 131=some (.agg #[.pointer none,zN,zN,zN,.bool false]):=zK
theorem xD:Fk Tryz.prog 137=some (.agg #[.pointer none,zN,.int .u32 0,.int .u32 0,.int .u64 0,.map none]):=zK
theorem xE:Fk Tryz.prog 142=some (.agg #[.pointer none,zN,.int .u32 0,.int .u32 0,.int .u64 0,zN]):=zK
theorem Gs:Fk Tryz.prog 146=some (.agg #[.int .u32 0,.string ⟨⟨[]⟩⟩]):=zK
theorem RA:Fk Tryz.prog 148=some (.agg #[.string ⟨⟨[]⟩⟩,.int .u32 0,.string ⟨⟨[]⟩⟩]):=zK
theorem bA:Fk Tryz.prog 161=some (.agg #[.pointer none,zN]):=zK
theorem Nx:Fk Tryz.prog 201=some (.agg #[.int .u32 0,.int .u32 0,.int .i64 0]):=zK
theorem KG:Fk Tryz.prog 204=some (.agg #[.int .u32 0,.int .u32 0,.int .i64 0,zN,zN]):=zK
theorem xF:Fk Tryz.prog 207=some (.map none):=zK
theorem xG:Fk Tryz.prog 214=some (.agg #[.nilFunc,zN,.int .i64 0]):=zK
theorem Mx:Fk Tryz.prog 217=some (.agg #[.int .u64 0,.int .u32 0,.int .u32 0,.int .u32 0,.string ⟨⟨[]⟩⟩]):=zK
theorem iW:Fk Tryz.prog 22=some zN:=zK
theorem xH:Fk Tryz.prog 229=some (.agg #[.pointer none,zN,zN,zN,.int .i64 0,zN]):=zK
theorem fW:Fk Tryz.prog 250=some (.agg #[.int .i64 0,.int .u32 0,.int .u32 0,.int .i64 0,zN,zN,.int .u32 0,.string ⟨⟨[]⟩⟩]):=zK
theorem xI:Fk Tryz.prog 264=some (.agg #[zN,zN,zN,zN]):=zK
theorem kC:Fk Tryz.prog 267=some (.agg #[.int .u32 0,.int .u32 0,.int .u32 0,.int .u64 0]):=zK
theorem xJ:Fk Tryz.prog 298=some (.agg #[.pointer none,zN]):=zK
theorem qs:Fk Tryz.prog 3=some (.int .i64 0):=zK
theorem uf:Fk Tryz.prog 30=some (.int .i64 0):=zK
theorem Ul:Fk Tryz.prog 313=some (.agg #[.int .u32 0,.int .u32 0]):=zK
theorem xK:Fk Tryz.prog 314=some (.agg #[.int .u32 0,.int .u32 0,.int .u32 0,.int .u32 0,.int .u32 0,.int .u32 0,.int .u32 0,.int .u32 0]):=zK
theorem qt:Fk Tryz.prog 317=some (.agg #[.int .u32 0,.int .u32 0,.int .u32 0,.int .u32 0]):=zK
theorem qu:Fk Tryz.prog 323=some (.agg #[.pointer none,zN]):=zK
theorem fX:Fk Tryz.prog 342=some (.agg #[.int .u32 0,.int .u32 0,.int .u32 0,.int .u32 0,.int .u32 0,.int .u32 0,.int .u32 0,.int .u32 0,.int .u32 0,.int .u32 0,.int .u32 0,.int .u32 0,.int .u32 0,.int .u32 0,.int .u32 0,.int .u32 0]):=zK
theorem xL:Fk Tryz.prog 348=some (.agg #[.int .u32 0,.int .u32 0,.int .u32 0,.int .u32 0,.int .u32 0,.int .u32 0,.int .u32 0,.int .u32 0]):=zK
theorem qv:Fk Tryz.prog 351=some (.agg #[.int .u32 0,.int .u32 0,.int .u32 0,.int .u32 0,.int .u32 0,.int .u32 0,.int .u32 0,.int .u32 0,.string ⟨⟨[]⟩⟩,.int .i64 0]):=zK
theorem xM:Fk Tryz.prog 353=some (.int .u64 0):=zK
theorem Jf:Fk Tryz.prog 36=some (.int .u32 0):=zK
theorem xN:Fk Tryz.prog 364=some (.agg #[.int .i64 0,.int .i64 0,.int .i64 0,.int .i64 0]):=zK
theorem Um:Fk Tryz.prog 365=some (.agg #[.int .u32 0,.int .u32 0,.int .u32 0,.int .u32 0]):=zK
theorem qw:Fk Tryz.prog 376=some (.agg #[.int .u32 0,.int .u32 0,.int .u32 0,.int .u32 0,.int .u32 0,.int .u32 0,.int .u32 0,.int .u32 0,.int .u32 0,.int .u32 0,.int .u32 0,.int .u32 0,.int .u32 0,.int .u32 0,.int .u32 0,.int .u32 0,.int .u32 0,.int .u32 0,.int .u32 0,.int .u32 0,.int .u32 0,.int .u32 0,.int .u32 0,.int .u32 0,.int .u32 0,.int .u32 0,.int .u32 0,.int .u32 0,.int .u32 0,.int .u32 0,.int .u32 0,.int .u32 0,.int .u32 0,.int .u32 0,.int .u32 0,.int .u32 0,.int .u32 0,.int .u32 0,.int .u32 0,.int .u32 0,.int .u32 0,.int .u32 0,.int .u32 0,.int .u32 0,.int .u32 0,.int .u32 0,.int .u32 0,.int .u32 0,.int .u32 0,.int .u32 0,.int .u32 0,.int .u32 0,.int .u32 0,.int .u32 0,.int .u32 0,.int .u32 0,.int .u32 0,.int .u32 0,.int .u32 0,.int .u32 0,.int .u32 0,.int .u32 0,.int .u32 0,.int .u32 0]):=zK
theorem kD:Fk Tryz.prog 378=some (.agg #[.int .i64 0,.int .i64 0]):=zK
theorem xO:Fk Tryz.prog 379=some (.agg #[.int .i64 0,.int .i64 0,.int .i64 0,.int .i64 0]):=zK
theorem ug:Fk Tryz.prog 38=some (.agg #[.int .u64 0,.string ⟨⟨[]⟩⟩,.int .u32 0]):=zK
theorem ni:Fk Tryz.prog 4=some (.bool false):=zK
theorem Iu:Fk Tryz.prog 43=some (.agg #[.int .u64 0,.int .u32 0,.int .u32 0,.string ⟨⟨[]⟩⟩]):=zK
theorem MF:Fk Tryz.prog 5=some (.int .u8 0):=zK
theorem Ox:Fk Tryz.prog 55=some (.agg #[.int .u32 0,.string ⟨⟨[]⟩⟩]):=zK
theorem xy:Fk Tryz.prog 81=some (.agg #[.pointer none,zN,.bool false,.bool false]):=zK
theorem xz:Fk Tryz.prog 85=some (.agg #[zN,.bool false,.pointer none,.bool false]):=zK
theorem VD:Fk Tryz.prog 9=some (.string ⟨⟨[]⟩⟩):=zK
theorem yA:Fk Tryz.prog 92=some (.agg #[zN,zN,.map none]):=zK
theorem yB:Fk Tryz.prog 95=some (.agg #[zN,zN,.map none,.pointer none,.pointer none,zN,.int .u32 0,.bool false]):=zK
end

section
variable {K:Nat→Prop}{w0:World}{H:List Ab}
def pE(p:UInt32×Bool):List Value:=[AC p.1,vB p.2]
theorem VA(v:Value):zC K w0 110 [v] [] H (fun r M=>∃b,r=.func (.func 148) #[] #[vP b 0]∧M=[own b (.cells v.cells 73)]):=by
 refine Vf.enter Tryz.func110 rfl rfl ?_
 refine Y ?_
 refine Bw E E zU fun b0=>?_
 refine O E (U (Y ?_))
 refine Im (fv:=#[]) (cv:=#[_]) E E E ?_
 refine O E (U (AM ?_))
 exact Ax (D7 E E) (As (M:=[_]) ⟨b0,E,E⟩ fun _ h=>h)
theorem VB(v:Value)(ks:List Bf)(b:Nat)(hk:CR K w0 Ad 2 v ks)(hv:v.cells=#[v])(hn:ks.length≤1099511627776):oF Tryz.prog K w0 148 [vP b 0] [own b (.cells v.cells 73)] pE (Mu ks):=by
 intro lp J9 X T hy G h0
 rw[hv]
 refine Vf.enter Tryz.func148 rfl rfl ?_
 refine Y (O E (U (Y (AG 0 qN E (CW hk E IF E (J E (U (AK ?_))))))))
 refine SX.mono (A9 (α:=Nat×List Ab) (fun x=>x.1≤ks.length∧J9 ((Mu ks).take x.1) x.2) (fun x=>[(0,vY lp),(3,AC (L8 ks x.1)),(6,v),(7,vI ks.length),(8,vI x.1)]) (fun x=>own b (.cells #[v] 73)::(x.2++T)) (fun x=>ks.length-x.1) (fun x D hp=>?_) (0,G) ⟨Nat.zero_le _,h0⟩) tL
 obtain⟨i,G⟩:=x
 obtain⟨hi,hJ⟩:=hp
 simp only at hi hJ
 refine Y (V E BL (U (AE ?_)))
 refine BH E (fun hc=>?_) (fun hc=>?_)
 have hlt:i<ks.length:=by simpa using hc
 obtain⟨key,hkey⟩:=Qv hlt
 have hg:=Vw ks i hlt
 rw[L0 hkey]at hg
 refine AH (AI (AE (AK (Y ?_))))
 refine Sc i key hk E IF It E E E hkey fun be off hcell=>?_
 refine BA (Ad key) E P6 E E (XZ (hcell _)) ?_
 refine A6 E Ox zU fun b0=>?_
 refine BN 0 E E E E It E E E zT (U (AE (Y (J E (AF E Iq (AG 0 Ah E (AF E Iq (AG 0 Ah E (J E ?_)))))))))
 refine V E (Un (b:=L8 ks i)) ?_
 refine J E ?_
 refine DT (c:=decide ((key.secret.length:Int)=32)) 19 5 24 E (fun hb k=>?_) (fun hb k=>?_) ?_
 refine AF E U0 (AG 0 H9 E (CI E De E (V E Bv (An E E E ?_))))
 exact k.mono tL
 refine AA E (AA E (AA E (AA E (An E E E ?_))))
 exact k.mono tL
 refine I7 (M2:=[_,_]) (G:=G) (T:=T) (vs:=[_,_]) (ok:=fun G1=>J9 ((Mu ks).take (i+1)) G1) (no:=X) E E ⟨E,E,zT⟩ E ?_ (fun bb G1 hG1=>⟨zT,?_⟩)
 intro M
 have:=hy _ _ _ (Gg hg).1 G hJ M
 rw[←(Gg hg).2]at this
 have e:Px ks i=(decide (L8 ks i<key.gen)&&decide ((key.secret.length:Int)=32)):=by unfold Px;rw[L0 hkey]
 rw[e]at this
 exact this
 refine CO E E (U ?_)
 refine BH E (fun hc=>?_) (fun hc=>?_)
 obtain rfl:bb=false:=by simpa using hc
 refine AM (Ag (BO (Ag (FB (BO ?_)))))
 exact Ax (E4 E) (As (M:=G1) (.inr hG1) fun _ h=>h.skip [_,_])
 obtain rfl:bb=true:=by simpa using hc
 refine AH (AI (AJ (AF E Iq (AG 0 Ah E (O E (AT (Ao (AI (AJ (V E (B2 zO zO) (J E (AT ?_))))))))))))
 refine Am (i+1,G1) ⟨hlt,hG1⟩ (by simp only;omega) ⟨E,by rw[L8,L0 hkey];rfl,E,E,E,zT⟩ (fun w h=>h.skip [_])
 refine Av (Ay (BP (A0 ?_)))
 have hle:i=ks.length:=by simp at hc;omega
 exact D5 (E4 E) (As (M:=G) (.inl (by rw[List.take_of_length_le (by rw[Rm];omega)]at hJ;exact hJ)) fun _ h=>h.skip [_])
theorem Rc(v:Value)(ks:List Bf)(hk:CR K w0 Ad 2 v ks)(hv:v.cells=#[v])(hn:ks.length≤1099511627776):zC K w0 79 [v] [] H (fun r M=>r=vB (E7 ks)∧M=[]):=by
 refine Vf.enter Tryz.func79 rfl rfl ?_
 refine Y (O E (U (MK (Y (J E (CW hk E IF E (V E Ex ?_)))))))
 refine A6 E ni zU fun b0=>?_
 refine BN 0 E E E E Ti E E E zT (U (AE (MJ (AI (AE (Y (J E (Bi 0 rZ (VA v) E ?_))))))))
 rintro _ _ ⟨b1,rfl,rfl⟩
 refine U (AK ?_)
 refine Uu (enc:=pE) (Mu ks) (fun pre G=>pre.all (·.2)=true∧G=own b0 (.cells #[vB (decide ((ks.length:Int)≤16))] 4)::H) (fun c G=>c=.exit 0∧(Mu ks).all (·.2)=false∧G=own b0 (.cells #[vB false] 4)::H) E sA E zV (VB v ks b1 hk hv hn) E ⟨E,E⟩ (fun pre x suf G hxs hJ r lp Rest=>?_) (fun G D hJ=>?_) (fun c G D hX=>?_)
 obtain⟨hpre,rfl⟩:=hJ
 refine AJ (O E (AT (MI (AK (Y (J E (CO E E (U ?_))))))))
 refine BH E (fun hc=>?_) (fun hc=>?_)
 refine Y (BN 0 E E E E Ti E E E zT (U (Av (FK ?_))))
 exact PY ⟨E,by rw[hxs];simp at hc;simp[hc],E⟩ (fun _ h=>h)
 refine AH (Ao ?_)
 exact Jl ⟨by simp at hc;simp[hpre,hc],E⟩ (fun _ h=>h)
 obtain⟨hall,rfl⟩:=hJ
 refine Ao (AI (Y (AG 0 Xu E (O E (U (AM (Fx ?_)))))))
 exact Ax (D7 E E) (As (M:=[]) ⟨by simp only[E7,hall];simp;try omega,E⟩ fun _ h=>h.skip [_])
 obtain⟨rfl,hall,rfl⟩:=hX
 refine Av (A0 (AI (Y (AG 0 Xu E (O E (U (AM (Fx ?_))))))))
 exact Ax (D7 E E) (As (M:=[]) ⟨by simp only[E7,hall];simp;try omega,E⟩ fun _ h=>h.skip [_])
end

section
variable {K:Nat→Prop}{w0:World}{H:List Ab}
theorem Ye(k:Bf)(g:UInt32)(b:Nat):zC K w0 140 [.agg (Ad k).toArray,vP b 0] [own b (.cells #[AC g] 36)] H (fun r M=>r=vB (decide (g≤k.gen))∧M=[own b (.cells #[AC g] 36)]):=by
 refine Vf.enter Tryz.func140 rfl rfl ?_
 refine Y ?_
 refine Bw E E zU fun b0=>?_
 refine O E (U (Y (AF E Iq (AG 0 Ah E (AG 1 Ah E (V E I0 (O E (U (AM ?_)))))))))
 exact Ax (D7 E E) (As (M:=[_]) ⟨E,E⟩ fun _ h=>h.skip [_])
theorem XW(v:Value)(ks:List Bf)(g:FuncId)(cap:List Value)(B:List Ab)(φ:Bf→Bool)(hk:CR K w0 Ad 2 v ks)(hn:ks.length≤1099511627776)(hcal:AP Tryz.prog g=true)
(hf:∀(H:List Ab) (k:Bf),zC K w0 g (.agg (Ad k).toArray::cap) B H (fun r M=>r=vB (φ k)∧M=B)):
  zC K w0 102 [v,.func (.func g) #[] cap.toArray] B H (fun r M=>r=vI (if ks.findIdx φ<ks.length then(ks.findIdx φ:Int)else -1)∧M=B):=by
 refine Vf.enter Tryz.func102 rfl rfl ?_
 refine Y (O E (U (AE (Y (J E (CW hk E IF E (J E (U (AK ?_)))))))))
 refine SX.mono (A9 (α:=Nat) (fun i=>i≤ks.length∧∀j y,j<i→ks[j]? = some y→φ y=false) (fun i=>[(0,v),(1,.func (.func g) #[] cap.toArray),(7,vI ks.length),(8,vI i)]) (fun i=>B++H) (fun i=>ks.length-i) (fun i D hp=>?_) 0 ⟨Nat.zero_le _,fun j y hj=>absurd hj (Nat.not_lt_zero _)⟩) tL
 obtain⟨hi,hb⟩:=hp
 refine Y (V E BL (U (AE ?_)))
 refine BH E (fun hc=>?_) (fun hc=>?_)
 have hlt:i<ks.length:=by simpa using hc
 obtain⟨key,hkey⟩:=Qv hlt
 refine AH (AI (AE (AK (Y (J E (O E (U (Y (J E (J E (J E ?_)))))))))))
 refine Sc i key hk E IF It E E E hkey fun be off hcell=>?_
 refine BA (Ad key) E P6 E E (XZ (hcell _)) ?_
 refine Bx (vs:=[_]) (Hin:=B) E E ⟨E,zT⟩ hcal E E (hf _ key) ?_
 rintro _ M ⟨rfl,hM⟩
 rw[hM]
 refine⟨trivial,?_⟩
 refine U ?_
 refine BH E (fun hc2=>?_) (fun hc2=>?_)
 refine Y (J E (O E (U (AM (BO (Ag (FB (BO (Ag ?_)))))))))
 exact Ax (D7 E E) (As (M:=B) ⟨by rw[YG hkey hc2 hb];simp[hlt],E⟩ fun _ h=>h)
 refine AH (Ao (AI (AJ (V E (B2 zO zO) (J E (AT ?_))))))
 refine Am (i+1) ⟨hlt,fun j y hj hy=>?_⟩ zO ⟨E,E,E,E,zT⟩
 rcases Nat.lt_or_ge j i with h | h
 exact hb j y h hy
 obtain rfl:j=i:=zO
 rw[hkey]at hy
 cases hy
 exact hc2
 refine Av (Ay (BP (A0 (AI (Y (O E (U (AM ?_))))))))
 have hle:i=ks.length:=by simp at hc;omega
 exact Ax (D7 rfl rfl) (As (M:=B) ⟨by rw[gS (fun j y hy=>hb j y (by obtain⟨h,_⟩:=List.getElem?_eq_some_iff.1 hy;omega) hy)];simp,rfl⟩ fun _ h=>h)
theorem bF(v:Value)(ks:List Bf)(g:UInt32)(hk:CR K w0 Ad 2 v ks)(hn:ks.length≤1099511627776):zC K w0 100 [v,AC g] [] H (fun r M=>r=.tuple #[vI (Nh g ks),vB (TK g ks)]∧M=[]):=by
 refine Vf.enter Tryz.func100 rfl rfl ?_
 refine Y ?_
 refine Bw E E zU fun b0=>?_
 refine O E (O E (U (Y (J E ?_))))
 refine Im (fv:=#[]) (cv:=#[_]) E E E ?_
 refine AN 1 rW (XW v ks 140 [vP b0 0] [_] (fun k=>decide (g≤k.gen)) hk hn r7 (fun H k=>Ye k g b0)) E ?_
 change SL _ _ _ _ _ _ _ _ _ _ ((9,vI (if Nh g ks<ks.length then(Nh g ks:Int)else -1))::_) _
 generalize hpl:Nh g ks=pl
 refine O E (U (AE (Y (J E (V E BL (U ?_))))))
 refine BH E (fun hc=>?_) (fun hc=>?_)
 refine Y ?_
 have hnl:¬pl<ks.length:=by intro h;simp[h]at hc;omega
 have hpe:pl=ks.length:=by have:=jg g ks;omega
 refine J E (CW hk E IF E (O E (O E (U (AM (Ag ?_))))))
 exact Ax (F1 E E E) (As (M:=[]) ⟨by simp[TK,hpl,hpe],E⟩ fun _ h=>h.skip [_])
 have hlt:pl<ks.length:=by
  rcases Nat.lt_or_ge pl ks.length with h | h
  exact h
  simp[Nat.not_lt.2 h]at hc
 rw[if_pos hlt]
 obtain⟨key,hkey⟩:=Qv hlt
 refine AH (AI (AE (Ai C2 [0] (C0 (Hp 0 10)) zK (J E (J E (J E ?_))))))
 refine Sc pl key hk E IF It E E E hkey fun be off hcell=>?_
 refine AF E Iq ?_
 refine Aq E Ah E (fun w hw=>hcell _ w hw 0 _ E) ?_
 refine AG 0 Ah E (V E Oz (O E (O E (U (AM ?_)))))
 exact Ax (F1 E E E) (As (M:=[]) ⟨by simp[TK,hpl,hkey],E⟩ fun _ h=>h.skip [_])
theorem Wd(v:Value)(ks:List Bf)(g:UInt32)(hk:CR K w0 Ad 2 v ks)(hv:v.cells=#[v])(hn:ks.length≤1099511627776):zC K w0 99 [v,AC g] [] H (fun r M=>r=.tuple #[.agg (Ad (Eo ks g).1).toArray,vI (Eo ks g).2]∧M=[]):=by
 refine Vf.enter Tryz.func99 rfl rfl ?_
 refine Y ?_
 refine A6 E Ox zU fun b0=>?_
 refine O E (U (AE (Y (J E (AN 0 jA (Rc v ks hk hv hn) E (CO E E (U ?_)))))))
 refine BH E (fun hc=>?_) (fun hc=>?_)
 have hf:Eo ks g=(IE,40):=by unfold Eo;rw[if_pos (by simpa using hc)]
 rw[hf]
 refine Y (Cf [] E hI hC Ox zT E (BN 0 E E E E It E E E zT (O E (U (AM (Ag ?_))))))
 exact Ax (Fi E (Cj 0 (Ad IE) P6 E E E E) E) (As (M:=[]) ⟨E,E⟩ fun _ h=>h.skip [_])
 have hr:E7 ks=true:=by simpa using hc
 refine AH (AI (Y (J E (J E (AN 0 rV (bF v ks g hk hn) E (J E (Ap E E E (Ap E E E (O E (O E (U (AE (Y ?_)))))))))))))
 refine J E (CO E E (U ?_))
 refine BH E (fun hc=>?_) (fun hc=>?_)
 have hf:Eo ks g=(IE,41):=by
  have:TK g ks=false:=by simpa using hc
  unfold TK at this
  unfold Eo
  rw[hr]
  cases h:ks[Nh g ks]? with
  | none=>simp
  | some k=>rw[h]at this;simp at this;simp[this]
 rw[hf]
 refine Y (Cf [] E hI hC Ox zT E (BN 0 E E E E It E E E zT (O E (U (AM (Ag ?_))))))
 exact Ax (Fi E (Cj 0 (Ad IE) P6 E E E E) E) (As (M:=[]) ⟨E,E⟩ fun _ h=>h.skip [_])
 have hth:TK g ks=true:=by simpa using hc
 obtain⟨key,hkey,hg⟩:∃key,ks[Nh g ks]? = some key∧key.gen=g:=by
  unfold TK at hth
  cases h:ks[Nh g ks]? with
  | none=>rw[h]at hth;cases hth
  | some k=>rw[h]at hth;exact⟨k,rfl,by simpa using hth⟩
 have hf:Eo ks g=(key,0):=by
  unfold Eo
  rw[hr]
  simp[hkey,hg]
 rw[hf]
 refine AH (AI (Y (J E (J E ?_))))
 refine Sc (Nh g ks) key hk E IF It E E E hkey fun be off hcell=>?_
 refine BA (Ad key) E P6 E E (XZ (hcell _)) (BN 0 E E E E It E E E zT (O E (U (AM ?_))))
 exact Ax (Fi E (Cj 0 (Ad key) P6 E E E E) E) (As (M:=[]) ⟨E,E⟩ fun _ h=>h.skip [_])
end

section
variable {K:Nat→Prop}{w0:World}{H:List Ab}
theorem gG(b:List UInt8)(hb:b.length≤9223372036854775807):zC K w0 171 [vS b] [] H (fun v M=>v=vS (b.drop (b.length-32))∧M=[]):=by
 refine Vf.enter Tryz.func171 rfl rfl ?_
 refine AE (AJ (O E (AT (AI (AE (AJ (J E (J E (CI E De E (V E (FZ zO zO) (ft E E E (QX (b.length-32) E De E E zO zO (O E (AT (AI (AM ?_))))))))))))))))
 exact Ax (D7 E E) (As (M:=[]) ⟨E,E⟩ fun _ h=>h.skip [])
def XJ(x:UInt32)(k:Int):UInt32:=shl32 x (DJ k &&& 31).toNat ||| shr32 x (32-(DJ k &&& 31)).toNat
theorem Iw(x:UInt32)(k:Int):zC K w0 285 [AC x,vI k] [] H (fun v M=>v=AC (XJ x k)∧M=[]):=by
 refine Vf.enter Tryz.func285 rfl rfl ?_
 refine AE (AJ (O E (AT (AI (AE (AJ (J E (BZ E E (Ff Jh PN) ?_))))))))
 refine V E (Oy (b:=31)) ?_
 refine O E (AT (AI (AE (AJ (J E (J E (V E Gy.shl32 (J E (J E ?_)))))))))
 refine V E (SW (a:=32)) ?_
 refine V E Gy.shr32 (V E GX (O E (AT (AI (AM ?_)))))
 exact Ax (D7 E E) (As (M:=[]) ⟨E,E⟩ fun _ h=>h.skip [])
end

section
variable {K:Nat→Prop}{w0:World}{H:List Ab}
theorem nY:∀n:Fin 32,0<n.1→(DJ (-(n.1:Int)) &&& 31).toNat=32-n.1∧(32-(DJ (-(n.1:Int)) &&& 31)).toNat=n.1:=by decide
theorem nM(x:UInt32)(n:Nat)(h0:0<n)(h1:n<32):XJ x (-(n:Int))=Lb x n:=by
 obtain⟨e1,e2⟩:=nY ⟨n,h1⟩ h0
 simp only at e1 e2
 unfold XJ Lb
 rw[e1,e2,UInt32.or_comm]
theorem IB(x:UInt32)(n:Nat)(h0:0<n)(h1:n<32):zC K w0 287 [AC x,vI n] [] H (fun r M=>r=AC (Lb x n)∧M=[]):=by
 refine Vf.enter Tryz.func287 rfl rfl ?_
 refine Y (O E (U (Y (J E (J E (nw E E zO zO (AN 0 dr (Iw x (-(n:Int))) E (O E (U (AM ?_))))))))))
 exact Ax (D7 E E) (As (M:=[]) ⟨by rw[nM x n h0 h1],E⟩ fun _ h=>h.skip [])
theorem bM(s:List UInt8)(hs:s.length=64):zC K w0 286 [vS s] [] H (fun r M=>r=.agg (Es AC (FY s))∧M=[]):=by
 refine Vf.enter Tryz.func286 rfl rfl ?_
 refine Y ?_
 refine A6 E qw zU fun b0=>?_
 refine U (Y ?_)
 refine A6 E qw zU fun b1=>?_
 refine U (AE (Y (J E (U (AK ?_)))))
 refine SX.mono (A9 (α:=Nat) (fun i=>i≤64) (fun i=>[(0,vS s),(2,vP b0 0),(3,vP b1 0),(8,vI i)]) (fun i=>own b1 (.cells (Es AC (Gf s i++List.replicate (64-i) 0)) 376)::own b0 (.cells (Es AC (List.replicate 64 0)) 376)::H) (fun i=>64-i) (fun i D hp=>?_) 0 zO) tL
 have hlen:=Nk s i
 refine Y (V E BL (U (AE ?_)))
 refine BH E (fun hc1=>?_) (fun hc1=>?_)
 have hi:i<64:=by simp at hc1;omega
 refine AH (AI (AE (AK (Y (J E (O E (U (AE (Y (J E (V E BL (U ?_))))))))))))
 refine BH E (fun hc2=>?_) (fun hc2=>?_)
 have h16:i<16:=by simp at hc2;omega
 refine Y (J E (V E (QR zO zO) (O E (U (AE (Ai C2 [] (BJ (Hp 0 27) (.last 27 .nil)) zK (J E (J E (J E (MH (4*i) E De E E zO zO ?_))))))))))
 refine BZ E E (Gu Ej C6) ?_
 refine V E (Gy.shl32 (n:=24)) ?_
 refine J E (J E (V E (B2 zO zO) (MH ((4*i)+1) E De E E zO zO (BZ E E (Gu Ej C6) ?_))))
 refine V E (Gy.shl32 (n:=16)) ?_
 refine V E GX (J E (J E (V E (B2 zO zO) (MH ((4*i)+2) E De E E zO zO (BZ E E (Gu Ej C6) ?_)))))
 refine V E (Gy.shl32 (n:=8)) ?_
 refine V E GX (J E (J E (V E (B2 zO zO) (MH ((4*i)+3) E De E E zO zO (BZ E E (Gu Ej C6) (V E GX ?_))))))
 refine EN (n:=i) E TM Aa E E zO zO ?_
 refine A4 ?_
 refine WU (f:=AC) 0 E E E E Aa E E zQ zT ?_
 rw[Uz _ _ _ 64 i hlen hi]
 refine U (Av (Ay (A0 (AI (AJ (V E (B2 zO zO) (J E (AT ?_))))))))
 refine Am (i+1) zO zO ⟨E,E,E,E,zT⟩ (fun w h=>by
  have e:S6 s (Gf s i)=mD s (4*i):=by unfold S6;rw[hlen,if_pos h16]
  rw[Gf,e]
  exact h)
 have h16:16≤i:=by simp at hc2;omega
 refine AH (AI (AE (Ai C2 [0] (C0 (Hp 0 10)) zK (J E (V E (FZ zO zO) ?_)))))
 refine EN (n:=(i-15)) E TM Aa E E zO zO ?_
 refine Aq E Ah E (EA 0 E (WZ 0 zO)) (J E (V E (FZ zO zO) ?_))
 refine EN (n:=(i-2)) E TM Aa E E zO zO ?_
 refine Aq E Ah E (EA 0 E (WZ 0 zO)) (O E (O E (U (Ai C2 [0] (BJ [(true,0),(true,1),(true,2),(true,3),(true,4),(true,5),(true,6),(true,7),(true,8),(true,9),(true,10),(true,12),(true,15),(true,16),(true,19),(true,21),(true,24),(true,25),(false,11),(false,13),(true,14),(true,17),(true,18),(false,20),(false,22),(true,23),(true,26),(true,27),(true,28)] (.last 29 .nil)) zK (J E (J E (V E (FZ zO zO) ?_)))))))
 refine EN (n:=(i-16)) E TM Aa E E zO zO ?_
 refine Aq E Ah E (EA 0 E (WZ 0 zO)) (J E (V E (FZ zO zO) ?_))
 refine EN (n:=(i-7)) E TM Aa E E zO zO ?_
 refine Aq E Ah E (EA 0 E (WZ 0 zO)) (V E CQ (J E (J E (J E ?_))))
 refine V E (Gy.shr32 (n:=3)) ?_
 refine J E (J E (J E ?_))
 refine V E (Gy.shr32 (n:=10)) ?_
 refine BT 0 PR (IB _ 7 zO zO) E ⟨⟨0,E⟩,zT⟩ (BT 0 PR (IB _ 18 zO zO) E ⟨⟨0,E⟩,zT⟩ (V E Dg (V E Dg (V E CQ (BT 0 PR (IB _ 17 zO zO) E ⟨⟨0,E⟩,zT⟩ (BT 0 PR (IB _ 19 zO zO) E ⟨⟨0,E⟩,zT⟩ (V E Dg ?_)))))))
 refine V E Dg (V E CQ ?_)
 refine EN (n:=i) E TM Aa E E zO zO ?_
 refine A4 ?_
 refine WU (f:=AC) 0 E E E E Aa E E zQ zT ?_
 rw[Uz _ _ _ 64 i hlen hi]
 refine AT (Ao (AI (AJ (V E (B2 zO zO) (J E (AT ?_))))))
 refine Am (i+1) zO zO ⟨E,E,E,E,zT⟩ (fun w h=>by
  have e:S6 s (Gf s i)=(Gf s i).getD (i-16) 0+(Gf s i).getD (i-7) 0+qQ ((Gf s i).getD (i-15) 0)+qR ((Gf s i).getD (i-2) 0):=by unfold S6;rw[hlen,if_neg zO]
  rw[Gf,e]
  exact h)
 have hi:i=64:=by simp at hc1;omega
 subst hi
 refine Av (Ay (BP (A0 (AI (Y ?_)))))
 refine BA ((FY s).map AC) E oJ (by simp[FY,hlen]) E (Dy 0 E (fun j u hu=>by simpa[Es,FY]using hu)) ?_
 refine QA 1 E E E E wv (by simp[FY,hlen]) (by simp[Es]) (Pa zV (FY s)) zT ?_
 refine U (AM ?_)
 exact Ax (KC E (Cj 1 ((FY s).map AC) oJ (by simp[FY,hlen]) E E (by simp only[List.drop_zero];exact List.take_of_length_le (by simp[FY,hlen])))) (As (M:=[]) ⟨E,E⟩ fun _ h=>h.skip [_,_])
end

section
variable {K:Nat→Prop}{w0:World}{H:List Ab}
theorem dR(T h:List UInt32)(tl:List Value)(s:List UInt8)(b:Nat)(e:TypeId)(hT:U7 K w0 3 T)(hTl:T.length=64)(hh:h.length=8)(hs:s.length=64):zC K w0 276 [vP b 0,vS s] [own b (.cells (Ou AC h tl) e)] H (fun r M=>r=.tuple #[]∧M=[own b (.cells (Ou AC (S3 T h s) tl) e)]):=by
 refine Vf.enter Tryz.func276 rfl rfl ?_
 refine AE (Ai C2 [0] (C0 (Hp 0 40)) zK (J E (AV E E ?_)))
 refine EN (n:=0) E Q9 Aa E E zO zO ?_
 refine Aq E Ah E (EA 0 E (K8 0 zO)) (J E (AV E E ?_))
 refine EN (n:=1) E Q9 Aa E E zO zO ?_
 refine Aq E Ah E (EA 0 E (K8 0 zO)) (J E (AV E E ?_))
 refine EN (n:=2) E Q9 Aa E E zO zO ?_
 refine Aq E Ah E (EA 0 E (K8 0 zO)) (J E (AV E E ?_))
 refine EN (n:=3) E Q9 Aa E E zO zO ?_
 refine Aq E Ah E (EA 0 E (K8 0 zO)) (J E (AV E E ?_))
 refine EN (n:=4) E Q9 Aa E E zO zO ?_
 refine Aq E Ah E (EA 0 E (K8 0 zO)) (J E (AV E E ?_))
 refine EN (n:=5) E Q9 Aa E E zO zO ?_
 refine Aq E Ah E (EA 0 E (K8 0 zO)) (J E (AV E E ?_))
 refine EN (n:=6) E Q9 Aa E E zO zO ?_
 refine Aq E Ah E (EA 0 E (K8 0 zO)) (J E (AV E E ?_))
 refine EN (n:=7) E Q9 Aa E E zO zO ?_
 refine Aq E Ah E (EA 0 E (K8 0 zO)) (O E (O E (O E (O E (O E (O E (O E ?_)))))))
 refine O E (U (AE (Y (J E (AN 0 tx (bM s hs) E (J E (U (AK ?_))))))))
 refine SX.mono (A9 (α:=Nat) (fun i=>i≤64) (fun i=>[(0,vP b 0),(4,AC (H3 T (FY s) h i).a),(5,AC (H3 T (FY s) h i).b),(6,AC (H3 T (FY s) h i).c),(7,AC (H3 T (FY s) h i).d),(8,AC (H3 T (FY s) h i).e),(9,AC (H3 T (FY s) h i).f),(10,AC (H3 T (FY s) h i).g),(11,AC (H3 T (FY s) h i).i),(51,.agg (Es AC (FY s))),(52,vI i)]) (fun i=>own b (.cells (Ou AC h tl) e)::H) (fun i=>64-i) (fun i D hp=>?_) 0 zO) tL
 refine Y (V E BL (U (AE ?_)))
 refine BH E (fun hc1=>?_) (fun hc1=>?_)
 have hi:i<64:=by simp at hc1;omega
 have hw:(FY s)[i]? = some ((FY s).getD i 0):=by
  rw[List.getD_eq_getElem?_getD,List.getElem?_eq_getElem (by rw[FY,Nk];exact hi)]
  rfl
 refine AH (AI (AE (AK (Y (J E ?_)))))
 refine RG (i:=i) E TM Ah E E zO zO (GY hw) ?_
 refine O E (O E (U (AE (Ai C2 [] (C0 [(true,0),(true,1),(true,3),(true,6),(true,10),(true,11),(true,12),(true,13),(true,14),(true,15),(true,16),(true,17),(true,19),(true,20),(true,21),(true,23),(false,2),(false,4),(true,5),(false,7),(true,8),(true,9),(true,18),(true,22),(true,24),(true,25)]) zK (J E (J E (J E (J E (J E ?_)))))))))
 refine J E (V E IP (J E (ba E E (J E (V E IP (V E Dg (J E ?_)))))))
 refine EN (b:=3) (n:=i) E TM Aa E E zO zO ?_
 refine Aq E Ah E (hT.load zO) (J E (AN 0 PR (IB _ 6 zO zO) E (AN 0 PR (IB _ 11 zO zO) E (V E Dg (AN 0 PR (IB _ 25 zO zO) E (V E Dg (V E CQ ?_)))))))
 refine V E CQ (V E CQ (V E CQ (O E (U (Y (J E (AN 0 PR (IB _ 2 zO zO) E (J E (AN 0 PR (IB _ 13 zO zO) E ?_)))))))))
 refine V E Dg (J E (AN 0 PR (IB _ 22 zO zO) E (V E Dg (J E (J E (V E IP (J E ?_)))))))
 refine J E (V E IP (V E Dg (J E (J E (V E IP (V E Dg (V E CQ ?_)))))))
 refine O E (U (AJ (J E (J E (J E (J E (J E (V E CQ (J E ?_)))))))))
 refine J E (J E (J E (J E (V E CQ (O E (O E (O E ?_)))))))
 refine O E (O E (O E (O E (O E (AT (Ao (AI (AJ (V E (B2 zO zO) (J E (AT ?_)))))))))))
 exact Am (i+1) zO zO ⟨E,E,E,E,E,E,E,E,E,E,E,zT⟩
 have hi:i=64:=by simp at hc1;omega
 subst hi
 generalize hfin:H3 T (FY s) h 64=fin
 refine Av (Ay (BP (A0 (AI (Y (J E (J E (J E (J E (J E (J E (J E (J E ?_)))))))))))))
 refine WR (fin.list.map AC) rfl qc Aa xL rfl ⟨rfl,rfl,rfl,rfl,rfl,rfl,rfl,rfl,trivial⟩ rfl rfl (fun v hv=>by obtain⟨x,_,rfl⟩:=List.mem_map.1 hv;rfl) ?_
 refine J E ?_
 have hfl:fin.list.length=h.length:=by rw[hh];rfl
 refine U (AK ?_)
 refine SX.mono (A9 (α:=Nat) (fun i=>i≤8) (fun i=>[(0,vP b 0),(122,.agg (Es AC fin.list)),(123,vI i)]) (fun i=>own b (.cells (Ou AC (Ta h fin.list i) tl) e)::H) (fun i=>8-i) (fun i D hp=>?_) 0 zO) tL
 refine Y (V E BL (U (AE ?_)))
 refine BH E (fun hc2=>?_) (fun hc2=>?_)
 have hi:i<8:=by simp at hc2;omega
 have hml:=XB h _ hfl i
 have hw:fin.list[i]? = some (fin.list.getD i 0):=by
  rw[List.getD_eq_getElem?_getD,List.getElem?_eq_getElem zO]
  rfl
 refine AH (AI (AE (AK (Y (J E ?_)))))
 refine RG (i:=i) E qc Ah E E zO zO (GY hw) ?_
 refine O E (O E (U (Ai C2 [0] (BJ (Hp 0 9) (.last 9 .nil)) zK (J E (J E (AV E E ?_))))))
 refine EN (n:=i) E Q9 Aa E E zO zO ?_
 refine Aq E Ah E (EA 0 E (K8 0 zO)) ?_
 rw[cH h _ hfl i zO]
 refine J E (V E CQ (AV E E ?_))
 refine EN (n:=i) E Q9 Aa E E zO zO ?_
 refine A4 ?_
 refine rM (f:=AC) 0 E E E E Aa E E zO zT ?_
 rw[cI h _ hfl i zO]
 refine AT (Ao (AI (AJ (V E (B2 zO zO) (J E (AT ?_))))))
 exact Am (i+1) zO zO ⟨E,E,E,zT⟩
 have hi:i=8:=by simp at hc2;omega
 subst hi
 refine Av (Ay (BP (A0 ?_)))
 have hfull:=aR h _ hfl
 rw[hh]at hfull
 rw[hfull,←hfin]
 exact D5 (E4 E) (As (M:=[_]) ⟨E,E⟩ fun _ h=>h)
theorem YD(T:List UInt32)(h:Oq)(rest s:List UInt8)(n:Int)(b:Nat)(e:TypeId)(hT:U7 K w0 3 T)(hTl:T.length=64)(hs:s.length=64):zC K w0 276 [vP b 0,vS s] [own b (.cells (Pj h rest n) e)] H (fun r M=>r=.tuple #[]∧M=[own b (.cells (Pj (Vy T h s) rest n) e)]):=by
 have h1:=dR (K:=K) (w0:=w0) (H:=H) T h.list [vS rest,vI n] s b e hT hTl rfl hs
 rw[←Sf (VX (T:=T) (s:=s) (show h.list.length=8 from rfl))]at h1
 exact h1
end

section
variable {K:Nat→Prop}{w0:World}{H:List Ab}
def gP(p:Nat×List UInt8):List Value:=[vI p.1,vS p.2]
theorem em(s:List UInt8)(b:Nat)(hn:s.length≤1099511627776):oF Tryz.prog K w0 288 [vP b 0] [own b (.cells #[vS s] 9)] gP (QK s):=by
 intro lp J9 X T hy G h0
 refine Vf.enter Tryz.func288 rfl rfl ?_
 refine Y (O E (U (AK ?_)))
 refine SX.mono (A9 (α:=Nat×List Ab) (fun x=>x.1≤s.length / 64∧J9 ((QK s).take x.1) x.2) (fun x=>[(0,vY lp),(1,vP b 0),(3,vI (64*(x.1+1):Nat))]) (fun x=>own b (.cells #[vS s] 9)::(x.2++T)) (fun x=>s.length / 64-x.1) (fun x D hp=>?_) (0,G) ⟨Nat.zero_le _,h0⟩) tL
 obtain⟨i,G⟩:=x
 obtain⟨hi,hJ⟩:=hp
 simp only at hi hJ
 refine AE (Y (J E (AG 0 H9 E (CI E De E (V E Ex (U ?_))))))
 refine BH E (fun hc1=>?_) (fun hc1=>?_)
 have hlt:i<s.length / 64:=by simp at hc1;omega
 have hg:=YR s i hlt
 refine AH (AI (AE (AK (Y (J E (J E (AG 0 H9 E (J E (V E (FZ zO zO) (J E (kM (64*i) (64*(i+1)) E De E E E zO zO zO zO ?_)))))))))))
 have ht:64*(i+1)-64*i=64:=zO
 rw[ht]
 refine I7 (M2:=[_]) (G:=G) (T:=T) (vs:=[_,_]) (ok:=fun G1=>J9 ((QK s).take (i+1)) G1) (no:=X) E E ⟨E,E,zT⟩ E ?_ (fun bb G1 hG1=>⟨zT,?_⟩)
 intro M
 have:=hy _ _ _ (Gg hg).1 G hJ M
 rw[←(Gg hg).2]at this
 exact this
 refine CO E E (U ?_)
 refine BH E (fun hc2=>?_) (fun hc2=>?_)
 obtain rfl:bb=false:=by simpa using hc2
 refine AM (BO (Ag (FB (BO ?_))))
 exact Ax (E4 E) (As (M:=G1) (.inr hG1) fun _ h=>h.skip [_])
 obtain rfl:bb=true:=by simpa using hc2
 refine AH (Ao (AI (AJ (J E (V E (B2 zO zO) (O E (AT ?_)))))))
 refine Am (i+1,G1) ⟨hlt,hG1⟩ (by simp only;omega) ⟨E,E,?_,zT⟩
 have e:((64*(i+1):Nat):Int)+64=((64*(i+1+1):Nat):Int):=zO
 simp only[look,Nat.beq,Ch]
 rw[←e]
 refine Av (Ay (BP (A0 ?_)))
 have hle:i=s.length / 64:=by simp at hc1;omega
 exact D5 (E4 E) (As (M:=G) (.inl (by rw[List.take_of_length_le (by rw[Qz];omega)]at hJ;exact hJ)) fun _ h=>h.skip [_])
theorem dS(s:List UInt8):zC K w0 277 [vS s] [] H (fun r M=>∃b,r=.func (.func 288) #[] #[vP b 0]∧M=[own b (.cells #[vS s] 9)]):=by
 refine Vf.enter Tryz.func277 rfl rfl ?_
 refine Y ?_
 refine Bw E E zU fun b0=>?_
 refine O E (U (Y ?_))
 refine Im (fv:=#[]) (cv:=#[_]) E E E ?_
 refine O E (U (AM ?_))
 exact Ax (D7 E E) (As (M:=[_]) ⟨b0,E,E⟩ fun _ h=>h)
theorem dQ(h:Oq)(tl:List Value)(b:Nat)(e:TypeId):zC K w0 278 [vP b 0] [own b (.cells (Ou AC h.list tl) e)] H (fun r M=>r=vS (h.list.flatMap IS)∧M=[own b (.cells (Ou AC h.list tl) e)]):=by
 refine Vf.enter Tryz.func278 rfl rfl ?_
 refine Y (O E (U (Y (O E (U (AE (Y (J E (J E (U (AK (KL 5 1 ?_))))))))))))
 refine SX.mono (A9 (α:=Nat×Value) (fun x=>x.1≤8) (fun x=>[(3,x.2),(6,vP b 0),(7,vI x.1)]) (fun x=>Ew 5 1 x.2 (4*x.1) (((h.list.take x.1).flatMap IS).map fun b=>Fo b)::own b (.cells (Ou AC h.list tl) e)::H) (fun x=>8-x.1) (fun x D hp=>?_) (0,zN) zD) tL
 obtain⟨i,v⟩:=x
 simp only at hp
 refine Y (V E BL (U (AE ?_)))
 refine BH E (fun hc1=>?_) (fun hc1=>?_)
 have hlt:i<8:=by simp at hc1;omega
 refine AH (AI (AE (AK (Y (AV E E ?_)))))
 refine EN (n:=i) E Q9 Aa E E zO zO ?_
 refine Aq E Ah E (EA 1 E (K8 0 hlt)) (O E (U (AJ (J E (J E ?_)))))
 refine V E (Gy.shr32 (n:=24)) ?_
 refine BZ E E (EM C6 Ej) (J E ?_)
 refine V E (Gy.shr32 (n:=16)) ?_
 refine BZ E E (EM C6 Ej) (J E ?_)
 refine V E (Gy.shr32 (n:=8)) ?_
 refine BZ E E (EM C6 Ej) (J E (BZ E E (EM C6 Ej) ?_))
 refine Ck [_,_,_,_] E DO LM MF ⟨E,E,E,E,zT⟩ E E E zX E E zU fun b0=>?_
 refine WQ 1 rfl (m:=4) (news:=(IS (h.list.getD i 0)).map fun b=>Fo b) DO LM XV MF rfl zD rfl rfl rfl rfl (A2 0 rfl) (by intro u hu;obtain⟨x,_,rfl⟩:=List.mem_map.1 hu;rfl) zO zO zU fun v'=>?_
 refine O E (AT (Ao (AI (AJ (V E (B2 zO zO) (J E (AT ?_)))))))
 refine Am (i+1,v') (by simp only;omega) (by simp only;omega) ⟨E,E,E,zT⟩ (fun w hw=>by
  have e1:h.list.take (i+1)=h.list.take i++[h.list.getD i 0]:=by
   rw[List.take_add_one,List.getD_eq_getElem?_getD,List.getElem?_eq_getElem (show i<h.list.length from hlt)]
   rfl
  simp only
  rw[e1,List.flatMap_append,List.map_append]
  simp only[List.flatMap_cons,List.flatMap_nil,List.append_nil]
  exact hw.skip [_])
 have hi:i=8:=by simp at hc1;omega
 subst hi
 refine Av (Ay (BP (A0 (AI (Y (J E ?_))))))
 refine ZE (s:=h.list.flatMap IS) 0 E DO Ej De E E ?_
 refine O E (U (AM ?_))
 exact Ax (D7 E E) (As (M:=[_]) ⟨E,E⟩ fun _ h=>h.skip [_])
end

section
variable {K:Nat→Prop}{w0:World}{H:List Ab}
theorem Wh(T:List UInt32)(h:Oq)(rest s:List UInt8)(n:Int)(b:Nat)(e:TypeId)(hT:U7 K w0 3 T)(hTl:T.length=64)(hr:rest.length<64)(hn:s.length≤1099511627776):zC K w0 257 [vP b 0,vS s] [own b (.cells (Pj h rest n) e)] H (fun r M=>r=.tuple #[]∧M=[own b (.cells (Pj (Fe T h (rest++s)).1 (Fe T h (rest++s)).2 n) e)]):=by
 refine Vf.enter Tryz.func257 rfl rfl ?_
 refine Y ?_
 refine Bw E E zU fun b0=>?_
 refine Bw E E zU fun b1=>?_
 refine U (MK ?_)
 refine ZK (α:=Oq×List UInt8×List UInt8) (fun x=>Fe T x.1 (x.2.1++x.2.2)=Fe T h (rest++s)∧x.2.1.length<64∧(x.2.1≠[]→(x.2.1++x.2.2).length<64)∧x.2.2.length≤s.length) (fun x=>[(2,vP b0 0),(3,vP b1 0)]) (fun x=>own b1 (.cells #[vS x.2.2] 9)::own b0 (.cells #[vP b 0] 345)::own b (.cells (Pj x.1 x.2.1 n) e)::H) ?_ (fun x hx=>?_)
 refine AE (Ai C2 [0,1,2] (C0 (Hp 0 16)) zK (AG 1 Q5 E (AV E E (AF E NG (AG 2 H9 E ?_)))))
 refine V E (WJ (t:=[])) ?_
 refine J E ?_
 refine DT (c:=decide ((64:Int)≤(rest.length:Int)+s.length)) 13 10 23 E (fun hb k=>?_) (fun hb k=>?_) ?_
 refine AG 1 Q5 E (AV E E (AF E NG (AG 2 H9 E (CI E De E (AG 0 H9 E (CI E De E (V E (B2 zO zO) ?_)))))))
 refine V E FH (An E E E ?_)
 exact k.mono tL
 refine AA E (AA E (AA E (AA E (AA E (AA E (AA E (AA E ?_)))))))
 refine AA E (An E E E ?_)
 exact k.mono tL
 refine U ?_
 refine BH E (fun hc1=>?_) (fun hc1=>?_)
 have hne:rest≠[]∧64≤rest.length+s.length:=by simp at hc1;exact⟨hc1.1,by omega⟩
 refine Y (AG 1 Q5 E (AV E E (AF E NG (AG 2 H9 E (CI E De E (V E (FZ zO zO) (O E (U (AE (Ai C2 [0,1,2] (BJ (Hp 0 11) (.last 11 .nil)) zK ?_))))))))))
 refine AG 1 Q5 E (AV E E (AF E aH (AG 1 Q5 E (AV E E (AF E NG (AG 2 H9 E (AG 0 H9 E ?_)))))))
 refine J E (Tt (64-rest.length) E De E E zO zO (V E (G6 zQ) (A4 (SL.pick [2,0,1] 3 (AN 1 lC (YD T h rest (rest++s.take (64-rest.length)) n b e hT hTl zQ) E (SL.pick [1,2,0] 3 (U (Ai C2 [0,1] (BJ [(true,0),(true,1),(true,2),(true,3),(true,4),(true,5),(false,6)] (.last 7 .nil)) zK (AG 1 Q5 E ?_)))))))))
 refine AG 0 H9 E (J E (QX (64-rest.length) E De E E zO zO (AV E E (AF E NG (BN 2 E E E E Is E E E ⟨⟨0,E⟩,⟨1,E⟩,zT⟩ (A4 (BN 0 E E E E Is E E E zT (AT ?_))))))))
 refine Ut (Vy T h (rest++s.take (64-rest.length)),[],s.drop (64-rest.length)) ⟨?_,by simp,fun h=>absurd E h,by simp⟩ tL
 have e1:rest++s=(rest++s.take (64-rest.length))++s.drop (64-rest.length):=by rw[List.append_assoc,List.take_append_drop]
 have e2:=WX (T:=T) (h:=h) (p:=rest++s.take (64-rest.length)) (s:=s.drop (64-rest.length)) zQ
 rw[e1,e2]
 rfl
 refine AH ?_
 refine Ut (h,rest,s) ⟨E,hr,fun hne=>?_,Nat.le_refl _⟩ tL
 simp at hc1
 have:=hc1 hne
 simp
 omega
 
 obtain⟨h1,r1,s1⟩:=x
 obtain⟨hx1,hx2,hx3,hx4⟩:=hx
 simp only at hx1 hx2 hx3 hx4
 refine AE (Y (AG 1 Q5 E (AV E E (AF E NG (AG 2 H9 E ?_)))))
 refine V E (WJ (t:=[])) ?_
 refine U ?_
 refine BH E (fun hc2=>?_) (fun hc2=>?_)
 have hsh:=hx3 (by simpa using hc2)
 rw[RZ hsh]at hx1
 rw[←hx1]
 refine AE (Ai C2 [0,1,2] (BJ (Hp 0 8) (.last 8 .nil)) zK (AG 1 Q5 E (AV E E (AF E NG (AG 2 H9 E (AG 0 H9 E (V E (G6 zQ) (AV E E ?_))))))))
 refine AF E NG (A4 (BN 2 E E E E Is E E E zT (U (AM (Ag (Fx ?_))))))
 exact Ax (E4 E) (As (M:=[_]) ⟨E,E⟩ fun _ h=>h.skip [_,_])
 have hr1:r1=[]:=by simpa using hc2
 subst hr1
 rw[List.nil_append,My]at hx1
 rw[←hx1]
 refine AH (AI (Y ?_))
 refine A6 E qs zU fun b2=>?_
 refine BN 0 E E E E QP E E E zT (U (AE (MJ (AI (AE (Y (AG 1 H9 E (Bi 0 tp (dS s1) E ?_))))))))
 rintro _ _ ⟨bi,rfl,rfl⟩
 refine U (AK ?_)
 refine Uu (enc:=gP) (QK s1) (fun pre G=>G=own b2 (.cells #[vI (64*pre.length:Nat)] 3)::own b1 (.cells #[vS s1] 9)::own b0 (.cells #[vP b 0] 345)::own b (.cells (Pj (H8 T h1 s1 pre.length) [] n) e)::H) (fun c G=>c=.exit 0∧G=own b2 (.cells #[vI (64*(s1.length / 64):Nat)] 3)::own b1 (.cells #[vS s1] 9)::own b0 (.cells #[vP b 0] 345)::own b (.cells (Pj (H8 T h1 s1 (s1.length / 64)) [] n) e)::H) E tz E zV (em s1 bi zO) E E (fun pre x suf G hxs hJ r lp Rest=>?_) (fun G D hJ=>?_) (fun c G D hX=>?_)
 obtain rfl:=hJ
 have hget:(QK s1)[pre.length]? = some x:=by rw[hxs];simp
 have hlt:pre.length<s1.length / 64:=by
  have:=Qz s1
  rw[hxs]at this
  simp at this
  omega
 rw[YR s1 _ hlt]at hget
 obtain rfl:=zI hget
 refine Y (O E (U (AJ (O E (AT (MI (AK (Y (AG 2 Q5 E (AV E E (AF E aH (J E (SL.pick [3,0,1,2] 4 (AN 1 lC (YD T (H8 T h1 s1 pre.length) [] _ n b e hT hTl zQ) E ?_))))))))))))))
 refine SL.pick [1,2,3,0] 4 (U (Y (J E (BN 0 E E E E QP E E E zT (U (Y (AG 1 H9 E (CI E De E (J E (V E (FZ zO zO) (V E BL (U ?_))))))))))))
 refine BH E (fun hc3=>?_) (fun hc3=>?_)
 refine Av (FK ?_)
 have e1:pre.length+1=s1.length / 64:=by simp at hc3;omega
 exact PY (G:=_::_::_::_::H) (by rw[←e1];exact⟨E,E⟩) (fun _ h=>h)
 refine AH (Ao ?_)
 exact Jl (G:=_::_::_::_::H) (by rw[show(pre++[(64*(pre.length+1),(s1.drop (64*pre.length)).take 64)]).length=pre.length+1 by simp];rfl) (fun _ h=>h)
 obtain rfl:=hJ
 rw[Qz]
 refine Ao (AI (Ai C2 [0,1,2] (BJ (Hp 0 6) (.last 6 .nil)) zK (AG 2 Q5 E (AG 1 H9 E (AG 0 Gi E (QX (64*(s1.length / 64)) E De E E zO zO (AV E E (AF E NG (A4 (BN 3 E E E E Is E E E zT (AT (kO ?_))))))))))))
 exact D5 (E4 E) (As (M:=[_]) ⟨E,E⟩ fun _ h=>h.skip [_,_,_])
 obtain⟨rfl,rfl⟩:=hX
 refine Av (A0 (AI (Ai C2 [0,1,2] (BJ (Hp 0 6) (.last 6 .nil)) zK (AG 2 Q5 E (AG 1 H9 E (AG 0 Gi E (QX (64*(s1.length / 64)) E De E E zO zO (AV E E (AF E NG (A4 (BN 3 E E E E Is E E E zT (AT (kO ?_)))))))))))))
 exact D5 (E4 E) (As (M:=[_]) ⟨E,E⟩ fun _ h=>h.skip [_,_,_])
end

section
variable {K:Nat→Prop}{w0:World}{H:List Ab}
def cD(e:TypeId):Prop:=liesAt Tryz.prog Tryz.prog.depth e (2 / Tryz.prog.cellsOf e) 0 161 1=true
theorem xZ(v:Value)(w:World):(callFunc 146 [v].toArray).run Tryz.prog w=.ok (.value v) w:=by
 rw[run_callFunc_extern (e:=Extern.AbiNoEscape.same) Tryz.func146 zK zK zK zK]
 rfl
theorem bC(e:TypeId)(b:Nat)(v:Value)(hl:cD e):zC K w0 108 [vP b 0] [own b (.cells #[.pointer none,v] e)] H (fun r M=>r=.tuple #[]∧M=[own b (.cells #[vP b 0,v] e)]):=by
 refine Vf.enter Tryz.func108 rfl rfl ?_
 refine Y (J E (AV E E (AF E W2 (AG 0 jt E (GJ E ar E E (U (R8 E (AJ (J E (J E ?_))))))))))
 refine rN 0 E ar qb jz E E E E ?_
 refine np E (vs:=[_]) ⟨E,zT⟩ (xZ _) ?_
 refine rA 0 E qb ar jz E E hl (AV E E (AF E W2 (BN 0 E E E E wj E E E zT (AT ?_))))
 exact D5 (E4 E) (As (M:=[_]) ⟨E,E⟩ fun _ h=>h)
theorem bD(e:TypeId)(b:Nat)(v:Value):zC K w0 108 [vP b 0] [own b (.cells #[vP b 0,v] e)] H (fun r M=>r=.tuple #[]∧M=[own b (.cells #[vP b 0,v] e)]):=by
 refine Vf.enter Tryz.func108 rfl rfl ?_
 refine Y (J E (AV E E (AF E W2 (AG 0 jt E (GJ E ar E E (U (EO E (Y (J E (AV E E ?_))))))))))
 refine AF E W2 (AG 0 jt E (J E (nu E ar jz E E (U (EO E (AH ?_))))))
 exact D5 (E4 E) (As (M:=[_]) ⟨E,E⟩ fun _ h=>h)
def QZ(b:Nat)(p:Value):Prop:=p=.pointer none∨p=vP b 0
theorem Sk(e:TypeId)(b:Nat)(p v:Value)(hp:QZ b p)(hl:cD e):zC K w0 108 [vP b 0] [own b (.cells #[p,v] e)] H (fun r M=>r=.tuple #[]∧M=[own b (.cells #[vP b 0,v] e)]):=by
 rcases hp with rfl | rfl
 exact bC e b v hl
 exact bD e b v
theorem QB(e:TypeId)(b:Nat)(p v:Value)(n:Nat)(xs:List Value)(c:UInt8)(hp:QZ b p)(hl:cD e)(hn:n+1≤140737488355328):
  zC K w0 228 [vP b 0,Fo c] [own b (.cells #[p,v] e),Ew 5 1 v n xs] H
   (fun r M=>r=.nilIface∧∃v',M=[own b (.cells #[vP b 0,v'] e),Ew 5 1 v' (n+1) (xs++[Fo c])]):=by
 refine Vf.enter Tryz.func228 rfl rfl ?_
 refine Y (O E (U (Y (J E (AN 1 dU (Sk e b p v hp hl) E (U (Y (J E (J E (AV E E (AF E J8 (AG 0 Rs E ?_))))))))))))
 refine J E ?_
 refine Ck [Fo c] E DO LM MF ⟨E,zT⟩ E E E zX E E zU fun b1=>?_
 refine WQ 2 E (news:=[Fo c]) DO LM XV MF E zD E E E E (A2 0 E) (by simp[Value.oneCell']) zO zO zU fun v'=>?_
 refine AV E E (AF E J8 ?_)
 refine fm (fun w hw=>ab (hw.holds _ (List.mem_append_left _ (List.mem_of_getElem? (i:=2) E)))) fun hsh=>?_
 have hc1:v'.cells=#[v']:=by rcases hsh with⟨rfl,_⟩ | ⟨g,cap,rfl,_⟩<;>rfl
 have ho1:v'.oneCell'=true:=by rcases hsh with⟨rfl,_⟩ | ⟨g,cap,rfl,_⟩<;>rfl
 refine BN 1 E E E E jx (by rw[hc1];rfl) (by rw[hc1];simp[ho1]) E zT ?_
 rw[hc1]
 refine U (Y (O E (U (AM ?_))))
 exact Ax (D7 E E) (As (M:=[_,_]) ⟨E,v',E⟩ fun _ h=>h.skip [_])
theorem IU(e:TypeId)(b:Nat)(p v:Value)(n:Nat)(xs:List Value)(s:List UInt8)(hp:QZ b p)(hl:cD e)(hn:n+s.length≤140737488355328):
  zC K w0 76 [vP b 0,vS s] [own b (.cells #[p,v] e),Ew 5 1 v n xs] H
   (fun r M=>r=.tuple #[vI s.length,.nilIface]∧∃v',M=[own b (.cells #[vP b 0,v'] e),Ew 5 1 v' (n+s.length) (xs++s.map fun b=>Fo b)]):=by
 refine Vf.enter Tryz.func76 rfl rfl ?_
 refine Y (O E (O E (U (Y (J E (AN 1 dU (Sk e b p v hp hl) E (U (Y (J E (J E (AV E E (AF E J8 ?_))))))))))))
 refine AG 0 Rs E (J E ?_)
 refine nn 1 E DO De LM XV MF E E E hn zU fun v'=>?_
 refine AV E E (AF E J8 ?_)
 refine fm (fun w hw=>ab (hw.holds _ (List.mem_append_left _ (List.mem_of_getElem? (i:=1) E)))) fun hsh=>?_
 have hc1:v'.cells=#[v']:=by rcases hsh with⟨rfl,_⟩ | ⟨g,cap,rfl,_⟩<;>rfl
 have ho1:v'.oneCell'=true:=by rcases hsh with⟨rfl,_⟩ | ⟨g,cap,rfl,_⟩<;>rfl
 refine BN 0 E E E E jx (by rw[hc1];rfl) (by rw[hc1];simp[ho1]) E zT ?_
 rw[hc1]
 refine U (Y (J E (CI E De E (O E (O E (U (AM ?_)))))))
 exact Ax (F1 E E E) (As (M:=[_,_]) ⟨E,v',E⟩ fun _ h=>h)
theorem c9(e:TypeId)(b:Nat)(p v:Value)(n:Nat)(xs:List Value):
  zC K w0 77 [vP b 0] [own b (.cells #[p,v] e),Ew 5 1 v n xs] H
   (fun r M=>r=vI n∧M=[own b (.cells #[p,v] e),Ew 5 1 v n xs]):=by
 refine Vf.enter Tryz.func77 rfl rfl ?_
 refine Y (O E (U (Y (J E (AV E E (AF E J8 (AG 0 Rs E (fp 1 E DO E E (O E (U (AM ?_)))))))))))
 exact Ax (D7 E E) (As (M:=[_,_]) ⟨E,E⟩ fun _ h=>h)
theorem LA(e:TypeId)(b:Nat)(p v:Value)(n:Nat)(s:List UInt8)(hn:n≤140737488355328):
  zC K w0 78 [vP b 0] [own b (.cells #[p,v] e),Ew 5 1 v n (s.map fun b=>Fo b)] H
   (fun r M=>r=vS s∧M=[own b (.cells #[p,v] e),Ew 5 1 v n (s.map fun b=>Fo b)]):=by
 refine Vf.enter Tryz.func78 rfl rfl ?_
 refine Y (O E (U (AE (Ai C2 [0,1] (C0 [(true,0),(true,1),(true,2),(true,3),(true,5),(true,6),(true,7),(true,8),(true,9),(false,4),(false,10),(true,11)]) zK (J E (AV E E (AF E J8 (AG 0 Rs E (J E (AV E E ?_))))))))))
 refine AF E J8 (AG 0 Rs E (fp 1 E DO E E ?_))
 refine oB 1 E qY E E ⟨⟨0,E⟩,⟨1,E⟩,zT⟩ fun q hq=>?_
 refine oC 1 E qY yD E E hq E zO ⟨⟨0,E⟩,⟨1,E⟩,zT⟩ (O E (U (AM ?_)))
 exact Ax (D7 E E) (As (M:=[_,_]) ⟨E,E⟩ fun _ h=>h)
end

section
variable {K:Nat→Prop}{w0:World}{H:List Ab}
theorem fD{y:UInt64}(h:y.toNat<4294967296):shr64 y 32=0:=by
 apply UInt64.toNat_inj.1
 have h1:y.toNat / 4294967296=0:=Nat.div_eq_of_lt h
 simp[shr64,h1]
theorem oM(n:Nat)(h:n<9223372036854775808):decide ((9223372036854775807:UInt64)<DJ n)=false:=by
 rw[decide_eq_false_iff_not,UInt64.lt_iff_toNat_lt]
 have h1:(9223372036854775807:UInt64).toNat=9223372036854775807:=by decide
 have h2:(DJ n).toNat=n:=by simp only[DJ,UInt64.toNat_ofNat'];omega
 omega
theorem ct{y:UInt64}(h:y.toNat<4294967296):y &&& 4294967295=y:=by
 apply UInt64.toNat_inj.1
 rw[UInt64.toNat_and]
 exact Nat.and_two_pow_sub_one_of_lt_two_pow (n:=32) h
theorem oV(y:UInt64)(hy:y.toNat<4294967296):zC K w0 106 [Bh 1,Bh y] [] H (fun r M=>r=.tuple #[Bh 0,Bh y]∧M=[]):=by
 refine Vf.enter Tryz.func106 rfl rfl ?_
 refine Y (O E (O E (U (Y (J E ?_)))))
 refine V E (Oy (b:=4294967295)) ?_
 refine O E (U (Y (J E ?_)))
 refine V E (Gy.shr64 (n:=32)) ?_
 refine O E (U (Y (J E ?_)))
 refine V E (Oy (b:=4294967295)) ?_
 refine O E (U (Y (J E ?_)))
 refine V E (Gy.shr64 (n:=32)) ?_
 refine O E (U (Y (J E (J E (V E Nl (O E (U (Y (J E (J E (V E Nl ?_)))))))))))
 refine J E ?_
 refine V E (Gy.shr64 (n:=32)) ?_
 refine V E JU (O E (U (Y (J E ?_))))
 refine V E (Oy (b:=4294967295)) ?_
 refine O E (U (Y (J E ?_)))
 refine V E (Gy.shr64 (n:=32)) ?_
 refine O E (U (Y (J E (J E (J E (V E Nl (V E JU (O E (U (Y (J E ?_)))))))))))
 refine J E (V E Nl (J E (V E JU (J E ?_))))
 refine V E (Gy.shr64 (n:=32)) ?_
 refine V E JU (O E (U (Y (J E (J E (V E Nl (O E (U (AM ?_)))))))))
 have h1:shr64 y 32=0:=fD hy
 have h2:y &&& 4294967295=y:=ct hy
 have h3:shr64 (1:UInt64) 32=0:=by decide
 have h4:(1:UInt64) &&& 4294967295=1:=by decide
 have h5:shr64 (0:UInt64) 32=0:=by decide
 have h6:(0:UInt64) &&& 4294967295=0:=by decide
 refine Ax (F1 E E E) (As (M:=[]) ⟨?_,E⟩ fun _ h=>h.skip [])
 simp[h1,h2,h3,h4,h5,h6]
theorem oU(y:UInt64)(hy:y.toNat<4294967296):zC K w0 73 [Bh 1,Bh y] [] H (fun r M=>r=.tuple #[Bh 0,Bh y]∧M=[]):=by
 refine Vf.enter Tryz.func73 rfl rfl ?_
 refine Y (O E (O E (U (AE ?_))))
 refine BH E (fun hc1=>absurd hc1 zD) (fun hc1=>?_)
 refine AH (AI (Y (J E (J E (AN 0 rX (oV y hy) E (J E (Ap E E E (Ap E E E (O E (O E (U (Y ?_))))))))))))
 refine J E (J E (O E (O E (U (AM ?_)))))
 exact Ax (F1 E E E) (As (M:=[]) ⟨E,E⟩ fun _ h=>h.skip [])
theorem oX(b n:Nat)(hn:n≤281474976710656):zC K w0 109 [vP b 0,vI n] [own b (.cells #[vP b 0,zN] 161)] H (fun r M=>r=.tuple #[]∧∃v,M=[own b (.cells #[vP b 0,v] 161),Ew 5 1 v 0 []]):=by
 refine Vf.enter Tryz.func109 rfl rfl ?_
 refine AE (Ai C2 [0] (C0 [(true,0),(true,1),(true,2),(true,3),(true,4),(true,5),(true,6),(true,7),(true,9),(true,10),(true,11),(true,12),(true,13),(false,8),(true,14),(true,15)]) zK (J E (AV E E (AF E J8 (AG 0 Rs E (fj E DO E (V E (QR zO zO) (J E ?_))))))))
 refine V E (B2 zO zO) (J E (AV E E (AF E J8 (AG 0 Rs E (Jk E DO E ?_)))))
 refine rH (n:=n) (fn:=Tryz.f147) E E zO hn DO (fun w r w' hr=>by rw[run_callFunc_extern (e:=Extern.BytealgMakeNoZero.makeNoZero #[3] #[123]) Tryz.func147 zK zK zK zK];rw[show(Extern.BytealgMakeNoZero.makeNoZero #[3] #[123] #[vI n]).run Tryz.prog w=.ok r w' from hr];rfl) (fun _ _=>⟨⟨1,E⟩,zT⟩) fun b1 cs hcs hcm=>?_
 refine fu 0 E DO LM E E E zO (O E (U (Y (J E (J E (AV E E (AF E J8 (AG 1 Rs E (q9 E DO LM E E (U (AJ ?_)))))))))))
 refine J E (J E (AV E E (AF E J8 (BN 1 E E E E jx E E E zT (AT ?_)))))
 refine SQ.heap (H':=Ew 5 1 (.slice (some ⟨b1,0,none⟩) 0 cs.size) 0 []::own b (.cells #[vP b 0,.slice (some ⟨b1,0,none⟩) 0 cs.size] 161)::H) ?_ fun w hw=>ff hw zS zO
 exact D5 (E4 E) (As (M:=[_,_]) ⟨E,_,E⟩ fun _ h=>h.perm (List.Perm.swap _ _ _))
theorem f8(b n:Nat)(p:Value)(hp:QZ b p)(h0:0<n)(hn:n≤281474976710656):zC K w0 75 [vP b 0,vI n] [own b (.cells #[p,zN] 161)] H (fun r M=>r=.tuple #[]∧∃v,M=[own b (.cells #[vP b 0,v] 161),Ew 5 1 v 0 []]):=by
 refine Vf.enter Tryz.func75 rfl rfl ?_
 refine Y (J E (AN 1 dU (Sk 161 b p (.slice none 0 0) hp S5) E (U (AE (Y (J E (V E BL (U ?_))))))))
 refine BH E (fun hc1=>absurd hc1 zS) (fun hc1=>?_)
 refine AH (AI (AE (Ai C2 [0] (C0 (Hp 0 13)) zK (J E (AV E E (AF E J8 (AG 0 Rs E (fj E DO E (J E (AV E E ?_))))))))))
 refine AF E J8 (AG 0 Rs E (Jk E DO E (V E (FZ zO zO) (J E (V E BL (U ?_))))))
 refine BH E (fun hc2=>?_) (fun hc2=>absurd hc2 zQ)
 refine AJ (J E (J E (Bi 1 rY (oX b n hn) E ?_)))
 rintro _ _ ⟨rfl,v,rfl⟩
 refine AT ?_
 exact D5 (E4 E) (As (M:=[_,_]) ⟨E,v,E⟩ fun _ h=>h)
theorem O6(n:Nat)(hn:n≤8192):zC K w0 49 [vS [0],vI n] [] H (fun r M=>r=vS (List.replicate n 0)∧M=[]):=by
 refine Vf.enter Tryz.func49 rfl rfl ?_
 refine Y (O E (U (AE (Y (J E (U (AK (Y (V E Bv (O E (U ?_)))))))))))
 refine BH E (fun hc1=>?_) (fun hc1=>?_)
 refine Y (O E (U (AM (BO (Ag ?_)))))
 exact Ax (D7 E E) (As (M:=[]) ⟨by have h0:n=0:=(by simpa using hc1);subst h0;rfl,E⟩ fun _ h=>h.skip [])
 have h0:n≠0:=by intro h;subst h;simp at hc1
 refine Y (V E Bv (O E (U ?_)))
 refine BH E (fun hc2=>?_) (fun hc2=>?_)
 refine Y (J E (O E (U (AM (BO (Ag ?_))))))
 exact Ax (D7 E E) (As (M:=[]) ⟨by have h1:n=1:=(by simp at hc2;omega);subst h1;rfl,E⟩ fun _ h=>h.skip [])
 refine AH (Ao (AI (AE (Y (J E (V E BL (U ?_)))))))
 refine BH E (fun hc3=>absurd hc3 zS) (fun hc3=>?_)
 refine AH (AI (Y (J E (CI E De E (BZ E E (Ff Jh PN) (J E (BZ E E (Ff Jh PN) (AN 0 ot (oU (DJ n) (by simp[DJ];omega)) E (J E (Ap E E E ?_))))))))))
 refine Ap E E E (O E (O E (U (AE (Y (J E ?_))))))
 refine V E (O0 (b:=0)) ?_
 refine J E ?_
 refine GR (c:=false) 31 3 34 E (fun hb k=>?_) (fun hb k=>?_) ?_
 refine AA E (AA E (An E E E ?_))
 exact k.mono tL
 refine J E ?_
 refine V E (O0 (b:=9223372036854775807)) ?_
 rw[oM n zO]
 refine An E E E ?_
 exact k.mono tL
 refine U ?_
 refine BH E (fun hc4=>absurd hc4 zD) (fun hc4=>?_)
 refine AH (AI (Y (J E ?_)))
 have hto:((DJ n).toNat:Int)=n:=by simp only[DJ,UInt64.toNat_ofNat'];omega
 refine BZ E E (kF (n:=((DJ n).toNat:Int)) PN Jh zO zO) ?_
 rw[hto]
 refine O E (U (AE (Y (J E (CI E De E (V E Bv (U ?_)))))))
 refine BH E (fun hc5=>absurd hc5 zD) (fun hc5=>?_)
 refine AH (AI (AE (Y (J E (MH 0 E De E E zD zD (U (AK (AE (Y ?_)))))))))
 refine V E (Tj (b:=32)) ?_
 refine O E (U ?_)
 refine BH E (fun hc6=>absurd hc6 zD) (fun hc6=>?_)
 refine Y ?_
 refine V E (Tj (b:=45)) ?_
 refine O E (U ?_)
 refine BH E (fun hc7=>absurd hc7 zD) (fun hc7=>?_)
 refine Y ?_
 refine V E (Tj (b:=48)) ?_
 refine O E (U ?_)
 refine BH E (fun hc8=>absurd hc8 zD) (fun hc8=>?_)
 refine Y ?_
 refine V E (Tj (b:=61)) ?_
 refine O E (U ?_)
 refine BH E (fun hc9=>absurd hc9 zD) (fun hc9=>?_)
 refine AJ ?_
 refine V E (Tj (b:=9)) ?_
 refine O E (U ?_)
 refine BH E (fun hc10=>absurd hc10 zD) (fun hc10=>?_)
 refine AH (Ao (AI (Y (J E (O E (U (AE (Y (J E (V E C8 (U ?_)))))))))))
 refine BH E (fun hc11=>absurd hc11 zQ) (fun hc11=>?_)
 refine AH (AI (Y ?_))
 refine A6 E bA zU fun b0=>?_
 refine U (Y (J E (Bi 1 ou (f8 b0 n _ (.inl E) zO zO) E ?_)))
 rintro _ _ ⟨rfl,v1,rfl⟩
 refine U (Y (J E (Bi 2 UF (IU 161 b0 _ v1 0 [] [0] (.inr E) S5 zS) E ?_)))
 rintro _ _ ⟨rfl,v2,rfl⟩
 refine U (AE (AK ?_))
 refine SX.mono (A9 (α:=Nat×Value) (fun x=>1≤x.1∧x.1≤n) (fun x=>[(0,vS [0]),(7,vI n),(8,vI n),(9,vP b0 0)]) (fun x=>own b0 (.cells #[vP b0 0,x.2] 161)::Ew 5 1 x.2 x.1 ((List.replicate x.1 0).map fun b=>Fo b)::H) (fun x=>n-x.1) (fun x D hp=>?_) (1,v2) ⟨Nat.le_refl _,by simp only;omega⟩) tL
 obtain⟨m,v⟩:=x
 obtain⟨h1,h2⟩:=hp
 simp only at h1 h2
 refine AE (Y (AN 2 dt (c9 161 b0 (vP b0 0) v m _) E (J E (V E BL (U ?_)))))
 refine BH E (fun hc12=>?_) (fun hc12=>?_)
 refine AH (AI (AK (Y (J E (AN 2 dt (c9 161 b0 (vP b0 0) v m _) E (V E (FZ zO zO) (AN 2 dt (c9 161 b0 (vP b0 0) v m _) E (J E (mI E E E E (O E (U (AJ (AN 2 Rg (LA 161 b0 (vP b0 0) v m (List.replicate m 0) zO) E ?_)))))))))))))
 refine J E (Tt (min (n-m) m) E De E E zO zQ (Bi 2 UF (IU 161 b0 _ v m _ ((List.replicate m 0).take (min (n-m) m)) (.inr E) S5 zQ) E ?_))
 rintro _ _ ⟨rfl,v',rfl⟩
 refine AT (Ao ?_)
 exact Am (m+min (n-m) m,v') ⟨by simp only;omega,by simp only;omega⟩ (by simp at hc12;simp only;omega) ⟨E,E,E,E,zT⟩ (fun w h=>by
  have e:(List.replicate m 0).map (fun b=>Fo b)++((List.replicate m 0).take (min (n-m) m)).map (fun b=>Fo b)=(List.replicate (m+min (n-m) m) 0).map fun b=>Fo b:=by
   rw[←List.map_append,List.take_replicate,List.replicate_append_replicate];congr 2;omega
  have e2:((List.replicate m (0:UInt8)).take (min (n-m) m)).length=min (n-m) m:=by simp
  rw[e,e2]at h
  exact h)
 refine Av (Ay (BP (A0 (AI (Y (AN 2 Rg (LA 161 b0 (vP b0 0) v m (List.replicate m 0) zO) E (O E (U (AM ?_)))))))))
 exact Ax (D7 E E) (As (M:=[]) ⟨by have h3:m=n:=(by simp at hc12;omega);subst h3;rfl,E⟩ fun _ h=>h.skip [_,_])
end

section
variable {K:Nat→Prop}{w0:World}{H:List Ab}
theorem iu(n:UInt64)(i:Nat)(h:i<8):(Ty n).take (i+1)=(Ty n).take i++[(shr64 n (56-8*i)).toUInt8]:=by
 have:i=0∨i=1∨i=2∨i=3∨i=4∨i=5∨i=6∨i=7:=zO
 rcases this with rfl | rfl | rfl | rfl | rfl | rfl | rfl | rfl<;>rfl
theorem XS(T:List UInt32)(h:Oq)(s:List UInt8):(Fe T h s).2.length=s.length%64:=by
 rw[My]
 simp
 omega
theorem dP(T:List UInt32)(h:Oq)(rest:List UInt8)(n:Nat)(b:Nat)(e:TypeId)(hT:U7 K w0 3 T)(hTl:T.length=64)(hr:rest.length=n%64)(hn:n≤1099511627776):zC K w0 258 [vP b 0] [own b (.cells (Pj h rest n) e)] H (fun r M=>r=vS ((Fe T h (rest++Mw n)).1.list.flatMap IS)∧M=[own b (.cells (Pj h rest n) e)]):=by
 refine Vf.enter Tryz.func258 rfl rfl ?_
 refine Y (O E (U (AE (Y (J E (GJ E wy E E (U ?_)))))))
 refine BH E (fun hc1=>absurd hc1 zS) (fun hc1=>?_)
 refine AH (AI (Y (J E (AV E E ?_))))
 refine BA (Pj h rest n).toList E um E E (Dy 0 E (fun j u hu=>by simpa using hu)) ?_
 refine A6 E qv zU fun b0=>?_
 refine QA (c':=Pj h rest n) 0 E E E E wu E E (List.all_eq_true.1 (show(Pj h rest n).toList.all (·.oneCell')=true from E)) zT ?_
 refine U (Y (J E (AV E E (AF E W6 (AG 1 Gi E (BZ E E (Ff Jh En) ?_))))))
 refine V E (Nl (b:=8)) ?_
 refine O E (U (Y (J E (AV E E (AF E W6 (AG 1 Gi E (V E (XP zO zO) (V E (FZ zO zO) (V E (XP zO zO) ?_)))))))))
 refine O E (U (Y (O E (U (AE (Y (O E (U (AK (KL 5 1 ?_))))))))))
 refine SX.mono (A9 (α:=Nat×Value) (fun x=>x.1≤8) (fun x=>[(3,vP b0 0),(4,Bh (DJ n*8)),(5,vI (NH n)),(6,x.2),(7,vI (56-8*(x.1:Int)))]) (fun x=>Ew 5 1 x.2 x.1 (((Ty (DJ n*8)).take x.1).map fun b=>Fo b)::own b0 (.cells (Pj h rest n) 351)::own b (.cells (Pj h rest n) e)::H) (fun x=>8-x.1) (fun x D hp=>?_) (0,zN) zD) ⟨E,E,?_,E,E,zT⟩
 rotate_left
 have e1:((119-(n:Int)%64)%64)=(NH n:Int):=by unfold NH;omega
 rw[←e1]
 rfl
 obtain⟨i,v⟩:=x
 simp only at hp
 refine AE (Y (J E (V E FH (U ?_))))
 refine BH E (fun hc2=>?_) (fun hc2=>?_)
 have hi:i<8:=by simp at hc2;omega
 have e1:(56-8*(i:Int))=((56-8*i:Nat):Int):=zO
 refine AH (AI (AE (AK (AJ (J E (J E (J E ?_)))))))
 refine kI E E (congrArg (fun z=>some (vI z)) e1) (Gy.shr64 (n:=56-8*i)) ?_
 refine BZ E E (Gt En Ej) ?_
 refine Ck [_] E DO LM MF ⟨E,zT⟩ E E E zX E E zU fun b1=>?_
 refine WQ 1 E (m:=1) (news:=[Fo (shr64 (DJ n*8) (56-8*i)).toUInt8]) DO LM XV MF E zD E E E E (A2 0 E) (by simp[Value.oneCell']) zO zO zU fun v'=>?_
 refine O E (AT (Ao (AI (AJ (J E (V E (FZ zO zO) (O E (AT ?_))))))))
 refine Am (i+1,v') (by simp only;omega) (by simp only;omega) ⟨E,E,E,E,?_,zT⟩ (fun w hw=>by
  simp only
  rw[iu _ _ hi,List.map_append]
  exact hw.skip [_])
 have e2:(56-8*((i+1:Nat):Int))=56-8*(i:Int)-8:=zO
 simp only[e2]
 rfl
 have hi:i=8:=by simp at hc2;omega
 subst hi
 refine Av (Ay (BP (A0 (AI (AE (Ai C2 [0] (BJ [(true,0),(true,3),(true,4),(false,1),(true,2),(true,5)] (.last 6 .nil)) zK (J E (J E ?_))))))))
 refine ZE (s:=Ty (DJ n*8)) 0 E DO Ej De E E ?_
 refine BT 0 UE (O6 (NH n) (by unfold NH;omega)) E ⟨⟨0,E⟩,zT⟩ (V E (G6 (by simp[NH];omega)) (V E (G6 (by simp[NH,Ty];omega)) (A4 (SL.pick [1] 2 (AN 1 k0 (Wh T h rest (Mw n) n b0 351 hT hTl zO (by simp[Mw,NH,Ty];omega)) E (U (Y (AF E aH (AN 1 tq (dQ (Fe T h (rest++Mw n)).1 [vS (Fe T h (rest++Mw n)).2,vI n] b0 351) E (O E (U (AM ?_))))))))))))
 exact Ax (D7 E E) (As (M:=[_]) ⟨E,E⟩ fun _ h=>h.skip [_])
theorem i4(hF:U7 K w0 1 FO.list):zC K w0 256 [] [] H (fun r M=>∃b,r=vP b 0∧M=[own b (.cells (Pj FO [] 0) 351)]):=by
 refine Vf.enter Tryz.func256 rfl rfl ?_
 refine Y (O E (U (Y ?_)))
 refine BA (ad:=⟨1,0,none⟩) (FO.list.map AC) E ul E E (fun w hw j u hu=>by
  rw[Dd,Nat.zero_add]
  rw[List.getElem?_map]at hu
  cases hx:FO.list[j]? with
  | none=>rw[hx]at hu;cases hu
  | some x=>
   rw[hx]at hu
   obtain rfl:=zI hu
   exact Qi (ad:=⟨1,j,none⟩) hF.keep (hF.cell j x hx) w hw) ?_
 refine Cf [_] E wW wH qv ⟨E,zT⟩ E ?_
 refine Bw E E zU fun b0=>?_
 refine O E (U (AM ?_))
 exact Ax (D7 E E) (As (M:=[_]) ⟨b0,E,E⟩ fun _ h=>h)
theorem Vo(T:List UInt32)(v:Value)(ls:List (List UInt8))(hT:U7 K w0 3 T)(hTl:T.length=64)(hF:U7 K w0 1 FO.list)(hk:CR K w0 VT 1 v ls)(hn:ls.flatten.length≤1099511627776)(hl:ls.length≤1099511627776):zC K w0 230 [v] [] H (fun r M=>r=vS (Ol T ls.flatten)∧M=[]):=by
 refine Vf.enter Tryz.func230 rfl rfl ?_
 refine Y (O E (U (Y (Bi 0 tY (i4 hF) E ?_))))
 rintro _ _ ⟨b0,rfl,rfl⟩
 refine O E (U (AE (Y (J E (CW hk E F8 E (J E (U (AK ?_))))))))
 have h0:Fe T FO (ls.take 0).flatten=(FO,[]):=RZ zS
 refine SX.heap (H':=own b0 (.cells (Pj (Fe T FO (ls.take 0).flatten).1 (Fe T FO (ls.take 0).flatten).2 ((ls.take 0).flatten.length:Nat)) 351)::H) ?_ (fun w hw=>by rw[h0];exact hw)
 refine SX.mono (A9 (α:=Nat) (fun i=>i≤ls.length) (fun i=>[(3,vP b0 0),(7,v),(8,vI ls.length),(9,vI i)]) (fun i=>own b0 (.cells (Pj (Fe T FO (ls.take i).flatten).1 (Fe T FO (ls.take i).flatten).2 ((ls.take i).flatten.length:Nat)) 351)::H) (fun i=>ls.length-i) (fun i D hp=>?_) 0 (Nat.zero_le _)) tL
 refine Y (V E BL (U (AE ?_)))
 refine BH E (fun hc1=>?_) (fun hc1=>?_)
 have hlt:i<ls.length:=by simpa using hc1
 obtain⟨s,hs⟩:=Qv hlt
 have hts:=(Gg hs).2
 have hfl:(ls.take (i+1)).flatten=(ls.take i).flatten++s:=by rw[hts];simp
 have hle:(ls.take (i+1)).flatten.length≤1099511627776:=by
  have:ls.flatten=(ls.take (i+1)).flatten++(ls.drop (i+1)).flatten:=by rw[←List.flatten_append,List.take_append_drop]
  rw[this]at hn
  simp only[List.length_append]at hn
  omega
 rw[hfl,List.length_append]at hle
 refine AH (AI (AE (AK (Y ?_))))
 refine Sc i s hk E F8 Is E E E hs fun be off hcell=>?_
 refine Aq E H9 E (fun w hw=>hcell _ w hw 0 _ E) ?_
 refine O E (U (Y (J E (J E (AN 1 k0 (Wh T _ _ s _ b0 351 hT hTl (cq T FO _) zO) E (U (AJ (J E (AV E E (AF E W6 (AG 0 Gi E ?_)))))))))))
 refine J E (CI E De E (V E (B2 zO zO) (AV E E (AF E W6 (BN 0 E E E E QP E E E zT (AT (Ao (AI (AJ (V E (B2 zO zO) (J E (AT ?_))))))))))))
 refine Am (i+1) hlt zO tL (fun w hw=>by
  rw[hfl,Tv T FO (ls.take i).flatten s,List.length_append]
  exact hw)
 have hi:i=ls.length:=by simp at hc1;omega
 have ht:ls.take i=ls:=by rw[hi];exact List.take_length
 rw[ht]
 refine Av (Ay (BP (A0 (AI (Y (J E (AN 1 tZ (dP T _ _ ls.flatten.length b0 351 hT hTl (XS T FO ls.flatten) hn) E (O E (U (AM ?_))))))))))
 exact Ax (D7 E E) (As (M:=[]) ⟨by unfold Ol;rw[Tv T FO ls.flatten],E⟩ fun _ h=>h.skip [_])
theorem i5(T:List UInt32)(s:List UInt8)(hT:U7 K w0 3 T)(hTl:T.length=64)(hF:U7 K w0 1 FO.list)(hn:s.length≤1099511627776):zC K w0 259 [vS s] [] H (fun r M=>r=vS (Ol T s)∧M=[]):=by
 refine Vf.enter Tryz.func259 rfl rfl ?_
 refine Y (O E (U (Y (J E ?_))))
 refine Ck [_] E F8 Is VD ⟨E,zT⟩ E E E zX E E zU fun b0=>?_
 refine Bx (vs:=[_]) (Hin:=[_]) E E ⟨E,zT⟩ dj E E (Dm (B:=[own b0 (.cells #[vS s] 9)]) (Hin:=[]) fun K' w1 hk hB=>(Vo T _ [s] (hT.keeps hk) hTl (hF.keeps hk) (CR.lent (enc:=VT) (sz:=1) (xs:=[s]) zV (Nat.le_refl 1) E (hB _ (List.mem_cons_self ..))) (by simpa using hn) zS)) ?_
 rintro _ _ ⟨M',rfl,rfl,rfl⟩
 refine⟨trivial,?_⟩
 refine O E (U (AM ?_))
 exact Ax (D7 E E) (As (M:=[]) ⟨by simp,E⟩ fun _ h=>h.skip [_])
end

section
variable {K:Nat→Prop}{w0:World}{H:List Ab}
structure Hq(K:Nat→Prop)(w0:World)(T:List UInt32):Prop where
 tab:U7 K w0 3 T
 len:T.length=64
 first:U7 K w0 1 FO.list
theorem Hq.keeps{T:List UInt32}{K':Nat→Prop}{w1:World}(h:Hq K w0 T)(hk:Y8 K w0 K' w1):Hq K' w1 T:=⟨h.tab.keeps hk,h.len,h.first.keeps hk⟩
theorem VV(ls:List (List UInt8)):ls.flatMap VT=ls.map vS:=by
 induction ls with
 | nil=>rfl
 | cons s r ih=>rw[List.flatMap_cons,ih];rfl
theorem bQ(k:List UInt8)(n i:Nat):(k++List.replicate n 0).getD i 0=k.getD i 0:=by
 simp only[List.getD_eq_getElem?_getD]
 rcases Nat.lt_or_ge i k.length with h | h
 rw[List.getElem?_append_left h]
 rw[List.getElem?_append_right h,List.getElem?_eq_none h]
 rw[List.getElem?_replicate]
 split<;>rfl
theorem gI(T:List UInt32)(v:Value)(ls:List (List UInt8))(hT:Hq K w0 T)(hn:ls.flatten.length≤1099511627776)(hl:ls.length≤1099511627776):zC K w0 230 [v] [Ew 9 1 v ls.length (ls.flatMap VT)] H (fun r M=>r=vS (Ol T ls.flatten)∧M=[Ew 9 1 v ls.length (ls.flatMap VT)]):=by
 intro w hw
 have h1:=Dm (P:=Tryz.prog) (K:=K) (w0:=w0) (f:=230) (args:=[v]) (H:=H) (B:=[Ew 9 1 v ls.length (ls.flatMap VT)]) (Hin:=[]) (post:=fun r M=>r=vS (Ol T ls.flatten)∧M=[]) (fun K' w1 hk hB=>Vo T v ls (hT.keeps hk).tab hT.len (hT.keeps hk).first (f4 zV (hB _ (List.mem_cons_self ..))) hn hl) w hw
 refine h1.mono ?_
 rintro e w' ⟨r,M,rfl,⟨M',rfl,hr,rfl⟩,hw'⟩
 exact⟨r,_,rfl,⟨hr,rfl⟩,hw'⟩
theorem gH(T:List UInt32)(b:Nat)(ls:List (List UInt8))(hT:Hq K w0 T)(hn:ls.flatten.length≤1099511627776)(hl:ls.length≤1099511627776):zC K w0 230 [.slice (some ⟨b,0,none⟩) ls.length ls.length] [own b (.cells (Es vS ls) 9)] H (fun r M=>r=vS (Ol T ls.flatten)∧M=[own b (.cells (Es vS ls) 9)]):=by
 intro w hw
 have h1:=Dm (P:=Tryz.prog) (K:=K) (w0:=w0) (f:=230) (args:=[.slice (some ⟨b,0,none⟩) ls.length ls.length]) (H:=H) (B:=[own b (.cells (Es vS ls) 9)]) (Hin:=[]) (post:=fun r M=>r=vS (Ol T ls.flatten)∧M=[]) (fun K' w1 hk hB=>Vo T _ ls (hT.keeps hk).tab hT.len (hT.keeps hk).first (CR.lent (enc:=VT) (sz:=1) zV (Nat.le_refl _) (by rw[VV,YA];exact List.take_of_length_le zS) (hB _ (List.mem_cons_self ..))) hn hl) w hw
 refine h1.mono ?_
 rintro e w' ⟨r,M,rfl,⟨M',rfl,hr,rfl⟩,hw'⟩
 exact⟨r,_,rfl,⟨hr,rfl⟩,hw'⟩
theorem YC(T:List UInt32)(key:List UInt8)(c:UInt8)(hT:Hq K w0 T)(hn:key.length≤549755813888):zC K w0 231 [vS key,Fo c] [] H (fun r M=>r=vS (HY T key c)∧M=[]):=by
 refine Vf.enter Tryz.func231 rfl rfl ?_
 refine Y (O E (U ?_))
 refine ZK (α:=Unit) (fun _=>True) (fun _=>[(0,vS (Gw T key)),(1,Fo c)]) (fun _=>H) ?_ (fun x hx=>?_)
 refine Y (J E (CI E De E (V E C8 (U ?_))))
 refine BH E (fun hc1=>?_) (fun hc1=>?_)
 refine AJ (J rfl (AN 0 ta (i5 T key hT.tab hT.len hT.first zO) rfl (O rfl (AT ?_))))
 have hk:Gw T key=Ol T key:=by unfold Gw;rw[if_pos (by simp at hc1;omega)]
 exact Ut () zT (by rw[hk];exact⟨E,E,zT⟩)
 refine AH ?_
 have hk:Gw T key=key:=by unfold Gw;rw[if_neg (by simp at hc1;omega)]
 exact Ut () zT (by rw[hk];exact⟨E,E,zT⟩)
 
 have hkl:=Xe T key
 refine Y (J E (J E (CI E De E (V E (FZ zO zO) ?_))))
 refine Bx (vs:=[_,_]) (Hin:=[]) E E ⟨E,E,zT⟩ UE (by rw[show(64-(((Gw T key).length:Nat):Int))=((64-(Gw T key).length:Nat):Int) by omega];rfl) E (O6 (64-(Gw T key).length) zO) ?_
 rintro _ _ ⟨rfl,rfl⟩
 refine⟨trivial,?_⟩
 refine V E (G6 zQ) (O E (U (Y ?_)))
 refine A6 E bA zU fun b0=>?_
 refine U (AE (Y (J E (U (AK (KL 5 1 (SX.pick [1,0] 2 ?_)))))))
 refine SX.mono (A9 (α:=Nat×Value×Value) (fun x=>x.1≤64∧QZ b0 x.2.1) (fun x=>[(0,vS (Gw T key++List.replicate (64-(Gw T key).length) 0)),(1,Fo c),(5,vP b0 0),(18,vI x.1)]) (fun x=>own b0 (.cells #[x.2.1,x.2.2] 161)::Ew 5 1 x.2.2 x.1 (((HY T key c).take x.1).map fun b=>Fo b)::H) (fun x=>64-x.1) (fun x D hp=>?_) (0,.pointer none,zN) ⟨by decide,.inl E⟩) tL
 obtain⟨i,p,v⟩:=x
 obtain⟨hp,hadr⟩:=hp
 simp only at hp hadr
 refine Y (V E BL (U (AE ?_)))
 refine BH E (fun hc2=>?_) (fun hc2=>?_)
 have hi:i<64:=by simp at hc2;omega
 refine AH (AI (AE (AK (Y (J E (O E (U (AJ (J E (J E (MH i E De E E zO zQ (J E (V E Up (Bi 2 Y0 (QB 161 b0 p v i _ _ hadr S5 zO) E ?_))))))))))))))
 rintro _ _ ⟨rfl,v',rfl⟩
 refine AT (Ao (AI (AJ (V E (B2 zO zO) (J E (AT ?_))))))
 refine Am (i+1,vP b0 0,v') ⟨by simp only;omega,.inr E⟩ (by simp only;omega) tL (fun w hw=>by
  have e1:(HY T key c).take (i+1)=(HY T key c).take i++[(Gw T key++List.replicate (64-(Gw T key).length) 0).getD i 0 ^^^ c]:=by
   rw[List.take_add_one,bQ]
   simp[HY,hi]
  simp only
  rw[e1,List.map_append]
  exact hw)
 have hi:i=64:=by simp at hc2;omega
 subst hi
 have ht:(HY T key c).take 64=HY T key c:=List.take_of_length_le (by rw[NI];omega)
 rw[ht]
 refine Av (Ay (BP (A0 (AI (Y (AN 2 Rg (LA 161 b0 p v 64 (HY T key c) zO) E (O E (U (AM ?_)))))))))
 exact Ax (D7 E E) (As (M:=[]) ⟨E,E⟩ fun _ h=>h.skip [_,_])
theorem ZX(T:List UInt32)(key:List UInt8)(ls:List (List UInt8))(bs:Nat)(hT:Hq K w0 T)(hn:key.length≤549755813888)(hls:ls.flatten.length≤549755813888)(hl:ls.length≤549755813888):zC K w0 199 [vS key,.slice (some ⟨bs,0,none⟩) ls.length ls.length] [own bs (.cells (Es vS ls) 9)] H (fun r M=>r=vS (TZ T key ls.flatten)∧M=[]):=by
 refine Vf.enter Tryz.func199 rfl rfl ?_
 refine Y (O E (U (Y (J E (AN 0 ku (YC T key 54 hT hn) E ?_)))))
 refine Ck [_] E F8 Is VD ⟨E,zT⟩ E E E zX E E zU fun b0=>?_
 refine J E ?_
 refine SL.heap (H':=Ew 9 1 (.slice (some ⟨b0,0,none⟩) 1 1) 1 [vS (HY T key 54)]::own bs (.cells (Es vS ls) 9)::H) ?_ (fun w hw=>ci hw E (Nat.le_refl 1) zD)
 refine WQ 0 rfl (m:=ls.length) (news:=ls.map vS) F8 Is rR VD rfl zD rfl rfl rfl zS (A2 1 rfl) (by intro u hu;obtain⟨x,_,rfl⟩:=List.mem_map.1 hu;rfl) zO zO zU fun v'=>?_
 have e1:Ew 9 1 v' (1+ls.length) ([vS (HY T key 54)]++ls.map vS)=Ew 9 1 v' (HY T key 54::ls).length ((HY T key 54::ls).flatMap VT):=by
  rw[VV,List.length_cons,Nat.add_comm];rfl
 rw[e1]
 refine AN 1 dj (gI T v' (HY T key 54::ls) hT (by simp only[List.flatten_cons,List.length_append,NI];omega) (by simp only[List.length_cons];omega)) E (O E (U (Y (J E (AN 0 ku (YC T key 92 hT hn) E (J E ?_))))))
 refine Ck [_,_] E F8 Is VD ⟨E,E,zT⟩ E E E zX E E zU fun b1=>?_
 refine AN 1 dj (gH T b1 [HY T key 92,Ol T (HY T key 54::ls).flatten] hT (by simp[NI,Kj]) zS) E (O E (U (AM ?_)))
 exact Ax (D7 E E) (As (M:=[]) ⟨by simp[TZ],E⟩ fun _ h=>h.skip [_,_,_])
theorem Yp(T:List UInt32)(key label:List UInt8)(bk bl:Nat)(hT:Hq K w0 T)(hn:key.length≤549755813888)(hl:label.length≤274877906944):oF Tryz.prog K w0 273 [vP bk 0,vP bl 0] [own bl (.cells #[vS label] 9),own bk (.cells #[vS key] 9)] VT (Wo T key label):=by
 intro lp J9 X T1 hy G h0
 refine Vf.enter Tryz.func273 rfl rfl ?_
 refine Y (O E (U (Y (O E (U (AK ?_))))))
 refine SX.mono (A9 (α:=Nat×List Ab) (fun x=>x.1≤255∧J9 ((Wo T key label).take x.1) x.2) (fun x=>[(0,vY lp),(1,vP bk 0),(2,vP bl 0),(4,vS (SJ T key label x.1)),(5,vI (x.1+1:Nat))]) (fun x=>own bl (.cells #[vS label] 9)::own bk (.cells #[vS key] 9)::(x.2++T1)) (fun x=>255-x.1) (fun x D hp=>?_) (0,G) ⟨by simp,h0⟩) tL
 obtain⟨i,G⟩:=x
 obtain⟨hi,hJ⟩:=hp
 simp only at hi hJ
 refine AE (Y (J E (V E Ex (U ?_))))
 refine BH E (fun hc1=>?_) (fun hc1=>?_)
 have hlt:i<255:=by simp at hc1;omega
 have hg:=bq T key label i hlt
 have hel:=d6 T key label i
 refine AH (AI (AE (AK (Y (AG 1 H9 E (J E (AG 0 H9 E (J E (BZ E E (SY Jh Ej) ?_)))))))))
 refine Ck [_] E DO LM MF ⟨E,zT⟩ E E E zX E E zU fun b0=>?_
 refine Uq [_] E DO Ej De E E (A2 0 E) ?_
 refine Ck [_,_,_] E F8 Is VD ⟨E,E,E,zT⟩ E E E zX E E zU fun b1=>?_
 refine AN 1 kl (ZX T key [SJ T key label i,label,[KE ((i+1:Nat):Int)]] _ hT hn zQ zS) E (O E (U (Y (J E (J E ?_)))))
 have e1:TZ T key [SJ T key label i,label,[KE ((i+1:Nat):Int)]].flatten=SJ T key label (i+1):=by simp[SJ]
 rw[e1]
 refine I7 (M2:=[_,_,_]) (G:=G) (T:=T1) (vs:=[_]) (ok:=fun G1=>J9 ((Wo T key label).take (i+1)) G1) (no:=X) E E ⟨E,zT⟩ E ?_ (fun bb G1 hG1=>⟨zT,?_⟩)
 intro M
 have:=hy _ _ _ (Gg hg).1 G hJ M
 rw[←(Gg hg).2]at this
 exact this
 refine CO E E (U ?_)
 refine BH E (fun hc2=>?_) (fun hc2=>?_)
 obtain rfl:bb=false:=by simpa using hc2
 refine AM (BO (Ag (FB (BO ?_))))
 exact Ax (E4 E) (As (M:=G1) (.inr hG1) fun _ h=>h.skip [_,_,_])
 obtain rfl:bb=true:=by simpa using hc2
 refine AH (Ao (AI (AJ (J E (V E (B2 zO zO) (O E (AT ?_)))))))
 exact Am (i+1,G1) ⟨hlt,hG1⟩ (by simp only;omega) tL (fun w hw=>hw.skip [_])
 refine Av (Ay (BP (A0 ?_)))
 have hle:i=255:=by simp at hc1;omega
 exact D5 (E4 E) (As (M:=G) (.inl (by rw[List.take_of_length_le (by rw[Wp];omega)]at hJ;exact hJ)) fun _ h=>h.skip [_,_])
theorem Yf(key label:List UInt8):zC K w0 253 [vS key,vS label] [] H (fun r M=>∃bk bl,r=.func (.func 273) #[] #[vP bk 0,vP bl 0]∧M=[own bl (.cells #[vS label] 9),own bk (.cells #[vS key] 9)]):=by
 refine Vf.enter Tryz.func253 rfl rfl ?_
 refine Y ?_
 refine Bw E E zU fun b0=>?_
 refine Bw E E zU fun b1=>?_
 refine O E (U (Y ?_))
 refine Im (fv:=#[]) (cv:=#[_,_]) E E E ?_
 refine O E (U (AM ?_))
 exact Ax (D7 E E) (As (M:=[_,_]) ⟨b0,b1,E,E⟩ fun _ h=>h)
theorem VI(T:List UInt32)(key label:List UInt8)(hT:Hq K w0 T)(hn:key.length≤549755813888)(hl:label.length≤274877906944):zC K w0 226 [vS key,vS label,vI 32] [] H (fun r M=>r=.tuple #[vS (H6 T key label),vI 0]∧M=[]):=by
 refine Vf.enter Tryz.func226 rfl rfl ?_
 refine Y ?_
 refine Bw E E zU fun b0=>?_
 refine O E (O E (U (MK (AE (Y (AG 0 Gi E (V E BL (J E ?_))))))))
 refine GR (c:=decide ((8160:Int)<32)) 12 3 15 E (fun hb k=>?_) (fun hb k=>?_) ?_
 refine AA E (AA E (An E E E ?_))
 exact k.mono tL
 refine AG 0 Gi E (V E C8 (An E E E ?_))
 exact k.mono tL
 refine U ?_
 refine BH E (fun hc1=>absurd hc1 zD) (fun hc1=>?_)
 refine AH (AI (Y ?_))
 refine A6 E bA zU fun b1=>?_
 refine U (AE (MJ (AI (AE (Y (J E (J E (Bi 0 tW (Yf key label) E ?_))))))))
 rintro _ _ ⟨bk,bl,rfl,rfl⟩
 refine U (KL 5 1 (SX.pick [1,2,3,0,4] 5 (AK ?_)))
 refine Uu (enc:=VT) (Wo T key label) (fun pre G=>pre.length≤1∧∃p v,QZ b1 p∧G=own b1 (.cells #[p,v] 161)::Ew 5 1 v pre.flatten.length (pre.flatten.map fun b=>Fo b)::own b0 (.cells #[vI 32] 3)::H) (fun c G=>c=.exit 0∧∃p v,QZ b1 p∧G=own b1 (.cells #[p,v] 161)::Ew 5 1 v 32 ((H6 T key label).map fun b=>Fo b)::own b0 (.cells #[vI 32] 3)::H) E tn E zV (Yp T key label bk bl hT hn hl) E ⟨Nat.zero_le _,_,_,.inl E,E⟩ (fun pre x suf G hxs hJ r lp Rest=>?_) (fun G D hJ=>?_) (fun c G D hX=>?_)
 obtain⟨hpl,p,v,hadr,rfl⟩:=hJ
 have hx0:(Wo T key label)[0]? = some (H6 T key label):=by rw[bq T key label 0 zD,ma]
 have he:(H6 T key label).length=32:=JS ..
 refine AJ (O E (AT (MI (AK (AE (AE (Ai C2 [2] (C0 [(true,1),(false,0),(true,2)]) zK (AG 0 Gi E (BT 2 dt (c9 161 b1 p v _ _) E ⟨⟨2,E⟩,zT⟩ (V E FH (U ?_)))))))))))
 refine BH E (fun hc2=>?_) (fun hc2=>?_)
 have hpre:pre=[H6 T key label]:=by
  match pre,hpl with
  | [],_=>simp at hc2
  | [y],_=>rw[hxs]at hx0;simpa using hx0
 subst hpre
 refine Av (Ay (FK ?_))
 refine PY (G:=own b1 (.cells #[p,v] 161)::Ew 5 1 v 32 ((H6 T key label).map fun b=>Fo b)::own b0 (.cells #[vI 32] 3)::H) ⟨E,p,v,hadr,E⟩ (fun w hw=>?_)
 have e1:[H6 T key label].flatten=H6 T key label:=by simp
 rw[e1,he]at hw
 exact hw
 have hpre:pre=[]:=by
  match pre,hpl with
  | [],_=>rfl
  | [y],_=>
   rw[hxs]at hx0
   obtain rfl:y=H6 T key label:=by simpa using hx0
   simp[he]at hc2
 subst hpre
 obtain rfl:x=H6 T key label:=by rw[hxs]at hx0;simpa using hx0
 refine AH (AI (AJ (J E (Bi 2 UF (IU 161 b1 p v _ _ (H6 T key label) hadr S5 (by simp[he])) E ?_))))
 rintro _ _ ⟨rfl,v',rfl⟩
 refine AT (Ao ?_)
 refine Jl (G:=own b1 (.cells #[vP b1 0,v'] 161)::Ew 5 1 v' ([]++[H6 T key label]).flatten.length (([]++[H6 T key label]).flatten.map fun b=>Fo b)::own b0 (.cells #[vI 32] 3)::H) ⟨by simp,_,v',.inr E,E⟩ (fun w hw=>?_)
 have e1:([]++[H6 T key label]).flatten=H6 T key label:=by simp
 rw[e1]
 simpa using hw
 exact absurd hJ.1 (by rw[Wp];omega)
 obtain⟨rfl,p,v,hadr,rfl⟩:=hX
 have he:(H6 T key label).length=32:=JS ..
 refine Av (A0 (AI (AE (Ai C2 [2] (C0 [(true,1),(false,0),(true,2),(true,3),(true,4)]) zK (AG 0 Gi E (BT 2 Rg (LA 161 b1 p v 32 (H6 T key label) zO) E ⟨⟨2,E⟩,zT⟩ (Tt 32 E De E E zO zO (O E (O E (U (AM (Fx ?_))))))))))))
 exact Ax (F1 E E E) (As (M:=[]) ⟨by rw[List.take_of_length_le zO],E⟩ fun _ h=>h.skip [_,_,_])
end

section
variable {K:Nat→Prop}{w0:World}{H:List Ab}
theorem dE(T:List UInt32)(k:Bf)(hT:Hq K w0 T):zC K w0 195 [.agg (Ad k).toArray] [] H (fun r M=>r=(if E7 [k]=true then .tuple #[vS (Q8 T k PK),vS (Q8 T k Pn),vI 0]else .tuple #[vS [],vS [],vI 40])∧M=[]):=by
 refine Vf.enter Tryz.func195 rfl rfl ?_
 refine Y ?_
 refine Bw E E zU fun b0=>?_
 refine O E (O E (O E (U (AE (Y (BA (Ad k) E P6 E E (A2 0 E) ?_))))))
 refine Ck [_] E IF It Ox ⟨E,zT⟩ E E E (by simp[Value.cells,Ad]) E E zU fun b1=>?_
 refine Bx (vs:=[_]) (Hin:=[_]) E E ⟨E,zT⟩ jA E E (Dm (B:=[own b1 (.cells (Ad k).toArray 55)]) (Hin:=[]) fun K' w1 hk hB=>Rc _ [k] (CR.lent (enc:=Ad) (sz:=2) (xs:=[k]) zV (Nat.le_refl 1) E (hB _ (List.mem_cons_self ..))) E zS) ?_
 rintro _ _ ⟨M',rfl,rfl,rfl⟩
 refine⟨trivial,?_⟩
 refine CO E E (U ?_)
 refine BH E (fun hc1=>?_) (fun hc1=>?_)
 have hr:E7 [k]=false:=by simpa using hc1
 refine Y (O E (O E (O E (U (AM (Ag ?_))))))
 exact Ax (aY E E E E) (As (M:=[]) ⟨by rw[hr];rfl,E⟩ fun _ h=>h.skip [_,_])
 have hr:E7 [k]=true:=by simpa using hc1
 have hkl:=YU hr
 refine AH (AI (Y (AF E Iq (AG 1 Ah E (BZ E E (EM C6 Ej) (AF E Iq (AG 1 Ah E ?_)))))))
 refine V E (Gy.shr32 (n:=8)) ?_
 refine BZ E E (EM C6 Ej) (AF E Iq (AG 1 Ah E ?_))
 refine V E (Gy.shr32 (n:=16)) ?_
 refine BZ E E (EM C6 Ej) (AF E Iq (AG 1 Ah E ?_))
 refine V E (Gy.shr32 (n:=24)) ?_
 refine BZ E E (EM C6 Ej) ?_
 refine Ck [_,_,_,_] E DO LM MF ⟨E,E,E,E,zT⟩ E E E zX E E zU fun b2=>?_
 refine Uq [_,_,_,_] E DO Ej De E E (A2 0 E) (O E (U (Y (AF E U0 (AG 2 H9 E (J E ?_))))))
 refine V E (G6 (s:=PK) (t:=HX k.gen) (by simp[HX,PK])) ?_
 refine AN 0 kt (VI T k.secret (PK++HX k.gen) hT zO (by simp[HX,PK])) E (J E (Ap E E E (Ap E E E (O E (O E (U (Y (AF E U0 (AG 2 H9 E ?_)))))))))
 refine J E ?_
 refine V E (G6 (s:=Pn) (t:=HX k.gen) (by simp[HX,Pn])) ?_
 refine AN 0 kt (VI T k.secret (Pn++HX k.gen) hT zO (by simp[HX,Pn])) E (J E (Ap E E E (Ap E E E (O E (O E (U (Y (J E (J E ?_)))))))))
 refine O E (O E (O E (U (AM ?_))))
 exact Ax (aY E E E E) (As (M:=[]) ⟨by rw[hr];rfl,E⟩ fun _ h=>h.skip [_,_,_])
theorem iz(s:List UInt8)(hn:s.length≤9223372036854775807):zC K w0 194 [vS s] [] H (fun r M=>r=(if 198<s.length then .tuple #[vS [],vI 50]else .tuple #[vS (L6 s),vI 0])∧M=[]):=by
 refine Vf.enter Tryz.func194 rfl rfl ?_
 refine Y (O E (O E (U (AE (Y (J E (CI E De E (V E C8 (U ?_)))))))))
 refine BH E (fun hc1=>?_) (fun hc1=>?_)
 have h0:198<s.length:=by simp at hc1;omega
 refine Y (O E (O E (U (AM (Ag ?_)))))
 exact Ax (F1 E E E) (As (M:=[]) ⟨by rw[if_pos h0],E⟩ fun _ h=>h.skip [])
 have h0:¬198<s.length:=by simp at hc1;omega
 have e1:(198-(s.length:Int))=((198-s.length:Nat):Int):=zO
 refine AH (AI (AE (Ai C2 [] (BJ [(true,0),(true,1),(true,2),(true,3),(true,4),(true,5),(true,6),(true,9),(true,11),(true,12),(true,13)] (.alt 7 (.alt 8 (C0 [(true,10),(false,14),(true,15),(true,16),(true,17)]) (.cons (false,14) (C0 [(false,8),(true,10),(true,15),(true,16),(true,17)]))) (.cons (false,14) (C0 [(false,7),(false,8),(true,10),(true,15),(true,16),(true,17)])))) zK (J E (CI E De E ?_)))))
 refine V E (mG (n:=8) zO zO) ?_
 refine BZ E E (SY Jh Ej) (J E (CI E De E (BZ E E (SY Jh Ej) (J E (J E (CI E De E (V E (FZ zO zO) ?_)))))))
 rw[e1]
 refine E6 ?_ ?_
 refine Ck [_,_] E DO LM MF ⟨E,E,zT⟩ E E E zX E E zU fun b0=>?_
 refine E6 ?_ ?_
 refine Uq [_,_] E DO Ej De E E (A2 0 E) (V E (G6 zQ) (AN 0 UE (O6 (198-s.length) zO) E (V E (G6 zQ) (O E (O E (U (AM ?_)))))))
 exact Ax (F1 E E E) (As (M:=[]) ⟨by rw[if_neg h0];rfl,E⟩ fun _ h=>h.skip [_])
 refine AN 0 UE (O6 (198-s.length) zO) E (Uq [_,_] E DO Ej De E E (A2 0 E) (V E (G6 zQ) (V E (G6 zQ) (O E (O E (U (AM ?_)))))))
 exact Ax (F1 E E E) (As (M:=[]) ⟨by rw[if_neg h0];rfl,E⟩ fun _ h=>h.skip [_])
 refine AN 0 UE (O6 (198-s.length) zO) E ?_
 refine Ck [_,_] E DO LM MF ⟨E,E,zT⟩ E E E zX E E zU fun b0=>?_
 refine Uq [_,_] E DO Ej De E E (A2 0 E) (V E (G6 zQ) (V E (G6 zQ) (O E (O E (U (AM ?_))))))
 exact Ax (F1 E E E) (As (M:=[]) ⟨by rw[if_neg h0];rfl,E⟩ fun _ h=>h.skip [_])
end

section
variable {K:Nat→Prop}{w0:World}{H:List Ab}
def ua(x:UInt32):List Value:=[AC x]
theorem fV{s:List UInt8}{j:Nat}(h:j<s.length / 4):(DI s)[j]? = some (Lc s (4*j)):=by simp[DI,h]
theorem f9(s:List UInt8)(hs:4≤s.length):zC K w0 284 [vS s] [] H (fun r M=>r=AC (Lc s 0)∧M=[]):=by
 refine Vf.enter Tryz.func284 rfl rfl ?_
 refine Y (O E (U (AE (Ai C2 [] (C0 (Hp 0 19)) zK (J E (MH 0 E De E E zO zO (BZ E E (Gu Ej C6) (J E (MH 1 E De E E zO zO (BZ E E (Gu Ej C6) ?_))))))))))
 refine V E (Gy.shl32 (n:=8)) ?_
 refine V E GX (J E (MH 2 E De E E zO zO (BZ E E (Gu Ej C6) ?_)))
 refine V E (Gy.shl32 (n:=16)) ?_
 refine V E GX (J E (MH 3 E De E E zO zO (BZ E E (Gu Ej C6) ?_)))
 refine V E (Gy.shl32 (n:=24)) ?_
 refine V E GX (O E (U (AM ?_)))
 exact Ax (D7 E E) (As (M:=[]) ⟨E,E⟩ fun _ h=>h.skip [])
theorem eg(ls:List (List UInt8))(bl bs:Nat)(hl:ls.length≤549755813888)(hls:∀s∈ls,s.length≤549755813888):oF Tryz.prog K w0 283 [vP bl 0] [own bl (.cells #[.slice (some ⟨bs,0,none⟩) ls.length ls.length] 98),own bs (.cells (Es vS ls) 9)] ua (ls.flatMap DI):=by
 intro lp J9 X T1 hy G h0
 refine Vf.enter Tryz.func283 rfl rfl ?_
 refine Y (AG 0 RY E (Jk E F8 E (J E (U (AK ?_)))))
 refine SX.mono (A9 (α:=Nat×List Ab) (fun x=>x.1≤ls.length∧J9 ((ls.take x.1).flatMap DI) x.2) (fun x=>[(0,vY lp),(5,.slice (some ⟨bs,0,none⟩) ls.length ls.length),(6,vI ls.length),(7,vI x.1)]) (fun x=>own bl (.cells #[.slice (some ⟨bs,0,none⟩) ls.length ls.length] 98)::own bs (.cells (Es vS ls) 9)::(x.2++T1)) (fun x=>ls.length-x.1) (fun x D hp=>?_) (0,G) ⟨Nat.zero_le _,h0⟩) tL
 obtain⟨i,G⟩:=x
 obtain⟨hi,hJ⟩:=hp
 simp only at hi hJ
 refine Y (V E BL (U (AE ?_)))
 refine BH E (fun hc1=>?_) (fun hc1=>?_)
 have hlt:i<ls.length:=by simpa using hc1
 obtain⟨s,hs⟩:=Qv hlt
 have hsl:=hls s (List.mem_of_getElem? hs)
 have hsplit:=Gg hs
 refine AH (AI (AE (AK (Y ?_))))
 refine rB (n:=i) E F8 Is E E zO zO ?_
 refine Aq E H9 E (EA 1 E (GY hs)) (O E (U (AK ?_)))
 refine SX.mono (A9 (α:=Nat×List Ab) (fun x=>x.1≤s.length / 4∧J9 ((ls.take i).flatMap DI++(DI s).take x.1) x.2) (fun x=>[(0,vY lp),(4,vS (s.drop (4*x.1))),(5,.slice (some ⟨bs,0,none⟩) ls.length ls.length),(6,vI ls.length),(7,vI i)]) (fun x=>own bl (.cells #[.slice (some ⟨bs,0,none⟩) ls.length ls.length] 98)::own bs (.cells (Es vS ls) 9)::(x.2++T1)) (fun x=>s.length / 4-x.1) (fun x D hp=>?_) (0,G) ⟨Nat.zero_le _,by simpa using hJ⟩) tL
 obtain⟨j,G⟩:=x
 obtain⟨hj,hJ2⟩:=hp
 simp only at hj hJ2
 refine AE (Y (J E (CI E De E (V E FH (U ?_)))))
 refine BH E (fun hc2=>?_) (fun hc2=>?_)
 have hjlt:j<s.length / 4:=by simp at hc2;omega
 have hw:=fV hjlt
 have hws:=Gg hw
 refine AH (AI (AE (AK (Y (J E (J E (AN 0 tw (f9 (s.drop (4*j)) zQ) E ?_)))))))
 rw[fU,Nat.add_zero]
 refine I7 (M2:=[_,_]) (G:=G) (T:=T1) (vs:=[_]) (ok:=fun G1=>J9 ((ls.take i).flatMap DI++(DI s).take (j+1)) G1) (no:=X) E E ⟨E,zT⟩ E ?_ (fun bb G1 hG1=>⟨zT,?_⟩)
 intro M
 have e1:ls.flatMap DI=((ls.take i).flatMap DI++(DI s).take j)++Lc s (4*j)::((DI s).drop (j+1)++(ls.drop (i+1)).flatMap DI):=by
  have h1:ls.flatMap DI=(ls.take i).flatMap DI++(DI s++(ls.drop (i+1)).flatMap DI):=by
   rw[←List.flatMap_cons,←List.flatMap_append,←hsplit.1]
  have h2:DI s++(ls.drop (i+1)).flatMap DI=(DI s).take j++Lc s (4*j)::((DI s).drop (j+1)++(ls.drop (i+1)).flatMap DI):=by
   rw[←List.cons_append,←List.append_assoc,←hws.1]
  rw[h1,h2,List.append_assoc]
 have:=hy _ _ _ e1 G hJ2 M
 rw[List.append_assoc,←hws.2]at this
 exact this
 refine CO E E (U ?_)
 refine BH E (fun hc3=>?_) (fun hc3=>?_)
 obtain rfl:bb=false:=by simpa using hc3
 refine AM (BO (Ag (FB (BO (BO (Ag (FB (BO ?_))))))))
 exact Ax (E4 E) (As (M:=G1) (.inr hG1) fun _ h=>h.skip [_,_])
 obtain rfl:bb=true:=by simpa using hc3
 refine AH (Ao (AI (AJ (J E (QX 4 E De E E zO zQ ?_)))))
 rw[List.drop_drop,show 4*j+4=4*(j+1) by omega]
 refine O E (AT ?_)
 exact Am (j+1,G1) ⟨hjlt,hG1⟩ (by simp only;omega) tL
 have hje:j=s.length / 4:=by simp at hc2;omega
 refine Av (Ay (BP (A0 (Ao (AI (AJ (V E (B2 zO zO) (J E (AT ?_)))))))))
 refine Am (i+1,G) ⟨hlt,?_⟩ (by simp only;omega) tL
 simp only
 rw[hsplit.2,List.flatMap_append,List.flatMap_cons,List.flatMap_nil,List.append_nil]
 have ht:(DI s).take j=DI s:=List.take_of_length_le (by rw[Fm];omega)
 rw[ht]at hJ2
 exact hJ2
 have hle:i=ls.length:=by simp at hc1;omega
 refine Av (Ay (BP (A0 ?_)))
 exact D5 (E4 E) (As (M:=G) (.inl (by rw[hle,List.take_length]at hJ;exact hJ)) fun _ h=>h.skip [_,_])
theorem dC(ls:List (List UInt8))(bs:Nat):zC K w0 274 [.slice (some ⟨bs,0,none⟩) ls.length ls.length] [own bs (.cells (Es vS ls) 9)] H (fun r M=>∃bl,r=.func (.func 283) #[] #[vP bl 0]∧M=[own bl (.cells #[.slice (some ⟨bs,0,none⟩) ls.length ls.length] 98),own bs (.cells (Es vS ls) 9)]):=by
 refine Vf.enter Tryz.func274 rfl rfl ?_
 refine Y ?_
 refine Bw E E zU fun b0=>?_
 refine O E (U (Y ?_))
 refine Im (fv:=#[]) (cv:=#[_]) E E E ?_
 refine O E (U (AM ?_))
 exact Ax (D7 E E) (As (M:=[_,_]) ⟨b0,E,E⟩ fun _ h=>h)
theorem dB(key nonce:List UInt8)(counter:UInt32)(hk:key.length=32)(hn:nonce.length=12):zC K w0 254 [vS key,AC counter,vS nonce] [] H (fun r M=>r=.agg (Es AC (I8 key counter nonce))∧M=[]):=by
 refine Vf.enter Tryz.func254 rfl rfl ?_
 refine Y ?_
 refine A6 E fX zU fun b0=>?_
 refine U (MK (Y ?_))
 refine A6 E fX zU fun b1=>?_
 refine U (Y ?_)
 refine A6 E qs zU fun b2=>?_
 refine BN 0 E E E E QP E E E zT (U (Y (J E (BZ E E (EM C6 Ej) (J E ?_)))))
 refine V E (Gy.shr32 (n:=8)) ?_
 refine BZ E E (EM C6 Ej) (J E ?_)
 refine V E (Gy.shr32 (n:=16)) ?_
 refine BZ E E (EM C6 Ej) (J E ?_)
 refine V E (Gy.shr32 (n:=24)) ?_
 refine BZ E E (EM C6 Ej) ?_
 refine Ck [_,_,_,_] E DO LM MF ⟨E,E,E,E,zT⟩ E E E zX E E zU fun b3=>?_
 refine Uq [_,_,_,_] E DO Ej De E E (A2 0 E) (O E (U (AE (MJ (AI (AE (Y (J E (J E (J E ?_))))))))))
 refine Ck [_,_,_,_] E F8 Is VD ⟨E,E,E,E,zT⟩ E E E zX E E zU fun b4=>?_
 refine Bi 1 to (dC [Lh,key,HX counter,nonce] b4) E ?_
 rintro _ _ ⟨bl,rfl,rfl⟩
 refine U ?_
 have hbl:=OF (counter:=counter) hk hn
 have hfm:[Lh,key,HX counter,nonce].flatMap DI=I8 key counter nonce:=by simp[I8,List.flatMap_cons]
 refine AK ?_
 refine Uu (enc:=ua) ([Lh,key,HX counter,nonce].flatMap DI) (fun pre G=>G=own b3 (.cells (Es Fo (HX counter)) 5)::own b2 (.cells #[vI pre.length] 3)::own b1 (.cells (Es AC (pre++List.replicate (16-pre.length) 0)) 342)::own b0 (.cells (Es AC (List.replicate 16 0)) 342)::H) (fun c G=>False) E tv E zV (eg [Lh,key,HX counter,nonce] bl b4 zS (by simp[hk,hn,Lh,HX])) E E (fun pre x suf G hxs hJ r lp Rest=>?_) (fun G D hJ=>?_) (fun c G D hX=>hX.elim)
 obtain rfl:=hJ
 have hlt:pre.length<16:=by
  rw[hfm]at hxs
  rw[hxs]at hbl
  simp at hbl
  omega
 refine AJ (O E (AT (MI (AK (AE (Y (AG 1 Gi E (V E Bv (U ?_)))))))))
 refine BH E (fun hc1=>absurd hc1 zQ) (fun hc1=>?_)
 refine AH (AI (Y (AG 1 Gi E (J E ?_))))
 refine EN (n:=pre.length) E Ru Aa E E zO zO ?_
 refine WU (f:=AC) 2 E E E E Aa E E zQ zT ?_
 rw[Uz pre 0 x 16 pre.length rfl hlt]
 refine U (AJ (AG 1 Gi E (V E (B2 zO zO) (BN 1 E E E E QP E E E zT (AT (Ao ?_))))))
 refine Jl (G:=_::_::_::_::H) ?_ (fun _ h=>h)
 have e1:(pre++[x]).length=pre.length+1:=by simp
 rw[e1]
 rfl
 obtain rfl:=hJ
 rw[hfm,hbl]
 have e1:I8 key counter nonce++List.replicate (16-16) 0=I8 key counter nonce:=by simp
 rw[e1]
 refine Ao (AI (Y ?_))
 refine BA ((I8 key counter nonce).map AC) E il (by simp[hbl]) E (Dy 2 E (fun j u hu=>by simpa[Es]using hu)) ?_
 refine QA 3 E E E E qU (by simp[hbl]) (by simp[Es]) (Pa zV (I8 key counter nonce)) zT ?_
 refine U (AM (Fx ?_))
 exact Ax (KC E (Cj 3 ((I8 key counter nonce).map AC) il (by simp[hbl]) E E (by simp only[List.drop_zero];exact List.take_of_length_le (by simp[hbl])))) (As (M:=[]) ⟨E,E⟩ fun _ h=>h.skip [_,_,_,_])
end

section
variable {K:Nat→Prop}{w0:World}{H:List Ab}
theorem mo:∀n:Fin 32,(DJ (n.1:Int) &&& 31).toNat=n.1∧(32-(DJ (n.1:Int) &&& 31)).toNat=32-n.1:=by decide
theorem cS(x:UInt32)(n:Nat)(h1:n<32):XJ x (n:Int)=rl x n:=by
 obtain⟨e1,e2⟩:=mo ⟨n,h1⟩
 simp only at e1 e2
 unfold XJ rl
 rw[e1,e2]
theorem nW:∀i,fM i<32 | 0=>(by decide:16<32) | _+1=>(by decide:8<32)
theorem nX:∀i,fN i<32 | 0=>(by decide:12<32) | _+1=>(by decide:7<32)
theorem T0(q:Q4):zC K w0 275 [AC q.a,AC q.b,AC q.c,AC q.d] [] H (fun r M=>r=.agg (Es AC q.quarter.list)∧M=[]):=by
 refine Vf.enter Tryz.func275 rfl rfl ?_
 refine Y ?_
 refine A6 E Um zU fun b0=>?_
 refine U (AE (Y (WR [vI 16,vI 12] E fQ QP kD E ⟨E,E,zT⟩ E E zX (WR [vI 8,vI 7] E fQ QP kD E ⟨E,E,zT⟩ E E zX ?_))))
 refine Cf (r:=#[vI 16,vI 12,vI 8,vI 7]) [_,_] E wY wK xO ⟨E,E,zT⟩ E ?_
 refine J E (U (AK ?_))
 refine SX.mono (A9 (α:=Nat) (fun i=>i≤2) (fun i=>[(0,AC (q.steps i).a),(1,AC (q.steps i).b),(2,AC (q.steps i).c),(3,AC (q.steps i).d),(8,vP b0 0),(13,.agg #[vI 16,vI 12,vI 8,vI 7]),(14,vI i)]) (fun i=>own b0 (.cells (Es AC [0,0,0,0]) 365)::H) (fun i=>2-i) (fun i D hp=>?_) 0 zO) tL
 refine Y (V E BL (U (AE ?_)))
 refine BH E (fun hc1=>?_) (fun hc1=>?_)
 have hi:i<2:=by simp at hc1;omega
 refine AH (AI (AE (AK (Y ?_))))
 refine Ts (i:=i) (c':=#[vI (fM i:Int),vI (fN i:Int)]) rfl w4 un rfl rfl zO zO (by rcases(by omega:i=0∨i=1)with rfl | rfl<;>rfl) ?_
 refine A6 E kD zU fun b1=>?_
 refine BN 0 E E E E ww E E E zT (U (Y (J E (J E (V E CQ (O E (U (Y (J E (J E (V E Dg ?_)))))))))))
 refine EN (n:=0) E fQ QP E E zO zO ?_
 refine AG 0 Gi E (AN 0 dr (Iw _ (fM i:Int)) E ?_)
 rw[cS _ _ (nW i)]
 refine O E (U (Y (J E (J E (V E CQ (O E (U (AJ (J E (J E (V E Dg ?_)))))))))))
 refine EN (n:=1) E fQ QP E E zO zO ?_
 refine AG 0 Gi E (AN 0 dr (Iw _ (fN i:Int)) E ?_)
 rw[cS _ _ (nX i)]
 refine O E (AT (Ao (AI (AJ (V E (B2 zO zO) (J E (AT ?_)))))))
 exact Am (i+1) zO zO tL (fun w hw=>hw.skip [_])
 have hi:i=2:=by simp at hc1;omega
 subst hi
 refine Av (Ay (BP (A0 (AI (Y (J E (J E (J E (J E ?_)))))))))
 refine WR (q.quarter.list.map AC) rfl Rv Aa Um rfl ⟨rfl,rfl,rfl,rfl,trivial⟩ rfl rfl (fun v hv=>by obtain⟨x,_,rfl⟩:=List.mem_map.1 hv;rfl) ?_
 refine QA 0 E E E E Xy E E (Pa zV q.quarter.list) zT ?_
 refine U (AM ?_)
 exact Ax (KC E (Cj 0 (q.quarter.list.map AC) im E E E E)) (As (M:=[]) ⟨E,E⟩ fun _ h=>h.skip [_])
theorem Wb(ws:List UInt32)(step:Nat)(b:Nat)(e:TypeId)(hw:ws.length=16)(hs:step≤1):zC K w0 255 [vP b 0,vI step] [own b (.cells (Es AC ws) e)] H (fun r M=>r=.tuple #[]∧M=[own b (.cells (Es AC (XK ws step)) e)]):=by
 refine Vf.enter Tryz.func255 rfl rfl ?_
 refine Y (J E (U (AK ?_)))
 refine SX.mono (A9 (α:=Nat) (fun i=>i≤4) (fun i=>[(0,vP b 0),(1,vI step),(10,vI i)]) (fun i=>own b (.cells (Es AC (FD ws step i)) e)::H) (fun i=>4-i) (fun i D hp=>?_) 0 zO) tL
 have hwl:(FD ws step i).length=16:=(L9 ws step i).trans hw
 refine Y (V E BL (U (AE ?_)))
 refine BH E (fun hc1=>?_) (fun hc1=>?_)
 have hi:i<4:=by simp at hc1;omega
 have h16:∀k,k<4→Jd step i k<16:=fun k hk=>by unfold Jd;omega
 refine AH (AI (AE (AK (Y (J E (O E (U (Y ?_))))))))
 refine A6 E xN zU fun b0=>?_
 refine U (AE (Y (J E (U (AK ?_)))))
 refine SX.mono (A9 (α:=Nat) (fun k=>k≤4) (fun k=>[(0,vP b 0),(1,vI step),(4,vI i),(5,vP b0 0),(10,vI i),(13,vI k)]) (fun k=>own b0 (.cells (Es vI (((List.range k).map fun j=>((Jd step i j:Nat):Int))++List.replicate (4-k) 0)) 364)::own b (.cells (Es AC (FD ws step i)) e)::H) (fun k=>4-k) (fun k D hp=>?_) 0 zO) tL
 refine Y (V E BL (U (AE ?_)))
 refine BH E (fun hc2=>?_) (fun hc2=>?_)
 have hk:k<4:=by simp at hc2;omega
 have hks:k*step≤3:=Nat.le_trans (Nat.mul_le_mul_left k hs) zO
 have hks2:((k:Int)*step)=((k*step:Nat):Int):=by simp
 refine AH (AI (AE (AK (Y (J E (O E (U (AJ (J E (J E (V E (QR zO zO) (J E (J E (J E ?_))))))))))))))
 refine V E (QR zO zO) (V E (B2 zO zO) (V E (XP zO zO) (V E (B2 zO zO) ?_)))
 refine EN (n:=k) E X0 QP E E zO zO ?_
 refine WU (f:=vI) 0 E E E E QP E E zQ zT ?_
 rw[Uz _ _ _ 4 k zS hk]
 refine AT (Ao (AI (AJ (V E (B2 zO zO) (J E (AT ?_))))))
 refine Am (k+1) zO zO tL (fun w hw=>?_)
 have e1:(4*(k:Int)+((i:Int)+(k:Int)*step)%4)=((Jd step i k:Nat):Int):=by simp[Jd]
 simp only[List.range_succ,List.map_append,List.map_cons,List.map_nil]
 rw[e1]at hw
 exact hw
 have hk:k=4:=by simp at hc2;omega
 subst hk
 have hat:((List.range 4).map fun j=>((Jd step i j:Nat):Int))++List.replicate (4-4) 0=[((Jd step i 0:Nat):Int),((Jd step i 1:Nat):Int),((Jd step i 2:Nat):Int),((Jd step i 3:Nat):Int)]:=by rfl
 rw[hat]
 refine Av (Ay (BP (A0 (AI ?_))))
 generalize hq:(⟨(FD ws step i).getD (Jd step i 0) 0,(FD ws step i).getD (Jd step i 1) 0,(FD ws step i).getD (Jd step i 2) 0,(FD ws step i).getD (Jd step i 3) 0⟩:Q4)=q
 refine ZK (α:=Nat) (fun _=>True) (fun x=>[(0,vP b 0),(1,vI step),(5,vP b0 0),(7,vP x 0),(10,vI i)]) (fun x=>own x (.cells (Es AC q.quarter.list) 365)::own b0 (.cells (Es vI [((Jd step i 0:Nat):Int),((Jd step i 1:Nat):Int),((Jd step i 2:Nat):Int),((Jd step i 3:Nat):Int)]) 364)::own b (.cells (Es AC (FD ws step i)) e)::H) ?_ (fun x hx=>?_)
 refine Ai C2 [0,1] (BJ (Hp 0 24) (.alt 24 (C0 [(false,25),(false,26)]) (.cons (false,25) (C0 [(false,24),(false,26)])))) zK (J E ?_)
 refine EN (n:=0) E X0 QP E E zO zO ?_
 refine AG 0 Gi E (AV E E ?_)
 refine EN (n:=Jd step i 0) E Ru Aa E E E (h16 _ zO) ?_
 refine Aq E Ah E (EA 1 E (GY (LH 0 (by rw[hwl];exact h16 _ zO)))) (J E ?_)
 refine EN (n:=1) E X0 QP E E zO zO ?_
 refine AG 0 Gi E (AV E E ?_)
 refine EN (n:=Jd step i 1) E Ru Aa E E E (h16 _ zO) ?_
 refine Aq E Ah E (EA 1 E (GY (LH 0 (by rw[hwl];exact h16 _ zO)))) (J E ?_)
 refine EN (n:=2) E X0 QP E E zO zO ?_
 refine AG 0 Gi E (AV E E ?_)
 refine EN (n:=Jd step i 2) E Ru Aa E E E (h16 _ zO) ?_
 refine Aq E Ah E (EA 1 E (GY (LH 0 (by rw[hwl];exact h16 _ zO)))) (J E ?_)
 refine EN (n:=3) E X0 QP E E zO zO ?_
 refine AG 0 Gi E (AV E E ?_)
 refine EN (n:=Jd step i 3) E Ru Aa E E E (h16 _ zO) ?_
 refine Aq E Ah E (EA 1 E (GY (LH 0 (by rw[hwl];exact h16 _ zO)))) ?_
 refine E6 ?_ ?_
 refine Bx (vs:=[_,_,_,_]) (Hin:=[]) E E ⟨E,E,E,E,zT⟩ lB (by rw[←hq];rfl) E (T0 q) ?_
 rintro _ _ ⟨rfl,rfl⟩
 refine⟨⟨⟨0,rfl⟩,⟨1,rfl⟩,trivial⟩,?_⟩
 refine A6 E Um (fun _=>⟨⟨1,E⟩,⟨2,E⟩,zT⟩) fun b1=>?_
 refine QA 0 E E E E Xy E E (Pa zV q.quarter.list) ⟨⟨1,E⟩,⟨2,E⟩,zT⟩ ?_
 refine AT ?_
 exact Ut b1 zT tL
 refine A6 E Um (fun _=>⟨⟨1,E⟩,⟨2,E⟩,zT⟩) fun b1=>?_
 refine Bx (vs:=[_,_,_,_]) (Hin:=[]) E E ⟨E,E,E,E,zT⟩ lB (by rw[←hq];rfl) E (T0 q) ?_
 rintro _ _ ⟨rfl,rfl⟩
 refine⟨⟨⟨1,rfl⟩,⟨2,rfl⟩,trivial⟩,?_⟩
 refine QA 0 E E E E Xy E E (Pa zV q.quarter.list) ⟨⟨1,E⟩,⟨2,E⟩,zT⟩ ?_
 refine AT ?_
 exact Ut b1 zT tL
 
 refine Y (BA (q.quarter.list.map AC) E im E E (A2 0 E) (J E (U (AK ?_))))
 refine SX.mono (A9 (α:=Nat) (fun k=>k≤4) (fun k=>[(0,vP b 0),(1,vI step),(5,vP b0 0),(10,vI i),(53,.agg (Es AC q.quarter.list)),(54,vI k)]) (fun k=>own x (.cells (Es AC q.quarter.list) 365)::own b0 (.cells (Es vI [((Jd step i 0:Nat):Int),((Jd step i 1:Nat):Int),((Jd step i 2:Nat):Int),((Jd step i 3:Nat):Int)]) 364)::own b (.cells (Es AC (WF (FD ws step i) (Jd step i) q.quarter.list k)) e)::H) (fun k=>4-k) (fun k D hp=>?_) 0 zO) tL
 refine Y (V E BL (U (AE ?_)))
 refine BH E (fun hc3=>?_) (fun hc3=>?_)
 have hk:k<4:=by simp at hc3;omega
 have hix:[((Jd step i 0:Nat):Int),((Jd step i 1:Nat):Int),((Jd step i 2:Nat):Int),((Jd step i 3:Nat):Int)][k]? = some ((Jd step i k:Nat):Int):=by
  rcases(by omega:k=0∨k=1∨k=2∨k=3)with rfl | rfl | rfl | rfl<;>rfl
 have hsl:(WF (FD ws step i) (Jd step i) q.quarter.list k).length=16:=(Rt ..).trans hwl
 refine AH (AI (AE (AK (Y (J E ?_)))))
 refine RG (i:=k) E Rv Ah E E zO zO (GY (LH 0 hk)) ?_
 refine O E (O E (U (Ai C2 [1] (BJ (Hp 0 7) (.last 7 .nil)) zK (J E (J E ?_)))))
 refine EN (n:=k) E X0 QP E E zO zO ?_
 refine Aq E Gi E (EA 0 E (GY hix)) (J E (AV E E ?_))
 refine EN (n:=Jd step i k) E Ru Aa E E E (h16 _ hk) ?_
 refine A4 ?_
 refine WU (f:=AC) 2 E E E E Aa E E (by rw[hsl];exact h16 _ hk) zT ?_
 refine AT (Ao (AI (AJ (V E (B2 zO zO) (J E (AT ?_))))))
 exact Am (k+1) zO zO tL
 have hk:k=4:=by simp at hc3;omega
 subst hk
 refine Av (Ay (BP (A0 (Ao (AI (AJ (V E (B2 zO zO) (J E (AT ?_)))))))))
 refine Am (i+1) zO zO tL (fun w hw=>?_)
 have e1:WF (FD ws step i) (Jd step i) q.quarter.list 4=FD ws step (i+1):=by rw[FD,nK,hq]
 rw[e1]at hw
 exact hw.skip [_,_]
 have hi:i=4:=by simp at hc1;omega
 subst hi
 refine Av (Ay (BP (A0 ?_)))
 exact D5 (E4 E) (As (M:=[_]) ⟨E,E⟩ fun _ h=>h)
end

section
variable {K:Nat→Prop}{w0:World}{H:List Ab}
theorem nk(W B:List UInt32)(i:Nat)(h1:i<W.length)(h2:i<B.length):(List.zipWith (·+·) W B).take (i+1)=(List.zipWith (·+·) W B).take i++[W.getD i 0+B.getD i 0]:=by
 rw[List.take_add_one,List.getElem?_eq_getElem zQ]
 simp[List.getD_eq_getElem?_getD,h1,h2]
theorem gn(j:Nat):UInt32.ofNat j+1=UInt32.ofNat (j+1):=by
 apply UInt32.toNat_inj.1
 simp
theorem kA(key nonce s:List UInt8)(n:Nat)(h:n<s.length):(KF key nonce s).take (n+1)=(KF key nonce s).take n++[s.getD n 0 ^^^ Q7 key nonce n]:=by
 rw[List.take_add_one,List.getElem?_eq_getElem (by rw[HN];exact h)]
 simp[KF]
theorem dA(key nonce:List UInt8)(counter:UInt32)(hk:key.length=32)(hn:nonce.length=12):zC K w0 227 [vS key,AC counter,vS nonce] [] H (fun r M=>r=.tuple #[vS (LP key counter nonce),vI 0]∧M=[]):=by
 refine Vf.enter Tryz.func227 rfl rfl ?_
 refine Y (O E (O E (U (AE (Y (J E (CI E De E (V E Bg (J E ?_)))))))))
 refine GR (c:=(!decide ((nonce.length:Int)=12))) 16 4 20 E (fun hb k=>?_) (fun hb k=>?_) ?_
 refine AA E (AA E (AA E (An E E E ?_)))
 exact k.mono tL
 refine J E (CI E De E (V E Bg (An E E E ?_)))
 exact k.mono tL
 refine U ?_
 refine BH E (fun hc1=>absurd hc1 (by simp[hk,hn])) (fun hc1=>?_)
 refine AH (AI (Y (J E (J E (J E (AN 0 tX (dB key nonce counter hk hn) E ?_))))))
 have hB:=OF (counter:=counter) hk hn
 generalize hBe:I8 key counter nonce=B at hB
 refine A6 E fX zU fun b0=>?_
 refine QA (c':=Es AC B) 0 E E E E qU (by rw[Uw];exact hB) E (Pa zV B) zT ?_
 refine U (Y ?_)
 refine A6 E fX zU fun b1=>?_
 refine U (AE (Ai C2 [] (BJ [(true,0),(true,1)] (.last 2 .nil)) zK (kL E Ru Aa E zD (kL E Ru Aa E zD (A4 ?_)))))
 refine q8 (f:=AC) (xs:=List.replicate 16 0) (ys:=B) 0 1 E Af Aa E E E E E hB zV zT ?_
 refine U (AE (Y (J E (U (AK ?_)))))
 refine SX.mono (A9 (α:=Nat) (fun i=>i≤10) (fun i=>[(8,vP b0 0),(9,vP b1 0),(28,vI i)]) (fun i=>own b1 (.cells (Es AC (Uh B i)) 342)::own b0 (.cells (Es AC B) 342)::H) (fun i=>10-i) (fun i D hp=>?_) 0 zO) tL
 have htl:=(On B i).trans hB
 refine Y (V E BL (U (AE ?_)))
 refine BH E (fun hc2=>?_) (fun hc2=>?_)
 have hi:i<10:=by simp at hc2;omega
 refine AH (AI (AE (AK (Y (AN 1 kz (Wb (Uh B i) 0 b1 342 htl zO) E (U (AJ (AN 1 kz (Wb (XK (Uh B i) 0) 1 b1 342 ((L9 ..).trans htl) zO) E (AT (Ao (AI (AJ (V E (B2 zO zO) (J E (AT ?_)))))))))))))))
 exact Am (i+1) zO zO tL
 have hi:i=10:=by simp at hc2;omega
 subst hi
 generalize hW:Uh B 10=W at htl
 refine Av (Ay (BP (A0 (AI (Y (O E (U (AE (Y (BA (W.map AC) E il (by simp[htl]) E (A2 0 E) (J E (U (AK (KL 5 1 ?_))))))))))))))
 refine SX.mono (A9 (α:=Nat×Value) (fun x=>x.1≤16) (fun x=>[(8,vP b0 0),(10,x.2),(33,.agg (Es AC W)),(34,vI x.1)]) (fun x=>Ew 5 1 x.2 (4*x.1) ((((List.zipWith (·+·) W B).take x.1).flatMap HX).map fun b=>Fo b)::own b1 (.cells (Es AC W) 342)::own b0 (.cells (Es AC B) 342)::H) (fun x=>16-x.1) (fun x D hp=>?_) (0,zN) zD) tL
 obtain⟨i,v⟩:=x
 simp only at hp
 refine Y (V E BL (U (AE ?_)))
 refine BH E (fun hc3=>?_) (fun hc3=>?_)
 have hi:i<16:=by simp at hc3;omega
 refine AH (AI (AE (AK (Y (J E ?_)))))
 refine RG (i:=i) E Ru Ah E E zO zO (GY (LH 0 zO)) ?_
 refine O E (O E (U (Y (J E (J E ?_)))))
 refine EN (n:=i) E Ru Aa E E zO zO ?_
 refine Aq E Ah E (EA 2 E (GY (LH 0 zO))) (V E CQ (O E (U (AJ (J E (J E (BZ E E (EM C6 Ej) (J E ?_))))))))
 refine V E (Gy.shr32 (n:=8)) ?_
 refine BZ E E (EM C6 Ej) (J E ?_)
 refine V E (Gy.shr32 (n:=16)) ?_
 refine BZ E E (EM C6 Ej) (J E ?_)
 refine V E (Gy.shr32 (n:=24)) ?_
 refine BZ E E (EM C6 Ej) ?_
 refine Ck [_,_,_,_] E DO LM MF ⟨E,E,E,E,zT⟩ E E E zX E E zU fun b2=>?_
 refine WQ 1 rfl (m:=4) (news:=(HX (W.getD i 0+B.getD i 0)).map fun b=>Fo b) DO LM XV MF rfl zD rfl rfl rfl rfl (A2 0 rfl) (by intro u hu;obtain⟨x,_,rfl⟩:=List.mem_map.1 hu;rfl) zO zO zU fun v'=>?_
 refine O E (AT (Ao (AI (AJ (V E (B2 zO zO) (J E (AT ?_)))))))
 refine Am (i+1,v') (by simp only;omega) (by simp only;omega) tL (fun w hw=>?_)
 simp only
 rw[nk W B i zO zO,List.flatMap_append,List.map_append]
 simp only[List.flatMap_cons,List.flatMap_nil,List.append_nil]
 exact hw.skip [_]
 have hi:i=16:=by simp at hc3;omega
 subst hi
 have ht:(List.zipWith (·+·) W B).take 16=List.zipWith (·+·) W B:=List.take_of_length_le zQ
 rw[ht]
 refine Av (Ay (BP (A0 (AI (Y (J E ?_))))))
 refine ZE (s:=(List.zipWith (·+·) W B).flatMap HX) 0 E DO Ej De E E ?_
 refine O E (O E (U (AM ?_)))
 exact Ax (F1 E E E) (As (M:=[]) ⟨by rw[LP,lW,hBe,hW],E⟩ fun _ h=>h.skip [_,_,_])
theorem iw(key nonce s:List UInt8)(hk:key.length=32)(hn:nonce.length=12)(hs:s.length≤1048576):zC K w0 196 [vS key,vS nonce,vS s] [] H (fun r M=>r=.tuple #[vS (KF key nonce s),vI 0]∧M=[]):=by
 refine Vf.enter Tryz.func196 rfl rfl ?_
 refine Y (O E (O E (U (AE (Y (J E (CI E De E (V E Bg (J E ?_)))))))))
 refine GR (c:=(!decide ((nonce.length:Int)=12))) 17 4 21 E (fun hb k=>?_) (fun hb k=>?_) ?_
 refine AA E (AA E (AA E (An E E E ?_)))
 exact k.mono tL
 refine J E (CI E De E (V E Bg (An E E E ?_)))
 exact k.mono tL
 refine J E ?_
 refine GR (c:=decide ((1048576:Int)<s.length)) 22 4 26 E (fun hb k=>?_) (fun hb k=>?_) ?_
 refine AA E (AA E (AA E (An E E E ?_)))
 exact k.mono tL
 refine J E (CI E De E (V E C8 (An E E E ?_)))
 exact k.mono tL
 refine U ?_
 refine BH E (fun hc1=>absurd hc1 (by simp[hk,hn];omega)) (fun hc1=>?_)
 refine AH (AI (Y ?_))
 refine A6 E bA zU fun b0=>?_
 refine U (AE (Y (O E (U (AK (KL 5 1 (SX.pick [1,0] 2 ?_)))))))
 have hxl:=HN key nonce s
 refine SX.mono (A9 (α:=Nat×Value×Value) (fun x=>64*x.1<s.length+64∧QZ b0 x.2.1) (fun x=>[(0,vS key),(1,vS nonce),(2,vS (s.drop (64*x.1))),(8,vP b0 0),(9,AC (UInt32.ofNat x.1))]) (fun x=>own b0 (.cells #[x.2.1,x.2.2] 161)::Ew 5 1 x.2.2 (min (64*x.1) s.length) (((KF key nonce s).take (min (64*x.1) s.length)).map fun b=>Fo b)::H) (fun x=>s.length+64-64*x.1) (fun x D hp=>?_) (0,.pointer none,zN) ⟨by simp,.inl E⟩) ⟨E,E,E,E,E,zT⟩
 obtain⟨j,p,v⟩:=x
 obtain⟨hj,hadr⟩:=hp
 simp only at hj hadr
 refine AE (Y (J E ?_))
 refine V E (WJ (t:=[])) ?_
 refine U ?_
 refine BH E (fun hc2=>?_) (fun hc2=>?_)
 have hjl:64*j<s.length:=by simp at hc2;omega
 have hmin:min (64*j) s.length=64*j:=zO
 rw[hmin]
 refine AH (AI (AE (AK (Y (J E (J E (J E (AN 0 tE (dA key nonce (UInt32.ofNat j) hk hn) E ?_))))))))
 have hbl:=Tz (counter:=UInt32.ofNat j) hk hn
 refine J E (Ap E E E (Ap E E E (O E (O E (U (Y (J E (J E (CI E De E ?_)))))))))
 refine J E (CI E De E (ZG E E E (Tt (min (s.length-64*j) 64) E De E E zQ zQ (O E (U (AE (Y (J E (CI E De E (J E (U (AK ?_))))))))))))
 have hpl:((s.drop (64*j)).take (min (s.length-64*j) 64)).length=min (s.length-64*j) 64:=by simp
 refine SX.mono (A9 (α:=Nat×Value×Value) (fun x=>x.1≤min (s.length-64*j) 64∧QZ b0 x.2.1) (fun x=>[(0,vS key),(1,vS nonce),(2,vS (s.drop (64*j))),(8,vP b0 0),(9,AC (UInt32.ofNat j)),(10,vS (LP key (UInt32.ofNat j) nonce)),(12,vS ((s.drop (64*j)).take (min (s.length-64*j) 64))),(46,vI ((s.drop (64*j)).take (min (s.length-64*j) 64)).length),(47,vI x.1)]) (fun x=>own b0 (.cells #[x.2.1,x.2.2] 161)::Ew 5 1 x.2.2 (64*j+x.1) (((KF key nonce s).take (64*j+x.1)).map fun b=>Fo b)::H) (fun x=>64-x.1) (fun x D hp=>?_) (0,p,v) ⟨Nat.zero_le _,hadr⟩) tL
 obtain⟨i,p,v⟩:=x
 obtain⟨hi,hadr⟩:=hp
 simp only at hi hadr
 refine Y (V E BL (U (AE ?_)))
 refine BH E (fun hc3=>?_) (fun hc3=>?_)
 have hil:i<min (s.length-64*j) 64:=by simp only[hpl]at hc3;simpa using hc3
 refine AH (AI (AE (AK (Y (J E (O E (U (Ai C2 [] (BJ (Hp 0 7) (.last 7 .nil)) zK (J E (J E (MH i E De E E zO zO (J E (J E ?_)))))))))))))
 refine MH i E De E E zO zO (V E Up (A4 ?_))
 have e1:((s.drop (64*j)).take (min (s.length-64*j) 64)).getD i 0=s.getD (64*j+i) 0:=by
  simp[List.getD_eq_getElem?_getD,hil,show 64*j+i<s.length by omega]
 have e2:(LP key (UInt32.ofNat j) nonce).getD i 0=Q7 key nonce (64*j+i):=by
  rw[Q7,show(64*j+i) / 64=j by omega,show(64*j+i)%64=i by omega]
 rw[e1,e2]
 refine Bi 2 Y0 (QB 161 b0 p v (64*j+i) _ _ hadr S5 zO) E ?_
 rintro _ _ ⟨rfl,v',rfl⟩
 refine AT (Ao (AI (AJ (V E (B2 zO zO) (J E (AT ?_))))))
 refine Am (i+1,vP b0 0,v') ⟨by simp only;omega,.inr E⟩ (by simp only;omega) tL (fun w hw=>?_)
 simp only
 rw[←Nat.add_assoc,kA key nonce s (64*j+i) zO,List.map_append]
 exact hw
 have hie:i=min (s.length-64*j) 64:=by simp only[hpl]at hc3;simp at hc3;omega
 refine Av (Ay (BP (A0 (AI (AJ (J E (J E (CI E De E (QX (min (s.length-64*j) 64) E De E E (by rw[hpl]) zQ ?_)))))))))
 rw[List.drop_drop]
 refine O E (AT (Ao (AI (AJ (J E ?_)))))
 refine V E (CQ (b:=1)) ?_
 refine O E (AT ?_)
 have e1:s.drop (64*j+min (s.length-64*j) 64)=s.drop (64*(j+1)):=by
  rcases Nat.lt_or_ge (s.length-64*j) 64 with h | h
  rw[List.drop_eq_nil_of_le zO,List.drop_eq_nil_of_le zO]
  rw[show 64*j+min (s.length-64*j) 64=64*(j+1) by omega]
 rw[e1,gn]
 refine Am (j+1,p,v) ⟨by simp only;omega,hadr⟩ (by simp only;omega) tL (fun w hw=>?_)
 simp only
 rw[show min (64*(j+1)) s.length=64*j+i by omega]
 exact hw
 have hjl:s.length≤64*j:=by simp at hc2;omega
 have hmin:min (64*j) s.length=s.length:=zO
 have ht:(KF key nonce s).take s.length=KF key nonce s:=List.take_of_length_le zO
 rw[hmin,ht]
 refine Av (Ay (BP (A0 (AI (Y (AN 2 Rg (LA 161 b0 p v s.length (KF key nonce s) zO) E (O E (O E (U (AM ?_))))))))))
 exact Ax (F1 E E E) (As (M:=[]) ⟨E,E⟩ fun _ h=>h.skip [_,_])
end

section
variable {K:Nat→Prop}{w0:World}{H:List Ab}
theorem RK(b:Nat)(p v:Value)(e:TypeId)(n:UInt64)(w m:Nat)(xs:List UInt8)(hp:QZ b p)(hl:cD e)(hw:w≤8)(hm:m≤1048576):zC K w0 229 [vP b 0,Bh n,vI w] [own b (.cells #[p,v] e),Ew 5 1 v m (xs.map fun b=>Fo b)] H (fun r M=>r=.tuple #[]∧∃p' v',QZ b p'∧M=[own b (.cells #[p',v'] e),Ew 5 1 v' (m+w) ((xs++DN n w).map fun b=>Fo b)]):=by
 refine Vf.enter Tryz.func229 rfl rfl ?_
 refine Y (J E (J E (U (AK ?_))))
 refine SX.mono (A9 (α:=Nat×Value×Value) (fun x=>x.1≤w∧QZ b x.2.1) (fun x=>[(0,vP b 0),(1,Bh n),(7,vI w),(8,vI x.1)]) (fun x=>own b (.cells #[x.2.1,x.2.2] e)::Ew 5 1 x.2.2 (m+x.1) ((xs++DN n x.1).map fun b=>Fo b)::H) (fun x=>w-x.1) (fun x D hp=>?_) (0,p,v) ⟨Nat.zero_le _,hp⟩ |>.heap (fun w h=>by simpa[DN]using h)) tL
 obtain⟨i,p,v⟩:=x
 obtain⟨hi,hadr⟩:=hp
 simp only at hi hadr
 refine Y (V E BL (U (AE ?_)))
 refine BH E (fun hc1=>?_) (fun hc1=>?_)
 have hlt:i<w:=by simpa using hc1
 refine AH (AI (AE (AK (Y (J E (O E (U (Ai C2 [] (BJ (Hp 0 8) (.last 8 .nil)) zK (J E (AV E E (AF E aG (J E (J E ?_)))))))))))))
 refine V E (QR zO zO) ?_
 refine V E (Gy.shr64 (n:=(8*i))) ?_
 refine BZ E E (Gt En Ej) (A4 (Bi 2 Y0 (QB e b p v (m+i) _ _ hadr hl zO) E ?_))
 rintro _ _ ⟨rfl,v',rfl⟩
 refine AT (Ao (AI (AJ (V E (B2 zO zO) (J E (AT ?_))))))
 refine Am (i+1,vP b 0,v') ⟨hlt,.inr E⟩ (by simp only;omega) tL (fun w hw=>?_)
 simp only
 rw[UW,←List.append_assoc,List.map_append (l₁:=xs++DN n i),←Nat.add_assoc]
 exact hw
 have hie:i=w:=by simp at hc1;omega
 subst hie
 refine Av (Ay (BP (A0 ?_)))
 exact D5 (E4 E) (As (M:=[_,_]) ⟨E,p,v,hadr,E⟩ fun _ h=>h)
theorem VR(h:EY):zC K w0 197 [.agg (Lg h).toArray] [] H (fun r M=>r=vS (Mh h)∧M=[]):=by
 refine Vf.enter Tryz.func197 rfl rfl ?_
 refine Y ?_
 refine Bw E E zU fun b0=>?_
 refine O E (U (Y ?_))
 refine A6 E qu zU fun b1=>?_
 refine U (Y ?_)
 refine Im (fv:=#[_]) (cv:=#[]) E E E ?_
 refine O E (U (KL 5 1 (SX.pick [1,0,2] 3 (Y (J E (AF E aC (AG 2 Ah E (BZ E E (D9 C6 En) (Bi 2 Y1 (RK b1 (.pointer none) (.slice none 0 0) 323 h.boot.toUInt64 4 0 [] (.inl E) eP zO zO) E ?_)))))))))
 rintro _ _ ⟨rfl,p1,v1,ha1,rfl⟩
 refine U (Y (J E (AF E aD (AG 2 Il E (Bi 2 Y1 (RK b1 p1 v1 323 h.seq 8 4 _ ha1 eP zO zO) E ?_)))))
 rintro _ _ ⟨rfl,p2,v2,ha2,rfl⟩
 refine U (Y (AF E aG (AN 2 Rg (LA 323 b1 p2 v2 12 (Mh h) zO) E (O E (U (AM ?_))))))
 exact Ax (D7 E E) (As (M:=[]) ⟨E,E⟩ fun _ h=>h.skip [_,_,_])
theorem gF(h:EY):zC K w0 198 [.agg (Lg h).toArray] [] H (fun r M=>r=vS (Q0 h)∧M=[]):=by
 refine Vf.enter Tryz.func198 rfl rfl ?_
 refine Y ?_
 refine Bw E E zU fun b0=>?_
 refine O E (U (Y ?_))
 refine A6 E qu zU fun b1=>?_
 refine U (Y ?_)
 refine Im (fv:=#[_]) (cv:=#[]) E E E ?_
 refine O E (U (KL 5 1 (SX.pick [1,0,2] 3 (Y (J E (AF E gc (AG 2 Ah E (BZ E E (D9 C6 En) (Bi 2 Y1 (RK b1 (.pointer none) (.slice none 0 0) 323 h.page.toUInt64 4 0 [] (.inl E) eP zO zO) E ?_)))))))))
 rintro _ _ ⟨rfl,p1,v1,ha1,rfl⟩
 refine U (Y (J E (AF E W5 (AG 2 Ah E (BZ E E (D9 C6 En) (Bi 2 Y1 (RK b1 p1 v1 323 h.gen.toUInt64 4 4 _ ha1 eP zO zO) E ?_))))))
 rintro _ _ ⟨rfl,p2,v2,ha2,rfl⟩
 refine U (AE (Ai C2 [2] (C0 [(true,0),(true,2),(false,1),(false,3),(true,4),(true,5),(true,6)]) zK (AF E aG (BA (Lg h) E Vj E E (A2 0 E) (BT 2 Rg (LA 323 b1 p2 v2 8 (DN h.page.toUInt64 4++DN h.gen.toUInt64 4) zO) E ⟨⟨2,E⟩,zT⟩ (BT 0 kj (VR h) E ⟨⟨2,E⟩,zT⟩ (V E (G6 (by simp[Ca,L4])) (V E (G6 (by simp[Ca,L4])) (O E (U (AM ?_)))))))))))
 exact Ax (D7 E E) (As (M:=[]) ⟨E,E⟩ fun _ h=>h.skip [_,_,_])
end

section
variable {K:Nat→Prop}{w0:World}{H:List Ab}
end

section
variable {K:Nat→Prop}{w0:World}{H:List Ab}
theorem rU(s:List UInt8)(hn:s.length≤9223372036854775807):zC K w0 194 [vS s] [] H (fun r M=>r=.tuple #[vS (Qy s).1,vI (Qy s).2]∧M=[]):=
 (iz s hn).mono fun v M h=>⟨by rw[h.1];unfold Qy;split<;>rfl,h.2⟩
theorem oa(T:List UInt32)(k:Bf)(hT:Hq K w0 T)(hr:E7 [k]=true):zC K w0 195 [.agg (Ad k).toArray] [] H (fun r M=>r=.tuple #[vS (Q8 T k PK),vS (Q8 T k Pn),vI 0]∧M=[]):=
 (dE T k hT).mono fun v M h=>⟨by rw[h.1,if_pos hr],h.2⟩
theorem dN(T:List UInt32)(v:Value)(l:List Bf)(h:EY)(s:List UInt8)(hT:Hq K w0 T)(hk:CR K w0 Ad 2 v l)(hv:v.cells=#[v])(hl:l.length≤1099511627776)(hn:s.length≤9223372036854775807):zC K w0 169 [v,.agg (Lg h).toArray,vS s] [] H (fun r M=>r=.tuple #[vS (Iz T l h s).1,vI (Iz T l h s).2]∧M=[]):=by
 refine Vf.enter Tryz.func169 rfl rfl ?_
 refine Y ?_
 refine Bw E E zU fun b0=>?_
 refine O E (O E (U (Y (J E (AF E W5 (AG 0 Ah E (AN 0 pB (Wd v l h.gen hk hv hl) E ?_)))))))
 generalize hf:Eo l h.gen=f
 refine J E (Ap E E E (Ap E E E ?_))
 refine A6 E Ox zU fun b1=>?_
 refine BN 0 E E E E It E E E zT (O E (U (AE (Y (J E (V E Bg (U ?_)))))))
 refine BH E (fun hc1=>?_) (fun hc1=>?_)
 have he:f.2≠0:=by simpa using hc1
 have hs:Iz T l h s=([],f.2):=by unfold Iz;rw[hf,if_pos he]
 rw[hs]
 refine Y (J E (O E (O E (U (AM (Ag ?_))))))
 exact Ax (F1 E E E) (As (M:=[]) ⟨E,E⟩ fun _ h=>h.skip [_,_])
 have he:f.2=0:=by simpa using hc1
 have hok:=Wr (l:=l) (g:=h.gen) (by rw[hf];exact he)
 rw[hf]at hok
 refine AH (AI (Y (J E (AN 0 se (rU s hn) E (J E (Ap E E E (Ap E E E (O E (O E (U (AE (Y (J E ?_)))))))))))))
 refine V E Bg (U ?_)
 refine BH E (fun hc2=>?_) (fun hc2=>?_)
 have h1:198<s.length:=by
  unfold Qy at hc2
  split at hc2
  assumption
  simp at hc2
 have hs:Iz T l h s=([],50):=by unfold Iz;rw[hf,if_neg (by simp[he]),if_pos h1]
 have hp:Qy s=([],50):=by unfold Qy;rw[if_pos h1]
 rw[hs,hp]
 refine Y (J E (O E (O E (U (AM (Ag ?_))))))
 exact Ax (F1 E E E) (As (M:=[]) ⟨E,E⟩ fun _ h=>h.skip [_,_])
 have h1:¬198<s.length:=by
  intro h1
  unfold Qy at hc2
  rw[if_pos h1]at hc2
  simp at hc2
 have hp:Qy s=(L6 s,0):=by unfold Qy;rw[if_neg h1]
 have hpl:(L6 s).length=200:=HL zO
 have hbl:=IT T f.1 h hpl
 have hsl1:=QO T f.1 PK
 have hsl2:=QO T f.1 Pn
 have hs:Iz T l h s=(I9 T f.1 h s,0):=by unfold Iz;rw[hf,if_neg (by simp[he]),if_neg h1]
 rw[hs,hp]
 refine AH (AI (Y (BA (Ad f.1) E P6 E E (A2 0 E) (AN 0 sf (oa T f.1 hT hok.2.2.2) E (J E (Ap E E E (Ap E E E (Ap E E E (O E (O E ?_))))))))))
 refine O E (U (Y (J E (BA (Lg h) E Vj E E (A2 1 E) (AN 0 kj (VR h) E (J E (AN 0 sg (iw (Q8 T f.1 PK) (Mh h) (L6 s) hsl1 (L4 h) zO) E (J E (Ap E E E ?_)))))))))
 refine Ap E E E (O E (O E (U (Y (BA (Lg h) E Vj E E (A2 1 E) (AN 0 sh (gF h) E (J E (V E (G6 (by rw[JT,HN];omega)) (O E (U (Y ?_)))))))))))
 refine J E (J E (J E ?_))
 refine Ck [_] E F8 Is VD ⟨E,zT⟩ E E E zX E E zU fun b2=>?_
 refine AN 1 kl (ZX T (Q8 T f.1 Pn) [MM T f.1 h (L6 s)] b2 hT zO zQ zS) E ?_
 refine V E (G6 (by rw[JS];have:=hbl;simp only[MM]at this;omega)) ?_
 refine O E (O E (U (AM ?_)))
 exact Ax (F1 E E E) (As (M:=[]) ⟨by simp[I9,MM],E⟩ fun _ h=>h.skip [_,_])
end

section
variable {K:Nat→Prop}{w0:World}{H:List Ab}
end

section
open Go Go.ChangeShapes Go.WideShapes Go.ChangeAt Go.RowKit
def Sq:List UInt32:=[1116352408,1899447441,3049323471,3921009573,961987163,1508970993,2453635748,2870763221,3624381080,310598401,607225278,1426881987,1925078388,2162078206,2614888103,3248222580,3835390401,4022224774,264347078,604807628,770255983,1249150122,1555081692,1996064986,2554220882,2821834349,2952996808,3210313671,3336571891,3584528711,113926993,338241895,666307205,773529912,1294757372,1396182291,1695183700,1986661051,2177026350,2456956037,2730485921,2820302411,3259730800,3345764771,3516065817,3600352804,4094571909,275423344,430227734,506948616,659060556,883997877,958139571,1322822218,1537002063,1747873779,1955562222,2024104815,2227730452,2361852424,2428436474,2756734187,3204031479,3329325298]
def Wl:List Int:=[1116352408,1899447441,3049323471,3921009573,961987163,1508970993,2453635748,2870763221,3624381080,310598401,607225278,1426881987,1925078388,2162078206,2614888103,3248222580,3835390401,4022224774,264347078,604807628,770255983,1249150122,1555081692,1996064986,2554220882,2821834349,2952996808,3210313671,3336571891,3584528711,113926993,338241895,666307205,773529912,1294757372,1396182291,1695183700,1986661051,2177026350,2456956037,2730485921,2820302411,3259730800,3345764771,3516065817,3600352804,4094571909,275423344,430227734,506948616,659060556,883997877,958139571,1322822218,1537002063,1747873779,1955562222,2024104815,2227730452,2361852424,2428436474,2756734187,3204031479,3329325298]
def d9:List Int:=[1779033703,3144134277,1013904242,2773480762,1359893119,2600822924,528734635,1541459225]
section
variable {P:Program}{W:World}
theorem YL{x:String×DataW Unit}{r:List (String×DataW Unit)}(h:laidMet P (x::r) W):laidMet P r W:=by
 obtain⟨ps,⟨g,t,cs,fuel,p,q,_,_,_,_,hs,rfl⟩,hn,hc⟩:=h
 exact⟨q,hs,(List.nodup_append.1 hn).2.1,fun b off hb=>hc b off (List.mem_append_right _ hb)⟩
theorem fL{name:String}{g:Nat}{zs:List Int}{T:List UInt32}(hg:P.globalNamed name=some g)(h:Lib.TabIs P W name .u32 zs)(hl:T≠[])(hz:zs=T.map fun x=>(x.toNat:Int)):U7 (· < W.heap.size) W g T:=by
 have hc:∀i x,T[i]? = some x→W.cell? ⟨g,i,none⟩=some (AC x):=by
  intro i x hx
  obtain⟨hi,rfl⟩:=List.getElem?_eq_some_iff.1 hx
  have:=h.cell hg i (by rw[hz];simpa using hi)
  rw[this,hz]
  simp[AC,List.getD_eq_getElem?_getD,hi]
 refine⟨?_,hc⟩
 obtain⟨x,r,rfl⟩:=List.exists_cons_of_ne_nil hl
 have h0:=hc 0 x rfl
 rcases Nat.lt_or_ge g W.heap.size with h | h
 exact h
 have:W.heap[g]? = none:=by simp[h]
 simp[World.cell?,this]at h0
end
theorem xa:ownKnob Tryz.prog.godebug=none:=zK
theorem mj:laidOutB Tryz.prog=true:=zK
theorem lQ:Tryz.prog.globalNamed "sphragis/sha.first" = some 1:=zK
theorem lP:Tryz.prog.globalNamed "sphragis/sha.constants" = some 3:=zK
theorem pV:(Tryz.prog.globals[1]?).map (·.type)=some 349:=zK
theorem pU:(Tryz.prog.globals[3]?).map (·.type)=some 376:=zK
theorem XY:Tryz.prog.cellsOf 36=1:=zK
theorem jE:Tryz.prog.cellsOf 349=8:=zK
theorem Zs:Tryz.prog.cellsOf 376=64:=zK
theorem qP{W:World}(h:laidMetH Tryz.prog [("sphragis/sha.first", Rows.laid_sphragis_sha_first),("sphragis/sha.constants", Rows.laid_sphragis_sha_constants)] W):Hq (· < W.heap.size) W Sq:=by
 have h0:laidMet Tryz.prog [("sphragis/sha.first", Lib.tabData .u32 d9),("sphragis/sha.constants", Lib.tabData .u32 Wl)] W:=h
 refine⟨?_,rfl,?_⟩
 exact fL lP (Lib.tabIs_of_head (rest:=[]) lP pU Tryz.underlying376 Tryz.underlying36 XY Zs (YL h0)) (by simp[Sq]) zK
 exact fL lQ (Lib.tabIs_of_head lQ pV Tryz.underlying349 Tryz.underlying36 XY jE h0) (by simp[FO,Oq.list]) zK
def pY(zs:List Int):Obj→Obj
 | .cells _ t frozen=>.cells (zs.map fun z=>Value.int .u32 z).toArray t frozen
 | o=>o
end

section
open Go Go.ChangeShapes Go.WideShapes Go.ChangeAt Go.RowKit Go.Deep Go.Lib Go.Joins
section
variable {G:Type}{enc:TypeId×Value→G}{P:Program}{W:World}
end
end

section
variable {P:Program}{ro:Option Nat}{K:Nat→Prop}{w0:World}{N:Nat}{Q:Eg}{D:List Nat}{l l':Tm}{H H' Hs L:List Ab}{ops:Array Oper}{items:I5}
variable {tk:Bool}{o:Oper}{t:Nat}{v:Value}{x y z:Operand}
def wI(x:Int):Int:=IntKind.i64.wrap x
theorem BV{x:Int}(h1 : -9223372036854775808≤x)(h2:x≤9223372036854775807):wI x=x:=Pk (k:=.i64) h1 h2
def A1{α:Type}(l:List α)(i:Int):Option α:=if 0≤i then l[i.toNat]? else none
def KK{α:Type}(l:List α)(i j:Int):Option (List α):=if 0≤i∧i≤j∧j≤l.length then some ((l.drop i.toNat).take (j.toNat-i.toNat))else none
def FX{α:Type}(l:List α)(i:Int)(a:α):Option (List α):=if 0≤i∧i<l.length then some (l.set i.toNat a)else none
def Fp(s t:List UInt8):Option (List UInt8):=if s.length+t.length≤9223372036854775807 then some (s++t)else none
def Eh{α:Type}(by_:Nat)(s t:List α):Option (List α):=if(s.length+t.length)*by_≤140737488355328∧s.length+t.length≤9223372036854775807 then some (s++t)else none
def Q6(i:Int):Option Nat:=if 0≤i then some i.toNat else none
def K0(a b:Int):Option Int:=if b=0 then none else some (wI (a.tdiv b))
def Va(a b:Int):Option Int:=if b=0 then none else some (a.tmod b)
def TF(a b:UInt64):Option UInt64:=if b=0 then none else some (a / b)
def Xm(a b:UInt64):Option UInt64:=if b=0 then none else some (a%b)
def E3(b:Bool)(c:Option Bool):Option Bool:=cond b c (some false)
def Yn(b:Bool)(c:Option Bool):Option Bool:=cond b (some true) c
def CH{α β:Type}(F:(α→Option β)→α→Option β):Nat→α→Option β
 | 0,_=>none
 | m+1,a=>F (CH F m) a
def ret{α β:Type}(e:α)(k:α→β):β:=k e
theorem Da{α β:Type}{a:Option α}{f:α→Option β}{r:β}(h:a.bind f=some r):∃x,a=some x∧f x=some r:=Option.bind_eq_some_iff.1 h
theorem BG{α β:Type}{e:α}{k:α→Option β}{r:β}(h:ret e k=some r):∃x,e=x∧k x=some r:=⟨e,rfl,h⟩
theorem cT{α:Type}{b:Bool}{x y:Option α}{r:α}(hb:b=true)(h:cond b x y=some r):x=some r:=by subst hb;exact h
theorem cF{α:Type}{b:Bool}{x y:Option α}{r:α}(hb:b=false)(h:cond b x y=some r):y=some r:=by subst hb;exact h
theorem GU{α:Type}{l:List α}{i:Int}{a:α}(h:A1 l i=some a):i=(i.toNat:Int)∧i.toNat<l.length∧l[i.toNat]? = some a:=by
 unfold A1 at h
 split at h
 rename_i h0
 obtain⟨hlt,_⟩:=List.getElem?_eq_some_iff.1 h
 exact⟨by omega,hlt,h⟩
 cases h
theorem PM{α:Type}{l u:List α}{i j:Int}(h:KK l i j=some u):i=(i.toNat:Int)∧j=(j.toNat:Int)∧i.toNat≤j.toNat∧j.toNat≤l.length∧u=(l.drop i.toNat).take (j.toNat-i.toNat):=by
 unfold KK at h
 split at h
 rename_i h0
 exact⟨by omega,by omega,by omega,by omega,(zI h).symm⟩
 cases h
abbrev G7(x:UInt8):List Value:=[Fo x]
abbrev AQ(x:UInt32):List Value:=[AC x]
abbrev eS(x:List UInt8):List Value:=[vS x]
abbrev eB(x:Bool):List Value:=[vB x]
theorem Aw{a b:Int}:Gy .add (vI a) (vI b) (vI (wI (a+b))):=fun P w ty x y=>⟨Bj ..,by simp[binOp,Op.intArith,wI]⟩
theorem BC{a b:Int}:Gy .sub (vI a) (vI b) (vI (wI (a-b))):=fun P w ty x y=>⟨Bj ..,by simp[binOp,Op.intArith,wI]⟩
theorem Ha{a b:Int}:Gy .mul (vI a) (vI b) (vI (wI (a*b))):=fun P w ty x y=>⟨Bj ..,by simp[binOp,Op.intArith,wI]⟩
theorem K6{a b c:Int}(h:K0 a b=some c):Gy .quo (vI a) (vI b) (vI c):=fun P w ty x y=>⟨Bj ..,by
 unfold K0 at h
 split at h
 cases h
 rename_i h0
 obtain rfl:=zI h
 simp[binOp,Op.intDiv,h0,wI]⟩
theorem Uo{a b c:Int}(h:Va a b=some c):Gy .rem (vI a) (vI b) (vI c):=fun P w ty x y=>⟨Bj ..,by
 unfold Va at h
 split at h
 cases h
 rename_i h0
 obtain rfl:=zI h
 simp[binOp,Op.intDiv,h0]⟩
theorem Tk{a:UInt32}{k:IntKind}{i:Int}{n:Nat}(h:Q6 i=some n):Gy .shl (AC a) (.int k i) (AC (Go.Proofs.YtpaohlmgfifebaaGreatDoor.shl32 a n)):=by
 unfold Q6 at h
 split at h
 obtain rfl:=zI h
 have:i=(i.toNat:Int):=zO
 rw[this]
 exact Gy.shl32
 cases h
theorem X7{a:UInt32}{k:IntKind}{i:Int}{n:Nat}(h:Q6 i=some n):Gy .shr (AC a) (.int k i) (AC (Go.Proofs.YtpaohlmgfifebaaGreatDoor.shr32 a n)):=by
 unfold Q6 at h
 split at h
 obtain rfl:=zI h
 have:i=(i.toNat:Int):=zO
 rw[this]
 exact Gy.shr32
 cases h
theorem fb{a:UInt64}{k:IntKind}{i:Int}{n:Nat}(h:Q6 i=some n):Gy .shr (Bh a) (.int k i) (Bh (Go.Proofs.YtpaohlmgfifebaaGreatDoor.shr64 a n)):=by
 unfold Q6 at h
 split at h
 obtain rfl:=zI h
 have:i=(i.toNat:Int):=zO
 rw[this]
 exact Gy.shr64
 cases h
theorem X6{a:UInt64}{k:IntKind}{i:Int}{n:Nat}(h:Q6 i=some n):Gy .shl (Bh a) (.int k i) (Bh (Go.Proofs.YtpaohlmgfifebaaGreatDoor.shl64 a n)):=by
 unfold Q6 at h
 split at h
 obtain rfl:=zI h
 have:i=(i.toNat:Int):=zO
 rw[this]
 exact Gy.shl64
 cases h
theorem RD{a b c:UInt64}(h:TF a b=some c):Gy .quo (Bh a) (Bh b) (Bh c):=fun P w ty x y=>⟨Bj ..,by
 unfold TF at h
 split at h
 cases h
 rename_i hb
 obtain rfl:=zI h
 have h0:((b.toNat:Int))≠0:=by
  intro h
  have:b.toNat=0:=zO
  exact hb (UInt64.toNat_inj.1 this)
 have h1:IntKind.u64.wrap (Int.tdiv (a.toNat:Int) (b.toNat:Int))=((a / b).toNat:Int):=by
  rw[N9,Int.tdiv_eq_ediv_of_nonneg zO,UInt64.toNat_div]
  have h2:a.toNat / b.toNat≤a.toNat:=Nat.div_le_self _ _
  have:=a.toNat_lt
  rw[show((a.toNat:Int) / (b.toNat:Int))=((a.toNat / b.toNat:Nat):Int)from rfl]
  generalize a.toNat / b.toNat=q at h2 ⊢
  omega
 simp only[binOp,Op.intDiv,ne_eq,not_true_eq_false,if_false,h0,h1,Sem.run_pure]⟩
theorem RE{a b c:UInt64}(h:Xm a b=some c):Gy .rem (Bh a) (Bh b) (Bh c):=by
 unfold Xm at h
 split at h
 cases h
 rename_i hb
 obtain rfl:=zI h
 exact iX hb
theorem C3{s t u:List UInt8}(h:Fp s t=some u):Gy .add (vS s) (vS t) (vS u):=by
 unfold Fp at h
 split at h
 rename_i hl
 obtain rfl:=zI h
 exact G6 hl
 cases h
theorem MG{s:List UInt8}{ty:TypeId}{k:IntKind}{i:Int}{c:UInt8}(hn:A1 s i=some c)(ho:At ops N l o t (.index ty x y))(hty:P.underlying ty=some .string)(hx:B4 l x=some (vS s))(hy:B4 l y=some (.int k i))
(h:SL P ro K w0 N ops Hs items Q D ((t,Fo c)::l) H):SL P ro K w0 N ops Hs (.cons (tk,o) items) Q D l H:=by
 obtain⟨h1,h2,h3⟩:=GU hn
 refine MH i.toNat ho hty hx hy h1 h2 ?_
 have:s.getD i.toNat 0=c:=by simp[List.getD_eq_getElem?_getD,h3]
 rw[this]
 exact h
theorem rL{s u:List UInt8}{ty:TypeId}{k k':IntKind}{i j:Int}(hn:KK s i j=some u)(ho:At ops N l o t (.slice ty x (some y) (some z) none))(hty:P.underlying ty=some .string)(hx:B4 l x=some (vS s))(hy:B4 l y=some (.int k i))(hz:B4 l z=some (.int k' j))
(h:SL P ro K w0 N ops Hs items Q D ((t,vS u)::l) H):SL P ro K w0 N ops Hs (.cons (tk,o) items) Q D l H:=by
 obtain⟨h1,h2,h3,h4,rfl⟩:=PM hn
 exact kM i.toNat j.toNat ho hty hx hy hz h1 h2 h3 h4 h
theorem n8{s u:List UInt8}{ty:TypeId}{k:IntKind}{i:Int}(hn:KK s i (s.length:Int)=some u)(ho:At ops N l o t (.slice ty x (some y) none none))(hty:P.underlying ty=some .string)(hx:B4 l x=some (vS s))(hy:B4 l y=some (.int k i))
(h:SL P ro K w0 N ops Hs items Q D ((t,vS u)::l) H):SL P ro K w0 N ops Hs (.cons (tk,o) items) Q D l H:=by
 obtain⟨h1,h2,h3,h4,rfl⟩:=PM hn
 refine QX i.toNat ho hty hx hy h1 zO ?_
 rw[List.take_of_length_le zS]at h
 exact h
theorem n7{s u:List UInt8}{ty:TypeId}{k:IntKind}{j:Int}(hn:KK s 0 j=some u)(ho:At ops N l o t (.slice ty x none (some z) none))(hty:P.underlying ty=some .string)(hx:B4 l x=some (vS s))(hz:B4 l z=some (.int k j))
(h:SL P ro K w0 N ops Hs items Q D ((t,vS u)::l) H):SL P ro K w0 N ops Hs (.cons (tk,o) items) Q D l H:=by
 obtain⟨h1,h2,h3,h4,rfl⟩:=PM hn
 exact Tt j.toNat ho hty hx hz h2 h4 (by simpa using h)
theorem EL{α:Type}{enc:α→List Value}{sz:Nat}{xs:List α}{k:IntKind}{i:Int}{ty e:TypeId}{x0:α}(hn:A1 xs i=some x0)(hk:CR K w0 enc sz v xs)(ho:At ops N l o t (.indexAddr ty x y))(hty:P.underlying ty=some (.slice e))(hsz:Ee P e=some sz)(hx:B4 l x=some v)(hy:B4 l y=some (.int k i))
(h:∀b off,(∀L w,H5 K w0 L w→∀j u,(enc x0)[j]? = some u→w.cell? ⟨b,off+j,none⟩=some u)→SL P ro K w0 N ops Hs items Q D ((t,vP b off)::l) H):SL P ro K w0 N ops Hs (.cons (tk,o) items) Q D l H:=by
 obtain⟨h1,h2,h3⟩:=GU hn
 exact Sc i.toNat x0 hk ho hty hsz hx hy h1 h3 h
theorem E1{b off j:Nat}{u:Value}{cs:List Value}(hc:∀L w,H5 K w0 L w→∀j u,cs[j]? = some u→w.cell? ⟨b,off+j,none⟩=some u)(hj:cs[j]? = some u):∀w,H5 K w0 L w→w.cell? ⟨b,off+j,none⟩=some u:=fun w hw=>hc L w hw j u hj
theorem Ek{b off:Nat}{cs:List Value}(hc:∀L w,H5 K w0 L w→∀j u,cs[j]? = some u→w.cell? ⟨b,off+j,none⟩=some u):∀w,H5 K w0 L w→∀j u,cs[j]? = some u→w.cell? (Addr.add ⟨b,off,none⟩ j)=some u:=
 fun w hw j u hu=>by rw[Dd];exact hc L w hw j u hu
def AD{α:Type}(e:TypeId)(sz:Nat)(v:Value)(enc:α→List Value)(xs:List α):Ab:=
 ⟨fun b=>v.ownBlock=some b,fun w=>w.ownsRow 0 e sz v xs.length (xs.flatMap enc),fun w w' h hw=>by
  refine⟨hw.1,?_⟩
  rcases hw.2 with hn | ⟨g,cap,cur,rfl,hb,hgg,rest⟩
  exact .inl hn
  exact .inr ⟨g,cap,cur,rfl,hb,by rw[h g rfl];exact hgg,rest⟩⟩
section rows
variable {α:Type}{enc:α→List Value}{sz:Nat}{xs us:List α}{e ty:TypeId}
theorem Kd(hl:∀x,(enc x).length=sz):∀ys:List α,(ys.flatMap enc).length=ys.length*sz
 | []=>by simp
 | y::ys=>by rw[List.flatMap_cons,List.length_append,Kd hl ys,hl,List.length_cons,Nat.add_mul,Nat.one_mul,Nat.add_comm]
theorem Br.nilT{w:World}(e:TypeId)(sz:Nat)(enc:α→List Value)(h:Br K w0 H w):Br K w0 (AD e sz zN enc []::H) w:=by
 refine h.cons (n:=w.heap.size) (Nat.le_refl _) (fun d hd b hb=>(h.foot d hd b hb).1) h.kltw (World.ownsRow_nil ..) ?_
 intro b hb
 simp[AD,Value.ownBlock]at hb
theorem Ci(e:TypeId)(sz:Nat)(enc:α→List Value)(h:SL P ro K w0 N ops Hs items Q D l (AD e sz zN enc []::H)):SL P ro K w0 N ops Hs items Q D l H:=
 fun a w ha hw hs=>h a w ha (hw.nilT e sz enc) hs
theorem iA{w:World}{g n cap i j:Nat}{c:α}{u:Value}(hl:∀x,(enc x).length=sz)(h:(AD e sz v enc xs).holds w)(hv:v=.slice (some ⟨g,0,none⟩) n cap)(hi:xs[i]? = some c)(hj:(enc c)[j]? = some u):w.cell? ⟨g,i*sz+j,none⟩=some u:=by
 have hrow:w.ownsRow 0 e sz v xs.length (xs.flatMap enc):=h
 have hF:=World.ownsRowF_of hrow
 have:=hF.cells (g:=g) (by rw[hv];rfl) (i*sz+j) u (Sw hl xs i c j u hi hj)
 rw[Dd]at this
 simpa using this
theorem AS{g n cap:Nat}{c:α}{i:Int}{u:Value}(k j:Nat)(hl:∀x,(enc x).length=sz)(hk:L[k]? = some (AD e sz v enc xs))(hv:v=.slice (some ⟨g,0,none⟩) n cap)(hi:A1 xs i=some c)(hj:(enc c)[j]? = some u):∀w,H5 K w0 L w→w.cell? ⟨g,i.toNat*sz+j,none⟩=some u:=
 fun _w hw=>iA hl (hw.holds _ (List.mem_of_getElem? hk)) hv (GU hi).2.2 hj
theorem N4{g n cap:Nat}{c:α}{i:Int}(k:Nat)(hl:∀x,(enc x).length=sz)(hk:L[k]? = some (AD e sz v enc xs))(hv:v=.slice (some ⟨g,0,none⟩) n cap)(hi:A1 xs i=some c):∀w,H5 K w0 L w→∀j u,(enc c)[j]? = some u→w.cell? (Addr.add ⟨g,i.toNat*sz,none⟩ j)=some u:=
 fun w hw j u hu=>by rw[Dd];exact AS k j hl hk hv hi hu w hw
theorem FJ(k:Nat)(ho:At ops N l o t (.call { callee:=.builtin .len,args:=#[x],argTypes:=#[ty] }))(hty:P.underlying ty=some (.slice e))(hx:B4 l x=some v)
{e':TypeId}(hk:(bif tk then Hs else H)[k]? = some (AD e' sz v enc xs))(h:SL P ro K w0 N ops Hs items Q D ((t,vI xs.length)::l) H):SL P ro K w0 N ops Hs (.cons (tk,o) items) Q D l H:=
 SL.val ho rfl (fun a w ha hsw=>by
  have hrow:w.ownsRow 0 e' sz v xs.length (xs.flatMap enc):=hsw.holds _ (List.mem_of_getElem? hk)
  simp only[execOp,ho.op,resolve,invoke,builtin,Builtin.len_]
  rcases hrow.2 with⟨rfl,hn⟩ | ⟨g,cap,cur,rfl,_⟩
  simp[ha.eval hx,A8 hty,goInt,hn]
  simp[ha.eval hx,A8 hty,goInt]) h
theorem AZ(k:Nat){kk:IntKind}{i:Int}{c:α}(hn:A1 xs i=some c)(ho:At ops N l o t (.indexAddr ty x y))(hty:P.underlying ty=some (.slice e))(hsz:Ee P e=some sz)(hx:B4 l x=some v)(hy:B4 l y=some (.int kk i))
(hk:H[k]? = some (AD e sz v enc xs))
(h:∀g m cap,v=.slice (some ⟨g,0,none⟩) m cap→SL P ro K w0 N ops Hs items Q D ((t,vP g (i.toNat*sz))::l) H):SL P ro K w0 N ops Hs (.cons (tk,o) items) Q D l H:=by
 intro a w ha hw hs
 have hrow:w.ownsRow 0 e sz v xs.length (xs.flatMap enc):=hw.holds _ (List.mem_append_left _ (List.mem_of_getElem? hk))
 obtain⟨h1,h2,h3⟩:=GU hn
 rcases hrow.2 with⟨_,h0⟩ | ⟨g,cap,cur,hv,_⟩
 omega
 exact(ig (n:=i.toNat) ho hty hsz (hx.trans (by rw[hv])) hy h1 h2 (by simpa using h g xs.length cap hv)) a w ha hw hs
theorem Wt(hl:∀x,(enc x).length=sz):∀(xs:List α) (i:Nat) (a:α),i<xs.length→(xs.set i a).flatMap enc=(xs.flatMap enc).take (i*sz)++enc a++(xs.flatMap enc).drop (i*sz+sz)
 | [],i,a,h=>by simp at h
 | b::r,0,a,_=>by
  have hb:=hl b
  simp only[List.set_cons_zero,List.flatMap_cons,Nat.zero_mul,List.take_zero,List.nil_append,Nat.zero_add]
  rw[List.drop_append_of_le_length zO,List.drop_of_length_le zO,List.nil_append]
 | b::r,i+1,a,h=>by
  have hb:=hl b
  have ih:=Wt hl r i a (by simpa using h)
  simp only[List.set_cons_succ,List.flatMap_cons]
  rw[ih]
  have e1:(i+1)*sz=(enc b).length+i*sz:=by rw[hb,Nat.add_mul];omega
  have e2:(i+1)*sz+sz=(enc b).length+(i*sz+sz):=by rw[hb,Nat.add_mul];omega
  rw[e2,e1,List.take_length_add_append,List.drop_length_add_append]
  simp
theorem BB(k:Nat){g m cap:Nat}{i:Int}{u:Value}{a:α}(hn:FX xs i a=some us)(hl:∀x,(enc x).length=sz)(ho:At0 ops l o (.store ty x y))(hx:B4 l x=some (vP g (i.toNat*sz)))(hy:B4 l y=some u)(hu:u.cells.toList=enc a)(hk:H[k]? = some (AD e sz v enc xs))(hv:v=.slice (some ⟨g,0,none⟩) m cap)
(hsz:Ee P ty=some sz)(h1:∀c∈enc a,c.oneCell'=true)(hs:Fy Hs (H.set k (AD e sz v enc us)))(h:SL P ro K w0 N ops Hs items Q D l (H.set k (AD e sz v enc us))):SL P ro K w0 N ops Hs (.cons (false,o) items) Q D l H:=by
 unfold FX at hn
 split at hn
 rename_i hi
 obtain rfl:=zI hn
 refine XR ho E (fun a' w ha hw=>?_) hs h
 have hrow:w.ownsRow 0 e sz v xs.length (xs.flatMap enc):=hw.holds _ (List.mem_append_left _ (List.mem_of_getElem? hk))
 have hlt:i.toNat<xs.length:=zO
 rcases hrow.2 with⟨hv',h0⟩ | ⟨g',cap',cur,hv',hb,hg,hnc,hcm,hcs,htk⟩
 rw[hv']at hv;cases hv
 obtain⟨rfl,rfl,rfl⟩:g'=g∧xs.length=m∧cap'=cap:=by rw[hv']at hv;simpa using hv
 have hucz:u.cells.size=sz:=by rw[←Array.length_toList,hu,hl]
 have hle:i.toNat*sz+sz≤xs.length*sz:=by
  have:=Nat.mul_le_mul_right sz (show i.toNat+1≤xs.length by omega)
  rw[Nat.add_mul,Nat.one_mul]at this
  exact this
 have hle2:xs.length*sz≤cap'*sz:=Nat.mul_le_mul_right _ hnc
 obtain⟨w',hrun,hw'⟩:=Ni (P:=P) u.cells.toList (i.toNat*sz) 0 cur w hg (by rw[Array.length_toList,hucz];omega) (by rw[hu];exact h1)
 refine⟨w',?_,?_⟩
 simp[execOp,ho.op,Instr.storeAt,Instr.sureAddr,ha.eval hx,ha.eval hy,storeVar,Dc hsz,hucz]
 rw[hrun]
 rfl
 rw[hw']
 obtain⟨hlt2,_⟩:=Array.getElem?_eq_some_iff.1 hg
 refine hw.turnAt (c:=AD e sz v enc xs) k hk rfl rfl rfl zS (fun b hb hne=>World.putObj_heap_other (fun e=>hne (by subst e;rw[hv'];rfl))) ⟨Kd hl _,.inr ⟨g',cap',_,by rw[hv',List.length_set],Nat.zero_le _,World.putObj_heap_same hlt2,by simpa using hnc,hcm,by rw[WE,hcs],?_⟩⟩ (fun b hb=>⟨.inl hb,?_⟩)
 have hcl:(enc a).length=sz:=hl a
 rw[Mi _ _ _ (by rw[hu,hcl];omega),Wt hl xs i.toNat a hlt,hu,hcl,←htk,List.length_set,Nat.add_zero]
 have e1:(cur.toList.take (i.toNat*sz)).length=i.toNat*sz:=by simp;omega
 rw[List.take_take,Nat.min_eq_left zO]
 have e2:(cur.toList.take (i.toNat*sz)++enc a).length=i.toNat*sz+sz:=by rw[List.length_append,e1,hcl]
 rw[List.take_append,e2,List.take_of_length_le zO]
 congr 1
 rw[List.drop_take]
 have:b=g':=by
  have hb':v.ownBlock=some b:=hb
  rw[hv']at hb'
  simpa[Value.ownBlock]using hb'.symm
 subst this
 simpa using hlt2
 cases hn
theorem EF{by_ m c:Nat}{zv:Value}{new:List α}{ad:Addr}(k:Nat)(hn:Eh by_ xs new=some us)(hl:∀x,(enc x).length=sz)(ho:At ops N l o t (.call { callee:=.builtin .append,args:=#[x,y],argTypes:=#[ty,ty] }))
(hty:P.underlying ty=some (.slice e))(hsz:Ee P e=some sz)(hby:RB P e=some by_)(hze:Fk P e=some zv)(hzs:zv.cells.size=sz)(hsz0:0<sz)
(hx:B4 l x=some v)(hy:B4 l y=some (.slice (some ad) m c))(hm:m=new.length)(hk:H[k]? = some (AD e sz v enc xs))
(hnews:∀w,H5 K w0 H w→∀j u,(new.flatMap enc)[j]? = some u→w.cell? (ad.add j)=some u)(h1:∀a,∀u∈enc a,u.oneCell'=true)
(hs:∀v',Fy Hs (H.set k (AD e sz v' enc us)))
(h:∀v',SL P ro K w0 N ops Hs items Q D ((t,v')::l) (H.set k (AD e sz v' enc us))):SL P ro K w0 N ops Hs (.cons (false,o) items) Q D l H:=by
 unfold Eh at hn
 split at hn
 rename_i hb
 obtain rfl:=zI hn
 subst hm
 have hfl:=Kd hl
 refine IR (fun v'=>v') (fun v'=>H.set k (AD e sz v' enc (xs++new))) ho E (fun a w ha hw=>?_) hs h
 obtain⟨ii,hii,e1,e2,e3⟩:=Qw hsz hby hze
 have hrow:w.ownsRow 0 e sz v xs.length (xs.flatMap enc):=hw.holds _ (List.mem_append_left _ (List.mem_of_getElem? hk))
 obtain⟨v',w',hr,hr2,hr3,_,hr4⟩:=run_append_own_at (P:=P) w 0 ty o.type e ii zv sz by_ hty hii e3 e1 e2 hzs hsz0 v xs.length _ hrow ad new.length c (new.flatMap enc) (hfl new) (hnews w hw.dropMarks.s) (fun u hu=>by
  obtain⟨a,_,ha⟩:=List.mem_flatMap.1 hu
  exact h1 a u ha) (by simp only[maxLen];omega) hb.1 (Nat.zero_le _)
 refine⟨v',w',?_,hw.turnAt (c:=AD e sz v enc xs) k hk hr3.os hr3.tape hr3.output hr3.size (fun b hb hne=>hr3.block b hb (fun e=>hne e.symm)) (show w'.ownsRow 0 e sz v' (xs++new).length ((xs++new).flatMap enc) by rw[List.flatMap_append,List.length_append];exact hr2) ?_⟩
 unfold execOp
 simp only[ho.op,resolve,invoke,builtin,Sem.run_bind,Sem.run_pure,Result.andThen_ok,List.map_toArray,List.map_cons,List.map_nil,ha.eval hx,ha.eval hy,hr]
 intro b hb
 refine⟨?_,(hr2.lt b hb).2⟩
 have hb':v'.ownBlock=some b:=hb
 rcases hr4 with h4 | h4
 exact .inl (by rw[h4]at hb';exact hb')
 rw[h4]at hb'
 right
 simp at hb'
 omega
 cases hn
theorem Br.ownT{w:World}{b:Nat}{c:Array Value}(xs:List α)(h:Br K w0 (own b (.cells c e)::H) w)(hc:c.toList=xs.flatMap enc)(hl:∀x,(enc x).length=sz)(hm:xs.length≤9223372036854775807):Br K w0 (AD e sz (.slice (some ⟨b,0,none⟩) xs.length xs.length) enc xs::H) w:=by
 have hfl:=Kd hl
 have hcs:c.size=xs.length*sz:=by rw[←Array.length_toList,hc,hfl]
 refine h.turn rfl rfl rfl (Nat.le_refl _) (fun _ _ _=>rfl) ⟨hfl xs,.inr ⟨b,xs.length,c,rfl,Nat.zero_le _,h.holds _ (List.mem_cons_self ..),Nat.le_refl _,by simp only[maxLen];omega,hcs,by rw[hc,←hfl];exact List.take_length⟩⟩ (fun k hk=>?_)
 have hkb:k=b:=by simp[AD,Value.ownBlock]at hk;exact hk.symm
 subst hkb
 exact⟨.inl rfl,(h.foot _ (List.mem_cons_self ..) k rfl).1⟩
theorem Cp{b:Nat}{c:Array Value}(enc:α→List Value)(sz:Nat)(xs:List α)(hc:c.toList=xs.flatMap enc)(hl:∀x,(enc x).length=sz)(hm:Nat.ble xs.length 1000000=true)
(h:SL P ro K w0 N ops Hs items Q D l (AD e sz (.slice (some ⟨b,0,none⟩) xs.length xs.length) enc xs::H)):SL P ro K w0 N ops Hs items Q D l (own b (.cells c e)::H):=
 fun a w ha hw hs=>h a w ha (hw.ownT xs hc hl (by have:=Nat.le_of_ble_eq_true hm;omega)) hs
theorem kK{by_ n:Nat}{zv:Value}{k k':IntKind}(enc:α→List Value)(ho:At ops N l o t (.makeSlice ty x y))(hty:P.underlying ty=some (.slice e))(hsz:Ee P e=some sz)(hby:RB P e=some by_)(hze:Fk P e=some zv)(_hzs:zv.cells.size=sz)
(hx:B4 l x=some (.int k 0))(hy:B4 l y=some (.int k' (n:Int)))(hb:Nat.ble (by_*n) 281474976710656=true)(h63:Nat.ble n 9223372036854775807=true)
(hs:∀v',Fy Hs (AD e sz v' enc []::H))(h:∀v',SL P ro K w0 N ops Hs items Q D ((t,v')::l) (AD e sz v' enc []::H)):SL P ro K w0 N ops Hs (.cons (false,o) items) Q D l H:=
 IR (fun b=>.slice (some ⟨b,0,none⟩) 0 n) (fun b=>AD e sz (.slice (some ⟨b,0,none⟩) 0 n) enc []::H) ho rfl (fun a w ha hw=>by
  obtain⟨ii,hii,e1,e2,e3⟩:=Qw hsz hby hze
  have hbn:=Nat.le_of_ble_eq_true hb
  have h63n:=Nat.le_of_ble_eq_true h63
  have hb':(ii.bytes:Int)*(n:Int)≤281474976710656:=by rw[e2,←Int.natCast_mul];omega
  have hr:=run_make (P:=P) w ty e ii zv hty hii e3 k k' 0 n zO zO hb' zO
  rw[e1]at hr
  simp only[Int.toNat_natCast]at hr
  refine⟨w.heap.size,w.alloc (.cells (madeCells zv.cells (n*sz)) e),?_,?_⟩
  unfold execOp
  simp only[ho.op,ha.eval hx,ha.eval hy,Sem.run_bind,hr,Result.andThen_ok,Sem.run_pure]
  rfl
  have h2:=hw.alloc (.cells (madeCells zv.cells (n*sz)) e)
  refine h2.turn rfl rfl rfl (Nat.le_refl _) (fun _ _ _=>rfl) ⟨by simp,.inr ⟨w.heap.size,n,_,rfl,Nat.zero_le _,h2.holds _ (List.mem_cons_self ..),Nat.zero_le _,by simp only[maxLen];omega,?_,by simp⟩⟩ (fun k hk=>?_)
  simp[madeCells]
  have hkb:k=w.heap.size:=by simp[AD,Value.ownBlock]at hk;exact hk.symm
  subst hkb
  exact⟨.inl rfl,(h2.foot _ (List.mem_cons_self ..) _ rfl).1⟩) (fun b=>hs _) (fun b=>h _)
theorem C1{K':Nat→Prop}{w1:World}(hl:∀x,(enc x).length=sz)(h:(AD e sz v enc xs).holds w1∧∀k,(AD e sz v enc xs).foot k→K' k):CR K' w1 enc sz v xs:=by
 have hrow:w1.ownsRow 0 e sz v xs.length (xs.flatMap enc):=h.1
 refine⟨hl,?_⟩
 rcases hrow.2 with⟨rfl,h0⟩ | ⟨g,cap,cur,rfl,_,hg,hc,_⟩
 exact .inl ⟨_,rfl,List.length_eq_zero_iff.1 h0⟩
 refine .inr ⟨g,0,cap,rfl,hc,fun j u hu=>⟨h.2 g rfl,?_⟩⟩
 have:=(World.ownsRowF_of hrow).cells (g:=g) rfl j u hu
 rw[Dd]at this
 exact this
theorem xY:∀s:List UInt8,s.flatMap G7=s.map fun b=>Fo b
 | []=>rfl
 | b::r=>by rw[List.flatMap_cons,xY r];rfl
theorem IQ{src dst:TypeId}{s:List UInt8}(k:Nat)(ho:At ops N l o t (.convert src dst x))(hs:P.underlying src=some (.slice e))(he:P.underlying e=some (.int .u8))(hd:P.underlying dst=some .string)(hx:B4 l x=some v)
(hk:(bif tk then Hs else H)[k]? = some (AD e 1 v G7 s))
(h:SL P ro K w0 N ops Hs items Q D ((t,vS s)::l) H):SL P ro K w0 N ops Hs (.cons (tk,o) items) Q D l H:=
 SL.val ho rfl (fun a w ha hsw=>by
  have hrow:w.ownsRow 0 e 1 v s.length (s.flatMap G7):=hsw.holds _ (List.mem_of_getElem? hk)
  rw[xY]at hrow
  rcases hrow.2 with⟨rfl,h0⟩ | ⟨g,cap,cur,rfl,_⟩
  have:s=[]:=List.length_eq_zero_iff.1 h0
  subst this
  have h0:(convert src dst (.slice none 0 0)).run P w=.ok (vS []) w:=by
   rw[run_convert_bytes_string w src dst e none 0 0 hs he hd]
   simp[Conv.bytesToString]
   rfl
  simp[execOp,ho.op,ha.eval hx,h0]
  simp[execOp,ho.op,ha.eval hx,ae hs he hd rfl ((World.ownsRowF_of hrow).cells rfl)]) h
theorem Ct{b n cap:Nat}(k:Nat)(_hl:∀x,(enc x).length=sz)(hk:L[k]? = some (AD e sz (.slice (some ⟨b,0,none⟩) n cap) enc xs)):∀w,H5 K w0 L w→∀j u,(xs.flatMap enc)[j]? = some u→w.cell? (Addr.add ⟨b,0,none⟩ j)=some u:=by
 intro w hw j u hu
 have hrow:w.ownsRow 0 e sz (.slice (some ⟨b,0,none⟩) n cap) xs.length (xs.flatMap enc):=hw.holds _ (List.mem_of_getElem? hk)
 exact(World.ownsRowF_of hrow).cells (g:=b) rfl j u hu
theorem VC{w:World}(t ty e:TypeId)(i:TypeInfo)(ht:P.underlying t=some (.slice e))(hi:P.info? e=some i)
(v:Value)(n:Nat)(xs:List Value)(hown:w.ownsRow 0 e sz v n xs):(Builtin.append_ #[t,t] ty #[v,zN]).run P w=.ok v w:=by
 rcases hown.2 with⟨rfl,rfl⟩ | ⟨g,cap,cur,rfl,_,_,hnc,_⟩
 simp[Builtin.append_,A8 ht,sizeOf,typeInfo,hi,Builtin.lenOf,Builtin.firstCells]
 simp[Builtin.append_,A8 ht,sizeOf,typeInfo,hi,Builtin.lenOf,Builtin.firstCells,hnc,storeCells]
theorem fi{by_:Nat}{zv:Value}(k:Nat)(ho:At ops N l o t (.call { callee:=.builtin .append,args:=#[x,y],argTypes:=#[ty,ty] }))
(hty:P.underlying ty=some (.slice e))(hsz:Ee P e=some sz)(hby:RB P e=some by_)(hze:Fk P e=some zv)
(hx:B4 l x=some v)(hy:B4 l y=some zN)(hk:H[k]? = some (AD e sz v enc xs))(hs:Fy Hs H)
(h:SL P ro K w0 N ops Hs items Q D ((t,v)::l) H):SL P ro K w0 N ops Hs (.cons (false,o) items) Q D l H:=
 IR (fun _:Unit=>v) (fun _=>H) ho rfl (fun a w ha hw=>by
  obtain⟨ii,hii,e1,e2,e3⟩:=Qw hsz hby hze
  have hrow:w.ownsRow 0 e sz v xs.length (xs.flatMap enc):=hw.holds _ (List.mem_append_left _ (List.mem_of_getElem? hk))
  have hr:=VC (P:=P) ty o.type e ii hty hii v xs.length _ hrow
  refine⟨(),w,?_,hw⟩
  unfold execOp
  simp only[ho.op,resolve,invoke,builtin,Sem.run_bind,Sem.run_pure,Result.andThen_ok,List.map_toArray,List.map_cons,List.map_nil,ha.eval hx,ha.eval hy,hr]) (fun _=>hs) (fun _=>h)
theorem cX{c:Ab}{k:Nat}(hk:H[k]? = some c):H.set k c=H:=by
 obtain⟨hl,hg⟩:=List.getElem?_eq_some_iff.1 hk
 rw[←hg];exact List.set_getElem_self hl
theorem bg{by_:Nat}(hn:Eh by_ xs []=some us):us=xs:=by
 unfold Eh at hn
 split at hn
 simpa using hn.symm
 cases hn
theorem Tp{by_:Nat}{zv u:Value}{new:List α}(k:Nat)(hn:Eh by_ xs new=some us)(hu:CR K w0 enc sz u new)(hl:∀x,(enc x).length=sz)(ho:At ops N l o t (.call { callee:=.builtin .append,args:=#[x,y],argTypes:=#[ty,ty] }))
(hty:P.underlying ty=some (.slice e))(hsz:Ee P e=some sz)(hby:RB P e=some by_)(hze:Fk P e=some zv)(hzs:zv.cells.size=sz)(hsz0:0<sz)
(hx:B4 l x=some v)(hy:B4 l y=some u)(hk:H[k]? = some (AD e sz v enc xs))(h1:∀a,∀u∈enc a,u.oneCell'=true)
(hs:∀v',Fy Hs (H.set k (AD e sz v' enc us)))
(h:∀v',SL P ro K w0 N ops Hs items Q D ((t,v')::l) (H.set k (AD e sz v' enc us))):SL P ro K w0 N ops Hs (.cons (false,o) items) Q D l H:=by
 rcases hu.at_ with⟨a0,rfl,rfl⟩ | ⟨b,off,cap,rfl,_,hc⟩
 cases a0 with
 | some ad=>exact EF k hn hl ho hty hsz hby hze hzs hsz0 hx hy rfl hk (fun w hw j u hj=>by simp at hj) h1 hs h
 | none=>
  obtain rfl:=bg hn
  have h2:=hs v
  have h3:=h v
  rw[cX hk]at h2 h3
  exact fi k ho hty hsz hby hze hx hy hk h2 h3
 refine EF k hn hl ho hty hsz hby hze hzs hsz0 hx hy E hk (fun w hw j u hj=>?_) h1 hs h
 obtain⟨hb,hcell⟩:=hc j u hj
 rw[Dd]
 exact Qi (L:=H) hb hcell w hw
theorem nm{by_:Nat}{zv u:Value}{new:List α}(k k2:Nat)(hn:Eh by_ xs new=some us)(hl:∀x,(enc x).length=sz)(ho:At ops N l o t (.call { callee:=.builtin .append,args:=#[x,y],argTypes:=#[ty,ty] }))
(hty:P.underlying ty=some (.slice e))(hsz:Ee P e=some sz)(hby:RB P e=some by_)(hze:Fk P e=some zv)(hzs:zv.cells.size=sz)(hsz0:0<sz)
(hx:B4 l x=some v)(hy:B4 l y=some u)(hk:H[k]? = some (AD e sz v enc xs))(hk2:H[k2]? = some (AD e sz u enc new))(h1:∀a,∀u∈enc a,u.oneCell'=true)
(hs:∀v',Fy Hs (H.set k (AD e sz v' enc us)))
(h:∀v',SL P ro K w0 N ops Hs items Q D ((t,v')::l) (H.set k (AD e sz v' enc us))):SL P ro K w0 N ops Hs (.cons (false,o) items) Q D l H:=by
 intro a w ha hw hs0
 have hrow:w.ownsRow 0 e sz u new.length (new.flatMap enc):=hw.holds _ (List.mem_append_left _ (List.mem_of_getElem? hk2))
 rcases hrow.2 with⟨rfl,h0⟩ | ⟨g,cap,cur,rfl,_⟩
 have:new=[]:=List.length_eq_zero_iff.1 h0
 subst this
 obtain rfl:=bg hn
 have h2:=hs v
 have h3:=h v
 rw[cX hk]at h2 h3
 exact fi k ho hty hsz hby hze hx hy hk h2 h3 a w ha hw hs0
 exact EF k hn hl ho hty hsz hby hze hzs hsz0 hx hy E hk (Ct k2 hl hk2) h1 hs h a w ha hw hs0
theorem CR.nil(hl:∀x,(enc x).length=sz):CR K w0 enc sz zN []:=⟨hl,.inl ⟨_,rfl,rfl⟩⟩
end rows
theorem AX{u:Value}(ho:At ops N l o t (.assign x))(hx:B4 l x=some v)(hu:v=u)(h:SL P ro K w0 N ops Hs items Q D ((t,u)::l) H):SL P ro K w0 N ops Hs (.cons (tk,o) items) Q D l H:=
 kH ho (by rw[hx,hu]) h
theorem ZL{c:Code}(l':Tm)(H':List Ab)(h:SX P ro K w0 N c Q D l' H')(e1:TP l' l)(e2:H=H':=by rfl):SX P ro K w0 N c Q D l H:=by
 subst e2;exact h.mono e1
def midD{α:Type}(K:Nat→Prop)(w0:World)(N:Nat)(p:α→Prop)(I:α→Tm)(G:α→List Ab)(Q:Eg):Eg
 | .normal,a,w=>∃x D,p x∧N2 N D (I x) a∧Br K w0 (G x++[Bp D]) w
 | e,a,w=>Q e a w
theorem Az{α:Type}(p:α→Prop)(I:α→Tm)(G:α→List Ab){c y:Code}(h:SX P ro K w0 N c (midD K w0 N p I G Q) D l H)(h2:∀x D,p x→SX P ro K w0 N y Q D (I x) (G x)):SX P ro K w0 N (.seq c y) Q D l H:=by
 intro a w ha hw
 refine wpIn_seq (wpIn_mono (h a w ha hw) ?_)
 intro e a w q
 cases e with
 | normal=>
  obtain⟨x,D',hx,ha,hw⟩:=q
  exact h2 x D' hx a w ha hw
 | _=>exact q
theorem Ak{α:Type}{p:α→Prop}{I:α→Tm}{G:α→List Ab}(x:α)(hp:p x)(hl:TP (I x) l)(hH:∀w,Br K w0 (H++[Bp D]) w→Br K w0 (G x++[Bp D]) w):
  SQ K w0 N (Go.Proofs.YtpaohlmgfifebaaGreatDoor.midD K w0 N p I G Q) .normal D l H:=fun _a w ha hw=>⟨x,D,hp,ha.mono hl,hH w hw⟩
theorem mK{α:Type}{p:α→Prop}{I:α→Tm}{G:α→List Ab}{i:Nat}(h:SQ K w0 N Q (.exit i) D l H):SQ K w0 N (Go.Proofs.YtpaohlmgfifebaaGreatDoor.midD K w0 N p I G Q) (.exit i) D l H:=h
theorem F9{α:Type}{p:α→Prop}{I:α→Tm}{G:α→List Ab}(h:SQ K w0 N Q .ret D l H):SQ K w0 N (Go.Proofs.YtpaohlmgfifebaaGreatDoor.midD K w0 N p I G Q) .ret D l H:=h
theorem Du(t n tt:Nat){b y:Bool}{C:Option Bool}(hy:E3 b C=some y)(hb:look l t=some (.bool b))
(ht:b=true→C=some y→SL P ro K w0 N ops Hs (items.drop n) Q D ((tt,.bool y)::(t,.bool true)::OL t l) H→SL P ro K w0 N ops Hs items Q D ((t,.bool true)::OL t l) H)
(hf:b=false→SL P ro K w0 N ops Hs (items.drop n) Q D ((tt,.bool false)::(t,.bool false)::OL t l) H→SL P ro K w0 N ops Hs items Q D ((t,.bool false)::OL t l) H)
(h:SL P ro K w0 N ops Hs (items.drop n) Q D ((tt,.bool y)::l) H):SL P ro K w0 N ops Hs items Q D l H:=by
 refine R7 t hb (fun e=>?_) (fun e=>?_)
 subst e;exact N0 (ht rfl hy (h.join hb))
 subst e
 obtain rfl:false=y:=zI hy
 exact N0 (hf E (h.join hb))
theorem Sd(t n tt:Nat){b y:Bool}{C:Option Bool}(hy:Yn b C=some y)(hb:look l t=some (.bool b))
(ht:b=true→SL P ro K w0 N ops Hs (items.drop n) Q D ((tt,.bool true)::(t,.bool true)::OL t l) H→SL P ro K w0 N ops Hs items Q D ((t,.bool true)::OL t l) H)
(hf:b=false→C=some y→SL P ro K w0 N ops Hs (items.drop n) Q D ((tt,.bool y)::(t,.bool false)::OL t l) H→SL P ro K w0 N ops Hs items Q D ((t,.bool false)::OL t l) H)
(h:SL P ro K w0 N ops Hs (items.drop n) Q D ((tt,.bool y)::l) H):SL P ro K w0 N ops Hs items Q D l H:=by
 refine R7 t hb (fun e=>?_) (fun e=>?_)
 subst e
 obtain rfl:true=y:=zI hy
 exact N0 (ht E (h.join hb))
 subst e;exact N0 (hf rfl hy (h.join hb))
theorem Kc{xs ys:Array Value}:Ho [] xs ys=some true:=rfl
theorem DW{i:Nat}{d:TypeDesc}{r:List (Nat×TypeDesc)}{xs ys:Array Value}{u v:Value}{p q:Bool}(hx:xs[i]? = some u)(hy:ys[i]? = some v)(he:Vs d u v=some p)(hr:Ho r xs ys=some q):Ho ((i,d)::r) xs ys=some (p&&q):=by
 simp[Ho,hx,hy,he,hr]
theorem Zw{k:IntKind}{a b:Int}:Vs (.int k) (.int k a) (.int k b)=some (decide (a=b)):=by
 simp only[Vs,if_true]
 congr 1
theorem KO{a b:UInt32}:Vs (.int .u32) (AC a) (AC b)=some (decide (a=b)):=by
 rw[Zw];congr 1;rw[Bool.eq_iff_iff,decide_eq_true_eq,decide_eq_true_eq,←UInt32.toNat_inj];omega
theorem dz{a b:UInt64}:Vs (.int .u64) (Bh a) (Bh b)=some (decide (a=b)):=by
 rw[Zw];congr 1;rw[Bool.eq_iff_iff,decide_eq_true_eq,decide_eq_true_eq,←UInt64.toNat_inj];omega
theorem UI{a b:List UInt8}:Vs .string (vS a) (vS b)=some (decide (a=b)):=by
 simp only[Vs,WH];congr 1;rw[Bool.eq_iff_iff];simp
theorem kE{src dst:TypeId}{d:TypeDesc}{k:IntKind}{n:Int}(hs:P.underlying src=some d)(hd:P.underlying dst=some (.int .i64)):Cv P src dst (.int k n) (vI (wI n)):=Cv.int hs hd rfl
theorem OD{α:Type}{b m:Nat}{xs:List α}{k:IntKind}{i:Int}{c:α}{ty e:TypeId}(hn:A1 xs i=some c)(ho:At ops N l o t (.indexAddr ty x y))(hty:P.underlying ty=some (.array m e))(hsz:Ee P e=some 1)(hx:B4 l x=some (vP b 0))(hy:B4 l y=some (.int k i))
(hln:xs.length=m)(h:SL P ro K w0 N ops Hs items Q D ((t,vP b i.toNat)::l) H):SL P ro K w0 N ops Hs (.cons (tk,o) items) Q D l H:=by
 obtain⟨h1,h2,h3⟩:=GU hn
 exact EN ho hty hsz hx hy h1 zO h
structure Kl(K:Nat→Prop)(w0:World)(g:Nat)(n:Nat)(T:List UInt32):Prop where
 tab:U7 K w0 g T
 len:T.length=n
theorem Kl.keeps{g n:Nat}{T:List UInt32}{K':Nat→Prop}{w1:World}(h:Kl K w0 g n T)(hk:Y8 K w0 K' w1):Kl K' w1 g n T:=⟨h.tab.keeps hk,h.len⟩
theorem uQ{g n:Nat}{T:List UInt32}{i:Int}{c:UInt32}(h:Kl K w0 g n T)(hn:A1 T i=some c):∀w,H5 K w0 L w→w.cell? ⟨g,i.toNat,none⟩=some (AC c):=
 Qi (ad:=⟨g,i.toNat,none⟩) h.tab.keep (h.tab.cell _ _ (GU hn).2.2)
end

section
open Go Go.ChangeShapes Go.WideShapes Go.ChangeAt Go.RowKit
theorem gN:Sq.length=64:=by decide
theorem ub:Tryz.prog.globalNamed "sphragis/sphragisref02.table" = some 2:=zK
theorem vm:(Tryz.prog.globals[2]?).map (·.type)=some 376:=zK
theorem nS{W:World}(h:laidMetH Tryz.prog [("sphragis/sphragisref02.table", Rows.laid_sphragis_sphragisref02_table),("sphragis/sha.first", Rows.laid_sphragis_sha_first),("sphragis/sha.constants", Rows.laid_sphragis_sha_constants)] W):Hq (· < W.heap.size) W Sq∧Kl (· < W.heap.size) W 2 64 Sq:=by
 have h0:laidMet Tryz.prog [("sphragis/sphragisref02.table", Lib.tabData .u32 Wl),("sphragis/sha.first", Lib.tabData .u32 d9),("sphragis/sha.constants", Lib.tabData .u32 Wl)] W:=h
 refine⟨qP (YL h0),fL ub (Lib.tabIs_of_head ub vm Tryz.underlying376 Tryz.underlying36 XY Zs h0) (by simp[Sq]) zK,gN⟩
noncomputable def eM(os:Os):World:=
 { World.holding Tryz.prog os ⟨#[],#[],[]⟩with heap:=(((World.holding Tryz.prog os ⟨#[],#[],[]⟩).heap.modify 1 (pY d9)).modify 3 (pY Wl)).modify 2 (pY Wl) }
end

section
theorem GH{α β:Type}{F:(α→Option β)→α→Option β}(I:Nat→α)(N:Nat){z:Option β}(hs:∀i,i<N→∀k,F k (I i)=k (I (i+1)))(he:∀k,F k (I N)=z){m:Nat}(hm:N<m):CH F m (I 0)=z:=by
 have key:∀d i m,i+d=N→d<m→CH F m (I i)=z:=by
  intro d
  induction d with
  | zero=>
   intro i m hi hm
   obtain rfl:i=N:=zO
   obtain⟨m,rfl⟩:∃k,m=k+1:=⟨m-1,by omega⟩
   exact he _
  | succ d ih=>
   intro i m hi hm
   obtain⟨m,rfl⟩:∃k,m=k+1:=⟨m-1,by omega⟩
   show F (CH F m) (I i)=z
   rw[hs i zO]
   exact ih (i+1) m zO zO
 exact key N 0 m zO hm
theorem ms{α β:Type}{F:(α→Option β)→α→Option β}(I:Nat→α)(Z9:Nat→Option β)(N:Nat)(hs:∀i,i<N→∀k,k (I (i+1))=Z9 (i+1)→F k (I i)=Z9 i)(he:∀k,F k (I N)=Z9 N){m:Nat}(hm:N<m):CH F m (I 0)=Z9 0:=by
 have key:∀d i m,i+d=N→d<m→CH F m (I i)=Z9 i:=by
  intro d
  induction d with
  | zero=>
   intro i m hi hm
   obtain rfl:i=N:=zO
   obtain⟨m,rfl⟩:∃k,m=k+1:=⟨m-1,by omega⟩
   exact he _
  | succ d ih=>
   intro i m hi hm
   obtain⟨m,rfl⟩:∃k,m=k+1:=⟨m-1,by omega⟩
   show F (CH F m) (I i)=Z9 i
   exact hs i zO _ (ih (i+1) m zO zO)
 exact key N 0 m zO hm
theorem mu{α β:Type}{F:(α→Option β)→α→Option β}(I:Nat→α)(p:Nat→Prop)(N:Nat){z:Option β}(hs:∀i,i<N→p i→∀k,(p (i+1)→k (I (i+1))=z)→F k (I i)=z)(he:p N→∀k,F k (I N)=z)(h0:p 0){m:Nat}(hm:N<m):CH F m (I 0)=z:=by
 have key:∀d i m,i+d=N→d<m→p i→CH F m (I i)=z:=by
  intro d
  induction d with
  | zero=>
   intro i m hi hm hp
   obtain rfl:i=N:=zO
   obtain⟨m,rfl⟩:∃k,m=k+1:=⟨m-1,by omega⟩
   exact he hp _
  | succ d ih=>
   intro i m hi hm hp
   obtain⟨m,rfl⟩:∃k,m=k+1:=⟨m-1,by omega⟩
   show F (CH F m) (I i)=z
   exact hs i zO hp _ (ih (i+1) m zO zO)
 exact key N 0 m zO hm h0
theorem Fv{α:Type}{l:List α}{i:Nat}:A1 l (i:Int)=l[i]? := by simp[A1]
theorem L5{α:Type}{l:List α}{i:Int}{k:Nat}(h:i=(k:Int)):A1 l i=l[k]? := by rw[h,Fv]
theorem EK{α:Type}{l:List α}{i:Int}{k:Nat}(d:α)(h:i=(k:Int))(hk:k<l.length):A1 l i=some (l.getD k d):=by rw[L5 h,LH d hk]
theorem MA{α:Type}{l:List α}{i:Int}{k:Nat}{a:α}(h:i=(k:Int))(hk:k<l.length):FX l i a=some (l.set k a):=by
 subst h
 unfold FX
 rw[if_pos zO]
 simp
theorem iI{α:Type}{l:List α}{i j:Int}{p q:Nat}(hi:i=(p:Int))(hj:j=(q:Int))(h1:p≤q)(h2:q≤l.length):KK l i j=some ((l.drop p).take (q-p)):=by
 subst hi;subst hj
 unfold KK
 rw[if_pos zO]
 simp
theorem FA{α:Type}{b:Nat}{s t:List α}(h:(s.length+t.length)*b≤140737488355328)(h2:s.length+t.length≤9223372036854775807):Eh b s t=some (s++t):=if_pos ⟨h,h2⟩
theorem GK{s t:List UInt8}(h:s.length+t.length≤9223372036854775807):Fp s t=some (s++t):=if_pos h
theorem XL{i:Nat}:Q6 (i:Int)=some i:=by simp[Q6]
theorem XG{a b:Nat}(hb:b≠0):Va (a:Int) (b:Int)=some ((a%b:Nat):Int):=by
 unfold Va
 rw[if_neg zO,Int.tmod_eq_emod_of_nonneg zO]
 rfl
theorem hU{a b:Nat}(hb:b≠0)(ha:a≤9223372036854775807):K0 (a:Int) (b:Int)=some ((a / b:Nat):Int):=by
 unfold K0
 have h1:a / b≤a:=Nat.div_le_self _ _
 rw[if_neg zO,Int.tdiv_eq_ediv_of_nonneg zO,show((a:Int) / (b:Int))=((a / b:Nat):Int)from rfl]
 generalize a / b=q at h1 ⊢
 rw[BV zO zO]
theorem Z{α β:Type}{a:α}{f:α→Option β}:(some a).bind f=f a:=by simp
theorem BE{α β:Type}{e:α}{k:α→β}:ret e k=k e:=by simp[ret]
theorem YN{α β:Type}{F:(α→Option β)→α→Option β}{m:Nat}{a:α}:CH F (m+1) a=F (CH F m) a:=by rw[CH]
end

section
open Go Go.MapKept Go.ChangeMaps
variable {P:Program}{ro:Option Nat}{K:Nat→Prop}{w0:World}{N:Nat}{Q:Eg}{D:List Nat}{l l':Tm}{H H' Hs L:List Ab}{ops:Array Oper}{items:I5}
variable {tk:Bool}{o:Oper}{t:Nat}{v:Value}{x y z:Operand}
theorem Rp{α β:Type}(f:α→β){l:List α}(h:(l.map f).Nodup):l.Nodup:=(List.pairwise_map.1 h).imp fun hne e=>hne (congrArg f e)
theorem PH{α:Type}:∀ {l l':List α},l.Nodup→(∀a∈l,a∈l')→l.length≤l'.length
  | [],_,_,_=>by simp
  | a::r,l',hn,hs=>by
    obtain⟨h1,h2⟩:=List.nodup_cons.1 hn
    obtain⟨p,q,rfl⟩:=List.append_of_mem (hs a (List.mem_cons_self ..))
    have:=PH (l':=p++q) h2 (fun b hb=>by
      have hb':=hs b (List.mem_cons_of_mem _ hb)
      simp only[List.mem_append,List.mem_cons]at hb' ⊢
      rcases hb' with h | rfl | h
      exact .inl h
      exact absurd hb h1
      exact .inr h)
    simp at this ⊢
    omega
section jh
variable {κ α:Type}[DecidableEq κ]
def Db(m:List (κ×α))(k:κ):Option α:=(m.find? fun p=>decide (p.1=k)).map (·.2)
def Fq(m:List (κ×α))(k:κ):List (κ×α):=m.filter fun p=>decide (p.1≠k)
def KB(m:List (κ×α))(k:κ)(a:α):List (κ×α):=(k,a)::Fq m k
theorem V2{m:List (κ×α)}{k:κ}(h:∀p∈m,p.1≠k):Db m k=none:=by
  unfold Db
  rw[List.find?_eq_none.2 (fun p hp=>by simpa using h p hp)]
  rfl
theorem V3{m:List (κ×α)}(hn:(m.map (·.1)).Nodup){p:κ×α}(hp:p∈m):Db m p.1=some p.2:=by
  induction m with
  | nil=>cases hp
  | cons q r ih=>
    simp only[List.map_cons,List.nodup_cons]at hn
    unfold Db
    rcases List.mem_cons.1 hp with rfl | hp
    simp
    have hne:q.1≠p.1:=fun e=>hn.1 (by rw[e];exact List.mem_map_of_mem hp)
    rw[List.find?_cons_of_neg (by simpa using hne)]
    exact ih hn.2 hp
theorem QW{m:List (κ×α)}{k:κ}(h:∀p∈m,p.1≠k):Fq m k=m:=List.filter_eq_self.2 (fun p hp=>by simpa using h p hp)
theorem YO{m:List (κ×α)}(hn:(m.map (·.1)).Nodup){p:κ×α}(hp:p∈m):m.Perm (p::Fq m p.1):=by
  induction m with
  | nil=>cases hp
  | cons q r ih=>
    simp only[List.map_cons,List.nodup_cons]at hn
    rcases List.mem_cons.1 hp with rfl | hp
    have h1:Fq (p::r) p.1=r:=by
      unfold Fq
      rw[List.filter_cons_of_neg zS]
      exact QW fun q hq e=>hn.1 (by rw[←e];exact List.mem_map_of_mem hq)
    rw[h1]
    have hne:q.1≠p.1:=fun e=>hn.1 (by rw[e];exact List.mem_map_of_mem hp)
    have h1:Fq (q::r) p.1=q::Fq r p.1:=by
      unfold Fq
      rw[List.filter_cons_of_pos (by simpa using hne)]
    rw[h1]
    exact((ih hn.2 hp).cons q).trans (List.Perm.swap _ _ _)
theorem gm{m:List (κ×α)}{k:κ}(hn:(m.map (·.1)).Nodup):((Fq m k).map (·.1)).Nodup:=hn.sublist (List.Sublist.map _ (List.filter_sublist ..))
theorem Xf{m:List (κ×α)}{k j:κ}{a:α}:Db (KB m k a) j=if k=j then some a else Db m j:=by
  unfold KB Db
  by_cases h:k=j
  rw[if_pos h,List.find?_cons_of_pos (by simpa using h)];rfl
  rw[if_neg h,List.find?_cons_of_neg (by simpa using h)]
  congr 1
  unfold Fq
  rw[List.find?_filter]
  congr 1
  funext p
  by_cases hj:p.1=j
  simp[hj,Ne.symm h]
  simp[hj]
end jh
structure Ot(P:Program)(k:TypeId){κ α:Type}(ek:κ→Value)(ev:α→Value):Prop where
  keyed:Go.Maps.Keyed P k
  lit:∀x,∃l,keyOf P k (ek x)=some l
  dk:∃f:Value→Option κ,∀x,f (ek x)=some x
  dv:∃f:Value→Option α,∀x,f (ev x)=some x
theorem Ot.inj{k:TypeId}{κ α:Type}{ek:κ→Value}{ev:α→Value}(E9:Ot P k ek ev){x y:κ}(h:ek x=ek y):x=y:=by
  obtain⟨f,hf⟩:=E9.dk
  have:=hf x
  rw[h,hf y]at this
  exact(zI this).symm
theorem XM{k:TypeId}(hk:P.underlying k=some (.int .u32))(a:UInt32):∃l,keyOf P k (AC a)=some l:=
  ⟨_,Maps.keyOf_int_mk hk (by have:=a.toNat_lt;simp[Lit.wf,IntKind.min,IntKind.max,IntKind.signed,IntKind.bits];omega)⟩
theorem Vg{k:TypeId}(hk:P.underlying k=some (.int .u32)):Ot P k AC vS:=
  ⟨Maps.int_keyed hk,XM hk,⟨fun v=>match v with | .int _ a=>some (UInt32.ofNat a.toNat) | _=>none,fun x=>by simp⟩,⟨fun v=>match v with | .string b=>some b.data.toList | _=>none,fun x=>rfl⟩⟩
theorem Sa{k:TypeId}(hk:P.underlying k=some (.int .u32)):Ot P k AC vB:=
  ⟨Maps.int_keyed hk,XM hk,⟨fun v=>match v with | .int _ a=>some (UInt32.ofNat a.toNat) | _=>none,fun x=>by simp⟩,⟨fun v=>match v with | .bool b=>some b | _=>none,fun x=>rfl⟩⟩
section maps
variable {κ α:Type}{ek:κ→Value}{ev:α→Value}{m:List (κ×α)}{k:TypeId}{b:Nat}
def OC(ek:κ→Value)(ev:α→Value)(m:List (κ×α))(es:Array MapEntry)(clock:Nat):Prop:=
  Stamped es clock∧es.size≤maxLen∧(es.toList.map fun e=>(e.key,e.val)).Perm (m.map fun p=>(ek p.1,ev p.2))
def Al(b:Nat)(ek:κ→Value)(ev:α→Value)(m:List (κ×α)):Ab:=
  ⟨(·=b),fun w=>∃es clock,w.heap[b]? = some (.map es clock)∧OC ek ev m es clock,fun w w' h ⟨es,c,h1,h2⟩=>⟨es,c,by rw[h _ rfl];exact h1,h2⟩⟩
theorem OC.mem{es:Array MapEntry}{clock:Nat}(h:OC ek ev m es clock){e:MapEntry}(he:e∈es.toList):∃p∈m,e.key=ek p.1∧e.val=ev p.2:=by
  have:=h.2.2.mem_iff.1 (List.mem_map_of_mem (f:=fun e:MapEntry=>(e.key,e.val)) he)
  obtain⟨p,hp,e1⟩:=List.mem_map.1 this
  simp only[Prod.mk.injEq]at e1
  exact⟨p,hp,e1.1.symm,e1.2.symm⟩
theorem OC.nodup{es:Array MapEntry}{clock:Nat}(h:OC ek ev m es clock):(m.map (·.1)).Nodup:=by
  have h1:(es.toList.map (·.key)).Nodup:=h.1.2.2
  have h2:(es.toList.map (·.key)).Perm (m.map fun p=>ek p.1):=by
    have:=h.2.2.map (·.1)
    simpa[List.map_map,Function.comp_def]using this
  have h3:(m.map fun p=>ek p.1).Nodup:=h2.nodup_iff.1 h1
  have h4:(m.map fun p=>ek p.1)=(m.map (·.1)).map ek:=by simp
  rw[h4]at h3
  exact Rp _ h3
theorem OC.keys{es:Array MapEntry}{clock:Nat}(E9:Ot P k ek ev)(h:OC ek ev m es clock):∀e∈es.toList,∃l,keyOf P k e.key=some l:=fun e he=>by
  obtain⟨p,_,e1,_⟩:=h.mem he
  rw[e1]
  exact E9.lit _
theorem OC.size_eq{es:Array MapEntry}{clock:Nat}(h:OC ek ev m es clock):es.size=m.length:=by
  have:=h.2.2.length_eq
  simpa using this
variable [DecidableEq κ]
theorem OC.look{es:Array MapEntry}{clock:Nat}{w:World}(E9:Ot P k ek ev)(h:OC ek ev m es clock)(hb:w.heap[b]? = some (.map es clock)){ty e:TypeId}(ht:P.underlying ty=some (.map k e)){zv:α}(hz:Fk P e=some (ev zv))(key:κ)(c:Bool):
    (Instr.lookup ty (.map (some b)) (ek key) c).run P w=.ok (if c then .tuple #[ev ((Db m key).getD zv),.bool (Db m key).isSome]else ev ((Db m key).getD zv)) w:=by
  obtain⟨lx,hl⟩:=E9.lit key
  rcases E9.keyed.find w hl es.toList (h.keys E9)with⟨h1,h2⟩ | ⟨j,e0,h1,h2,h3⟩
  have hg:Db m key=none:=V2 fun p hp e=>by
    have:=h.2.2.mem_iff.2 (List.mem_map_of_mem (f:=fun p:κ×α=>(ek p.1,ev p.2)) hp)
    obtain⟨e',he',e1⟩:=List.mem_map.1 this
    simp only[Prod.mk.injEq]at e1
    exact h2 e' he' (by rw[e1.1,e])
  simp[Instr.lookup,A8 ht,MapKept.run_getObj_map hb,E9.keyed.check w _ hl,h1,PI hz,Result.andThen,hg]
  obtain⟨p,hp,e1,e2⟩:=h.mem (List.mem_of_getElem? h2)
  have hk:p.1=key:=E9.inj (by rw[←e1,h3])
  have hg:=V3 h.nodup hp
  rw[hk]at hg
  simp[Instr.lookup,A8 ht,MapKept.run_getObj_map hb,E9.keyed.check w _ hl,h1,Result.andThen,hg,←e2]
theorem OC.upd{es:Array MapEntry}{clock:Nat}{w:World}(E9:Ot P k ek ev)(h:OC ek ev m es clock)(hb:w.heap[b]? = some (.map es clock)){ty e:TypeId}(ht:P.underlying ty=some (.map k e))(key:κ)(a:α)(hroom:m.length<9223372036854775807):
    ∃es' clock',(Instr.mapUpdate ty (.map (some b)) (ek key) (ev a)).run P w=.ok () (setBlock w b (.map es' clock'))∧OC ek ev (KB m key a) es' clock':=by
  obtain⟨lx,hl⟩:=E9.lit key
  have hsz:=h.size_eq
  rcases E9.keyed.find w hl es.toList (h.keys E9)with⟨h1,h2⟩ | ⟨j,e0,h1,h2,h3⟩
  have hno:∀p∈m,p.1≠key:=fun p hp e=>by
    have:=h.2.2.mem_iff.2 (List.mem_map_of_mem (f:=fun p:κ×α=>(ek p.1,ev p.2)) hp)
    obtain⟨e',he',e1⟩:=List.mem_map.1 this
    simp only[Prod.mk.injEq]at e1
    exact h2 e' he' (by rw[e1.1,e])
  refine⟨es.push ⟨ek key,ev a,clock⟩,clock+1,?_,stamped_push h.1 h2,by simp only[maxLen,Array.size_push];omega,?_⟩
  simp[Instr.mapUpdate,A8 ht,MapKept.run_getObj_map hb,E9.keyed.check w false hl,h1,MapKept.run_setObj_map _ hb,Result.andThen,setBlock]
  unfold KB
  rw[QW hno,Array.toList_push,List.map_append,List.map_cons]
  exact(List.perm_append_singleton _ _).trans (h.2.2.cons _)
  have hj:es[j]? = some e0:=by simpa using h2
  have hjl:j<es.toList.length:=(List.getElem?_eq_some_iff.1 h2).1
  obtain⟨p,hp,e1,e2⟩:=h.mem (List.mem_of_getElem? h2)
  have hk:p.1=key:=E9.inj (by rw[←e1,h3])
  have hkeyf:∀e',es[j]? = some e'→({ e' with key:=ek key,val:=ev a }:MapEntry).key=e'.key:=fun e' he'=>by rw[hj]at he';cases he';exact h3.symm
  have hlist:(es.modify j (fun e'=>{ e' with key:=ek key,val:=ev a })).toList=es.toList.set j { e0 with key:=ek key,val:=ev a }:=by rw[Array.toList_modify,modify_eq_set _ _ _ _ h2]
  refine⟨es.modify j (fun e'=>{ e' with key:=ek key,val:=ev a }),clock,?_,stamped_modify h.1 _ _ (fun _ _=>rfl) (fun e' _ he'=>hkeyf e' he'),by simpa using h.2.1,?_⟩
  simp[Instr.mapUpdate,A8 ht,MapKept.run_getObj_map hb,E9.keyed.check w false hl,h1,hj,h3,E9.keyed.stays w hl,MapKept.run_setObj_map _ hb,Result.andThen,setBlock]
  rw[hlist]
  unfold KB
  have hspl:=YO h.nodup hp
  rw[hk]at hspl
  have p1:es.toList=es.toList.take j++e0::es.toList.drop (j+1):=(Gg h2).1
  have p2:es.toList.set j { e0 with key:=ek key,val:=ev a }=es.toList.take j++{ e0 with key:=ek key,val:=ev a }::es.toList.drop (j+1):=by
    rw[List.set_eq_take_append_cons_drop,if_pos hjl]
  rw[p2]
  have q1:((es.toList.take j++es.toList.drop (j+1)).map fun e=>(e.key,e.val)).Perm ((Fq m key).map fun p=>(ek p.1,ev p.2)):=by
    have h5:=h.2.2
    rw[p1]at h5
    have h6:=(List.perm_middle (l₁:=es.toList.take j) (a:=e0) (l₂:=es.toList.drop (j+1))).symm.map (fun e:MapEntry=>(e.key,e.val))
    have h7:=(h6.trans h5).trans (hspl.map fun p=>(ek p.1,ev p.2))
    simp only[List.map_cons,e1,e2]at h7
    exact h7.cons_inv
  have h8:=(List.perm_middle (l₁:=es.toList.take j) (a:=({ e0 with key:=ek key,val:=ev a }:MapEntry)) (l₂:=es.toList.drop (j+1))).map (fun e:MapEntry=>(e.key,e.val))
  exact h8.trans (q1.cons _)
theorem OC.drop{es:Array MapEntry}{clock:Nat}{w:World}(E9:Ot P k ek ev)(h:OC ek ev m es clock)(hb:w.heap[b]? = some (.map es clock)){t2 e rt:TypeId}(ht:P.underlying t2=some (.map k e))(key:κ):
    ∃es',(Builtin.delete_ #[t2,k] rt #[.map (some b),ek key]).run P w=.ok (.tuple #[]) (setBlock w b (.map es' clock))∧OC ek ev (Fq m key) es' clock:=by
  obtain⟨lx,hl⟩:=E9.lit key
  rcases E9.keyed.find w hl es.toList (h.keys E9)with⟨h1,h2⟩ | ⟨j,e0,h1,h2,h3⟩
  have hno:∀p∈m,p.1≠key:=fun p hp e=>by
    have:=h.2.2.mem_iff.2 (List.mem_map_of_mem (f:=fun p:κ×α=>(ek p.1,ev p.2)) hp)
    obtain⟨e',he',e1⟩:=List.mem_map.1 this
    simp only[Prod.mk.injEq]at e1
    exact h2 e' he' (by rw[e1.1,e])
  refine⟨es,?_,by rw[QW hno];exact h⟩
  simp[Builtin.delete_,A8 ht,MapKept.run_getObj_map hb,E9.keyed.check w _ hl,h1,MapKept.run_setObj_map _ hb,Result.andThen,setBlock]
  have hjl:j<es.toList.length:=(List.getElem?_eq_some_iff.1 h2).1
  have hjs:j<es.size:=by simpa using hjl
  obtain⟨p,hp,e1,e2⟩:=h.mem (List.mem_of_getElem? h2)
  have hk:p.1=key:=E9.inj (by rw[←e1,h3])
  have hsub:(es.eraseIdxIfInBounds j).toList=es.toList.eraseIdx j:=by
    unfold Array.eraseIdxIfInBounds
    rw[dif_pos hjs]
    simp
  refine⟨es.eraseIdxIfInBounds j,?_,stamped_erase h.1 j,Nat.le_trans (MapFrom.size_erase es j) h.2.1,?_⟩
  simp[Builtin.delete_,A8 ht,MapKept.run_getObj_map hb,E9.keyed.check w _ hl,h1,MapKept.run_setObj_map _ hb,Result.andThen,setBlock]
  rw[hsub,List.eraseIdx_eq_take_drop_succ]
  have hspl:=YO h.nodup hp
  rw[hk]at hspl
  have p1:es.toList=es.toList.take j++e0::es.toList.drop (j+1):=(Gg h2).1
  have h5:=h.2.2
  rw[p1]at h5
  have h6:=(List.perm_middle (l₁:=es.toList.take j) (a:=e0) (l₂:=es.toList.drop (j+1))).symm.map (fun e:MapEntry=>(e.key,e.val))
  have h7:=(h6.trans h5).trans (hspl.map fun p=>(ek p.1,ev p.2))
  simp only[List.map_cons,e1,e2]at h7
  exact h7.cons_inv
omit [DecidableEq κ]
theorem HM(w:World)(b:Nat)(o:Obj):setBlock w b o=w.putObj b o:=rfl
theorem Us{ty:TypeId}(ek:κ→Value)(ev:α→Value)(ho:At ops N l o t (.makeMap ty none))(hs:∀b,Fy Hs (Al b ek ev []::H))
(h:∀b,SL P ro K w0 N ops Hs items Q D ((t,.map (some b))::l) (Al b ek ev []::H)):SL P ro K w0 N ops Hs (.cons (false,o) items) Q D l H:=
  IR (fun b=>.map (some b)) (fun b=>Al b ek ev []::H) ho rfl (fun a w ha hw=>by
    refine⟨w.heap.size,w.alloc (.map #[] 0),?_,?_⟩
    simp[execOp,ho.op,Instr.makeMap]
    have h2:=hw.alloc (.map #[] 0)
    refine h2.turn rfl rfl rfl (Nat.le_refl _) (fun _ _ _=>rfl) ⟨#[],0,h2.holds _ (List.mem_cons_self ..),stamped_empty 0,by simp,by simp⟩ (fun j hj=>?_)
    exact⟨.inl hj,(h2.foot _ (List.mem_cons_self ..) j hj).1⟩) hs h
variable [DecidableEq κ]
theorem Yr{ty e:TypeId}{key:κ}{zv:α}(i:Nat)(E9:Ot P k ek ev)(ho:At ops N l o t (.lookup ty x y false))(ht:P.underlying ty=some (.map k e))(hz:Fk P e=some (ev zv))(hx:B4 l x=some (.map (some b)))(hy:B4 l y=some (ek key))
(hi:(bif tk then Hs else H)[i]? = some (Al b ek ev m))(h:SL P ro K w0 N ops Hs items Q D ((t,ev ((Db m key).getD zv))::l) H):SL P ro K w0 N ops Hs (.cons (tk,o) items) Q D l H:=
  SL.val ho rfl (fun a w ha hsw=>by
    obtain⟨es,clock,hb,hr⟩:=hsw.holds _ (List.mem_of_getElem? hi)
    have:=hr.look E9 hb ht hz key false
    simp[execOp,ho.op,ha.eval hx,ha.eval hy,this]) h
theorem bY{ty e:TypeId}{key:κ}{zv:α}(i:Nat)(E9:Ot P k ek ev)(ho:At ops N l o t (.lookup ty x y true))(ht:P.underlying ty=some (.map k e))(hz:Fk P e=some (ev zv))(hx:B4 l x=some (.map (some b)))(hy:B4 l y=some (ek key))
(hi:(bif tk then Hs else H)[i]? = some (Al b ek ev m))(h:SL P ro K w0 N ops Hs items Q D ((t,.tuple #[ev ((Db m key).getD zv),.bool (Db m key).isSome])::l) H):SL P ro K w0 N ops Hs (.cons (tk,o) items) Q D l H:=
  SL.val ho rfl (fun a w ha hsw=>by
    obtain⟨es,clock,hb,hr⟩:=hsw.holds _ (List.mem_of_getElem? hi)
    have:=hr.look E9 hb ht hz key true
    simp[execOp,ho.op,ha.eval hx,ha.eval hy,this]) h
theorem rJ{ty e:TypeId}{key:κ}{a:α}{z:Operand}(i:Nat)(E9:Ot P k ek ev)(ho:At0 ops l o (.mapUpdate ty x y z))(ht:P.underlying ty=some (.map k e))(hx:B4 l x=some (.map (some b)))(hy:B4 l y=some (ek key))(hz:B4 l z=some (ev a))
(hi:H[i]? = some (Al b ek ev m))(hroom:m.length<9223372036854775807)(hs:Fy Hs (H.set i (Al b ek ev (KB m key a))))(h:SL P ro K w0 N ops Hs items Q D l (H.set i (Al b ek ev (KB m key a)))):SL P ro K w0 N ops Hs (.cons (false,o) items) Q D l H:=
  XR ho rfl (fun a' w ha hw=>by
    obtain⟨es,clock,hb,hr⟩:=hw.holds _ (List.mem_append_left _ (List.mem_of_getElem? hi))
    obtain⟨es',clock',hrun,hr'⟩:=hr.upd E9 hb ht key a hroom
    obtain⟨hlt,_⟩:=Array.getElem?_eq_some_iff.1 hb
    refine⟨_,by simp[execOp,ho.op,ha.eval hx,ha.eval hy,ha.eval hz,hrun];rfl,?_⟩
    refine hw.turnAt (c:=Al b ek ev m) i hi rfl rfl rfl (by simp[HM]) (fun j hj hne=>World.putObj_heap_other (fun e=>hne (by rw[e];rfl))) ⟨es',clock',World.putObj_heap_same hlt,hr'⟩ (fun j hj=>⟨.inl hj,?_⟩)
    obtain rfl:j=b:=hj
    simpa[HM]using hlt) hs h
theorem rD{ty k' e:TypeId}{key:κ}(i:Nat)(E9:Ot P k ek ev)(hd:o.dst=none)(hop:o.op=.call { callee:=.builtin .delete,args:=#[x,y],argTypes:=#[ty,k'] })(hwt:TN ops l o=some true)(hk:k'=k)(ht:P.underlying ty=some (.map k e))(hx:B4 l x=some (.map (some b)))(hy:B4 l y=some (ek key))
(hi:H[i]? = some (Al b ek ev m))(hs:Fy Hs (H.set i (Al b ek ev (Fq m key))))(h:SL P ro K w0 N ops Hs items Q D l (H.set i (Al b ek ev (Fq m key)))):SL P ro K w0 N ops Hs (.cons (false,o) items) Q D l H:=by
  subst hk
  intro a w ha hw hs0
  have hw1:=G3 hwt ha.vals
  simp only[PL,hw1,if_true]
  obtain⟨es,clock,hb,hr⟩:=hw.holds _ (List.mem_append_left _ (List.mem_of_getElem? hi))
  obtain⟨es',hrun,hr'⟩:=hr.drop (rt:=o.type) E9 hb ht key
  obtain⟨hlt,_⟩:=Array.getElem?_eq_some_iff.1 hb
  have hw':Br K w0 (H.set i (Al b ek ev (Fq m key))++[Bp D]) (setBlock w b (.map es' clock)):=by
    refine hw.turnAt (c:=Al b ek ev m) i hi rfl rfl rfl (by simp[HM]) (fun j hj hne=>World.putObj_heap_other (fun e=>hne (by rw[e];rfl))) ⟨es',clock,World.putObj_heap_same hlt,hr'⟩ (fun j hj=>⟨.inl hj,?_⟩)
    obtain rfl:j=b:=hj
    simpa[HM]using hlt
  refine LI (by rw[hop];exact Gz rfl) (v:=.tuple #[]) (w':=setBlock w b (.map es' clock)) ?_ ⟨hs.hs hw',?_⟩
  unfold execOp
  simp only[hop,resolve,invoke,builtin,Sem.run_bind,Sem.run_pure,Result.andThen_ok,List.map_toArray,List.map_cons,List.map_nil,ha.vals.eval hx,ha.vals.eval hy,hrun]
  rw[hd]
  exact h _ _ ha hw' (hs.hs hw')
omit [DecidableEq κ]
theorem rC{ty e:TypeId}(i:Nat)(hd:o.dst=none)(hop:o.op=.call { callee:=.builtin .clear,args:=#[x],argTypes:=#[ty] })(hwt:TN ops l o=some true)(ht:P.underlying ty=some (.map k e))(hx:B4 l x=some (.map (some b)))
(hi:H[i]? = some (Al b ek ev m))(hs:Fy Hs (H.set i (Al b ek ev [])))(h:SL P ro K w0 N ops Hs items Q D l (H.set i (Al b ek ev []))):SL P ro K w0 N ops Hs (.cons (false,o) items) Q D l H:=by
  intro a w ha hw hs0
  have hw1:=G3 hwt ha.vals
  simp only[PL,hw1,if_true]
  obtain⟨es,clock,hb,hr⟩:=hw.holds _ (List.mem_append_left _ (List.mem_of_getElem? hi))
  obtain⟨hlt,_⟩:=Array.getElem?_eq_some_iff.1 hb
  have hw':Br K w0 (H.set i (Al b ek ev [])++[Bp D]) (setBlock w b (.map #[] clock)):=by
    refine hw.turnAt (c:=Al b ek ev m) i hi rfl rfl rfl (by simp[HM]) (fun j hj hne=>World.putObj_heap_other (fun e=>hne (by rw[e];rfl))) ⟨#[],clock,World.putObj_heap_same hlt,stamped_empty clock,by simp,by simp⟩ (fun j hj=>⟨.inl hj,?_⟩)
    obtain rfl:j=b:=hj
    simpa[HM]using hlt
  refine LI (by rw[hop];exact Gz rfl) (v:=.tuple #[]) (w':=setBlock w b (.map #[] clock)) ?_ ⟨hs.hs hw',?_⟩
  unfold execOp
  simp only[hop,resolve,invoke,builtin,Sem.run_bind,Sem.run_pure,Result.andThen_ok,List.map_toArray,List.map_cons,List.map_nil,ha.vals.eval hx]
  simp[Builtin.clear_,A8 ht,MapKept.run_getObj_map hb,MapKept.run_setObj_map _ hb,Result.andThen,setBlock]
  rw[hd]
  exact h _ _ ha hw' (hs.hs hw')
def PG(b it:Nat)(ek:κ→Value)(ev:α→Value)(m done:List (κ×α)):Ab:=
  ⟨fun j=>j=b∨j=it,fun w=>∃es clock seen,w.heap[b]? = some (.map es clock)∧OC ek ev m es clock∧w.heap[it]? = some (.mapIter (some b) clock seen clock)∧
    ∃ord:List MapEntry,seen.toList=ord.map MapEntry.born∧(∀e∈ord,e∈es.toList)∧(ord.map MapEntry.born).Nodup∧(ord.map fun e=>(e.key,e.val))=done.map fun p=>(ek p.1,ev p.2),
   fun w w' h ⟨es,c,s,h1,h2,h3,h4⟩=>⟨es,c,s,by rw[h _ (.inl rfl)];exact h1,h2,by rw[h _ (.inr rfl)];exact h3,h4⟩⟩
theorem rI{ty e:TypeId}(i:Nat)(ho:At ops N l o t (.range ty x))(ht:P.underlying ty=some (.map k e))(hx:B4 l x=some (.map (some b)))(hi:H[i]? = some (Al b ek ev m))
(hs:∀it,Fy Hs (H.set i (PG b it ek ev m [])))(h:∀it,SL P ro K w0 N ops Hs items Q D ((t,vP it 0)::l) (H.set i (PG b it ek ev m []))):SL P ro K w0 N ops Hs (.cons (false,o) items) Q D l H:=
  IR (fun it=>vP it 0) (fun it=>H.set i (PG b it ek ev m [])) ho rfl (fun a w ha hw=>by
    obtain⟨es,clock,hb,hr⟩:=hw.holds _ (List.mem_append_left _ (List.mem_of_getElem? hi))
    obtain⟨hlt,_⟩:=Array.getElem?_eq_some_iff.1 hb
    refine⟨w.heap.size,w.alloc (.mapIter (some b) clock #[] clock),?_,?_⟩
    simp[execOp,ho.op,Instr.range,ha.eval hx,A8 ht,MapKept.run_getObj_map hb]
    refine hw.turnAt (c:=Al b ek ev m) i hi rfl rfl rfl zS (fun j hj _=>Rn w _ j hj) ⟨es,clock,#[],(Rn w _ b hlt).trans hb,hr,?_,[],by simp,by simp,by simp,by simp⟩ (fun j hj=>?_)
    show(w.heap.push _)[w.heap.size]? = _
    simp
    rcases hj with rfl | rfl
    exact⟨.inl rfl,by simp;omega⟩
    exact⟨.inr (Nat.le_refl _),by simp⟩) hs h
theorem rG{it:Nat}{done:List (κ×α)}(i:Nat)(E9:Ot P k ek ev)(ho:At ops N l o t (.next x false))(hx:B4 l x=some (vP it 0))(hi:H[i]? = some (PG b it ek ev m done))(hs0:Fy Hs H)
(hA:done.Perm m→SL P ro K w0 N ops Hs items Q D ((t,.tuple #[.bool false])::l) H)
(hB:∀p,p∈m→done.length<m.length→Fy Hs (H.set i (PG b it ek ev m (done++[p])))∧SL P ro K w0 N ops Hs items Q D ((t,.tuple #[.bool true,ek p.1,ev p.2])::l) (H.set i (PG b it ek ev m (done++[p])))):
    SL P ro K w0 N ops Hs (.cons (false,o) items) Q D l H:=by
  intro a w ha hw hsw
  have hw1:=G3 ho.wt ha.vals
  simp only[PL,hw1,if_true]
  obtain⟨es,clock,seen,hb,hr,hit,ord,ho1,ho2,ho3,ho4⟩:=hw.holds _ (List.mem_append_left _ (List.mem_of_getElem? hi))
  obtain⟨hlt,_⟩:=Array.getElem?_eq_some_iff.1 hb
  obtain⟨hlt2,_⟩:=Array.getElem?_eq_some_iff.1 hit
  have hlen:ord.length=done.length:=by simpa using congrArg List.length ho4
  have hsz:=hr.size_eq
  have hnd:ord.Nodup:=Rp _ ho3
  rcases run_next_at (P:=P) w o.type it b clock clock seen es clock hit hb hr.1.1 (Nat.le_refl _)with⟨h0,hrun⟩ | ⟨e,he,w1,hal,hrun⟩
  
  have hall:∀e∈es.toList,e∈ord:=fun e he=>by
    have:leftOf es seen=#[]:=Array.eq_empty_of_size_eq_zero h0
    unfold leftOf at this
    have h1:=Array.filter_eq_empty_iff.1 this e (by simpa using he)
    have h2:e.born∈seen.toList:=by simpa using h1
    rw[ho1]at h2
    obtain⟨e',he',eb⟩:=List.mem_map.1 h2
    have h3:=ho2 e' he'
    have:e'=e:=by
      have hn:=hr.1.2.1
      obtain⟨p,hp,e1⟩:=List.getElem_of_mem h3
      obtain⟨q,hq,e2⟩:=List.getElem_of_mem he
      have:=(List.getElem_inj (h₀:=by simpa using hp) (h₁:=by simpa using hq) hn).1 (by simp[e1,e2,eb])
      subst this
      rw[←e1,←e2]
    rw[←this];exact he'
  have hperm:ord.Perm es.toList:=by
    have hen:es.toList.Nodup:=Rp _ hr.1.2.1
    exact(List.perm_ext_iff_of_nodup hnd hen).2 fun e=>⟨ho2 e,hall e⟩
  have hdm:done.Perm m:=by
    have h1:(done.map fun p=>(ek p.1,ev p.2)).Perm (m.map fun p=>(ek p.1,ev p.2)):=by
      rw[←ho4]
      exact(hperm.map _).trans hr.2.2
    obtain⟨fk,hfk⟩:=E9.dk
    obtain⟨fv,hfv⟩:=E9.dv
    have h2:=h1.filterMap fun q:Value×Value=>(fk q.1).bind fun a=>(fv q.2).map fun b=>(a,b)
    have h3:∀l:List (κ×α),(l.map fun p=>(ek p.1,ev p.2)).filterMap (fun q:Value×Value=>(fk q.1).bind fun a=>(fv q.2).map fun b=>(a,b))=l:=by
      intro l
      induction l with
      | nil=>rfl
      | cons p r ih=>simp[hfk,hfv,ih]
    rwa [h3,h3]at h2
  refine LI (by rw[ho.op];exact Gz rfl) (v:=.tuple #[.bool false]) (w':=w) ?_ ⟨hs0.hs hw,hA hdm _ w (by rw[ho.dst];exact ha.put (JA ho.lt) _) hw (hs0.hs hw)⟩
  simp[execOp,ho.op,ha.vals.eval hx,hrun]
  
  have hel:e∈es.toList:=by
    unfold leftOf at he
    simp at he ⊢
    exact he.1
  have hens:e.born∉ord.map (·.born):=by
    unfold leftOf at he
    rw[←ho1]
    simp at he ⊢
    exact he.2
  obtain⟨p,hp,e1,e2⟩:=hr.mem hel
  have hlt3:done.length<m.length:=by
    have hnd2:(ord++[e]).Nodup:=by
      refine List.nodup_append.2 ⟨hnd,by simp,?_⟩
      intro x hx y hy
      simp only[List.mem_singleton]at hy
      subst hy
      intro exy
      exact hens (by rw[←exy];exact List.mem_map_of_mem hx)
    have hsub:(ord++[e])⊆es.toList:=by
      intro x hx
      rcases List.mem_append.1 hx with hx | hx
      exact ho2 x hx
      simp only[List.mem_singleton]at hx
      subst hx;exact hel
    have:=PH hnd2 (fun a ha=>hsub ha)
    simp at this
    omega
  obtain⟨hsub,hcont⟩:=hB p hp hlt3
  have hhw1:w1.os=w.os∧w1.tape=w.tape∧w1.output=w.output∧w1.heap=w.heap:=by rcases hal with rfl | rfl<;>exact⟨rfl,rfl,rfl,rfl⟩
  have hne:it≠b:=fun e=>by rw[e,hb]at hit;cases hit
  have hw':Br K w0 (H.set i (PG b it ek ev m (done++[p]))++[Bp D]) (setBlock w1 it (.mapIter (some b) clock (seen.push e.born) clock)):=by
    refine hw.turnAt (c:=PG b it ek ev m done) i hi hhw1.1 hhw1.2.1 hhw1.2.2.1 (by simp[HM,hhw1.2.2.2]) (fun j hj hnf=>?_) ⟨es,clock,seen.push e.born,?_,hr,World.putObj_heap_same (by rw[hhw1.2.2.2];exact hlt2),ord++[e],by simp[ho1],?_,?_,by simp[ho4,e1,e2]⟩ (fun j hj=>⟨.inl hj,?_⟩)
    exact(World.putObj_heap_other (fun e=>hnf (.inr e))).trans (by rw[hhw1.2.2.2])
    exact(World.putObj_heap_other (fun e=>hne e.symm)).trans (by rw[hhw1.2.2.2];exact hb)
    intro x hx
    rcases List.mem_append.1 hx with hx | hx
    exact ho2 x hx
    simp only[List.mem_singleton]at hx
    subst hx;exact hel
    rw[List.map_append]
    refine List.nodup_append.2 ⟨ho3,by simp,?_⟩
    intro x hx y hy
    simp only[List.map_cons,List.map_nil,List.mem_singleton]at hy
    subst hy
    intro exy
    exact hens (by rw[←exy];exact hx)
    rcases hj with rfl | rfl
    simpa[HM,hhw1.2.2.2]using hlt
    simpa[HM,hhw1.2.2.2]using hlt2
  refine LI (by rw[ho.op];exact Gz rfl) (v:=.tuple #[.bool true,ek p.1,ev p.2]) (w':=setBlock w1 it (.mapIter (some b) clock (seen.push e.born) clock)) ?_ ⟨hsub.hs hw',hcont _ _ (by rw[ho.dst];exact ha.put (JA ho.lt) _) hw' (hsub.hs hw')⟩
  simp[execOp,ho.op,ha.vals.eval hx,hrun,e1,e2]
theorem rE{it:Nat}{done:List (κ×α)}{p:κ×α}(i:Nat)(ho:At ops N l o t (.entry x))(hx:B4 l x=some (vP it 0))(hi:(bif tk then Hs else H)[i]? = some (PG b it ek ev m (done++[p])))
(h:SL P ro K w0 N ops Hs items Q D ((t,.tuple #[ek p.1,ev p.2])::l) H):SL P ro K w0 N ops Hs (.cons (tk,o) items) Q D l H:=
  SL.val ho rfl (fun a w ha hsw=>by
    obtain⟨es,clock,seen,hb,hr,hit,ord,ho1,ho2,ho3,ho4⟩:=hsw.holds _ (List.mem_of_getElem? hi)
    have hne:ord≠[]:=fun e=>by rw[e]at ho4;simp at ho4
    obtain⟨ord',e,rfl⟩:∃o' e,ord=o'++[e]:=⟨_,_,(List.dropLast_concat_getLast hne).symm⟩
    simp only[List.map_append,List.map_cons,List.map_nil]at ho4 ho1
    have h4:=List.append_inj' ho4 rfl
    simp only[List.cons.injEq,Prod.mk.injEq,and_true]at h4
    have hse:seen=(ord'.map (·.born)).toArray.push e.born:=by
      apply Array.ext'
      simp[ho1]
    rw[hse]at hit
    have:=run_entry_at (P:=P) w it b clock _ es clock e hit hb (ho2 e zS) hr.1.2.1
    simp[execOp,ho.op,ha.eval hx,this,h4.2.1,h4.2.2]) h
theorem Br.itOff{w:World}{M:List Ab}{it:Nat}{done:List (κ×α)}(i:Nat)(h:Br K w0 (H++M) w)(hi:H[i]? = some (PG b it ek ev m done)):Br K w0 (H.set i (Al b ek ev m)++M) w:=by
  obtain⟨es,clock,seen,hb,hr,_⟩:=h.holds _ (List.mem_append_left _ (List.mem_of_getElem? hi))
  exact h.turnAt (c:=PG b it ek ev m done) i hi rfl rfl rfl (Nat.le_refl _) (fun _ _ _=>rfl) ⟨es,clock,hb,hr⟩ (fun j hj=>⟨.inl (.inl hj),(h.foot _ (List.mem_append_left _ (List.mem_of_getElem? hi)) j (.inl hj)).1⟩)
theorem mL{c:Code}{it:Nat}{done:List (κ×α)}(i:Nat)(hi:H[i]? = some (PG b it ek ev m done))(h:SX P ro K w0 N c Q D l (H.set i (Al b ek ev m))):SX P ro K w0 N c Q D l H:=
  fun a w ha hw=>h a w ha (hw.itOff i hi)
end maps
end

section
open Go Go.MapKept Go.ChangeMaps
variable {P:Program}{ro:Option Nat}{K:Nat→Prop}{w0:World}{N:Nat}{Q:Eg}{D:List Nat}{l l':Tm}{H H' Hs L:List Ab}{ops:Array Oper}{items:I5}
variable {tk:Bool}{o:Oper}{t:Nat}{v:Value}{x y z:Operand}
theorem EI{α:Type}{e:TypeId}{sz:Nat}{enc:α→List Value}{xs:List α}(i:Nat)(hi:H[i]? = some (AD e sz v enc xs))(h:v.cells=#[v]→v.oneCell'=true→SL P ro K w0 N ops Hs items Q D l H):SL P ro K w0 N ops Hs items Q D l H:=by
 intro a w ha hw hs
 have hrow:w.ownsRow 0 e sz v xs.length (xs.flatMap enc):=hw.holds _ (List.mem_append_left _ (List.mem_of_getElem? hi))
 rcases hrow.2 with⟨rfl,_⟩ | ⟨g,cap,cur,rfl,_⟩
 exact h rfl rfl a w ha hw hs
 exact h rfl rfl a w ha hw hs
theorem R6{α:Type}{sz:Nat}{enc:α→List Value}{xs:List α}(hk:CR K w0 enc sz v xs)(h:v.cells=#[v]→v.oneCell'=true→SL P ro K w0 N ops Hs items Q D l H):SL P ro K w0 N ops Hs items Q D l H:=by
 rcases hk.at_ with⟨_,rfl,_⟩ | ⟨b,off,cap,rfl,_⟩
 exact h rfl rfl
 exact h rfl rfl
theorem ZC{ty:TypeId}(hv:v.cells=#[v])(ho:At ops N l o t (.box ty x))(hx:B4 l x=some v)(hs:∀b,Fy Hs (own b (.cells #[v] ty)::H))
(h:∀b,SL P ro K w0 N ops Hs items Q D ((t,vP b 0)::l) (own b (.cells #[v] ty)::H)):SL P ro K w0 N ops Hs (.cons (false,o) items) Q D l H:=
 Bw ho hx (by rw[hv];exact hs) (by rw[hv];exact h)
theorem FV{b off:Nat}{c:Array Value}{e ty:TypeId}(i:Nat)(ho:At0 ops l o (.store ty x y))(hx:B4 l x=some (vP b off))(hy:B4 l y=some v)(hi:H[i]? = some (own b (.cells c e)))
(hn:Ee P ty=some 1)(hv:v.cells=#[v])(h1:v.oneCell'=true)(hle:Nat.ble (off+1) c.size=true)
(hs:Fy Hs (H.set i (own b (.cells (GQ c off [v]) e))))(h:SL P ro K w0 N ops Hs items Q D l (H.set i (own b (.cells (GQ c off [v]) e)))):SL P ro K w0 N ops Hs (.cons (false,o) items) Q D l H:=
 BN i ho hx hy hi hn (by rw[hv];rfl) (by rw[hv];simp[h1]) hle (by rw[hv];exact hs) (by rw[hv];exact h)
def jU{α:Type}(by_:Nat)(n:Int)(a:α):Option (List α):=if 0≤n∧by_*n.toNat≤281474976710656∧n≤9223372036854775807 then some (List.replicate n.toNat a)else none
theorem mz{α:Type}{by_:Nat}{n:Int}{a:α}{xs:List α}(h:jU by_ n a=some xs):n=(n.toNat:Int)∧by_*n.toNat≤281474976710656∧n.toNat≤9223372036854775807∧xs=List.replicate n.toNat a:=by
 unfold jU at h
 split at h
 rename_i hc
 exact⟨by omega,hc.2.1,by omega,(zI h).symm⟩
 cases h
theorem mw{α:Type}{enc:α→List Value}{a:α}{zv:Value}(hz:zv.cells.toList=enc a)(h1:(enc a).length=1)(n:Nat):(madeCells zv.cells (n*1)).toList=(List.replicate n a).flatMap enc:=by
 obtain⟨u,hu⟩:=List.length_eq_one_iff.1 h1
 have hs:zv.cells=#[u]:=by apply Array.ext';rw[hz,hu]
 rw[hs]
 have hrep:(List.replicate n a).flatMap enc=List.replicate n u:=by
  induction n with
  | zero=>rfl
  | succ k ih=>rw[List.replicate_succ,List.flatMap_cons,ih,hu,List.replicate_succ];rfl
 rw[hrep]
 apply List.ext_getElem
 simp[madeCells]
 intro i h2 h3
 simp[madeCells,Nat.mod_one]
theorem cj{α:Type}{e ty:TypeId}{by_:Nat}{zv:Value}{n:Int}{a:α}{xs:List α}(hn:jU by_ n a=some xs)(enc:α→List Value)(ho:At ops N l o t (.makeSlice ty x x))(hty:P.underlying ty=some (.slice e))(hsz:Ee P e=some 1)(hby:RB P e=some by_)(hze:Fk P e=some zv)
(hx:B4 l x=some (vI n))(hza:zv.cells.toList=enc a)(h1:(enc a).length=1)(hzs:zv.cells.size=1)
(hs:∀v',Fy Hs (AD e 1 v' enc xs::H))(h:∀v',SL P ro K w0 N ops Hs items Q D ((t,v')::l) (AD e 1 v' enc xs::H)):SL P ro K w0 N ops Hs (.cons (false,o) items) Q D l H:=by
 obtain⟨h0,hb,h63,rfl⟩:=mz hn
 generalize n.toNat=m at h0 hb h63 hs h
 subst h0
 refine IR (fun b=>.slice (some ⟨b,0,none⟩) m m) (fun b=>AD e 1 (.slice (some ⟨b,0,none⟩) m m) enc (List.replicate m a)::H) ho E (fun a' w ha hw=>?_) (fun b=>hs _) (fun b=>h _)
 obtain⟨ii,hii,e1,e2,e3⟩:=Qw hsz hby hze
 have hb':(ii.bytes:Int)*(m:Int)≤281474976710656:=by rw[e2,←Int.natCast_mul];omega
 have hr:=run_make (P:=P) w ty e ii zv hty hii e3 .i64 .i64 m m zO zO hb' zO
 rw[e1]at hr
 simp only[Int.toNat_natCast]at hr
 refine⟨w.heap.size,w.alloc (.cells (madeCells zv.cells (m*1)) e),?_,?_⟩
 unfold execOp
 simp only[ho.op,ha.eval hx,Sem.run_bind,hr,Result.andThen_ok,Sem.run_pure]
 have h2:=hw.alloc (.cells (madeCells zv.cells (m*1)) e)
 have hlen:((List.replicate m a).flatMap enc).length=m*1:=by simp[h1]
 refine h2.turn rfl rfl rfl (Nat.le_refl _) (fun _ _ _=>rfl) ⟨by simp[h1],.inr ⟨w.heap.size,m,_,by simp,Nat.zero_le _,h2.holds _ (List.mem_cons_self ..),by simp,by simp only[maxLen];omega,?_,?_⟩⟩ (fun k hk=>?_)
 simp[madeCells]
 rw[mw hza h1]
 rw[List.take_of_length_le (by simp[h1])]
 have hkb:k=w.heap.size:=by simp[AD,Value.ownBlock]at hk;exact hk.symm
 subst hkb
 exact⟨.inl rfl,(h2.foot _ (List.mem_cons_self ..) _ rfl).1⟩
def Oj{κ α:Type}[DecidableEq κ](m:List (κ×α))(k:κ)(a:α):Option (List (κ×α)):=if m.length<9223372036854775807 then some (KB m k a)else none
theorem YP{κ α:Type}[DecidableEq κ]{m us:List (κ×α)}{k:κ}{a:α}(h:Oj m k a=some us):m.length<9223372036854775807∧us=KB m k a:=by
 unfold Oj at h
 split at h
 exact⟨by assumption,(zI h).symm⟩
 cases h
theorem R5{κ α:Type}[DecidableEq κ]{ek:κ→Value}{ev:α→Value}{m us:List (κ×α)}{k:TypeId}{b:Nat}{ty e:TypeId}{key:κ}{a:α}(i:Nat)(hn:Oj m key a=some us)(E9:Ot P k ek ev)(ho:At0 ops l o (.mapUpdate ty x y z))(ht:P.underlying ty=some (.map k e))(hx:B4 l x=some (.map (some b)))(hy:B4 l y=some (ek key))(hz:B4 l z=some (ev a))
(hi:H[i]? = some (Al b ek ev m))(hs:Fy Hs (H.set i (Al b ek ev us)))(h:SL P ro K w0 N ops Hs items Q D l (H.set i (Al b ek ev us))):SL P ro K w0 N ops Hs (.cons (false,o) items) Q D l H:=by
 obtain⟨hr,rfl⟩:=YP hn
 exact rJ i E9 ho ht hx hy hz hi hr hs h
structure fg where
 cnt:UInt64
 tag:List UInt8
 boots:UInt32
deriving DecidableEq
def lG(r:fg):List Value:=[Bh r.cnt,vS r.tag,AC r.boots]
structure yU where
 act:Int
 page:UInt32
 num:Int
 txt:List UInt8
 lv:Value
 fates:List Int
structure Au where
 off:Bool
 isCut:Bool
 lasts:Int
 counts:Int
 blocks:List (List UInt8)
 pend:List (UInt32×List UInt8)
 bad:List (UInt32×Bool)
 rcnt:UInt64
 rtag:List UInt8
 rboots:UInt32
structure BM where
 blk:List (List UInt8)
 pnd:List (List UInt8)
 bads:List Bool
 rcnt:UInt64
 rtag:List UInt8
 rboots:UInt32
 left:Int
 off:Bool
end

section
variable {P:Program}{ro:Option Nat}{K:Nat→Prop}{w0:World}{N:Nat}{Q:Eg}{D:List Nat}{l l':Tm}{H H' Hs L:List Ab}{ops:Array Oper}{items:I5}
variable {tk:Bool}{o:Oper}{t:Nat}{v:Value}{x y z:Operand}
theorem ZI{b off n c sz:Nat}{k:IntKind}{j:Int}{ty e:TypeId}(q:Nat)(ho:At ops N l o t (.slice ty x (some z) none none))(hty:P.underlying ty=some (.slice e))(hsz:Ee P e=some sz)(hx:B4 l x=some (.slice (some ⟨b,off,none⟩) n c))(hz:B4 l z=some (.int k j))
(hj:j=(q:Int))(hq:q≤n)(hqc:q<c)(h:SL P ro K w0 N ops Hs items Q D ((t,.slice (some ⟨b,off+q*sz,none⟩) (n-q) (c-q))::l) H):SL P ro K w0 N ops Hs (.cons (tk,o) items) Q D l H:=
 SL.val ho rfl (fun a w ha _=>by
  subst hj
  simp only[execOp,ho.op,Instr.sliceAt,Instr.slice,Option.map]
  simp[ha.eval hx,ha.eval hz,A8 hty,Dc hsz,Instr.sliceBounds,Instr.sliceBound,asIntOf,hq,Dd];omega) h
theorem kJ{b off dl dc sl sc:Nat}{c:Array Value}{e ty ty':TypeId}{ad:Addr}(i:Nat)(news:List Value)(ho:At ops N l o t (.call { callee:=.builtin .copy,args:=#[x,y],argTypes:=#[ty,ty'] }))(hty:P.underlying ty=some (.slice e))(hsz:Ee P e=some 1)
(hx:B4 l x=some (.slice (some ⟨b,off,none⟩) dl dc))(hy:B4 l y=some (.slice (some ad) sl sc))(hi:H[i]? = some (own b (.cells c e)))
(hn:news.length=Nat.min sl dl)(hnews:∀w,H5 K w0 H w→∀j u,news[j]? = some u→w.cell? (ad.add j)=some u)(h1:∀u∈news,u.oneCell'=true)(hle:off+news.length≤c.size)
(hs:Fy Hs (H.set i (own b (.cells (GQ c off news) e))))(h:SL P ro K w0 N ops Hs items Q D ((t,vI news.length)::l) (H.set i (own b (.cells (GQ c off news) e)))):SL P ro K w0 N ops Hs (.cons (false,o) items) Q D l H:=
 IR (fun _:Unit=>vI news.length) (fun _=>H.set i (own b (.cells (GQ c off news) e))) ho rfl (fun a w ha hw=>by
  have hb:w.heap[b]? = some (.cells c e (0,0)):=hw.holds _ (List.mem_append_left _ (List.mem_of_getElem? hi))
  obtain⟨w',hrun,hw'⟩:=Ni (P:=P) news off 0 c w hb (by simpa using hle) h1
  have hl:=run_loadCells_list (P:=P) w ad news (hnews w hw.dropMarks.s)
  have hs1:=Dc (w:=w) hsz
  refine⟨(),w',?_,?_⟩
  unfold execOp
  simp only[ho.op,resolve,Sem.run_bind,Sem.run_pure,Result.andThen_ok,invoke]
  simp only[List.map_toArray,List.map_cons,List.map_nil,ha.eval hx,ha.eval hy]
  simp[builtin,Builtin.copy_,A8 hty,Builtin.lenOf,Builtin.firstCells,hs1,←hn,hl,hrun,goInt]
  rw[hw']
  exact hw.putAt i hi) (fun _=>hs) (fun _=>h)
theorem mJ{α:Type}{b n:Nat}{c:Array Value}{e:TypeId}(enc:α→List Value)(sz:Nat)(xs:List α)(hn:xs.length=n)(hc:c.toList=xs.flatMap enc)(hl:∀x,(enc x).length=sz)(hm:n≤1000000)
(h:SL P ro K w0 N ops Hs items Q D l (AD e sz (.slice (some ⟨b,0,none⟩) n n) enc xs::H)):SL P ro K w0 N ops Hs items Q D l (own b (.cells c e)::H):=by
 subst hn
 exact Cp enc sz xs hc hl (Nat.ble_eq_true_of_le hm) h
end

section
variable {P:Program}{ro:Option Nat}{K:Nat→Prop}{w0:World}{N:Nat}{Q:Eg}{D:List Nat}{l l':Tm}{H H' Hs L:List Ab}{ops:Array Oper}{items:I5}
def Pm(P:Program)(K:Nat→Prop)(w0:World)(f:FuncId)(cap:List Value)(Hit G0:List Ab){α:Type}(enc:α→List Value)(xs:List α):Prop:=
 ∀(lp:Nat) (J9:List α→List Ab→Prop) (X:List Ab→Prop) (T:List Ab) (rc:Ab),
  (∀pre x suf,xs=pre++x::suf→∀G,J9 pre G→∀M,oH P K w0 lp (enc x) (G++M) fun b G'=>∃G1,G'=G1++M∧(if b then J9 (pre++[x]) G1 else X G1))→
  J9 [] (rc::G0)→Vf P K w0 f (vY lp::cap) (Hit++(rc::G0)) T fun _ M=>J9 xs M∨X M
theorem N1{α:Type}{g:Operand}{ps:Array Tmp}{assign body:Code}{f:FuncId}{cap:List Value}{Hit:List Ab}{enc:α→List Value}(xs:List α){G0:List Ab}
(J9:List α→List Ab→Prop)(X:Code→List Ab→Prop)
(hg:B4 l g=some (.func (.func f) #[] cap.toArray))(hf:AP P f=true)(hps:ps.toList.all (fun p=>Nat.blt p N)=true)(hlen:∀x,(enc x).length=ps.size)
(hseq:Pm P K w0 f cap Hit G0 enc xs)(hH:H=Hit++G0)(h0:J9 [] G0)
(hbody:∀pre x suf G,xs=pre++x::suf→J9 pre G→∀r lp Rest,SX P (some lp) K w0 N assign (bgn P lp body (jp K w0 J9 X pre x (Tl r lp Rest .busy))) [] (S7 ps.toList (enc x) l) (G++Tl r lp Rest .ready))
(hdone:∀G D,J9 xs G→SQ K w0 N Q .normal D l G)
(hstop:∀c G D,X c G→SX P none K w0 N c Q D l G):SX P none K w0 N (.rangeFunc g ps assign body) Q D l H:=by
 intro a w ha hw
 subst hH
 refine wpIn_rangeFunc fun fn _=>?_
 let r:Loop:={ state:=.ready,pending:=none,fn:=fn,tmps:=a.tmps,params:=ps,assign:=assign,body:=body,defers:=w.heap.size }
 refine⟨w.heap.size+1,[{ target:=.collected w.heap.size,args:=#[] }],(w.alloc (.deferred (some []))).alloc (.loop r),{ target:=.fn (.func f) cap.toArray,args:=#[vY (w.heap.size+1)] },(w.alloc (.deferred (some []))).alloc (.loop r),
  f,(vY (w.heap.size+1)::cap).toArray,(w.alloc (.deferred (some []))).alloc (.loop r),?_,?_,fun _ _=>O3 _ _,?_,fun hd=>by simp[QS]at hd,?_⟩
 rw[Ny];exact run_enterLoop_outer fn a.tmps ps assign body
 have hev:=ha.vals.eval hg
 simp[resolve,hev,Deferred.ofValue]
 rfl
 simp[invoke,NO hf]
 
 generalize hlp:w.heap.size+1=lp
 have hw1:Br K w0 ((Hit++(Tl r lp [] .ready++G0))++[Bp (w.heap.size::D)]) ((w.alloc (.deferred (some []))).alloc (.loop r)):=by
  have h1:=(hw.alloc (.deferred (some []))).alloc (.loop r)
  rw[World.size_alloc,hlp]at h1
  
  have hm:Br K w0 (Bp (w.heap.size::D)::own lp (.loop r)::(Hit++G0)) ((w.alloc (.deferred (some []))).alloc (.loop r)):=by
   have hp:(own lp (.loop r)::own w.heap.size (.deferred (some []))::(Hit++G0++[Bp D])).Perm (own w.heap.size (.deferred (some []))::Bp D::own lp (.loop r)::(Hit++G0)):=by
    refine(List.Perm.swap _ _ _).trans (List.Perm.cons _ ?_)
    refine(List.Perm.cons _ (List.perm_append_comm (l₁:=Hit++G0) (l₂:=[Bp D]))).trans ?_
    exact List.Perm.swap _ _ _
   have h2:=h1.perm hp
   have hpw:=List.pairwise_cons.1 h2.disj
   have hpw2:=List.pairwise_cons.1 hpw.2
   have hmk:=h2.holds (Bp D) zS
   have hnew:=h2.holds (own w.heap.size (.deferred (some []))) (List.mem_cons_self ..)
   refine⟨h2.os,h2.tape,h2.output,h2.size,h2.klt,h2.keep,?_,?_,?_⟩
   intro c hc
   rcases List.mem_cons.1 hc with rfl | hc
   refine⟨List.nodup_cons.2 ⟨fun hin=>hpw.1 (Bp D) zS _ rfl hin,hmk.1⟩,fun b hb=>?_⟩
   rcases List.mem_cons.1 hb with rfl | hb
   exact hnew
   exact hmk.2 b hb
   exact h2.holds c (by simp only[List.mem_cons]at hc ⊢;exact .inr (.inr hc))
   intro c hc b hb
   rcases List.mem_cons.1 hc with rfl | hc
   rcases List.mem_cons.1 hb with rfl | hb
   exact h2.foot (own w.heap.size (.deferred (some []))) (List.mem_cons_self ..) _ rfl
   exact h2.foot (Bp D) zS b hb
   exact h2.foot c (by simp only[List.mem_cons]at hc ⊢;exact .inr (.inr hc)) b hb
   refine List.pairwise_cons.2 ⟨fun c hc b hb hb'=>?_,hpw2.2⟩
   rcases List.mem_cons.1 hb with rfl | hb
   exact hpw.1 c (List.mem_cons_of_mem _ hc) _ rfl hb'
   exact hpw2.1 c hc b hb hb'
  refine hm.perm ?_
  have e:Tl r lp [] .ready=[own lp (.loop r)]:=rfl
  rw[e]
  refine(List.perm_append_comm (l₁:=[Bp (w.heap.size::D)])).trans (List.Perm.append_right _ ?_)
  simpa using(List.perm_middle (l₁:=Hit) (a:=own lp (.loop r)) (l₂:=G0)).symm
 have hN:∀p∈ps.toList,p<a.tmps.size:=fun p hp=>by
  rw[ha.size]
  exact JA (List.all_eq_true.1 hps p hp)
 let D':=w.heap.size::D
 have hcon:=hseq lp (fun pre Gx=>∃G,J9 pre G∧Gx=Tl r lp [] .ready++G) (fun Gx=>∃c G,X c G∧Gx=own lp (.loop { r with state:=.done,pending:=some c })::G) [Bp D'] (own lp (.loop { r with state:=.ready,pending:=none })) ?_ ⟨G0,h0,rfl⟩
 refine Ry none ((hcon _ hw1).mono ?_)
 rintro e w' ⟨v,M,rfl,hM,hw'⟩
 have hD:N2 N D' l { tmps:=a.tmps,defers:=[{ target:=.collected w.heap.size,args:=#[] }]++a.defers }:=⟨ha.size,by simp[ha.defers,D',cG],ha.vals⟩
 rcases hM with⟨G,hJ,rfl⟩ | ⟨c,G,hX,rfl⟩
 have hl:w'.heap[lp]? = some (.loop { r with state:=.ready,pending:=none }):=hw'.holds (own lp _) (by simp[Tl])
 refine⟨_,_,run_endLoop hl zS,?_⟩
 refine hdone G D' hJ _ _ hD ?_
 have h3:=(show Br K w0 (own lp (.loop { r with state:=.ready,pending:=none })::(G++[Bp D'])) w' from hw').put (o':=.loop { r with state:=.exhausted,pending:=none })
 exact h3.sublist (List.sublist_cons_self _ _)
 have hl:w'.heap[lp]? = some (.loop { r with state:=.done,pending:=some c }):=hw'.holds (own lp _) zS
 refine⟨_,_,run_endLoop hl zS,?_⟩
 refine hstop c G D' hX _ _ hD ?_
 have h3:=(show Br K w0 (own lp (.loop { r with state:=.done,pending:=some c })::(G++[Bp D'])) w' from hw').put (o':=.loop { r with state:=.exhausted,pending:=some c })
 exact h3.sublist (List.sublist_cons_self _ _)
 
 rintro pre x suf hxs Gx ⟨G,hJ,rfl⟩ M w₁ hw₁
 have hl:w₁.heap[lp]? = some (.loop { r with state:=.ready,pending:=none }):=hw₁.holds (own lp _) (by simp[Tl])
 refine⟨_,_,_,_,run_yield hl (by simp[hlen];rfl),?_⟩
 refine roundIn_of_wpIn trivial ?_
 have hw₂:Br K w0 ((G++Tl r lp M .ready)++[Bp []]) w₁:=by
  refine Br.marks0 (hw₁.perm ?_)
  show(own lp _::(G++M)).Perm (G++own lp _::M)
  exact List.perm_middle.symm
 have hzip:((ps.zip (enc x).toArray).foldl (fun tmps (t,a)=>tmps.setIfInBounds t a) a.tmps)=((ps.toList.zip (enc x)).foldl (fun tm (t,a)=>tm.setIfInBounds t a) a.tmps):=by
  rw[←Array.foldl_toList,Array.toList_zip]
 have hb:=hbody pre x suf G hxs hJ r lp M { tmps:=(ps.zip (enc x).toArray).foldl (fun tmps (t,a)=>tmps.setIfInBounds t a) a.tmps,defers:=[] } w₁
  ⟨by rw[hzip,Kz];exact ha.size,rfl,by rw[hzip];exact SR ps.toList (enc x) l a.tmps hN ha.vals⟩ hw₂
 refine wpIn_mono hb ?_
 intro e a' w' q
 cases e with
 | normal=>
  obtain⟨w₃,hbr,hbody'⟩:=q
  refine⟨w₃,hbr,wpIn_mono hbody' ?_⟩
  have fin:∀(jump:Option Code) (G':List Ab) (w₄:World),Br K w0 (G'++Tl r lp M .busy) w₄→
    (Instr.endRound lp jump).run P w₄=.ok (.bool jump.isNone) (w₄.putObj lp (.loop { r with state:=if jump.isNone then .ready else .done,pending:=jump }))∧
    Br K w0 ((own lp (.loop { r with state:=if jump.isNone then .ready else .done,pending:=jump })::G')++M) (w₄.putObj lp (.loop { r with state:=if jump.isNone then .ready else .done,pending:=jump })):=by
   intro jump G' w₄ h4
   have hl4:w₄.heap[lp]? = some (.loop { r with state:=.busy,pending:=none }):=h4.holds (own lp _) (by simp[Tl])
   refine⟨run_endRound (r:={ r with state:=.busy,pending:=none }) jump hl4,?_⟩
   have h5:Br K w0 (own lp (.loop { r with state:=.busy,pending:=none })::(G'++M)) w₄:=h4.perm List.perm_middle
   exact h5.put
  intro e₂ a₂ w₄ q₂
  cases e₂ with
  | normal=>
   obtain⟨G',hJ',h4⟩:=q₂
   obtain⟨hrun,h5⟩:=fin none G' w₄ h4
   exact⟨_,_,hrun,_,_,rfl,⟨_,rfl,by simp only[Option.isNone_none,if_true];exact⟨G',hJ',rfl⟩⟩,h5⟩
  | ret=>
   obtain⟨G',hX',h4⟩:=q₂
   obtain⟨hrun,h5⟩:=fin (some .ret) G' w₄ h4
   exact⟨_,_,hrun,_,_,rfl,⟨_,rfl,by simp only[Option.isNone_some,Bool.false_eq_true,if_false];exact⟨_,G',hX',rfl⟩⟩,h5⟩
  | exit id=>
   obtain⟨G',hX',h4⟩:=q₂
   obtain⟨hrun,h5⟩:=fin (some (.exit id)) G' w₄ h4
   exact⟨_,_,hrun,_,_,rfl,⟨_,rfl,by simp only[Option.isNone_some,Bool.false_eq_true,if_false];exact⟨_,G',hX',rfl⟩⟩,h5⟩
  | goto _=>exact q₂.elim
  | panic _=>exact q₂.elim
  | outgrown=>exact q₂.elim
 | exit _=>exact q.elim
 | goto _=>exact q.elim
 | ret=>exact q.elim
 | panic _=>exact q.elim
 | outgrown=>exact q.elim
def XF{α σ R:Type}(body:(σ→Option R)→α→σ→Option R)(fin:σ→Option R):List α→σ→Option R
 | [],s=>fin s
 | x::r,s=>body (XF body fin r) x s
theorem Y6{α:Type}{xs pre suf suf':List α}{x:α}(h:xs=pre++x::suf)(h':xs=(pre++[x])++suf'):suf'=suf:=by
 rw[h,List.append_assoc]at h'
 simpa using(List.append_cancel_left h').symm
end

section
variable {P:Program}{ro:Option Nat}{K:Nat→Prop}{w0:World}{N:Nat}{Q:Eg}{D:List Nat}{l l':Tm}{H H' Hs L:List Ab}{ops:Array Oper}{items:I5}
variable {tk:Bool}{o:Oper}{t:Nat}{v:Value}{x y z:Operand}
def yW(j:Int)(n:Nat):Option Unit:=if j<(n:Int)then some ()else none
theorem ZD{ty e:TypeId}{sz:Nat}(ho:At ops N l o t (.buildSlice ty 0 #[]))(hty:P.underlying ty=some (.slice e))(hsz:Ee P e=some sz)(hs:∀b,Fy Hs (own b (.cells #[] e)::H))
(h:∀b,SL P ro K w0 N ops Hs items Q D ((t,.slice (some ⟨b,0,none⟩) 0 0)::l) (own b (.cells #[] e)::H)):SL P ro K w0 N ops Hs (.cons (false,o) items) Q D l H:=
 IR (fun b=>.slice (some ⟨b,0,none⟩) 0 0) (fun b=>own b (.cells #[] e)::H) ho rfl (fun a w ha hw=>by
  refine⟨w.heap.size,w.alloc (.cells #[] e),?_,by exact hw.alloc _⟩
  unfold execOp
  simp only[ho.op,Instr.buildSlice,Sem.run_bind,A8 hty,Result.andThen_ok,Dc hsz,Nat.zero_mul,if_neg (show ¬(0>2^24) by omega),if_true,Sem.run_pure,show(Array.range 0)=(#[]:Array Nat)from rfl,List.map_toArray,List.map_nil,Array.map_empty,Instr.fill,newRow,run_newObj]
  rfl) hs h
def Xb(pl:List (Nat×Nat)):Array Value→List (Nat×Array Value)→Option (Array Value)
 | c,[]=>some c
 | c,(i,u)::r=>
  match pl[i]? with
  | none=>none
  | some (off,size)=>bif Nat.beq u.size size&&Nat.ble (off+u.size) c.size then Xb pl (GQ c off u.toList) r else none
theorem gQ(pl:List (Nat×Nat)):∀(is:List Nat) (vs:List Value) (c:Array Value),Rk pl c (is.zip vs)=Xb pl c (is.zip (vs.map Value.cells))
 | [],vs,c=>by simp[Rk,Xb]
 | i::is,[],c=>by simp[Rk,Xb]
 | i::is,v::vs,c=>by
  simp only[List.zip_cons_cons,List.map_cons,Rk,Xb]
  cases hi:pl[i]? with
  | none=>rfl
  | some p=>
   obtain⟨off,size⟩:=p
   simp only[gQ pl is vs]
theorem Tq{ty:TypeId}{parts:Array (Nat×Operand)}{pl:List (Nat×Nat)}{zv:Value}{r:Array Value}(vs:List Value)(css:List (Array Value))(hc:vs.map Value.cells=css)(ho:At ops N l o t (.build ty parts))(hp:NL P ty=some pl)(hk:NM P ty=true)(hz:Fk P ty=some zv)
(hv:bP l (parts.toList.map (·.2)) vs)(hf:Xb pl zv.cells ((parts.toList.map (·.1)).zip css)=some r)(h:SL P ro K w0 N ops Hs items Q D ((t,.agg r)::l) H):SL P ro K w0 N ops Hs (.cons (tk,o) items) Q D l H:=
 Cf vs ho hp hk hz hv (by rw[gQ,hc];exact hf) h
def cl(P:Program)(K:Nat→Prop)(w0:World)(f:FuncId)(cap:List Value)(Hit G0:List Ab){α:Type}(enc:α→List Value)(xs:List α):Prop:=
 ∀(lp:Nat) (J9:List α→List Ab→Prop) (X:List Ab→Prop) (T:List Ab) (rc:Ab),(∀pre G,J9 pre G→pre=[])→
  (∀pre x suf,xs=pre++x::suf→∀G,J9 pre G→∀M,oH P K w0 lp (enc x) (G++M) fun b G'=>∃G1,G'=G1++M∧(if b then J9 (pre++[x]) G1 else X G1))→
  J9 [] (rc::G0)→Vf P K w0 f (vY lp::cap) (Hit++(rc::G0)) T fun _ M=>J9 xs M∨X M
theorem ck{α:Type}{g:Operand}{ps:Array Tmp}{assign body:Code}{f:FuncId}{cap:List Value}{Hit:List Ab}{enc:α→List Value}(xs:List α){G0:List Ab}
(J9:List α→List Ab→Prop)(X:Code→List Ab→Prop)
(hg:B4 l g=some (.func (.func f) #[] cap.toArray))(hf:AP P f=true)(hps:ps.toList.all (fun p=>Nat.blt p N)=true)(hlen:∀x,(enc x).length=ps.size)
(hseq:cl P K w0 f cap Hit G0 enc xs)(hH:H=Hit++G0)(h0:J9 [] G0)(hJ1:∀pre G,J9 pre G→pre=[])
(hbody:∀pre x suf G,xs=pre++x::suf→J9 pre G→∀r lp Rest,SX P (some lp) K w0 N assign (bgn P lp body (jp K w0 J9 X pre x (Tl r lp Rest .busy))) [] (S7 ps.toList (enc x) l) (G++Tl r lp Rest .ready))
(hdone:∀G D,J9 xs G→SQ K w0 N Q .normal D l G)
(hstop:∀c G D,X c G→SX P none K w0 N c Q D l G):SX P none K w0 N (.rangeFunc g ps assign body) Q D l H:=by
 intro a w ha hw
 subst hH
 refine wpIn_rangeFunc fun fn _=>?_
 let r:Loop:={ state:=.ready,pending:=none,fn:=fn,tmps:=a.tmps,params:=ps,assign:=assign,body:=body,defers:=w.heap.size }
 refine⟨w.heap.size+1,[{ target:=.collected w.heap.size,args:=#[] }],(w.alloc (.deferred (some []))).alloc (.loop r),{ target:=.fn (.func f) cap.toArray,args:=#[vY (w.heap.size+1)] },(w.alloc (.deferred (some []))).alloc (.loop r),
  f,(vY (w.heap.size+1)::cap).toArray,(w.alloc (.deferred (some []))).alloc (.loop r),?_,?_,fun _ _=>O3 _ _,?_,fun hd=>by simp[QS]at hd,?_⟩
 rw[Ny];exact run_enterLoop_outer fn a.tmps ps assign body
 have hev:=ha.vals.eval hg
 simp[resolve,hev,Deferred.ofValue]
 rfl
 simp[invoke,NO hf]
 
 generalize hlp:w.heap.size+1=lp
 have hw1:Br K w0 ((Hit++(Tl r lp [] .ready++G0))++[Bp (w.heap.size::D)]) ((w.alloc (.deferred (some []))).alloc (.loop r)):=by
  have h1:=(hw.alloc (.deferred (some []))).alloc (.loop r)
  rw[World.size_alloc,hlp]at h1
  
  have hm:Br K w0 (Bp (w.heap.size::D)::own lp (.loop r)::(Hit++G0)) ((w.alloc (.deferred (some []))).alloc (.loop r)):=by
   have hp:(own lp (.loop r)::own w.heap.size (.deferred (some []))::(Hit++G0++[Bp D])).Perm (own w.heap.size (.deferred (some []))::Bp D::own lp (.loop r)::(Hit++G0)):=by
    refine(List.Perm.swap _ _ _).trans (List.Perm.cons _ ?_)
    refine(List.Perm.cons _ (List.perm_append_comm (l₁:=Hit++G0) (l₂:=[Bp D]))).trans ?_
    exact List.Perm.swap _ _ _
   have h2:=h1.perm hp
   have hpw:=List.pairwise_cons.1 h2.disj
   have hpw2:=List.pairwise_cons.1 hpw.2
   have hmk:=h2.holds (Bp D) zS
   have hnew:=h2.holds (own w.heap.size (.deferred (some []))) (List.mem_cons_self ..)
   refine⟨h2.os,h2.tape,h2.output,h2.size,h2.klt,h2.keep,?_,?_,?_⟩
   intro c hc
   rcases List.mem_cons.1 hc with rfl | hc
   refine⟨List.nodup_cons.2 ⟨fun hin=>hpw.1 (Bp D) zS _ rfl hin,hmk.1⟩,fun b hb=>?_⟩
   rcases List.mem_cons.1 hb with rfl | hb
   exact hnew
   exact hmk.2 b hb
   exact h2.holds c (by simp only[List.mem_cons]at hc ⊢;exact .inr (.inr hc))
   intro c hc b hb
   rcases List.mem_cons.1 hc with rfl | hc
   rcases List.mem_cons.1 hb with rfl | hb
   exact h2.foot (own w.heap.size (.deferred (some []))) (List.mem_cons_self ..) _ rfl
   exact h2.foot (Bp D) zS b hb
   exact h2.foot c (by simp only[List.mem_cons]at hc ⊢;exact .inr (.inr hc)) b hb
   refine List.pairwise_cons.2 ⟨fun c hc b hb hb'=>?_,hpw2.2⟩
   rcases List.mem_cons.1 hb with rfl | hb
   exact hpw.1 c (List.mem_cons_of_mem _ hc) _ rfl hb'
   exact hpw2.1 c hc b hb hb'
  refine hm.perm ?_
  have e:Tl r lp [] .ready=[own lp (.loop r)]:=rfl
  rw[e]
  refine(List.perm_append_comm (l₁:=[Bp (w.heap.size::D)])).trans (List.Perm.append_right _ ?_)
  simpa using(List.perm_middle (l₁:=Hit) (a:=own lp (.loop r)) (l₂:=G0)).symm
 have hN:∀p∈ps.toList,p<a.tmps.size:=fun p hp=>by
  rw[ha.size]
  exact JA (List.all_eq_true.1 hps p hp)
 let D':=w.heap.size::D
 have hcon:=hseq lp (fun pre Gx=>∃G,J9 pre G∧Gx=Tl r lp [] .ready++G) (fun Gx=>∃c G,X c G∧Gx=own lp (.loop { r with state:=.done,pending:=some c })::G) [Bp D'] (own lp (.loop { r with state:=.ready,pending:=none })) (fun pre _ h=>hJ1 pre _ h.choose_spec.1) ?_ ⟨G0,h0,rfl⟩
 refine Ry none ((hcon _ hw1).mono ?_)
 rintro e w' ⟨v,M,rfl,hM,hw'⟩
 have hD:N2 N D' l { tmps:=a.tmps,defers:=[{ target:=.collected w.heap.size,args:=#[] }]++a.defers }:=⟨ha.size,by simp[ha.defers,D',cG],ha.vals⟩
 rcases hM with⟨G,hJ,rfl⟩ | ⟨c,G,hX,rfl⟩
 have hl:w'.heap[lp]? = some (.loop { r with state:=.ready,pending:=none }):=hw'.holds (own lp _) (by simp[Tl])
 refine⟨_,_,run_endLoop hl zS,?_⟩
 refine hdone G D' hJ _ _ hD ?_
 have h3:=(show Br K w0 (own lp (.loop { r with state:=.ready,pending:=none })::(G++[Bp D'])) w' from hw').put (o':=.loop { r with state:=.exhausted,pending:=none })
 exact h3.sublist (List.sublist_cons_self _ _)
 have hl:w'.heap[lp]? = some (.loop { r with state:=.done,pending:=some c }):=hw'.holds (own lp _) zS
 refine⟨_,_,run_endLoop hl zS,?_⟩
 refine hstop c G D' hX _ _ hD ?_
 have h3:=(show Br K w0 (own lp (.loop { r with state:=.done,pending:=some c })::(G++[Bp D'])) w' from hw').put (o':=.loop { r with state:=.exhausted,pending:=some c })
 exact h3.sublist (List.sublist_cons_self _ _)
 
 rintro pre x suf hxs Gx ⟨G,hJ,rfl⟩ M w₁ hw₁
 have hl:w₁.heap[lp]? = some (.loop { r with state:=.ready,pending:=none }):=hw₁.holds (own lp _) (by simp[Tl])
 refine⟨_,_,_,_,run_yield hl (by simp[hlen];rfl),?_⟩
 refine roundIn_of_wpIn trivial ?_
 have hw₂:Br K w0 ((G++Tl r lp M .ready)++[Bp []]) w₁:=by
  refine Br.marks0 (hw₁.perm ?_)
  show(own lp _::(G++M)).Perm (G++own lp _::M)
  exact List.perm_middle.symm
 have hzip:((ps.zip (enc x).toArray).foldl (fun tmps (t,a)=>tmps.setIfInBounds t a) a.tmps)=((ps.toList.zip (enc x)).foldl (fun tm (t,a)=>tm.setIfInBounds t a) a.tmps):=by
  rw[←Array.foldl_toList,Array.toList_zip]
 have hb:=hbody pre x suf G hxs hJ r lp M { tmps:=(ps.zip (enc x).toArray).foldl (fun tmps (t,a)=>tmps.setIfInBounds t a) a.tmps,defers:=[] } w₁
  ⟨by rw[hzip,Kz];exact ha.size,rfl,by rw[hzip];exact SR ps.toList (enc x) l a.tmps hN ha.vals⟩ hw₂
 refine wpIn_mono hb ?_
 intro e a' w' q
 cases e with
 | normal=>
  obtain⟨w₃,hbr,hbody'⟩:=q
  refine⟨w₃,hbr,wpIn_mono hbody' ?_⟩
  have fin:∀(jump:Option Code) (G':List Ab) (w₄:World),Br K w0 (G'++Tl r lp M .busy) w₄→
    (Instr.endRound lp jump).run P w₄=.ok (.bool jump.isNone) (w₄.putObj lp (.loop { r with state:=if jump.isNone then .ready else .done,pending:=jump }))∧
    Br K w0 ((own lp (.loop { r with state:=if jump.isNone then .ready else .done,pending:=jump })::G')++M) (w₄.putObj lp (.loop { r with state:=if jump.isNone then .ready else .done,pending:=jump })):=by
   intro jump G' w₄ h4
   have hl4:w₄.heap[lp]? = some (.loop { r with state:=.busy,pending:=none }):=h4.holds (own lp _) (by simp[Tl])
   refine⟨run_endRound (r:={ r with state:=.busy,pending:=none }) jump hl4,?_⟩
   have h5:Br K w0 (own lp (.loop { r with state:=.busy,pending:=none })::(G'++M)) w₄:=h4.perm List.perm_middle
   exact h5.put
  intro e₂ a₂ w₄ q₂
  cases e₂ with
  | normal=>
   obtain⟨G',hJ',h4⟩:=q₂
   obtain⟨hrun,h5⟩:=fin none G' w₄ h4
   exact⟨_,_,hrun,_,_,rfl,⟨_,rfl,by simp only[Option.isNone_none,if_true];exact⟨G',hJ',rfl⟩⟩,h5⟩
  | ret=>
   obtain⟨G',hX',h4⟩:=q₂
   obtain⟨hrun,h5⟩:=fin (some .ret) G' w₄ h4
   exact⟨_,_,hrun,_,_,rfl,⟨_,rfl,by simp only[Option.isNone_some,Bool.false_eq_true,if_false];exact⟨_,G',hX',rfl⟩⟩,h5⟩
  | exit id=>
   obtain⟨G',hX',h4⟩:=q₂
   obtain⟨hrun,h5⟩:=fin (some (.exit id)) G' w₄ h4
   exact⟨_,_,hrun,_,_,rfl,⟨_,rfl,by simp only[Option.isNone_some,Bool.false_eq_true,if_false];exact⟨_,G',hX',rfl⟩⟩,h5⟩
  | goto _=>exact q₂.elim
  | panic _=>exact q₂.elim
  | outgrown=>exact q₂.elim
 | exit _=>exact q.elim
 | goto _=>exact q.elim
 | ret=>exact q.elim
 | panic _=>exact q.elim
 | outgrown=>exact q.elim
end

section
structure Bo where
 page:UInt32
 tag:List UInt8
deriving DecidableEq
def CP(r:Bo):List Value:=[AC r.page,vS r.tag]
structure BD where
 ring:List Bf
 gen:UInt32
 boot:UInt32
 seals:UInt64
 taken:List (UInt32×Bool)
structure Bt where
 ring:List Bf
 gen:UInt32
 boot:UInt32
 num:UInt64
 taken:List Bool
abbrev dO(b:Nat)(v:Value)(m n:Nat)(d:Au):Ab:=own b (.cells #[vB d.off,vB d.isCut,vI d.lasts,vI d.counts,v,.map (some m),.map (some n),Bh d.rcnt,vS d.rtag,AC d.rboots] 102)
abbrev vO(b e:Nat)(v:Value)(m:Nat)(d:BD):Ab:=own b (.cells #[vP e 0,v,AC d.gen,AC d.boot,Bh d.seals,.map (some m)] 137)
abbrev eO(b:Nat)(x y z:Value)(d:BM):Ab:=own b (.cells #[x,y,z,Bh d.rcnt,vS d.rtag,AC d.rboots,vI d.left,vB d.off] 118)
abbrev wO(b e:Nat)(v u:Value)(d:Bt):Ab:=own b (.cells #[vP e 0,v,AC d.gen,AC d.boot,Bh d.num,u] 142)
end

section
open Go Go.ChangeShapes Go.WideShapes Go.ChangeAt Go.RowKit Go.Deep Go.Lib Go.Joins
section
variable {G:Type}{enc:TypeId×Value→G}{P:Program}{W:World}
end
end
end Go.Proofs.YtpaohlmgfifebaaGreatDoor
