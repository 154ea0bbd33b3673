/- The texts T0, C0, C1, A0, D0, D1, D2, D3, B0, B1, D4, E0, E1, G0, G1, G2, H0, H1, I0, I1, R1, R2, X0, R3, V0, S14, S15, S16, S17, S18, S19, R4, one behind the other: walks of the program, and plain laws of what it computes. Conditions: as each theorem says. -/
import Derived.Test.YtjkhnhichalenaaGreatDoorXA1
import Derived.Test.YtjkhnhichalenaaGreatDoorChecked
import Derived.Maps.Range
import Derived.JoinedOf
import Derived.SliceStrings
import Derived.Deep.Slices
import Derived.HandedShaped

set_option linter.unusedVariables false
set_option linter.unusedSimpArgs false
set_option maxHeartbeats 4000000
set_option maxRecDepth 100000
namespace Go.Proofs.YtjkhnhichalenaaGreatDoor
open Go
section
abbrev zC:=TP Tryz.prog
set_option maxRecDepth 100000
theorem DC:Tryz.prog.follows .mixedOrders=true:=zK
theorem Ky:Ng Tryz.prog 114=some 2:=zK
theorem FU:Ng Tryz.prog 164=some 3:=zK
theorem NB:Ng Tryz.prog 167=some 5:=zK
theorem C5:Ng Tryz.prog 188=some 2:=zK
theorem RX:Ng Tryz.prog 190=some 3:=zK
theorem Id:Ng Tryz.prog 200=some 5:=zK
theorem Wo:Ng Tryz.prog 238=some 8:=zK
theorem pA:Ng Tryz.prog 260=some 4:=zK
theorem TU:Ng Tryz.prog 263=some 4:=zK
theorem ZO:Ng Tryz.prog 329=some 2:=zK
theorem Gd:Ng Tryz.prog 35=some 4:=zK
theorem dW:Ng Tryz.prog 359=some 16:=zK
theorem pB:Ng Tryz.prog 366=some 8:=zK
theorem pC:Ng Tryz.prog 368=some 10:=zK
theorem dX:Ng Tryz.prog 389=some 4:=zK
theorem jZ:Ng Tryz.prog 400=some 64:=zK
theorem pD:Ng Tryz.prog 405=some 2:=zK
theorem oc:Ng Tryz.prog 43=some 3:=zK
theorem od:Ng Tryz.prog 50=some 4:=zK
theorem UB:Ng Tryz.prog 83=some 5:=zK
theorem df:O9 Tryz.prog 114=some 24:=zK
theorem ZU:O9 Tryz.prog 167=some 64:=zK
theorem pF:O9 Tryz.prog 188=some 24:=zK
theorem ji:O9 Tryz.prog 190=some 40:=zK
theorem P0:O9 Tryz.prog 33=some 4:=zK
theorem Wv:O9 Tryz.prog 35=some 32:=zK
theorem rU:O9 Tryz.prog 37=some 24:=zK
theorem rV:O9 Tryz.prog 4=some 1:=zK
theorem U6:O9 Tryz.prog 5=some 1:=zK
theorem rW:O9 Tryz.prog 83=some 40:=zK
theorem mH:O9 Tryz.prog 9=some 16:=zK
theorem dr:AM Tryz.prog 10=true:=zK
theorem Zq:AM Tryz.prog 100=true:=zK
theorem Zr:AM Tryz.prog 101=true:=zK
theorem mL:AM Tryz.prog 102=true:=zK
theorem mM:AM Tryz.prog 103=true:=zK
theorem Zs:AM Tryz.prog 105=true:=zK
theorem fT:AM Tryz.prog 106=true:=zK
theorem fU:AM Tryz.prog 107=true:=zK
theorem fV:AM Tryz.prog 108=true:=zK
theorem fW:AM Tryz.prog 109=true:=zK
theorem pJ:AM Tryz.prog 11=true:=zK
theorem mN:AM Tryz.prog 110=true:=zK
theorem mO:AM Tryz.prog 111=true:=zK
theorem mP:AM Tryz.prog 112=true:=zK
theorem fX:AM Tryz.prog 113=true:=zK
theorem mQ:AM Tryz.prog 114=true:=zK
theorem mR:AM Tryz.prog 115=true:=zK
theorem fY:AM Tryz.prog 116=true:=zK
theorem mS:AM Tryz.prog 117=true:=zK
theorem jp:AM Tryz.prog 12=true:=zK
theorem mT:AM Tryz.prog 124=true:=zK
theorem mU:AM Tryz.prog 125=true:=zK
theorem UN:AM Tryz.prog 126=true:=zK
theorem mV:AM Tryz.prog 127=true:=zK
theorem mW:AM Tryz.prog 128=true:=zK
theorem fZ:AM Tryz.prog 129=true:=zK
theorem fb:AM Tryz.prog 130=true:=zK
theorem mX:AM Tryz.prog 131=true:=zK
theorem fc:AM Tryz.prog 132=true:=zK
theorem mY:AM Tryz.prog 133=true:=zK
theorem fe:AM Tryz.prog 134=true:=zK
theorem mZ:AM Tryz.prog 135=true:=zK
theorem ff:AM Tryz.prog 136=true:=zK
theorem ma:AM Tryz.prog 137=true:=zK
theorem mc:AM Tryz.prog 138=true:=zK
theorem fg:AM Tryz.prog 139=true:=zK
theorem dt:AM Tryz.prog 14=true:=zK
theorem WP:AM Tryz.prog 140=true:=zK
theorem fh:AM Tryz.prog 141=true:=zK
theorem fi:AM Tryz.prog 142=true:=zK
theorem md:AM Tryz.prog 143=true:=zK
theorem me:AM Tryz.prog 153=true:=zK
theorem mf:AM Tryz.prog 154=true:=zK
theorem mg:AM Tryz.prog 155=true:=zK
theorem WQ:AM Tryz.prog 156=true:=zK
theorem mh:AM Tryz.prog 157=true:=zK
theorem mi:AM Tryz.prog 158=true:=zK
theorem mj:AM Tryz.prog 159=true:=zK
theorem pK:AM Tryz.prog 16=true:=zK
theorem ml:AM Tryz.prog 160=true:=zK
theorem mm:AM Tryz.prog 161=true:=zK
theorem mn:AM Tryz.prog 162=true:=zK
theorem mo:AM Tryz.prog 163=true:=zK
theorem mq:AM Tryz.prog 164=true:=zK
theorem mr:AM Tryz.prog 165=true:=zK
theorem ms:AM Tryz.prog 166=true:=zK
theorem mu:AM Tryz.prog 167=true:=zK
theorem mw:AM Tryz.prog 168=true:=zK
theorem Zt:AM Tryz.prog 169=true:=zK
theorem mz:AM Tryz.prog 170=true:=zK
theorem WR:AM Tryz.prog 171=true:=zK
theorem m0:AM Tryz.prog 172=true:=zK
theorem nA:AM Tryz.prog 176=true:=zK
theorem nB:AM Tryz.prog 177=true:=zK
theorem Zu:AM Tryz.prog 178=true:=zK
theorem nC:AM Tryz.prog 179=true:=zK
theorem nD:AM Tryz.prog 180=true:=zK
theorem nE:AM Tryz.prog 186=true:=zK
theorem pL:AM Tryz.prog 19=true:=zK
theorem nF:AM Tryz.prog 195=true:=zK
theorem nG:AM Tryz.prog 196=true:=zK
theorem nH:AM Tryz.prog 197=true:=zK
theorem nI:AM Tryz.prog 198=true:=zK
theorem nJ:AM Tryz.prog 199=true:=zK
theorem jq:AM Tryz.prog 20=true:=zK
theorem nK:AM Tryz.prog 200=true:=zK
theorem fj:AM Tryz.prog 201=true:=zK
theorem nL:AM Tryz.prog 202=true:=zK
theorem fm:AM Tryz.prog 203=true:=zK
theorem nM:AM Tryz.prog 204=true:=zK
theorem nN:AM Tryz.prog 205=true:=zK
theorem MR:AM Tryz.prog 206=true:=zK
theorem fp:AM Tryz.prog 207=true:=zK
theorem nO:AM Tryz.prog 208=true:=zK
theorem nP:AM Tryz.prog 209=true:=zK
theorem nQ:AM Tryz.prog 210=true:=zK
theorem nR:AM Tryz.prog 211=true:=zK
theorem nS:AM Tryz.prog 212=true:=zK
theorem nT:AM Tryz.prog 213=true:=zK
theorem nU:AM Tryz.prog 214=true:=zK
theorem fq:AM Tryz.prog 215=true:=zK
theorem nV:AM Tryz.prog 216=true:=zK
theorem MS:AM Tryz.prog 217=true:=zK
theorem nW:AM Tryz.prog 218=true:=zK
theorem nX:AM Tryz.prog 219=true:=zK
theorem fr:AM Tryz.prog 220=true:=zK
theorem ft:AM Tryz.prog 221=true:=zK
theorem nY:AM Tryz.prog 222=true:=zK
theorem Zv:AM Tryz.prog 223=true:=zK
theorem nZ:AM Tryz.prog 224=true:=zK
theorem na:AM Tryz.prog 232=true:=zK
theorem fu:AM Tryz.prog 233=true:=zK
theorem nb:AM Tryz.prog 234=true:=zK
theorem Zw:AM Tryz.prog 235=true:=zK
theorem fx:AM Tryz.prog 236=true:=zK
theorem nc:AM Tryz.prog 237=true:=zK
theorem WS:AM Tryz.prog 238=true:=zK
theorem WT:AM Tryz.prog 239=true:=zK
theorem Zx:AM Tryz.prog 240=true:=zK
theorem fy:AM Tryz.prog 241=true:=zK
theorem f0:AM Tryz.prog 242=true:=zK
theorem ne:AM Tryz.prog 243=true:=zK
theorem nf:AM Tryz.prog 244=true:=zK
theorem ng:AM Tryz.prog 245=true:=zK
theorem pM:AM Tryz.prog 25=true:=zK
theorem nh:AM Tryz.prog 254=true:=zK
theorem f4:AM Tryz.prog 255=true:=zK
theorem ni:AM Tryz.prog 256=true:=zK
theorem nj:AM Tryz.prog 257=true:=zK
theorem nk:AM Tryz.prog 258=true:=zK
theorem f5:AM Tryz.prog 259=true:=zK
theorem pN:AM Tryz.prog 26=true:=zK
theorem Zy:AM Tryz.prog 260=true:=zK
theorem nl:AM Tryz.prog 261=true:=zK
theorem pO:AM Tryz.prog 27=true:=zK
theorem nm:AM Tryz.prog 271=true:=zK
theorem nn:AM Tryz.prog 272=true:=zK
theorem f6:AM Tryz.prog 273=true:=zK
theorem np:AM Tryz.prog 274=true:=zK
theorem f7:AM Tryz.prog 275=true:=zK
theorem nq:AM Tryz.prog 276=true:=zK
theorem nr:AM Tryz.prog 277=true:=zK
theorem nt:AM Tryz.prog 278=true:=zK
theorem jr:AM Tryz.prog 28=true:=zK
theorem nu:AM Tryz.prog 285=true:=zK
theorem Sh:AM Tryz.prog 286=true:=zK
theorem nw:AM Tryz.prog 287=true:=zK
theorem ny:AM Tryz.prog 288=true:=zK
theorem nz:AM Tryz.prog 289=true:=zK
theorem pP:AM Tryz.prog 29=true:=zK
theorem f8:AM Tryz.prog 290=true:=zK
theorem XE:AM Tryz.prog 30=true:=zK
theorem n6:AM Tryz.prog 302=true:=zK
theorem n7:AM Tryz.prog 303=true:=zK
theorem f9:AM Tryz.prog 304=true:=zK
theorem gA:AM Tryz.prog 305=true:=zK
theorem n8:AM Tryz.prog 306=true:=zK
theorem n9:AM Tryz.prog 307=true:=zK
theorem oA:AM Tryz.prog 309=true:=zK
theorem pQ:AM Tryz.prog 31=true:=zK
theorem PK:AM Tryz.prog 310=true:=zK
theorem NW:AM Tryz.prog 311=true:=zK
theorem oB:AM Tryz.prog 316=true:=zK
theorem oC:AM Tryz.prog 317=true:=zK
theorem Zz:AM Tryz.prog 318=true:=zK
theorem oD:AM Tryz.prog 319=true:=zK
theorem pR:AM Tryz.prog 32=true:=zK
theorem NX:AM Tryz.prog 320=true:=zK
theorem oE:AM Tryz.prog 321=true:=zK
theorem gB:AM Tryz.prog 322=true:=zK
theorem gC:AM Tryz.prog 323=true:=zK
theorem WU:AM Tryz.prog 325=true:=zK
theorem pS:AM Tryz.prog 33=true:=zK
theorem js:AM Tryz.prog 34=true:=zK
theorem du:AM Tryz.prog 35=true:=zK
theorem pT:AM Tryz.prog 37=true:=zK
theorem Ro:AM Tryz.prog 39=true:=zK
theorem pU:AM Tryz.prog 40=true:=zK
theorem jt:AM Tryz.prog 41=true:=zK
theorem ju:AM Tryz.prog 42=true:=zK
theorem jv:AM Tryz.prog 43=true:=zK
theorem pV:AM Tryz.prog 44=true:=zK
theorem jw:AM Tryz.prog 45=true:=zK
theorem pW:AM Tryz.prog 46=true:=zK
theorem pX:AM Tryz.prog 47=true:=zK
theorem pY:AM Tryz.prog 48=true:=zK
theorem pZ:AM Tryz.prog 49=true:=zK
theorem pb:AM Tryz.prog 50=true:=zK
theorem pc:AM Tryz.prog 51=true:=zK
theorem pf:AM Tryz.prog 52=true:=zK
theorem pg:AM Tryz.prog 53=true:=zK
theorem ph:AM Tryz.prog 54=true:=zK
theorem jx:AM Tryz.prog 56=true:=zK
theorem jy:AM Tryz.prog 58=true:=zK
theorem Rp:AM Tryz.prog 59=true:=zK
theorem rX:AM Tryz.prog 6=true:=zK
theorem Z0:AM Tryz.prog 60=true:=zK
theorem Pc:AM Tryz.prog 61=true:=zK
theorem dw:AM Tryz.prog 62=true:=zK
theorem pi:AM Tryz.prog 63=true:=zK
theorem pj:AM Tryz.prog 64=true:=zK
theorem pm:AM Tryz.prog 65=true:=zK
theorem jz:AM Tryz.prog 66=true:=zK
theorem j0:AM Tryz.prog 67=true:=zK
theorem j5:AM Tryz.prog 68=true:=zK
theorem dx:AM Tryz.prog 69=true:=zK
theorem oe:AM Tryz.prog 7=true:=zK
theorem Z1:AM Tryz.prog 70=true:=zK
theorem j6:AM Tryz.prog 71=true:=zK
theorem pn:AM Tryz.prog 72=true:=zK
theorem pp:AM Tryz.prog 73=true:=zK
theorem pq:AM Tryz.prog 74=true:=zK
theorem pr:AM Tryz.prog 75=true:=zK
theorem dy:AM Tryz.prog 76=true:=zK
theorem XF:AM Tryz.prog 77=true:=zK
theorem pu:AM Tryz.prog 78=true:=zK
theorem j7:AM Tryz.prog 79=true:=zK
theorem og:AM Tryz.prog 8=true:=zK
theorem pv:AM Tryz.prog 83=true:=zK
theorem dz:AM Tryz.prog 85=true:=zK
theorem pw:AM Tryz.prog 86=true:=zK
theorem px:AM Tryz.prog 87=true:=zK
theorem Z2:AM Tryz.prog 88=true:=zK
theorem j8:AM Tryz.prog 89=true:=zK
theorem oh:AM Tryz.prog 9=true:=zK
theorem py:AM Tryz.prog 90=true:=zK
theorem pz:AM Tryz.prog 91=true:=zK
theorem p9:AM Tryz.prog 92=true:=zK
theorem qA:AM Tryz.prog 93=true:=zK
theorem j9:AM Tryz.prog 94=true:=zK
theorem kA:AM Tryz.prog 95=true:=zK
theorem Z3:AM Tryz.prog 96=true:=zK
theorem d6:AM Tryz.prog 97=true:=zK
theorem d7:AM Tryz.prog 98=true:=zK
theorem d8:AM Tryz.prog 99=true:=zK
theorem sO:Tryz.prog.cellsOf 5=1:=zK
theorem eF:eG Tryz.prog 164=some [(0,.int .u32),(1,.int .u32),(2,.int .i64)]:=zK
theorem qC:eG Tryz.prog 188=some [(0,.int .u32),(1,.string)]:=zK
theorem kH:eG Tryz.prog 35=some [(0,.int .u64),(1,.int .u32),(2,.int .u32),(3,.string)]:=zK
theorem UY:fo Tryz.prog 100 0=some 0:=zK
theorem UZ:fo Tryz.prog 100 1=some 4:=zK
theorem Ua:fo Tryz.prog 100 2=some 5:=zK
theorem LN:fo Tryz.prog 100 4=some 7:=zK
theorem P8:fo Tryz.prog 107 0=some 0:=zK
theorem P9:fo Tryz.prog 107 1=some 1:=zK
theorem cQ:fo Tryz.prog 107 2=some 2:=zK
theorem LO:fo Tryz.prog 107 3=some 3:=zK
theorem Ub:fo Tryz.prog 107 4=some 6:=zK
theorem cR:fo Tryz.prog 107 5=some 7:=zK
theorem FR:fo Tryz.prog 114 0=some 0:=zK
theorem QA:fo Tryz.prog 114 1=some 1:=zK
theorem KC:fo Tryz.prog 122 0=some 0:=zK
theorem kJ:fo Tryz.prog 122 1=some 1:=zK
theorem Uc:fo Tryz.prog 122 2=some 2:=zK
theorem kK:fo Tryz.prog 122 3=some 3:=zK
theorem Ud:fo Tryz.prog 136 0=some 0:=zK
theorem IS:fo Tryz.prog 136 1=some 1:=zK
theorem Oq:fo Tryz.prog 153 0=some 0:=zK
theorem kL:fo Tryz.prog 153 1=some 1:=zK
theorem XT:fo Tryz.prog 153 2=some 2:=zK
theorem kM:fo Tryz.prog 153 3=some 3:=zK
theorem XU:fo Tryz.prog 153 4=some 4:=zK
theorem Rx:fo Tryz.prog 153 5=some 5:=zK
theorem JB:fo Tryz.prog 164 0=some 0:=zK
theorem JC:fo Tryz.prog 164 1=some 1:=zK
theorem GD:fo Tryz.prog 164 2=some 2:=zK
theorem QB:fo Tryz.prog 167 0=some 0:=zK
theorem Ry:fo Tryz.prog 167 1=some 3:=zK
theorem KD:fo Tryz.prog 167 2=some 4:=zK
theorem cS:fo Tryz.prog 181 0=some 0:=zK
theorem kN:fo Tryz.prog 181 1=some 1:=zK
theorem kO:fo Tryz.prog 181 2=some 2:=zK
theorem kP:fo Tryz.prog 181 3=some 3:=zK
theorem XV:fo Tryz.prog 181 4=some 4:=zK
theorem Ue:fo Tryz.prog 181 5=some 5:=zK
theorem FS:fo Tryz.prog 188 0=some 0:=zK
theorem Mp:fo Tryz.prog 188 1=some 1:=zK
theorem kQ:fo Tryz.prog 190 0=some 0:=zK
theorem KE:fo Tryz.prog 190 1=some 1:=zK
theorem kR:fo Tryz.prog 196 0=some 0:=zK
theorem XW:fo Tryz.prog 196 1=some 1:=zK
theorem Rz:fo Tryz.prog 196 2=some 2:=zK
theorem LP:fo Tryz.prog 200 0=some 0:=zK
theorem Uf:fo Tryz.prog 200 1=some 1:=zK
theorem Ug:fo Tryz.prog 200 2=some 2:=zK
theorem QC:fo Tryz.prog 200 3=some 3:=zK
theorem cU:fo Tryz.prog 212 0=some 0:=zK
theorem kS:fo Tryz.prog 212 1=some 1:=zK
theorem XX:fo Tryz.prog 212 2=some 2:=zK
theorem cV:fo Tryz.prog 212 3=some 3:=zK
theorem XY:fo Tryz.prog 212 4=some 4:=zK
theorem QD:fo Tryz.prog 238 0=some 0:=zK
theorem JD:fo Tryz.prog 238 1=some 1:=zK
theorem KF:fo Tryz.prog 238 2=some 4:=zK
theorem Fm:fo Tryz.prog 238 3=some 5:=zK
theorem Mq:fo Tryz.prog 238 4=some 6:=zK
theorem cW:fo Tryz.prog 263 0=some 0:=zK
theorem Uh:fo Tryz.prog 263 1=some 1:=zK
theorem XZ:fo Tryz.prog 263 2=some 2:=zK
theorem Xa:fo Tryz.prog 263 3=some 3:=zK
theorem R5:fo Tryz.prog 310 0=some 0:=zK
theorem Xb:fo Tryz.prog 335 0=some 0:=zK
theorem PO:fo Tryz.prog 35 0=some 0:=zK
theorem Lm:fo Tryz.prog 35 1=some 1:=zK
theorem Ln:fo Tryz.prog 35 2=some 2:=zK
theorem OH:fo Tryz.prog 35 3=some 3:=zK
theorem Xc:fo Tryz.prog 368 0=some 0:=zK
theorem LQ:fo Tryz.prog 368 1=some 8:=zK
theorem Ui:fo Tryz.prog 368 2=some 9:=zK
theorem PP:fo Tryz.prog 43 0=some 0:=zK
theorem aC:fo Tryz.prog 43 1=some 1:=zK
theorem PQ:fo Tryz.prog 43 2=some 2:=zK
theorem gJ:fo Tryz.prog 50 0=some 0:=zK
theorem gK:fo Tryz.prog 50 1=some 1:=zK
theorem aD:fo Tryz.prog 50 2=some 2:=zK
theorem aE:fo Tryz.prog 50 3=some 3:=zK
theorem PR:fo Tryz.prog 78 0=some 0:=zK
theorem Sj:fo Tryz.prog 78 1=some 1:=zK
theorem PS:fo Tryz.prog 80 0=some 0:=zK
theorem WX:fo Tryz.prog 80 1=some 2:=zK
theorem oF:fo Tryz.prog 80 2=some 3:=zK
theorem WY:fo Tryz.prog 83 0=some 0:=zK
theorem aF:fo Tryz.prog 83 1=some 1:=zK
theorem aG:fo Tryz.prog 91 0=some 0:=zK
theorem aH:fo Tryz.prog 91 1=some 1:=zK
theorem oG:fo Tryz.prog 91 2=some 2:=zK
theorem PT:fo Tryz.prog 94 0=some 0:=zK
theorem OI:fo Tryz.prog 94 1=some 3:=zK
theorem Sk:fo Tryz.prog 94 2=some 4:=zK
theorem gL:fo Tryz.prog 94 4=some 6:=zK
theorem aI:fo Tryz.prog 94 5=some 7:=zK
theorem gM:fo Tryz.prog 96 0=some 0:=zK
theorem gN:fo Tryz.prog 96 1=some 1:=zK
theorem aJ:fo Tryz.prog 96 2=some 2:=zK
theorem gO:fo Tryz.prog 96 3=some 3:=zK
theorem Qn:liesAt Tryz.prog Tryz.prog.depth 136 (2 / Tryz.prog.cellsOf 136) 0 136 1=true:=zK
theorem kW:liesAt Tryz.prog Tryz.prog.depth 310 (2 / Tryz.prog.cellsOf 310) 0 136 1=true:=zK
theorem aR:liesAt Tryz.prog Tryz.prog.depth 335 (2 / Tryz.prog.cellsOf 335) 0 136 1=true:=zK
theorem qI:LW Tryz.prog 100=true:=zK
theorem qJ:LW Tryz.prog 107=true:=zK
theorem Xn:LW Tryz.prog 114=true:=zK
theorem qK:LW Tryz.prog 122=true:=zK
theorem qL:LW Tryz.prog 153=true:=zK
theorem Qr:LW Tryz.prog 164=true:=zK
theorem aU:LW Tryz.prog 167=true:=zK
theorem qM:LW Tryz.prog 181=true:=zK
theorem N2:LW Tryz.prog 188=true:=zK
theorem kh:LW Tryz.prog 190=true:=zK
theorem qN:LW Tryz.prog 196=true:=zK
theorem Tn:LW Tryz.prog 200=true:=zK
theorem qO:LW Tryz.prog 212=true:=zK
theorem eU:LW Tryz.prog 238=true:=zK
theorem ki:LW Tryz.prog 263=true:=zK
theorem aV:LW Tryz.prog 329=true:=zK
theorem qP:LW Tryz.prog 330=true:=zK
theorem Xo:LW Tryz.prog 35=true:=zK
theorem qQ:LW Tryz.prog 368=true:=zK
theorem qR:LW Tryz.prog 389=true:=zK
theorem qS:LW Tryz.prog 406=true:=zK
theorem rf:LW Tryz.prog 43=true:=zK
theorem rg:LW Tryz.prog 50=true:=zK
theorem rh:LW Tryz.prog 76=true:=zK
theorem ri:LW Tryz.prog 80=true:=zK
theorem rj:LW Tryz.prog 83=true:=zK
theorem rk:LW Tryz.prog 91=true:=zK
theorem rm:LW Tryz.prog 94=true:=zK
theorem qT:LV Tryz.prog 100=some [(0,4),(4,1),(5,1),(6,1),(7,3)]:=zK
theorem qU:LV Tryz.prog 107=some [(0,1),(1,1),(2,1),(3,3),(6,1),(7,1)]:=zK
theorem Xp:LV Tryz.prog 114=some [(0,1),(1,1)]:=zK
theorem qV:LV Tryz.prog 122=some [(0,1),(1,1),(2,1),(3,1),(4,1)]:=zK
theorem qW:LV Tryz.prog 153=some [(0,1),(1,1),(2,1),(3,1),(4,1),(5,1)]:=zK
theorem Qs:LV Tryz.prog 164=some [(0,1),(1,1),(2,1)]:=zK
theorem aW:LV Tryz.prog 167=some [(0,3),(3,1),(4,1)]:=zK
theorem qX:LV Tryz.prog 181=some [(0,1),(1,1),(2,1),(3,1),(4,1),(5,1)]:=zK
theorem N3:LV Tryz.prog 188=some [(0,1),(1,1)]:=zK
theorem kj:LV Tryz.prog 190=some [(0,1),(1,2)]:=zK
theorem qY:LV Tryz.prog 196=some [(0,1),(1,1),(2,1)]:=zK
theorem To:LV Tryz.prog 200=some [(0,1),(1,1),(2,1),(3,2)]:=zK
theorem qZ:LV Tryz.prog 212=some [(0,1),(1,1),(2,1),(3,1),(4,1),(5,1)]:=zK
theorem eV:LV Tryz.prog 238=some [(0,1),(1,3),(4,1),(5,1),(6,2)]:=zK
theorem kl:LV Tryz.prog 263=some [(0,1),(1,1),(2,1),(3,1)]:=zK
theorem aX:LV Tryz.prog 329=some [(0,1),(1,1)]:=zK
theorem qa:LV Tryz.prog 330=some [(0,2),(2,2),(4,2),(6,2)]:=zK
theorem Xq:LV Tryz.prog 35=some [(0,1),(1,1),(2,1),(3,1)]:=zK
theorem qb:LV Tryz.prog 368=some [(0,8),(8,1),(9,1)]:=zK
theorem qc:LV Tryz.prog 389=some [(0,1),(1,1),(2,1),(3,1)]:=zK
theorem qe:LV Tryz.prog 406=some [(0,2),(2,2)]:=zK
theorem rn:LV Tryz.prog 43=some [(0,1),(1,1),(2,1)]:=zK
theorem rq:LV Tryz.prog 50=some [(0,1),(1,1),(2,1),(3,1)]:=zK
theorem rr:LV Tryz.prog 76=some [(0,1),(1,1),(2,1),(3,1)]:=zK
theorem rz:LV Tryz.prog 80=some [(0,2),(2,1),(3,1)]:=zK
theorem r5:LV Tryz.prog 83=some [(0,1),(1,4)]:=zK
theorem r6:LV Tryz.prog 91=some [(0,1),(1,1),(2,1)]:=zK
theorem r7:LV Tryz.prog 94=some [(0,3),(3,1),(4,1),(5,1),(6,1),(7,1)]:=zK
theorem VR:JF Tryz.prog 105=true:=zK
theorem Pn:JF Tryz.prog 112=true:=zK
theorem NR:JF Tryz.prog 117=true:=zK
theorem en:JF Tryz.prog 120=true:=zK
theorem qg:JF Tryz.prog 123=true:=zK
theorem eo:JF Tryz.prog 134=true:=zK
theorem Tt:JF Tryz.prog 165=true:=zK
theorem ky:JF Tryz.prog 183=true:=zK
theorem aj:JF Tryz.prog 191=true:=zK
theorem qh:JF Tryz.prog 194=true:=zK
theorem K9:JF Tryz.prog 236=true:=zK
theorem gX:JF Tryz.prog 24=true:=zK
theorem M5:JF Tryz.prog 25=true:=zK
theorem ak:JF Tryz.prog 268=true:=zK
theorem QF:JF Tryz.prog 29=true:=zK
theorem FG:JF Tryz.prog 3=true:=zK
theorem Gy:JF Tryz.prog 32=true:=zK
theorem A1:JF Tryz.prog 33=true:=zK
theorem O2:JF Tryz.prog 362=true:=zK
theorem FT:JF Tryz.prog 37=true:=zK
theorem VT:JF Tryz.prog 4=true:=zK
theorem PX:JF Tryz.prog 40=true:=zK
theorem sB:JF Tryz.prog 48=true:=zK
theorem Xy:JF Tryz.prog 64=true:=zK
theorem kz:JF Tryz.prog 69=true:=zK
theorem Y6:JF Tryz.prog 74=true:=zK
theorem QG:JF Tryz.prog 88=true:=zK
theorem sC:JF Tryz.prog 89=true:=zK
theorem GL:JF Tryz.prog 9=true:=zK
theorem SK:JF Tryz.prog 92=true:=zK
theorem gY:JF Tryz.prog 97=true:=zK
theorem gZ:JF Tryz.prog 98=true:=zK
theorem qi:DD Tryz.prog 105=some 1:=zK
theorem er:DD Tryz.prog 112=some 1:=zK
theorem E2:DD Tryz.prog 114=some 2:=zK
theorem et:DD Tryz.prog 120=some 1:=zK
theorem qj:DD Tryz.prog 134=some 1:=zK
theorem ew:DD Tryz.prog 136=some 2:=zK
theorem SN:DD Tryz.prog 164=some 3:=zK
theorem ar:DD Tryz.prog 165=some 1:=zK
theorem IV:DD Tryz.prog 167=some 5:=zK
theorem qk:DD Tryz.prog 183=some 1:=zK
theorem EX:DD Tryz.prog 188=some 2:=zK
theorem KM:DD Tryz.prog 190=some 3:=zK
theorem Mu:DD Tryz.prog 200=some 5:=zK
theorem ql:DD Tryz.prog 236=some 1:=zK
theorem qm:DD Tryz.prog 238=some 8:=zK
theorem qo:DD Tryz.prog 263=some 4:=zK
theorem qp:DD Tryz.prog 268=some 1:=zK
theorem dB:DD Tryz.prog 29=some 1:=zK
theorem O5:DD Tryz.prog 3=some 1:=zK
theorem gb:DD Tryz.prog 32=some 1:=zK
theorem au:DD Tryz.prog 329=some 2:=zK
theorem Bg:DD Tryz.prog 33=some 1:=zK
theorem DX:DD Tryz.prog 35=some 4:=zK
theorem k8:DD Tryz.prog 359=some 16:=zK
theorem qq:DD Tryz.prog 368=some 10:=zK
theorem JG:DD Tryz.prog 37=some 1:=zK
theorem VX:DD Tryz.prog 389=some 4:=zK
theorem RO:DD Tryz.prog 4=some 1:=zK
theorem k9:DD Tryz.prog 40=some 1:=zK
theorem qr:DD Tryz.prog 400=some 64:=zK
theorem qs:DD Tryz.prog 405=some 2:=zK
theorem sE:DD Tryz.prog 43=some 3:=zK
theorem JX:DD Tryz.prog 5=some 1:=zK
theorem sF:DD Tryz.prog 50=some 4:=zK
theorem lA:DD Tryz.prog 74=some 1:=zK
theorem X3:DD Tryz.prog 83=some 5:=zK
theorem lB:DD Tryz.prog 88=some 1:=zK
theorem HA:DD Tryz.prog 9=some 1:=zK
theorem sG:DD Tryz.prog 91=some 3:=zK
theorem SR:Tryz.prog.underlying 105=some (.slice 4):=zK
theorem CV:Tryz.prog.underlying 112=some (.slice 5):=zK
theorem qt:Tryz.prog.underlying 117=some (.pointer 153):=zK
theorem CM:Tryz.prog.underlying 120=some (.slice 33):=zK
theorem O6:Tryz.prog.underlying 130=some (.int .u64):=zK
theorem X6:Tryz.prog.underlying 134=some (.pointer 136):=zK
theorem N4:Tryz.prog.underlying 165=some (.slice 167):=zK
theorem lC:Tryz.prog.underlying 176=some (.pointer 5):=zK
theorem lD:Tryz.prog.underlying 183=some (.map 9 188):=zK
theorem sI:Tryz.prog.underlying 2=some (.int .i64):=zK
theorem lE:Tryz.prog.underlying 208=some (.map 33 190):=zK
theorem lF:Tryz.prog.underlying 225=some (.unsafePointer):=zK
theorem sJ:Tryz.prog.underlying 23=some (.pointer 80):=zK
theorem Iy:Tryz.prog.underlying 236=some (.slice 188):=zK
theorem gd:Tryz.prog.underlying 24=some (.pointer 94):=zK
theorem V3:Tryz.prog.underlying 25=some (.pointer 100):=zK
theorem N5:Tryz.prog.underlying 260=some (.array 4 37):=zK
theorem VY:Tryz.prog.underlying 268=some (.slice 37):=zK
theorem IZ:Tryz.prog.underlying 3=some (.int .i64):=zK
theorem DJ:Tryz.prog.underlying 32=some (.int .u64):=zK
theorem SS:Tryz.prog.underlying 329=some (.array 2 33):=zK
theorem CJ:Tryz.prog.underlying 33=some (.int .u32):=zK
theorem ay:Tryz.prog.underlying 330=some (.array 4 329):=zK
theorem Pp:Tryz.prog.underlying 359=some (.array 16 33):=zK
theorem qu:Tryz.prog.underlying 362=some (.pointer 368):=zK
theorem lG:Tryz.prog.underlying 365=some (.array 8 33):=zK
theorem O7:Tryz.prog.underlying 366=some (.array 8 33):=zK
theorem Cq:Tryz.prog.underlying 37=some (.slice 35):=zK
theorem VZ:Tryz.prog.underlying 388=some (.array 4 3):=zK
theorem Pq:Tryz.prog.underlying 389=some (.array 4 33):=zK
theorem EY:Tryz.prog.underlying 40=some (.slice 9):=zK
theorem Q2:Tryz.prog.underlying 400=some (.array 64 33):=zK
theorem az:Tryz.prog.underlying 405=some (.array 2 3):=zK
theorem qv:Tryz.prog.underlying 406=some (.array 2 405):=zK
theorem DE:Tryz.prog.underlying 5=some (.int .u8):=zK
theorem GR:Tryz.prog.underlying 69=some (.slice 114):=zK
theorem RG:Tryz.prog.underlying 74=some (.slice 83):=zK
theorem KN:Tryz.prog.underlying 88=some (.slice 190):=zK
theorem ge:Tryz.prog.underlying 89=some (.map 33 33):=zK
theorem Cc:Tryz.prog.underlying 9=some (.string):=zK
theorem gf:Tryz.prog.underlying 92=some (.pointer 181):=zK
theorem gg:Tryz.prog.underlying 97=some (.map 33 9):=zK
theorem gh:Tryz.prog.underlying 98=some (.map 33 4):=zK
theorem q9:EC Tryz.prog 100=some (.agg #[.bool false,.bool false,.int .i64 0,.int .i64 0,zN,.map none,.map none,.int .u64 0,.string ⟨⟨[]⟩⟩,.int .u32 0]):=zK
theorem rA:EC Tryz.prog 107=some (.agg #[zN,zN,zN,.int .u64 0,.string ⟨⟨[]⟩⟩,.int .u32 0,.int .i64 0,.bool false]):=zK
theorem JZ:EC Tryz.prog 114=some (.agg #[.int .u32 0,.string ⟨⟨[]⟩⟩]):=zK
theorem rB:EC Tryz.prog 120=some zN:=zK
theorem rC:EC Tryz.prog 122=some (.agg #[.pointer none,zN,zN,zN,.bool false]):=zK
theorem YD:EC Tryz.prog 136=some (.agg #[.pointer none,zN]):=zK
theorem rD:EC Tryz.prog 153=some (.agg #[.pointer none,zN,.int .u32 0,.int .u32 0,.int .u64 0,zN]):=zK
theorem L6:EC Tryz.prog 164=some (.agg #[.int .u32 0,.int .u32 0,.int .i64 0]):=zK
theorem IY:EC Tryz.prog 167=some (.agg #[.int .u32 0,.int .u32 0,.int .i64 0,zN,zN]):=zK
theorem rE:EC Tryz.prog 181=some (.agg #[.pointer none,zN,.int .u32 0,.int .u32 0,.int .u64 0,.map none]):=zK
theorem rF:EC Tryz.prog 183=some (.map none):=zK
theorem FB:EC Tryz.prog 188=some (.agg #[.int .u32 0,.string ⟨⟨[]⟩⟩]):=zK
theorem O8:EC Tryz.prog 190=some (.agg #[.string ⟨⟨[]⟩⟩,.int .u32 0,.string ⟨⟨[]⟩⟩]):=zK
theorem rG:EC Tryz.prog 196=some (.agg #[.nilFunc,zN,.int .i64 0]):=zK
theorem LB:EC Tryz.prog 200=some (.agg #[.int .u64 0,.int .u32 0,.int .u32 0,.int .u32 0,.string ⟨⟨[]⟩⟩]):=zK
theorem rH:EC Tryz.prog 212=some (.agg #[.pointer none,zN,zN,zN,.int .i64 0,zN]):=zK
theorem bF:EC Tryz.prog 238=some (.agg #[.int .i64 0,.int .u32 0,.int .u32 0,.int .i64 0,zN,zN,.int .u32 0,.string ⟨⟨[]⟩⟩]):=zK
theorem rI:EC Tryz.prog 260=some (.agg #[zN,zN,zN,zN]):=zK
theorem fE:EC Tryz.prog 263=some (.agg #[.int .u32 0,.int .u32 0,.int .u32 0,.int .u64 0]):=zK
theorem ot:EC Tryz.prog 29=some (.int .i64 0):=zK
theorem ob:EC Tryz.prog 3=some (.int .i64 0):=zK
theorem rJ:EC Tryz.prog 310=some (.agg #[.pointer none,zN]):=zK
theorem ST:EC Tryz.prog 329=some (.agg #[.int .u32 0,.int .u32 0]):=zK
theorem Hy:EC Tryz.prog 33=some (.int .u32 0):=zK
theorem rK:EC Tryz.prog 330=some (.agg #[.int .u32 0,.int .u32 0,.int .u32 0,.int .u32 0,.int .u32 0,.int .u32 0,.int .u32 0,.int .u32 0]):=zK
theorem lU:EC Tryz.prog 335=some (.agg #[.pointer none,zN]):=zK
theorem GG:EC Tryz.prog 35=some (.agg #[.int .u64 0,.int .u32 0,.int .u32 0,.string ⟨⟨[]⟩⟩]):=zK
theorem bG:EC Tryz.prog 359=some (.agg #[.int .u32 0,.int .u32 0,.int .u32 0,.int .u32 0,.int .u32 0,.int .u32 0,.int .u32 0,.int .u32 0,.int .u32 0,.int .u32 0,.int .u32 0,.int .u32 0,.int .u32 0,.int .u32 0,.int .u32 0,.int .u32 0]):=zK
theorem rL:EC Tryz.prog 365=some (.agg #[.int .u32 0,.int .u32 0,.int .u32 0,.int .u32 0,.int .u32 0,.int .u32 0,.int .u32 0,.int .u32 0]):=zK
theorem lV:EC Tryz.prog 368=some (.agg #[.int .u32 0,.int .u32 0,.int .u32 0,.int .u32 0,.int .u32 0,.int .u32 0,.int .u32 0,.int .u32 0,.string ⟨⟨[]⟩⟩,.int .i64 0]):=zK
theorem dM:EC Tryz.prog 37=some zN:=zK
theorem rM:EC Tryz.prog 388=some (.agg #[.int .i64 0,.int .i64 0,.int .i64 0,.int .i64 0]):=zK
theorem SU:EC Tryz.prog 389=some (.agg #[.int .u32 0,.int .u32 0,.int .u32 0,.int .u32 0]):=zK
theorem i8:EC Tryz.prog 4=some (.bool false):=zK
theorem lW:EC Tryz.prog 400=some (.agg #[.int .u32 0,.int .u32 0,.int .u32 0,.int .u32 0,.int .u32 0,.int .u32 0,.int .u32 0,.int .u32 0,.int .u32 0,.int .u32 0,.int .u32 0,.int .u32 0,.int .u32 0,.int .u32 0,.int .u32 0,.int .u32 0,.int .u32 0,.int .u32 0,.int .u32 0,.int .u32 0,.int .u32 0,.int .u32 0,.int .u32 0,.int .u32 0,.int .u32 0,.int .u32 0,.int .u32 0,.int .u32 0,.int .u32 0,.int .u32 0,.int .u32 0,.int .u32 0,.int .u32 0,.int .u32 0,.int .u32 0,.int .u32 0,.int .u32 0,.int .u32 0,.int .u32 0,.int .u32 0,.int .u32 0,.int .u32 0,.int .u32 0,.int .u32 0,.int .u32 0,.int .u32 0,.int .u32 0,.int .u32 0,.int .u32 0,.int .u32 0,.int .u32 0,.int .u32 0,.int .u32 0,.int .u32 0,.int .u32 0,.int .u32 0,.int .u32 0,.int .u32 0,.int .u32 0,.int .u32 0,.int .u32 0,.int .u32 0,.int .u32 0,.int .u32 0]):=zK
theorem fF:EC Tryz.prog 405=some (.agg #[.int .i64 0,.int .i64 0]):=zK
theorem rN:EC Tryz.prog 406=some (.agg #[.int .i64 0,.int .i64 0,.int .i64 0,.int .i64 0]):=zK
theorem ou:EC Tryz.prog 43=some (.agg #[.int .u64 0,.string ⟨⟨[]⟩⟩,.int .u32 0]):=zK
theorem KP:EC Tryz.prog 5=some (.int .u8 0):=zK
theorem ov:EC Tryz.prog 50=some (.agg #[.int .u32 0,.int .u32 0,.int .u32 0,.int .u32 0]):=zK
theorem sK:EC Tryz.prog 76=some (.agg #[.pointer none,zN,.bool false,.bool false]):=zK
theorem sL:EC Tryz.prog 80=some (.agg #[zN,.bool false,.pointer none,.bool false]):=zK
theorem ZF:EC Tryz.prog 83=some (.agg #[.int .i64 0,.int .u64 0,.int .u32 0,.int .u32 0,.string ⟨⟨[]⟩⟩]):=zK
theorem Sx:EC Tryz.prog 9=some (.string ⟨⟨[]⟩⟩):=zK
theorem sM:EC Tryz.prog 91=some (.agg #[zN,zN,.map none]):=zK
theorem sN:EC Tryz.prog 94=some (.agg #[zN,zN,.map none,.pointer none,.pointer none,zN,.int .u32 0,.bool false]):=zK
end

section
variable {K:Nat→Prop}{w0:World}{H:List AX}
def kD(p:UInt32×Bool):List Value:=[AA p.1,vB p.2]
theorem Su(v:Value):zC K w0 87 [v] [] H (fun r M=>∃b,r=.func (.func 124) #[] #[vP b 0]∧M=[AL b (.cells v.cells 69)]):=by
 refine TP.enter Tryz.func87 rfl rfl ?_
 refine Y ?_
 refine Ba E E zU fun b0=>?_
 refine U E (V (Y ?_))
 refine Gz (fv:=#[]) (cv:=#[_]) E E E ?_
 refine U E (V (AK ?_))
 exact Ag (Ck E E) (Af (M:=[_]) ⟨b0,E,E⟩ fun _ h=>h)
theorem Sv(v:Value)(ks:List BK)(b:Nat)(hk:B6 K w0 Aa 2 v ks)(hv:v.cells=#[v])(hn:ks.length≤1099511627776):jW Tryz.prog K w0 124 [vP b 0] [AL b (.cells v.cells 69)] kD (K8 ks):=by
 intro lp J9 X T hy G h0
 rw[hv]
 refine TP.enter Tryz.func124 rfl rfl ?_
 refine Y (U E (V (Y (AG 0 kz E (B1 hk E GR E (J E (V (AP ?_))))))))
 refine SX.mono (BG (α:=Nat×List AX) (fun x=>x.1≤ks.length∧J9 ((K8 ks).take x.1) x.2) (fun x=>[(0,vY lp),(3,AA (KK ks x.1)),(6,v),(7,vI ks.length),(8,vI x.1)]) (fun x=>AL b (.cells #[v] 69)::(x.2++T)) (fun x=>ks.length-x.1) (fun x D hp=>?_) (0,G) ⟨Nat.zero_le _,h0⟩) tL
 obtain⟨i,G⟩:=x
 obtain⟨hi,hJ⟩:=hp
 simp only at hi hJ
 refine Y (Z E A4 (V (AH ?_)))
 refine Av E (fun hc=>?_) (fun hc=>?_)
 have hlt:i<ks.length:=by simpa using hc
 obtain⟨key,hkey⟩:=Or hlt
 have hg:=Tf ks i hlt
 rw[KG hkey]at hg
 refine AJ (AI (AH (AP (Y ?_))))
 refine QL i key hk E GR E2 E E E hkey fun be off hcell=>?_
 refine Aq (Aa key) E Ky E E (VB (hcell _)) ?_
 refine Ak E JZ zU fun b0=>?_
 refine A2 0 E E E E E2 E E E zT (V (AH (Y (J E (AF E FR (AG 0 A1 E (AF E FR (AG 0 A1 E (J E ?_)))))))))
 refine Z E (SV (b:=KK ks i)) ?_
 refine J E ?_
 refine Ce (c:=decide ((key.secret.length:Int)=32)) 19 5 24 E (fun hb k=>?_) (fun hb k=>?_) ?_
 refine AF E QA (AG 0 GL E (Bp E Cc E (Z E Bj (Ah E E E ?_))))
 exact k.mono tL
 refine AC E (AC E (AC E (AC E (Ah E E E ?_))))
 exact k.mono tL
 refine HM (M2:=[_,_]) (G:=G) (T:=T) (vs:=[_,_]) (ok:=fun G1=>J9 ((K8 ks).take (i+1)) G1) (no:=X) E E ⟨E,E,zT⟩ E ?_ (fun bb G1 hG1=>⟨zT,?_⟩)
 intro M
 have:=hy _ _ _ (Ez hg).1 G hJ M
 rw[←(Ez hg).2]at this
 have e:N1 ks i=(decide (KK ks i<key.gen)&&decide ((key.secret.length:Int)=32)):=by unfold N1;rw[KG hkey]
 rw[e]at this
 exact this
 refine CS E E (V ?_)
 refine Av E (fun hc=>?_) (fun hc=>?_)
 obtain rfl:bb=false:=by simpa using hc
 refine AK (Ab (A8 (Ab (Dz (A8 ?_)))))
 exact Ag (Dg E) (Af (M:=G1) (.inr hG1) fun _ h=>h.skip [_,_])
 obtain rfl:bb=true:=by simpa using hc
 refine AJ (AI (AQ (AF E FR (AG 0 A1 E (U E (AZ (Am (AI (AQ (Z E (Bb zO zO) (J E (AZ ?_))))))))))))
 refine Au (i+1,G1) ⟨hlt,hG1⟩ (by simp only;omega) ⟨E,by rw[KK,KG hkey];rfl,E,E,E,zT⟩ (fun w h=>h.skip [_])
 refine Ax (A3 (BZ (A5 ?_)))
 have hle:i=ks.length:=by simp at hc;omega
 exact C8 (Dg E) (Af (M:=G) (.inl (by rw[List.take_of_length_le (by rw[Ph];omega)]at hJ;exact hJ)) fun _ h=>h.skip [_])
theorem Pb(v:Value)(ks:List BK)(hk:B6 K w0 Aa 2 v ks)(hv:v.cells=#[v])(hn:ks.length≤1099511627776):zC K w0 62 [v] [] H (fun r M=>r=vB (DT ks)∧M=[]):=by
 refine TP.enter Tryz.func62 rfl rfl ?_
 refine Y (U E (V (KV (Y (J E (B1 hk E GR E (Z E Iz ?_)))))))
 refine Ak E i8 zU fun b0=>?_
 refine A2 0 E E E E RO E E E zT (V (AH (KU (AI (AH (Y (J E (BN 0 px (Su v) E ?_))))))))
 rintro _ _ ⟨b1,rfl,rfl⟩
 refine V (AP ?_)
 refine Sd (enc:=kD) (K8 ks) (fun pre G=>pre.all (·.2)=true∧G=AL b0 (.cells #[vB (decide ((ks.length:Int)≤16))] 4)::H) (fun c G=>c=.exit 0∧(K8 ks).all (·.2)=false∧G=AL b0 (.cells #[vB false] 4)::H) E mT E zV (Sv v ks b1 hk hv hn) E ⟨E,E⟩ (fun pre x suf G hxs hJ r lp Rest=>?_) (fun G D hJ=>?_) (fun c G D hX=>?_)
 obtain⟨hpre,rfl⟩:=hJ
 refine AQ (U E (AZ (KT (AP (Y (J E (CS E E (V ?_))))))))
 refine Av E (fun hc=>?_) (fun hc=>?_)
 refine Y (A2 0 E E E E RO E E E zT (V (Ax (HN ?_))))
 exact Nf ⟨E,by rw[hxs];simp at hc;simp[hc],E⟩ (fun _ h=>h)
 refine AJ (Am ?_)
 exact H5 ⟨by simp at hc;simp[hpre,hc],E⟩ (fun _ h=>h)
 obtain⟨hall,rfl⟩:=hJ
 refine Am (AI (Y (AG 0 VT E (U E (V (AK (EN ?_)))))))
 exact Ag (Ck E E) (Af (M:=[]) ⟨by simp only[DT,hall];simp;try omega,E⟩ fun _ h=>h.skip [_])
 obtain⟨rfl,hall,rfl⟩:=hX
 refine Ax (A5 (AI (Y (AG 0 VT E (U E (V (AK (EN ?_))))))))
 exact Ag (Ck E E) (Af (M:=[]) ⟨by simp only[DT,hall];simp;try omega,E⟩ fun _ h=>h.skip [_])
end

section
variable {K:Nat→Prop}{w0:World}{H:List AX}
theorem V7(k:BK)(g:UInt32)(b:Nat):zC K w0 154 [.agg (Aa k).toArray,vP b 0] [AL b (.cells #[AA g] 33)] H (fun r M=>r=vB (decide (g≤k.gen))∧M=[AL b (.cells #[AA g] 33)]):=by
 refine TP.enter Tryz.func154 rfl rfl ?_
 refine Y ?_
 refine Ba E E zU fun b0=>?_
 refine U E (V (Y (AF E FR (AG 0 A1 E (AG 1 A1 E (Z E HG (U E (V (AK ?_)))))))))
 exact Ag (Ck E E) (Af (M:=[_]) ⟨E,E⟩ fun _ h=>h.skip [_])
theorem U7(v:Value)(ks:List BK)(g:FuncId)(cap:List Value)(B:List AX)(φ:BK→Bool)(hk:B6 K w0 Aa 2 v ks)(hn:ks.length≤1099511627776)(hcal:AM Tryz.prog g=true)
(hf:∀(H:List AX) (k:BK),zC K w0 g (.agg (Aa k).toArray::cap) B H (fun r M=>r=vB (φ k)∧M=B)):
  zC K w0 153 [v,.func (.func g) #[] cap.toArray] B H (fun r M=>r=vI (if ks.findIdx φ<ks.length then(ks.findIdx φ:Int)else -1)∧M=B):=by
 refine TP.enter Tryz.func153 rfl rfl ?_
 refine Y (U E (V (AH (Y (J E (B1 hk E GR E (J E (V (AP ?_)))))))))
 refine SX.mono (BG (α:=Nat) (fun i=>i≤ks.length∧∀j y,j<i→ks[j]? = some y→φ y=false) (fun i=>[(0,v),(1,.func (.func g) #[] cap.toArray),(7,vI ks.length),(8,vI i)]) (fun i=>B++H) (fun i=>ks.length-i) (fun i D hp=>?_) 0 ⟨Nat.zero_le _,fun j y hj=>absurd hj (Nat.not_lt_zero _)⟩) tL
 obtain⟨hi,hb⟩:=hp
 refine Y (Z E A4 (V (AH ?_)))
 refine Av E (fun hc=>?_) (fun hc=>?_)
 have hlt:i<ks.length:=by simpa using hc
 obtain⟨key,hkey⟩:=Or hlt
 refine AJ (AI (AH (AP (Y (J E (U E (V (Y (J E (J E (J E ?_)))))))))))
 refine QL i key hk E GR E2 E E E hkey fun be off hcell=>?_
 refine Aq (Aa key) E Ky E E (VB (hcell _)) ?_
 refine Bd (vs:=[_]) (Hin:=B) E E ⟨E,zT⟩ hcal E E (hf _ key) ?_
 rintro _ M ⟨rfl,hM⟩
 rw[hM]
 refine⟨trivial,?_⟩
 refine V ?_
 refine Av E (fun hc2=>?_) (fun hc2=>?_)
 refine Y (J E (U E (V (AK (A8 (Ab (Dz (A8 (Ab ?_)))))))))
 exact Ag (Ck E E) (Af (M:=B) ⟨by rw[Vn hkey hc2 hb];simp[hlt],E⟩ fun _ h=>h)
 refine AJ (Am (AI (AQ (Z E (Bb zO zO) (J E (AZ ?_))))))
 refine Au (i+1) ⟨hlt,fun j y hj hy=>?_⟩ zO ⟨E,E,E,E,zT⟩
 rcases Nat.lt_or_ge j i with h | h
 exact hb j y h hy
 obtain rfl:j=i:=zO
 rw[hkey]at hy
 cases hy
 exact hc2
 refine Ax (A3 (BZ (A5 (AI (Y (U E (V (AK ?_))))))))
 have hle:i=ks.length:=by simp at hc;omega
 exact Ag (Ck rfl rfl) (Af (M:=B) ⟨by rw[cK (fun j y hy=>hb j y (by obtain⟨h,_⟩:=List.getElem?_eq_some_iff.1 hy;omega) hy)];simp,rfl⟩ fun _ h=>h)
theorem YJ(v:Value)(ks:List BK)(g:UInt32)(hk:B6 K w0 Aa 2 v ks)(hn:ks.length≤1099511627776):zC K w0 125 [v,AA g] [] H (fun r M=>r=.tuple #[vI (Lp g ks),vB (Q0 g ks)]∧M=[]):=by
 refine TP.enter Tryz.func125 rfl rfl ?_
 refine Y ?_
 refine Ba E E zU fun b0=>?_
 refine U E (U E (V (Y (J E ?_))))
 refine Gz (fv:=#[]) (cv:=#[_]) E E E ?_
 refine AS 1 me (U7 v ks 154 [vP b0 0] [_] (fun k=>decide (g≤k.gen)) hk hn mf (fun H k=>V7 k g b0)) E ?_
 change SL _ _ _ _ _ _ _ _ _ _ ((9,vI (if Lp g ks<ks.length then(Lp g ks:Int)else -1))::_) _
 generalize hpl:Lp g ks=pl
 refine U E (V (AH (Y (J E (Z E A4 (V ?_))))))
 refine Av E (fun hc=>?_) (fun hc=>?_)
 refine Y ?_
 have hnl:¬pl<ks.length:=by intro h;simp[h]at hc;omega
 have hpe:pl=ks.length:=by have:=eW g ks;omega
 refine J E (B1 hk E GR E (U E (U E (V (AK (Ab ?_))))))
 exact Ag (ES E E E) (Af (M:=[]) ⟨by simp[Q0,hpl,hpe],E⟩ fun _ h=>h.skip [_])
 have hlt:pl<ks.length:=by
  rcases Nat.lt_or_ge pl ks.length with h | h
  exact h
  simp[Nat.not_lt.2 h]at hc
 rw[if_pos hlt]
 obtain⟨key,hkey⟩:=Or hlt
 refine AJ (AI (AH (Aw DC [0] (Cz [(true,0),(true,1),(true,2),(true,3),(true,4),(true,5),(true,6),(true,7),(true,8),(true,9)]) zK (J E (J E (J E ?_))))))
 refine QL pl key hk E GR E2 E E E hkey fun be off hcell=>?_
 refine AF E FR ?_
 refine Bq E A1 E (fun w hw=>hcell _ w hw 0 _ E) ?_
 refine AG 0 A1 E (Z E M6 (U E (U E (V (AK ?_)))))
 exact Ag (ES E E E) (Af (M:=[]) ⟨by simp[Q0,hpl,hkey],E⟩ fun _ h=>h.skip [_])
theorem UG(v:Value)(ks:List BK)(g:UInt32)(hk:B6 K w0 Aa 2 v ks)(hv:v.cells=#[v])(hn:ks.length≤1099511627776):zC K w0 89 [v,AA g] [] H (fun r M=>r=.tuple #[.agg (Aa (DP ks g).1).toArray,vI (DP ks g).2]∧M=[]):=by
 refine TP.enter Tryz.func89 rfl rfl ?_
 refine Y ?_
 refine Ak E JZ zU fun b0=>?_
 refine U E (V (AH (Y (J E (AS 0 dw (Pb v ks hk hv hn) E (CS E E (V ?_)))))))
 refine Av E (fun hc=>?_) (fun hc=>?_)
 have hf:DP ks g=(GQ,40):=by unfold DP;rw[if_pos (by simpa using hc)]
 rw[hf]
 refine Y (B0 [] E Xp Xn JZ zT E (A2 0 E E E E E2 E E E zT (U E (V (AK (Ab ?_))))))
 exact Ag (D7 E (B8 0 (Aa GQ) Ky E E E E) E) (Af (M:=[]) ⟨E,E⟩ fun _ h=>h.skip [_])
 have hr:DT ks=true:=by simpa using hc
 refine AJ (AI (Y (J E (J E (AS 0 mU (YJ v ks g hk hn) E (J E (Ae E E E (Ae E E E (U E (U E (V (AH (Y ?_)))))))))))))
 refine J E (CS E E (V ?_))
 refine Av E (fun hc=>?_) (fun hc=>?_)
 have hf:DP ks g=(GQ,41):=by
  have:Q0 g ks=false:=by simpa using hc
  unfold Q0 at this
  unfold DP
  rw[hr]
  cases h:ks[Lp g ks]? with
  | none=>simp
  | some k=>rw[h]at this;simp at this;simp[this]
 rw[hf]
 refine Y (B0 [] E Xp Xn JZ zT E (A2 0 E E E E E2 E E E zT (U E (V (AK (Ab ?_))))))
 exact Ag (D7 E (B8 0 (Aa GQ) Ky E E E E) E) (Af (M:=[]) ⟨E,E⟩ fun _ h=>h.skip [_])
 have hth:Q0 g ks=true:=by simpa using hc
 obtain⟨key,hkey,hg⟩:∃key,ks[Lp g ks]? = some key∧key.gen=g:=by
  unfold Q0 at hth
  cases h:ks[Lp g ks]? with
  | none=>rw[h]at hth;cases hth
  | some k=>rw[h]at hth;exact⟨k,rfl,by simpa using hth⟩
 have hf:DP ks g=(key,0):=by
  unfold DP
  rw[hr]
  simp[hkey,hg]
 rw[hf]
 refine AJ (AI (Y (J E (J E ?_))))
 refine QL (Lp g ks) key hk E GR E2 E E E hkey fun be off hcell=>?_
 refine Aq (Aa key) E Ky E E (VB (hcell _)) (A2 0 E E E E E2 E E E zT (U E (V (AK ?_))))
 exact Ag (D7 E (B8 0 (Aa key) Ky E E E E) E) (Af (M:=[]) ⟨E,E⟩ fun _ h=>h.skip [_])
end

section
variable {K:Nat→Prop}{w0:World}{H:List AX}
theorem bw(b:List UInt8)(hb:b.length≤9223372036854775807):zC K w0 160 [vS b] [] H (fun v M=>v=vS (b.drop (b.length-32))∧M=[]):=by
 refine TP.enter Tryz.func160 rfl rfl ?_
 refine AH (AQ (U E (AZ (AI (AH (AQ (J E (J E (Bp E Cc E (Z E (Dx zO zO) (bU E E E (OU (b.length-32) E Cc E E zO zO (U E (AZ (AI (AK ?_))))))))))))))))
 exact Ag (Ck E E) (Af (M:=[]) ⟨E,E⟩ fun _ h=>h.skip [])
def Uu(x:UInt32)(k:Int):UInt32:=shl32 x (Cn k &&& 31).toNat ||| shr32 x (32-(Cn k &&& 31)).toNat
theorem HB(x:UInt32)(k:Int):zC K w0 318 [AA x,vI k] [] H (fun v M=>v=AA (Uu x k)∧M=[]):=by
 refine TP.enter Tryz.func318 rfl rfl ?_
 refine AH (AQ (U E (AZ (AI (AH (AQ (J E (BB E E (Er IZ O6) ?_))))))))
 refine Z E (OT (b:=31)) ?_
 refine U E (AZ (AI (AH (AQ (J E (J E (Z E FL.shl32 (J E (J E ?_)))))))))
 refine Z E (TO (a:=32)) ?_
 refine Z E FL.shr32 (Z E Ep (U E (AZ (AI (AK ?_)))))
 exact Ag (Ck E E) (Af (M:=[]) ⟨E,E⟩ fun _ h=>h.skip [])
end

section
variable {K:Nat→Prop}{w0:World}{H:List AX}
theorem iw:∀n:Fin 32,0<n.1→(Cn (-(n.1:Int)) &&& 31).toNat=32-n.1∧(32-(Cn (-(n.1:Int)) &&& 31)).toNat=n.1:=by decide
theorem ig(x:UInt32)(n:Nat)(h0:0<n)(h1:n<32):Uu x (-(n:Int))=Jq x n:=by
 obtain⟨e1,e2⟩:=iw ⟨n,h1⟩ h0
 simp only at e1 e2
 unfold Uu Jq
 rw[e1,e2,UInt32.or_comm]
theorem GN(x:UInt32)(n:Nat)(h0:0<n)(h1:n<32):zC K w0 320 [AA x,vI n] [] H (fun r M=>r=AA (Jq x n)∧M=[]):=by
 refine TP.enter Tryz.func320 rfl rfl ?_
 refine Y (U E (V (Y (J E (J E (jJ E E zO zO (AS 0 Zz (HB x (-(n:Int))) E (U E (V (AK ?_))))))))))
 exact Ag (Ck E E) (Af (M:=[]) ⟨by rw[ig x n h0 h1],E⟩ fun _ h=>h.skip [])
theorem YQ(s:List UInt8)(hs:s.length=64):zC K w0 319 [vS s] [] H (fun r M=>r=.agg (DK AA (Dw s))∧M=[]):=by
 refine TP.enter Tryz.func319 rfl rfl ?_
 refine Y ?_
 refine Ak E lW zU fun b0=>?_
 refine V (Y ?_)
 refine Ak E lW zU fun b1=>?_
 refine V (AH (Y (J E (V (AP ?_)))))
 refine SX.mono (BG (α:=Nat) (fun i=>i≤64) (fun i=>[(0,vS s),(2,vP b0 0),(3,vP b1 0),(8,vI i)]) (fun i=>AL b1 (.cells (DK AA (Ey s i++List.replicate (64-i) 0)) 400)::AL b0 (.cells (DK AA (List.replicate 64 0)) 400)::H) (fun i=>64-i) (fun i D hp=>?_) 0 zO) tL
 have hlen:=Lr s i
 refine Y (Z E A4 (V (AH ?_)))
 refine Av E (fun hc1=>?_) (fun hc1=>?_)
 have hi:i<64:=by simp at hc1;omega
 refine AJ (AI (AH (AP (Y (J E (U E (V (AH (Y (J E (Z E A4 (V ?_))))))))))))
 refine Av E (fun hc2=>?_) (fun hc2=>?_)
 have h16:i<16:=by simp at hc2;omega
 refine Y (J E (Z E (OO zO zO) (U E (V (AH (Aw DC [] (CF [(true,0),(true,1),(true,2),(true,3),(true,4),(true,5),(true,6),(true,7),(true,8),(true,9),(true,10),(true,11),(true,12),(true,13),(true,14),(true,15),(true,16),(true,17),(true,18),(true,19),(true,20),(true,21),(true,22),(true,23),(true,24),(true,25),(true,26)] (.last 27 .nil)) zK (J E (J E (J E (KS (4*i) E Cc E E zO zO ?_))))))))))
 refine BB E E (FD DE CJ) ?_
 refine Z E (FL.shl32 (n:=24)) ?_
 refine J E (J E (Z E (Bb zO zO) (KS ((4*i)+1) E Cc E E zO zO (BB E E (FD DE CJ) ?_))))
 refine Z E (FL.shl32 (n:=16)) ?_
 refine Z E Ep (J E (J E (Z E (Bb zO zO) (KS ((4*i)+2) E Cc E E zO zO (BB E E (FD DE CJ) ?_)))))
 refine Z E (FL.shl32 (n:=8)) ?_
 refine Z E Ep (J E (J E (Z E (Bb zO zO) (KS ((4*i)+3) E Cc E E zO zO (BB E E (FD DE CJ) (Z E Ep ?_))))))
 refine Cw (n:=i) E Q2 Bg E E zO zO ?_
 refine Bc ?_
 refine T8 (f:=AA) 0 E E E E Bg E E zQ zT ?_
 rw[Si _ _ _ 64 i hlen hi]
 refine V (Ax (A3 (A5 (AI (AQ (Z E (Bb zO zO) (J E (AZ ?_))))))))
 refine Au (i+1) zO zO ⟨E,E,E,E,zT⟩ (fun w h=>by
  have e:Qo s (Ey s i)=gm s (4*i):=by unfold Qo;rw[hlen,if_pos h16]
  rw[Ey,e]
  exact h)
 have h16:16≤i:=by simp at hc2;omega
 refine AJ (AI (AH (Aw DC [0] (Cz [(true,0),(true,1),(true,2),(true,3),(true,4),(true,5),(true,6),(true,7),(true,8),(true,9)]) zK (J E (Z E (Dx zO zO) ?_)))))
 refine Cw (n:=(i-15)) E Q2 Bg E E zO zO ?_
 refine Bq E A1 E (Cm 0 E (UD 0 zO)) (J E (Z E (Dx zO zO) ?_))
 refine Cw (n:=(i-2)) E Q2 Bg E E zO zO ?_
 refine Bq E A1 E (Cm 0 E (UD 0 zO)) (U E (U E (V (Aw DC [0] (CF [(true,0),(true,1),(true,2),(true,3),(true,4),(true,5),(true,6),(true,7),(true,8),(true,9),(true,10),(true,12),(true,15),(true,16),(true,19),(true,21),(true,24),(true,25),(false,11),(false,13),(true,14),(true,17),(true,18),(false,20),(false,22),(true,23),(true,26),(true,27),(true,28)] (.last 29 .nil)) zK (J E (J E (Z E (Dx zO zO) ?_)))))))
 refine Cw (n:=(i-16)) E Q2 Bg E E zO zO ?_
 refine Bq E A1 E (Cm 0 E (UD 0 zO)) (J E (Z E (Dx zO zO) ?_))
 refine Cw (n:=(i-7)) E Q2 Bg E E zO zO ?_
 refine Bq E A1 E (Cm 0 E (UD 0 zO)) (Z E Bv (J E (J E (J E ?_))))
 refine Z E (FL.shr32 (n:=3)) ?_
 refine J E (J E (J E ?_))
 refine Z E (FL.shr32 (n:=10)) ?_
 refine BW 0 NX (GN _ 7 zO zO) E ⟨⟨0,E⟩,zT⟩ (BW 0 NX (GN _ 18 zO zO) E ⟨⟨0,E⟩,zT⟩ (Z E Cd (Z E Cd (Z E Bv (BW 0 NX (GN _ 17 zO zO) E ⟨⟨0,E⟩,zT⟩ (BW 0 NX (GN _ 19 zO zO) E ⟨⟨0,E⟩,zT⟩ (Z E Cd ?_)))))))
 refine Z E Cd (Z E Bv ?_)
 refine Cw (n:=i) E Q2 Bg E E zO zO ?_
 refine Bc ?_
 refine T8 (f:=AA) 0 E E E E Bg E E zQ zT ?_
 rw[Si _ _ _ 64 i hlen hi]
 refine AZ (Am (AI (AQ (Z E (Bb zO zO) (J E (AZ ?_))))))
 refine Au (i+1) zO zO ⟨E,E,E,E,zT⟩ (fun w h=>by
  have e:Qo s (Ey s i)=(Ey s i).getD (i-16) 0+(Ey s i).getD (i-7) 0+k5 ((Ey s i).getD (i-15) 0)+k6 ((Ey s i).getD (i-2) 0):=by unfold Qo;rw[hlen,if_neg zO]
  rw[Ey,e]
  exact h)
 have hi:i=64:=by simp at hc1;omega
 subst hi
 refine Ax (A3 (BZ (A5 (AI (Y ?_)))))
 refine Aq ((Dw s).map AA) E jZ (by simp[Dw,hlen]) E (Cj 0 E (fun j u hu=>by simpa[DK,Dw]using hu)) ?_
 refine OA 1 E E E E qr (by simp[Dw,hlen]) (by simp[DK]) (Nh zV (Dw s)) zT ?_
 refine V (AK ?_)
 exact Ag (IU E (B8 1 ((Dw s).map AA) jZ (by simp[Dw,hlen]) E E (by simp only[List.drop_zero];exact List.take_of_length_le (by simp[Dw,hlen])))) (Af (M:=[]) ⟨E,E⟩ fun _ h=>h.skip [_,_])
end

section
variable {K:Nat→Prop}{w0:World}{H:List AX}
theorem Zn(T h:List UInt32)(tl:List Value)(s:List UInt8)(b:Nat)(e:TypeId)(hT:Sq K w0 3 T)(hTl:T.length=64)(hh:h.length=8)(hs:s.length=64):zC K w0 305 [vP b 0,vS s] [AL b (.cells (M3 AA h tl) e)] H (fun r M=>r=.tuple #[]∧M=[AL b (.cells (M3 AA (Ql T h s) tl) e)]):=by
 refine TP.enter Tryz.func305 rfl rfl ?_
 refine AH (Aw DC [0] (Cz [(true,0),(true,1),(true,2),(true,3),(true,4),(true,5),(true,6),(true,7),(true,8),(true,9),(true,10),(true,11),(true,12),(true,13),(true,14),(true,15),(true,16),(true,17),(true,18),(true,19),(true,20),(true,21),(true,22),(true,23),(true,24),(true,25),(true,26),(true,27),(true,28),(true,29),(true,30),(true,31),(true,32),(true,33),(true,34),(true,35),(true,36),(true,37),(true,38),(true,39)]) zK (J E (AT E E ?_)))
 refine Cw (n:=0) E O7 Bg E E zO zO ?_
 refine Bq E A1 E (Cm 0 E (JH 0 zO)) (J E (AT E E ?_))
 refine Cw (n:=1) E O7 Bg E E zO zO ?_
 refine Bq E A1 E (Cm 0 E (JH 0 zO)) (J E (AT E E ?_))
 refine Cw (n:=2) E O7 Bg E E zO zO ?_
 refine Bq E A1 E (Cm 0 E (JH 0 zO)) (J E (AT E E ?_))
 refine Cw (n:=3) E O7 Bg E E zO zO ?_
 refine Bq E A1 E (Cm 0 E (JH 0 zO)) (J E (AT E E ?_))
 refine Cw (n:=4) E O7 Bg E E zO zO ?_
 refine Bq E A1 E (Cm 0 E (JH 0 zO)) (J E (AT E E ?_))
 refine Cw (n:=5) E O7 Bg E E zO zO ?_
 refine Bq E A1 E (Cm 0 E (JH 0 zO)) (J E (AT E E ?_))
 refine Cw (n:=6) E O7 Bg E E zO zO ?_
 refine Bq E A1 E (Cm 0 E (JH 0 zO)) (J E (AT E E ?_))
 refine Cw (n:=7) E O7 Bg E E zO zO ?_
 refine Bq E A1 E (Cm 0 E (JH 0 zO)) (U E (U E (U E (U E (U E (U E (U E ?_)))))))
 refine U E (V (AH (Y (J E (AS 0 oD (YQ s hs) E (J E (V (AP ?_))))))))
 refine SX.mono (BG (α:=Nat) (fun i=>i≤64) (fun i=>[(0,vP b 0),(4,AA (GE T (Dw s) h i).a),(5,AA (GE T (Dw s) h i).b),(6,AA (GE T (Dw s) h i).c),(7,AA (GE T (Dw s) h i).d),(8,AA (GE T (Dw s) h i).e),(9,AA (GE T (Dw s) h i).f),(10,AA (GE T (Dw s) h i).g),(11,AA (GE T (Dw s) h i).i),(51,.agg (DK AA (Dw s))),(52,vI i)]) (fun i=>AL b (.cells (M3 AA h tl) e)::H) (fun i=>64-i) (fun i D hp=>?_) 0 zO) tL
 refine Y (Z E A4 (V (AH ?_)))
 refine Av E (fun hc1=>?_) (fun hc1=>?_)
 have hi:i<64:=by simp at hc1;omega
 have hw:(Dw s)[i]? = some ((Dw s).getD i 0):=by
  rw[List.getD_eq_getElem?_getD,List.getElem?_eq_getElem (by rw[Dw,Lr];exact hi)]
  rfl
 refine AJ (AI (AH (AP (Y (J E ?_)))))
 refine PE (i:=i) E Q2 A1 E E zO zO (Es hw) ?_
 refine U E (U E (V (AH (Aw DC [] (Cz [(true,0),(true,1),(true,3),(true,6),(true,10),(true,11),(true,12),(true,13),(true,14),(true,15),(true,16),(true,17),(true,19),(true,20),(true,21),(true,23),(false,2),(false,4),(true,5),(false,7),(true,8),(true,9),(true,18),(true,22),(true,24),(true,25)]) zK (J E (J E (J E (J E (J E ?_)))))))))
 refine J E (Z E GZ (J E (Yd E E (J E (Z E GZ (Z E Cd (J E ?_)))))))
 refine Cw (b:=3) (n:=i) E Q2 Bg E E zO zO ?_
 refine Bq E A1 E (hT.load zO) (J E (AS 0 NX (GN _ 6 zO zO) E (AS 0 NX (GN _ 11 zO zO) E (Z E Cd (AS 0 NX (GN _ 25 zO zO) E (Z E Cd (Z E Bv ?_)))))))
 refine Z E Bv (Z E Bv (Z E Bv (U E (V (Y (J E (AS 0 NX (GN _ 2 zO zO) E (J E (AS 0 NX (GN _ 13 zO zO) E ?_)))))))))
 refine Z E Cd (J E (AS 0 NX (GN _ 22 zO zO) E (Z E Cd (J E (J E (Z E GZ (J E ?_)))))))
 refine J E (Z E GZ (Z E Cd (J E (J E (Z E GZ (Z E Cd (Z E Bv ?_)))))))
 refine U E (V (AQ (J E (J E (J E (J E (J E (Z E Bv (J E ?_)))))))))
 refine J E (J E (J E (J E (Z E Bv (U E (U E (U E ?_)))))))
 refine U E (U E (U E (U E (U E (AZ (Am (AI (AQ (Z E (Bb zO zO) (J E (AZ ?_)))))))))))
 exact Au (i+1) zO zO ⟨E,E,E,E,E,E,E,E,E,E,E,zT⟩
 have hi:i=64:=by simp at hc1;omega
 subst hi
 generalize hfin:GE T (Dw s) h 64=fin
 refine Ax (A3 (BZ (A5 (AI (Y (J E (J E (J E (J E (J E (J E (J E (J E ?_)))))))))))))
 refine T5 (fin.list.map AA) rfl lG Bg rL rfl ⟨rfl,rfl,rfl,rfl,rfl,rfl,rfl,rfl,trivial⟩ rfl rfl (fun v hv=>by obtain⟨x,_,rfl⟩:=List.mem_map.1 hv;rfl) ?_
 refine J E ?_
 have hfl:fin.list.length=h.length:=by rw[hh];rfl
 refine V (AP ?_)
 refine SX.mono (BG (α:=Nat) (fun i=>i≤8) (fun i=>[(0,vP b 0),(122,.agg (DK AA fin.list)),(123,vI i)]) (fun i=>AL b (.cells (M3 AA (RF h fin.list i) tl) e)::H) (fun i=>8-i) (fun i D hp=>?_) 0 zO) tL
 refine Y (Z E A4 (V (AH ?_)))
 refine Av E (fun hc2=>?_) (fun hc2=>?_)
 have hi:i<8:=by simp at hc2;omega
 have hml:=Un h _ hfl i
 have hw:fin.list[i]? = some (fin.list.getD i 0):=by
  rw[List.getD_eq_getElem?_getD,List.getElem?_eq_getElem zO]
  rfl
 refine AJ (AI (AH (AP (Y (J E ?_)))))
 refine PE (i:=i) E lG A1 E E zO zO (Es hw) ?_
 refine U E (U E (V (Aw DC [0] (CF [(true,0),(true,1),(true,2),(true,3),(true,4),(true,5),(true,6),(true,7),(true,8)] (.last 9 .nil)) zK (J E (J E (AT E E ?_))))))
 refine Cw (n:=i) E O7 Bg E E zO zO ?_
 refine Bq E A1 E (Cm 0 E (JH 0 zO)) ?_
 rw[Yv h _ hfl i zO]
 refine J E (Z E Bv (AT E E ?_))
 refine Cw (n:=i) E O7 Bg E E zO zO ?_
 refine Bc ?_
 refine mB (f:=AA) 0 E E E E Bg E E zO zT ?_
 rw[Yw h _ hfl i zO]
 refine AZ (Am (AI (AQ (Z E (Bb zO zO) (J E (AZ ?_))))))
 exact Au (i+1) zO zO ⟨E,E,E,zT⟩
 have hi:i=8:=by simp at hc2;omega
 subst hi
 refine Ax (A3 (BZ (A5 ?_)))
 have hfull:=Xl h _ hfl
 rw[hh]at hfull
 rw[hfull,←hfin]
 exact C8 (Dg E) (Af (M:=[_]) ⟨E,E⟩ fun _ h=>h)
theorem Vl(T:List UInt32)(h:Mx)(rest s:List UInt8)(n:Int)(b:Nat)(e:TypeId)(hT:Sq K w0 3 T)(hTl:T.length=64)(hs:s.length=64):zC K w0 305 [vP b 0,vS s] [AL b (.cells (Nq h rest n) e)] H (fun r M=>r=.tuple #[]∧M=[AL b (.cells (Nq (Tg T h s) rest n) e)]):=by
 have h1:=Zn (K:=K) (w0:=w0) (H:=H) T h.list [vS rest,vI n] s b e hT hTl rfl hs
 rw[←QP (TI (T:=T) (s:=s) (show h.list.length=8 from rfl))]at h1
 exact h1
end

section
variable {K:Nat→Prop}{w0:World}{H:List AX}
def cH(p:Nat×List UInt8):List Value:=[vI p.1,vS p.2]
theorem aa(s:List UInt8)(b:Nat)(hn:s.length≤1099511627776):jW Tryz.prog K w0 321 [vP b 0] [AL b (.cells #[vS s] 9)] cH (OK s):=by
 intro lp J9 X T hy G h0
 refine TP.enter Tryz.func321 rfl rfl ?_
 refine Y (U E (V (AP ?_)))
 refine SX.mono (BG (α:=Nat×List AX) (fun x=>x.1≤s.length / 64∧J9 ((OK s).take x.1) x.2) (fun x=>[(0,vY lp),(1,vP b 0),(3,vI (64*(x.1+1):Nat))]) (fun x=>AL b (.cells #[vS s] 9)::(x.2++T)) (fun x=>s.length / 64-x.1) (fun x D hp=>?_) (0,G) ⟨Nat.zero_le _,h0⟩) tL
 obtain⟨i,G⟩:=x
 obtain⟨hi,hJ⟩:=hp
 simp only at hi hJ
 refine AH (Y (J E (AG 0 GL E (Bp E Cc E (Z E Iz (V ?_))))))
 refine Av E (fun hc1=>?_) (fun hc1=>?_)
 have hlt:i<s.length / 64:=by simp at hc1;omega
 have hg:=Vv s i hlt
 refine AJ (AI (AH (AP (Y (J E (J E (AG 0 GL E (J E (Z E (Dx zO zO) (J E (fN (64*i) (64*(i+1)) E Cc E E E zO zO zO zO ?_)))))))))))
 have ht:64*(i+1)-64*i=64:=zO
 rw[ht]
 refine HM (M2:=[_]) (G:=G) (T:=T) (vs:=[_,_]) (ok:=fun G1=>J9 ((OK s).take (i+1)) G1) (no:=X) E E ⟨E,E,zT⟩ E ?_ (fun bb G1 hG1=>⟨zT,?_⟩)
 intro M
 have:=hy _ _ _ (Ez hg).1 G hJ M
 rw[←(Ez hg).2]at this
 exact this
 refine CS E E (V ?_)
 refine Av E (fun hc2=>?_) (fun hc2=>?_)
 obtain rfl:bb=false:=by simpa using hc2
 refine AK (A8 (Ab (Dz (A8 ?_))))
 exact Ag (Dg E) (Af (M:=G1) (.inr hG1) fun _ h=>h.skip [_])
 obtain rfl:bb=true:=by simpa using hc2
 refine AJ (Am (AI (AQ (J E (Z E (Bb zO zO) (U E (AZ ?_)))))))
 refine Au (i+1,G1) ⟨hlt,hG1⟩ (by simp only;omega) ⟨E,E,?_,zT⟩
 have e:((64*(i+1):Nat):Int)+64=((64*(i+1+1):Nat):Int):=zO
 simp only[look,Nat.beq,C2]
 rw[←e]
 refine Ax (A3 (BZ (A5 ?_)))
 have hle:i=s.length / 64:=by simp at hc1;omega
 exact C8 (Dg E) (Af (M:=G) (.inl (by rw[List.take_of_length_le (by rw[Ow];omega)]at hJ;exact hJ)) fun _ h=>h.skip [_])
theorem Zo(s:List UInt8):zC K w0 306 [vS s] [] H (fun r M=>∃b,r=.func (.func 321) #[] #[vP b 0]∧M=[AL b (.cells #[vS s] 9)]):=by
 refine TP.enter Tryz.func306 rfl rfl ?_
 refine Y ?_
 refine Ba E E zU fun b0=>?_
 refine U E (V (Y ?_))
 refine Gz (fv:=#[]) (cv:=#[_]) E E E ?_
 refine U E (V (AK ?_))
 exact Ag (Ck E E) (Af (M:=[_]) ⟨b0,E,E⟩ fun _ h=>h)
theorem Zm(h:Mx)(tl:List Value)(b:Nat)(e:TypeId):zC K w0 307 [vP b 0] [AL b (.cells (M3 AA h.list tl) e)] H (fun r M=>r=vS (h.list.flatMap Ge)∧M=[AL b (.cells (M3 AA h.list tl) e)]):=by
 refine TP.enter Tryz.func307 rfl rfl ?_
 refine Y (U E (V (Y (U E (V (AH (Y (J E (J E (V (AP (Ic 5 1 ?_))))))))))))
 refine SX.mono (BG (α:=Nat×Value) (fun x=>x.1≤8) (fun x=>[(3,x.2),(6,vP b 0),(7,vI x.1)]) (fun x=>DN 5 1 x.2 (4*x.1) (((h.list.take x.1).flatMap Ge).map fun b=>EB b)::AL b (.cells (M3 AA h.list tl) e)::H) (fun x=>8-x.1) (fun x D hp=>?_) (0,zN) zD) tL
 obtain⟨i,v⟩:=x
 simp only at hp
 refine Y (Z E A4 (V (AH ?_)))
 refine Av E (fun hc1=>?_) (fun hc1=>?_)
 have hlt:i<8:=by simp at hc1;omega
 refine AJ (AI (AH (AP (Y (AT E E ?_)))))
 refine Cw (n:=i) E O7 Bg E E zO zO ?_
 refine Bq E A1 E (Cm 1 E (JH 0 hlt)) (U E (V (AQ (J E (J E ?_)))))
 refine Z E (FL.shr32 (n:=24)) ?_
 refine BB E E (Cu CJ DE) (J E ?_)
 refine Z E (FL.shr32 (n:=16)) ?_
 refine BB E E (Cu CJ DE) (J E ?_)
 refine Z E (FL.shr32 (n:=8)) ?_
 refine BB E E (Cu CJ DE) (J E (BB E E (Cu CJ DE) ?_))
 refine B9 [_,_,_,_] E CV JX KP ⟨E,E,E,E,zT⟩ E E E zX E E zU fun b0=>?_
 refine T4 1 rfl (m:=4) (news:=(Ge (h.list.getD i 0)).map fun b=>EB b) CV JX U6 KP rfl zD rfl rfl rfl rfl (Aj 0 rfl) (by intro u hu;obtain⟨x,_,rfl⟩:=List.mem_map.1 hu;rfl) zO zO zU fun v'=>?_
 refine U E (AZ (Am (AI (AQ (Z E (Bb zO zO) (J E (AZ ?_)))))))
 refine Au (i+1,v') (by simp only;omega) (by simp only;omega) ⟨E,E,E,zT⟩ (fun w hw=>by
  have e1:h.list.take (i+1)=h.list.take i++[h.list.getD i 0]:=by
   rw[List.take_add_one,List.getD_eq_getElem?_getD,List.getElem?_eq_getElem (show i<h.list.length from hlt)]
   rfl
  simp only
  rw[e1,List.flatMap_append,List.map_append]
  simp only[List.flatMap_cons,List.flatMap_nil,List.append_nil]
  exact hw.skip [_])
 have hi:i=8:=by simp at hc1;omega
 subst hi
 refine Ax (A3 (BZ (A5 (AI (Y (J E ?_))))))
 refine Wg (s:=h.list.flatMap Ge) 0 E CV DE Cc E E ?_
 refine U E (V (AK ?_))
 exact Ag (Ck E E) (Af (M:=[_]) ⟨E,E⟩ fun _ h=>h.skip [_])
end

section
variable {K:Nat→Prop}{w0:World}{H:List AX}
theorem UK(T:List UInt32)(h:Mx)(rest s:List UInt8)(n:Int)(b:Nat)(e:TypeId)(hT:Sq K w0 3 T)(hTl:T.length=64)(hr:rest.length<64)(hn:s.length≤1099511627776):zC K w0 275 [vP b 0,vS s] [AL b (.cells (Nq h rest n) e)] H (fun r M=>r=.tuple #[]∧M=[AL b (.cells (Nq (D0 T h (rest++s)).1 (D0 T h (rest++s)).2 n) e)]):=by
 refine TP.enter Tryz.func275 rfl rfl ?_
 refine Y ?_
 refine Ba E E zU fun b0=>?_
 refine Ba E E zU fun b1=>?_
 refine V (KV ?_)
 refine Wl (α:=Mx×List UInt8×List UInt8) (fun x=>D0 T x.1 (x.2.1++x.2.2)=D0 T h (rest++s)∧x.2.1.length<64∧(x.2.1≠[]→(x.2.1++x.2.2).length<64)∧x.2.2.length≤s.length) (fun x=>[(2,vP b0 0),(3,vP b1 0)]) (fun x=>AL b1 (.cells #[vS x.2.2] 9)::AL b0 (.cells #[vP b 0] 362)::AL b (.cells (Nq x.1 x.2.1 n) e)::H) ?_ (fun x hx=>?_)
 refine AH (Aw DC [0,1,2] (Cz [(true,0),(true,1),(true,2),(true,3),(true,4),(true,5),(true,6),(true,7),(true,8),(true,9),(true,10),(true,11),(true,12),(true,13),(true,14),(true,15)]) zK (AG 1 O2 E (AT E E (AF E LQ (AG 2 GL E ?_)))))
 refine Z E (Tx (t:=[])) ?_
 refine J E ?_
 refine Ce (c:=decide ((64:Int)≤(rest.length:Int)+s.length)) 13 10 23 E (fun hb k=>?_) (fun hb k=>?_) ?_
 refine AG 1 O2 E (AT E E (AF E LQ (AG 2 GL E (Bp E Cc E (AG 0 GL E (Bp E Cc E (Z E (Bb zO zO) ?_)))))))
 refine Z E Js (Ah E E E ?_)
 exact k.mono tL
 refine AC E (AC E (AC E (AC E (AC E (AC E (AC E (AC E ?_)))))))
 refine AC E (Ah E E E ?_)
 exact k.mono tL
 refine V ?_
 refine Av E (fun hc1=>?_) (fun hc1=>?_)
 have hne:rest≠[]∧64≤rest.length+s.length:=by simp at hc1;exact⟨hc1.1,by omega⟩
 refine Y (AG 1 O2 E (AT E E (AF E LQ (AG 2 GL E (Bp E Cc E (Z E (Dx zO zO) (U E (V (AH (Aw DC [0,1,2] (CF [(true,0),(true,1),(true,2),(true,3),(true,4),(true,5),(true,6),(true,7),(true,8),(true,9),(true,10)] (.last 11 .nil)) zK ?_))))))))))
 refine AG 1 O2 E (AT E E (AF E Xc (AG 1 O2 E (AT E E (AF E LQ (AG 2 GL E (AG 0 GL E ?_)))))))
 refine J E (RV (64-rest.length) E Cc E E zO zO (Z E (FM zQ) (Bc (SL.pick [2,0,1] 3 (AS 1 gA (Vl T h rest (rest++s.take (64-rest.length)) n b e hT hTl zQ) E (SL.pick [1,2,0] 3 (V (Aw DC [0,1] (CF [(true,0),(true,1),(true,2),(true,3),(true,4),(true,5),(false,6)] (.last 7 .nil)) zK (AG 1 O2 E ?_)))))))))
 refine AG 0 GL E (J E (OU (64-rest.length) E Cc E E zO zO (AT E E (AF E LQ (A2 2 E E E E HA E E E ⟨⟨0,E⟩,⟨1,E⟩,zT⟩ (Bc (A2 0 E E E E HA E E E zT (AZ ?_))))))))
 refine Sc (Tg T h (rest++s.take (64-rest.length)),[],s.drop (64-rest.length)) ⟨?_,by simp,fun h=>absurd E h,by simp⟩ tL
 have e1:rest++s=(rest++s.take (64-rest.length))++s.drop (64-rest.length):=by rw[List.append_assoc,List.take_append_drop]
 have e2:=UA (T:=T) (h:=h) (p:=rest++s.take (64-rest.length)) (s:=s.drop (64-rest.length)) zQ
 rw[e1,e2]
 rfl
 refine AJ ?_
 refine Sc (h,rest,s) ⟨E,hr,fun hne=>?_,Nat.le_refl _⟩ tL
 simp at hc1
 have:=hc1 hne
 simp
 omega
 
 obtain⟨h1,r1,s1⟩:=x
 obtain⟨hx1,hx2,hx3,hx4⟩:=hx
 simp only at hx1 hx2 hx3 hx4
 refine AH (Y (AG 1 O2 E (AT E E (AF E LQ (AG 2 GL E ?_)))))
 refine Z E (Tx (t:=[])) ?_
 refine V ?_
 refine Av E (fun hc2=>?_) (fun hc2=>?_)
 have hsh:=hx3 (by simpa using hc2)
 rw[PY hsh]at hx1
 rw[←hx1]
 refine AH (Aw DC [0,1,2] (CF [(true,0),(true,1),(true,2),(true,3),(true,4),(true,5),(true,6),(true,7)] (.last 8 .nil)) zK (AG 1 O2 E (AT E E (AF E LQ (AG 2 GL E (AG 0 GL E (Z E (FM zQ) (AT E E ?_))))))))
 refine AF E LQ (Bc (A2 2 E E E E HA E E E zT (V (AK (Ab (EN ?_))))))
 exact Ag (Dg E) (Af (M:=[_]) ⟨E,E⟩ fun _ h=>h.skip [_,_])
 have hr1:r1=[]:=by simpa using hc2
 subst hr1
 rw[List.nil_append,LC]at hx1
 rw[←hx1]
 refine AJ (AI (Y ?_))
 refine Ak E ob zU fun b2=>?_
 refine A2 0 E E E E O5 E E E zT (V (AH (KU (AI (AH (Y (AG 1 GL E (BN 0 n8 (Zo s1) E ?_))))))))
 rintro _ _ ⟨bi,rfl,rfl⟩
 refine V (AP ?_)
 refine Sd (enc:=cH) (OK s1) (fun pre G=>G=AL b2 (.cells #[vI (64*pre.length:Nat)] 3)::AL b1 (.cells #[vS s1] 9)::AL b0 (.cells #[vP b 0] 362)::AL b (.cells (Nq (GK T h1 s1 pre.length) [] n) e)::H) (fun c G=>c=.exit 0∧G=AL b2 (.cells #[vI (64*(s1.length / 64):Nat)] 3)::AL b1 (.cells #[vS s1] 9)::AL b0 (.cells #[vP b 0] 362)::AL b (.cells (Nq (GK T h1 s1 (s1.length / 64)) [] n) e)::H) E oE E zV (aa s1 bi zO) E E (fun pre x suf G hxs hJ r lp Rest=>?_) (fun G D hJ=>?_) (fun c G D hX=>?_)
 obtain rfl:=hJ
 have hget:(OK s1)[pre.length]? = some x:=by rw[hxs];simp
 have hlt:pre.length<s1.length / 64:=by
  have:=Ow s1
  rw[hxs]at this
  simp at this
  omega
 rw[Vv s1 _ hlt]at hget
 obtain rfl:=zI hget
 refine Y (U E (V (AQ (U E (AZ (KT (AP (Y (AG 2 O2 E (AT E E (AF E Xc (J E (SL.pick [3,0,1,2] 4 (AS 1 gA (Vl T (GK T h1 s1 pre.length) [] _ n b e hT hTl zQ) E ?_))))))))))))))
 refine SL.pick [1,2,3,0] 4 (V (Y (J E (A2 0 E E E E O5 E E E zT (V (Y (AG 1 GL E (Bp E Cc E (J E (Z E (Dx zO zO) (Z E A4 (V ?_))))))))))))
 refine Av E (fun hc3=>?_) (fun hc3=>?_)
 refine Ax (HN ?_)
 have e1:pre.length+1=s1.length / 64:=by simp at hc3;omega
 exact Nf (G:=_::_::_::_::H) (by rw[←e1];exact⟨E,E⟩) (fun _ h=>h)
 refine AJ (Am ?_)
 exact H5 (G:=_::_::_::_::H) (by rw[show(pre++[(64*(pre.length+1),(s1.drop (64*pre.length)).take 64)]).length=pre.length+1 by simp];rfl) (fun _ h=>h)
 obtain rfl:=hJ
 rw[Ow]
 refine Am (AI (Aw DC [0,1,2] (CF [(true,0),(true,1),(true,2),(true,3),(true,4),(true,5)] (.last 6 .nil)) zK (AG 2 O2 E (AG 1 GL E (AG 0 FG E (OU (64*(s1.length / 64)) E Cc E E zO zO (AT E E (AF E LQ (Bc (A2 3 E E E E HA E E E zT (AZ (fP ?_))))))))))))
 exact C8 (Dg E) (Af (M:=[_]) ⟨E,E⟩ fun _ h=>h.skip [_,_,_])
 obtain⟨rfl,rfl⟩:=hX
 refine Ax (A5 (AI (Aw DC [0,1,2] (CF [(true,0),(true,1),(true,2),(true,3),(true,4),(true,5)] (.last 6 .nil)) zK (AG 2 O2 E (AG 1 GL E (AG 0 FG E (OU (64*(s1.length / 64)) E Cc E E zO zO (AT E E (AF E LQ (Bc (A2 3 E E E E HA E E E zT (AZ (fP ?_)))))))))))))
 exact C8 (Dg E) (Af (M:=[_]) ⟨E,E⟩ fun _ h=>h.skip [_,_,_])
end

section
variable {K:Nat→Prop}{w0:World}{H:List AX}
def Yr(e:TypeId):Prop:=liesAt Tryz.prog Tryz.prog.depth e (2 / Tryz.prog.cellsOf e) 0 136 1=true
theorem rZ(v:Value)(w:World):(callFunc 122 [v].toArray).run Tryz.prog w=.ok (.value v) w:=by
 rw[run_callFunc_extern (e:=Extern.AbiNoEscape.same) Tryz.func122 zK zK zK zK]
 rfl
theorem YG(e:TypeId)(b:Nat)(v:Value)(hl:Yr e):zC K w0 85 [vP b 0] [AL b (.cells #[.pointer none,v] e)] H (fun r M=>r=.tuple #[]∧M=[AL b (.cells #[vP b 0,v] e)]):=by
 refine TP.enter Tryz.func85 rfl rfl ?_
 refine Y (J E (AT E E (AF E Ud (AG 0 eo E (Ed E X6 E E (V (Pz E (AQ (J E (J E ?_))))))))))
 refine mC 0 E X6 lF ew E E E E ?_
 refine jE E (vs:=[_]) ⟨E,zT⟩ (rZ _) ?_
 refine lh 0 E lF X6 ew E E hl (AT E E (AF E Ud (A2 0 E E E E qj E E E zT (AZ ?_))))
 exact C8 (Dg E) (Af (M:=[_]) ⟨E,E⟩ fun _ h=>h)
theorem YH(e:TypeId)(b:Nat)(v:Value):zC K w0 85 [vP b 0] [AL b (.cells #[vP b 0,v] e)] H (fun r M=>r=.tuple #[]∧M=[AL b (.cells #[vP b 0,v] e)]):=by
 refine TP.enter Tryz.func85 rfl rfl ?_
 refine Y (J E (AT E E (AF E Ud (AG 0 eo E (Ed E X6 E E (V (Cx E (Y (J E (AT E E ?_))))))))))
 refine AF E Ud (AG 0 eo E (J E (jI E X6 ew E E (V (Cx E (AJ ?_))))))
 exact C8 (Dg E) (Af (M:=[_]) ⟨E,E⟩ fun _ h=>h)
def OW(b:Nat)(p:Value):Prop:=p=.pointer none∨p=vP b 0
theorem QU(e:TypeId)(b:Nat)(p v:Value)(hp:OW b p)(hl:Yr e):zC K w0 85 [vP b 0] [AL b (.cells #[p,v] e)] H (fun r M=>r=.tuple #[]∧M=[AL b (.cells #[vP b 0,v] e)]):=by
 rcases hp with rfl | rfl
 exact YG e b v hl
 exact YH e b v
theorem OB(e:TypeId)(b:Nat)(p v:Value)(n:Nat)(xs:List Value)(c:UInt8)(hp:OW b p)(hl:Yr e)(hn:n+1≤140737488355328):
  zC K w0 238 [vP b 0,EB c] [AL b (.cells #[p,v] e),DN 5 1 v n xs] H
   (fun r M=>r=.nilIface∧∃v',M=[AL b (.cells #[vP b 0,v'] e),DN 5 1 v' (n+1) (xs++[EB c])]):=by
 refine TP.enter Tryz.func238 rfl rfl ?_
 refine Y (U E (V (Y (J E (AS 1 dz (QU e b p v hp hl) E (V (Y (J E (J E (AT E E (AF E IS (AG 0 Pn E ?_))))))))))))
 refine J E ?_
 refine B9 [EB c] E CV JX KP ⟨E,zT⟩ E E E zX E E zU fun b1=>?_
 refine T4 2 E (news:=[EB c]) CV JX U6 KP E zD E E E E (Aj 0 E) (by simp[Value.oneCell']) zO zO zU fun v'=>?_
 refine AT E E (AF E IS ?_)
 refine bR (fun w hw=>Xw (hw.holds _ (List.mem_append_left _ (List.mem_of_getElem? (i:=2) E)))) fun hsh=>?_
 have hc1:v'.cells=#[v']:=by rcases hsh with⟨rfl,_⟩ | ⟨g,cap,rfl,_⟩<;>rfl
 have ho1:v'.oneCell'=true:=by rcases hsh with⟨rfl,_⟩ | ⟨g,cap,rfl,_⟩<;>rfl
 refine A2 1 E E E E er (by rw[hc1];rfl) (by rw[hc1];simp[ho1]) E zT ?_
 rw[hc1]
 refine V (Y (U E (V (AK ?_))))
 exact Ag (Ck E E) (Af (M:=[_,_]) ⟨E,v',E⟩ fun _ h=>h.skip [_])
theorem Gg(e:TypeId)(b:Nat)(p v:Value)(n:Nat)(xs:List Value)(s:List UInt8)(hp:OW b p)(hl:Yr e)(hn:n+s.length≤140737488355328):
  zC K w0 59 [vP b 0,vS s] [AL b (.cells #[p,v] e),DN 5 1 v n xs] H
   (fun r M=>r=.tuple #[vI s.length,.nilIface]∧∃v',M=[AL b (.cells #[vP b 0,v'] e),DN 5 1 v' (n+s.length) (xs++s.map fun b=>EB b)]):=by
 refine TP.enter Tryz.func59 rfl rfl ?_
 refine Y (U E (U E (V (Y (J E (AS 1 dz (QU e b p v hp hl) E (V (Y (J E (J E (AT E E (AF E IS ?_))))))))))))
 refine AG 0 Pn E (J E ?_)
 refine jD 1 E CV Cc JX U6 KP E E E hn zU fun v'=>?_
 refine AT E E (AF E IS ?_)
 refine bR (fun w hw=>Xw (hw.holds _ (List.mem_append_left _ (List.mem_of_getElem? (i:=1) E)))) fun hsh=>?_
 have hc1:v'.cells=#[v']:=by rcases hsh with⟨rfl,_⟩ | ⟨g,cap,rfl,_⟩<;>rfl
 have ho1:v'.oneCell'=true:=by rcases hsh with⟨rfl,_⟩ | ⟨g,cap,rfl,_⟩<;>rfl
 refine A2 0 E E E E er (by rw[hc1];rfl) (by rw[hc1];simp[ho1]) E zT ?_
 rw[hc1]
 refine V (Y (J E (Bp E Cc E (U E (U E (V (AK ?_)))))))
 exact Ag (ES E E E) (Af (M:=[_,_]) ⟨E,v',E⟩ fun _ h=>h)
theorem ZW(e:TypeId)(b:Nat)(p v:Value)(n:Nat)(xs:List Value):
  zC K w0 60 [vP b 0] [AL b (.cells #[p,v] e),DN 5 1 v n xs] H
   (fun r M=>r=vI n∧M=[AL b (.cells #[p,v] e),DN 5 1 v n xs]):=by
 refine TP.enter Tryz.func60 rfl rfl ?_
 refine Y (U E (V (Y (J E (AT E E (AF E IS (AG 0 Pn E (bS 1 E CV E E (U E (V (AK ?_)))))))))))
 exact Ag (Ck E E) (Af (M:=[_,_]) ⟨E,E⟩ fun _ h=>h)
theorem JJ(e:TypeId)(b:Nat)(p v:Value)(n:Nat)(s:List UInt8)(hn:n≤140737488355328):
  zC K w0 61 [vP b 0] [AL b (.cells #[p,v] e),DN 5 1 v n (s.map fun b=>EB b)] H
   (fun r M=>r=vS s∧M=[AL b (.cells #[p,v] e),DN 5 1 v n (s.map fun b=>EB b)]):=by
 refine TP.enter Tryz.func61 rfl rfl ?_
 refine Y (U E (V (AH (Aw DC [0,1] (Cz [(true,0),(true,1),(true,2),(true,3),(true,5),(true,6),(true,7),(true,8),(true,9),(false,4),(false,10),(true,11)]) zK (J E (AT E E (AF E IS (AG 0 Pn E (J E (AT E E ?_))))))))))
 refine AF E IS (AG 0 Pn E (bS 1 E CV E E ?_))
 refine jR 1 E lC E E ⟨⟨0,E⟩,⟨1,E⟩,zT⟩ fun q hq=>?_
 refine jS 1 E lC sO E E hq E zO ⟨⟨0,E⟩,⟨1,E⟩,zT⟩ (U E (V (AK ?_)))
 exact Ag (Ck E E) (Af (M:=[_,_]) ⟨E,E⟩ fun _ h=>h)
end

section
variable {K:Nat→Prop}{w0:World}{H:List AX}
theorem al{y:UInt64}(h:y.toNat<4294967296):shr64 y 32=0:=by
 apply UInt64.toNat_inj.1
 have h1:y.toNat / 4294967296=0:=Nat.div_eq_of_lt h
 simp[shr64,h1]
theorem jc(n:Nat)(h:n<9223372036854775808):decide ((9223372036854775807:UInt64)<Cn n)=false:=by
 rw[decide_eq_false_iff_not,UInt64.lt_iff_toNat_lt]
 have h1:(9223372036854775807:UInt64).toNat=9223372036854775807:=by decide
 have h2:(Cn n).toNat=n:=by simp only[Cn,UInt64.toNat_ofNat'];omega
 omega
theorem ZP{y:UInt64}(h:y.toNat<4294967296):y &&& 4294967295=y:=by
 apply UInt64.toNat_inj.1
 rw[UInt64.toNat_and]
 exact Nat.and_two_pow_sub_one_of_lt_two_pow (n:=32) h
theorem jk(y:UInt64)(hy:y.toNat<4294967296):zC K w0 83 [AV 1,AV y] [] H (fun r M=>r=.tuple #[AV 0,AV y]∧M=[]):=by
 refine TP.enter Tryz.func83 rfl rfl ?_
 refine Y (U E (U E (V (Y (J E ?_)))))
 refine Z E (OT (b:=4294967295)) ?_
 refine U E (V (Y (J E ?_)))
 refine Z E (FL.shr64 (n:=32)) ?_
 refine U E (V (Y (J E ?_)))
 refine Z E (OT (b:=4294967295)) ?_
 refine U E (V (Y (J E ?_)))
 refine Z E (FL.shr64 (n:=32)) ?_
 refine U E (V (Y (J E (J E (Z E Ls (U E (V (Y (J E (J E (Z E Ls ?_)))))))))))
 refine J E ?_
 refine Z E (FL.shr64 (n:=32)) ?_
 refine Z E Hm (U E (V (Y (J E ?_))))
 refine Z E (OT (b:=4294967295)) ?_
 refine U E (V (Y (J E ?_)))
 refine Z E (FL.shr64 (n:=32)) ?_
 refine U E (V (Y (J E (J E (J E (Z E Ls (Z E Hm (U E (V (Y (J E ?_)))))))))))
 refine J E (Z E Ls (J E (Z E Hm (J E ?_))))
 refine Z E (FL.shr64 (n:=32)) ?_
 refine Z E Hm (U E (V (Y (J E (J E (Z E Ls (U E (V (AK ?_)))))))))
 have h1:shr64 y 32=0:=al hy
 have h2:y &&& 4294967295=y:=ZP hy
 have h3:shr64 (1:UInt64) 32=0:=by decide
 have h4:(1:UInt64) &&& 4294967295=1:=by decide
 have h5:shr64 (0:UInt64) 32=0:=by decide
 have h6:(0:UInt64) &&& 4294967295=0:=by decide
 refine Ag (ES E E E) (Af (M:=[]) ⟨?_,E⟩ fun _ h=>h.skip [])
 simp[h1,h2,h3,h4,h5,h6]
theorem jj(y:UInt64)(hy:y.toNat<4294967296):zC K w0 56 [AV 1,AV y] [] H (fun r M=>r=.tuple #[AV 0,AV y]∧M=[]):=by
 refine TP.enter Tryz.func56 rfl rfl ?_
 refine Y (U E (U E (V (AH ?_))))
 refine Av E (fun hc1=>absurd hc1 zD) (fun hc1=>?_)
 refine AJ (AI (Y (J E (J E (AS 0 pv (jk y hy) E (J E (Ae E E E (Ae E E E (U E (U E (V (Y ?_))))))))))))
 refine J E (J E (U E (U E (V (AK ?_)))))
 exact Ag (ES E E E) (Af (M:=[]) ⟨E,E⟩ fun _ h=>h.skip [])
theorem jm(b n:Nat)(hn:n≤281474976710656):zC K w0 86 [vP b 0,vI n] [AL b (.cells #[vP b 0,zN] 136)] H (fun r M=>r=.tuple #[]∧∃v,M=[AL b (.cells #[vP b 0,v] 136),DN 5 1 v 0 []]):=by
 refine TP.enter Tryz.func86 rfl rfl ?_
 refine AH (Aw DC [0] (Cz [(true,0),(true,1),(true,2),(true,3),(true,4),(true,5),(true,6),(true,7),(true,9),(true,10),(true,11),(true,12),(true,13),(false,8),(true,14),(true,15)]) zK (J E (AT E E (AF E IS (AG 0 Pn E (bQ E CV E (Z E (OO zO zO) (J E ?_))))))))
 refine Z E (Bb zO zO) (J E (AT E E (AF E IS (AG 0 Pn E (H4 E CV E ?_)))))
 refine lo (n:=n) (fn:=Tryz.f123) E E zO hn CV (fun w r w' hr=>by rw[run_callFunc_extern (e:=Extern.BytealgMakeNoZero.makeNoZero #[3] #[112]) Tryz.func123 zK zK zK zK];rw[show(Extern.BytealgMakeNoZero.makeNoZero #[3] #[112] #[vI n]).run Tryz.prog w=.ok r w' from hr];rfl) (fun _ _=>⟨⟨1,E⟩,zT⟩) fun b1 cs hcs hcm=>?_
 refine bV 0 E CV JX E E E zO (U E (V (Y (J E (J E (AT E E (AF E IS (AG 1 Pn E (lg E CV JX E E (V (AQ ?_)))))))))))
 refine J E (J E (AT E E (AF E IS (A2 1 E E E E er E E E zT (AZ ?_)))))
 refine SQ.heap (H':=DN 5 1 (.slice (some ⟨b1,0,none⟩) 0 cs.size) 0 []::AL b (.cells #[vP b 0,.slice (some ⟨b1,0,none⟩) 0 cs.size] 136)::H) ?_ fun w hw=>bM hw zS zO
 exact C8 (Dg E) (Af (M:=[_,_]) ⟨E,_,E⟩ fun _ h=>h.perm (List.Perm.swap _ _ _))
theorem bc(b n:Nat)(p:Value)(hp:OW b p)(h0:0<n)(hn:n≤281474976710656):zC K w0 58 [vP b 0,vI n] [AL b (.cells #[p,zN] 136)] H (fun r M=>r=.tuple #[]∧∃v,M=[AL b (.cells #[vP b 0,v] 136),DN 5 1 v 0 []]):=by
 refine TP.enter Tryz.func58 rfl rfl ?_
 refine Y (J E (AS 1 dz (QU 136 b p (.slice none 0 0) hp Qn) E (V (AH (Y (J E (Z E A4 (V ?_))))))))
 refine Av E (fun hc1=>absurd hc1 zS) (fun hc1=>?_)
 refine AJ (AI (AH (Aw DC [0] (Cz [(true,0),(true,1),(true,2),(true,3),(true,4),(true,5),(true,6),(true,7),(true,8),(true,9),(true,10),(true,11),(true,12)]) zK (J E (AT E E (AF E IS (AG 0 Pn E (bQ E CV E (J E (AT E E ?_))))))))))
 refine AF E IS (AG 0 Pn E (H4 E CV E (Z E (Dx zO zO) (J E (Z E A4 (V ?_))))))
 refine Av E (fun hc2=>?_) (fun hc2=>absurd hc2 zQ)
 refine AQ (J E (J E (BN 1 pw (jm b n hn) E ?_)))
 rintro _ _ ⟨rfl,v,rfl⟩
 refine AZ ?_
 exact C8 (Dg E) (Af (M:=[_,_]) ⟨E,v,E⟩ fun _ h=>h)
theorem NC(n:Nat)(hn:n≤8192):zC K w0 39 [vS [0],vI n] [] H (fun r M=>r=vS (List.replicate n 0)∧M=[]):=by
 refine TP.enter Tryz.func39 rfl rfl ?_
 refine Y (U E (V (AH (Y (J E (V (AP (Y (Z E Bj (U E (V ?_)))))))))))
 refine Av E (fun hc1=>?_) (fun hc1=>?_)
 refine Y (U E (V (AK (A8 (Ab ?_)))))
 exact Ag (Ck E E) (Af (M:=[]) ⟨by have h0:n=0:=(by simpa using hc1);subst h0;rfl,E⟩ fun _ h=>h.skip [])
 have h0:n≠0:=by intro h;subst h;simp at hc1
 refine Y (Z E Bj (U E (V ?_)))
 refine Av E (fun hc2=>?_) (fun hc2=>?_)
 refine Y (J E (U E (V (AK (A8 (Ab ?_))))))
 exact Ag (Ck E E) (Af (M:=[]) ⟨by have h1:n=1:=(by simp at hc2;omega);subst h1;rfl,E⟩ fun _ h=>h.skip [])
 refine AJ (Am (AI (AH (Y (J E (Z E A4 (V ?_)))))))
 refine Av E (fun hc3=>absurd hc3 zS) (fun hc3=>?_)
 refine AJ (AI (Y (J E (Bp E Cc E (BB E E (Er IZ O6) (J E (BB E E (Er IZ O6) (AS 0 jx (jj (Cn n) (by simp[Cn];omega)) E (J E (Ae E E E ?_))))))))))
 refine Ae E E E (U E (U E (V (AH (Y (J E ?_))))))
 refine Z E (M7 (b:=0)) ?_
 refine J E ?_
 refine Ee (c:=false) 31 3 34 E (fun hb k=>?_) (fun hb k=>?_) ?_
 refine AC E (AC E (Ah E E E ?_))
 exact k.mono tL
 refine J E ?_
 refine Z E (M7 (b:=9223372036854775807)) ?_
 rw[jc n zO]
 refine Ah E E E ?_
 exact k.mono tL
 refine V ?_
 refine Av E (fun hc4=>absurd hc4 zD) (fun hc4=>?_)
 refine AJ (AI (Y (J E ?_)))
 have hto:((Cn n).toNat:Int)=n:=by simp only[Cn,UInt64.toNat_ofNat'];omega
 refine BB E E (fG (n:=((Cn n).toNat:Int)) O6 IZ zO zO) ?_
 rw[hto]
 refine U E (V (AH (Y (J E (Bp E Cc E (Z E Bj (V ?_)))))))
 refine Av E (fun hc5=>absurd hc5 zD) (fun hc5=>?_)
 refine AJ (AI (AH (Y (J E (KS 0 E Cc E E zD zD (V (AP (AH (Y ?_)))))))))
 refine Z E (RP (b:=32)) ?_
 refine U E (V ?_)
 refine Av E (fun hc6=>absurd hc6 zD) (fun hc6=>?_)
 refine Y ?_
 refine Z E (RP (b:=45)) ?_
 refine U E (V ?_)
 refine Av E (fun hc7=>absurd hc7 zD) (fun hc7=>?_)
 refine Y ?_
 refine Z E (RP (b:=48)) ?_
 refine U E (V ?_)
 refine Av E (fun hc8=>absurd hc8 zD) (fun hc8=>?_)
 refine Y ?_
 refine Z E (RP (b:=61)) ?_
 refine U E (V ?_)
 refine Av E (fun hc9=>absurd hc9 zD) (fun hc9=>?_)
 refine AQ ?_
 refine Z E (RP (b:=9)) ?_
 refine U E (V ?_)
 refine Av E (fun hc10=>absurd hc10 zD) (fun hc10=>?_)
 refine AJ (Am (AI (Y (J E (U E (V (AH (Y (J E (Z E Ci (V ?_)))))))))))
 refine Av E (fun hc11=>absurd hc11 zQ) (fun hc11=>?_)
 refine AJ (AI (Y ?_))
 refine Ak E YD zU fun b0=>?_
 refine V (Y (J E (BN 1 jy (bc b0 n _ (.inl E) zO zO) E ?_)))
 rintro _ _ ⟨rfl,v1,rfl⟩
 refine V (Y (J E (BN 2 Rp (Gg 136 b0 _ v1 0 [] [0] (.inr E) Qn zS) E ?_)))
 rintro _ _ ⟨rfl,v2,rfl⟩
 refine V (AH (AP ?_))
 refine SX.mono (BG (α:=Nat×Value) (fun x=>1≤x.1∧x.1≤n) (fun x=>[(0,vS [0]),(7,vI n),(8,vI n),(9,vP b0 0)]) (fun x=>AL b0 (.cells #[vP b0 0,x.2] 136)::DN 5 1 x.2 x.1 ((List.replicate x.1 0).map fun b=>EB b)::H) (fun x=>n-x.1) (fun x D hp=>?_) (1,v2) ⟨Nat.le_refl _,by simp only;omega⟩) tL
 obtain⟨m,v⟩:=x
 obtain⟨h1,h2⟩:=hp
 simp only at h1 h2
 refine AH (Y (AS 2 Z0 (ZW 136 b0 (vP b0 0) v m _) E (J E (Z E A4 (V ?_)))))
 refine Av E (fun hc12=>?_) (fun hc12=>?_)
 refine AJ (AI (AP (Y (J E (AS 2 Z0 (ZW 136 b0 (vP b0 0) v m _) E (Z E (Dx zO zO) (AS 2 Z0 (ZW 136 b0 (vP b0 0) v m _) E (J E (gr E E E E (U E (V (AQ (AS 2 Pc (JJ 136 b0 (vP b0 0) v m (List.replicate m 0) zO) E ?_)))))))))))))
 refine J E (RV (min (n-m) m) E Cc E E zO zQ (BN 2 Rp (Gg 136 b0 _ v m _ ((List.replicate m 0).take (min (n-m) m)) (.inr E) Qn zQ) E ?_))
 rintro _ _ ⟨rfl,v',rfl⟩
 refine AZ (Am ?_)
 exact Au (m+min (n-m) m,v') ⟨by simp only;omega,by simp only;omega⟩ (by simp at hc12;simp only;omega) ⟨E,E,E,E,zT⟩ (fun w h=>by
  have e:(List.replicate m 0).map (fun b=>EB b)++((List.replicate m 0).take (min (n-m) m)).map (fun b=>EB b)=(List.replicate (m+min (n-m) m) 0).map fun b=>EB b:=by
   rw[←List.map_append,List.take_replicate,List.replicate_append_replicate];congr 2;omega
  have e2:((List.replicate m (0:UInt8)).take (min (n-m) m)).length=min (n-m) m:=by simp
  rw[e,e2]at h
  exact h)
 refine Ax (A3 (BZ (A5 (AI (Y (AS 2 Pc (JJ 136 b0 (vP b0 0) v m (List.replicate m 0) zO) E (U E (V (AK ?_)))))))))
 exact Ag (Ck E E) (Af (M:=[]) ⟨by have h3:m=n:=(by simp at hc12;omega);subst h3;rfl,E⟩ fun _ h=>h.skip [_,_])
end

section
variable {K:Nat→Prop}{w0:World}{H:List AX}
theorem dd(n:UInt64)(i:Nat)(h:i<8):(RY n).take (i+1)=(RY n).take i++[(shr64 n (56-8*i)).toUInt8]:=by
 have:i=0∨i=1∨i=2∨i=3∨i=4∨i=5∨i=6∨i=7:=zO
 rcases this with rfl | rfl | rfl | rfl | rfl | rfl | rfl | rfl<;>rfl
theorem U3(T:List UInt32)(h:Mx)(s:List UInt8):(D0 T h s).2.length=s.length%64:=by
 rw[LC]
 simp
 omega
theorem Zl(T:List UInt32)(h:Mx)(rest:List UInt8)(n:Nat)(b:Nat)(e:TypeId)(hT:Sq K w0 3 T)(hTl:T.length=64)(hr:rest.length=n%64)(hn:n≤1099511627776):zC K w0 276 [vP b 0] [AL b (.cells (Nq h rest n) e)] H (fun r M=>r=vS ((D0 T h (rest++LA n)).1.list.flatMap Ge)∧M=[AL b (.cells (Nq h rest n) e)]):=by
 refine TP.enter Tryz.func276 rfl rfl ?_
 refine Y (U E (V (AH (Y (J E (Ed E qu E E (V ?_)))))))
 refine Av E (fun hc1=>absurd hc1 zS) (fun hc1=>?_)
 refine AJ (AI (Y (J E (AT E E ?_))))
 refine Aq (Nq h rest n).toList E pC E E (Cj 0 E (fun j u hu=>by simpa using hu)) ?_
 refine Ak E lV zU fun b0=>?_
 refine OA (c':=Nq h rest n) 0 E E E E qq E E (List.all_eq_true.1 (show(Nq h rest n).toList.all (·.oneCell')=true from E)) zT ?_
 refine V (Y (J E (AT E E (AF E Ui (AG 1 FG E (BB E E (Er IZ DJ) ?_))))))
 refine Z E (Ls (b:=8)) ?_
 refine U E (V (Y (J E (AT E E (AF E Ui (AG 1 FG E (Z E (U0 zO zO) (Z E (Dx zO zO) (Z E (U0 zO zO) ?_)))))))))
 refine U E (V (Y (U E (V (AH (Y (U E (V (AP (Ic 5 1 ?_))))))))))
 refine SX.mono (BG (α:=Nat×Value) (fun x=>x.1≤8) (fun x=>[(3,vP b0 0),(4,AV (Cn n*8)),(5,vI (LR n)),(6,x.2),(7,vI (56-8*(x.1:Int)))]) (fun x=>DN 5 1 x.2 x.1 (((RY (Cn n*8)).take x.1).map fun b=>EB b)::AL b0 (.cells (Nq h rest n) 368)::AL b (.cells (Nq h rest n) e)::H) (fun x=>8-x.1) (fun x D hp=>?_) (0,zN) zD) ⟨E,E,?_,E,E,zT⟩
 rotate_left
 have e1:((119-(n:Int)%64)%64)=(LR n:Int):=by unfold LR;omega
 rw[←e1]
 rfl
 obtain⟨i,v⟩:=x
 simp only at hp
 refine AH (Y (J E (Z E Js (V ?_))))
 refine Av E (fun hc2=>?_) (fun hc2=>?_)
 have hi:i<8:=by simp at hc2;omega
 have e1:(56-8*(i:Int))=((56-8*i:Nat):Int):=zO
 refine AJ (AI (AH (AP (AQ (J E (J E (J E ?_)))))))
 refine fJ E E (congrArg (fun z=>some (vI z)) e1) (FL.shr64 (n:=56-8*i)) ?_
 refine BB E E (FC DJ DE) ?_
 refine B9 [_] E CV JX KP ⟨E,zT⟩ E E E zX E E zU fun b1=>?_
 refine T4 1 E (m:=1) (news:=[EB (shr64 (Cn n*8) (56-8*i)).toUInt8]) CV JX U6 KP E zD E E E E (Aj 0 E) (by simp[Value.oneCell']) zO zO zU fun v'=>?_
 refine U E (AZ (Am (AI (AQ (J E (Z E (Dx zO zO) (U E (AZ ?_))))))))
 refine Au (i+1,v') (by simp only;omega) (by simp only;omega) ⟨E,E,E,E,?_,zT⟩ (fun w hw=>by
  simp only
  rw[dd _ _ hi,List.map_append]
  exact hw.skip [_])
 have e2:(56-8*((i+1:Nat):Int))=56-8*(i:Int)-8:=zO
 simp only[e2]
 rfl
 have hi:i=8:=by simp at hc2;omega
 subst hi
 refine Ax (A3 (BZ (A5 (AI (AH (Aw DC [0] (CF [(true,0),(true,3),(true,4),(false,1),(true,2),(true,5)] (.last 6 .nil)) zK (J E (J E ?_))))))))
 refine Wg (s:=RY (Cn n*8)) 0 E CV DE Cc E E ?_
 refine BW 0 Ro (NC (LR n) (by unfold LR;omega)) E ⟨⟨0,E⟩,zT⟩ (Z E (FM (by simp[LR];omega)) (Z E (FM (by simp[LR,RY];omega)) (Bc (SL.pick [1] 2 (AS 1 f7 (UK T h rest (LA n) n b0 368 hT hTl zO (by simp[LA,LR,RY];omega)) E (V (Y (AF E Xc (AS 1 n9 (Zm (D0 T h (rest++LA n)).1 [vS (D0 T h (rest++LA n)).2,vI n] b0 368) E (U E (V (AK ?_))))))))))))
 exact Ag (Ck E E) (Af (M:=[_]) ⟨E,E⟩ fun _ h=>h.skip [_])
theorem dn(hF:Sq K w0 1 Dl.list):zC K w0 274 [] [] H (fun r M=>∃b,r=vP b 0∧M=[AL b (.cells (Nq Dl [] 0) 368)]):=by
 refine TP.enter Tryz.func274 rfl rfl ?_
 refine Y (U E (V (Y ?_)))
 refine Aq (ad:=⟨1,0,none⟩) (Dl.list.map AA) E pB E E (fun w hw j u hu=>by
  rw[Cf,Nat.zero_add]
  rw[List.getElem?_map]at hu
  cases hx:Dl.list[j]? with
  | none=>rw[hx]at hu;cases hu
  | some x=>
   rw[hx]at hu
   obtain rfl:=zI hu
   exact Od (ad:=⟨1,j,none⟩) hF.keep (hF.cell j x hx) w hw) ?_
 refine B0 [_] E qb qQ lV ⟨E,zT⟩ E ?_
 refine Ba E E zU fun b0=>?_
 refine U E (V (AK ?_))
 exact Ag (Ck E E) (Af (M:=[_]) ⟨b0,E,E⟩ fun _ h=>h)
theorem TY(T:List UInt32)(v:Value)(ls:List (List UInt8))(hT:Sq K w0 3 T)(hTl:T.length=64)(hF:Sq K w0 1 Dl.list)(hk:B6 K w0 TF 1 v ls)(hn:ls.flatten.length≤1099511627776)(hl:ls.length≤1099511627776):zC K w0 240 [v] [] H (fun r M=>r=vS (Mt T ls.flatten)∧M=[]):=by
 refine TP.enter Tryz.func240 rfl rfl ?_
 refine Y (U E (V (Y (BN 0 np (dn hF) E ?_))))
 rintro _ _ ⟨b0,rfl,rfl⟩
 refine U E (V (AH (Y (J E (B1 hk E EY E (J E (V (AP ?_))))))))
 have h0:D0 T Dl (ls.take 0).flatten=(Dl,[]):=PY zS
 refine SX.heap (H':=AL b0 (.cells (Nq (D0 T Dl (ls.take 0).flatten).1 (D0 T Dl (ls.take 0).flatten).2 ((ls.take 0).flatten.length:Nat)) 368)::H) ?_ (fun w hw=>by rw[h0];exact hw)
 refine SX.mono (BG (α:=Nat) (fun i=>i≤ls.length) (fun i=>[(3,vP b0 0),(7,v),(8,vI ls.length),(9,vI i)]) (fun i=>AL b0 (.cells (Nq (D0 T Dl (ls.take i).flatten).1 (D0 T Dl (ls.take i).flatten).2 ((ls.take i).flatten.length:Nat)) 368)::H) (fun i=>ls.length-i) (fun i D hp=>?_) 0 (Nat.zero_le _)) tL
 refine Y (Z E A4 (V (AH ?_)))
 refine Av E (fun hc1=>?_) (fun hc1=>?_)
 have hlt:i<ls.length:=by simpa using hc1
 obtain⟨s,hs⟩:=Or hlt
 have hts:=(Ez hs).2
 have hfl:(ls.take (i+1)).flatten=(ls.take i).flatten++s:=by rw[hts];simp
 have hle:(ls.take (i+1)).flatten.length≤1099511627776:=by
  have:ls.flatten=(ls.take (i+1)).flatten++(ls.drop (i+1)).flatten:=by rw[←List.flatten_append,List.take_append_drop]
  rw[this]at hn
  simp only[List.length_append]at hn
  omega
 rw[hfl,List.length_append]at hle
 refine AJ (AI (AH (AP (Y ?_))))
 refine QL i s hk E EY HA E E E hs fun be off hcell=>?_
 refine Bq E GL E (fun w hw=>hcell _ w hw 0 _ E) ?_
 refine U E (V (Y (J E (J E (AS 1 f7 (UK T _ _ s _ b0 368 hT hTl (ZN T Dl _) zO) E (V (AQ (J E (AT E E (AF E Ui (AG 0 FG E ?_)))))))))))
 refine J E (Bp E Cc E (Z E (Bb zO zO) (AT E E (AF E Ui (A2 0 E E E E O5 E E E zT (AZ (Am (AI (AQ (Z E (Bb zO zO) (J E (AZ ?_))))))))))))
 refine Au (i+1) hlt zO tL (fun w hw=>by
  rw[hfl,RW T Dl (ls.take i).flatten s,List.length_append]
  exact hw)
 have hi:i=ls.length:=by simp at hc1;omega
 have ht:ls.take i=ls:=by rw[hi];exact List.take_length
 rw[ht]
 refine Ax (A3 (BZ (A5 (AI (Y (J E (AS 1 nq (Zl T _ _ ls.flatten.length b0 368 hT hTl (U3 T Dl ls.flatten) hn) E (U E (V (AK ?_))))))))))
 exact Ag (Ck E E) (Af (M:=[]) ⟨by unfold Mt;rw[RW T Dl ls.flatten],E⟩ fun _ h=>h.skip [_])
theorem dp(T:List UInt32)(s:List UInt8)(hT:Sq K w0 3 T)(hTl:T.length=64)(hF:Sq K w0 1 Dl.list)(hn:s.length≤1099511627776):zC K w0 277 [vS s] [] H (fun r M=>r=vS (Mt T s)∧M=[]):=by
 refine TP.enter Tryz.func277 rfl rfl ?_
 refine Y (U E (V (Y (J E ?_))))
 refine B9 [_] E EY HA Sx ⟨E,zT⟩ E E E zX E E zU fun b0=>?_
 refine Bd (vs:=[_]) (Hin:=[_]) E E ⟨E,zT⟩ Zx E E (Ch (B:=[AL b0 (.cells #[vS s] 9)]) (Hin:=[]) fun K' w1 hk hB=>(TY T _ [s] (hT.keeps hk) hTl (hF.keeps hk) (B6.lent (enc:=TF) (sz:=1) (xs:=[s]) zV (Nat.le_refl 1) E (hB _ (List.mem_cons_self ..))) (by simpa using hn) zS)) ?_
 rintro _ _ ⟨M',rfl,rfl,rfl⟩
 refine⟨trivial,?_⟩
 refine U E (V (AK ?_))
 exact Ag (Ck E E) (Af (M:=[]) ⟨by simp,E⟩ fun _ h=>h.skip [_])
end

section
variable {K:Nat→Prop}{w0:World}{H:List AX}
structure GM(K:Nat→Prop)(w0:World)(T:List UInt32):Prop where
 tab:Sq K w0 3 T
 len:T.length=64
 first:Sq K w0 1 Dl.list
theorem GM.keeps{T:List UInt32}{K':Nat→Prop}{w1:World}(h:GM K w0 T)(hk:Wb K w0 K' w1):GM K' w1 T:=⟨h.tab.keeps hk,h.len,h.first.keeps hk⟩
theorem TH(ls:List (List UInt8)):ls.flatMap TF=ls.map vS:=by
 induction ls with
 | nil=>rfl
 | cons s r ih=>rw[List.flatMap_cons,ih];rfl
theorem YU(k:List UInt8)(n i:Nat):(k++List.replicate n 0).getD i 0=k.getD i 0:=by
 simp only[List.getD_eq_getElem?_getD]
 rcases Nat.lt_or_ge i k.length with h | h
 rw[List.getElem?_append_left h]
 rw[List.getElem?_append_right h,List.getElem?_eq_none h]
 rw[List.getElem?_replicate]
 split<;>rfl
theorem cA(T:List UInt32)(v:Value)(ls:List (List UInt8))(hT:GM K w0 T)(hn:ls.flatten.length≤1099511627776)(hl:ls.length≤1099511627776):zC K w0 240 [v] [DN 9 1 v ls.length (ls.flatMap TF)] H (fun r M=>r=vS (Mt T ls.flatten)∧M=[DN 9 1 v ls.length (ls.flatMap TF)]):=by
 intro w hw
 have h1:=Ch (P:=Tryz.prog) (K:=K) (w0:=w0) (f:=240) (args:=[v]) (H:=H) (B:=[DN 9 1 v ls.length (ls.flatMap TF)]) (Hin:=[]) (post:=fun r M=>r=vS (Mt T ls.flatten)∧M=[]) (fun K' w1 hk hB=>TY T v ls (hT.keeps hk).tab hT.len (hT.keeps hk).first (bY zV (hB _ (List.mem_cons_self ..))) hn hl) w hw
 refine h1.mono ?_
 rintro e w' ⟨r,M,rfl,⟨M',rfl,hr,rfl⟩,hw'⟩
 exact⟨r,_,rfl,⟨hr,rfl⟩,hw'⟩
theorem bz(T:List UInt32)(b:Nat)(ls:List (List UInt8))(hT:GM K w0 T)(hn:ls.flatten.length≤1099511627776)(hl:ls.length≤1099511627776):zC K w0 240 [.slice (some ⟨b,0,none⟩) ls.length ls.length] [AL b (.cells (DK vS ls) 9)] H (fun r M=>r=vS (Mt T ls.flatten)∧M=[AL b (.cells (DK vS ls) 9)]):=by
 intro w hw
 have h1:=Ch (P:=Tryz.prog) (K:=K) (w0:=w0) (f:=240) (args:=[.slice (some ⟨b,0,none⟩) ls.length ls.length]) (H:=H) (B:=[AL b (.cells (DK vS ls) 9)]) (Hin:=[]) (post:=fun r M=>r=vS (Mt T ls.flatten)∧M=[]) (fun K' w1 hk hB=>TY T _ ls (hT.keeps hk).tab hT.len (hT.keeps hk).first (B6.lent (enc:=TF) (sz:=1) zV (Nat.le_refl _) (by rw[TH,Vi];exact List.take_of_length_le zS) (hB _ (List.mem_cons_self ..))) hn hl) w hw
 refine h1.mono ?_
 rintro e w' ⟨r,M,rfl,⟨M',rfl,hr,rfl⟩,hw'⟩
 exact⟨r,_,rfl,⟨hr,rfl⟩,hw'⟩
theorem Vk(T:List UInt32)(key:List UInt8)(c:UInt8)(hT:GM K w0 T)(hn:key.length≤549755813888):zC K w0 241 [vS key,EB c] [] H (fun r M=>r=vS (Fp T key c)∧M=[]):=by
 refine TP.enter Tryz.func241 rfl rfl ?_
 refine Y (U E (V ?_))
 refine Wl (α:=Unit) (fun _=>True) (fun _=>[(0,vS (FF T key)),(1,EB c)]) (fun _=>H) ?_ (fun x hx=>?_)
 refine Y (J E (Bp E Cc E (Z E Ci (V ?_))))
 refine Av E (fun hc1=>?_) (fun hc1=>?_)
 refine AQ (J rfl (AS 0 nr (dp T key hT.tab hT.len hT.first zO) rfl (U rfl (AZ ?_))))
 have hk:FF T key=Mt T key:=by unfold FF;rw[if_pos (by simp at hc1;omega)]
 exact Sc () zT (by rw[hk];exact⟨E,E,zT⟩)
 refine AJ ?_
 have hk:FF T key=key:=by unfold FF;rw[if_neg (by simp at hc1;omega)]
 exact Sc () zT (by rw[hk];exact⟨E,E,zT⟩)
 
 have hkl:=VG T key
 refine Y (J E (J E (Bp E Cc E (Z E (Dx zO zO) ?_))))
 refine Bd (vs:=[_,_]) (Hin:=[]) E E ⟨E,E,zT⟩ Ro (by rw[show(64-(((FF T key).length:Nat):Int))=((64-(FF T key).length:Nat):Int) by omega];rfl) E (NC (64-(FF T key).length) zO) ?_
 rintro _ _ ⟨rfl,rfl⟩
 refine⟨trivial,?_⟩
 refine Z E (FM zQ) (U E (V (Y ?_)))
 refine Ak E YD zU fun b0=>?_
 refine V (AH (Y (J E (V (AP (Ic 5 1 (SX.pick [1,0] 2 ?_)))))))
 refine SX.mono (BG (α:=Nat×Value×Value) (fun x=>x.1≤64∧OW b0 x.2.1) (fun x=>[(0,vS (FF T key++List.replicate (64-(FF T key).length) 0)),(1,EB c),(5,vP b0 0),(18,vI x.1)]) (fun x=>AL b0 (.cells #[x.2.1,x.2.2] 136)::DN 5 1 x.2.2 x.1 (((Fp T key c).take x.1).map fun b=>EB b)::H) (fun x=>64-x.1) (fun x D hp=>?_) (0,.pointer none,zN) ⟨by decide,.inl E⟩) tL
 obtain⟨i,p,v⟩:=x
 obtain⟨hp,hadr⟩:=hp
 simp only at hp hadr
 refine Y (Z E A4 (V (AH ?_)))
 refine Av E (fun hc2=>?_) (fun hc2=>?_)
 have hi:i<64:=by simp at hc2;omega
 refine AJ (AI (AH (AP (Y (J E (U E (V (AQ (J E (J E (KS i E Cc E E zO zQ (J E (Z E SY (BN 2 WS (OB 136 b0 p v i _ _ hadr Qn zO) E ?_))))))))))))))
 rintro _ _ ⟨rfl,v',rfl⟩
 refine AZ (Am (AI (AQ (Z E (Bb zO zO) (J E (AZ ?_))))))
 refine Au (i+1,vP b0 0,v') ⟨by simp only;omega,.inr E⟩ (by simp only;omega) tL (fun w hw=>by
  have e1:(Fp T key c).take (i+1)=(Fp T key c).take i++[(FF T key++List.replicate (64-(FF T key).length) 0).getD i 0 ^^^ c]:=by
   rw[List.take_add_one,YU]
   simp[Fp,hi]
  simp only
  rw[e1,List.map_append]
  exact hw)
 have hi:i=64:=by simp at hc2;omega
 subst hi
 have ht:(Fp T key c).take 64=Fp T key c:=List.take_of_length_le (by rw[LS];omega)
 rw[ht]
 refine Ax (A3 (BZ (A5 (AI (Y (AS 2 Pc (JJ 136 b0 p v 64 (Fp T key c) zO) E (U E (V (AK ?_)))))))))
 exact Ag (Ck E E) (Af (M:=[]) ⟨E,E⟩ fun _ h=>h.skip [_,_])
theorem Wx(T:List UInt32)(key:List UInt8)(ls:List (List UInt8))(bs:Nat)(hT:GM K w0 T)(hn:key.length≤549755813888)(hls:ls.flatten.length≤549755813888)(hl:ls.length≤549755813888):zC K w0 203 [vS key,.slice (some ⟨bs,0,none⟩) ls.length ls.length] [AL bs (.cells (DK vS ls) 9)] H (fun r M=>r=vS (RE T key ls.flatten)∧M=[]):=by
 refine TP.enter Tryz.func203 rfl rfl ?_
 refine Y (U E (V (Y (J E (AS 0 fy (Vk T key 54 hT hn) E ?_)))))
 refine B9 [_] E EY HA Sx ⟨E,zT⟩ E E E zX E E zU fun b0=>?_
 refine J E ?_
 refine SL.heap (H':=DN 9 1 (.slice (some ⟨b0,0,none⟩) 1 1) 1 [vS (Fp T key 54)]::AL bs (.cells (DK vS ls) 9)::H) ?_ (fun w hw=>ZG hw E (Nat.le_refl 1) zD)
 refine T4 0 rfl (m:=ls.length) (news:=ls.map vS) EY HA mH Sx rfl zD rfl rfl rfl zS (Aj 1 rfl) (by intro u hu;obtain⟨x,_,rfl⟩:=List.mem_map.1 hu;rfl) zO zO zU fun v'=>?_
 have e1:DN 9 1 v' (1+ls.length) ([vS (Fp T key 54)]++ls.map vS)=DN 9 1 v' (Fp T key 54::ls).length ((Fp T key 54::ls).flatMap TF):=by
  rw[TH,List.length_cons,Nat.add_comm];rfl
 rw[e1]
 refine AS 1 Zx (cA T v' (Fp T key 54::ls) hT (by simp only[List.flatten_cons,List.length_append,LS];omega) (by simp only[List.length_cons];omega)) E (U E (V (Y (J E (AS 0 fy (Vk T key 92 hT hn) E (J E ?_))))))
 refine B9 [_,_] E EY HA Sx ⟨E,E,zT⟩ E E E zX E E zU fun b1=>?_
 refine AS 1 Zx (bz T b1 [Fp T key 92,Mt T (Fp T key 54::ls).flatten] hT (by simp[LS,Ix]) zS) E (U E (V (AK ?_)))
 exact Ag (Ck E E) (Af (M:=[]) ⟨by simp[RE],E⟩ fun _ h=>h.skip [_,_,_])
theorem WK(T:List UInt32)(key label:List UInt8)(bk bl:Nat)(hT:GM K w0 T)(hn:key.length≤549755813888)(hl:label.length≤274877906944):jW Tryz.prog K w0 302 [vP bk 0,vP bl 0] [AL bl (.cells #[vS label] 9),AL bk (.cells #[vS key] 9)] TF (UR T key label):=by
 intro lp J9 X T1 hy G h0
 refine TP.enter Tryz.func302 rfl rfl ?_
 refine Y (U E (V (Y (U E (V (AP ?_))))))
 refine SX.mono (BG (α:=Nat×List AX) (fun x=>x.1≤255∧J9 ((UR T key label).take x.1) x.2) (fun x=>[(0,vY lp),(1,vP bk 0),(2,vP bl 0),(4,vS (P7 T key label x.1)),(5,vI (x.1+1:Nat))]) (fun x=>AL bl (.cells #[vS label] 9)::AL bk (.cells #[vS key] 9)::(x.2++T1)) (fun x=>255-x.1) (fun x D hp=>?_) (0,G) ⟨by simp,h0⟩) tL
 obtain⟨i,G⟩:=x
 obtain⟨hi,hJ⟩:=hp
 simp only at hi hJ
 refine AH (Y (J E (Z E Iz (V ?_))))
 refine Av E (fun hc1=>?_) (fun hc1=>?_)
 have hlt:i<255:=by simp at hc1;omega
 have hg:=Yj T key label i hlt
 have hel:=Z7 T key label i
 refine AJ (AI (AH (AP (Y (AG 1 GL E (J E (AG 0 GL E (J E (BB E E (QI IZ DE) ?_)))))))))
 refine B9 [_] E CV JX KP ⟨E,zT⟩ E E E zX E E zU fun b0=>?_
 refine SZ [_] E CV DE Cc E E (Aj 0 E) ?_
 refine B9 [_,_,_] E EY HA Sx ⟨E,E,E,zT⟩ E E E zX E E zU fun b1=>?_
 refine AS 1 fm (Wx T key [P7 T key label i,label,[IW ((i+1:Nat):Int)]] _ hT hn zQ zS) E (U E (V (Y (J E (J E ?_)))))
 have e1:RE T key [P7 T key label i,label,[IW ((i+1:Nat):Int)]].flatten=P7 T key label (i+1):=by simp[P7]
 rw[e1]
 refine HM (M2:=[_,_,_]) (G:=G) (T:=T1) (vs:=[_]) (ok:=fun G1=>J9 ((UR T key label).take (i+1)) G1) (no:=X) E E ⟨E,zT⟩ E ?_ (fun bb G1 hG1=>⟨zT,?_⟩)
 intro M
 have:=hy _ _ _ (Ez hg).1 G hJ M
 rw[←(Ez hg).2]at this
 exact this
 refine CS E E (V ?_)
 refine Av E (fun hc2=>?_) (fun hc2=>?_)
 obtain rfl:bb=false:=by simpa using hc2
 refine AK (A8 (Ab (Dz (A8 ?_))))
 exact Ag (Dg E) (Af (M:=G1) (.inr hG1) fun _ h=>h.skip [_,_,_])
 obtain rfl:bb=true:=by simpa using hc2
 refine AJ (Am (AI (AQ (J E (Z E (Bb zO zO) (U E (AZ ?_)))))))
 exact Au (i+1,G1) ⟨hlt,hG1⟩ (by simp only;omega) tL (fun w hw=>hw.skip [_])
 refine Ax (A3 (BZ (A5 ?_)))
 have hle:i=255:=by simp at hc1;omega
 exact C8 (Dg E) (Af (M:=G) (.inl (by rw[List.take_of_length_le (by rw[US];omega)]at hJ;exact hJ)) fun _ h=>h.skip [_,_])
theorem V8(key label:List UInt8):zC K w0 271 [vS key,vS label] [] H (fun r M=>∃bk bl,r=.func (.func 302) #[] #[vP bk 0,vP bl 0]∧M=[AL bl (.cells #[vS label] 9),AL bk (.cells #[vS key] 9)]):=by
 refine TP.enter Tryz.func271 rfl rfl ?_
 refine Y ?_
 refine Ba E E zU fun b0=>?_
 refine Ba E E zU fun b1=>?_
 refine U E (V (Y ?_))
 refine Gz (fv:=#[]) (cv:=#[_,_]) E E E ?_
 refine U E (V (AK ?_))
 exact Ag (Ck E E) (Af (M:=[_,_]) ⟨b0,b1,E,E⟩ fun _ h=>h)
theorem S5(T:List UInt32)(key label:List UInt8)(hT:GM K w0 T)(hn:key.length≤549755813888)(hl:label.length≤274877906944):zC K w0 236 [vS key,vS label,vI 32] [] H (fun r M=>r=.tuple #[vS (GI T key label),vI 0]∧M=[]):=by
 refine TP.enter Tryz.func236 rfl rfl ?_
 refine Y ?_
 refine Ba E E zU fun b0=>?_
 refine U E (U E (V (KV (AH (Y (AG 0 FG E (Z E A4 (J E ?_))))))))
 refine Ee (c:=decide ((8160:Int)<32)) 12 3 15 E (fun hb k=>?_) (fun hb k=>?_) ?_
 refine AC E (AC E (Ah E E E ?_))
 exact k.mono tL
 refine AG 0 FG E (Z E Ci (Ah E E E ?_))
 exact k.mono tL
 refine V ?_
 refine Av E (fun hc1=>absurd hc1 zD) (fun hc1=>?_)
 refine AJ (AI (Y ?_))
 refine Ak E YD zU fun b1=>?_
 refine V (AH (KU (AI (AH (Y (J E (J E (BN 0 nm (V8 key label) E ?_))))))))
 rintro _ _ ⟨bk,bl,rfl,rfl⟩
 refine V (Ic 5 1 (SX.pick [1,2,3,0,4] 5 (AP ?_)))
 refine Sd (enc:=TF) (UR T key label) (fun pre G=>pre.length≤1∧∃p v,OW b1 p∧G=AL b1 (.cells #[p,v] 136)::DN 5 1 v pre.flatten.length (pre.flatten.map fun b=>EB b)::AL b0 (.cells #[vI 32] 3)::H) (fun c G=>c=.exit 0∧∃p v,OW b1 p∧G=AL b1 (.cells #[p,v] 136)::DN 5 1 v 32 ((GI T key label).map fun b=>EB b)::AL b0 (.cells #[vI 32] 3)::H) E n6 E zV (WK T key label bk bl hT hn hl) E ⟨Nat.zero_le _,_,_,.inl E,E⟩ (fun pre x suf G hxs hJ r lp Rest=>?_) (fun G D hJ=>?_) (fun c G D hX=>?_)
 obtain⟨hpl,p,v,hadr,rfl⟩:=hJ
 have hx0:(UR T key label)[0]? = some (GI T key label):=by rw[Yj T key label 0 zD,iB]
 have he:(GI T key label).length=32:=Hj ..
 refine AQ (U E (AZ (KT (AP (AH (AH (Aw DC [2] (Cz [(true,1),(false,0),(true,2)]) zK (AG 0 FG E (BW 2 Z0 (ZW 136 b1 p v _ _) E ⟨⟨2,E⟩,zT⟩ (Z E Js (V ?_)))))))))))
 refine Av E (fun hc2=>?_) (fun hc2=>?_)
 have hpre:pre=[GI T key label]:=by
  match pre,hpl with
  | [],_=>simp at hc2
  | [y],_=>rw[hxs]at hx0;simpa using hx0
 subst hpre
 refine Ax (A3 (HN ?_))
 refine Nf (G:=AL b1 (.cells #[p,v] 136)::DN 5 1 v 32 ((GI T key label).map fun b=>EB b)::AL b0 (.cells #[vI 32] 3)::H) ⟨E,p,v,hadr,E⟩ (fun w hw=>?_)
 have e1:[GI T key label].flatten=GI T key label:=by simp
 rw[e1,he]at hw
 exact hw
 have hpre:pre=[]:=by
  match pre,hpl with
  | [],_=>rfl
  | [y],_=>
   rw[hxs]at hx0
   obtain rfl:y=GI T key label:=by simpa using hx0
   simp[he]at hc2
 subst hpre
 obtain rfl:x=GI T key label:=by rw[hxs]at hx0;simpa using hx0
 refine AJ (AI (AQ (J E (BN 2 Rp (Gg 136 b1 p v _ _ (GI T key label) hadr Qn (by simp[he])) E ?_))))
 rintro _ _ ⟨rfl,v',rfl⟩
 refine AZ (Am ?_)
 refine H5 (G:=AL b1 (.cells #[vP b1 0,v'] 136)::DN 5 1 v' ([]++[GI T key label]).flatten.length (([]++[GI T key label]).flatten.map fun b=>EB b)::AL b0 (.cells #[vI 32] 3)::H) ⟨by simp,_,v',.inr E,E⟩ (fun w hw=>?_)
 have e1:([]++[GI T key label]).flatten=GI T key label:=by simp
 rw[e1]
 simpa using hw
 exact absurd hJ.1 (by rw[US];omega)
 obtain⟨rfl,p,v,hadr,rfl⟩:=hX
 have he:(GI T key label).length=32:=Hj ..
 refine Ax (A5 (AI (AH (Aw DC [2] (Cz [(true,1),(false,0),(true,2),(true,3),(true,4)]) zK (AG 0 FG E (BW 2 Pc (JJ 136 b1 p v 32 (GI T key label) zO) E ⟨⟨2,E⟩,zT⟩ (RV 32 E Cc E E zO zO (U E (U E (V (AK (EN ?_))))))))))))
 exact Ag (ES E E E) (Af (M:=[]) ⟨by rw[List.take_of_length_le zO],E⟩ fun _ h=>h.skip [_,_,_])
end

section
variable {K:Nat→Prop}{w0:World}{H:List AX}
theorem Zb(T:List UInt32)(k:BK)(hT:GM K w0 T):zC K w0 199 [.agg (Aa k).toArray] [] H (fun r M=>r=(if DT [k]=true then .tuple #[vS (O4 T k NS),vS (O4 T k Nt),vI 0]else .tuple #[vS [],vS [],vI 40])∧M=[]):=by
 refine TP.enter Tryz.func199 rfl rfl ?_
 refine Y ?_
 refine Ba E E zU fun b0=>?_
 refine U E (U E (U E (V (AH (Y (Aq (Aa k) E Ky E E (Aj 0 E) ?_))))))
 refine B9 [_] E GR E2 JZ ⟨E,zT⟩ E E E (by simp[Value.cells,Aa]) E E zU fun b1=>?_
 refine Bd (vs:=[_]) (Hin:=[_]) E E ⟨E,zT⟩ dw E E (Ch (B:=[AL b1 (.cells (Aa k).toArray 114)]) (Hin:=[]) fun K' w1 hk hB=>Pb _ [k] (B6.lent (enc:=Aa) (sz:=2) (xs:=[k]) zV (Nat.le_refl 1) E (hB _ (List.mem_cons_self ..))) E zS) ?_
 rintro _ _ ⟨M',rfl,rfl,rfl⟩
 refine⟨trivial,?_⟩
 refine CS E E (V ?_)
 refine Av E (fun hc1=>?_) (fun hc1=>?_)
 have hr:DT [k]=false:=by simpa using hc1
 refine Y (U E (U E (U E (V (AK (Ab ?_))))))
 exact Ag (Xu E E E E) (Af (M:=[]) ⟨by rw[hr];rfl,E⟩ fun _ h=>h.skip [_,_])
 have hr:DT [k]=true:=by simpa using hc1
 have hkl:=Vw hr
 refine AJ (AI (Y (AF E FR (AG 1 A1 E (BB E E (Cu CJ DE) (AF E FR (AG 1 A1 E ?_)))))))
 refine Z E (FL.shr32 (n:=8)) ?_
 refine BB E E (Cu CJ DE) (AF E FR (AG 1 A1 E ?_))
 refine Z E (FL.shr32 (n:=16)) ?_
 refine BB E E (Cu CJ DE) (AF E FR (AG 1 A1 E ?_))
 refine Z E (FL.shr32 (n:=24)) ?_
 refine BB E E (Cu CJ DE) ?_
 refine B9 [_,_,_,_] E CV JX KP ⟨E,E,E,E,zT⟩ E E E zX E E zU fun b2=>?_
 refine SZ [_,_,_,_] E CV DE Cc E E (Aj 0 E) (U E (V (Y (AF E QA (AG 2 GL E (J E ?_))))))
 refine Z E (FM (s:=NS) (t:=Fo k.gen) (by simp[Fo,NS])) ?_
 refine AS 0 fx (S5 T k.secret (NS++Fo k.gen) hT zO (by simp[Fo,NS])) E (J E (Ae E E E (Ae E E E (U E (U E (V (Y (AF E QA (AG 2 GL E ?_)))))))))
 refine J E ?_
 refine Z E (FM (s:=Nt) (t:=Fo k.gen) (by simp[Fo,Nt])) ?_
 refine AS 0 fx (S5 T k.secret (Nt++Fo k.gen) hT zO (by simp[Fo,Nt])) E (J E (Ae E E E (Ae E E E (U E (U E (V (Y (J E (J E ?_)))))))))
 refine U E (U E (U E (V (AK ?_))))
 exact Ag (Xu E E E E) (Af (M:=[]) ⟨by rw[hr];rfl,E⟩ fun _ h=>h.skip [_,_,_])
theorem di(s:List UInt8)(hn:s.length≤9223372036854775807):zC K w0 198 [vS s] [] H (fun r M=>r=(if 198<s.length then .tuple #[vS [],vI 50]else .tuple #[vS (KI s),vI 0])∧M=[]):=by
 refine TP.enter Tryz.func198 rfl rfl ?_
 refine Y (U E (U E (V (AH (Y (J E (Bp E Cc E (Z E Ci (V ?_)))))))))
 refine Av E (fun hc1=>?_) (fun hc1=>?_)
 have h0:198<s.length:=by simp at hc1;omega
 refine Y (U E (U E (V (AK (Ab ?_)))))
 exact Ag (ES E E E) (Af (M:=[]) ⟨by rw[if_pos h0],E⟩ fun _ h=>h.skip [])
 have h0:¬198<s.length:=by simp at hc1;omega
 have e1:(198-(s.length:Int))=((198-s.length:Nat):Int):=zO
 refine AJ (AI (AH (Aw DC [] (CF [(true,0),(true,1),(true,2),(true,3),(true,4),(true,5),(true,6),(true,9),(true,11),(true,12),(true,13)] (.alt 7 (.alt 8 (Cz [(true,10),(false,14),(true,15),(true,16),(true,17)]) (.cons (false,14) (Cz [(false,8),(true,10),(true,15),(true,16),(true,17)]))) (.cons (false,14) (Cz [(false,7),(false,8),(true,10),(true,15),(true,16),(true,17)])))) zK (J E (Bp E Cc E ?_)))))
 refine Z E (gp (n:=8) zO zO) ?_
 refine BB E E (QI IZ DE) (J E (Bp E Cc E (BB E E (QI IZ DE) (J E (J E (Bp E Cc E (Z E (Dx zO zO) ?_)))))))
 rw[e1]
 refine QN ?_ ?_
 refine B9 [_,_] E CV JX KP ⟨E,E,zT⟩ E E E zX E E zU fun b0=>?_
 refine QN ?_ ?_
 refine SZ [_,_] E CV DE Cc E E (Aj 0 E) (Z E (FM zQ) (AS 0 Ro (NC (198-s.length) zO) E (Z E (FM zQ) (U E (U E (V (AK ?_)))))))
 exact Ag (ES E E E) (Af (M:=[]) ⟨by rw[if_neg h0];rfl,E⟩ fun _ h=>h.skip [_])
 refine AS 0 Ro (NC (198-s.length) zO) E (SZ [_,_] E CV DE Cc E E (Aj 0 E) (Z E (FM zQ) (Z E (FM zQ) (U E (U E (V (AK ?_)))))))
 exact Ag (ES E E E) (Af (M:=[]) ⟨by rw[if_neg h0];rfl,E⟩ fun _ h=>h.skip [_])
 refine AS 0 Ro (NC (198-s.length) zO) E ?_
 refine B9 [_,_] E CV JX KP ⟨E,E,zT⟩ E E E zX E E zU fun b0=>?_
 refine SZ [_,_] E CV DE Cc E E (Aj 0 E) (Z E (FM zQ) (Z E (FM zQ) (U E (U E (V (AK ?_))))))
 exact Ag (ES E E E) (Af (M:=[]) ⟨by rw[if_neg h0];rfl,E⟩ fun _ h=>h.skip [_])
end

section
variable {K:Nat→Prop}{w0:World}{H:List AX}
def ol(x:UInt32):List Value:=[AA x]
theorem bE{s:List UInt8}{j:Nat}(h:j<s.length / 4):(CP s)[j]? = some (Jr s (4*j)):=by simp[CP,h]
theorem bg(s:List UInt8)(hs:4≤s.length):zC K w0 317 [vS s] [] H (fun r M=>r=AA (Jr s 0)∧M=[]):=by
 refine TP.enter Tryz.func317 rfl rfl ?_
 refine Y (U E (V (AH (Aw DC [] (Cz [(true,0),(true,1),(true,2),(true,3),(true,4),(true,5),(true,6),(true,7),(true,8),(true,9),(true,10),(true,11),(true,12),(true,13),(true,14),(true,15),(true,16),(true,17),(true,18)]) zK (J E (KS 0 E Cc E E zO zO (BB E E (FD DE CJ) (J E (KS 1 E Cc E E zO zO (BB E E (FD DE CJ) ?_))))))))))
 refine Z E (FL.shl32 (n:=8)) ?_
 refine Z E Ep (J E (KS 2 E Cc E E zO zO (BB E E (FD DE CJ) ?_)))
 refine Z E (FL.shl32 (n:=16)) ?_
 refine Z E Ep (J E (KS 3 E Cc E E zO zO (BB E E (FD DE CJ) ?_)))
 refine Z E (FL.shl32 (n:=24)) ?_
 refine Z E Ep (U E (V (AK ?_)))
 exact Ag (Ck E E) (Af (M:=[]) ⟨E,E⟩ fun _ h=>h.skip [])
theorem aZ(ls:List (List UInt8))(bl bs:Nat)(hl:ls.length≤549755813888)(hls:∀s∈ls,s.length≤549755813888):jW Tryz.prog K w0 316 [vP bl 0] [AL bl (.cells #[.slice (some ⟨bs,0,none⟩) ls.length ls.length] 40),AL bs (.cells (DK vS ls) 9)] ol (ls.flatMap CP):=by
 intro lp J9 X T1 hy G h0
 refine TP.enter Tryz.func316 rfl rfl ?_
 refine Y (AG 0 PX E (H4 E EY E (J E (V (AP ?_)))))
 refine SX.mono (BG (α:=Nat×List AX) (fun x=>x.1≤ls.length∧J9 ((ls.take x.1).flatMap CP) x.2) (fun x=>[(0,vY lp),(5,.slice (some ⟨bs,0,none⟩) ls.length ls.length),(6,vI ls.length),(7,vI x.1)]) (fun x=>AL bl (.cells #[.slice (some ⟨bs,0,none⟩) ls.length ls.length] 40)::AL bs (.cells (DK vS ls) 9)::(x.2++T1)) (fun x=>ls.length-x.1) (fun x D hp=>?_) (0,G) ⟨Nat.zero_le _,h0⟩) tL
 obtain⟨i,G⟩:=x
 obtain⟨hi,hJ⟩:=hp
 simp only at hi hJ
 refine Y (Z E A4 (V (AH ?_)))
 refine Av E (fun hc1=>?_) (fun hc1=>?_)
 have hlt:i<ls.length:=by simpa using hc1
 obtain⟨s,hs⟩:=Or hlt
 have hsl:=hls s (List.mem_of_getElem? hs)
 have hsplit:=Ez hs
 refine AJ (AI (AH (AP (Y ?_))))
 refine li (n:=i) E EY HA E E zO zO ?_
 refine Bq E GL E (Cm 1 E (Es hs)) (U E (V (AP ?_)))
 refine SX.mono (BG (α:=Nat×List AX) (fun x=>x.1≤s.length / 4∧J9 ((ls.take i).flatMap CP++(CP s).take x.1) x.2) (fun x=>[(0,vY lp),(4,vS (s.drop (4*x.1))),(5,.slice (some ⟨bs,0,none⟩) ls.length ls.length),(6,vI ls.length),(7,vI i)]) (fun x=>AL bl (.cells #[.slice (some ⟨bs,0,none⟩) ls.length ls.length] 40)::AL bs (.cells (DK vS ls) 9)::(x.2++T1)) (fun x=>s.length / 4-x.1) (fun x D hp=>?_) (0,G) ⟨Nat.zero_le _,by simpa using hJ⟩) tL
 obtain⟨j,G⟩:=x
 obtain⟨hj,hJ2⟩:=hp
 simp only at hj hJ2
 refine AH (Y (J E (Bp E Cc E (Z E Js (V ?_)))))
 refine Av E (fun hc2=>?_) (fun hc2=>?_)
 have hjlt:j<s.length / 4:=by simp at hc2;omega
 have hw:=bE hjlt
 have hws:=Ez hw
 refine AJ (AI (AH (AP (Y (J E (J E (AS 0 oC (bg (s.drop (4*j)) zQ) E ?_)))))))
 rw[bD,Nat.add_zero]
 refine HM (M2:=[_,_]) (G:=G) (T:=T1) (vs:=[_]) (ok:=fun G1=>J9 ((ls.take i).flatMap CP++(CP s).take (j+1)) G1) (no:=X) E E ⟨E,zT⟩ E ?_ (fun bb G1 hG1=>⟨zT,?_⟩)
 intro M
 have e1:ls.flatMap CP=((ls.take i).flatMap CP++(CP s).take j)++Jr s (4*j)::((CP s).drop (j+1)++(ls.drop (i+1)).flatMap CP):=by
  have h1:ls.flatMap CP=(ls.take i).flatMap CP++(CP s++(ls.drop (i+1)).flatMap CP):=by
   rw[←List.flatMap_cons,←List.flatMap_append,←hsplit.1]
  have h2:CP s++(ls.drop (i+1)).flatMap CP=(CP s).take j++Jr s (4*j)::((CP s).drop (j+1)++(ls.drop (i+1)).flatMap CP):=by
   rw[←List.cons_append,←List.append_assoc,←hws.1]
  rw[h1,h2,List.append_assoc]
 have:=hy _ _ _ e1 G hJ2 M
 rw[List.append_assoc,←hws.2]at this
 exact this
 refine CS E E (V ?_)
 refine Av E (fun hc3=>?_) (fun hc3=>?_)
 obtain rfl:bb=false:=by simpa using hc3
 refine AK (A8 (Ab (Dz (A8 (A8 (Ab (Dz (A8 ?_))))))))
 exact Ag (Dg E) (Af (M:=G1) (.inr hG1) fun _ h=>h.skip [_,_])
 obtain rfl:bb=true:=by simpa using hc3
 refine AJ (Am (AI (AQ (J E (OU 4 E Cc E E zO zQ ?_)))))
 rw[List.drop_drop,show 4*j+4=4*(j+1) by omega]
 refine U E (AZ ?_)
 exact Au (j+1,G1) ⟨hjlt,hG1⟩ (by simp only;omega) tL
 have hje:j=s.length / 4:=by simp at hc2;omega
 refine Ax (A3 (BZ (A5 (Am (AI (AQ (Z E (Bb zO zO) (J E (AZ ?_)))))))))
 refine Au (i+1,G) ⟨hlt,?_⟩ (by simp only;omega) tL
 simp only
 rw[hsplit.2,List.flatMap_append,List.flatMap_cons,List.flatMap_nil,List.append_nil]
 have ht:(CP s).take j=CP s:=List.take_of_length_le (by rw[EA];omega)
 rw[ht]at hJ2
 exact hJ2
 have hle:i=ls.length:=by simp at hc1;omega
 refine Ax (A3 (BZ (A5 ?_)))
 exact C8 (Dg E) (Af (M:=G) (.inl (by rw[hle,List.take_length]at hJ;exact hJ)) fun _ h=>h.skip [_,_])
theorem ZZ(ls:List (List UInt8))(bs:Nat):zC K w0 303 [.slice (some ⟨bs,0,none⟩) ls.length ls.length] [AL bs (.cells (DK vS ls) 9)] H (fun r M=>∃bl,r=.func (.func 316) #[] #[vP bl 0]∧M=[AL bl (.cells #[.slice (some ⟨bs,0,none⟩) ls.length ls.length] 40),AL bs (.cells (DK vS ls) 9)]):=by
 refine TP.enter Tryz.func303 rfl rfl ?_
 refine Y ?_
 refine Ba E E zU fun b0=>?_
 refine U E (V (Y ?_))
 refine Gz (fv:=#[]) (cv:=#[_]) E E E ?_
 refine U E (V (AK ?_))
 exact Ag (Ck E E) (Af (M:=[_,_]) ⟨b0,E,E⟩ fun _ h=>h)
theorem ZY(key nonce:List UInt8)(counter:UInt32)(hk:key.length=32)(hn:nonce.length=12):zC K w0 272 [vS key,AA counter,vS nonce] [] H (fun r M=>r=.agg (DK AA (HO key counter nonce))∧M=[]):=by
 refine TP.enter Tryz.func272 rfl rfl ?_
 refine Y ?_
 refine Ak E bG zU fun b0=>?_
 refine V (KV (Y ?_))
 refine Ak E bG zU fun b1=>?_
 refine V (Y ?_)
 refine Ak E ob zU fun b2=>?_
 refine A2 0 E E E E O5 E E E zT (V (Y (J E (BB E E (Cu CJ DE) (J E ?_)))))
 refine Z E (FL.shr32 (n:=8)) ?_
 refine BB E E (Cu CJ DE) (J E ?_)
 refine Z E (FL.shr32 (n:=16)) ?_
 refine BB E E (Cu CJ DE) (J E ?_)
 refine Z E (FL.shr32 (n:=24)) ?_
 refine BB E E (Cu CJ DE) ?_
 refine B9 [_,_,_,_] E CV JX KP ⟨E,E,E,E,zT⟩ E E E zX E E zU fun b3=>?_
 refine SZ [_,_,_,_] E CV DE Cc E E (Aj 0 E) (U E (V (AH (KU (AI (AH (Y (J E (J E (J E ?_))))))))))
 refine B9 [_,_,_,_] E EY HA Sx ⟨E,E,E,E,zT⟩ E E E zX E E zU fun b4=>?_
 refine BN 1 n7 (ZZ [Jw,key,Fo counter,nonce] b4) E ?_
 rintro _ _ ⟨bl,rfl,rfl⟩
 refine V ?_
 have hbl:=MN (counter:=counter) hk hn
 have hfm:[Jw,key,Fo counter,nonce].flatMap CP=HO key counter nonce:=by simp[HO,List.flatMap_cons]
 refine AP ?_
 refine Sd (enc:=ol) ([Jw,key,Fo counter,nonce].flatMap CP) (fun pre G=>G=AL b3 (.cells (DK EB (Fo counter)) 5)::AL b2 (.cells #[vI pre.length] 3)::AL b1 (.cells (DK AA (pre++List.replicate (16-pre.length) 0)) 359)::AL b0 (.cells (DK AA (List.replicate 16 0)) 359)::H) (fun c G=>False) E oB E zV (aZ [Jw,key,Fo counter,nonce] bl b4 zS (by simp[hk,hn,Jw,Fo])) E E (fun pre x suf G hxs hJ r lp Rest=>?_) (fun G D hJ=>?_) (fun c G D hX=>hX.elim)
 obtain rfl:=hJ
 have hlt:pre.length<16:=by
  rw[hfm]at hxs
  rw[hxs]at hbl
  simp at hbl
  omega
 refine AQ (U E (AZ (KT (AP (AH (Y (AG 1 FG E (Z E Bj (V ?_)))))))))
 refine Av E (fun hc1=>absurd hc1 zQ) (fun hc1=>?_)
 refine AJ (AI (Y (AG 1 FG E (J E ?_))))
 refine Cw (n:=pre.length) E Pp Bg E E zO zO ?_
 refine T8 (f:=AA) 2 E E E E Bg E E zQ zT ?_
 rw[Si pre 0 x 16 pre.length rfl hlt]
 refine V (AQ (AG 1 FG E (Z E (Bb zO zO) (A2 1 E E E E O5 E E E zT (AZ (Am ?_))))))
 refine H5 (G:=_::_::_::_::H) ?_ (fun _ h=>h)
 have e1:(pre++[x]).length=pre.length+1:=by simp
 rw[e1]
 rfl
 obtain rfl:=hJ
 rw[hfm,hbl]
 have e1:HO key counter nonce++List.replicate (16-16) 0=HO key counter nonce:=by simp
 rw[e1]
 refine Am (AI (Y ?_))
 refine Aq ((HO key counter nonce).map AA) E dW (by simp[hbl]) E (Cj 2 E (fun j u hu=>by simpa[DK]using hu)) ?_
 refine OA 3 E E E E k8 (by simp[hbl]) (by simp[DK]) (Nh zV (HO key counter nonce)) zT ?_
 refine V (AK (EN ?_))
 exact Ag (IU E (B8 3 ((HO key counter nonce).map AA) dW (by simp[hbl]) E E (by simp only[List.drop_zero];exact List.take_of_length_le (by simp[hbl])))) (Af (M:=[]) ⟨E,E⟩ fun _ h=>h.skip [_,_,_,_])
end

section
variable {K:Nat→Prop}{w0:World}{H:List AX}
theorem iL:∀n:Fin 32,(Cn (n.1:Int) &&& 31).toNat=n.1∧(32-(Cn (n.1:Int) &&& 31)).toNat=32-n.1:=by decide
theorem Y4(x:UInt32)(n:Nat)(h1:n<32):Uu x (n:Int)=rl x n:=by
 obtain⟨e1,e2⟩:=iL ⟨n,h1⟩
 simp only at e1 e2
 unfold Uu rl
 rw[e1,e2]
theorem iu:∀i,aw i<32 | 0=>(by decide:16<32) | _+1=>(by decide:8<32)
theorem iv:∀i,ax i<32 | 0=>(by decide:12<32) | _+1=>(by decide:7<32)
theorem Ra(q:Q4):zC K w0 304 [AA q.a,AA q.b,AA q.c,AA q.d] [] H (fun r M=>r=.agg (DK AA q.quarter.list)∧M=[]):=by
 refine TP.enter Tryz.func304 rfl rfl ?_
 refine Y ?_
 refine Ak E SU zU fun b0=>?_
 refine V (AH (Y (T5 [vI 16,vI 12] E az O5 fF E ⟨E,E,zT⟩ E E zX (T5 [vI 8,vI 7] E az O5 fF E ⟨E,E,zT⟩ E E zX ?_))))
 refine B0 (r:=#[vI 16,vI 12,vI 8,vI 7]) [_,_] E qe qS rN ⟨E,E,zT⟩ E ?_
 refine J E (V (AP ?_))
 refine SX.mono (BG (α:=Nat) (fun i=>i≤2) (fun i=>[(0,AA (q.steps i).a),(1,AA (q.steps i).b),(2,AA (q.steps i).c),(3,AA (q.steps i).d),(8,vP b0 0),(13,.agg #[vI 16,vI 12,vI 8,vI 7]),(14,vI i)]) (fun i=>AL b0 (.cells (DK AA [0,0,0,0]) 389)::H) (fun i=>2-i) (fun i D hp=>?_) 0 zO) tL
 refine Y (Z E A4 (V (AH ?_)))
 refine Av E (fun hc1=>?_) (fun hc1=>?_)
 have hi:i<2:=by simp at hc1;omega
 refine AJ (AI (AH (AP (Y ?_))))
 refine RU (i:=i) (c':=#[vI (aw i:Int),vI (ax i:Int)]) rfl qv pD rfl rfl zO zO (by rcases(by omega:i=0∨i=1)with rfl | rfl<;>rfl) ?_
 refine Ak E fF zU fun b1=>?_
 refine A2 0 E E E E qs E E E zT (V (Y (J E (J E (Z E Bv (U E (V (Y (J E (J E (Z E Cd ?_)))))))))))
 refine Cw (n:=0) E az O5 E E zO zO ?_
 refine AG 0 FG E (AS 0 Zz (HB _ (aw i:Int)) E ?_)
 rw[Y4 _ _ (iu i)]
 refine U E (V (Y (J E (J E (Z E Bv (U E (V (AQ (J E (J E (Z E Cd ?_)))))))))))
 refine Cw (n:=1) E az O5 E E zO zO ?_
 refine AG 0 FG E (AS 0 Zz (HB _ (ax i:Int)) E ?_)
 rw[Y4 _ _ (iv i)]
 refine U E (AZ (Am (AI (AQ (Z E (Bb zO zO) (J E (AZ ?_)))))))
 exact Au (i+1) zO zO tL (fun w hw=>hw.skip [_])
 have hi:i=2:=by simp at hc1;omega
 subst hi
 refine Ax (A3 (BZ (A5 (AI (Y (J E (J E (J E (J E ?_)))))))))
 refine T5 (q.quarter.list.map AA) rfl Pq Bg SU rfl ⟨rfl,rfl,rfl,rfl,trivial⟩ rfl rfl (fun v hv=>by obtain⟨x,_,rfl⟩:=List.mem_map.1 hv;rfl) ?_
 refine OA 0 E E E E VX E E (Nh zV q.quarter.list) zT ?_
 refine V (AK ?_)
 exact Ag (IU E (B8 0 (q.quarter.list.map AA) dX E E E E)) (Af (M:=[]) ⟨E,E⟩ fun _ h=>h.skip [_])
theorem UE(ws:List UInt32)(step:Nat)(b:Nat)(e:TypeId)(hw:ws.length=16)(hs:step≤1):zC K w0 273 [vP b 0,vI step] [AL b (.cells (DK AA ws) e)] H (fun r M=>r=.tuple #[]∧M=[AL b (.cells (DK AA (Uv ws step)) e)]):=by
 refine TP.enter Tryz.func273 rfl rfl ?_
 refine Y (J E (V (AP ?_)))
 refine SX.mono (BG (α:=Nat) (fun i=>i≤4) (fun i=>[(0,vP b 0),(1,vI step),(10,vI i)]) (fun i=>AL b (.cells (DK AA (DW ws step i)) e)::H) (fun i=>4-i) (fun i D hp=>?_) 0 zO) tL
 have hwl:(DW ws step i).length=16:=(KL ws step i).trans hw
 refine Y (Z E A4 (V (AH ?_)))
 refine Av E (fun hc1=>?_) (fun hc1=>?_)
 have hi:i<4:=by simp at hc1;omega
 have h16:∀k,k<4→Hw step i k<16:=fun k hk=>by unfold Hw;omega
 refine AJ (AI (AH (AP (Y (J E (U E (V (Y ?_))))))))
 refine Ak E rM zU fun b0=>?_
 refine V (AH (Y (J E (V (AP ?_)))))
 refine SX.mono (BG (α:=Nat) (fun k=>k≤4) (fun k=>[(0,vP b 0),(1,vI step),(4,vI i),(5,vP b0 0),(10,vI i),(13,vI k)]) (fun k=>AL b0 (.cells (DK vI (((List.range k).map fun j=>((Hw step i j:Nat):Int))++List.replicate (4-k) 0)) 388)::AL b (.cells (DK AA (DW ws step i)) e)::H) (fun k=>4-k) (fun k D hp=>?_) 0 zO) tL
 refine Y (Z E A4 (V (AH ?_)))
 refine Av E (fun hc2=>?_) (fun hc2=>?_)
 have hk:k<4:=by simp at hc2;omega
 have hks:k*step≤3:=Nat.le_trans (Nat.mul_le_mul_left k hs) zO
 have hks2:((k:Int)*step)=((k*step:Nat):Int):=by simp
 refine AJ (AI (AH (AP (Y (J E (U E (V (AQ (J E (J E (Z E (OO zO zO) (J E (J E (J E ?_))))))))))))))
 refine Z E (OO zO zO) (Z E (Bb zO zO) (Z E (U0 zO zO) (Z E (Bb zO zO) ?_)))
 refine Cw (n:=k) E VZ O5 E E zO zO ?_
 refine T8 (f:=vI) 0 E E E E O5 E E zQ zT ?_
 rw[Si _ _ _ 4 k zS hk]
 refine AZ (Am (AI (AQ (Z E (Bb zO zO) (J E (AZ ?_))))))
 refine Au (k+1) zO zO tL (fun w hw=>?_)
 have e1:(4*(k:Int)+((i:Int)+(k:Int)*step)%4)=((Hw step i k:Nat):Int):=by simp[Hw]
 simp only[List.range_succ,List.map_append,List.map_cons,List.map_nil]
 rw[e1]at hw
 exact hw
 have hk:k=4:=by simp at hc2;omega
 subst hk
 have hat:((List.range 4).map fun j=>((Hw step i j:Nat):Int))++List.replicate (4-4) 0=[((Hw step i 0:Nat):Int),((Hw step i 1:Nat):Int),((Hw step i 2:Nat):Int),((Hw step i 3:Nat):Int)]:=by rfl
 rw[hat]
 refine Ax (A3 (BZ (A5 (AI ?_))))
 generalize hq:(⟨(DW ws step i).getD (Hw step i 0) 0,(DW ws step i).getD (Hw step i 1) 0,(DW ws step i).getD (Hw step i 2) 0,(DW ws step i).getD (Hw step i 3) 0⟩:Q4)=q
 refine Wl (α:=Nat) (fun _=>True) (fun x=>[(0,vP b 0),(1,vI step),(5,vP b0 0),(7,vP x 0),(10,vI i)]) (fun x=>AL x (.cells (DK AA q.quarter.list) 389)::AL b0 (.cells (DK vI [((Hw step i 0:Nat):Int),((Hw step i 1:Nat):Int),((Hw step i 2:Nat):Int),((Hw step i 3:Nat):Int)]) 388)::AL b (.cells (DK AA (DW ws step i)) e)::H) ?_ (fun x hx=>?_)
 refine Aw DC [0,1] (CF [(true,0),(true,1),(true,2),(true,3),(true,4),(true,5),(true,6),(true,7),(true,8),(true,9),(true,10),(true,11),(true,12),(true,13),(true,14),(true,15),(true,16),(true,17),(true,18),(true,19),(true,20),(true,21),(true,22),(true,23)] (.alt 24 (Cz [(false,25),(false,26)]) (.cons (false,25) (Cz [(false,24),(false,26)])))) zK (J E ?_)
 refine Cw (n:=0) E VZ O5 E E zO zO ?_
 refine AG 0 FG E (AT E E ?_)
 refine Cw (n:=Hw step i 0) E Pp Bg E E E (h16 _ zO) ?_
 refine Bq E A1 E (Cm 1 E (Es (JS 0 (by rw[hwl];exact h16 _ zO)))) (J E ?_)
 refine Cw (n:=1) E VZ O5 E E zO zO ?_
 refine AG 0 FG E (AT E E ?_)
 refine Cw (n:=Hw step i 1) E Pp Bg E E E (h16 _ zO) ?_
 refine Bq E A1 E (Cm 1 E (Es (JS 0 (by rw[hwl];exact h16 _ zO)))) (J E ?_)
 refine Cw (n:=2) E VZ O5 E E zO zO ?_
 refine AG 0 FG E (AT E E ?_)
 refine Cw (n:=Hw step i 2) E Pp Bg E E E (h16 _ zO) ?_
 refine Bq E A1 E (Cm 1 E (Es (JS 0 (by rw[hwl];exact h16 _ zO)))) (J E ?_)
 refine Cw (n:=3) E VZ O5 E E zO zO ?_
 refine AG 0 FG E (AT E E ?_)
 refine Cw (n:=Hw step i 3) E Pp Bg E E E (h16 _ zO) ?_
 refine Bq E A1 E (Cm 1 E (Es (JS 0 (by rw[hwl];exact h16 _ zO)))) ?_
 refine QN ?_ ?_
 refine Bd (vs:=[_,_,_,_]) (Hin:=[]) E E ⟨E,E,E,E,zT⟩ f9 (by rw[←hq];rfl) E (Ra q) ?_
 rintro _ _ ⟨rfl,rfl⟩
 refine⟨⟨⟨0,rfl⟩,⟨1,rfl⟩,trivial⟩,?_⟩
 refine Ak E SU (fun _=>⟨⟨1,E⟩,⟨2,E⟩,zT⟩) fun b1=>?_
 refine OA 0 E E E E VX E E (Nh zV q.quarter.list) ⟨⟨1,E⟩,⟨2,E⟩,zT⟩ ?_
 refine AZ ?_
 exact Sc b1 zT tL
 refine Ak E SU (fun _=>⟨⟨1,E⟩,⟨2,E⟩,zT⟩) fun b1=>?_
 refine Bd (vs:=[_,_,_,_]) (Hin:=[]) E E ⟨E,E,E,E,zT⟩ f9 (by rw[←hq];rfl) E (Ra q) ?_
 rintro _ _ ⟨rfl,rfl⟩
 refine⟨⟨⟨1,rfl⟩,⟨2,rfl⟩,trivial⟩,?_⟩
 refine OA 0 E E E E VX E E (Nh zV q.quarter.list) ⟨⟨1,E⟩,⟨2,E⟩,zT⟩ ?_
 refine AZ ?_
 exact Sc b1 zT tL
 
 refine Y (Aq (q.quarter.list.map AA) E dX E E (Aj 0 E) (J E (V (AP ?_))))
 refine SX.mono (BG (α:=Nat) (fun k=>k≤4) (fun k=>[(0,vP b 0),(1,vI step),(5,vP b0 0),(10,vI i),(53,.agg (DK AA q.quarter.list)),(54,vI k)]) (fun k=>AL x (.cells (DK AA q.quarter.list) 389)::AL b0 (.cells (DK vI [((Hw step i 0:Nat):Int),((Hw step i 1:Nat):Int),((Hw step i 2:Nat):Int),((Hw step i 3:Nat):Int)]) 388)::AL b (.cells (DK AA (Tv (DW ws step i) (Hw step i) q.quarter.list k)) e)::H) (fun k=>4-k) (fun k D hp=>?_) 0 zO) tL
 refine Y (Z E A4 (V (AH ?_)))
 refine Av E (fun hc3=>?_) (fun hc3=>?_)
 have hk:k<4:=by simp at hc3;omega
 have hix:[((Hw step i 0:Nat):Int),((Hw step i 1:Nat):Int),((Hw step i 2:Nat):Int),((Hw step i 3:Nat):Int)][k]? = some ((Hw step i k:Nat):Int):=by
  rcases(by omega:k=0∨k=1∨k=2∨k=3)with rfl | rfl | rfl | rfl<;>rfl
 have hsl:(Tv (DW ws step i) (Hw step i) q.quarter.list k).length=16:=(Po ..).trans hwl
 refine AJ (AI (AH (AP (Y (J E ?_)))))
 refine PE (i:=k) E Pq A1 E E zO zO (Es (JS 0 hk)) ?_
 refine U E (U E (V (Aw DC [1] (CF [(true,0),(true,1),(true,2),(true,3),(true,4),(true,5),(true,6)] (.last 7 .nil)) zK (J E (J E ?_)))))
 refine Cw (n:=k) E VZ O5 E E zO zO ?_
 refine Bq E FG E (Cm 0 E (Es hix)) (J E (AT E E ?_))
 refine Cw (n:=Hw step i k) E Pp Bg E E E (h16 _ hk) ?_
 refine Bc ?_
 refine T8 (f:=AA) 2 E E E E Bg E E (by rw[hsl];exact h16 _ hk) zT ?_
 refine AZ (Am (AI (AQ (Z E (Bb zO zO) (J E (AZ ?_))))))
 exact Au (k+1) zO zO tL
 have hk:k=4:=by simp at hc3;omega
 subst hk
 refine Ax (A3 (BZ (A5 (Am (AI (AQ (Z E (Bb zO zO) (J E (AZ ?_)))))))))
 refine Au (i+1) zO zO tL (fun w hw=>?_)
 have e1:Tv (DW ws step i) (Hw step i) q.quarter.list 4=DW ws step (i+1):=by rw[DW,ie,hq]
 rw[e1]at hw
 exact hw.skip [_,_]
 have hi:i=4:=by simp at hc1;omega
 subst hi
 refine Ax (A3 (BZ (A5 ?_)))
 exact C8 (Dg E) (Af (M:=[_]) ⟨E,E⟩ fun _ h=>h)
end

section
variable {K:Nat→Prop}{w0:World}{H:List AX}
theorem jA(W B:List UInt32)(i:Nat)(h1:i<W.length)(h2:i<B.length):(List.zipWith (·+·) W B).take (i+1)=(List.zipWith (·+·) W B).take i++[W.getD i 0+B.getD i 0]:=by
 rw[List.take_add_one,List.getElem?_eq_getElem zQ]
 simp[List.getD_eq_getElem?_getD,h1,h2]
theorem ce(j:Nat):UInt32.ofNat j+1=UInt32.ofNat (j+1):=by
 apply UInt32.toNat_inj.1
 simp
theorem fC(key nonce s:List UInt8)(n:Nat)(h:n<s.length):(IX key nonce s).take (n+1)=(IX key nonce s).take n++[s.getD n 0 ^^^ O3 key nonce n]:=by
 rw[List.take_add_one,List.getElem?_eq_getElem (by rw[Fe];exact h)]
 simp[IX]
theorem ZX(key nonce:List UInt8)(counter:UInt32)(hk:key.length=32)(hn:nonce.length=12):zC K w0 237 [vS key,AA counter,vS nonce] [] H (fun r M=>r=.tuple #[vS (Jb key counter nonce),vI 0]∧M=[]):=by
 refine TP.enter Tryz.func237 rfl rfl ?_
 refine Y (U E (U E (V (AH (Y (J E (Bp E Cc E (Z E BJ (J E ?_)))))))))
 refine Ee (c:=(!decide ((nonce.length:Int)=12))) 16 4 20 E (fun hb k=>?_) (fun hb k=>?_) ?_
 refine AC E (AC E (AC E (Ah E E E ?_)))
 exact k.mono tL
 refine J E (Bp E Cc E (Z E BJ (Ah E E E ?_)))
 exact k.mono tL
 refine V ?_
 refine Av E (fun hc1=>absurd hc1 (by simp[hk,hn])) (fun hc1=>?_)
 refine AJ (AI (Y (J E (J E (J E (AS 0 nn (ZY key nonce counter hk hn) E ?_))))))
 have hB:=MN (counter:=counter) hk hn
 generalize hBe:HO key counter nonce=B at hB
 refine Ak E bG zU fun b0=>?_
 refine OA (c':=DK AA B) 0 E E E E k8 (by rw[Sf];exact hB) E (Nh zV B) zT ?_
 refine V (Y ?_)
 refine Ak E bG zU fun b1=>?_
 refine V (AH (Aw DC [] (CF [(true,0),(true,1)] (.last 2 .nil)) zK (fM E Pp Bg E zD (fM E Pp Bg E zD (Bc ?_)))))
 refine lZ (f:=AA) (xs:=List.replicate 16 0) (ys:=B) 0 1 E CM Bg E E E E E hB zV zT ?_
 refine V (AH (Y (J E (V (AP ?_)))))
 refine SX.mono (BG (α:=Nat) (fun i=>i≤10) (fun i=>[(8,vP b0 0),(9,vP b1 0),(28,vI i)]) (fun i=>AL b1 (.cells (DK AA (SO B i)) 359)::AL b0 (.cells (DK AA B) 359)::H) (fun i=>10-i) (fun i D hp=>?_) 0 zO) tL
 have htl:=(Mv B i).trans hB
 refine Y (Z E A4 (V (AH ?_)))
 refine Av E (fun hc2=>?_) (fun hc2=>?_)
 have hi:i<10:=by simp at hc2;omega
 refine AJ (AI (AH (AP (Y (AS 1 f6 (UE (SO B i) 0 b1 359 htl zO) E (V (AQ (AS 1 f6 (UE (Uv (SO B i) 0) 1 b1 359 ((KL ..).trans htl) zO) E (AZ (Am (AI (AQ (Z E (Bb zO zO) (J E (AZ ?_)))))))))))))))
 exact Au (i+1) zO zO tL
 have hi:i=10:=by simp at hc2;omega
 subst hi
 generalize hW:SO B 10=W at htl
 refine Ax (A3 (BZ (A5 (AI (Y (U E (V (AH (Y (Aq (W.map AA) E dW (by simp[htl]) E (Aj 0 E) (J E (V (AP (Ic 5 1 ?_))))))))))))))
 refine SX.mono (BG (α:=Nat×Value) (fun x=>x.1≤16) (fun x=>[(8,vP b0 0),(10,x.2),(33,.agg (DK AA W)),(34,vI x.1)]) (fun x=>DN 5 1 x.2 (4*x.1) ((((List.zipWith (·+·) W B).take x.1).flatMap Fo).map fun b=>EB b)::AL b1 (.cells (DK AA W) 359)::AL b0 (.cells (DK AA B) 359)::H) (fun x=>16-x.1) (fun x D hp=>?_) (0,zN) zD) tL
 obtain⟨i,v⟩:=x
 simp only at hp
 refine Y (Z E A4 (V (AH ?_)))
 refine Av E (fun hc3=>?_) (fun hc3=>?_)
 have hi:i<16:=by simp at hc3;omega
 refine AJ (AI (AH (AP (Y (J E ?_)))))
 refine PE (i:=i) E Pp A1 E E zO zO (Es (JS 0 zO)) ?_
 refine U E (U E (V (Y (J E (J E ?_)))))
 refine Cw (n:=i) E Pp Bg E E zO zO ?_
 refine Bq E A1 E (Cm 2 E (Es (JS 0 zO))) (Z E Bv (U E (V (AQ (J E (J E (BB E E (Cu CJ DE) (J E ?_))))))))
 refine Z E (FL.shr32 (n:=8)) ?_
 refine BB E E (Cu CJ DE) (J E ?_)
 refine Z E (FL.shr32 (n:=16)) ?_
 refine BB E E (Cu CJ DE) (J E ?_)
 refine Z E (FL.shr32 (n:=24)) ?_
 refine BB E E (Cu CJ DE) ?_
 refine B9 [_,_,_,_] E CV JX KP ⟨E,E,E,E,zT⟩ E E E zX E E zU fun b2=>?_
 refine T4 1 rfl (m:=4) (news:=(Fo (W.getD i 0+B.getD i 0)).map fun b=>EB b) CV JX U6 KP rfl zD rfl rfl rfl rfl (Aj 0 rfl) (by intro u hu;obtain⟨x,_,rfl⟩:=List.mem_map.1 hu;rfl) zO zO zU fun v'=>?_
 refine U E (AZ (Am (AI (AQ (Z E (Bb zO zO) (J E (AZ ?_)))))))
 refine Au (i+1,v') (by simp only;omega) (by simp only;omega) tL (fun w hw=>?_)
 simp only
 rw[jA W B i zO zO,List.flatMap_append,List.map_append]
 simp only[List.flatMap_cons,List.flatMap_nil,List.append_nil]
 exact hw.skip [_]
 have hi:i=16:=by simp at hc3;omega
 subst hi
 have ht:(List.zipWith (·+·) W B).take 16=List.zipWith (·+·) W B:=List.take_of_length_le zQ
 rw[ht]
 refine Ax (A3 (BZ (A5 (AI (Y (J E ?_))))))
 refine Wg (s:=(List.zipWith (·+·) W B).flatMap Fo) 0 E CV DE Cc E E ?_
 refine U E (U E (V (AK ?_)))
 exact Ag (ES E E E) (Af (M:=[]) ⟨by rw[Jb,gV,hBe,hW],E⟩ fun _ h=>h.skip [_,_,_])
theorem dg(key nonce s:List UInt8)(hk:key.length=32)(hn:nonce.length=12)(hs:s.length≤1048576):zC K w0 200 [vS key,vS nonce,vS s] [] H (fun r M=>r=.tuple #[vS (IX key nonce s),vI 0]∧M=[]):=by
 refine TP.enter Tryz.func200 rfl rfl ?_
 refine Y (U E (U E (V (AH (Y (J E (Bp E Cc E (Z E BJ (J E ?_)))))))))
 refine Ee (c:=(!decide ((nonce.length:Int)=12))) 17 4 21 E (fun hb k=>?_) (fun hb k=>?_) ?_
 refine AC E (AC E (AC E (Ah E E E ?_)))
 exact k.mono tL
 refine J E (Bp E Cc E (Z E BJ (Ah E E E ?_)))
 exact k.mono tL
 refine J E ?_
 refine Ee (c:=decide ((1048576:Int)<s.length)) 22 4 26 E (fun hb k=>?_) (fun hb k=>?_) ?_
 refine AC E (AC E (AC E (Ah E E E ?_)))
 exact k.mono tL
 refine J E (Bp E Cc E (Z E Ci (Ah E E E ?_)))
 exact k.mono tL
 refine V ?_
 refine Av E (fun hc1=>absurd hc1 (by simp[hk,hn];omega)) (fun hc1=>?_)
 refine AJ (AI (Y ?_))
 refine Ak E YD zU fun b0=>?_
 refine V (AH (Y (U E (V (AP (Ic 5 1 (SX.pick [1,0] 2 ?_)))))))
 have hxl:=Fe key nonce s
 refine SX.mono (BG (α:=Nat×Value×Value) (fun x=>64*x.1<s.length+64∧OW b0 x.2.1) (fun x=>[(0,vS key),(1,vS nonce),(2,vS (s.drop (64*x.1))),(8,vP b0 0),(9,AA (UInt32.ofNat x.1))]) (fun x=>AL b0 (.cells #[x.2.1,x.2.2] 136)::DN 5 1 x.2.2 (min (64*x.1) s.length) (((IX key nonce s).take (min (64*x.1) s.length)).map fun b=>EB b)::H) (fun x=>s.length+64-64*x.1) (fun x D hp=>?_) (0,.pointer none,zN) ⟨by simp,.inl E⟩) ⟨E,E,E,E,E,zT⟩
 obtain⟨j,p,v⟩:=x
 obtain⟨hj,hadr⟩:=hp
 simp only at hj hadr
 refine AH (Y (J E ?_))
 refine Z E (Tx (t:=[])) ?_
 refine V ?_
 refine Av E (fun hc2=>?_) (fun hc2=>?_)
 have hjl:64*j<s.length:=by simp at hc2;omega
 have hmin:min (64*j) s.length=64*j:=zO
 rw[hmin]
 refine AJ (AI (AH (AP (Y (J E (J E (J E (AS 0 nc (ZX key nonce (UInt32.ofNat j) hk hn) E ?_))))))))
 have hbl:=RZ (counter:=UInt32.ofNat j) hk hn
 refine J E (Ae E E E (Ae E E E (U E (U E (V (Y (J E (J E (Bp E Cc E ?_)))))))))
 refine J E (Bp E Cc E (T7 E E E (RV (min (s.length-64*j) 64) E Cc E E zQ zQ (U E (V (AH (Y (J E (Bp E Cc E (J E (V (AP ?_))))))))))))
 have hpl:((s.drop (64*j)).take (min (s.length-64*j) 64)).length=min (s.length-64*j) 64:=by simp
 refine SX.mono (BG (α:=Nat×Value×Value) (fun x=>x.1≤min (s.length-64*j) 64∧OW b0 x.2.1) (fun x=>[(0,vS key),(1,vS nonce),(2,vS (s.drop (64*j))),(8,vP b0 0),(9,AA (UInt32.ofNat j)),(10,vS (Jb key (UInt32.ofNat j) nonce)),(12,vS ((s.drop (64*j)).take (min (s.length-64*j) 64))),(46,vI ((s.drop (64*j)).take (min (s.length-64*j) 64)).length),(47,vI x.1)]) (fun x=>AL b0 (.cells #[x.2.1,x.2.2] 136)::DN 5 1 x.2.2 (64*j+x.1) (((IX key nonce s).take (64*j+x.1)).map fun b=>EB b)::H) (fun x=>64-x.1) (fun x D hp=>?_) (0,p,v) ⟨Nat.zero_le _,hadr⟩) tL
 obtain⟨i,p,v⟩:=x
 obtain⟨hi,hadr⟩:=hp
 simp only at hi hadr
 refine Y (Z E A4 (V (AH ?_)))
 refine Av E (fun hc3=>?_) (fun hc3=>?_)
 have hil:i<min (s.length-64*j) 64:=by simp only[hpl]at hc3;simpa using hc3
 refine AJ (AI (AH (AP (Y (J E (U E (V (Aw DC [] (CF [(true,0),(true,1),(true,2),(true,3),(true,4),(true,5),(true,6)] (.last 7 .nil)) zK (J E (J E (KS i E Cc E E zO zO (J E (J E ?_)))))))))))))
 refine KS i E Cc E E zO zO (Z E SY (Bc ?_))
 have e1:((s.drop (64*j)).take (min (s.length-64*j) 64)).getD i 0=s.getD (64*j+i) 0:=by
  simp[List.getD_eq_getElem?_getD,hil,show 64*j+i<s.length by omega]
 have e2:(Jb key (UInt32.ofNat j) nonce).getD i 0=O3 key nonce (64*j+i):=by
  rw[O3,show(64*j+i) / 64=j by omega,show(64*j+i)%64=i by omega]
 rw[e1,e2]
 refine BN 2 WS (OB 136 b0 p v (64*j+i) _ _ hadr Qn zO) E ?_
 rintro _ _ ⟨rfl,v',rfl⟩
 refine AZ (Am (AI (AQ (Z E (Bb zO zO) (J E (AZ ?_))))))
 refine Au (i+1,vP b0 0,v') ⟨by simp only;omega,.inr E⟩ (by simp only;omega) tL (fun w hw=>?_)
 simp only
 rw[←Nat.add_assoc,fC key nonce s (64*j+i) zO,List.map_append]
 exact hw
 have hie:i=min (s.length-64*j) 64:=by simp only[hpl]at hc3;simp at hc3;omega
 refine Ax (A3 (BZ (A5 (AI (AQ (J E (J E (Bp E Cc E (OU (min (s.length-64*j) 64) E Cc E E (by rw[hpl]) zQ ?_)))))))))
 rw[List.drop_drop]
 refine U E (AZ (Am (AI (AQ (J E ?_)))))
 refine Z E (Bv (b:=1)) ?_
 refine U E (AZ ?_)
 have e1:s.drop (64*j+min (s.length-64*j) 64)=s.drop (64*(j+1)):=by
  rcases Nat.lt_or_ge (s.length-64*j) 64 with h | h
  rw[List.drop_eq_nil_of_le zO,List.drop_eq_nil_of_le zO]
  rw[show 64*j+min (s.length-64*j) 64=64*(j+1) by omega]
 rw[e1,ce]
 refine Au (j+1,p,v) ⟨by simp only;omega,hadr⟩ (by simp only;omega) tL (fun w hw=>?_)
 simp only
 rw[show min (64*(j+1)) s.length=64*j+i by omega]
 exact hw
 have hjl:s.length≤64*j:=by simp at hc2;omega
 have hmin:min (64*j) s.length=s.length:=zO
 have ht:(IX key nonce s).take s.length=IX key nonce s:=List.take_of_length_le zO
 rw[hmin,ht]
 refine Ax (A3 (BZ (A5 (AI (Y (AS 2 Pc (JJ 136 b0 p v s.length (IX key nonce s) zO) E (U E (U E (V (AK ?_))))))))))
 exact Ag (ES E E E) (Af (M:=[]) ⟨E,E⟩ fun _ h=>h.skip [_,_])
end

section
variable {K:Nat→Prop}{w0:World}{H:List AX}
theorem PJ(b:Nat)(p v:Value)(e:TypeId)(n:UInt64)(w m:Nat)(xs:List UInt8)(hp:OW b p)(hl:Yr e)(hw:w≤8)(hm:m≤1048576):zC K w0 239 [vP b 0,AV n,vI w] [AL b (.cells #[p,v] e),DN 5 1 v m (xs.map fun b=>EB b)] H (fun r M=>r=.tuple #[]∧∃p' v',OW b p'∧M=[AL b (.cells #[p',v'] e),DN 5 1 v' (m+w) ((xs++CT n w).map fun b=>EB b)]):=by
 refine TP.enter Tryz.func239 rfl rfl ?_
 refine Y (J E (J E (V (AP ?_))))
 refine SX.mono (BG (α:=Nat×Value×Value) (fun x=>x.1≤w∧OW b x.2.1) (fun x=>[(0,vP b 0),(1,AV n),(7,vI w),(8,vI x.1)]) (fun x=>AL b (.cells #[x.2.1,x.2.2] e)::DN 5 1 x.2.2 (m+x.1) ((xs++CT n x.1).map fun b=>EB b)::H) (fun x=>w-x.1) (fun x D hp=>?_) (0,p,v) ⟨Nat.zero_le _,hp⟩ |>.heap (fun w h=>by simpa[CT]using h)) tL
 obtain⟨i,p,v⟩:=x
 obtain⟨hi,hadr⟩:=hp
 simp only at hi hadr
 refine Y (Z E A4 (V (AH ?_)))
 refine Av E (fun hc1=>?_) (fun hc1=>?_)
 have hlt:i<w:=by simpa using hc1
 refine AJ (AI (AH (AP (Y (J E (U E (V (Aw DC [] (CF [(true,0),(true,1),(true,2),(true,3),(true,4),(true,5),(true,6),(true,7)] (.last 8 .nil)) zK (J E (AT E E (AF E Xb (J E (J E ?_)))))))))))))
 refine Z E (OO zO zO) ?_
 refine Z E (FL.shr64 (n:=(8*i))) ?_
 refine BB E E (FC DJ DE) (Bc (BN 2 WS (OB e b p v (m+i) _ _ hadr hl zO) E ?_))
 rintro _ _ ⟨rfl,v',rfl⟩
 refine AZ (Am (AI (AQ (Z E (Bb zO zO) (J E (AZ ?_))))))
 refine Au (i+1,vP b 0,v') ⟨hlt,.inr E⟩ (by simp only;omega) tL (fun w hw=>?_)
 simp only
 rw[SA,←List.append_assoc,List.map_append (l₁:=xs++CT n i),←Nat.add_assoc]
 exact hw
 have hie:i=w:=by simp at hc1;omega
 subst hie
 refine Ax (A3 (BZ (A5 ?_)))
 exact C8 (Dg E) (Af (M:=[_,_]) ⟨E,p,v,hadr,E⟩ fun _ h=>h)
theorem TE(h:C3):zC K w0 201 [.agg (Jv h).toArray] [] H (fun r M=>r=vS (Ks h)∧M=[]):=by
 refine TP.enter Tryz.func201 rfl rfl ?_
 refine Y ?_
 refine Ba E E zU fun b0=>?_
 refine U E (V (Y ?_))
 refine Ak E lU zU fun b1=>?_
 refine V (Y ?_)
 refine Gz (fv:=#[_]) (cv:=#[]) E E E ?_
 refine U E (V (Ic 5 1 (SX.pick [1,0,2] 3 (Y (J E (AF E XZ (AG 2 A1 E (BB E E (Cl CJ DJ) (BN 2 WT (PJ b1 (.pointer none) (.slice none 0 0) 335 h.boot.toUInt64 4 0 [] (.inl E) aR zO zO) E ?_)))))))))
 rintro _ _ ⟨rfl,p1,v1,ha1,rfl⟩
 refine V (Y (J E (AF E Xa (AG 2 Gy E (BN 2 WT (PJ b1 p1 v1 335 h.seq 8 4 _ ha1 aR zO zO) E ?_)))))
 rintro _ _ ⟨rfl,p2,v2,ha2,rfl⟩
 refine V (Y (AF E Xb (AS 2 Pc (JJ 335 b1 p2 v2 12 (Ks h) zO) E (U E (V (AK ?_))))))
 exact Ag (Ck E E) (Af (M:=[]) ⟨E,E⟩ fun _ h=>h.skip [_,_,_])
theorem bu(h:C3):zC K w0 202 [.agg (Jv h).toArray] [] H (fun r M=>r=vS (Oy h)∧M=[]):=by
 refine TP.enter Tryz.func202 rfl rfl ?_
 refine Y ?_
 refine Ba E E zU fun b0=>?_
 refine U E (V (Y ?_))
 refine Ak E lU zU fun b1=>?_
 refine V (Y ?_)
 refine Gz (fv:=#[_]) (cv:=#[]) E E E ?_
 refine U E (V (Ic 5 1 (SX.pick [1,0,2] 3 (Y (J E (AF E cW (AG 2 A1 E (BB E E (Cl CJ DJ) (BN 2 WT (PJ b1 (.pointer none) (.slice none 0 0) 335 h.page.toUInt64 4 0 [] (.inl E) aR zO zO) E ?_)))))))))
 rintro _ _ ⟨rfl,p1,v1,ha1,rfl⟩
 refine V (Y (J E (AF E Uh (AG 2 A1 E (BB E E (Cl CJ DJ) (BN 2 WT (PJ b1 p1 v1 335 h.gen.toUInt64 4 4 _ ha1 aR zO zO) E ?_))))))
 rintro _ _ ⟨rfl,p2,v2,ha2,rfl⟩
 refine V (AH (Aw DC [2] (Cz [(true,0),(true,2),(false,1),(false,3),(true,4),(true,5),(true,6)]) zK (AF E Xb (Aq (Jv h) E TU E E (Aj 0 E) (BW 2 Pc (JJ 335 b1 p2 v2 8 (CT h.page.toUInt64 4++CT h.gen.toUInt64 4) zO) E ⟨⟨2,E⟩,zT⟩ (BW 0 fj (TE h) E ⟨⟨2,E⟩,zT⟩ (Z E (FM (by simp[Bz,KH])) (Z E (FM (by simp[Bz,KH])) (U E (V (AK ?_)))))))))))
 exact Ag (Ck E E) (Af (M:=[]) ⟨E,E⟩ fun _ h=>h.skip [_,_,_])
end

section
variable {K:Nat→Prop}{w0:World}{H:List AX}
end

section
variable {K:Nat→Prop}{w0:World}{H:List AX}
theorem mK(s:List UInt8)(hn:s.length≤9223372036854775807):zC K w0 198 [vS s] [] H (fun r M=>r=.tuple #[vS (Ov s).1,vI (Ov s).2]∧M=[]):=
 (di s hn).mono fun v M h=>⟨by rw[h.1];unfold Ov;split<;>rfl,h.2⟩
theorem jo(T:List UInt32)(k:BK)(hT:GM K w0 T)(hr:DT [k]=true):zC K w0 199 [.agg (Aa k).toArray] [] H (fun r M=>r=.tuple #[vS (O4 T k NS),vS (O4 T k Nt),vI 0]∧M=[]):=
 (Zb T k hT).mono fun v M h=>⟨by rw[h.1,if_pos hr],h.2⟩
theorem Zk(T:List UInt32)(v:Value)(l:List BK)(h:C3)(s:List UInt8)(hT:GM K w0 T)(hk:B6 K w0 Aa 2 v l)(hv:v.cells=#[v])(hl:l.length≤1099511627776)(hn:s.length≤9223372036854775807):zC K w0 158 [v,.agg (Jv h).toArray,vS s] [] H (fun r M=>r=.tuple #[vS (HF T l h s).1,vI (HF T l h s).2]∧M=[]):=by
 refine TP.enter Tryz.func158 rfl rfl ?_
 refine Y ?_
 refine Ba E E zU fun b0=>?_
 refine U E (U E (V (Y (J E (AF E Uh (AG 0 A1 E (AS 0 j8 (UG v l h.gen hk hv hl) E ?_)))))))
 generalize hf:DP l h.gen=f
 refine J E (Ae E E E (Ae E E E ?_))
 refine Ak E JZ zU fun b1=>?_
 refine A2 0 E E E E E2 E E E zT (U E (V (AH (Y (J E (Z E BJ (V ?_)))))))
 refine Av E (fun hc1=>?_) (fun hc1=>?_)
 have he:f.2≠0:=by simpa using hc1
 have hs:HF T l h s=([],f.2):=by unfold HF;rw[hf,if_pos he]
 rw[hs]
 refine Y (J E (U E (U E (V (AK (Ab ?_))))))
 exact Ag (ES E E E) (Af (M:=[]) ⟨E,E⟩ fun _ h=>h.skip [_,_])
 have he:f.2=0:=by simpa using hc1
 have hok:=UU (l:=l) (g:=h.gen) (by rw[hf];exact he)
 rw[hf]at hok
 refine AJ (AI (Y (J E (AS 0 nI (mK s hn) E (J E (Ae E E E (Ae E E E (U E (U E (V (AH (Y (J E ?_)))))))))))))
 refine Z E BJ (V ?_)
 refine Av E (fun hc2=>?_) (fun hc2=>?_)
 have h1:198<s.length:=by
  unfold Ov at hc2
  split at hc2
  assumption
  simp at hc2
 have hs:HF T l h s=([],50):=by unfold HF;rw[hf,if_neg (by simp[he]),if_pos h1]
 have hp:Ov s=([],50):=by unfold Ov;rw[if_pos h1]
 rw[hs,hp]
 refine Y (J E (U E (U E (V (AK (Ab ?_))))))
 exact Ag (ES E E E) (Af (M:=[]) ⟨E,E⟩ fun _ h=>h.skip [_,_])
 have h1:¬198<s.length:=by
  intro h1
  unfold Ov at hc2
  rw[if_pos h1]at hc2
  simp at hc2
 have hp:Ov s=(KI s,0):=by unfold Ov;rw[if_neg h1]
 have hpl:(KI s).length=200:=Fb zO
 have hbl:=Gf T f.1 h hpl
 have hsl1:=ON T f.1 NS
 have hsl2:=ON T f.1 Nt
 have hs:HF T l h s=(HP T f.1 h s,0):=by unfold HF;rw[hf,if_neg (by simp[he]),if_neg h1]
 rw[hs,hp]
 refine AJ (AI (Y (Aq (Aa f.1) E Ky E E (Aj 0 E) (AS 0 nJ (jo T f.1 hT hok.2.2.2) E (J E (Ae E E E (Ae E E E (Ae E E E (U E (U E ?_))))))))))
 refine U E (V (Y (J E (Aq (Jv h) E TU E E (Aj 1 E) (AS 0 fj (TE h) E (J E (AS 0 nK (dg (O4 T f.1 NS) (Ks h) (KI s) hsl1 (KH h) zO) E (J E (Ae E E E ?_)))))))))
 refine Ae E E E (U E (U E (V (Y (Aq (Jv h) E TU E E (Aj 1 E) (AS 0 nL (bu h) E (J E (Z E (FM (by rw[Hl,Fe];omega)) (U E (V (Y ?_)))))))))))
 refine J E (J E (J E ?_))
 refine B9 [_] E EY HA Sx ⟨E,zT⟩ E E E zX E E zU fun b2=>?_
 refine AS 1 fm (Wx T (O4 T f.1 Nt) [KX T f.1 h (KI s)] b2 hT zO zQ zS) E ?_
 refine Z E (FM (by rw[Hj];have:=hbl;simp only[KX]at this;omega)) ?_
 refine U E (U E (V (AK ?_)))
 exact Ag (ES E E E) (Af (M:=[]) ⟨by simp[HP,KX],E⟩ fun _ h=>h.skip [_,_])
end

section
variable {K:Nat→Prop}{w0:World}{H:List AX}
end

section
open Go Go.ChangeShapes Go.WideShapes Go.ChangeAt Go.RowKit
def Qc:List UInt32:=[1116352408,1899447441,3049323471,3921009573,961987163,1508970993,2453635748,2870763221,3624381080,310598401,607225278,1426881987,1925078388,2162078206,2614888103,3248222580,3835390401,4022224774,264347078,604807628,770255983,1249150122,1555081692,1996064986,2554220882,2821834349,2952996808,3210313671,3336571891,3584528711,113926993,338241895,666307205,773529912,1294757372,1396182291,1695183700,1986661051,2177026350,2456956037,2730485921,2820302411,3259730800,3345764771,3516065817,3600352804,4094571909,275423344,430227734,506948616,659060556,883997877,958139571,1322822218,1537002063,1747873779,1955562222,2024104815,2227730452,2361852424,2428436474,2756734187,3204031479,3329325298]
def UO:List Int:=[1116352408,1899447441,3049323471,3921009573,961987163,1508970993,2453635748,2870763221,3624381080,310598401,607225278,1426881987,1925078388,2162078206,2614888103,3248222580,3835390401,4022224774,264347078,604807628,770255983,1249150122,1555081692,1996064986,2554220882,2821834349,2952996808,3210313671,3336571891,3584528711,113926993,338241895,666307205,773529912,1294757372,1396182291,1695183700,1986661051,2177026350,2456956037,2730485921,2820302411,3259730800,3345764771,3516065817,3600352804,4094571909,275423344,430227734,506948616,659060556,883997877,958139571,1322822218,1537002063,1747873779,1955562222,2024104815,2227730452,2361852424,2428436474,2756734187,3204031479,3329325298]
def aB:List Int:=[1779033703,3144134277,1013904242,2773480762,1359893119,2600822924,528734635,1541459225]
section
variable {P:Program}{W:World}
theorem Vp{x:String×DataW Unit}{r:List (String×DataW Unit)}(h:laidMet P (x::r) W):laidMet P r W:=by
 obtain⟨ps,⟨g,t,cs,fuel,p,q,_,_,_,_,hs,rfl⟩,hn,hc⟩:=h
 exact⟨q,hs,(List.nodup_append.1 hn).2.1,fun b off hb=>hc b off (List.mem_append_right _ hb)⟩
theorem av{name:String}{g:Nat}{zs:List Int}{T:List UInt32}(hg:P.globalNamed name=some g)(h:Lib.TabIs P W name .u32 zs)(hl:T≠[])(hz:zs=T.map fun x=>(x.toNat:Int)):Sq (· < W.heap.size) W g T:=by
 have hc:∀i x,T[i]? = some x→W.cell? ⟨g,i,none⟩=some (AA x):=by
  intro i x hx
  obtain⟨hi,rfl⟩:=List.getElem?_eq_some_iff.1 hx
  have:=h.cell hg i (by rw[hz];simpa using hi)
  rw[this,hz]
  simp[AA,List.getD_eq_getElem?_getD,hi]
 refine⟨?_,hc⟩
 obtain⟨x,r,rfl⟩:=List.exists_cons_of_ne_nil hl
 have h0:=hc 0 x rfl
 rcases Nat.lt_or_ge g W.heap.size with h | h
 exact h
 have:W.heap[g]? = none:=by simp[h]
 simp[World.cell?,this]at h0
end
theorem ra:ownKnob Tryz.prog.godebug=none:=zK
theorem iI:laidOutB Tryz.prog=true:=zK
theorem gQ:Tryz.prog.globalNamed "sphragis/sha.first" = some 1:=zK
theorem gP:Tryz.prog.globalNamed "sphragis/sha.constants" = some 3:=zK
theorem kU:(Tryz.prog.globals[1]?).map (·.type)=some 366:=zK
theorem kT:(Tryz.prog.globals[3]?).map (·.type)=some 400:=zK
theorem VA:Tryz.prog.cellsOf 33=1:=zK
theorem eA:Tryz.prog.cellsOf 366=8:=zK
theorem XH:Tryz.prog.cellsOf 400=64:=zK
theorem k4{W:World}(h:laidMetH Tryz.prog [("sphragis/sha.first", Rows.laid_sphragis_sha_first),("sphragis/sha.constants", Rows.laid_sphragis_sha_constants)] W):GM (· < W.heap.size) W Qc:=by
 have h0:laidMet Tryz.prog [("sphragis/sha.first", Lib.tabData .u32 aB),("sphragis/sha.constants", Lib.tabData .u32 UO)] W:=h
 refine⟨?_,rfl,?_⟩
 exact av gP (Lib.tabIs_of_head (rest:=[]) gP kT Tryz.underlying400 Tryz.underlying33 VA XH (Vp h0)) (by simp[Qc]) zK
 exact av gQ (Lib.tabIs_of_head gQ kU Tryz.underlying366 Tryz.underlying33 VA eA h0) (by simp[Dl,Mx.list]) zK
def kV(zs:List Int):Obj→Obj
 | .cells _ t frozen=>.cells (zs.map fun z=>Value.int .u32 z).toArray t frozen
 | o=>o
end

section
open Go Go.ChangeShapes Go.WideShapes Go.ChangeAt Go.RowKit Go.Deep Go.Lib Go.Joins
section
variable {G:Type}{enc:TypeId×Value→G}{P:Program}{W:World}
theorem iU{t:TypeId}{k:IntKind}{base:Nat}{v:Value}{d:DataW G}{p:List MemPlace}(ht:P.underlying t=some (.int k))(hval:Value.okWide P W .any base t v)(h:DataW.Trod enc P W 0 (fun _=>true) true t v d p):
  ∃z:Int,v=.int k z∧(Lit.int k z).wf=true:=by
 obtain⟨z,rfl⟩:=okWide_int ht hval
 obtain⟨n,hn⟩:=h
 obtain⟨z',e,_,w⟩:=DataW.trod_int ht hn
 simp[Value.cells]at e
 subst e
 exact⟨z,rfl,w⟩
end
end

section
variable {P:Program}{ro:Option Nat}{K:Nat→Prop}{w0:World}{N:Nat}{Q:DF}{D:List Nat}{l l':Tm}{H H' Hs L:List AX}{ops:Array Oper}{items:Hn}
variable {tk:Bool}{o:Oper}{t:Nat}{v:Value}{x y z:Operand}
def wI(x:Int):Int:=IntKind.i64.wrap x
theorem DB{x:Int}(h1 : -9223372036854775808≤x)(h2:x≤9223372036854775807):wI x=x:=Nr (k:=.i64) h1 h2
def BA{α:Type}(l:List α)(i:Int):Option α:=if 0≤i then l[i.toNat]? else none
def Ku{α:Type}(l:List α)(i j:Int):Option (List α):=if 0≤i∧i≤j∧j≤l.length then some ((l.drop i.toNat).take (j.toNat-i.toNat))else none
def Np{α:Type}(l:List α)(i:Int)(a:α):Option (List α):=if 0≤i∧i<l.length then some (l.set i.toNat a)else none
def ED(s t:List UInt8):Option (List UInt8):=if s.length+t.length≤9223372036854775807 then some (s++t)else none
def DM{α:Type}(by_:Nat)(s t:List α):Option (List α):=if(s.length+t.length)*by_≤140737488355328∧s.length+t.length≤9223372036854775807 then some (s++t)else none
def QH(i:Int):Option Nat:=if 0≤i then some i.toNat else none
def Uq(a b:Int):Option Int:=if b=0 then none else some (wI (a.tdiv b))
def TM(a b:Int):Option Int:=if b=0 then none else some (a.tmod b)
def Qv(a b:UInt64):Option UInt64:=if b=0 then none else some (a / b)
def VK(a b:UInt64):Option UInt64:=if b=0 then none else some (a%b)
def Ju(b:Bool)(c:Option Bool):Option Bool:=cond b c (some false)
def WH(b:Bool)(c:Option Bool):Option Bool:=cond b (some true) c
def CE{α β:Type}(F:(α→Option β)→α→Option β):Nat→α→Option β
 | 0,_=>none
 | m+1,a=>F (CE F m) a
def ret{α β:Type}(e:α)(k:α→β):β:=k e
theorem E3{α β:Type}{a:Option α}{f:α→Option β}{r:β}(h:a.bind f=some r):∃x,a=some x∧f x=some r:=Option.bind_eq_some_iff.1 h
theorem Bu{α β:Type}{e:α}{k:α→Option β}{r:β}(h:ret e k=some r):∃x,e=x∧k x=some r:=⟨e,rfl,h⟩
theorem cT{α:Type}{b:Bool}{x y:Option α}{r:α}(hb:b=true)(h:cond b x y=some r):x=some r:=by subst hb;exact h
theorem cF{α:Type}{b:Bool}{x y:Option α}{r:α}(hb:b=false)(h:cond b x y=some r):y=some r:=by subst hb;exact h
theorem En{α:Type}{l:List α}{i:Int}{a:α}(h:BA l i=some a):i=(i.toNat:Int)∧i.toNat<l.length∧l[i.toNat]? = some a:=by
 unfold BA at h
 split at h
 rename_i h0
 obtain⟨hlt,_⟩:=List.getElem?_eq_some_iff.1 h
 exact⟨by omega,hlt,h⟩
 cases h
theorem NT{α:Type}{l u:List α}{i j:Int}(h:Ku l i j=some u):i=(i.toNat:Int)∧j=(j.toNat:Int)∧i.toNat≤j.toNat∧j.toNat≤l.length∧u=(l.drop i.toNat).take (j.toNat-i.toNat):=by
 unfold Ku at h
 split at h
 rename_i h0
 exact⟨by omega,by omega,by omega,by omega,(zI h).symm⟩
 cases h
abbrev FN(x:UInt8):List Value:=[EB x]
abbrev BL(x:UInt32):List Value:=[AA x]
abbrev eS(x:List UInt8):List Value:=[vS x]
abbrev eB(x:Bool):List Value:=[vB x]
theorem Bf{a b:Int}:FL .add (vI a) (vI b) (vI (wI (a+b))):=fun P w ty x y=>⟨BU ..,by simp[binOp,Op.intArith,wI]⟩
theorem DZ{a b:Int}:FL .sub (vI a) (vI b) (vI (wI (a-b))):=fun P w ty x y=>⟨BU ..,by simp[binOp,Op.intArith,wI]⟩
theorem L8{a b:Int}:FL .mul (vI a) (vI b) (vI (wI (a*b))):=fun P w ty x y=>⟨BU ..,by simp[binOp,Op.intArith,wI]⟩
theorem Uz{a b c:Int}(h:Uq a b=some c):FL .quo (vI a) (vI b) (vI c):=fun P w ty x y=>⟨BU ..,by
 unfold Uq at h
 split at h
 cases h
 rename_i h0
 obtain rfl:=zI h
 simp[binOp,Op.intDiv,h0,wI]⟩
theorem SW{a b c:Int}(h:TM a b=some c):FL .rem (vI a) (vI b) (vI c):=fun P w ty x y=>⟨BU ..,by
 unfold TM at h
 split at h
 cases h
 rename_i h0
 obtain rfl:=zI h
 simp[binOp,Op.intDiv,h0]⟩
theorem RQ{a:UInt32}{k:IntKind}{i:Int}{n:Nat}(h:QH i=some n):FL .shl (AA a) (.int k i) (AA (Go.Proofs.YtjkhnhichalenaaGreatDoor.shl32 a n)):=by
 unfold QH at h
 split at h
 obtain rfl:=zI h
 have:i=(i.toNat:Int):=zO
 rw[this]
 exact FL.shl32
 cases h
theorem Vf{a:UInt32}{k:IntKind}{i:Int}{n:Nat}(h:QH i=some n):FL .shr (AA a) (.int k i) (AA (Go.Proofs.YtjkhnhichalenaaGreatDoor.shr32 a n)):=by
 unfold QH at h
 split at h
 obtain rfl:=zI h
 have:i=(i.toNat:Int):=zO
 rw[this]
 exact FL.shr32
 cases h
theorem bK{a:UInt64}{k:IntKind}{i:Int}{n:Nat}(h:QH i=some n):FL .shr (AV a) (.int k i) (AV (Go.Proofs.YtjkhnhichalenaaGreatDoor.shr64 a n)):=by
 unfold QH at h
 split at h
 obtain rfl:=zI h
 have:i=(i.toNat:Int):=zO
 rw[this]
 exact FL.shr64
 cases h
theorem bJ{a:UInt64}{k:IntKind}{i:Int}{n:Nat}(h:QH i=some n):FL .shl (AV a) (.int k i) (AV (Go.Proofs.YtjkhnhichalenaaGreatDoor.shl64 a n)):=by
 unfold QH at h
 split at h
 obtain rfl:=zI h
 have:i=(i.toNat:Int):=zO
 rw[this]
 exact FL.shl64
 cases h
theorem PB{a b c:UInt64}(h:Qv a b=some c):FL .quo (AV a) (AV b) (AV c):=fun P w ty x y=>⟨BU ..,by
 unfold Qv at h
 split at h
 cases h
 rename_i hb
 obtain rfl:=zI h
 have h0:((b.toNat:Int))≠0:=by
  intro h
  have:b.toNat=0:=zO
  exact hb (UInt64.toNat_inj.1 this)
 have h1:IntKind.u64.wrap (Int.tdiv (a.toNat:Int) (b.toNat:Int))=((a / b).toNat:Int):=by
  rw[MK,Int.tdiv_eq_ediv_of_nonneg zO,UInt64.toNat_div]
  have h2:a.toNat / b.toNat≤a.toNat:=Nat.div_le_self _ _
  have:=a.toNat_lt
  rw[show((a.toNat:Int) / (b.toNat:Int))=((a.toNat / b.toNat:Nat):Int)from rfl]
  generalize a.toNat / b.toNat=q at h2 ⊢
  omega
 simp only[binOp,Op.intDiv,ne_eq,not_true_eq_false,if_false,h0,h1,Sem.run_pure]⟩
theorem PC{a b c:UInt64}(h:VK a b=some c):FL .rem (AV a) (AV b) (AV c):=by
 unfold VK at h
 split at h
 cases h
 rename_i hb
 obtain rfl:=zI h
 exact dN hb
theorem CK{s t u:List UInt8}(h:ED s t=some u):FL .add (vS s) (vS t) (vS u):=by
 unfold ED at h
 split at h
 rename_i hl
 obtain rfl:=zI h
 exact FM hl
 cases h
theorem KR{s:List UInt8}{ty:TypeId}{k:IntKind}{i:Int}{c:UInt8}(hn:BA s i=some c)(ho:At ops N l o t (.index ty x y))(hty:P.underlying ty=some .string)(hx:Be l x=some (vS s))(hy:Be l y=some (.int k i))
(h:SL P ro K w0 N ops Hs items Q D ((t,EB c)::l) H):SL P ro K w0 N ops Hs (.cons (tk,o) items) Q D l H:=by
 obtain⟨h1,h2,h3⟩:=En hn
 refine KS i.toNat ho hty hx hy h1 h2 ?_
 have:s.getD i.toNat 0=c:=by simp[List.getD_eq_getElem?_getD,h3]
 rw[this]
 exact h
theorem mA{s u:List UInt8}{ty:TypeId}{k k':IntKind}{i j:Int}(hn:Ku s i j=some u)(ho:At ops N l o t (.slice ty x (some y) (some z) none))(hty:P.underlying ty=some .string)(hx:Be l x=some (vS s))(hy:Be l y=some (.int k i))(hz:Be l z=some (.int k' j))
(h:SL P ro K w0 N ops Hs items Q D ((t,vS u)::l) H):SL P ro K w0 N ops Hs (.cons (tk,o) items) Q D l H:=by
 obtain⟨h1,h2,h3,h4,rfl⟩:=NT hn
 exact fN i.toNat j.toNat ho hty hx hy hz h1 h2 h3 h4 h
theorem jO{s u:List UInt8}{ty:TypeId}{k:IntKind}{i:Int}(hn:Ku s i (s.length:Int)=some u)(ho:At ops N l o t (.slice ty x (some y) none none))(hty:P.underlying ty=some .string)(hx:Be l x=some (vS s))(hy:Be l y=some (.int k i))
(h:SL P ro K w0 N ops Hs items Q D ((t,vS u)::l) H):SL P ro K w0 N ops Hs (.cons (tk,o) items) Q D l H:=by
 obtain⟨h1,h2,h3,h4,rfl⟩:=NT hn
 refine OU i.toNat ho hty hx hy h1 zO ?_
 rw[List.take_of_length_le zS]at h
 exact h
theorem jN{s u:List UInt8}{ty:TypeId}{k:IntKind}{j:Int}(hn:Ku s 0 j=some u)(ho:At ops N l o t (.slice ty x none (some z) none))(hty:P.underlying ty=some .string)(hx:Be l x=some (vS s))(hz:Be l z=some (.int k j))
(h:SL P ro K w0 N ops Hs items Q D ((t,vS u)::l) H):SL P ro K w0 N ops Hs (.cons (tk,o) items) Q D l H:=by
 obtain⟨h1,h2,h3,h4,rfl⟩:=NT hn
 exact RV j.toNat ho hty hx hz h2 h4 (by simpa using h)
theorem C4{α:Type}{enc:α→List Value}{sz:Nat}{xs:List α}{k:IntKind}{i:Int}{ty e:TypeId}{x0:α}(hn:BA xs i=some x0)(hk:B6 K w0 enc sz v xs)(ho:At ops N l o t (.indexAddr ty x y))(hty:P.underlying ty=some (.slice e))(hsz:DD P e=some sz)(hx:Be l x=some v)(hy:Be l y=some (.int k i))
(h:∀b off,(∀L w,GH K w0 L w→∀j u,(enc x0)[j]? = some u→w.cell? ⟨b,off+j,none⟩=some u)→SL P ro K w0 N ops Hs items Q D ((t,vP b off)::l) H):SL P ro K w0 N ops Hs (.cons (tk,o) items) Q D l H:=by
 obtain⟨h1,h2,h3⟩:=En hn
 exact QL i.toNat x0 hk ho hty hsz hx hy h1 h3 h
theorem Dc{b off j:Nat}{u:Value}{cs:List Value}(hc:∀L w,GH K w0 L w→∀j u,cs[j]? = some u→w.cell? ⟨b,off+j,none⟩=some u)(hj:cs[j]? = some u):∀w,GH K w0 L w→w.cell? ⟨b,off+j,none⟩=some u:=fun w hw=>hc L w hw j u hj
theorem DO{b off:Nat}{cs:List Value}(hc:∀L w,GH K w0 L w→∀j u,cs[j]? = some u→w.cell? ⟨b,off+j,none⟩=some u):∀w,GH K w0 L w→∀j u,cs[j]? = some u→w.cell? (Addr.add ⟨b,off,none⟩ j)=some u:=
 fun w hw j u hu=>by rw[Cf];exact hc L w hw j u hu
def AD{α:Type}(e:TypeId)(sz:Nat)(v:Value)(enc:α→List Value)(xs:List α):AX:=
 ⟨fun b=>v.ownBlock=some b,fun w=>w.ownsRow 0 e sz v xs.length (xs.flatMap enc),fun w w' h hw=>by
  refine⟨hw.1,?_⟩
  rcases hw.2 with hn | ⟨g,cap,cur,rfl,hb,hgg,rest⟩
  exact .inl hn
  exact .inr ⟨g,cap,cur,rfl,hb,by rw[h g rfl];exact hgg,rest⟩⟩
section rows
variable {α:Type}{enc:α→List Value}{sz:Nat}{xs us:List α}{e ty:TypeId}
theorem It(hl:∀x,(enc x).length=sz):∀ys:List α,(ys.flatMap enc).length=ys.length*sz
 | []=>by simp
 | y::ys=>by rw[List.flatMap_cons,List.length_append,It hl ys,hl,List.length_cons,Nat.add_mul,Nat.one_mul,Nat.add_comm]
theorem BT.nilT{w:World}(e:TypeId)(sz:Nat)(enc:α→List Value)(h:BT K w0 H w):BT K w0 (AD e sz zN enc []::H) w:=by
 refine h.cons (n:=w.heap.size) (Nat.le_refl _) (fun d hd b hb=>(h.foot d hd b hb).1) h.kltw (World.ownsRow_nil ..) ?_
 intro b hb
 simp[AD,Value.ownBlock]at hb
theorem B5(e:TypeId)(sz:Nat)(enc:α→List Value)(h:SL P ro K w0 N ops Hs items Q D l (AD e sz zN enc []::H)):SL P ro K w0 N ops Hs items Q D l H:=
 fun a w ha hw hs=>h a w ha (hw.nilT e sz enc) hs
theorem cw{w:World}{g n cap i j:Nat}{c:α}{u:Value}(hl:∀x,(enc x).length=sz)(h:(AD e sz v enc xs).holds w)(hv:v=.slice (some ⟨g,0,none⟩) n cap)(hi:xs[i]? = some c)(hj:(enc c)[j]? = some u):w.cell? ⟨g,i*sz+j,none⟩=some u:=by
 have hrow:w.ownsRow 0 e sz v xs.length (xs.flatMap enc):=h
 have hF:=World.ownsRowF_of hrow
 have:=hF.cells (g:=g) (by rw[hv];rfl) (i*sz+j) u (Qi hl xs i c j u hi hj)
 rw[Cf]at this
 simpa using this
theorem B7{g n cap:Nat}{c:α}{i:Int}{u:Value}(k j:Nat)(hl:∀x,(enc x).length=sz)(hk:L[k]? = some (AD e sz v enc xs))(hv:v=.slice (some ⟨g,0,none⟩) n cap)(hi:BA xs i=some c)(hj:(enc c)[j]? = some u):∀w,GH K w0 L w→w.cell? ⟨g,i.toNat*sz+j,none⟩=some u:=
 fun _w hw=>cw hl (hw.holds _ (List.mem_of_getElem? hk)) hv (En hi).2.2 hj
theorem ME{g n cap:Nat}{c:α}{i:Int}(k:Nat)(hl:∀x,(enc x).length=sz)(hk:L[k]? = some (AD e sz v enc xs))(hv:v=.slice (some ⟨g,0,none⟩) n cap)(hi:BA xs i=some c):∀w,GH K w0 L w→∀j u,(enc c)[j]? = some u→w.cell? (Addr.add ⟨g,i.toNat*sz,none⟩ j)=some u:=
 fun w hw j u hu=>by rw[Cf];exact B7 k j hl hk hv hi hu w hw
theorem Dh(k:Nat)(ho:At ops N l o t (.call { callee:=.builtin .len,args:=#[x],argTypes:=#[ty] }))(hty:P.underlying ty=some (.slice e))(hx:Be l x=some v)
{e':TypeId}(hk:(bif tk then Hs else H)[k]? = some (AD e' sz v enc xs))(h:SL P ro K w0 N ops Hs items Q D ((t,vI xs.length)::l) H):SL P ro K w0 N ops Hs (.cons (tk,o) items) Q D l H:=
 SL.val ho rfl (fun a w ha hsw=>by
  have hrow:w.ownsRow 0 e' sz v xs.length (xs.flatMap enc):=hsw.holds _ (List.mem_of_getElem? hk)
  simp only[execOp,ho.op,resolve,invoke,builtin,Builtin.len_]
  rcases hrow.2 with⟨rfl,hn⟩ | ⟨g,cap,cur,rfl,_⟩
  simp[ha.eval hx,An hty,goInt,hn]
  simp[ha.eval hx,An hty,goInt]) h
theorem CG(k:Nat){kk:IntKind}{i:Int}{c:α}(hn:BA xs i=some c)(ho:At ops N l o t (.indexAddr ty x y))(hty:P.underlying ty=some (.slice e))(hsz:DD P e=some sz)(hx:Be l x=some v)(hy:Be l y=some (.int kk i))
(hk:H[k]? = some (AD e sz v enc xs))
(h:∀g m cap,v=.slice (some ⟨g,0,none⟩) m cap→SL P ro K w0 N ops Hs items Q D ((t,vP g (i.toNat*sz))::l) H):SL P ro K w0 N ops Hs (.cons (tk,o) items) Q D l H:=by
 intro a w ha hw hs
 have hrow:w.ownsRow 0 e sz v xs.length (xs.flatMap enc):=hw.holds _ (List.mem_append_left _ (List.mem_of_getElem? hk))
 obtain⟨h1,h2,h3⟩:=En hn
 rcases hrow.2 with⟨_,h0⟩ | ⟨g,cap,cur,hv,_⟩
 omega
 exact(dT (n:=i.toNat) ho hty hsz (hx.trans (by rw[hv])) hy h1 h2 (by simpa using h g xs.length cap hv)) a w ha hw hs
theorem UW(hl:∀x,(enc x).length=sz):∀(xs:List α) (i:Nat) (a:α),i<xs.length→(xs.set i a).flatMap enc=(xs.flatMap enc).take (i*sz)++enc a++(xs.flatMap enc).drop (i*sz+sz)
 | [],i,a,h=>by simp at h
 | b::r,0,a,_=>by
  have hb:=hl b
  simp only[List.set_cons_zero,List.flatMap_cons,Nat.zero_mul,List.take_zero,List.nil_append,Nat.zero_add]
  rw[List.drop_append_of_le_length zO,List.drop_of_length_le zO,List.nil_append]
 | b::r,i+1,a,h=>by
  have hb:=hl b
  have ih:=UW hl r i a (by simpa using h)
  simp only[List.set_cons_succ,List.flatMap_cons]
  rw[ih]
  have e1:(i+1)*sz=(enc b).length+i*sz:=by rw[hb,Nat.add_mul];omega
  have e2:(i+1)*sz+sz=(enc b).length+(i*sz+sz):=by rw[hb,Nat.add_mul];omega
  rw[e2,e1,List.take_length_add_append,List.drop_length_add_append]
  simp
theorem F6(k:Nat){g m cap:Nat}{i:Int}{u:Value}{a:α}(hn:Np xs i a=some us)(hl:∀x,(enc x).length=sz)(ho:At0 ops l o (.store ty x y))(hx:Be l x=some (vP g (i.toNat*sz)))(hy:Be l y=some u)(hu:u.cells.toList=enc a)(hk:H[k]? = some (AD e sz v enc xs))(hv:v=.slice (some ⟨g,0,none⟩) m cap)
(hsz:DD P ty=some sz)(h1:∀c∈enc a,c.oneCell'=true)(hs:EO Hs (H.set k (AD e sz v enc us)))(h:SL P ro K w0 N ops Hs items Q D l (H.set k (AD e sz v enc us))):SL P ro K w0 N ops Hs (.cons (false,o) items) Q D l H:=by
 unfold Np at hn
 split at hn
 rename_i hi
 obtain rfl:=zI hn
 refine U2 ho E (fun a' w ha hw=>?_) hs h
 have hrow:w.ownsRow 0 e sz v xs.length (xs.flatMap enc):=hw.holds _ (List.mem_append_left _ (List.mem_of_getElem? hk))
 have hlt:i.toNat<xs.length:=zO
 rcases hrow.2 with⟨hv',h0⟩ | ⟨g',cap',cur,hv',hb,hg,hnc,hcm,hcs,htk⟩
 rw[hv']at hv;cases hv
 obtain⟨rfl,rfl,rfl⟩:g'=g∧xs.length=m∧cap'=cap:=by rw[hv']at hv;simpa using hv
 have hucz:u.cells.size=sz:=by rw[←Array.length_toList,hu,hl]
 have hle:i.toNat*sz+sz≤xs.length*sz:=by
  have:=Nat.mul_le_mul_right sz (show i.toNat+1≤xs.length by omega)
  rw[Nat.add_mul,Nat.one_mul]at this
  exact this
 have hle2:xs.length*sz≤cap'*sz:=Nat.mul_le_mul_right _ hnc
 obtain⟨w',hrun,hw'⟩:=Lq (P:=P) u.cells.toList (i.toNat*sz) 0 cur w hg (by rw[Array.length_toList,hucz];omega) (by rw[hu];exact h1)
 refine⟨w',?_,?_⟩
 simp[execOp,ho.op,Instr.storeAt,Instr.sureAddr,ha.eval hx,ha.eval hy,storeVar,Cb hsz,hucz]
 rw[hrun]
 rfl
 rw[hw']
 obtain⟨hlt2,_⟩:=Array.getElem?_eq_some_iff.1 hg
 refine hw.turnAt (c:=AD e sz v enc xs) k hk rfl rfl rfl zS (fun b hb hne=>World.putObj_heap_other (fun e=>hne (by subst e;rw[hv'];rfl))) ⟨It hl _,.inr ⟨g',cap',_,by rw[hv',List.length_set],Nat.zero_le _,World.putObj_heap_same hlt2,by simpa using hnc,hcm,by rw[Tu,hcs],?_⟩⟩ (fun b hb=>⟨.inl hb,?_⟩)
 have hcl:(enc a).length=sz:=hl a
 rw[Kt _ _ _ (by rw[hu,hcl];omega),UW hl xs i.toNat a hlt,hu,hcl,←htk,List.length_set,Nat.add_zero]
 have e1:(cur.toList.take (i.toNat*sz)).length=i.toNat*sz:=by simp;omega
 rw[List.take_take,Nat.min_eq_left zO]
 have e2:(cur.toList.take (i.toNat*sz)++enc a).length=i.toNat*sz+sz:=by rw[List.length_append,e1,hcl]
 rw[List.take_append,e2,List.take_of_length_le zO]
 congr 1
 rw[List.drop_take]
 have:b=g':=by
  have hb':v.ownBlock=some b:=hb
  rw[hv']at hb'
  simpa[Value.ownBlock]using hb'.symm
 subst this
 simpa using hlt2
 cases hn
theorem Co{by_ m c:Nat}{zv:Value}{new:List α}{ad:Addr}(k:Nat)(hn:DM by_ xs new=some us)(hl:∀x,(enc x).length=sz)(ho:At ops N l o t (.call { callee:=.builtin .append,args:=#[x,y],argTypes:=#[ty,ty] }))
(hty:P.underlying ty=some (.slice e))(hsz:DD P e=some sz)(hby:O9 P e=some by_)(hze:EC P e=some zv)(hzs:zv.cells.size=sz)(hsz0:0<sz)
(hx:Be l x=some v)(hy:Be l y=some (.slice (some ad) m c))(hm:m=new.length)(hk:H[k]? = some (AD e sz v enc xs))
(hnews:∀w,GH K w0 H w→∀j u,(new.flatMap enc)[j]? = some u→w.cell? (ad.add j)=some u)(h1:∀a,∀u∈enc a,u.oneCell'=true)
(hs:∀v',EO Hs (H.set k (AD e sz v' enc us)))
(h:∀v',SL P ro K w0 N ops Hs items Q D ((t,v')::l) (H.set k (AD e sz v' enc us))):SL P ro K w0 N ops Hs (.cons (false,o) items) Q D l H:=by
 unfold DM at hn
 split at hn
 rename_i hb
 obtain rfl:=zI hn
 subst hm
 have hfl:=It hl
 refine Gc (fun v'=>v') (fun v'=>H.set k (AD e sz v' enc (xs++new))) ho E (fun a w ha hw=>?_) hs h
 obtain⟨ii,hii,e1,e2,e3⟩:=Ot hsz hby hze
 have hrow:w.ownsRow 0 e sz v xs.length (xs.flatMap enc):=hw.holds _ (List.mem_append_left _ (List.mem_of_getElem? hk))
 obtain⟨v',w',hr,hr2,hr3,_,hr4⟩:=run_append_own_at (P:=P) w 0 ty o.type e ii zv sz by_ hty hii e3 e1 e2 hzs hsz0 v xs.length _ hrow ad new.length c (new.flatMap enc) (hfl new) (hnews w hw.dropMarks.s) (fun u hu=>by
  obtain⟨a,_,ha⟩:=List.mem_flatMap.1 hu
  exact h1 a u ha) (by simp only[maxLen];omega) hb.1 (Nat.zero_le _)
 refine⟨v',w',?_,hw.turnAt (c:=AD e sz v enc xs) k hk hr3.os hr3.tape hr3.output hr3.size (fun b hb hne=>hr3.block b hb (fun e=>hne e.symm)) (show w'.ownsRow 0 e sz v' (xs++new).length ((xs++new).flatMap enc) by rw[List.flatMap_append,List.length_append];exact hr2) ?_⟩
 unfold execOp
 simp only[ho.op,resolve,invoke,builtin,Sem.run_bind,Sem.run_pure,Result.andThen_ok,List.map_toArray,List.map_cons,List.map_nil,ha.eval hx,ha.eval hy,hr]
 intro b hb
 refine⟨?_,(hr2.lt b hb).2⟩
 have hb':v'.ownBlock=some b:=hb
 rcases hr4 with h4 | h4
 exact .inl (by rw[h4]at hb';exact hb')
 rw[h4]at hb'
 right
 simp at hb'
 omega
 cases hn
theorem BT.ownT{w:World}{b:Nat}{c:Array Value}(xs:List α)(h:BT K w0 (AL b (.cells c e)::H) w)(hc:c.toList=xs.flatMap enc)(hl:∀x,(enc x).length=sz)(hm:xs.length≤9223372036854775807):BT K w0 (AD e sz (.slice (some ⟨b,0,none⟩) xs.length xs.length) enc xs::H) w:=by
 have hfl:=It hl
 have hcs:c.size=xs.length*sz:=by rw[←Array.length_toList,hc,hfl]
 refine h.turn rfl rfl rfl (Nat.le_refl _) (fun _ _ _=>rfl) ⟨hfl xs,.inr ⟨b,xs.length,c,rfl,Nat.zero_le _,h.holds _ (List.mem_cons_self ..),Nat.le_refl _,by simp only[maxLen];omega,hcs,by rw[hc,←hfl];exact List.take_length⟩⟩ (fun k hk=>?_)
 have hkb:k=b:=by simp[AD,Value.ownBlock]at hk;exact hk.symm
 subst hkb
 exact⟨.inl rfl,(h.foot _ (List.mem_cons_self ..) k rfl).1⟩
theorem CA{b:Nat}{c:Array Value}(enc:α→List Value)(sz:Nat)(xs:List α)(hc:c.toList=xs.flatMap enc)(hl:∀x,(enc x).length=sz)(hm:Nat.ble xs.length 1000000=true)
(h:SL P ro K w0 N ops Hs items Q D l (AD e sz (.slice (some ⟨b,0,none⟩) xs.length xs.length) enc xs::H)):SL P ro K w0 N ops Hs items Q D l (AL b (.cells c e)::H):=
 fun a w ha hw hs=>h a w ha (hw.ownT xs hc hl (by have:=Nat.le_of_ble_eq_true hm;omega)) hs
theorem fL{by_ n:Nat}{zv:Value}{k k':IntKind}(enc:α→List Value)(ho:At ops N l o t (.makeSlice ty x y))(hty:P.underlying ty=some (.slice e))(hsz:DD P e=some sz)(hby:O9 P e=some by_)(hze:EC P e=some zv)(_hzs:zv.cells.size=sz)
(hx:Be l x=some (.int k 0))(hy:Be l y=some (.int k' (n:Int)))(hb:Nat.ble (by_*n) 281474976710656=true)(h63:Nat.ble n 9223372036854775807=true)
(hs:∀v',EO Hs (AD e sz v' enc []::H))(h:∀v',SL P ro K w0 N ops Hs items Q D ((t,v')::l) (AD e sz v' enc []::H)):SL P ro K w0 N ops Hs (.cons (false,o) items) Q D l H:=
 Gc (fun b=>.slice (some ⟨b,0,none⟩) 0 n) (fun b=>AD e sz (.slice (some ⟨b,0,none⟩) 0 n) enc []::H) ho rfl (fun a w ha hw=>by
  obtain⟨ii,hii,e1,e2,e3⟩:=Ot hsz hby hze
  have hbn:=Nat.le_of_ble_eq_true hb
  have h63n:=Nat.le_of_ble_eq_true h63
  have hb':(ii.bytes:Int)*(n:Int)≤281474976710656:=by rw[e2,←Int.natCast_mul];omega
  have hr:=run_make (P:=P) w ty e ii zv hty hii e3 k k' 0 n zO zO hb' zO
  rw[e1]at hr
  simp only[Int.toNat_natCast]at hr
  refine⟨w.heap.size,w.alloc (.cells (madeCells zv.cells (n*sz)) e),?_,?_⟩
  unfold execOp
  simp only[ho.op,ha.eval hx,ha.eval hy,Sem.run_bind,hr,Result.andThen_ok,Sem.run_pure]
  rfl
  have h2:=hw.alloc (.cells (madeCells zv.cells (n*sz)) e)
  refine h2.turn rfl rfl rfl (Nat.le_refl _) (fun _ _ _=>rfl) ⟨by simp,.inr ⟨w.heap.size,n,_,rfl,Nat.zero_le _,h2.holds _ (List.mem_cons_self ..),Nat.zero_le _,by simp only[maxLen];omega,?_,by simp⟩⟩ (fun k hk=>?_)
  simp[madeCells]
  have hkb:k=w.heap.size:=by simp[AD,Value.ownBlock]at hk;exact hk.symm
  subst hkb
  exact⟨.inl rfl,(h2.foot _ (List.mem_cons_self ..) _ rfl).1⟩) (fun b=>hs _) (fun b=>h _)
theorem CL{K':Nat→Prop}{w1:World}(hl:∀x,(enc x).length=sz)(h:(AD e sz v enc xs).holds w1∧∀k,(AD e sz v enc xs).foot k→K' k):B6 K' w1 enc sz v xs:=by
 have hrow:w1.ownsRow 0 e sz v xs.length (xs.flatMap enc):=h.1
 refine⟨hl,?_⟩
 rcases hrow.2 with⟨rfl,h0⟩ | ⟨g,cap,cur,rfl,_,hg,hc,_⟩
 exact .inl ⟨_,rfl,List.length_eq_zero_iff.1 h0⟩
 refine .inr ⟨g,0,cap,rfl,hc,fun j u hu=>⟨h.2 g rfl,?_⟩⟩
 have:=(World.ownsRowF_of hrow).cells (g:=g) rfl j u hu
 rw[Cf]at this
 exact this
theorem rY:∀s:List UInt8,s.flatMap FN=s.map fun b=>EB b
 | []=>rfl
 | b::r=>by rw[List.flatMap_cons,rY r];rfl
theorem Gb{src dst:TypeId}{s:List UInt8}(k:Nat)(ho:At ops N l o t (.convert src dst x))(hs:P.underlying src=some (.slice e))(he:P.underlying e=some (.int .u8))(hd:P.underlying dst=some .string)(hx:Be l x=some v)
(hk:(bif tk then Hs else H)[k]? = some (AD e 1 v FN s))
(h:SL P ro K w0 N ops Hs items Q D ((t,vS s)::l) H):SL P ro K w0 N ops Hs (.cons (tk,o) items) Q D l H:=
 SL.val ho rfl (fun a w ha hsw=>by
  have hrow:w.ownsRow 0 e 1 v s.length (s.flatMap FN):=hsw.holds _ (List.mem_of_getElem? hk)
  rw[rY]at hrow
  rcases hrow.2 with⟨rfl,h0⟩ | ⟨g,cap,cur,rfl,_⟩
  have:s=[]:=List.length_eq_zero_iff.1 h0
  subst this
  have h0:(convert src dst (.slice none 0 0)).run P w=.ok (vS []) w:=by
   rw[run_convert_bytes_string w src dst e none 0 0 hs he hd]
   simp[Conv.bytesToString]
   rfl
  simp[execOp,ho.op,ha.eval hx,h0]
  simp[execOp,ho.op,ha.eval hx,Xx hs he hd rfl ((World.ownsRowF_of hrow).cells rfl)]) h
theorem CH{b n cap:Nat}(k:Nat)(_hl:∀x,(enc x).length=sz)(hk:L[k]? = some (AD e sz (.slice (some ⟨b,0,none⟩) n cap) enc xs)):∀w,GH K w0 L w→∀j u,(xs.flatMap enc)[j]? = some u→w.cell? (Addr.add ⟨b,0,none⟩ j)=some u:=by
 intro w hw j u hu
 have hrow:w.ownsRow 0 e sz (.slice (some ⟨b,0,none⟩) n cap) xs.length (xs.flatMap enc):=hw.holds _ (List.mem_of_getElem? hk)
 exact(World.ownsRowF_of hrow).cells (g:=b) rfl j u hu
theorem Sw{w:World}(t ty e:TypeId)(i:TypeInfo)(ht:P.underlying t=some (.slice e))(hi:P.info? e=some i)
(v:Value)(n:Nat)(xs:List Value)(hown:w.ownsRow 0 e sz v n xs):(Builtin.append_ #[t,t] ty #[v,zN]).run P w=.ok v w:=by
 rcases hown.2 with⟨rfl,rfl⟩ | ⟨g,cap,cur,rfl,_,_,hnc,_⟩
 simp[Builtin.append_,An ht,sizeOf,typeInfo,hi,Builtin.lenOf,Builtin.firstCells]
 simp[Builtin.append_,An ht,sizeOf,typeInfo,hi,Builtin.lenOf,Builtin.firstCells,hnc,storeCells]
theorem bP{by_:Nat}{zv:Value}(k:Nat)(ho:At ops N l o t (.call { callee:=.builtin .append,args:=#[x,y],argTypes:=#[ty,ty] }))
(hty:P.underlying ty=some (.slice e))(hsz:DD P e=some sz)(hby:O9 P e=some by_)(hze:EC P e=some zv)
(hx:Be l x=some v)(hy:Be l y=some zN)(hk:H[k]? = some (AD e sz v enc xs))(hs:EO Hs H)
(h:SL P ro K w0 N ops Hs items Q D ((t,v)::l) H):SL P ro K w0 N ops Hs (.cons (false,o) items) Q D l H:=
 Gc (fun _:Unit=>v) (fun _=>H) ho rfl (fun a w ha hw=>by
  obtain⟨ii,hii,e1,e2,e3⟩:=Ot hsz hby hze
  have hrow:w.ownsRow 0 e sz v xs.length (xs.flatMap enc):=hw.holds _ (List.mem_append_left _ (List.mem_of_getElem? hk))
  have hr:=Sw (P:=P) ty o.type e ii hty hii v xs.length _ hrow
  refine⟨(),w,?_,hw⟩
  unfold execOp
  simp only[ho.op,resolve,invoke,builtin,Sem.run_bind,Sem.run_pure,Result.andThen_ok,List.map_toArray,List.map_cons,List.map_nil,ha.eval hx,ha.eval hy,hr]) (fun _=>hs) (fun _=>h)
theorem Y8{c:AX}{k:Nat}(hk:H[k]? = some c):H.set k c=H:=by
 obtain⟨hl,hg⟩:=List.getElem?_eq_some_iff.1 hk
 rw[←hg];exact List.set_getElem_self hl
theorem Yf{by_:Nat}(hn:DM by_ xs []=some us):us=xs:=by
 unfold DM at hn
 split at hn
 simpa using hn.symm
 cases hn
theorem RS{by_:Nat}{zv u:Value}{new:List α}(k:Nat)(hn:DM by_ xs new=some us)(hu:B6 K w0 enc sz u new)(hl:∀x,(enc x).length=sz)(ho:At ops N l o t (.call { callee:=.builtin .append,args:=#[x,y],argTypes:=#[ty,ty] }))
(hty:P.underlying ty=some (.slice e))(hsz:DD P e=some sz)(hby:O9 P e=some by_)(hze:EC P e=some zv)(hzs:zv.cells.size=sz)(hsz0:0<sz)
(hx:Be l x=some v)(hy:Be l y=some u)(hk:H[k]? = some (AD e sz v enc xs))(h1:∀a,∀u∈enc a,u.oneCell'=true)
(hs:∀v',EO Hs (H.set k (AD e sz v' enc us)))
(h:∀v',SL P ro K w0 N ops Hs items Q D ((t,v')::l) (H.set k (AD e sz v' enc us))):SL P ro K w0 N ops Hs (.cons (false,o) items) Q D l H:=by
 rcases hu.at_ with⟨a0,rfl,rfl⟩ | ⟨b,off,cap,rfl,_,hc⟩
 cases a0 with
 | some ad=>exact Co k hn hl ho hty hsz hby hze hzs hsz0 hx hy rfl hk (fun w hw j u hj=>by simp at hj) h1 hs h
 | none=>
  obtain rfl:=Yf hn
  have h2:=hs v
  have h3:=h v
  rw[Y8 hk]at h2 h3
  exact bP k ho hty hsz hby hze hx hy hk h2 h3
 refine Co k hn hl ho hty hsz hby hze hzs hsz0 hx hy E hk (fun w hw j u hj=>?_) h1 hs h
 obtain⟨hb,hcell⟩:=hc j u hj
 rw[Cf]
 exact Od (L:=H) hb hcell w hw
theorem jC{by_:Nat}{zv u:Value}{new:List α}(k k2:Nat)(hn:DM by_ xs new=some us)(hl:∀x,(enc x).length=sz)(ho:At ops N l o t (.call { callee:=.builtin .append,args:=#[x,y],argTypes:=#[ty,ty] }))
(hty:P.underlying ty=some (.slice e))(hsz:DD P e=some sz)(hby:O9 P e=some by_)(hze:EC P e=some zv)(hzs:zv.cells.size=sz)(hsz0:0<sz)
(hx:Be l x=some v)(hy:Be l y=some u)(hk:H[k]? = some (AD e sz v enc xs))(hk2:H[k2]? = some (AD e sz u enc new))(h1:∀a,∀u∈enc a,u.oneCell'=true)
(hs:∀v',EO Hs (H.set k (AD e sz v' enc us)))
(h:∀v',SL P ro K w0 N ops Hs items Q D ((t,v')::l) (H.set k (AD e sz v' enc us))):SL P ro K w0 N ops Hs (.cons (false,o) items) Q D l H:=by
 intro a w ha hw hs0
 have hrow:w.ownsRow 0 e sz u new.length (new.flatMap enc):=hw.holds _ (List.mem_append_left _ (List.mem_of_getElem? hk2))
 rcases hrow.2 with⟨rfl,h0⟩ | ⟨g,cap,cur,rfl,_⟩
 have:new=[]:=List.length_eq_zero_iff.1 h0
 subst this
 obtain rfl:=Yf hn
 have h2:=hs v
 have h3:=h v
 rw[Y8 hk]at h2 h3
 exact bP k ho hty hsz hby hze hx hy hk h2 h3 a w ha hw hs0
 exact Co k hn hl ho hty hsz hby hze hzs hsz0 hx hy E hk (CH k2 hl hk2) h1 hs h a w ha hw hs0
theorem B6.nil(hl:∀x,(enc x).length=sz):B6 K w0 enc sz zN []:=⟨hl,.inl ⟨_,rfl,rfl⟩⟩
end rows
theorem Al{u:Value}(ho:At ops N l o t (.assign x))(hx:Be l x=some v)(hu:v=u)(h:SL P ro K w0 N ops Hs items Q D ((t,u)::l) H):SL P ro K w0 N ops Hs (.cons (tk,o) items) Q D l H:=
 fI ho (by rw[hx,hu]) h
theorem jV{c:Code}(l':Tm)(H':List AX)(h:SX P ro K w0 N c Q D l' H')(e1:Q6 l' l)(e2:H=H':=by rfl):SX P ro K w0 N c Q D l H:=by
 subst e2;exact h.mono e1
def midD{α:Type}(K:Nat→Prop)(w0:World)(N:Nat)(p:α→Prop)(I:α→Tm)(G:α→List AX)(Q:DF):DF
 | .normal,a,w=>∃x D,p x∧MC N D (I x) a∧BT K w0 (G x++[BO D]) w
 | e,a,w=>Q e a w
theorem A6{α:Type}(p:α→Prop)(I:α→Tm)(G:α→List AX){c y:Code}(h:SX P ro K w0 N c (midD K w0 N p I G Q) D l H)(h2:∀x D,p x→SX P ro K w0 N y Q D (I x) (G x)):SX P ro K w0 N (.seq c y) Q D l H:=by
 intro a w ha hw
 refine wpIn_seq (wpIn_mono (h a w ha hw) ?_)
 intro e a w q
 cases e with
 | normal=>
  obtain⟨x,D',hx,ha,hw⟩:=q
  exact h2 x D' hx a w ha hw
 | _=>exact q
theorem Ap{α:Type}{p:α→Prop}{I:α→Tm}{G:α→List AX}(x:α)(hp:p x)(hl:Q6 (I x) l)(hH:∀w,BT K w0 (H++[BO D]) w→BT K w0 (G x++[BO D]) w):
  SQ K w0 N (Go.Proofs.YtjkhnhichalenaaGreatDoor.midD K w0 N p I G Q) .normal D l H:=fun _a w ha hw=>⟨x,D,hp,ha.mono hl,hH w hw⟩
theorem gu{α:Type}{p:α→Prop}{I:α→Tm}{G:α→List AX}{i:Nat}(h:SQ K w0 N Q (.exit i) D l H):SQ K w0 N (Go.Proofs.YtjkhnhichalenaaGreatDoor.midD K w0 N p I G Q) (.exit i) D l H:=h
theorem Fq{α:Type}{p:α→Prop}{I:α→Tm}{G:α→List AX}(h:SQ K w0 N Q .ret D l H):SQ K w0 N (Go.Proofs.YtjkhnhichalenaaGreatDoor.midD K w0 N p I G Q) .ret D l H:=h
theorem Ga(t n tt:Nat){b y:Bool}{C:Option Bool}(hy:Ju b C=some y)(hb:look l t=some (.bool b))
(ht:b=true→C=some y→SL P ro K w0 N ops Hs (items.drop n) Q D ((tt,.bool y)::(t,.bool true)::MT t l) H→SL P ro K w0 N ops Hs items Q D ((t,.bool true)::MT t l) H)
(hf:b=false→SL P ro K w0 N ops Hs (items.drop n) Q D ((tt,.bool false)::(t,.bool false)::MT t l) H→SL P ro K w0 N ops Hs items Q D ((t,.bool false)::MT t l) H)
(h:SL P ro K w0 N ops Hs (items.drop n) Q D ((tt,.bool y)::l) H):SL P ro K w0 N ops Hs items Q D l H:=by
 refine Py t hb (fun e=>?_) (fun e=>?_)
 subst e;exact MA (ht rfl hy (h.join hb))
 subst e
 obtain rfl:false=y:=zI hy
 exact MA (hf E (h.join hb))
theorem QM(t n tt:Nat){b y:Bool}{C:Option Bool}(hy:WH b C=some y)(hb:look l t=some (.bool b))
(ht:b=true→SL P ro K w0 N ops Hs (items.drop n) Q D ((tt,.bool true)::(t,.bool true)::MT t l) H→SL P ro K w0 N ops Hs items Q D ((t,.bool true)::MT t l) H)
(hf:b=false→C=some y→SL P ro K w0 N ops Hs (items.drop n) Q D ((tt,.bool y)::(t,.bool false)::MT t l) H→SL P ro K w0 N ops Hs items Q D ((t,.bool false)::MT t l) H)
(h:SL P ro K w0 N ops Hs (items.drop n) Q D ((tt,.bool y)::l) H):SL P ro K w0 N ops Hs items Q D l H:=by
 refine Py t hb (fun e=>?_) (fun e=>?_)
 subst e
 obtain rfl:true=y:=zI hy
 exact MA (ht E (h.join hb))
 subst e;exact MA (hf rfl hy (h.join hb))
theorem Is{xs ys:Array Value}:F5 [] xs ys=some true:=rfl
theorem CW{i:Nat}{d:TypeDesc}{r:List (Nat×TypeDesc)}{xs ys:Array Value}{u v:Value}{p q:Bool}(hx:xs[i]? = some u)(hy:ys[i]? = some v)(he:Tb d u v=some p)(hr:F5 r xs ys=some q):F5 ((i,d)::r) xs ys=some (p&&q):=by
 simp[F5,hx,hy,he,hr]
theorem XM{k:IntKind}{a b:Int}:Tb (.int k) (.int k a) (.int k b)=some (decide (a=b)):=by
 simp only[Tb,if_true]
 congr 1
theorem If{a b:UInt32}:Tb (.int .u32) (AA a) (AA b)=some (decide (a=b)):=by
 rw[XM];congr 1;rw[Bool.eq_iff_iff,decide_eq_true_eq,decide_eq_true_eq,←UInt32.toNat_inj];omega
theorem Z6{a b:UInt64}:Tb (.int .u64) (AV a) (AV b)=some (decide (a=b)):=by
 rw[XM];congr 1;rw[Bool.eq_iff_iff,decide_eq_true_eq,decide_eq_true_eq,←UInt64.toNat_inj];omega
theorem Rs{a b:List UInt8}:Tb .string (vS a) (vS b)=some (decide (a=b)):=by
 simp only[Tb,Tw];congr 1;rw[Bool.eq_iff_iff];simp
theorem lX{src dst:TypeId}{d:TypeDesc}{k:IntKind}{n:Int}(hs:P.underlying src=some d)(hd:P.underlying dst=some (.int .i64)):Cv P src dst (.int k n) (vI (wI n)):=Cv.int hs hd rfl
theorem MM{α:Type}{b m:Nat}{xs:List α}{k:IntKind}{i:Int}{c:α}{ty e:TypeId}(hn:BA xs i=some c)(ho:At ops N l o t (.indexAddr ty x y))(hty:P.underlying ty=some (.array m e))(hsz:DD P e=some 1)(hx:Be l x=some (vP b 0))(hy:Be l y=some (.int k i))
(hln:xs.length=m)(h:SL P ro K w0 N ops Hs items Q D ((t,vP b i.toNat)::l) H):SL P ro K w0 N ops Hs (.cons (tk,o) items) Q D l H:=by
 obtain⟨h1,h2,h3⟩:=En hn
 exact Cw ho hty hsz hx hy h1 zO h
structure I0(K:Nat→Prop)(w0:World)(g:Nat)(n:Nat)(T:List UInt32):Prop where
 tab:Sq K w0 g T
 len:T.length=n
theorem I0.keeps{g n:Nat}{T:List UInt32}{K':Nat→Prop}{w1:World}(h:I0 K w0 g n T)(hk:Wb K w0 K' w1):I0 K' w1 g n T:=⟨h.tab.keeps hk,h.len⟩
theorem oU{g n:Nat}{T:List UInt32}{i:Int}{c:UInt32}(h:I0 K w0 g n T)(hn:BA T i=some c):∀w,GH K w0 L w→w.cell? ⟨g,i.toNat,none⟩=some (AA c):=
 Od (ad:=⟨g,i.toNat,none⟩) h.tab.keep (h.tab.cell _ _ (En hn).2.2)
end

section
open Go Go.ChangeShapes Go.WideShapes Go.ChangeAt Go.RowKit
theorem cE:Qc.length=64:=by decide
theorem om:Tryz.prog.globalNamed "sphragis/sphragisref02.table" = some 2:=zK
theorem qD:(Tryz.prog.globals[2]?).map (·.type)=some 400:=zK
theorem ip{W:World}(h:laidMetH Tryz.prog [("sphragis/sphragisref02.table", Rows.laid_sphragis_sphragisref02_table),("sphragis/sha.first", Rows.laid_sphragis_sha_first),("sphragis/sha.constants", Rows.laid_sphragis_sha_constants)] W):GM (· < W.heap.size) W Qc∧I0 (· < W.heap.size) W 2 64 Qc:=by
 have h0:laidMet Tryz.prog [("sphragis/sphragisref02.table", Lib.tabData .u32 UO),("sphragis/sha.first", Lib.tabData .u32 aB),("sphragis/sha.constants", Lib.tabData .u32 UO)] W:=h
 refine⟨k4 (Vp h0),av om (Lib.tabIs_of_head om qD Tryz.underlying400 Tryz.underlying33 VA XH h0) (by simp[Qc]) zK,cE⟩
noncomputable def aP(os:Os):World:=
 { World.holding Tryz.prog os ⟨#[],#[],[]⟩with heap:=(((World.holding Tryz.prog os ⟨#[],#[],[]⟩).heap.modify 1 (kV aB)).modify 3 (kV UO)).modify 2 (kV UO) }
end

section
theorem Ex{α β:Type}{F:(α→Option β)→α→Option β}(I:Nat→α)(N:Nat){z:Option β}(hs:∀i,i<N→∀k,F k (I i)=k (I (i+1)))(he:∀k,F k (I N)=z){m:Nat}(hm:N<m):CE F m (I 0)=z:=by
 have key:∀d i m,i+d=N→d<m→CE F m (I i)=z:=by
  intro d
  induction d with
  | zero=>
   intro i m hi hm
   obtain rfl:i=N:=zO
   obtain⟨m,rfl⟩:∃k,m=k+1:=⟨m-1,by omega⟩
   exact he _
  | succ d ih=>
   intro i m hi hm
   obtain⟨m,rfl⟩:∃k,m=k+1:=⟨m-1,by omega⟩
   show F (CE F m) (I i)=z
   rw[hs i zO]
   exact ih (i+1) m zO zO
 exact key N 0 m zO hm
theorem iN{α β:Type}{F:(α→Option β)→α→Option β}(I:Nat→α)(Z9:Nat→Option β)(N:Nat)(hs:∀i,i<N→∀k,k (I (i+1))=Z9 (i+1)→F k (I i)=Z9 i)(he:∀k,F k (I N)=Z9 N){m:Nat}(hm:N<m):CE F m (I 0)=Z9 0:=by
 have key:∀d i m,i+d=N→d<m→CE F m (I i)=Z9 i:=by
  intro d
  induction d with
  | zero=>
   intro i m hi hm
   obtain rfl:i=N:=zO
   obtain⟨m,rfl⟩:∃k,m=k+1:=⟨m-1,by omega⟩
   exact he _
  | succ d ih=>
   intro i m hi hm
   obtain⟨m,rfl⟩:∃k,m=k+1:=⟨m-1,by omega⟩
   show F (CE F m) (I i)=Z9 i
   exact hs i zO _ (ih (i+1) m zO zO)
 exact key N 0 m zO hm
theorem iP{α β:Type}{F:(α→Option β)→α→Option β}(I:Nat→α)(p:Nat→Prop)(N:Nat){z:Option β}(hs:∀i,i<N→p i→∀k,(p (i+1)→k (I (i+1))=z)→F k (I i)=z)(he:p N→∀k,F k (I N)=z)(h0:p 0){m:Nat}(hm:N<m):CE F m (I 0)=z:=by
 have key:∀d i m,i+d=N→d<m→p i→CE F m (I i)=z:=by
  intro d
  induction d with
  | zero=>
   intro i m hi hm hp
   obtain rfl:i=N:=zO
   obtain⟨m,rfl⟩:∃k,m=k+1:=⟨m-1,by omega⟩
   exact he hp _
  | succ d ih=>
   intro i m hi hm hp
   obtain⟨m,rfl⟩:∃k,m=k+1:=⟨m-1,by omega⟩
   show F (CE F m) (I i)=z
   exact hs i zO hp _ (ih (i+1) m zO zO)
 exact key N 0 m zO hm h0
theorem HK{α:Type}{l:List α}{i:Nat}:BA l (i:Int)=l[i]? := by simp[BA]
theorem Ou{α:Type}{l:List α}{i:Int}{k:Nat}(h:i=(k:Int)):BA l i=l[k]? := by rw[h,HK]
theorem Ct{α:Type}{l:List α}{i:Int}{k:Nat}(d:α)(h:i=(k:Int))(hk:k<l.length):BA l i=some (l.getD k d):=by rw[Ou h,JS d hk]
theorem LY{α:Type}{l:List α}{i:Int}{k:Nat}{a:α}(h:i=(k:Int))(hk:k<l.length):Np l i a=some (l.set k a):=by
 subst h
 unfold Np
 rw[if_pos zO]
 simp
theorem c9{α:Type}{l:List α}{i j:Int}{p q:Nat}(hi:i=(p:Int))(hj:j=(q:Int))(h1:p≤q)(h2:q≤l.length):Ku l i j=some ((l.drop p).take (q-p)):=by
 subst hi;subst hj
 unfold Ku
 rw[if_pos zO]
 simp
theorem DV{α:Type}{b:Nat}{s t:List α}(h:(s.length+t.length)*b≤140737488355328)(h2:s.length+t.length≤9223372036854775807):DM b s t=some (s++t):=if_pos ⟨h,h2⟩
theorem Ef{s t:List UInt8}(h:s.length+t.length≤9223372036854775807):ED s t=some (s++t):=if_pos h
theorem Uw{i:Nat}:QH (i:Int)=some i:=by simp[QH]
theorem Us{a b:Nat}(hb:b≠0):TM (a:Int) (b:Int)=some ((a%b:Nat):Int):=by
 unfold TM
 rw[if_neg zO,Int.tmod_eq_emod_of_nonneg zO]
 rfl
theorem cr{a b:Nat}(hb:b≠0)(ha:a≤9223372036854775807):Uq (a:Int) (b:Int)=some ((a / b:Nat):Int):=by
 unfold Uq
 have h1:a / b≤a:=Nat.div_le_self _ _
 rw[if_neg zO,Int.tdiv_eq_ediv_of_nonneg zO,show((a:Int) / (b:Int))=((a / b:Nat):Int)from rfl]
 generalize a / b=q at h1 ⊢
 rw[DB zO zO]
theorem AB{α β:Type}{a:α}{f:α→Option β}:(some a).bind f=f a:=by simp
theorem CB{α β:Type}{e:α}{k:α→β}:ret e k=k e:=by simp[ret]
theorem Vr{α β:Type}{F:(α→Option β)→α→Option β}{m:Nat}{a:α}:CE F (m+1) a=F (CE F m) a:=by rw[CE]
end

section
open Go Go.MapKept Go.ChangeMaps
variable {P:Program}{ro:Option Nat}{K:Nat→Prop}{w0:World}{N:Nat}{Q:DF}{D:List Nat}{l l':Tm}{H H' Hs L:List AX}{ops:Array Oper}{items:Hn}
variable {tk:Bool}{o:Oper}{t:Nat}{v:Value}{x y z:Operand}
theorem Pk{α β:Type}(f:α→β){l:List α}(h:(l.map f).Nodup):l.Nodup:=(List.pairwise_map.1 h).imp fun hne e=>hne (congrArg f e)
theorem Qp{α:Type}:∀ {l l':List α},l.Nodup→(∀a∈l,a∈l')→l.length≤l'.length
  | [],_,_,_=>by simp
  | a::r,l',hn,hs=>by
    obtain⟨h1,h2⟩:=List.nodup_cons.1 hn
    obtain⟨p,q,rfl⟩:=List.append_of_mem (hs a (List.mem_cons_self ..))
    have:=Qp (l':=p++q) h2 (fun b hb=>by
      have hb':=hs b (List.mem_cons_of_mem _ hb)
      simp only[List.mem_append,List.mem_cons]at hb' ⊢
      rcases hb' with h | rfl | h
      exact .inl h
      exact absurd hb h1
      exact .inr h)
    simp at this ⊢
    omega
section eX
variable {κ α:Type}[DecidableEq κ]
def Cy(m:List (κ×α))(k:κ):Option α:=(m.find? fun p=>decide (p.1=k)).map (·.2)
def Gw(m:List (κ×α))(k:κ):List (κ×α):=m.filter fun p=>decide (p.1≠k)
def MI(m:List (κ×α))(k:κ)(a:α):List (κ×α):=(k,a)::Gw m k
theorem Xk{m:List (κ×α)}{k:κ}(h:∀p∈m,p.1≠k):Cy m k=none:=by
  unfold Cy
  rw[List.find?_eq_none.2 (fun p hp=>by simpa using h p hp)]
  rfl
theorem Ti{m:List (κ×α)}(hn:(m.map (·.1)).Nodup){p:κ×α}(hp:p∈m):Cy m p.1=some p.2:=by
  induction m with
  | nil=>cases hp
  | cons q r ih=>
    simp only[List.map_cons,List.nodup_cons]at hn
    unfold Cy
    rcases List.mem_cons.1 hp with rfl | hp
    simp
    have hne:q.1≠p.1:=fun e=>hn.1 (by rw[e];exact List.mem_map_of_mem hp)
    rw[List.find?_cons_of_neg (by simpa using hne)]
    exact ih hn.2 hp
theorem Sm{m:List (κ×α)}{k:κ}(h:∀p∈m,p.1≠k):Gw m k=m:=List.filter_eq_self.2 (fun p hp=>by simpa using h p hp)
theorem Vs{m:List (κ×α)}(hn:(m.map (·.1)).Nodup){p:κ×α}(hp:p∈m):m.Perm (p::Gw m p.1):=by
  induction m with
  | nil=>cases hp
  | cons q r ih=>
    simp only[List.map_cons,List.nodup_cons]at hn
    rcases List.mem_cons.1 hp with rfl | hp
    have h1:Gw (p::r) p.1=r:=by
      unfold Gw
      rw[List.filter_cons_of_neg zS]
      exact Sm fun q hq e=>hn.1 (by rw[←e];exact List.mem_map_of_mem hq)
    rw[h1]
    have hne:q.1≠p.1:=fun e=>hn.1 (by rw[e];exact List.mem_map_of_mem hp)
    have h1:Gw (q::r) p.1=q::Gw r p.1:=by
      unfold Gw
      rw[List.filter_cons_of_pos (by simpa using hne)]
    rw[h1]
    exact((ih hn.2 hp).cons q).trans (List.Perm.swap _ _ _)
theorem cd{m:List (κ×α)}{k:κ}(hn:(m.map (·.1)).Nodup):((Gw m k).map (·.1)).Nodup:=hn.sublist (List.Sublist.map _ (List.filter_sublist ..))
theorem Yu{m:List (κ×α)}{k j:κ}{a:α}:Cy (MI m k a) j=if k=j then some a else Cy m j:=by
  unfold MI Cy
  by_cases h:k=j
  rw[if_pos h,List.find?_cons_of_pos (by simpa using h)];rfl
  rw[if_neg h,List.find?_cons_of_neg (by simpa using h)]
  congr 1
  unfold Gw
  rw[List.find?_filter]
  congr 1
  funext p
  by_cases hj:p.1=j
  simp[hj,Ne.symm h]
  simp[hj]
end eX
structure M1(P:Program)(k:TypeId){κ α:Type}(ek:κ→Value)(ev:α→Value):Prop where
  keyed:Go.Maps.Keyed P k
  lit:∀x,∃l,keyOf P k (ek x)=some l
  dk:∃f:Value→Option κ,∀x,f (ek x)=some x
  dv:∃f:Value→Option α,∀x,f (ev x)=some x
theorem M1.inj{k:TypeId}{κ α:Type}{ek:κ→Value}{ev:α→Value}(E9:M1 P k ek ev){x y:κ}(h:ek x=ek y):x=y:=by
  obtain⟨f,hf⟩:=E9.dk
  have:=hf x
  rw[h,hf y]at this
  exact(zI this).symm
theorem Ux{k:TypeId}(hk:P.underlying k=some (.int .u32))(a:UInt32):∃l,keyOf P k (AA a)=some l:=
  ⟨_,Maps.keyOf_int_mk hk (by have:=a.toNat_lt;simp[Lit.wf,IntKind.min,IntKind.max,IntKind.signed,IntKind.bits];omega)⟩
theorem TQ{k:TypeId}(hk:P.underlying k=some (.int .u32)):M1 P k AA vS:=
  ⟨Maps.int_keyed hk,Ux hk,⟨fun v=>match v with | .int _ a=>some (UInt32.ofNat a.toNat) | _=>none,fun x=>by simp⟩,⟨fun v=>match v with | .string b=>some b.data.toList | _=>none,fun x=>rfl⟩⟩
theorem QJ{k:TypeId}(hk:P.underlying k=some (.int .u32)):M1 P k AA vB:=
  ⟨Maps.int_keyed hk,Ux hk,⟨fun v=>match v with | .int _ a=>some (UInt32.ofNat a.toNat) | _=>none,fun x=>by simp⟩,⟨fun v=>match v with | .bool b=>some b | _=>none,fun x=>rfl⟩⟩
section maps
variable {κ α:Type}{ek:κ→Value}{ev:α→Value}{m:List (κ×α)}{k:TypeId}{b:Nat}
def ML(ek:κ→Value)(ev:α→Value)(m:List (κ×α))(es:Array MapEntry)(clock:Nat):Prop:=
  Stamped es clock∧es.size≤maxLen∧(es.toList.map fun e=>(e.key,e.val)).Perm (m.map fun p=>(ek p.1,ev p.2))
def Ad(b:Nat)(ek:κ→Value)(ev:α→Value)(m:List (κ×α)):AX:=
  ⟨(·=b),fun w=>∃es clock,w.heap[b]? = some (.map es clock)∧ML ek ev m es clock,fun w w' h ⟨es,c,h1,h2⟩=>⟨es,c,by rw[h _ rfl];exact h1,h2⟩⟩
theorem ML.mem{es:Array MapEntry}{clock:Nat}(h:ML ek ev m es clock){e:MapEntry}(he:e∈es.toList):∃p∈m,e.key=ek p.1∧e.val=ev p.2:=by
  have:=h.2.2.mem_iff.1 (List.mem_map_of_mem (f:=fun e:MapEntry=>(e.key,e.val)) he)
  obtain⟨p,hp,e1⟩:=List.mem_map.1 this
  simp only[Prod.mk.injEq]at e1
  exact⟨p,hp,e1.1.symm,e1.2.symm⟩
theorem ML.nodup{es:Array MapEntry}{clock:Nat}(h:ML ek ev m es clock):(m.map (·.1)).Nodup:=by
  have h1:(es.toList.map (·.key)).Nodup:=h.1.2.2
  have h2:(es.toList.map (·.key)).Perm (m.map fun p=>ek p.1):=by
    have:=h.2.2.map (·.1)
    simpa[List.map_map,Function.comp_def]using this
  have h3:(m.map fun p=>ek p.1).Nodup:=h2.nodup_iff.1 h1
  have h4:(m.map fun p=>ek p.1)=(m.map (·.1)).map ek:=by simp
  rw[h4]at h3
  exact Pk _ h3
theorem ML.keys{es:Array MapEntry}{clock:Nat}(E9:M1 P k ek ev)(h:ML ek ev m es clock):∀e∈es.toList,∃l,keyOf P k e.key=some l:=fun e he=>by
  obtain⟨p,_,e1,_⟩:=h.mem he
  rw[e1]
  exact E9.lit _
theorem ML.size_eq{es:Array MapEntry}{clock:Nat}(h:ML ek ev m es clock):es.size=m.length:=by
  have:=h.2.2.length_eq
  simpa using this
variable [DecidableEq κ]
theorem ML.look{es:Array MapEntry}{clock:Nat}{w:World}(E9:M1 P k ek ev)(h:ML ek ev m es clock)(hb:w.heap[b]? = some (.map es clock)){ty e:TypeId}(ht:P.underlying ty=some (.map k e)){zv:α}(hz:EC P e=some (ev zv))(key:κ)(c:Bool):
    (Instr.lookup ty (.map (some b)) (ek key) c).run P w=.ok (if c then .tuple #[ev ((Cy m key).getD zv),.bool (Cy m key).isSome]else ev ((Cy m key).getD zv)) w:=by
  obtain⟨lx,hl⟩:=E9.lit key
  rcases E9.keyed.find w hl es.toList (h.keys E9)with⟨h1,h2⟩ | ⟨j,e0,h1,h2,h3⟩
  have hg:Cy m key=none:=Xk fun p hp e=>by
    have:=h.2.2.mem_iff.2 (List.mem_map_of_mem (f:=fun p:κ×α=>(ek p.1,ev p.2)) hp)
    obtain⟨e',he',e1⟩:=List.mem_map.1 this
    simp only[Prod.mk.injEq]at e1
    exact h2 e' he' (by rw[e1.1,e])
  simp[Instr.lookup,An ht,MapKept.run_getObj_map hb,E9.keyed.check w _ hl,h1,NQ hz,Result.andThen,hg]
  obtain⟨p,hp,e1,e2⟩:=h.mem (List.mem_of_getElem? h2)
  have hk:p.1=key:=E9.inj (by rw[←e1,h3])
  have hg:=Ti h.nodup hp
  rw[hk]at hg
  simp[Instr.lookup,An ht,MapKept.run_getObj_map hb,E9.keyed.check w _ hl,h1,Result.andThen,hg,←e2]
theorem ML.upd{es:Array MapEntry}{clock:Nat}{w:World}(E9:M1 P k ek ev)(h:ML ek ev m es clock)(hb:w.heap[b]? = some (.map es clock)){ty e:TypeId}(ht:P.underlying ty=some (.map k e))(key:κ)(a:α)(hroom:m.length<9223372036854775807):
    ∃es' clock',(Instr.mapUpdate ty (.map (some b)) (ek key) (ev a)).run P w=.ok () (setBlock w b (.map es' clock'))∧ML ek ev (MI m key a) es' clock':=by
  obtain⟨lx,hl⟩:=E9.lit key
  have hsz:=h.size_eq
  rcases E9.keyed.find w hl es.toList (h.keys E9)with⟨h1,h2⟩ | ⟨j,e0,h1,h2,h3⟩
  have hno:∀p∈m,p.1≠key:=fun p hp e=>by
    have:=h.2.2.mem_iff.2 (List.mem_map_of_mem (f:=fun p:κ×α=>(ek p.1,ev p.2)) hp)
    obtain⟨e',he',e1⟩:=List.mem_map.1 this
    simp only[Prod.mk.injEq]at e1
    exact h2 e' he' (by rw[e1.1,e])
  refine⟨es.push ⟨ek key,ev a,clock⟩,clock+1,?_,stamped_push h.1 h2,by simp only[maxLen,Array.size_push];omega,?_⟩
  simp[Instr.mapUpdate,An ht,MapKept.run_getObj_map hb,E9.keyed.check w false hl,h1,MapKept.run_setObj_map _ hb,Result.andThen,setBlock]
  unfold MI
  rw[Sm hno,Array.toList_push,List.map_append,List.map_cons]
  exact(List.perm_append_singleton _ _).trans (h.2.2.cons _)
  have hj:es[j]? = some e0:=by simpa using h2
  have hjl:j<es.toList.length:=(List.getElem?_eq_some_iff.1 h2).1
  obtain⟨p,hp,e1,e2⟩:=h.mem (List.mem_of_getElem? h2)
  have hk:p.1=key:=E9.inj (by rw[←e1,h3])
  have hkeyf:∀e',es[j]? = some e'→({ e' with key:=ek key,val:=ev a }:MapEntry).key=e'.key:=fun e' he'=>by rw[hj]at he';cases he';exact h3.symm
  have hlist:(es.modify j (fun e'=>{ e' with key:=ek key,val:=ev a })).toList=es.toList.set j { e0 with key:=ek key,val:=ev a }:=by rw[Array.toList_modify,modify_eq_set _ _ _ _ h2]
  refine⟨es.modify j (fun e'=>{ e' with key:=ek key,val:=ev a }),clock,?_,stamped_modify h.1 _ _ (fun _ _=>rfl) (fun e' _ he'=>hkeyf e' he'),by simpa using h.2.1,?_⟩
  simp[Instr.mapUpdate,An ht,MapKept.run_getObj_map hb,E9.keyed.check w false hl,h1,hj,h3,E9.keyed.stays w hl,MapKept.run_setObj_map _ hb,Result.andThen,setBlock]
  rw[hlist]
  unfold MI
  have hspl:=Vs h.nodup hp
  rw[hk]at hspl
  have p1:es.toList=es.toList.take j++e0::es.toList.drop (j+1):=(Ez h2).1
  have p2:es.toList.set j { e0 with key:=ek key,val:=ev a }=es.toList.take j++{ e0 with key:=ek key,val:=ev a }::es.toList.drop (j+1):=by
    rw[List.set_eq_take_append_cons_drop,if_pos hjl]
  rw[p2]
  have q1:((es.toList.take j++es.toList.drop (j+1)).map fun e=>(e.key,e.val)).Perm ((Gw m key).map fun p=>(ek p.1,ev p.2)):=by
    have h5:=h.2.2
    rw[p1]at h5
    have h6:=(List.perm_middle (l₁:=es.toList.take j) (a:=e0) (l₂:=es.toList.drop (j+1))).symm.map (fun e:MapEntry=>(e.key,e.val))
    have h7:=(h6.trans h5).trans (hspl.map fun p=>(ek p.1,ev p.2))
    simp only[List.map_cons,e1,e2]at h7
    exact h7.cons_inv
  have h8:=(List.perm_middle (l₁:=es.toList.take j) (a:=({ e0 with key:=ek key,val:=ev a }:MapEntry)) (l₂:=es.toList.drop (j+1))).map (fun e:MapEntry=>(e.key,e.val))
  exact h8.trans (q1.cons _)
theorem ML.drop{es:Array MapEntry}{clock:Nat}{w:World}(E9:M1 P k ek ev)(h:ML ek ev m es clock)(hb:w.heap[b]? = some (.map es clock)){t2 e rt:TypeId}(ht:P.underlying t2=some (.map k e))(key:κ):
    ∃es',(Builtin.delete_ #[t2,k] rt #[.map (some b),ek key]).run P w=.ok (.tuple #[]) (setBlock w b (.map es' clock))∧ML ek ev (Gw m key) es' clock:=by
  obtain⟨lx,hl⟩:=E9.lit key
  rcases E9.keyed.find w hl es.toList (h.keys E9)with⟨h1,h2⟩ | ⟨j,e0,h1,h2,h3⟩
  have hno:∀p∈m,p.1≠key:=fun p hp e=>by
    have:=h.2.2.mem_iff.2 (List.mem_map_of_mem (f:=fun p:κ×α=>(ek p.1,ev p.2)) hp)
    obtain⟨e',he',e1⟩:=List.mem_map.1 this
    simp only[Prod.mk.injEq]at e1
    exact h2 e' he' (by rw[e1.1,e])
  refine⟨es,?_,by rw[Sm hno];exact h⟩
  simp[Builtin.delete_,An ht,MapKept.run_getObj_map hb,E9.keyed.check w _ hl,h1,MapKept.run_setObj_map _ hb,Result.andThen,setBlock]
  have hjl:j<es.toList.length:=(List.getElem?_eq_some_iff.1 h2).1
  have hjs:j<es.size:=by simpa using hjl
  obtain⟨p,hp,e1,e2⟩:=h.mem (List.mem_of_getElem? h2)
  have hk:p.1=key:=E9.inj (by rw[←e1,h3])
  have hsub:(es.eraseIdxIfInBounds j).toList=es.toList.eraseIdx j:=by
    unfold Array.eraseIdxIfInBounds
    rw[dif_pos hjs]
    simp
  refine⟨es.eraseIdxIfInBounds j,?_,stamped_erase h.1 j,Nat.le_trans (MapFrom.size_erase es j) h.2.1,?_⟩
  simp[Builtin.delete_,An ht,MapKept.run_getObj_map hb,E9.keyed.check w _ hl,h1,MapKept.run_setObj_map _ hb,Result.andThen,setBlock]
  rw[hsub,List.eraseIdx_eq_take_drop_succ]
  have hspl:=Vs h.nodup hp
  rw[hk]at hspl
  have p1:es.toList=es.toList.take j++e0::es.toList.drop (j+1):=(Ez h2).1
  have h5:=h.2.2
  rw[p1]at h5
  have h6:=(List.perm_middle (l₁:=es.toList.take j) (a:=e0) (l₂:=es.toList.drop (j+1))).symm.map (fun e:MapEntry=>(e.key,e.val))
  have h7:=(h6.trans h5).trans (hspl.map fun p=>(ek p.1,ev p.2))
  simp only[List.map_cons,e1,e2]at h7
  exact h7.cons_inv
omit [DecidableEq κ]
theorem Fd(w:World)(b:Nat)(o:Obj):setBlock w b o=w.putObj b o:=rfl
theorem Sb{ty:TypeId}(ek:κ→Value)(ev:α→Value)(ho:At ops N l o t (.makeMap ty none))(hs:∀b,EO Hs (Ad b ek ev []::H))
(h:∀b,SL P ro K w0 N ops Hs items Q D ((t,.map (some b))::l) (Ad b ek ev []::H)):SL P ro K w0 N ops Hs (.cons (false,o) items) Q D l H:=
  Gc (fun b=>.map (some b)) (fun b=>Ad b ek ev []::H) ho rfl (fun a w ha hw=>by
    refine⟨w.heap.size,w.alloc (.map #[] 0),?_,?_⟩
    simp[execOp,ho.op,Instr.makeMap]
    have h2:=hw.alloc (.map #[] 0)
    refine h2.turn rfl rfl rfl (Nat.le_refl _) (fun _ _ _=>rfl) ⟨#[],0,h2.holds _ (List.mem_cons_self ..),stamped_empty 0,by simp,by simp⟩ (fun j hj=>?_)
    exact⟨.inl hj,(h2.foot _ (List.mem_cons_self ..) j hj).1⟩) hs h
variable [DecidableEq κ]
theorem WM{ty e:TypeId}{key:κ}{zv:α}(i:Nat)(E9:M1 P k ek ev)(ho:At ops N l o t (.lookup ty x y false))(ht:P.underlying ty=some (.map k e))(hz:EC P e=some (ev zv))(hx:Be l x=some (.map (some b)))(hy:Be l y=some (ek key))
(hi:(bif tk then Hs else H)[i]? = some (Ad b ek ev m))(h:SL P ro K w0 N ops Hs items Q D ((t,ev ((Cy m key).getD zv))::l) H):SL P ro K w0 N ops Hs (.cons (tk,o) items) Q D l H:=
  SL.val ho rfl (fun a w ha hsw=>by
    obtain⟨es,clock,hb,hr⟩:=hsw.holds _ (List.mem_of_getElem? hi)
    have:=hr.look E9 hb ht hz key false
    simp[execOp,ho.op,ha.eval hx,ha.eval hy,this]) h
theorem Yb{ty e:TypeId}{key:κ}{zv:α}(i:Nat)(E9:M1 P k ek ev)(ho:At ops N l o t (.lookup ty x y true))(ht:P.underlying ty=some (.map k e))(hz:EC P e=some (ev zv))(hx:Be l x=some (.map (some b)))(hy:Be l y=some (ek key))
(hi:(bif tk then Hs else H)[i]? = some (Ad b ek ev m))(h:SL P ro K w0 N ops Hs items Q D ((t,.tuple #[ev ((Cy m key).getD zv),.bool (Cy m key).isSome])::l) H):SL P ro K w0 N ops Hs (.cons (tk,o) items) Q D l H:=
  SL.val ho rfl (fun a w ha hsw=>by
    obtain⟨es,clock,hb,hr⟩:=hsw.holds _ (List.mem_of_getElem? hi)
    have:=hr.look E9 hb ht hz key true
    simp[execOp,ho.op,ha.eval hx,ha.eval hy,this]) h
theorem lw{ty e:TypeId}{key:κ}{a:α}{z:Operand}(i:Nat)(E9:M1 P k ek ev)(ho:At0 ops l o (.mapUpdate ty x y z))(ht:P.underlying ty=some (.map k e))(hx:Be l x=some (.map (some b)))(hy:Be l y=some (ek key))(hz:Be l z=some (ev a))
(hi:H[i]? = some (Ad b ek ev m))(hroom:m.length<9223372036854775807)(hs:EO Hs (H.set i (Ad b ek ev (MI m key a))))(h:SL P ro K w0 N ops Hs items Q D l (H.set i (Ad b ek ev (MI m key a)))):SL P ro K w0 N ops Hs (.cons (false,o) items) Q D l H:=
  U2 ho rfl (fun a' w ha hw=>by
    obtain⟨es,clock,hb,hr⟩:=hw.holds _ (List.mem_append_left _ (List.mem_of_getElem? hi))
    obtain⟨es',clock',hrun,hr'⟩:=hr.upd E9 hb ht key a hroom
    obtain⟨hlt,_⟩:=Array.getElem?_eq_some_iff.1 hb
    refine⟨_,by simp[execOp,ho.op,ha.eval hx,ha.eval hy,ha.eval hz,hrun];rfl,?_⟩
    refine hw.turnAt (c:=Ad b ek ev m) i hi rfl rfl rfl (by simp[Fd]) (fun j hj hne=>World.putObj_heap_other (fun e=>hne (by rw[e];rfl))) ⟨es',clock',World.putObj_heap_same hlt,hr'⟩ (fun j hj=>⟨.inl hj,?_⟩)
    obtain rfl:j=b:=hj
    simpa[Fd]using hlt) hs h
theorem lk{ty k' e:TypeId}{key:κ}(i:Nat)(E9:M1 P k ek ev)(hd:o.dst=none)(hop:o.op=.call { callee:=.builtin .delete,args:=#[x,y],argTypes:=#[ty,k'] })(hwt:Q3 ops l o=some true)(hk:k'=k)(ht:P.underlying ty=some (.map k e))(hx:Be l x=some (.map (some b)))(hy:Be l y=some (ek key))
(hi:H[i]? = some (Ad b ek ev m))(hs:EO Hs (H.set i (Ad b ek ev (Gw m key))))(h:SL P ro K w0 N ops Hs items Q D l (H.set i (Ad b ek ev (Gw m key)))):SL P ro K w0 N ops Hs (.cons (false,o) items) Q D l H:=by
  subst hk
  intro a w ha hw hs0
  have hw1:=FI hwt ha.vals
  simp only[PL,hw1,if_true]
  obtain⟨es,clock,hb,hr⟩:=hw.holds _ (List.mem_append_left _ (List.mem_of_getElem? hi))
  obtain⟨es',hrun,hr'⟩:=hr.drop (rt:=o.type) E9 hb ht key
  obtain⟨hlt,_⟩:=Array.getElem?_eq_some_iff.1 hb
  have hw':BT K w0 (H.set i (Ad b ek ev (Gw m key))++[BO D]) (setBlock w b (.map es' clock)):=by
    refine hw.turnAt (c:=Ad b ek ev m) i hi rfl rfl rfl (by simp[Fd]) (fun j hj hne=>World.putObj_heap_other (fun e=>hne (by rw[e];rfl))) ⟨es',clock,World.putObj_heap_same hlt,hr'⟩ (fun j hj=>⟨.inl hj,?_⟩)
    obtain rfl:j=b:=hj
    simpa[Fd]using hlt
  refine JT (by rw[hop];exact FH rfl) (v:=.tuple #[]) (w':=setBlock w b (.map es' clock)) ?_ ⟨hs.hs hw',?_⟩
  unfold execOp
  simp only[hop,resolve,invoke,builtin,Sem.run_bind,Sem.run_pure,Result.andThen_ok,List.map_toArray,List.map_cons,List.map_nil,ha.vals.eval hx,ha.vals.eval hy,hrun]
  rw[hd]
  exact h _ _ ha hw' (hs.hs hw')
omit [DecidableEq κ]
theorem lj{ty e:TypeId}(i:Nat)(hd:o.dst=none)(hop:o.op=.call { callee:=.builtin .clear,args:=#[x],argTypes:=#[ty] })(hwt:Q3 ops l o=some true)(ht:P.underlying ty=some (.map k e))(hx:Be l x=some (.map (some b)))
(hi:H[i]? = some (Ad b ek ev m))(hs:EO Hs (H.set i (Ad b ek ev [])))(h:SL P ro K w0 N ops Hs items Q D l (H.set i (Ad b ek ev []))):SL P ro K w0 N ops Hs (.cons (false,o) items) Q D l H:=by
  intro a w ha hw hs0
  have hw1:=FI hwt ha.vals
  simp only[PL,hw1,if_true]
  obtain⟨es,clock,hb,hr⟩:=hw.holds _ (List.mem_append_left _ (List.mem_of_getElem? hi))
  obtain⟨hlt,_⟩:=Array.getElem?_eq_some_iff.1 hb
  have hw':BT K w0 (H.set i (Ad b ek ev [])++[BO D]) (setBlock w b (.map #[] clock)):=by
    refine hw.turnAt (c:=Ad b ek ev m) i hi rfl rfl rfl (by simp[Fd]) (fun j hj hne=>World.putObj_heap_other (fun e=>hne (by rw[e];rfl))) ⟨#[],clock,World.putObj_heap_same hlt,stamped_empty clock,by simp,by simp⟩ (fun j hj=>⟨.inl hj,?_⟩)
    obtain rfl:j=b:=hj
    simpa[Fd]using hlt
  refine JT (by rw[hop];exact FH rfl) (v:=.tuple #[]) (w':=setBlock w b (.map #[] clock)) ?_ ⟨hs.hs hw',?_⟩
  unfold execOp
  simp only[hop,resolve,invoke,builtin,Sem.run_bind,Sem.run_pure,Result.andThen_ok,List.map_toArray,List.map_cons,List.map_nil,ha.vals.eval hx]
  simp[Builtin.clear_,An ht,MapKept.run_getObj_map hb,MapKept.run_setObj_map _ hb,Result.andThen,setBlock]
  rw[hd]
  exact h _ _ ha hw' (hs.hs hw')
def NN(b it:Nat)(ek:κ→Value)(ev:α→Value)(m done:List (κ×α)):AX:=
  ⟨fun j=>j=b∨j=it,fun w=>∃es clock seen,w.heap[b]? = some (.map es clock)∧ML ek ev m es clock∧w.heap[it]? = some (.mapIter (some b) clock seen clock)∧
    ∃ord:List MapEntry,seen.toList=ord.map MapEntry.born∧(∀e∈ord,e∈es.toList)∧(ord.map MapEntry.born).Nodup∧(ord.map fun e=>(e.key,e.val))=done.map fun p=>(ek p.1,ev p.2),
   fun w w' h ⟨es,c,s,h1,h2,h3,h4⟩=>⟨es,c,s,by rw[h _ (.inl rfl)];exact h1,h2,by rw[h _ (.inr rfl)];exact h3,h4⟩⟩
theorem lq{ty e:TypeId}(i:Nat)(ho:At ops N l o t (.range ty x))(ht:P.underlying ty=some (.map k e))(hx:Be l x=some (.map (some b)))(hi:H[i]? = some (Ad b ek ev m))
(hs:∀it,EO Hs (H.set i (NN b it ek ev m [])))(h:∀it,SL P ro K w0 N ops Hs items Q D ((t,vP it 0)::l) (H.set i (NN b it ek ev m []))):SL P ro K w0 N ops Hs (.cons (false,o) items) Q D l H:=
  Gc (fun it=>vP it 0) (fun it=>H.set i (NN b it ek ev m [])) ho rfl (fun a w ha hw=>by
    obtain⟨es,clock,hb,hr⟩:=hw.holds _ (List.mem_append_left _ (List.mem_of_getElem? hi))
    obtain⟨hlt,_⟩:=Array.getElem?_eq_some_iff.1 hb
    refine⟨w.heap.size,w.alloc (.mapIter (some b) clock #[] clock),?_,?_⟩
    simp[execOp,ho.op,Instr.range,ha.eval hx,An ht,MapKept.run_getObj_map hb]
    refine hw.turnAt (c:=Ad b ek ev m) i hi rfl rfl rfl zS (fun j hj _=>Pi w _ j hj) ⟨es,clock,#[],(Pi w _ b hlt).trans hb,hr,?_,[],by simp,by simp,by simp,by simp⟩ (fun j hj=>?_)
    show(w.heap.push _)[w.heap.size]? = _
    simp
    rcases hj with rfl | rfl
    exact⟨.inl rfl,by simp;omega⟩
    exact⟨.inr (Nat.le_refl _),by simp⟩) hs h
theorem ln{it:Nat}{done:List (κ×α)}(i:Nat)(E9:M1 P k ek ev)(ho:At ops N l o t (.next x false))(hx:Be l x=some (vP it 0))(hi:H[i]? = some (NN b it ek ev m done))(hs0:EO Hs H)
(hA:done.Perm m→SL P ro K w0 N ops Hs items Q D ((t,.tuple #[.bool false])::l) H)
(hB:∀p,p∈m→done.length<m.length→EO Hs (H.set i (NN b it ek ev m (done++[p])))∧SL P ro K w0 N ops Hs items Q D ((t,.tuple #[.bool true,ek p.1,ev p.2])::l) (H.set i (NN b it ek ev m (done++[p])))):
    SL P ro K w0 N ops Hs (.cons (false,o) items) Q D l H:=by
  intro a w ha hw hsw
  have hw1:=FI ho.wt ha.vals
  simp only[PL,hw1,if_true]
  obtain⟨es,clock,seen,hb,hr,hit,ord,ho1,ho2,ho3,ho4⟩:=hw.holds _ (List.mem_append_left _ (List.mem_of_getElem? hi))
  obtain⟨hlt,_⟩:=Array.getElem?_eq_some_iff.1 hb
  obtain⟨hlt2,_⟩:=Array.getElem?_eq_some_iff.1 hit
  have hlen:ord.length=done.length:=by simpa using congrArg List.length ho4
  have hsz:=hr.size_eq
  have hnd:ord.Nodup:=Pk _ ho3
  rcases run_next_at (P:=P) w o.type it b clock clock seen es clock hit hb hr.1.1 (Nat.le_refl _)with⟨h0,hrun⟩ | ⟨e,he,w1,hal,hrun⟩
  
  have hall:∀e∈es.toList,e∈ord:=fun e he=>by
    have:leftOf es seen=#[]:=Array.eq_empty_of_size_eq_zero h0
    unfold leftOf at this
    have h1:=Array.filter_eq_empty_iff.1 this e (by simpa using he)
    have h2:e.born∈seen.toList:=by simpa using h1
    rw[ho1]at h2
    obtain⟨e',he',eb⟩:=List.mem_map.1 h2
    have h3:=ho2 e' he'
    have:e'=e:=by
      have hn:=hr.1.2.1
      obtain⟨p,hp,e1⟩:=List.getElem_of_mem h3
      obtain⟨q,hq,e2⟩:=List.getElem_of_mem he
      have:=(List.getElem_inj (h₀:=by simpa using hp) (h₁:=by simpa using hq) hn).1 (by simp[e1,e2,eb])
      subst this
      rw[←e1,←e2]
    rw[←this];exact he'
  have hperm:ord.Perm es.toList:=by
    have hen:es.toList.Nodup:=Pk _ hr.1.2.1
    exact(List.perm_ext_iff_of_nodup hnd hen).2 fun e=>⟨ho2 e,hall e⟩
  have hdm:done.Perm m:=by
    have h1:(done.map fun p=>(ek p.1,ev p.2)).Perm (m.map fun p=>(ek p.1,ev p.2)):=by
      rw[←ho4]
      exact(hperm.map _).trans hr.2.2
    obtain⟨fk,hfk⟩:=E9.dk
    obtain⟨fv,hfv⟩:=E9.dv
    have h2:=h1.filterMap fun q:Value×Value=>(fk q.1).bind fun a=>(fv q.2).map fun b=>(a,b)
    have h3:∀l:List (κ×α),(l.map fun p=>(ek p.1,ev p.2)).filterMap (fun q:Value×Value=>(fk q.1).bind fun a=>(fv q.2).map fun b=>(a,b))=l:=by
      intro l
      induction l with
      | nil=>rfl
      | cons p r ih=>simp[hfk,hfv,ih]
    rwa [h3,h3]at h2
  refine JT (by rw[ho.op];exact FH rfl) (v:=.tuple #[.bool false]) (w':=w) ?_ ⟨hs0.hs hw,hA hdm _ w (by rw[ho.dst];exact ha.put (HQ ho.lt) _) hw (hs0.hs hw)⟩
  simp[execOp,ho.op,ha.vals.eval hx,hrun]
  
  have hel:e∈es.toList:=by
    unfold leftOf at he
    simp at he ⊢
    exact he.1
  have hens:e.born∉ord.map (·.born):=by
    unfold leftOf at he
    rw[←ho1]
    simp at he ⊢
    exact he.2
  obtain⟨p,hp,e1,e2⟩:=hr.mem hel
  have hlt3:done.length<m.length:=by
    have hnd2:(ord++[e]).Nodup:=by
      refine List.nodup_append.2 ⟨hnd,by simp,?_⟩
      intro x hx y hy
      simp only[List.mem_singleton]at hy
      subst hy
      intro exy
      exact hens (by rw[←exy];exact List.mem_map_of_mem hx)
    have hsub:(ord++[e])⊆es.toList:=by
      intro x hx
      rcases List.mem_append.1 hx with hx | hx
      exact ho2 x hx
      simp only[List.mem_singleton]at hx
      subst hx;exact hel
    have:=Qp hnd2 (fun a ha=>hsub ha)
    simp at this
    omega
  obtain⟨hsub,hcont⟩:=hB p hp hlt3
  have hhw1:w1.os=w.os∧w1.tape=w.tape∧w1.output=w.output∧w1.heap=w.heap:=by rcases hal with rfl | rfl<;>exact⟨rfl,rfl,rfl,rfl⟩
  have hne:it≠b:=fun e=>by rw[e,hb]at hit;cases hit
  have hw':BT K w0 (H.set i (NN b it ek ev m (done++[p]))++[BO D]) (setBlock w1 it (.mapIter (some b) clock (seen.push e.born) clock)):=by
    refine hw.turnAt (c:=NN b it ek ev m done) i hi hhw1.1 hhw1.2.1 hhw1.2.2.1 (by simp[Fd,hhw1.2.2.2]) (fun j hj hnf=>?_) ⟨es,clock,seen.push e.born,?_,hr,World.putObj_heap_same (by rw[hhw1.2.2.2];exact hlt2),ord++[e],by simp[ho1],?_,?_,by simp[ho4,e1,e2]⟩ (fun j hj=>⟨.inl hj,?_⟩)
    exact(World.putObj_heap_other (fun e=>hnf (.inr e))).trans (by rw[hhw1.2.2.2])
    exact(World.putObj_heap_other (fun e=>hne e.symm)).trans (by rw[hhw1.2.2.2];exact hb)
    intro x hx
    rcases List.mem_append.1 hx with hx | hx
    exact ho2 x hx
    simp only[List.mem_singleton]at hx
    subst hx;exact hel
    rw[List.map_append]
    refine List.nodup_append.2 ⟨ho3,by simp,?_⟩
    intro x hx y hy
    simp only[List.map_cons,List.map_nil,List.mem_singleton]at hy
    subst hy
    intro exy
    exact hens (by rw[←exy];exact hx)
    rcases hj with rfl | rfl
    simpa[Fd,hhw1.2.2.2]using hlt
    simpa[Fd,hhw1.2.2.2]using hlt2
  refine JT (by rw[ho.op];exact FH rfl) (v:=.tuple #[.bool true,ek p.1,ev p.2]) (w':=setBlock w1 it (.mapIter (some b) clock (seen.push e.born) clock)) ?_ ⟨hsub.hs hw',hcont _ _ (by rw[ho.dst];exact ha.put (HQ ho.lt) _) hw' (hsub.hs hw')⟩
  simp[execOp,ho.op,ha.vals.eval hx,hrun,e1,e2]
theorem ll{it:Nat}{done:List (κ×α)}{p:κ×α}(i:Nat)(ho:At ops N l o t (.entry x))(hx:Be l x=some (vP it 0))(hi:(bif tk then Hs else H)[i]? = some (NN b it ek ev m (done++[p])))
(h:SL P ro K w0 N ops Hs items Q D ((t,.tuple #[ek p.1,ev p.2])::l) H):SL P ro K w0 N ops Hs (.cons (tk,o) items) Q D l H:=
  SL.val ho rfl (fun a w ha hsw=>by
    obtain⟨es,clock,seen,hb,hr,hit,ord,ho1,ho2,ho3,ho4⟩:=hsw.holds _ (List.mem_of_getElem? hi)
    have hne:ord≠[]:=fun e=>by rw[e]at ho4;simp at ho4
    obtain⟨ord',e,rfl⟩:∃o' e,ord=o'++[e]:=⟨_,_,(List.dropLast_concat_getLast hne).symm⟩
    simp only[List.map_append,List.map_cons,List.map_nil]at ho4 ho1
    have h4:=List.append_inj' ho4 rfl
    simp only[List.cons.injEq,Prod.mk.injEq,and_true]at h4
    have hse:seen=(ord'.map (·.born)).toArray.push e.born:=by
      apply Array.ext'
      simp[ho1]
    rw[hse]at hit
    have:=run_entry_at (P:=P) w it b clock _ es clock e hit hb (ho2 e zS) hr.1.2.1
    simp[execOp,ho.op,ha.eval hx,this,h4.2.1,h4.2.2]) h
theorem BT.itOff{w:World}{M:List AX}{it:Nat}{done:List (κ×α)}(i:Nat)(h:BT K w0 (H++M) w)(hi:H[i]? = some (NN b it ek ev m done)):BT K w0 (H.set i (Ad b ek ev m)++M) w:=by
  obtain⟨es,clock,seen,hb,hr,_⟩:=h.holds _ (List.mem_append_left _ (List.mem_of_getElem? hi))
  exact h.turnAt (c:=NN b it ek ev m done) i hi rfl rfl rfl (Nat.le_refl _) (fun _ _ _=>rfl) ⟨es,clock,hb,hr⟩ (fun j hj=>⟨.inl (.inl hj),(h.foot _ (List.mem_append_left _ (List.mem_of_getElem? hi)) j (.inl hj)).1⟩)
theorem gv{c:Code}{it:Nat}{done:List (κ×α)}(i:Nat)(hi:H[i]? = some (NN b it ek ev m done))(h:SX P ro K w0 N c Q D l (H.set i (Ad b ek ev m))):SX P ro K w0 N c Q D l H:=
  fun a w ha hw=>h a w ha (hw.itOff i hi)
end maps
end

section
open Go Go.MapKept Go.ChangeMaps
variable {P:Program}{ro:Option Nat}{K:Nat→Prop}{w0:World}{N:Nat}{Q:DF}{D:List Nat}{l l':Tm}{H H' Hs L:List AX}{ops:Array Oper}{items:Hn}
variable {tk:Bool}{o:Oper}{t:Nat}{v:Value}{x y z:Operand}
theorem Cs{α:Type}{e:TypeId}{sz:Nat}{enc:α→List Value}{xs:List α}(i:Nat)(hi:H[i]? = some (AD e sz v enc xs))(h:v.cells=#[v]→v.oneCell'=true→SL P ro K w0 N ops Hs items Q D l H):SL P ro K w0 N ops Hs items Q D l H:=by
 intro a w ha hw hs
 have hrow:w.ownsRow 0 e sz v xs.length (xs.flatMap enc):=hw.holds _ (List.mem_append_left _ (List.mem_of_getElem? hi))
 rcases hrow.2 with⟨rfl,_⟩ | ⟨g,cap,cur,rfl,_⟩
 exact h rfl rfl a w ha hw hs
 exact h rfl rfl a w ha hw hs
theorem Px{α:Type}{sz:Nat}{enc:α→List Value}{xs:List α}(hk:B6 K w0 enc sz v xs)(h:v.cells=#[v]→v.oneCell'=true→SL P ro K w0 N ops Hs items Q D l H):SL P ro K w0 N ops Hs items Q D l H:=by
 rcases hk.at_ with⟨_,rfl,_⟩ | ⟨b,off,cap,rfl,_⟩
 exact h rfl rfl
 exact h rfl rfl
theorem We{ty:TypeId}(hv:v.cells=#[v])(ho:At ops N l o t (.box ty x))(hx:Be l x=some v)(hs:∀b,EO Hs (AL b (.cells #[v] ty)::H))
(h:∀b,SL P ro K w0 N ops Hs items Q D ((t,vP b 0)::l) (AL b (.cells #[v] ty)::H)):SL P ro K w0 N ops Hs (.cons (false,o) items) Q D l H:=
 Ba ho hx (by rw[hv];exact hs) (by rw[hv];exact h)
theorem Dt{b off:Nat}{c:Array Value}{e ty:TypeId}(i:Nat)(ho:At0 ops l o (.store ty x y))(hx:Be l x=some (vP b off))(hy:Be l y=some v)(hi:H[i]? = some (AL b (.cells c e)))
(hn:DD P ty=some 1)(hv:v.cells=#[v])(h1:v.oneCell'=true)(hle:Nat.ble (off+1) c.size=true)
(hs:EO Hs (H.set i (AL b (.cells (Ek c off [v]) e))))(h:SL P ro K w0 N ops Hs items Q D l (H.set i (AL b (.cells (Ek c off [v]) e)))):SL P ro K w0 N ops Hs (.cons (false,o) items) Q D l H:=
 A2 i ho hx hy hi hn (by rw[hv];rfl) (by rw[hv];simp[h1]) hle (by rw[hv];exact hs) (by rw[hv];exact h)
def eM{α:Type}(by_:Nat)(n:Int)(a:α):Option (List α):=if 0≤n∧by_*n.toNat≤281474976710656∧n≤9223372036854775807 then some (List.replicate n.toNat a)else none
theorem iR{α:Type}{by_:Nat}{n:Int}{a:α}{xs:List α}(h:eM by_ n a=some xs):n=(n.toNat:Int)∧by_*n.toNat≤281474976710656∧n.toNat≤9223372036854775807∧xs=List.replicate n.toNat a:=by
 unfold eM at h
 split at h
 rename_i hc
 exact⟨by omega,hc.2.1,by omega,(zI h).symm⟩
 cases h
theorem iQ{α:Type}{enc:α→List Value}{a:α}{zv:Value}(hz:zv.cells.toList=enc a)(h1:(enc a).length=1)(n:Nat):(madeCells zv.cells (n*1)).toList=(List.replicate n a).flatMap enc:=by
 obtain⟨u,hu⟩:=List.length_eq_one_iff.1 h1
 have hs:zv.cells=#[u]:=by apply Array.ext';rw[hz,hu]
 rw[hs]
 have hrep:(List.replicate n a).flatMap enc=List.replicate n u:=by
  induction n with
  | zero=>rfl
  | succ k ih=>rw[List.replicate_succ,List.flatMap_cons,ih,hu,List.replicate_succ];rfl
 rw[hrep]
 apply List.ext_getElem
 simp[madeCells]
 intro i h2 h3
 simp[madeCells,Nat.mod_one]
theorem ZI{α:Type}{e ty:TypeId}{by_:Nat}{zv:Value}{n:Int}{a:α}{xs:List α}(hn:eM by_ n a=some xs)(enc:α→List Value)(ho:At ops N l o t (.makeSlice ty x x))(hty:P.underlying ty=some (.slice e))(hsz:DD P e=some 1)(hby:O9 P e=some by_)(hze:EC P e=some zv)
(hx:Be l x=some (vI n))(hza:zv.cells.toList=enc a)(h1:(enc a).length=1)(hzs:zv.cells.size=1)
(hs:∀v',EO Hs (AD e 1 v' enc xs::H))(h:∀v',SL P ro K w0 N ops Hs items Q D ((t,v')::l) (AD e 1 v' enc xs::H)):SL P ro K w0 N ops Hs (.cons (false,o) items) Q D l H:=by
 obtain⟨h0,hb,h63,rfl⟩:=iR hn
 generalize n.toNat=m at h0 hb h63 hs h
 subst h0
 refine Gc (fun b=>.slice (some ⟨b,0,none⟩) m m) (fun b=>AD e 1 (.slice (some ⟨b,0,none⟩) m m) enc (List.replicate m a)::H) ho E (fun a' w ha hw=>?_) (fun b=>hs _) (fun b=>h _)
 obtain⟨ii,hii,e1,e2,e3⟩:=Ot hsz hby hze
 have hb':(ii.bytes:Int)*(m:Int)≤281474976710656:=by rw[e2,←Int.natCast_mul];omega
 have hr:=run_make (P:=P) w ty e ii zv hty hii e3 .i64 .i64 m m zO zO hb' zO
 rw[e1]at hr
 simp only[Int.toNat_natCast]at hr
 refine⟨w.heap.size,w.alloc (.cells (madeCells zv.cells (m*1)) e),?_,?_⟩
 unfold execOp
 simp only[ho.op,ha.eval hx,Sem.run_bind,hr,Result.andThen_ok,Sem.run_pure]
 have h2:=hw.alloc (.cells (madeCells zv.cells (m*1)) e)
 have hlen:((List.replicate m a).flatMap enc).length=m*1:=by simp[h1]
 refine h2.turn rfl rfl rfl (Nat.le_refl _) (fun _ _ _=>rfl) ⟨by simp[h1],.inr ⟨w.heap.size,m,_,by simp,Nat.zero_le _,h2.holds _ (List.mem_cons_self ..),by simp,by simp only[maxLen];omega,?_,?_⟩⟩ (fun k hk=>?_)
 simp[madeCells]
 rw[iQ hza h1]
 rw[List.take_of_length_le (by simp[h1])]
 have hkb:k=w.heap.size:=by simp[AD,Value.ownBlock]at hk;exact hk.symm
 subst hkb
 exact⟨.inl rfl,(h2.foot _ (List.mem_cons_self ..) _ rfl).1⟩
def Mr{κ α:Type}[DecidableEq κ](m:List (κ×α))(k:κ)(a:α):Option (List (κ×α)):=if m.length<9223372036854775807 then some (MI m k a)else none
theorem Vt{κ α:Type}[DecidableEq κ]{m us:List (κ×α)}{k:κ}{a:α}(h:Mr m k a=some us):m.length<9223372036854775807∧us=MI m k a:=by
 unfold Mr at h
 split at h
 exact⟨by assumption,(zI h).symm⟩
 cases h
theorem Pw{κ α:Type}[DecidableEq κ]{ek:κ→Value}{ev:α→Value}{m us:List (κ×α)}{k:TypeId}{b:Nat}{ty e:TypeId}{key:κ}{a:α}(i:Nat)(hn:Mr m key a=some us)(E9:M1 P k ek ev)(ho:At0 ops l o (.mapUpdate ty x y z))(ht:P.underlying ty=some (.map k e))(hx:Be l x=some (.map (some b)))(hy:Be l y=some (ek key))(hz:Be l z=some (ev a))
(hi:H[i]? = some (Ad b ek ev m))(hs:EO Hs (H.set i (Ad b ek ev us)))(h:SL P ro K w0 N ops Hs items Q D l (H.set i (Ad b ek ev us))):SL P ro K w0 N ops Hs (.cons (false,o) items) Q D l H:=by
 obtain⟨hr,rfl⟩:=Vt hn
 exact lw i E9 ho ht hx hy hz hi hr hs h
structure bN where
 cnt:UInt64
 tag:List UInt8
 boots:UInt32
deriving DecidableEq
def gE(r:bN):List Value:=[AV r.cnt,vS r.tag,AA r.boots]
structure sb where
 act:Int
 page:UInt32
 num:Int
 txt:List UInt8
 lv:Value
 fates:List Int
structure Ai where
 off:Bool
 isCut:Bool
 lasts:Int
 counts:Int
 blocks:List (List UInt8)
 pend:List (UInt32×List UInt8)
 bad:List (UInt32×Bool)
 rcnt:UInt64
 rtag:List UInt8
 rboots:UInt32
structure Az where
 blk:List (List UInt8)
 pnd:List (List UInt8)
 bads:List Bool
 rcnt:UInt64
 rtag:List UInt8
 rboots:UInt32
 left:Int
 off:Bool
end

section
variable {P:Program}{ro:Option Nat}{K:Nat→Prop}{w0:World}{N:Nat}{Q:DF}{D:List Nat}{l l':Tm}{H H' Hs L:List AX}{ops:Array Oper}{items:Hn}
variable {tk:Bool}{o:Oper}{t:Nat}{v:Value}{x y z:Operand}
theorem Wj{b off n c sz:Nat}{k:IntKind}{j:Int}{ty e:TypeId}(q:Nat)(ho:At ops N l o t (.slice ty x (some z) none none))(hty:P.underlying ty=some (.slice e))(hsz:DD P e=some sz)(hx:Be l x=some (.slice (some ⟨b,off,none⟩) n c))(hz:Be l z=some (.int k j))
(hj:j=(q:Int))(hq:q≤n)(hqc:q<c)(h:SL P ro K w0 N ops Hs items Q D ((t,.slice (some ⟨b,off+q*sz,none⟩) (n-q) (c-q))::l) H):SL P ro K w0 N ops Hs (.cons (tk,o) items) Q D l H:=
 SL.val ho rfl (fun a w ha _=>by
  subst hj
  simp only[execOp,ho.op,Instr.sliceAt,Instr.slice,Option.map]
  simp[ha.eval hx,ha.eval hz,An hty,Cb hsz,Instr.sliceBounds,Instr.sliceBound,asIntOf,hq,Cf];omega) h
theorem fK{b off dl dc sl sc:Nat}{c:Array Value}{e ty ty':TypeId}{ad:Addr}(i:Nat)(news:List Value)(ho:At ops N l o t (.call { callee:=.builtin .copy,args:=#[x,y],argTypes:=#[ty,ty'] }))(hty:P.underlying ty=some (.slice e))(hsz:DD P e=some 1)
(hx:Be l x=some (.slice (some ⟨b,off,none⟩) dl dc))(hy:Be l y=some (.slice (some ad) sl sc))(hi:H[i]? = some (AL b (.cells c e)))
(hn:news.length=Nat.min sl dl)(hnews:∀w,GH K w0 H w→∀j u,news[j]? = some u→w.cell? (ad.add j)=some u)(h1:∀u∈news,u.oneCell'=true)(hle:off+news.length≤c.size)
(hs:EO Hs (H.set i (AL b (.cells (Ek c off news) e))))(h:SL P ro K w0 N ops Hs items Q D ((t,vI news.length)::l) (H.set i (AL b (.cells (Ek c off news) e)))):SL P ro K w0 N ops Hs (.cons (false,o) items) Q D l H:=
 Gc (fun _:Unit=>vI news.length) (fun _=>H.set i (AL b (.cells (Ek c off news) e))) ho rfl (fun a w ha hw=>by
  have hb:w.heap[b]? = some (.cells c e (0,0)):=hw.holds _ (List.mem_append_left _ (List.mem_of_getElem? hi))
  obtain⟨w',hrun,hw'⟩:=Lq (P:=P) news off 0 c w hb (by simpa using hle) h1
  have hl:=run_loadCells_list (P:=P) w ad news (hnews w hw.dropMarks.s)
  have hs1:=Cb (w:=w) hsz
  refine⟨(),w',?_,?_⟩
  unfold execOp
  simp only[ho.op,resolve,Sem.run_bind,Sem.run_pure,Result.andThen_ok,invoke]
  simp only[List.map_toArray,List.map_cons,List.map_nil,ha.eval hx,ha.eval hy]
  simp[builtin,Builtin.copy_,An hty,Builtin.lenOf,Builtin.firstCells,hs1,←hn,hl,hrun,goInt]
  rw[hw']
  exact hw.putAt i hi) (fun _=>hs) (fun _=>h)
theorem gt{α:Type}{b n:Nat}{c:Array Value}{e:TypeId}(enc:α→List Value)(sz:Nat)(xs:List α)(hn:xs.length=n)(hc:c.toList=xs.flatMap enc)(hl:∀x,(enc x).length=sz)(hm:n≤1000000)
(h:SL P ro K w0 N ops Hs items Q D l (AD e sz (.slice (some ⟨b,0,none⟩) n n) enc xs::H)):SL P ro K w0 N ops Hs items Q D l (AL b (.cells c e)::H):=by
 subst hn
 exact CA enc sz xs hc hl (Nat.ble_eq_true_of_le hm) h
end

section
variable {P:Program}{ro:Option Nat}{K:Nat→Prop}{w0:World}{N:Nat}{Q:DF}{D:List Nat}{l l':Tm}{H H' Hs L:List AX}{ops:Array Oper}{items:Hn}
def Ns(P:Program)(K:Nat→Prop)(w0:World)(f:FuncId)(cap:List Value)(Hit G0:List AX){α:Type}(enc:α→List Value)(xs:List α):Prop:=
 ∀(lp:Nat) (J9:List α→List AX→Prop) (X:List AX→Prop) (T:List AX) (rc:AX),
  (∀pre x suf,xs=pre++x::suf→∀G,J9 pre G→∀M,jY P K w0 lp (enc x) (G++M) fun b G'=>∃G1,G'=G1++M∧(if b then J9 (pre++[x]) G1 else X G1))→
  J9 [] (rc::G0)→TP P K w0 f (vY lp::cap) (Hit++(rc::G0)) T fun _ M=>J9 xs M∨X M
theorem MB{α:Type}{g:Operand}{ps:Array Tmp}{assign body:Code}{f:FuncId}{cap:List Value}{Hit:List AX}{enc:α→List Value}(xs:List α){G0:List AX}
(J9:List α→List AX→Prop)(X:Code→List AX→Prop)
(hg:Be l g=some (.func (.func f) #[] cap.toArray))(hf:AM P f=true)(hps:ps.toList.all (fun p=>Nat.blt p N)=true)(hlen:∀x,(enc x).length=ps.size)
(hseq:Ns P K w0 f cap Hit G0 enc xs)(hH:H=Hit++G0)(h0:J9 [] G0)
(hbody:∀pre x suf G,xs=pre++x::suf→J9 pre G→∀r lp Rest,SX P (some lp) K w0 N assign (bgn P lp body (eg K w0 J9 X pre x (Tl r lp Rest .busy))) [] (Qq ps.toList (enc x) l) (G++Tl r lp Rest .ready))
(hdone:∀G D,J9 xs G→SQ K w0 N Q .normal D l G)
(hstop:∀c G D,X c G→SX P none K w0 N c Q D l G):SX P none K w0 N (.rangeFunc g ps assign body) Q D l H:=by
 intro a w ha hw
 subst hH
 refine wpIn_rangeFunc fun fn _=>?_
 let r:Loop:={ state:=.ready,pending:=none,fn:=fn,tmps:=a.tmps,params:=ps,assign:=assign,body:=body,defers:=w.heap.size }
 refine⟨w.heap.size+1,[{ target:=.collected w.heap.size,args:=#[] }],(w.alloc (.deferred (some []))).alloc (.loop r),{ target:=.fn (.func f) cap.toArray,args:=#[vY (w.heap.size+1)] },(w.alloc (.deferred (some []))).alloc (.loop r),
  f,(vY (w.heap.size+1)::cap).toArray,(w.alloc (.deferred (some []))).alloc (.loop r),?_,?_,fun _ _=>NA _ _,?_,fun hd=>by simp[OP]at hd,?_⟩
 rw[L9];exact run_enterLoop_outer fn a.tmps ps assign body
 have hev:=ha.vals.eval hg
 simp[resolve,hev,Deferred.ofValue]
 rfl
 simp[invoke,LX hf]
 
 generalize hlp:w.heap.size+1=lp
 have hw1:BT K w0 ((Hit++(Tl r lp [] .ready++G0))++[BO (w.heap.size::D)]) ((w.alloc (.deferred (some []))).alloc (.loop r)):=by
  have h1:=(hw.alloc (.deferred (some []))).alloc (.loop r)
  rw[World.size_alloc,hlp]at h1
  
  have hm:BT K w0 (BO (w.heap.size::D)::AL lp (.loop r)::(Hit++G0)) ((w.alloc (.deferred (some []))).alloc (.loop r)):=by
   have hp:(AL lp (.loop r)::AL w.heap.size (.deferred (some []))::(Hit++G0++[BO D])).Perm (AL w.heap.size (.deferred (some []))::BO D::AL lp (.loop r)::(Hit++G0)):=by
    refine(List.Perm.swap _ _ _).trans (List.Perm.cons _ ?_)
    refine(List.Perm.cons _ (List.perm_append_comm (l₁:=Hit++G0) (l₂:=[BO D]))).trans ?_
    exact List.Perm.swap _ _ _
   have h2:=h1.perm hp
   have hpw:=List.pairwise_cons.1 h2.disj
   have hpw2:=List.pairwise_cons.1 hpw.2
   have hmk:=h2.holds (BO D) zS
   have hnew:=h2.holds (AL w.heap.size (.deferred (some []))) (List.mem_cons_self ..)
   refine⟨h2.os,h2.tape,h2.output,h2.size,h2.klt,h2.keep,?_,?_,?_⟩
   intro c hc
   rcases List.mem_cons.1 hc with rfl | hc
   refine⟨List.nodup_cons.2 ⟨fun hin=>hpw.1 (BO D) zS _ rfl hin,hmk.1⟩,fun b hb=>?_⟩
   rcases List.mem_cons.1 hb with rfl | hb
   exact hnew
   exact hmk.2 b hb
   exact h2.holds c (by simp only[List.mem_cons]at hc ⊢;exact .inr (.inr hc))
   intro c hc b hb
   rcases List.mem_cons.1 hc with rfl | hc
   rcases List.mem_cons.1 hb with rfl | hb
   exact h2.foot (AL w.heap.size (.deferred (some []))) (List.mem_cons_self ..) _ rfl
   exact h2.foot (BO D) zS b hb
   exact h2.foot c (by simp only[List.mem_cons]at hc ⊢;exact .inr (.inr hc)) b hb
   refine List.pairwise_cons.2 ⟨fun c hc b hb hb'=>?_,hpw2.2⟩
   rcases List.mem_cons.1 hb with rfl | hb
   exact hpw.1 c (List.mem_cons_of_mem _ hc) _ rfl hb'
   exact hpw2.1 c hc b hb hb'
  refine hm.perm ?_
  have e:Tl r lp [] .ready=[AL lp (.loop r)]:=rfl
  rw[e]
  refine(List.perm_append_comm (l₁:=[BO (w.heap.size::D)])).trans (List.Perm.append_right _ ?_)
  simpa using(List.perm_middle (l₁:=Hit) (a:=AL lp (.loop r)) (l₂:=G0)).symm
 have hN:∀p∈ps.toList,p<a.tmps.size:=fun p hp=>by
  rw[ha.size]
  exact HQ (List.all_eq_true.1 hps p hp)
 let D':=w.heap.size::D
 have hcon:=hseq lp (fun pre Gx=>∃G,J9 pre G∧Gx=Tl r lp [] .ready++G) (fun Gx=>∃c G,X c G∧Gx=AL lp (.loop { r with state:=.done,pending:=some c })::G) [BO D'] (AL lp (.loop { r with state:=.ready,pending:=none })) ?_ ⟨G0,h0,rfl⟩
 refine Pu none ((hcon _ hw1).mono ?_)
 rintro e w' ⟨v,M,rfl,hM,hw'⟩
 have hD:MC N D' l { tmps:=a.tmps,defers:=[{ target:=.collected w.heap.size,args:=#[] }]++a.defers }:=⟨ha.size,by simp[ha.defers,D',Yt],ha.vals⟩
 rcases hM with⟨G,hJ,rfl⟩ | ⟨c,G,hX,rfl⟩
 have hl:w'.heap[lp]? = some (.loop { r with state:=.ready,pending:=none }):=hw'.holds (AL lp _) (by simp[Tl])
 refine⟨_,_,run_endLoop hl zS,?_⟩
 refine hdone G D' hJ _ _ hD ?_
 have h3:=(show BT K w0 (AL lp (.loop { r with state:=.ready,pending:=none })::(G++[BO D'])) w' from hw').put (o':=.loop { r with state:=.exhausted,pending:=none })
 exact h3.sublist (List.sublist_cons_self _ _)
 have hl:w'.heap[lp]? = some (.loop { r with state:=.done,pending:=some c }):=hw'.holds (AL lp _) zS
 refine⟨_,_,run_endLoop hl zS,?_⟩
 refine hstop c G D' hX _ _ hD ?_
 have h3:=(show BT K w0 (AL lp (.loop { r with state:=.done,pending:=some c })::(G++[BO D'])) w' from hw').put (o':=.loop { r with state:=.exhausted,pending:=some c })
 exact h3.sublist (List.sublist_cons_self _ _)
 
 rintro pre x suf hxs Gx ⟨G,hJ,rfl⟩ M w₁ hw₁
 have hl:w₁.heap[lp]? = some (.loop { r with state:=.ready,pending:=none }):=hw₁.holds (AL lp _) (by simp[Tl])
 refine⟨_,_,_,_,run_yield hl (by simp[hlen];rfl),?_⟩
 refine roundIn_of_wpIn trivial ?_
 have hw₂:BT K w0 ((G++Tl r lp M .ready)++[BO []]) w₁:=by
  refine BT.marks0 (hw₁.perm ?_)
  show(AL lp _::(G++M)).Perm (G++AL lp _::M)
  exact List.perm_middle.symm
 have hzip:((ps.zip (enc x).toArray).foldl (fun tmps (t,a)=>tmps.setIfInBounds t a) a.tmps)=((ps.toList.zip (enc x)).foldl (fun tm (t,a)=>tm.setIfInBounds t a) a.tmps):=by
  rw[←Array.foldl_toList,Array.toList_zip]
 have hb:=hbody pre x suf G hxs hJ r lp M { tmps:=(ps.zip (enc x).toArray).foldl (fun tmps (t,a)=>tmps.setIfInBounds t a) a.tmps,defers:=[] } w₁
  ⟨by rw[hzip,JE];exact ha.size,rfl,by rw[hzip];exact QE ps.toList (enc x) l a.tmps hN ha.vals⟩ hw₂
 refine wpIn_mono hb ?_
 intro e a' w' q
 cases e with
 | normal=>
  obtain⟨w₃,hbr,hbody'⟩:=q
  refine⟨w₃,hbr,wpIn_mono hbody' ?_⟩
  have fin:∀(jump:Option Code) (G':List AX) (w₄:World),BT K w0 (G'++Tl r lp M .busy) w₄→
    (Instr.endRound lp jump).run P w₄=.ok (.bool jump.isNone) (w₄.putObj lp (.loop { r with state:=if jump.isNone then .ready else .done,pending:=jump }))∧
    BT K w0 ((AL lp (.loop { r with state:=if jump.isNone then .ready else .done,pending:=jump })::G')++M) (w₄.putObj lp (.loop { r with state:=if jump.isNone then .ready else .done,pending:=jump })):=by
   intro jump G' w₄ h4
   have hl4:w₄.heap[lp]? = some (.loop { r with state:=.busy,pending:=none }):=h4.holds (AL lp _) (by simp[Tl])
   refine⟨run_endRound (r:={ r with state:=.busy,pending:=none }) jump hl4,?_⟩
   have h5:BT K w0 (AL lp (.loop { r with state:=.busy,pending:=none })::(G'++M)) w₄:=h4.perm List.perm_middle
   exact h5.put
  intro e₂ a₂ w₄ q₂
  cases e₂ with
  | normal=>
   obtain⟨G',hJ',h4⟩:=q₂
   obtain⟨hrun,h5⟩:=fin none G' w₄ h4
   exact⟨_,_,hrun,_,_,rfl,⟨_,rfl,by simp only[Option.isNone_none,if_true];exact⟨G',hJ',rfl⟩⟩,h5⟩
  | ret=>
   obtain⟨G',hX',h4⟩:=q₂
   obtain⟨hrun,h5⟩:=fin (some .ret) G' w₄ h4
   exact⟨_,_,hrun,_,_,rfl,⟨_,rfl,by simp only[Option.isNone_some,Bool.false_eq_true,if_false];exact⟨_,G',hX',rfl⟩⟩,h5⟩
  | exit id=>
   obtain⟨G',hX',h4⟩:=q₂
   obtain⟨hrun,h5⟩:=fin (some (.exit id)) G' w₄ h4
   exact⟨_,_,hrun,_,_,rfl,⟨_,rfl,by simp only[Option.isNone_some,Bool.false_eq_true,if_false];exact⟨_,G',hX',rfl⟩⟩,h5⟩
  | goto _=>exact q₂.elim
  | panic _=>exact q₂.elim
  | outgrown=>exact q₂.elim
 | exit _=>exact q.elim
 | goto _=>exact q.elim
 | ret=>exact q.elim
 | panic _=>exact q.elim
 | outgrown=>exact q.elim
def Ur{α σ R:Type}(body:(σ→Option R)→α→σ→Option R)(fin:σ→Option R):List α→σ→Option R
 | [],s=>fin s
 | x::r,s=>body (Ur body fin r) x s
theorem WZ{α:Type}{xs pre suf suf':List α}{x:α}(h:xs=pre++x::suf)(h':xs=(pre++[x])++suf'):suf'=suf:=by
 rw[h,List.append_assoc]at h'
 simpa using(List.append_cancel_left h').symm
end

section
variable {P:Program}{ro:Option Nat}{K:Nat→Prop}{w0:World}{N:Nat}{Q:DF}{D:List Nat}{l l':Tm}{H H' Hs L:List AX}{ops:Array Oper}{items:Hn}
variable {tk:Bool}{o:Oper}{t:Nat}{v:Value}{x y z:Operand}
def se(j:Int)(n:Nat):Option Unit:=if j<(n:Int)then some ()else none
theorem Wf{ty e:TypeId}{sz:Nat}(ho:At ops N l o t (.buildSlice ty 0 #[]))(hty:P.underlying ty=some (.slice e))(hsz:DD P e=some sz)(hs:∀b,EO Hs (AL b (.cells #[] e)::H))
(h:∀b,SL P ro K w0 N ops Hs items Q D ((t,.slice (some ⟨b,0,none⟩) 0 0)::l) (AL b (.cells #[] e)::H)):SL P ro K w0 N ops Hs (.cons (false,o) items) Q D l H:=
 Gc (fun b=>.slice (some ⟨b,0,none⟩) 0 0) (fun b=>AL b (.cells #[] e)::H) ho rfl (fun a w ha hw=>by
  refine⟨w.heap.size,w.alloc (.cells #[] e),?_,by exact hw.alloc _⟩
  unfold execOp
  simp only[ho.op,Instr.buildSlice,Sem.run_bind,An hty,Result.andThen_ok,Cb hsz,Nat.zero_mul,if_neg (show ¬(0>2^24) by omega),if_true,Sem.run_pure,show(Array.range 0)=(#[]:Array Nat)from rfl,List.map_toArray,List.map_nil,Array.map_empty,Instr.fill,newRow,run_newObj]
  rfl) hs h
def VD(pl:List (Nat×Nat)):Array Value→List (Nat×Array Value)→Option (Array Value)
 | c,[]=>some c
 | c,(i,u)::r=>
  match pl[i]? with
  | none=>none
  | some (off,size)=>bif Nat.beq u.size size&&Nat.ble (off+u.size) c.size then VD pl (Ek c off u.toList) r else none
theorem cI(pl:List (Nat×Nat)):∀(is:List Nat) (vs:List Value) (c:Array Value),Pf pl c (is.zip vs)=VD pl c (is.zip (vs.map Value.cells))
 | [],vs,c=>by simp[Pf,VD]
 | i::is,[],c=>by simp[Pf,VD]
 | i::is,v::vs,c=>by
  simp only[List.zip_cons_cons,List.map_cons,Pf,VD]
  cases hi:pl[i]? with
  | none=>rfl
  | some p=>
   obtain⟨off,size⟩:=p
   simp only[cI pl is vs]
theorem RT{ty:TypeId}{parts:Array (Nat×Operand)}{pl:List (Nat×Nat)}{zv:Value}{r:Array Value}(vs:List Value)(css:List (Array Value))(hc:vs.map Value.cells=css)(ho:At ops N l o t (.build ty parts))(hp:LV P ty=some pl)(hk:LW P ty=true)(hz:EC P ty=some zv)
(hv:YT l (parts.toList.map (·.2)) vs)(hf:VD pl zv.cells ((parts.toList.map (·.1)).zip css)=some r)(h:SL P ro K w0 N ops Hs items Q D ((t,.agg r)::l) H):SL P ro K w0 N ops Hs (.cons (tk,o) items) Q D l H:=
 B0 vs ho hp hk hz hv (by rw[cI,hc];exact hf) h
def ZK(P:Program)(K:Nat→Prop)(w0:World)(f:FuncId)(cap:List Value)(Hit G0:List AX){α:Type}(enc:α→List Value)(xs:List α):Prop:=
 ∀(lp:Nat) (J9:List α→List AX→Prop) (X:List AX→Prop) (T:List AX) (rc:AX),(∀pre G,J9 pre G→pre=[])→
  (∀pre x suf,xs=pre++x::suf→∀G,J9 pre G→∀M,jY P K w0 lp (enc x) (G++M) fun b G'=>∃G1,G'=G1++M∧(if b then J9 (pre++[x]) G1 else X G1))→
  J9 [] (rc::G0)→TP P K w0 f (vY lp::cap) (Hit++(rc::G0)) T fun _ M=>J9 xs M∨X M
theorem ZJ{α:Type}{g:Operand}{ps:Array Tmp}{assign body:Code}{f:FuncId}{cap:List Value}{Hit:List AX}{enc:α→List Value}(xs:List α){G0:List AX}
(J9:List α→List AX→Prop)(X:Code→List AX→Prop)
(hg:Be l g=some (.func (.func f) #[] cap.toArray))(hf:AM P f=true)(hps:ps.toList.all (fun p=>Nat.blt p N)=true)(hlen:∀x,(enc x).length=ps.size)
(hseq:ZK P K w0 f cap Hit G0 enc xs)(hH:H=Hit++G0)(h0:J9 [] G0)(hJ1:∀pre G,J9 pre G→pre=[])
(hbody:∀pre x suf G,xs=pre++x::suf→J9 pre G→∀r lp Rest,SX P (some lp) K w0 N assign (bgn P lp body (eg K w0 J9 X pre x (Tl r lp Rest .busy))) [] (Qq ps.toList (enc x) l) (G++Tl r lp Rest .ready))
(hdone:∀G D,J9 xs G→SQ K w0 N Q .normal D l G)
(hstop:∀c G D,X c G→SX P none K w0 N c Q D l G):SX P none K w0 N (.rangeFunc g ps assign body) Q D l H:=by
 intro a w ha hw
 subst hH
 refine wpIn_rangeFunc fun fn _=>?_
 let r:Loop:={ state:=.ready,pending:=none,fn:=fn,tmps:=a.tmps,params:=ps,assign:=assign,body:=body,defers:=w.heap.size }
 refine⟨w.heap.size+1,[{ target:=.collected w.heap.size,args:=#[] }],(w.alloc (.deferred (some []))).alloc (.loop r),{ target:=.fn (.func f) cap.toArray,args:=#[vY (w.heap.size+1)] },(w.alloc (.deferred (some []))).alloc (.loop r),
  f,(vY (w.heap.size+1)::cap).toArray,(w.alloc (.deferred (some []))).alloc (.loop r),?_,?_,fun _ _=>NA _ _,?_,fun hd=>by simp[OP]at hd,?_⟩
 rw[L9];exact run_enterLoop_outer fn a.tmps ps assign body
 have hev:=ha.vals.eval hg
 simp[resolve,hev,Deferred.ofValue]
 rfl
 simp[invoke,LX hf]
 
 generalize hlp:w.heap.size+1=lp
 have hw1:BT K w0 ((Hit++(Tl r lp [] .ready++G0))++[BO (w.heap.size::D)]) ((w.alloc (.deferred (some []))).alloc (.loop r)):=by
  have h1:=(hw.alloc (.deferred (some []))).alloc (.loop r)
  rw[World.size_alloc,hlp]at h1
  
  have hm:BT K w0 (BO (w.heap.size::D)::AL lp (.loop r)::(Hit++G0)) ((w.alloc (.deferred (some []))).alloc (.loop r)):=by
   have hp:(AL lp (.loop r)::AL w.heap.size (.deferred (some []))::(Hit++G0++[BO D])).Perm (AL w.heap.size (.deferred (some []))::BO D::AL lp (.loop r)::(Hit++G0)):=by
    refine(List.Perm.swap _ _ _).trans (List.Perm.cons _ ?_)
    refine(List.Perm.cons _ (List.perm_append_comm (l₁:=Hit++G0) (l₂:=[BO D]))).trans ?_
    exact List.Perm.swap _ _ _
   have h2:=h1.perm hp
   have hpw:=List.pairwise_cons.1 h2.disj
   have hpw2:=List.pairwise_cons.1 hpw.2
   have hmk:=h2.holds (BO D) zS
   have hnew:=h2.holds (AL w.heap.size (.deferred (some []))) (List.mem_cons_self ..)
   refine⟨h2.os,h2.tape,h2.output,h2.size,h2.klt,h2.keep,?_,?_,?_⟩
   intro c hc
   rcases List.mem_cons.1 hc with rfl | hc
   refine⟨List.nodup_cons.2 ⟨fun hin=>hpw.1 (BO D) zS _ rfl hin,hmk.1⟩,fun b hb=>?_⟩
   rcases List.mem_cons.1 hb with rfl | hb
   exact hnew
   exact hmk.2 b hb
   exact h2.holds c (by simp only[List.mem_cons]at hc ⊢;exact .inr (.inr hc))
   intro c hc b hb
   rcases List.mem_cons.1 hc with rfl | hc
   rcases List.mem_cons.1 hb with rfl | hb
   exact h2.foot (AL w.heap.size (.deferred (some []))) (List.mem_cons_self ..) _ rfl
   exact h2.foot (BO D) zS b hb
   exact h2.foot c (by simp only[List.mem_cons]at hc ⊢;exact .inr (.inr hc)) b hb
   refine List.pairwise_cons.2 ⟨fun c hc b hb hb'=>?_,hpw2.2⟩
   rcases List.mem_cons.1 hb with rfl | hb
   exact hpw.1 c (List.mem_cons_of_mem _ hc) _ rfl hb'
   exact hpw2.1 c hc b hb hb'
  refine hm.perm ?_
  have e:Tl r lp [] .ready=[AL lp (.loop r)]:=rfl
  rw[e]
  refine(List.perm_append_comm (l₁:=[BO (w.heap.size::D)])).trans (List.Perm.append_right _ ?_)
  simpa using(List.perm_middle (l₁:=Hit) (a:=AL lp (.loop r)) (l₂:=G0)).symm
 have hN:∀p∈ps.toList,p<a.tmps.size:=fun p hp=>by
  rw[ha.size]
  exact HQ (List.all_eq_true.1 hps p hp)
 let D':=w.heap.size::D
 have hcon:=hseq lp (fun pre Gx=>∃G,J9 pre G∧Gx=Tl r lp [] .ready++G) (fun Gx=>∃c G,X c G∧Gx=AL lp (.loop { r with state:=.done,pending:=some c })::G) [BO D'] (AL lp (.loop { r with state:=.ready,pending:=none })) (fun pre _ h=>hJ1 pre _ h.choose_spec.1) ?_ ⟨G0,h0,rfl⟩
 refine Pu none ((hcon _ hw1).mono ?_)
 rintro e w' ⟨v,M,rfl,hM,hw'⟩
 have hD:MC N D' l { tmps:=a.tmps,defers:=[{ target:=.collected w.heap.size,args:=#[] }]++a.defers }:=⟨ha.size,by simp[ha.defers,D',Yt],ha.vals⟩
 rcases hM with⟨G,hJ,rfl⟩ | ⟨c,G,hX,rfl⟩
 have hl:w'.heap[lp]? = some (.loop { r with state:=.ready,pending:=none }):=hw'.holds (AL lp _) (by simp[Tl])
 refine⟨_,_,run_endLoop hl zS,?_⟩
 refine hdone G D' hJ _ _ hD ?_
 have h3:=(show BT K w0 (AL lp (.loop { r with state:=.ready,pending:=none })::(G++[BO D'])) w' from hw').put (o':=.loop { r with state:=.exhausted,pending:=none })
 exact h3.sublist (List.sublist_cons_self _ _)
 have hl:w'.heap[lp]? = some (.loop { r with state:=.done,pending:=some c }):=hw'.holds (AL lp _) zS
 refine⟨_,_,run_endLoop hl zS,?_⟩
 refine hstop c G D' hX _ _ hD ?_
 have h3:=(show BT K w0 (AL lp (.loop { r with state:=.done,pending:=some c })::(G++[BO D'])) w' from hw').put (o':=.loop { r with state:=.exhausted,pending:=some c })
 exact h3.sublist (List.sublist_cons_self _ _)
 
 rintro pre x suf hxs Gx ⟨G,hJ,rfl⟩ M w₁ hw₁
 have hl:w₁.heap[lp]? = some (.loop { r with state:=.ready,pending:=none }):=hw₁.holds (AL lp _) (by simp[Tl])
 refine⟨_,_,_,_,run_yield hl (by simp[hlen];rfl),?_⟩
 refine roundIn_of_wpIn trivial ?_
 have hw₂:BT K w0 ((G++Tl r lp M .ready)++[BO []]) w₁:=by
  refine BT.marks0 (hw₁.perm ?_)
  show(AL lp _::(G++M)).Perm (G++AL lp _::M)
  exact List.perm_middle.symm
 have hzip:((ps.zip (enc x).toArray).foldl (fun tmps (t,a)=>tmps.setIfInBounds t a) a.tmps)=((ps.toList.zip (enc x)).foldl (fun tm (t,a)=>tm.setIfInBounds t a) a.tmps):=by
  rw[←Array.foldl_toList,Array.toList_zip]
 have hb:=hbody pre x suf G hxs hJ r lp M { tmps:=(ps.zip (enc x).toArray).foldl (fun tmps (t,a)=>tmps.setIfInBounds t a) a.tmps,defers:=[] } w₁
  ⟨by rw[hzip,JE];exact ha.size,rfl,by rw[hzip];exact QE ps.toList (enc x) l a.tmps hN ha.vals⟩ hw₂
 refine wpIn_mono hb ?_
 intro e a' w' q
 cases e with
 | normal=>
  obtain⟨w₃,hbr,hbody'⟩:=q
  refine⟨w₃,hbr,wpIn_mono hbody' ?_⟩
  have fin:∀(jump:Option Code) (G':List AX) (w₄:World),BT K w0 (G'++Tl r lp M .busy) w₄→
    (Instr.endRound lp jump).run P w₄=.ok (.bool jump.isNone) (w₄.putObj lp (.loop { r with state:=if jump.isNone then .ready else .done,pending:=jump }))∧
    BT K w0 ((AL lp (.loop { r with state:=if jump.isNone then .ready else .done,pending:=jump })::G')++M) (w₄.putObj lp (.loop { r with state:=if jump.isNone then .ready else .done,pending:=jump })):=by
   intro jump G' w₄ h4
   have hl4:w₄.heap[lp]? = some (.loop { r with state:=.busy,pending:=none }):=h4.holds (AL lp _) (by simp[Tl])
   refine⟨run_endRound (r:={ r with state:=.busy,pending:=none }) jump hl4,?_⟩
   have h5:BT K w0 (AL lp (.loop { r with state:=.busy,pending:=none })::(G'++M)) w₄:=h4.perm List.perm_middle
   exact h5.put
  intro e₂ a₂ w₄ q₂
  cases e₂ with
  | normal=>
   obtain⟨G',hJ',h4⟩:=q₂
   obtain⟨hrun,h5⟩:=fin none G' w₄ h4
   exact⟨_,_,hrun,_,_,rfl,⟨_,rfl,by simp only[Option.isNone_none,if_true];exact⟨G',hJ',rfl⟩⟩,h5⟩
  | ret=>
   obtain⟨G',hX',h4⟩:=q₂
   obtain⟨hrun,h5⟩:=fin (some .ret) G' w₄ h4
   exact⟨_,_,hrun,_,_,rfl,⟨_,rfl,by simp only[Option.isNone_some,Bool.false_eq_true,if_false];exact⟨_,G',hX',rfl⟩⟩,h5⟩
  | exit id=>
   obtain⟨G',hX',h4⟩:=q₂
   obtain⟨hrun,h5⟩:=fin (some (.exit id)) G' w₄ h4
   exact⟨_,_,hrun,_,_,rfl,⟨_,rfl,by simp only[Option.isNone_some,Bool.false_eq_true,if_false];exact⟨_,G',hX',rfl⟩⟩,h5⟩
  | goto _=>exact q₂.elim
  | panic _=>exact q₂.elim
  | outgrown=>exact q₂.elim
 | exit _=>exact q.elim
 | goto _=>exact q.elim
 | ret=>exact q.elim
 | panic _=>exact q.elim
 | outgrown=>exact q.elim
end

section
structure BS where
 page:UInt32
 tag:List UInt8
deriving DecidableEq
def Bt(r:BS):List Value:=[AA r.page,vS r.tag]
structure A0 where
 ring:List BK
 gen:UInt32
 boot:UInt32
 seals:UInt64
 taken:List (UInt32×Bool)
structure BX where
 ring:List BK
 gen:UInt32
 boot:UInt32
 num:UInt64
 taken:List Bool
end

section
open Go Go.ChangeShapes Go.WideShapes Go.ChangeAt Go.RowKit Go.Deep Go.Lib Go.Joins
section
variable {G:Type}{enc:TypeId×Value→G}{P:Program}{W:World}
end
end
end Go.Proofs.YtjkhnhichalenaaGreatDoor
