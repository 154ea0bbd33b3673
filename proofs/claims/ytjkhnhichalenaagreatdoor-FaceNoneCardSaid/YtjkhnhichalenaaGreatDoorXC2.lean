/- The texts T0, C0, C1, A0, D0, D1, D2, D3, B0, B1, D4, E0, E1, G0, G1, G2, H0, H1, I0, I1, R1, R2, X0, R3, V0, S14, S15, S16, S17, S18, S19, R4, one behind the other: walks of the program, and plain laws of what it computes. Conditions: as each theorem says. -/
import Derived.Test.YtjkhnhichalenaaGreatDoorXC1
import Derived.Test.YtjkhnhichalenaaGreatDoorChecked
import Derived.Maps.Range
import Derived.JoinedOf
import Derived.SliceStrings
import Derived.Deep.Slices
import Derived.HandedShaped

set_option linter.unusedVariables false
set_option linter.unusedSimpArgs false
set_option maxHeartbeats 4000000
set_option maxRecDepth 100000
namespace Go.Proofs.YtjkhnhichalenaaGreatDoor
open Go
section
abbrev zC:=T6 Tryz.prog
set_option maxRecDepth 100000
theorem DE:Tryz.prog.follows .mixedOrders=true:=zK
theorem LJ:NY Tryz.prog 114=some 2:=zK
theorem FZ:NY Tryz.prog 164=some 3:=zK
theorem NX:NY Tryz.prog 167=some 5:=zK
theorem C6:NY Tryz.prog 188=some 2:=zK
theorem R5:NY Tryz.prog 190=some 3:=zK
theorem Il:NY Tryz.prog 200=some 5:=zK
theorem XW:NY Tryz.prog 238=some 8:=zK
theorem qT:NY Tryz.prog 260=some 4:=zK
theorem T9:NY Tryz.prog 263=some 4:=zK
theorem Z2:NY Tryz.prog 329=some 2:=zK
theorem Fw:NY Tryz.prog 35=some 4:=zK
theorem eW:NY Tryz.prog 359=some 16:=zK
theorem qU:NY Tryz.prog 366=some 8:=zK
theorem qV:NY Tryz.prog 368=some 10:=zK
theorem eX:NY Tryz.prog 389=some 4:=zK
theorem kb:NY Tryz.prog 400=some 64:=zK
theorem qW:NY Tryz.prog 405=some 2:=zK
theorem qD:NY Tryz.prog 43=some 3:=zK
theorem qE:NY Tryz.prog 50=some 4:=zK
theorem qF:NY Tryz.prog 52=some 11:=zK
theorem Uo:NY Tryz.prog 83=some 5:=zK
theorem ee:PY Tryz.prog 114=some 24:=zK
theorem Z8:PY Tryz.prog 167=some 64:=zK
theorem qY:PY Tryz.prog 188=some 24:=zK
theorem kl:PY Tryz.prog 190=some 40:=zK
theorem QP:PY Tryz.prog 33=some 4:=zK
theorem Xd:PY Tryz.prog 35=some 32:=zK
theorem sn:PY Tryz.prog 37=some 24:=zK
theorem so:PY Tryz.prog 4=some 1:=zK
theorem Vl:PY Tryz.prog 5=some 1:=zK
theorem sp:PY Tryz.prog 83=some 40:=zK
theorem na:PY Tryz.prog 9=some 16:=zK
theorem aV:AN Tryz.prog 10=true:=zK
theorem aW:AN Tryz.prog 100=true:=zK
theorem aX:AN Tryz.prog 101=true:=zK
theorem nf:AN Tryz.prog 102=true:=zK
theorem ng:AN Tryz.prog 103=true:=zK
theorem aY:AN Tryz.prog 105=true:=zK
theorem gd:AN Tryz.prog 106=true:=zK
theorem ge:AN Tryz.prog 107=true:=zK
theorem gf:AN Tryz.prog 108=true:=zK
theorem gg:AN Tryz.prog 109=true:=zK
theorem nh:AN Tryz.prog 110=true:=zK
theorem ni:AN Tryz.prog 111=true:=zK
theorem nj:AN Tryz.prog 112=true:=zK
theorem gh:AN Tryz.prog 113=true:=zK
theorem nk:AN Tryz.prog 114=true:=zK
theorem nl:AN Tryz.prog 115=true:=zK
theorem gi:AN Tryz.prog 116=true:=zK
theorem nm:AN Tryz.prog 117=true:=zK
theorem qc:AN Tryz.prog 12=true:=zK
theorem nn:AN Tryz.prog 124=true:=zK
theorem np:AN Tryz.prog 125=true:=zK
theorem U0:AN Tryz.prog 126=true:=zK
theorem nq:AN Tryz.prog 127=true:=zK
theorem nr:AN Tryz.prog 128=true:=zK
theorem gj:AN Tryz.prog 129=true:=zK
theorem gk:AN Tryz.prog 130=true:=zK
theorem nt:AN Tryz.prog 131=true:=zK
theorem gl:AN Tryz.prog 132=true:=zK
theorem nu:AN Tryz.prog 133=true:=zK
theorem gm:AN Tryz.prog 134=true:=zK
theorem nw:AN Tryz.prog 135=true:=zK
theorem gn:AN Tryz.prog 136=true:=zK
theorem ny:AN Tryz.prog 137=true:=zK
theorem nz:AN Tryz.prog 138=true:=zK
theorem gp:AN Tryz.prog 139=true:=zK
theorem er:AN Tryz.prog 14=true:=zK
theorem W6:AN Tryz.prog 140=true:=zK
theorem gq:AN Tryz.prog 141=true:=zK
theorem gr:AN Tryz.prog 142=true:=zK
theorem n6:AN Tryz.prog 143=true:=zK
theorem n7:AN Tryz.prog 153=true:=zK
theorem n8:AN Tryz.prog 154=true:=zK
theorem n9:AN Tryz.prog 155=true:=zK
theorem W7:AN Tryz.prog 156=true:=zK
theorem oA:AN Tryz.prog 157=true:=zK
theorem oB:AN Tryz.prog 158=true:=zK
theorem oC:AN Tryz.prog 159=true:=zK
theorem et:AN Tryz.prog 16=true:=zK
theorem oD:AN Tryz.prog 160=true:=zK
theorem oE:AN Tryz.prog 161=true:=zK
theorem oF:AN Tryz.prog 162=true:=zK
theorem oG:AN Tryz.prog 163=true:=zK
theorem oH:AN Tryz.prog 164=true:=zK
theorem oI:AN Tryz.prog 165=true:=zK
theorem oJ:AN Tryz.prog 166=true:=zK
theorem oK:AN Tryz.prog 167=true:=zK
theorem oL:AN Tryz.prog 168=true:=zK
theorem aZ:AN Tryz.prog 169=true:=zK
theorem kt:AN Tryz.prog 17=true:=zK
theorem oM:AN Tryz.prog 170=true:=zK
theorem W8:AN Tryz.prog 171=true:=zK
theorem oN:AN Tryz.prog 172=true:=zK
theorem oO:AN Tryz.prog 176=true:=zK
theorem oP:AN Tryz.prog 177=true:=zK
theorem aa:AN Tryz.prog 178=true:=zK
theorem oQ:AN Tryz.prog 179=true:=zK
theorem oR:AN Tryz.prog 180=true:=zK
theorem oS:AN Tryz.prog 186=true:=zK
theorem ku:AN Tryz.prog 19=true:=zK
theorem oT:AN Tryz.prog 195=true:=zK
theorem oU:AN Tryz.prog 196=true:=zK
theorem oV:AN Tryz.prog 197=true:=zK
theorem oW:AN Tryz.prog 198=true:=zK
theorem oX:AN Tryz.prog 199=true:=zK
theorem ab:AN Tryz.prog 20=true:=zK
theorem oY:AN Tryz.prog 200=true:=zK
theorem gt:AN Tryz.prog 201=true:=zK
theorem oZ:AN Tryz.prog 202=true:=zK
theorem gu:AN Tryz.prog 203=true:=zK
theorem oa:AN Tryz.prog 204=true:=zK
theorem ob:AN Tryz.prog 205=true:=zK
theorem Mk:AN Tryz.prog 206=true:=zK
theorem gv:AN Tryz.prog 207=true:=zK
theorem oc:AN Tryz.prog 208=true:=zK
theorem od:AN Tryz.prog 209=true:=zK
theorem kw:AN Tryz.prog 21=true:=zK
theorem oe:AN Tryz.prog 210=true:=zK
theorem og:AN Tryz.prog 211=true:=zK
theorem oh:AN Tryz.prog 212=true:=zK
theorem ol:AN Tryz.prog 213=true:=zK
theorem om:AN Tryz.prog 214=true:=zK
theorem gw:AN Tryz.prog 215=true:=zK
theorem oo:AN Tryz.prog 216=true:=zK
theorem Ml:AN Tryz.prog 217=true:=zK
theorem oq:AN Tryz.prog 218=true:=zK
theorem ot:AN Tryz.prog 219=true:=zK
theorem ew:AN Tryz.prog 22=true:=zK
theorem gz:AN Tryz.prog 220=true:=zK
theorem hC:AN Tryz.prog 221=true:=zK
theorem ou:AN Tryz.prog 222=true:=zK
theorem ae:AN Tryz.prog 223=true:=zK
theorem ov:AN Tryz.prog 224=true:=zK
theorem kx:AN Tryz.prog 23=true:=zK
theorem ow:AN Tryz.prog 232=true:=zK
theorem hE:AN Tryz.prog 233=true:=zK
theorem ox:AN Tryz.prog 234=true:=zK
theorem af:AN Tryz.prog 235=true:=zK
theorem hG:AN Tryz.prog 236=true:=zK
theorem oy:AN Tryz.prog 237=true:=zK
theorem W9:AN Tryz.prog 238=true:=zK
theorem XA:AN Tryz.prog 239=true:=zK
theorem ky:AN Tryz.prog 24=true:=zK
theorem ah:AN Tryz.prog 240=true:=zK
theorem hI:AN Tryz.prog 241=true:=zK
theorem hK:AN Tryz.prog 242=true:=zK
theorem oz:AN Tryz.prog 243=true:=zK
theorem pA:AN Tryz.prog 244=true:=zK
theorem pB:AN Tryz.prog 245=true:=zK
theorem qe:AN Tryz.prog 25=true:=zK
theorem pC:AN Tryz.prog 254=true:=zK
theorem hQ:AN Tryz.prog 255=true:=zK
theorem pD:AN Tryz.prog 256=true:=zK
theorem pE:AN Tryz.prog 257=true:=zK
theorem pF:AN Tryz.prog 258=true:=zK
theorem hU:AN Tryz.prog 259=true:=zK
theorem qf:AN Tryz.prog 26=true:=zK
theorem ai:AN Tryz.prog 260=true:=zK
theorem pG:AN Tryz.prog 261=true:=zK
theorem qg:AN Tryz.prog 27=true:=zK
theorem pH:AN Tryz.prog 271=true:=zK
theorem pI:AN Tryz.prog 272=true:=zK
theorem hY:AN Tryz.prog 273=true:=zK
theorem pJ:AN Tryz.prog 274=true:=zK
theorem hZ:AN Tryz.prog 275=true:=zK
theorem pK:AN Tryz.prog 276=true:=zK
theorem pL:AN Tryz.prog 277=true:=zK
theorem pM:AN Tryz.prog 278=true:=zK
theorem kz:AN Tryz.prog 28=true:=zK
theorem pN:AN Tryz.prog 285=true:=zK
theorem TH:AN Tryz.prog 286=true:=zK
theorem pO:AN Tryz.prog 287=true:=zK
theorem pP:AN Tryz.prog 288=true:=zK
theorem pQ:AN Tryz.prog 289=true:=zK
theorem qh:AN Tryz.prog 29=true:=zK
theorem iA:AN Tryz.prog 290=true:=zK
theorem In:AN Tryz.prog 30=true:=zK
theorem pR:AN Tryz.prog 302=true:=zK
theorem pS:AN Tryz.prog 303=true:=zK
theorem iB:AN Tryz.prog 304=true:=zK
theorem iC:AN Tryz.prog 305=true:=zK
theorem pT:AN Tryz.prog 306=true:=zK
theorem pU:AN Tryz.prog 307=true:=zK
theorem pV:AN Tryz.prog 309=true:=zK
theorem qi:AN Tryz.prog 31=true:=zK
theorem Pm:AN Tryz.prog 310=true:=zK
theorem Nu:AN Tryz.prog 311=true:=zK
theorem pW:AN Tryz.prog 316=true:=zK
theorem pX:AN Tryz.prog 317=true:=zK
theorem aj:AN Tryz.prog 318=true:=zK
theorem pY:AN Tryz.prog 319=true:=zK
theorem UG:AN Tryz.prog 32=true:=zK
theorem Nv:AN Tryz.prog 320=true:=zK
theorem pZ:AN Tryz.prog 321=true:=zK
theorem iD:AN Tryz.prog 322=true:=zK
theorem iE:AN Tryz.prog 323=true:=zK
theorem XB:AN Tryz.prog 325=true:=zK
theorem k0:AN Tryz.prog 33=true:=zK
theorem k4:AN Tryz.prog 34=true:=zK
theorem ez:AN Tryz.prog 35=true:=zK
theorem qj:AN Tryz.prog 37=true:=zK
theorem SU:AN Tryz.prog 39=true:=zK
theorem qk:AN Tryz.prog 40=true:=zK
theorem k5:AN Tryz.prog 41=true:=zK
theorem k6:AN Tryz.prog 42=true:=zK
theorem k7:AN Tryz.prog 43=true:=zK
theorem ql:AN Tryz.prog 44=true:=zK
theorem k8:AN Tryz.prog 45=true:=zK
theorem qm:AN Tryz.prog 46=true:=zK
theorem qo:AN Tryz.prog 47=true:=zK
theorem qp:AN Tryz.prog 48=true:=zK
theorem qq:AN Tryz.prog 49=true:=zK
theorem qr:AN Tryz.prog 50=true:=zK
theorem qs:AN Tryz.prog 51=true:=zK
theorem qt:AN Tryz.prog 52=true:=zK
theorem qu:AN Tryz.prog 53=true:=zK
theorem qv:AN Tryz.prog 54=true:=zK
theorem k9:AN Tryz.prog 56=true:=zK
theorem lA:AN Tryz.prog 58=true:=zK
theorem SV:AN Tryz.prog 59=true:=zK
theorem su:AN Tryz.prog 6=true:=zK
theorem ak:AN Tryz.prog 60=true:=zK
theorem P2:AN Tryz.prog 61=true:=zK
theorem fA:AN Tryz.prog 62=true:=zK
theorem qw:AN Tryz.prog 63=true:=zK
theorem qz:AN Tryz.prog 64=true:=zK
theorem q8:AN Tryz.prog 65=true:=zK
theorem lB:AN Tryz.prog 66=true:=zK
theorem lC:AN Tryz.prog 67=true:=zK
theorem lD:AN Tryz.prog 68=true:=zK
theorem fB:AN Tryz.prog 69=true:=zK
theorem qG:AN Tryz.prog 7=true:=zK
theorem al:AN Tryz.prog 70=true:=zK
theorem lE:AN Tryz.prog 71=true:=zK
theorem q9:AN Tryz.prog 72=true:=zK
theorem rA:AN Tryz.prog 73=true:=zK
theorem rB:AN Tryz.prog 74=true:=zK
theorem rC:AN Tryz.prog 75=true:=zK
theorem fC:AN Tryz.prog 76=true:=zK
theorem Xw:AN Tryz.prog 77=true:=zK
theorem rD:AN Tryz.prog 78=true:=zK
theorem lF:AN Tryz.prog 79=true:=zK
theorem lG:AN Tryz.prog 8=true:=zK
theorem rE:AN Tryz.prog 83=true:=zK
theorem fD:AN Tryz.prog 85=true:=zK
theorem rF:AN Tryz.prog 86=true:=zK
theorem rG:AN Tryz.prog 87=true:=zK
theorem am:AN Tryz.prog 88=true:=zK
theorem lH:AN Tryz.prog 89=true:=zK
theorem lI:AN Tryz.prog 9=true:=zK
theorem rH:AN Tryz.prog 90=true:=zK
theorem rI:AN Tryz.prog 91=true:=zK
theorem rJ:AN Tryz.prog 92=true:=zK
theorem rK:AN Tryz.prog 93=true:=zK
theorem lJ:AN Tryz.prog 94=true:=zK
theorem lK:AN Tryz.prog 95=true:=zK
theorem an:AN Tryz.prog 96=true:=zK
theorem fE:AN Tryz.prog 97=true:=zK
theorem fF:AN Tryz.prog 98=true:=zK
theorem fG:AN Tryz.prog 99=true:=zK
theorem tc:Tryz.prog.cellsOf 5=1:=zK
theorem fN:fO Tryz.prog 164=some [(0,.int .u32),(1,.int .u32),(2,.int .i64)]:=zK
theorem rM:fO Tryz.prog 188=some [(0,.int .u32),(1,.string)]:=zK
theorem qI:fO Tryz.prog 35=some [(0,.int .u64),(1,.int .u32),(2,.int .u32),(3,.string)]:=zK
theorem VC:fo Tryz.prog 100 0=some 0:=zK
theorem VD:fo Tryz.prog 100 1=some 4:=zK
theorem VE:fo Tryz.prog 100 2=some 5:=zK
theorem Lg:fo Tryz.prog 100 4=some 7:=zK
theorem QW:fo Tryz.prog 107 0=some 0:=zK
theorem QX:fo Tryz.prog 107 1=some 1:=zK
theorem dQ:fo Tryz.prog 107 2=some 2:=zK
theorem Lh:fo Tryz.prog 107 3=some 3:=zK
theorem VF:fo Tryz.prog 107 4=some 6:=zK
theorem dR:fo Tryz.prog 107 5=some 7:=zK
theorem FV:fo Tryz.prog 114 0=some 0:=zK
theorem QY:fo Tryz.prog 114 1=some 1:=zK
theorem KU:fo Tryz.prog 122 0=some 0:=zK
theorem lS:fo Tryz.prog 122 1=some 1:=zK
theorem VG:fo Tryz.prog 122 2=some 2:=zK
theorem lT:fo Tryz.prog 122 3=some 3:=zK
theorem VH:fo Tryz.prog 136 0=some 0:=zK
theorem Ib:fo Tryz.prog 136 1=some 1:=zK
theorem PF:fo Tryz.prog 153 0=some 0:=zK
theorem lU:fo Tryz.prog 153 1=some 1:=zK
theorem X9:fo Tryz.prog 153 2=some 2:=zK
theorem lV:fo Tryz.prog 153 3=some 3:=zK
theorem YA:fo Tryz.prog 153 4=some 4:=zK
theorem Sd:fo Tryz.prog 153 5=some 5:=zK
theorem JK:fo Tryz.prog 164 0=some 0:=zK
theorem JL:fo Tryz.prog 164 1=some 1:=zK
theorem GI:fo Tryz.prog 164 2=some 2:=zK
theorem QZ:fo Tryz.prog 167 0=some 0:=zK
theorem Se:fo Tryz.prog 167 1=some 3:=zK
theorem KV:fo Tryz.prog 167 2=some 4:=zK
theorem dS:fo Tryz.prog 181 0=some 0:=zK
theorem lW:fo Tryz.prog 181 1=some 1:=zK
theorem lX:fo Tryz.prog 181 2=some 2:=zK
theorem lY:fo Tryz.prog 181 3=some 3:=zK
theorem YB:fo Tryz.prog 181 4=some 4:=zK
theorem VI:fo Tryz.prog 181 5=some 5:=zK
theorem FW:fo Tryz.prog 188 0=some 0:=zK
theorem NB:fo Tryz.prog 188 1=some 1:=zK
theorem lZ:fo Tryz.prog 190 0=some 0:=zK
theorem KW:fo Tryz.prog 190 1=some 1:=zK
theorem lg:fo Tryz.prog 196 0=some 0:=zK
theorem YC:fo Tryz.prog 196 1=some 1:=zK
theorem Sf:fo Tryz.prog 196 2=some 2:=zK
theorem Li:fo Tryz.prog 200 0=some 0:=zK
theorem VJ:fo Tryz.prog 200 1=some 1:=zK
theorem VK:fo Tryz.prog 200 2=some 2:=zK
theorem Qa:fo Tryz.prog 200 3=some 3:=zK
theorem dT:fo Tryz.prog 212 0=some 0:=zK
theorem lh:fo Tryz.prog 212 1=some 1:=zK
theorem YD:fo Tryz.prog 212 2=some 2:=zK
theorem dU:fo Tryz.prog 212 3=some 3:=zK
theorem YE:fo Tryz.prog 212 4=some 4:=zK
theorem Qc:fo Tryz.prog 238 0=some 0:=zK
theorem JM:fo Tryz.prog 238 1=some 1:=zK
theorem KX:fo Tryz.prog 238 2=some 4:=zK
theorem Ft:fo Tryz.prog 238 3=some 5:=zK
theorem NC:fo Tryz.prog 238 4=some 6:=zK
theorem dV:fo Tryz.prog 263 0=some 0:=zK
theorem VL:fo Tryz.prog 263 1=some 1:=zK
theorem YF:fo Tryz.prog 263 2=some 2:=zK
theorem YG:fo Tryz.prog 263 3=some 3:=zK
theorem Sg:fo Tryz.prog 310 0=some 0:=zK
theorem YH:fo Tryz.prog 335 0=some 0:=zK
theorem Jz:fo Tryz.prog 35 0=some 0:=zK
theorem J0:fo Tryz.prog 35 1=some 1:=zK
theorem J1:fo Tryz.prog 35 2=some 2:=zK
theorem Od:fo Tryz.prog 35 3=some 3:=zK
theorem YI:fo Tryz.prog 368 0=some 0:=zK
theorem Lj:fo Tryz.prog 368 1=some 8:=zK
theorem VM:fo Tryz.prog 368 2=some 9:=zK
theorem Pp:fo Tryz.prog 43 0=some 0:=zK
theorem ay:fo Tryz.prog 43 1=some 1:=zK
theorem Pq:fo Tryz.prog 43 2=some 2:=zK
theorem iM:fo Tryz.prog 50 0=some 0:=zK
theorem iN:fo Tryz.prog 50 1=some 1:=zK
theorem az:fo Tryz.prog 50 2=some 2:=zK
theorem bA:fo Tryz.prog 50 3=some 3:=zK
theorem Pr:fo Tryz.prog 78 0=some 0:=zK
theorem TJ:fo Tryz.prog 78 1=some 1:=zK
theorem Oe:fo Tryz.prog 80 0=some 0:=zK
theorem XE:fo Tryz.prog 80 1=some 2:=zK
theorem iO:fo Tryz.prog 80 2=some 3:=zK
theorem XF:fo Tryz.prog 83 0=some 0:=zK
theorem bB:fo Tryz.prog 83 1=some 1:=zK
theorem bC:fo Tryz.prog 91 0=some 0:=zK
theorem bD:fo Tryz.prog 91 1=some 1:=zK
theorem pb:fo Tryz.prog 91 2=some 2:=zK
theorem Ps:fo Tryz.prog 94 0=some 0:=zK
theorem Of:fo Tryz.prog 94 1=some 3:=zK
theorem TK:fo Tryz.prog 94 2=some 4:=zK
theorem iP:fo Tryz.prog 94 4=some 6:=zK
theorem bE:fo Tryz.prog 94 5=some 7:=zK
theorem iQ:fo Tryz.prog 96 0=some 0:=zK
theorem iR:fo Tryz.prog 96 1=some 1:=zK
theorem bF:fo Tryz.prog 96 2=some 2:=zK
theorem iS:fo Tryz.prog 96 3=some 3:=zK
theorem RD:liesAt Tryz.prog Tryz.prog.depth 136 (2 / Tryz.prog.cellsOf 136) 0 136 1=true:=zK
theorem ll:liesAt Tryz.prog Tryz.prog.depth 310 (2 / Tryz.prog.cellsOf 310) 0 136 1=true:=zK
theorem bN:liesAt Tryz.prog Tryz.prog.depth 335 (2 / Tryz.prog.cellsOf 335) 0 136 1=true:=zK
theorem rS:Lq Tryz.prog 100=true:=zK
theorem rT:Lq Tryz.prog 107=true:=zK
theorem YU:Lq Tryz.prog 114=true:=zK
theorem rU:Lq Tryz.prog 122=true:=zK
theorem rV:Lq Tryz.prog 153=true:=zK
theorem RH:Lq Tryz.prog 164=true:=zK
theorem bQ:Lq Tryz.prog 167=true:=zK
theorem rW:Lq Tryz.prog 181=true:=zK
theorem OO:Lq Tryz.prog 188=true:=zK
theorem mE:Lq Tryz.prog 190=true:=zK
theorem rX:Lq Tryz.prog 196=true:=zK
theorem UT:Lq Tryz.prog 200=true:=zK
theorem rY:Lq Tryz.prog 212=true:=zK
theorem ff:Lq Tryz.prog 238=true:=zK
theorem mF:Lq Tryz.prog 263=true:=zK
theorem bR:Lq Tryz.prog 329=true:=zK
theorem rZ:Lq Tryz.prog 330=true:=zK
theorem Tz:Lq Tryz.prog 35=true:=zK
theorem ra:Lq Tryz.prog 368=true:=zK
theorem rf:Lq Tryz.prog 389=true:=zK
theorem rg:Lq Tryz.prog 406=true:=zK
theorem tA:Lq Tryz.prog 43=true:=zK
theorem tB:Lq Tryz.prog 50=true:=zK
theorem tC:Lq Tryz.prog 76=true:=zK
theorem tD:Lq Tryz.prog 80=true:=zK
theorem YV:Lq Tryz.prog 83=true:=zK
theorem tE:Lq Tryz.prog 91=true:=zK
theorem tF:Lq Tryz.prog 94=true:=zK
theorem rh:Lp Tryz.prog 100=some [(0,4),(4,1),(5,1),(6,1),(7,3)]:=zK
theorem ri:Lp Tryz.prog 107=some [(0,1),(1,1),(2,1),(3,3),(6,1),(7,1)]:=zK
theorem YW:Lp Tryz.prog 114=some [(0,1),(1,1)]:=zK
theorem rj:Lp Tryz.prog 122=some [(0,1),(1,1),(2,1),(3,1),(4,1)]:=zK
theorem rk:Lp Tryz.prog 153=some [(0,1),(1,1),(2,1),(3,1),(4,1),(5,1)]:=zK
theorem RI:Lp Tryz.prog 164=some [(0,1),(1,1),(2,1)]:=zK
theorem bS:Lp Tryz.prog 167=some [(0,3),(3,1),(4,1)]:=zK
theorem rm:Lp Tryz.prog 181=some [(0,1),(1,1),(2,1),(3,1),(4,1),(5,1)]:=zK
theorem OP:Lp Tryz.prog 188=some [(0,1),(1,1)]:=zK
theorem mG:Lp Tryz.prog 190=some [(0,1),(1,2)]:=zK
theorem rn:Lp Tryz.prog 196=some [(0,1),(1,1),(2,1)]:=zK
theorem UU:Lp Tryz.prog 200=some [(0,1),(1,1),(2,1),(3,2)]:=zK
theorem rq:Lp Tryz.prog 212=some [(0,1),(1,1),(2,1),(3,1),(4,1),(5,1)]:=zK
theorem fg:Lp Tryz.prog 238=some [(0,1),(1,3),(4,1),(5,1),(6,2)]:=zK
theorem mH:Lp Tryz.prog 263=some [(0,1),(1,1),(2,1),(3,1)]:=zK
theorem bT:Lp Tryz.prog 329=some [(0,1),(1,1)]:=zK
theorem rr:Lp Tryz.prog 330=some [(0,2),(2,2),(4,2),(6,2)]:=zK
theorem T0:Lp Tryz.prog 35=some [(0,1),(1,1),(2,1),(3,1)]:=zK
theorem rz:Lp Tryz.prog 368=some [(0,8),(8,1),(9,1)]:=zK
theorem r5:Lp Tryz.prog 389=some [(0,1),(1,1),(2,1),(3,1)]:=zK
theorem r6:Lp Tryz.prog 406=some [(0,2),(2,2)]:=zK
theorem tG:Lp Tryz.prog 43=some [(0,1),(1,1),(2,1)]:=zK
theorem tH:Lp Tryz.prog 50=some [(0,1),(1,1),(2,1),(3,1)]:=zK
theorem tI:Lp Tryz.prog 76=some [(0,1),(1,1),(2,1),(3,1)]:=zK
theorem tJ:Lp Tryz.prog 80=some [(0,2),(2,1),(3,1)]:=zK
theorem YX:Lp Tryz.prog 83=some [(0,1),(1,4)]:=zK
theorem tK:Lp Tryz.prog 91=some [(0,1),(1,1),(2,1)]:=zK
theorem tM:Lp Tryz.prog 94=some [(0,3),(3,1),(4,1),(5,1),(6,1),(7,1)]:=zK
theorem WC:JO Tryz.prog 105=true:=zK
theorem QD:JO Tryz.prog 112=true:=zK
theorem Np:JO Tryz.prog 117=true:=zK
theorem f9:JO Tryz.prog 120=true:=zK
theorem r8:JO Tryz.prog 123=true:=zK
theorem gA:JO Tryz.prog 134=true:=zK
theorem UY:JO Tryz.prog 165=true:=zK
theorem mS:JO Tryz.prog 183=true:=zK
theorem bg:JO Tryz.prog 191=true:=zK
theorem r9:JO Tryz.prog 194=true:=zK
theorem LR:JO Tryz.prog 236=true:=zK
theorem ic:JO Tryz.prog 24=true:=zK
theorem NQ:JO Tryz.prog 25=true:=zK
theorem bh:JO Tryz.prog 268=true:=zK
theorem Qe:JO Tryz.prog 29=true:=zK
theorem FI:JO Tryz.prog 3=true:=zK
theorem FX:JO Tryz.prog 32=true:=zK
theorem A6:JO Tryz.prog 33=true:=zK
theorem PR:JO Tryz.prog 362=true:=zK
theorem FY:JO Tryz.prog 37=true:=zK
theorem WD:JO Tryz.prog 4=true:=zK
theorem Pw:JO Tryz.prog 40=true:=zK
theorem tP:JO Tryz.prog 48=true:=zK
theorem Ye:JO Tryz.prog 64=true:=zK
theorem mT:JO Tryz.prog 69=true:=zK
theorem Zk:JO Tryz.prog 74=true:=zK
theorem Qf:JO Tryz.prog 88=true:=zK
theorem tQ:JO Tryz.prog 89=true:=zK
theorem GP:JO Tryz.prog 9=true:=zK
theorem Su:JO Tryz.prog 92=true:=zK
theorem ie:JO Tryz.prog 97=true:=zK
theorem ig:JO Tryz.prog 98=true:=zK
theorem sA:DC Tryz.prog 105=some 1:=zK
theorem gD:DC Tryz.prog 112=some 1:=zK
theorem E4:DC Tryz.prog 114=some 2:=zK
theorem gE:DC Tryz.prog 120=some 1:=zK
theorem sB:DC Tryz.prog 134=some 1:=zK
theorem gF:DC Tryz.prog 136=some 2:=zK
theorem Sw:DC Tryz.prog 164=some 3:=zK
theorem bu:DC Tryz.prog 165=some 1:=zK
theorem Ie:DC Tryz.prog 167=some 5:=zK
theorem sC:DC Tryz.prog 183=some 1:=zK
theorem EZ:DC Tryz.prog 188=some 2:=zK
theorem Ke:DC Tryz.prog 190=some 3:=zK
theorem NG:DC Tryz.prog 200=some 5:=zK
theorem sD:DC Tryz.prog 236=some 1:=zK
theorem sE:DC Tryz.prog 238=some 8:=zK
theorem sF:DC Tryz.prog 263=some 4:=zK
theorem sG:DC Tryz.prog 268=some 1:=zK
theorem d8:DC Tryz.prog 29=some 1:=zK
theorem PU:DC Tryz.prog 3=some 1:=zK
theorem ik:DC Tryz.prog 32=some 1:=zK
theorem bw:DC Tryz.prog 329=some 2:=zK
theorem Bq:DC Tryz.prog 33=some 1:=zK
theorem DZ:DC Tryz.prog 35=some 4:=zK
theorem mZ:DC Tryz.prog 359=some 16:=zK
theorem sH:DC Tryz.prog 368=some 10:=zK
theorem JP:DC Tryz.prog 37=some 1:=zK
theorem WH:DC Tryz.prog 389=some 4:=zK
theorem RQ:DC Tryz.prog 4=some 1:=zK
theorem ma:DC Tryz.prog 40=some 1:=zK
theorem sI:DC Tryz.prog 400=some 64:=zK
theorem sJ:DC Tryz.prog 405=some 2:=zK
theorem tS:DC Tryz.prog 43=some 3:=zK
theorem Ji:DC Tryz.prog 5=some 1:=zK
theorem tT:DC Tryz.prog 50=some 4:=zK
theorem mc:DC Tryz.prog 74=some 1:=zK
theorem Yj:DC Tryz.prog 83=some 5:=zK
theorem md:DC Tryz.prog 88=some 1:=zK
theorem HC:DC Tryz.prog 9=some 1:=zK
theorem tU:DC Tryz.prog 91=some 3:=zK
theorem Sz:Tryz.prog.underlying 105=some (.slice 4):=zK
theorem Ca:Tryz.prog.underlying 112=some (.slice 5):=zK
theorem sK:Tryz.prog.underlying 117=some (.pointer 153):=zK
theorem CR:Tryz.prog.underlying 120=some (.slice 33):=zK
theorem PV:Tryz.prog.underlying 130=some (.int .u64):=zK
theorem Yl:Tryz.prog.underlying 134=some (.pointer 136):=zK
theorem OQ:Tryz.prog.underlying 165=some (.slice 167):=zK
theorem me:Tryz.prog.underlying 176=some (.pointer 5):=zK
theorem mf:Tryz.prog.underlying 183=some (.map 9 188):=zK
theorem tW:Tryz.prog.underlying 2=some (.int .i64):=zK
theorem mg:Tryz.prog.underlying 208=some (.map 33 190):=zK
theorem mh:Tryz.prog.underlying 225=some (.unsafePointer):=zK
theorem qM:Tryz.prog.underlying 23=some (.pointer 80):=zK
theorem I7:Tryz.prog.underlying 236=some (.slice 188):=zK
theorem eD:Tryz.prog.underlying 24=some (.pointer 94):=zK
theorem Wl:Tryz.prog.underlying 25=some (.pointer 100):=zK
theorem OR:Tryz.prog.underlying 260=some (.array 4 37):=zK
theorem WI:Tryz.prog.underlying 268=some (.slice 37):=zK
theorem JQ:Tryz.prog.underlying 3=some (.int .i64):=zK
theorem DL:Tryz.prog.underlying 32=some (.int .u64):=zK
theorem S2:Tryz.prog.underlying 329=some (.array 2 33):=zK
theorem CP:Tryz.prog.underlying 33=some (.int .u32):=zK
theorem cC:Tryz.prog.underlying 330=some (.array 4 329):=zK
theorem QF:Tryz.prog.underlying 359=some (.array 16 33):=zK
theorem sL:Tryz.prog.underlying 362=some (.pointer 368):=zK
theorem mi:Tryz.prog.underlying 365=some (.array 8 33):=zK
theorem PW:Tryz.prog.underlying 366=some (.array 8 33):=zK
theorem C4:Tryz.prog.underlying 37=some (.slice 35):=zK
theorem WJ:Tryz.prog.underlying 388=some (.array 4 3):=zK
theorem QG:Tryz.prog.underlying 389=some (.array 4 33):=zK
theorem Eb:Tryz.prog.underlying 40=some (.slice 9):=zK
theorem RT:Tryz.prog.underlying 400=some (.array 64 33):=zK
theorem cD:Tryz.prog.underlying 405=some (.array 2 3):=zK
theorem sM:Tryz.prog.underlying 406=some (.array 2 405):=zK
theorem DG:Tryz.prog.underlying 5=some (.int .u8):=zK
theorem GV:Tryz.prog.underlying 69=some (.slice 114):=zK
theorem Rh:Tryz.prog.underlying 74=some (.slice 83):=zK
theorem Kf:Tryz.prog.underlying 88=some (.slice 190):=zK
theorem im:Tryz.prog.underlying 89=some (.map 33 33):=zK
theorem Ce:Tryz.prog.underlying 9=some (.string):=zK
theorem io:Tryz.prog.underlying 92=some (.pointer 181):=zK
theorem ip:Tryz.prog.underlying 97=some (.map 33 9):=zK
theorem iq:Tryz.prog.underlying 98=some (.map 33 4):=zK
theorem sQ:EF Tryz.prog 100=some (.agg #[.bool false,.bool false,.int .i64 0,.int .i64 0,zN,.map none,.map none,.int .u64 0,.string ⟨⟨[]⟩⟩,.int .u32 0]):=zK
theorem sR:EF Tryz.prog 107=some (.agg #[zN,zN,zN,.int .u64 0,.string ⟨⟨[]⟩⟩,.int .u32 0,.int .i64 0,.bool false]):=zK
theorem Jk:EF Tryz.prog 114=some (.agg #[.int .u32 0,.string ⟨⟨[]⟩⟩]):=zK
theorem sS:EF Tryz.prog 120=some zN:=zK
theorem sT:EF Tryz.prog 122=some (.agg #[.pointer none,zN,zN,zN,.bool false]):=zK
theorem Ys:EF Tryz.prog 136=some (.agg #[.pointer none,zN]):=zK
theorem sU:EF Tryz.prog 153=some (.agg #[.pointer none,zN,.int .u32 0,.int .u32 0,.int .u64 0,zN]):=zK
theorem MP:EF Tryz.prog 164=some (.agg #[.int .u32 0,.int .u32 0,.int .i64 0]):=zK
theorem Ih:EF Tryz.prog 167=some (.agg #[.int .u32 0,.int .u32 0,.int .i64 0,zN,zN]):=zK
theorem sV:EF Tryz.prog 181=some (.agg #[.pointer none,zN,.int .u32 0,.int .u32 0,.int .u64 0,.map none]):=zK
theorem sW:EF Tryz.prog 183=some (.map none):=zK
theorem FC:EF Tryz.prog 188=some (.agg #[.int .u32 0,.string ⟨⟨[]⟩⟩]):=zK
theorem PX:EF Tryz.prog 190=some (.agg #[.string ⟨⟨[]⟩⟩,.int .u32 0,.string ⟨⟨[]⟩⟩]):=zK
theorem sX:EF Tryz.prog 196=some (.agg #[.nilFunc,zN,.int .i64 0]):=zK
theorem LT:EF Tryz.prog 200=some (.agg #[.int .u64 0,.int .u32 0,.int .u32 0,.int .u32 0,.string ⟨⟨[]⟩⟩]):=zK
theorem sY:EF Tryz.prog 212=some (.agg #[.pointer none,zN,zN,zN,.int .i64 0,zN]):=zK
theorem cL:EF Tryz.prog 238=some (.agg #[.int .i64 0,.int .u32 0,.int .u32 0,.int .i64 0,zN,zN,.int .u32 0,.string ⟨⟨[]⟩⟩]):=zK
theorem sZ:EF Tryz.prog 260=some (.agg #[zN,zN,zN,zN]):=zK
theorem gO:EF Tryz.prog 263=some (.agg #[.int .u32 0,.int .u32 0,.int .u32 0,.int .u64 0]):=zK
theorem qN:EF Tryz.prog 29=some (.int .i64 0):=zK
theorem qC:EF Tryz.prog 3=some (.int .i64 0):=zK
theorem sa:EF Tryz.prog 310=some (.agg #[.pointer none,zN]):=zK
theorem S3:EF Tryz.prog 329=some (.agg #[.int .u32 0,.int .u32 0]):=zK
theorem H4:EF Tryz.prog 33=some (.int .u32 0):=zK
theorem sb:EF Tryz.prog 330=some (.agg #[.int .u32 0,.int .u32 0,.int .u32 0,.int .u32 0,.int .u32 0,.int .u32 0,.int .u32 0,.int .u32 0]):=zK
theorem nC:EF Tryz.prog 335=some (.agg #[.pointer none,zN]):=zK
theorem FL:EF Tryz.prog 35=some (.agg #[.int .u64 0,.int .u32 0,.int .u32 0,.string ⟨⟨[]⟩⟩]):=zK
theorem cM:EF Tryz.prog 359=some (.agg #[.int .u32 0,.int .u32 0,.int .u32 0,.int .u32 0,.int .u32 0,.int .u32 0,.int .u32 0,.int .u32 0,.int .u32 0,.int .u32 0,.int .u32 0,.int .u32 0,.int .u32 0,.int .u32 0,.int .u32 0,.int .u32 0]):=zK
theorem sd:EF Tryz.prog 365=some (.agg #[.int .u32 0,.int .u32 0,.int .u32 0,.int .u32 0,.int .u32 0,.int .u32 0,.int .u32 0,.int .u32 0]):=zK
theorem nD:EF Tryz.prog 368=some (.agg #[.int .u32 0,.int .u32 0,.int .u32 0,.int .u32 0,.int .u32 0,.int .u32 0,.int .u32 0,.int .u32 0,.string ⟨⟨[]⟩⟩,.int .i64 0]):=zK
theorem eL:EF Tryz.prog 37=some zN:=zK
theorem se:EF Tryz.prog 388=some (.agg #[.int .i64 0,.int .i64 0,.int .i64 0,.int .i64 0]):=zK
theorem S4:EF Tryz.prog 389=some (.agg #[.int .u32 0,.int .u32 0,.int .u32 0,.int .u32 0]):=zK
theorem kA:EF Tryz.prog 4=some (.bool false):=zK
theorem nE:EF Tryz.prog 400=some (.agg #[.int .u32 0,.int .u32 0,.int .u32 0,.int .u32 0,.int .u32 0,.int .u32 0,.int .u32 0,.int .u32 0,.int .u32 0,.int .u32 0,.int .u32 0,.int .u32 0,.int .u32 0,.int .u32 0,.int .u32 0,.int .u32 0,.int .u32 0,.int .u32 0,.int .u32 0,.int .u32 0,.int .u32 0,.int .u32 0,.int .u32 0,.int .u32 0,.int .u32 0,.int .u32 0,.int .u32 0,.int .u32 0,.int .u32 0,.int .u32 0,.int .u32 0,.int .u32 0,.int .u32 0,.int .u32 0,.int .u32 0,.int .u32 0,.int .u32 0,.int .u32 0,.int .u32 0,.int .u32 0,.int .u32 0,.int .u32 0,.int .u32 0,.int .u32 0,.int .u32 0,.int .u32 0,.int .u32 0,.int .u32 0,.int .u32 0,.int .u32 0,.int .u32 0,.int .u32 0,.int .u32 0,.int .u32 0,.int .u32 0,.int .u32 0,.int .u32 0,.int .u32 0,.int .u32 0,.int .u32 0,.int .u32 0,.int .u32 0,.int .u32 0,.int .u32 0]):=zK
theorem gP:EF Tryz.prog 405=some (.agg #[.int .i64 0,.int .i64 0]):=zK
theorem sf:EF Tryz.prog 406=some (.agg #[.int .i64 0,.int .i64 0,.int .i64 0,.int .i64 0]):=zK
theorem qO:EF Tryz.prog 43=some (.agg #[.int .u64 0,.string ⟨⟨[]⟩⟩,.int .u32 0]):=zK
theorem Kh:EF Tryz.prog 5=some (.int .u8 0):=zK
theorem qP:EF Tryz.prog 50=some (.agg #[.int .u32 0,.int .u32 0,.int .u32 0,.int .u32 0]):=zK
theorem tX:EF Tryz.prog 76=some (.agg #[.pointer none,zN,.bool false,.bool false]):=zK
theorem tY:EF Tryz.prog 80=some (.agg #[zN,.bool false,.pointer none,.bool false]):=zK
theorem Ri:EF Tryz.prog 83=some (.agg #[.int .i64 0,.int .u64 0,.int .u32 0,.int .u32 0,.string ⟨⟨[]⟩⟩]):=zK
theorem TZ:EF Tryz.prog 9=some (.string ⟨⟨[]⟩⟩):=zK
theorem tZ:EF Tryz.prog 91=some (.agg #[zN,zN,.map none]):=zK
theorem ta:EF Tryz.prog 94=some (.agg #[zN,zN,.map none,.pointer none,.pointer none,zN,.int .u32 0,.bool false]):=zK
end

section
variable {K:Nat→Prop}{w0:World}{H:List AZ}
def lN(p:UInt32×Bool):List Value:=[Z p.1,vB p.2]
theorem TV(v:Value):zC K w0 87 [v] [] H (fun r M=>∃b,r=.func (.func 124) #[] #[vP b 0]∧M=[AK b (.cells v.cells 69)]):=by
 refine T6.enter Tryz.func87 rfl rfl ?_
 refine Y ?_
 refine Ba E E zU fun b0=>?_
 refine U E (V (Y ?_))
 refine G3 (fv:=#[]) (cv:=#[_]) E E E ?_
 refine U E (V (AL ?_))
 exact Al (Cn E E) (Ak (M:=[_]) ⟨b0,E,E⟩ fun _ h=>h)
theorem TX(v:Value)(ks:List BV)(b:Nat)(hk:CG K w0 AY 2 v ks)(hv:v.cells=#[v])(hn:ks.length≤1099511627776):kY Tryz.prog K w0 124 [vP b 0] [AK b (.cells v.cells 69)] lN (LQ ks):=by
 intro lp J9 X T hy G h0
 rw[hv]
 refine T6.enter Tryz.func124 rfl rfl ?_
 refine Y (U E (V (Y (AG 0 mT E (CF hk E GV E (J E (V (AQ ?_))))))))
 refine SX.mono (BU (α:=Nat×List AZ) (fun x=>x.1≤ks.length∧J9 ((LQ ks).take x.1) x.2) (fun x=>[(0,vY lp),(3,Z (Kc ks x.1)),(6,v),(7,vI ks.length),(8,vI x.1)]) (fun x=>AK b (.cells #[v] 69)::(x.2++T)) (fun x=>ks.length-x.1) (fun x D hp=>?_) (0,G) ⟨Nat.zero_le _,h0⟩) tL
 obtain⟨i,G⟩:=x
 obtain⟨hi,hJ⟩:=hp
 simp only at hi hJ
 refine Y (AA E BD (V (AH ?_)))
 refine A0 E (fun hc=>?_) (fun hc=>?_)
 have hlt:i<ks.length:=by simpa using hc
 obtain⟨key,hkey⟩:=PG hlt
 have hg:=UN ks i hlt
 rw[KY hkey]at hg
 refine AJ (AI (AH (AQ (Y ?_))))
 refine Qk i key hk E GV E4 E E E hkey fun be off hcell=>?_
 refine Aw (AY key) E LJ E E (Vs (hcell _)) ?_
 refine Ar E Jk zU fun b0=>?_
 refine A7 0 E E E E E4 E E E zT (V (AH (Y (J E (AF E FV (AG 0 A6 E (AF E FV (AG 0 A6 E (J E ?_)))))))))
 refine AA E (S5 (b:=Kc ks i)) ?_
 refine J E ?_
 refine Cb (c:=decide ((key.secret.length:Int)=32)) 19 5 24 E (fun hb k=>?_) (fun hb k=>?_) ?_
 refine AF E QY (AG 0 GP E (Bz E Ce E (AA E BS (Ag E E E ?_))))
 exact k.mono tL
 refine AB E (AB E (AB E (AB E (Ag E E E ?_))))
 exact k.mono tL
 refine HQ (M2:=[_,_]) (G:=G) (T:=T) (vs:=[_,_]) (ok:=fun G1=>J9 ((LQ ks).take (i+1)) G1) (no:=X) E E ⟨E,E,zT⟩ E ?_ (fun bb G1 hG1=>⟨zT,?_⟩)
 intro M
 have:=hy _ _ _ (E1 hg).1 G hJ M
 rw[←(E1 hg).2]at this
 have e:ON ks i=(decide (Kc ks i<key.gen)&&decide ((key.secret.length:Int)=32)):=by unfold ON;rw[KY hkey]
 rw[e]at this
 exact this
 refine CW E E (V ?_)
 refine A0 E (fun hc=>?_) (fun hc=>?_)
 obtain rfl:bb=false:=by simpa using hc
 refine AL (Ac (BC (Ac (Ea (BC ?_)))))
 exact Al (Dh E) (Ak (M:=G1) (.inr hG1) fun _ h=>h.skip [_,_])
 obtain rfl:bb=true:=by simpa using hc
 refine AJ (AI (AS (AF E FV (AG 0 A6 E (U E (Aa (Ay (AI (AS (AA E (Bj zO zO) (J E (Aa ?_))))))))))))
 refine A1 (i+1,G1) ⟨hlt,hG1⟩ (by simp only;omega) ⟨E,by rw[Kc,KY hkey];rfl,E,E,E,zT⟩ (fun w h=>h.skip [_])
 refine A4 (A9 (Bi (BA ?_)))
 have hle:i=ks.length:=by simp at hc;omega
 exact C9 (Dh E) (Ak (M:=G) (.inl (by rw[List.take_of_length_le (by rw[P8];omega)]at hJ;exact hJ)) fun _ h=>h.skip [_])
theorem P1(v:Value)(ks:List BV)(hk:CG K w0 AY 2 v ks)(hv:v.cells=#[v])(hn:ks.length≤1099511627776):zC K w0 62 [v] [] H (fun r M=>r=vB (DV ks)∧M=[]):=by
 refine T6.enter Tryz.func62 rfl rfl ?_
 refine Y (U E (V (Km (Y (J E (CF hk E GV E (AA E I8 ?_)))))))
 refine Ar E kA zU fun b0=>?_
 refine A7 0 E E E E RQ E E E zT (V (AH (Kl (AI (AH (Y (J E (BY 0 rG (TV v) E ?_))))))))
 rintro _ _ ⟨b1,rfl,rfl⟩
 refine V (AQ ?_)
 refine TC (enc:=lN) (LQ ks) (fun pre G=>pre.all (·.2)=true∧G=AK b0 (.cells #[vB (decide ((ks.length:Int)≤16))] 4)::H) (fun c G=>c=.exit 0∧(LQ ks).all (·.2)=false∧G=AK b0 (.cells #[vB false] 4)::H) E nn E zV (TX v ks b1 hk hv hn) E ⟨E,E⟩ (fun pre x suf G hxs hJ r lp Rest=>?_) (fun G D hJ=>?_) (fun c G D hX=>?_)
 obtain⟨hpre,rfl⟩:=hJ
 refine AS (U E (Aa (Kk (AQ (Y (J E (CW E E (V ?_))))))))
 refine A0 E (fun hc=>?_) (fun hc=>?_)
 refine Y (A7 0 E E E E RQ E E E zT (V (A4 (HR ?_))))
 exact N1 ⟨E,by rw[hxs];simp at hc;simp[hc],E⟩ (fun _ h=>h)
 refine AJ (Ay ?_)
 exact IA ⟨by simp at hc;simp[hpre,hc],E⟩ (fun _ h=>h)
 obtain⟨hall,rfl⟩:=hJ
 refine Ay (AI (Y (AG 0 WD E (U E (V (AL (EO ?_)))))))
 exact Al (Cn E E) (Ak (M:=[]) ⟨by simp only[DV,hall];simp;try omega,E⟩ fun _ h=>h.skip [_])
 obtain⟨rfl,hall,rfl⟩:=hX
 refine A4 (BA (AI (Y (AG 0 WD E (U E (V (AL (EO ?_))))))))
 exact Al (Cn E E) (Ak (M:=[]) ⟨by simp only[DV,hall];simp;try omega,E⟩ fun _ h=>h.skip [_])
end

section
variable {K:Nat→Prop}{w0:World}{H:List AZ}
theorem Wq(k:BV)(g:UInt32)(b:Nat):zC K w0 154 [.agg (AY k).toArray,vP b 0] [AK b (.cells #[Z g] 33)] H (fun r M=>r=vB (decide (g≤k.gen))∧M=[AK b (.cells #[Z g] 33)]):=by
 refine T6.enter Tryz.func154 rfl rfl ?_
 refine Y ?_
 refine Ba E E zU fun b0=>?_
 refine U E (V (Y (AF E FV (AG 0 A6 E (AG 1 A6 E (AA E HJ (U E (V (AL ?_)))))))))
 exact Al (Cn E E) (Ak (M:=[_]) ⟨E,E⟩ fun _ h=>h.skip [_])
theorem Vm(v:Value)(ks:List BV)(g:FuncId)(cap:List Value)(B:List AZ)(φ:BV→Bool)(hk:CG K w0 AY 2 v ks)(hn:ks.length≤1099511627776)(hcal:AN Tryz.prog g=true)
(hf:∀(H:List AZ) (k:BV),zC K w0 g (.agg (AY k).toArray::cap) B H (fun r M=>r=vB (φ k)∧M=B)):
  zC K w0 153 [v,.func (.func g) #[] cap.toArray] B H (fun r M=>r=vI (if ks.findIdx φ<ks.length then(ks.findIdx φ:Int)else -1)∧M=B):=by
 refine T6.enter Tryz.func153 rfl rfl ?_
 refine Y (U E (V (AH (Y (J E (CF hk E GV E (J E (V (AQ ?_)))))))))
 refine SX.mono (BU (α:=Nat) (fun i=>i≤ks.length∧∀j y,j<i→ks[j]? = some y→φ y=false) (fun i=>[(0,v),(1,.func (.func g) #[] cap.toArray),(7,vI ks.length),(8,vI i)]) (fun i=>B++H) (fun i=>ks.length-i) (fun i D hp=>?_) 0 ⟨Nat.zero_le _,fun j y hj=>absurd hj (Nat.not_lt_zero _)⟩) tL
 obtain⟨hi,hb⟩:=hp
 refine Y (AA E BD (V (AH ?_)))
 refine A0 E (fun hc=>?_) (fun hc=>?_)
 have hlt:i<ks.length:=by simpa using hc
 obtain⟨key,hkey⟩:=PG hlt
 refine AJ (AI (AH (AQ (Y (J E (U E (V (Y (J E (J E (J E ?_)))))))))))
 refine Qk i key hk E GV E4 E E E hkey fun be off hcell=>?_
 refine Aw (AY key) E LJ E E (Vs (hcell _)) ?_
 refine Bo (vs:=[_]) (Hin:=B) E E ⟨E,zT⟩ hcal E E (hf _ key) ?_
 rintro _ M ⟨rfl,hM⟩
 rw[hM]
 refine⟨trivial,?_⟩
 refine V ?_
 refine A0 E (fun hc2=>?_) (fun hc2=>?_)
 refine Y (J E (U E (V (AL (BC (Ac (Ea (BC (Ac ?_)))))))))
 exact Al (Cn E E) (Ak (M:=B) ⟨by rw[WX hkey hc2 hb];simp[hlt],E⟩ fun _ h=>h)
 refine AJ (Ay (AI (AS (AA E (Bj zO zO) (J E (Aa ?_))))))
 refine A1 (i+1) ⟨hlt,fun j y hj hy=>?_⟩ zO ⟨E,E,E,E,zT⟩
 rcases Nat.lt_or_ge j i with h | h
 exact hb j y h hy
 obtain rfl:j=i:=zO
 rw[hkey]at hy
 cases hy
 exact hc2
 refine A4 (A9 (Bi (BA (AI (Y (U E (V (AL ?_))))))))
 have hle:i=ks.length:=by simp at hc;omega
 exact Al (Cn rfl rfl) (Ak (M:=B) ⟨by rw[dK (fun j y hy=>hb j y (by obtain⟨h,_⟩:=List.getElem?_eq_some_iff.1 hy;omega) hy)];simp,rfl⟩ fun _ h=>h)
theorem Yy(v:Value)(ks:List BV)(g:UInt32)(hk:CG K w0 AY 2 v ks)(hn:ks.length≤1099511627776):zC K w0 125 [v,Z g] [] H (fun r M=>r=.tuple #[vI (L8 g ks),vB (RR g ks)]∧M=[]):=by
 refine T6.enter Tryz.func125 rfl rfl ?_
 refine Y ?_
 refine Ba E E zU fun b0=>?_
 refine U E (U E (V (Y (J E ?_))))
 refine G3 (fv:=#[]) (cv:=#[_]) E E E ?_
 refine AM 1 n7 (Vm v ks 154 [vP b0 0] [_] (fun k=>decide (g≤k.gen)) hk hn n8 (fun H k=>Wq k g b0)) E ?_
 change SL _ _ _ _ _ _ _ _ _ _ ((9,vI (if L8 g ks<ks.length then(L8 g ks:Int)else -1))::_) _
 generalize hpl:L8 g ks=pl
 refine U E (V (AH (Y (J E (AA E BD (V ?_))))))
 refine A0 E (fun hc=>?_) (fun hc=>?_)
 refine Y ?_
 have hnl:¬pl<ks.length:=by intro h;simp[h]at hc;omega
 have hpe:pl=ks.length:=by have:=fh g ks;omega
 refine J E (CF hk E GV E (U E (U E (V (AL (Ac ?_))))))
 exact Al (ET E E E) (Ak (M:=[]) ⟨by simp[RR,hpl,hpe],E⟩ fun _ h=>h.skip [_])
 have hlt:pl<ks.length:=by
  rcases Nat.lt_or_ge pl ks.length with h | h
  exact h
  simp[Nat.not_lt.2 h]at hc
 rw[if_pos hlt]
 obtain⟨key,hkey⟩:=PG hlt
 refine AJ (AI (AH (A2 DE [0] (C3 [(true,0),(true,1),(true,2),(true,3),(true,4),(true,5),(true,6),(true,7),(true,8),(true,9)]) zK (J E (J E (J E ?_))))))
 refine Qk pl key hk E GV E4 E E E hkey fun be off hcell=>?_
 refine AF E FV ?_
 refine B0 E A6 E (fun w hw=>hcell _ w hw 0 _ E) ?_
 refine AG 0 A6 E (AA E NR (U E (U E (V (AL ?_)))))
 exact Al (ET E E E) (Ak (M:=[]) ⟨by simp[RR,hpl,hkey],E⟩ fun _ h=>h.skip [_])
theorem Ut(v:Value)(ks:List BV)(g:UInt32)(hk:CG K w0 AY 2 v ks)(hv:v.cells=#[v])(hn:ks.length≤1099511627776):zC K w0 89 [v,Z g] [] H (fun r M=>r=.tuple #[.agg (AY (DR ks g).1).toArray,vI (DR ks g).2]∧M=[]):=by
 refine T6.enter Tryz.func89 rfl rfl ?_
 refine Y ?_
 refine Ar E Jk zU fun b0=>?_
 refine U E (V (AH (Y (J E (AM 0 fA (P1 v ks hk hv hn) E (CW E E (V ?_)))))))
 refine A0 E (fun hc=>?_) (fun hc=>?_)
 have hf:DR ks g=(GU,40):=by unfold DR;rw[if_pos (by simpa using hc)]
 rw[hf]
 refine Y (Bt [] E YW YU Jk zT E (A7 0 E E E E E4 E E E zT (U E (V (AL (Ac ?_))))))
 exact Al (Dz E (CC 0 (AY GU) LJ E E E E) E) (Ak (M:=[]) ⟨E,E⟩ fun _ h=>h.skip [_])
 have hr:DV ks=true:=by simpa using hc
 refine AJ (AI (Y (J E (J E (AM 0 np (Yy v ks g hk hn) E (J E (Af E E E (Af E E E (U E (U E (V (AH (Y ?_)))))))))))))
 refine J E (CW E E (V ?_))
 refine A0 E (fun hc=>?_) (fun hc=>?_)
 have hf:DR ks g=(GU,41):=by
  have:RR g ks=false:=by simpa using hc
  unfold RR at this
  unfold DR
  rw[hr]
  cases h:ks[L8 g ks]? with
  | none=>simp
  | some k=>rw[h]at this;simp at this;simp[this]
 rw[hf]
 refine Y (Bt [] E YW YU Jk zT E (A7 0 E E E E E4 E E E zT (U E (V (AL (Ac ?_))))))
 exact Al (Dz E (CC 0 (AY GU) LJ E E E E) E) (Ak (M:=[]) ⟨E,E⟩ fun _ h=>h.skip [_])
 have hth:RR g ks=true:=by simpa using hc
 obtain⟨key,hkey,hg⟩:∃key,ks[L8 g ks]? = some key∧key.gen=g:=by
  unfold RR at hth
  cases h:ks[L8 g ks]? with
  | none=>rw[h]at hth;cases hth
  | some k=>rw[h]at hth;exact⟨k,rfl,by simpa using hth⟩
 have hf:DR ks g=(key,0):=by
  unfold DR
  rw[hr]
  simp[hkey,hg]
 rw[hf]
 refine AJ (AI (Y (J E (J E ?_))))
 refine Qk (L8 g ks) key hk E GV E4 E E E hkey fun be off hcell=>?_
 refine Aw (AY key) E LJ E E (Vs (hcell _)) (A7 0 E E E E E4 E E E zT (U E (V (AL ?_))))
 exact Al (Dz E (CC 0 (AY key) LJ E E E E) E) (Ak (M:=[]) ⟨E,E⟩ fun _ h=>h.skip [_])
end

section
variable {K:Nat→Prop}{w0:World}{H:List AZ}
theorem c9(b:List UInt8)(hb:b.length≤9223372036854775807):zC K w0 160 [vS b] [] H (fun v M=>v=vS (b.drop (b.length-32))∧M=[]):=by
 refine T6.enter Tryz.func160 rfl rfl ?_
 refine AH (AS (U E (Aa (AI (AH (AS (J E (J E (Bz E Ce E (AA E (D0 zO zO) (cd E E E (Ot (b.length-32) E Ce E E zO zO (U E (Aa (AI (AL ?_))))))))))))))))
 exact Al (Cn E E) (Ak (M:=[]) ⟨E,E⟩ fun _ h=>h.skip [])
def Va(x:UInt32)(k:Int):UInt32:=shl32 x (Cq k &&& 31).toNat ||| shr32 x (32-(Cq k &&& 31)).toNat
theorem HD(x:UInt32)(k:Int):zC K w0 318 [Z x,vI k] [] H (fun v M=>v=Z (Va x k)∧M=[]):=by
 refine T6.enter Tryz.func318 rfl rfl ?_
 refine AH (AS (U E (Aa (AI (AH (AS (J E (BM E E (Et JQ PV) ?_))))))))
 refine AA E (Or (b:=31)) ?_
 refine U E (Aa (AI (AH (AS (J E (J E (AA E FQ.shl32 (J E (J E ?_)))))))))
 refine AA E (T5 (a:=32)) ?_
 refine AA E FQ.shr32 (AA E Es (U E (Aa (AI (AL ?_)))))
 exact Al (Cn E E) (Ak (M:=[]) ⟨E,E⟩ fun _ h=>h.skip [])
end

section
variable {K:Nat→Prop}{w0:World}{H:List AZ}
theorem jx:∀n:Fin 32,0<n.1→(Cq (-(n.1:Int)) &&& 31).toNat=32-n.1∧(32-(Cq (-(n.1:Int)) &&& 31)).toNat=n.1:=by decide
theorem jm(x:UInt32)(n:Nat)(h0:0<n)(h1:n<32):Va x (-(n:Int))=J3 x n:=by
 obtain⟨e1,e2⟩:=jx ⟨n,h1⟩ h0
 simp only at e1 e2
 unfold Va J3
 rw[e1,e2,UInt32.or_comm]
theorem GR(x:UInt32)(n:Nat)(h0:0<n)(h1:n<32):zC K w0 320 [Z x,vI n] [] H (fun r M=>r=Z (J3 x n)∧M=[]):=by
 refine T6.enter Tryz.func320 rfl rfl ?_
 refine Y (U E (V (Y (J E (J E (kL E E zO zO (AM 0 aj (HD x (-(n:Int))) E (U E (V (AL ?_))))))))))
 exact Al (Cn E E) (Ak (M:=[]) ⟨by rw[jm x n h0 h1],E⟩ fun _ h=>h.skip [])
theorem Y4(s:List UInt8)(hs:s.length=64):zC K w0 319 [vS s] [] H (fun r M=>r=.agg (DM Z (Dx s))∧M=[]):=by
 refine T6.enter Tryz.func319 rfl rfl ?_
 refine Y ?_
 refine Ar E nE zU fun b0=>?_
 refine V (Y ?_)
 refine Ar E nE zU fun b1=>?_
 refine V (AH (Y (J E (V (AQ ?_)))))
 refine SX.mono (BU (α:=Nat) (fun i=>i≤64) (fun i=>[(0,vS s),(2,vP b0 0),(3,vP b1 0),(8,vI i)]) (fun i=>AK b1 (.cells (DM Z (E0 s i++List.replicate (64-i) 0)) 400)::AK b0 (.cells (DM Z (List.replicate 64 0)) 400)::H) (fun i=>64-i) (fun i D hp=>?_) 0 zO) tL
 have hlen:=MA s i
 refine Y (AA E BD (V (AH ?_)))
 refine A0 E (fun hc1=>?_) (fun hc1=>?_)
 have hi:i<64:=by simp at hc1;omega
 refine AJ (AI (AH (AQ (Y (J E (U E (V (AH (Y (J E (AA E BD (V ?_))))))))))))
 refine A0 E (fun hc2=>?_) (fun hc2=>?_)
 have h16:i<16:=by simp at hc2;omega
 refine Y (J E (AA E (Ol zO zO) (U E (V (AH (A2 DE [] (CK [(true,0),(true,1),(true,2),(true,3),(true,4),(true,5),(true,6),(true,7),(true,8),(true,9),(true,10),(true,11),(true,12),(true,13),(true,14),(true,15),(true,16),(true,17),(true,18),(true,19),(true,20),(true,21),(true,22),(true,23),(true,24),(true,25),(true,26)] (.last 27 .nil)) zK (J E (J E (J E (Kj (4*i) E Ce E E zO zO ?_))))))))))
 refine BM E E (FE DG CP) ?_
 refine AA E (FQ.shl32 (n:=24)) ?_
 refine J E (J E (AA E (Bj zO zO) (Kj ((4*i)+1) E Ce E E zO zO (BM E E (FE DG CP) ?_))))
 refine AA E (FQ.shl32 (n:=16)) ?_
 refine AA E Es (J E (J E (AA E (Bj zO zO) (Kj ((4*i)+2) E Ce E E zO zO (BM E E (FE DG CP) ?_)))))
 refine AA E (FQ.shl32 (n:=8)) ?_
 refine AA E Es (J E (J E (AA E (Bj zO zO) (Kj ((4*i)+3) E Ce E E zO zO (BM E E (FE DG CP) (AA E Es ?_))))))
 refine Cy (n:=i) E RT Bq E E zO zO ?_
 refine Bk ?_
 refine Ul (f:=Z) 0 E E E E Bq E E zQ zT ?_
 rw[TI _ _ _ 64 i hlen hi]
 refine V (A4 (A9 (BA (AI (AS (AA E (Bj zO zO) (J E (Aa ?_))))))))
 refine A1 (i+1) zO zO ⟨E,E,E,E,zT⟩ (fun w h=>by
  have e:RE s (E0 s i)=iy s (4*i):=by unfold RE;rw[hlen,if_pos h16]
  rw[E0,e]
  exact h)
 have h16:16≤i:=by simp at hc2;omega
 refine AJ (AI (AH (A2 DE [0] (C3 [(true,0),(true,1),(true,2),(true,3),(true,4),(true,5),(true,6),(true,7),(true,8),(true,9)]) zK (J E (AA E (D0 zO zO) ?_)))))
 refine Cy (n:=(i-15)) E RT Bq E E zO zO ?_
 refine B0 E A6 E (Cp 0 E (Uq 0 zO)) (J E (AA E (D0 zO zO) ?_))
 refine Cy (n:=(i-2)) E RT Bq E E zO zO ?_
 refine B0 E A6 E (Cp 0 E (Uq 0 zO)) (U E (U E (V (A2 DE [0] (CK [(true,0),(true,1),(true,2),(true,3),(true,4),(true,5),(true,6),(true,7),(true,8),(true,9),(true,10),(true,12),(true,15),(true,16),(true,19),(true,21),(true,24),(true,25),(false,11),(false,13),(true,14),(true,17),(true,18),(false,20),(false,22),(true,23),(true,26),(true,27),(true,28)] (.last 29 .nil)) zK (J E (J E (AA E (D0 zO zO) ?_)))))))
 refine Cy (n:=(i-16)) E RT Bq E E zO zO ?_
 refine B0 E A6 E (Cp 0 E (Uq 0 zO)) (J E (AA E (D0 zO zO) ?_))
 refine Cy (n:=(i-7)) E RT Bq E E zO zO ?_
 refine B0 E A6 E (Cp 0 E (Uq 0 zO)) (AA E B4 (J E (J E (J E ?_))))
 refine AA E (FQ.shr32 (n:=3)) ?_
 refine J E (J E (J E ?_))
 refine AA E (FQ.shr32 (n:=10)) ?_
 refine Bf 0 Nv (GR _ 7 zO zO) E ⟨⟨0,E⟩,zT⟩ (Bf 0 Nv (GR _ 18 zO zO) E ⟨⟨0,E⟩,zT⟩ (AA E Cf (AA E Cf (AA E B4 (Bf 0 Nv (GR _ 17 zO zO) E ⟨⟨0,E⟩,zT⟩ (Bf 0 Nv (GR _ 19 zO zO) E ⟨⟨0,E⟩,zT⟩ (AA E Cf ?_)))))))
 refine AA E Cf (AA E B4 ?_)
 refine Cy (n:=i) E RT Bq E E zO zO ?_
 refine Bk ?_
 refine Ul (f:=Z) 0 E E E E Bq E E zQ zT ?_
 rw[TI _ _ _ 64 i hlen hi]
 refine Aa (Ay (AI (AS (AA E (Bj zO zO) (J E (Aa ?_))))))
 refine A1 (i+1) zO zO ⟨E,E,E,E,zT⟩ (fun w h=>by
  have e:RE s (E0 s i)=(E0 s i).getD (i-16) 0+(E0 s i).getD (i-7) 0+mW ((E0 s i).getD (i-15) 0)+mX ((E0 s i).getD (i-2) 0):=by unfold RE;rw[hlen,if_neg zO]
  rw[E0,e]
  exact h)
 have hi:i=64:=by simp at hc1;omega
 subst hi
 refine A4 (A9 (Bi (BA (AI (Y ?_)))))
 refine Aw ((Dx s).map Z) E kb (by simp[Dx,hlen]) E (Ck 0 E (fun j u hu=>by simpa[DM,Dx]using hu)) ?_
 refine OW 1 E E E E sI (by simp[Dx,hlen]) (by simp[DM]) (N2 zV (Dx s)) zT ?_
 refine V (AL ?_)
 exact Al (Id E (CC 1 ((Dx s).map Z) kb (by simp[Dx,hlen]) E E (by simp only[List.drop_zero];exact List.take_of_length_le (by simp[Dx,hlen])))) (Ak (M:=[]) ⟨E,E⟩ fun _ h=>h.skip [_,_])
end

section
variable {K:Nat→Prop}{w0:World}{H:List AZ}
theorem aS(T h:List UInt32)(tl:List Value)(s:List UInt8)(b:Nat)(e:TypeId)(hT:TQ K w0 3 T)(hTl:T.length=64)(hh:h.length=8)(hs:s.length=64):zC K w0 305 [vP b 0,vS s] [AK b (.cells (NN Z h tl) e)] H (fun r M=>r=.tuple #[]∧M=[AK b (.cells (NN Z (RB T h s) tl) e)]):=by
 refine T6.enter Tryz.func305 rfl rfl ?_
 refine AH (A2 DE [0] (C3 [(true,0),(true,1),(true,2),(true,3),(true,4),(true,5),(true,6),(true,7),(true,8),(true,9),(true,10),(true,11),(true,12),(true,13),(true,14),(true,15),(true,16),(true,17),(true,18),(true,19),(true,20),(true,21),(true,22),(true,23),(true,24),(true,25),(true,26),(true,27),(true,28),(true,29),(true,30),(true,31),(true,32),(true,33),(true,34),(true,35),(true,36),(true,37),(true,38),(true,39)]) zK (J E (AU E E ?_)))
 refine Cy (n:=0) E PW Bq E E zO zO ?_
 refine B0 E A6 E (Cp 0 E (JR 0 zO)) (J E (AU E E ?_))
 refine Cy (n:=1) E PW Bq E E zO zO ?_
 refine B0 E A6 E (Cp 0 E (JR 0 zO)) (J E (AU E E ?_))
 refine Cy (n:=2) E PW Bq E E zO zO ?_
 refine B0 E A6 E (Cp 0 E (JR 0 zO)) (J E (AU E E ?_))
 refine Cy (n:=3) E PW Bq E E zO zO ?_
 refine B0 E A6 E (Cp 0 E (JR 0 zO)) (J E (AU E E ?_))
 refine Cy (n:=4) E PW Bq E E zO zO ?_
 refine B0 E A6 E (Cp 0 E (JR 0 zO)) (J E (AU E E ?_))
 refine Cy (n:=5) E PW Bq E E zO zO ?_
 refine B0 E A6 E (Cp 0 E (JR 0 zO)) (J E (AU E E ?_))
 refine Cy (n:=6) E PW Bq E E zO zO ?_
 refine B0 E A6 E (Cp 0 E (JR 0 zO)) (J E (AU E E ?_))
 refine Cy (n:=7) E PW Bq E E zO zO ?_
 refine B0 E A6 E (Cp 0 E (JR 0 zO)) (U E (U E (U E (U E (U E (U E (U E ?_)))))))
 refine U E (V (AH (Y (J E (AM 0 pY (Y4 s hs) E (J E (V (AQ ?_))))))))
 refine SX.mono (BU (α:=Nat) (fun i=>i≤64) (fun i=>[(0,vP b 0),(4,Z (GJ T (Dx s) h i).a),(5,Z (GJ T (Dx s) h i).b),(6,Z (GJ T (Dx s) h i).c),(7,Z (GJ T (Dx s) h i).d),(8,Z (GJ T (Dx s) h i).e),(9,Z (GJ T (Dx s) h i).f),(10,Z (GJ T (Dx s) h i).g),(11,Z (GJ T (Dx s) h i).i),(51,.agg (DM Z (Dx s))),(52,vI i)]) (fun i=>AK b (.cells (NN Z h tl) e)::H) (fun i=>64-i) (fun i D hp=>?_) 0 zO) tL
 refine Y (AA E BD (V (AH ?_)))
 refine A0 E (fun hc1=>?_) (fun hc1=>?_)
 have hi:i<64:=by simp at hc1;omega
 have hw:(Dx s)[i]? = some ((Dx s).getD i 0):=by
  rw[List.getD_eq_getElem?_getD,List.getElem?_eq_getElem (by rw[Dx,MA];exact hi)]
  rfl
 refine AJ (AI (AH (AQ (Y (J E ?_)))))
 refine Pd (i:=i) E RT A6 E E zO zO (Eu hw) ?_
 refine U E (U E (V (AH (A2 DE [] (C3 [(true,0),(true,1),(true,3),(true,6),(true,10),(true,11),(true,12),(true,13),(true,14),(true,15),(true,16),(true,17),(true,19),(true,20),(true,21),(true,23),(false,2),(false,4),(true,5),(false,7),(true,8),(true,9),(true,18),(true,22),(true,24),(true,25)]) zK (J E (J E (J E (J E (J E ?_)))))))))
 refine J E (AA E Gd (J E (ZI E E (J E (AA E Gd (AA E Cf (J E ?_)))))))
 refine Cy (b:=3) (n:=i) E RT Bq E E zO zO ?_
 refine B0 E A6 E (hT.load zO) (J E (AM 0 Nv (GR _ 6 zO zO) E (AM 0 Nv (GR _ 11 zO zO) E (AA E Cf (AM 0 Nv (GR _ 25 zO zO) E (AA E Cf (AA E B4 ?_)))))))
 refine AA E B4 (AA E B4 (AA E B4 (U E (V (Y (J E (AM 0 Nv (GR _ 2 zO zO) E (J E (AM 0 Nv (GR _ 13 zO zO) E ?_)))))))))
 refine AA E Cf (J E (AM 0 Nv (GR _ 22 zO zO) E (AA E Cf (J E (J E (AA E Gd (J E ?_)))))))
 refine J E (AA E Gd (AA E Cf (J E (J E (AA E Gd (AA E Cf (AA E B4 ?_)))))))
 refine U E (V (AS (J E (J E (J E (J E (J E (AA E B4 (J E ?_)))))))))
 refine J E (J E (J E (J E (AA E B4 (U E (U E (U E ?_)))))))
 refine U E (U E (U E (U E (U E (Aa (Ay (AI (AS (AA E (Bj zO zO) (J E (Aa ?_)))))))))))
 exact A1 (i+1) zO zO ⟨E,E,E,E,E,E,E,E,E,E,E,zT⟩
 have hi:i=64:=by simp at hc1;omega
 subst hi
 generalize hfin:GJ T (Dx s) h 64=fin
 refine A4 (A9 (Bi (BA (AI (Y (J E (J E (J E (J E (J E (J E (J E (J E ?_)))))))))))))
 refine Uj (fin.list.map Z) rfl mi Bq sd rfl ⟨rfl,rfl,rfl,rfl,rfl,rfl,rfl,rfl,trivial⟩ rfl rfl (fun v hv=>by obtain⟨x,_,rfl⟩:=List.mem_map.1 hv;rfl) ?_
 refine J E ?_
 have hfl:fin.list.length=h.length:=by rw[hh];rfl
 refine V (AQ ?_)
 refine SX.mono (BU (α:=Nat) (fun i=>i≤8) (fun i=>[(0,vP b 0),(122,.agg (DM Z fin.list)),(123,vI i)]) (fun i=>AK b (.cells (NN Z (Rg h fin.list i) tl) e)::H) (fun i=>8-i) (fun i D hp=>?_) 0 zO) tL
 refine Y (AA E BD (V (AH ?_)))
 refine A0 E (fun hc2=>?_) (fun hc2=>?_)
 have hi:i<8:=by simp at hc2;omega
 have hml:=VR h _ hfl i
 have hw:fin.list[i]? = some (fin.list.getD i 0):=by
  rw[List.getD_eq_getElem?_getD,List.getElem?_eq_getElem zO]
  rfl
 refine AJ (AI (AH (AQ (Y (J E ?_)))))
 refine Pd (i:=i) E mi A6 E E zO zO (Eu hw) ?_
 refine U E (U E (V (A2 DE [0] (CK [(true,0),(true,1),(true,2),(true,3),(true,4),(true,5),(true,6),(true,7),(true,8)] (.last 9 .nil)) zK (J E (J E (AU E E ?_))))))
 refine Cy (n:=i) E PW Bq E E zO zO ?_
 refine B0 E A6 E (Cp 0 E (JR 0 zO)) ?_
 rw[Za h _ hfl i zO]
 refine J E (AA E B4 (AU E E ?_))
 refine Cy (n:=i) E PW Bq E E zO zO ?_
 refine Bk ?_
 refine nV (f:=Z) 0 E E E E Bq E E zO zT ?_
 rw[Zb h _ hfl i zO]
 refine Aa (Ay (AI (AS (AA E (Bj zO zO) (J E (Aa ?_))))))
 exact A1 (i+1) zO zO ⟨E,E,E,zT⟩
 have hi:i=8:=by simp at hc2;omega
 subst hi
 refine A4 (A9 (Bi (BA ?_)))
 have hfull:=YR h _ hfl
 rw[hh]at hfull
 rw[hfull,←hfin]
 exact C9 (Dh E) (Ak (M:=[_]) ⟨E,E⟩ fun _ h=>h)
theorem WV(T:List UInt32)(h:NJ)(rest s:List UInt8)(n:Int)(b:Nat)(e:TypeId)(hT:TQ K w0 3 T)(hTl:T.length=64)(hs:s.length=64):zC K w0 305 [vP b 0,vS s] [AK b (.cells (OB h rest n) e)] H (fun r M=>r=.tuple #[]∧M=[AK b (.cells (OB (UO T h s) rest n) e)]):=by
 have h1:=aS (K:=K) (w0:=w0) (H:=H) T h.list [vS rest,vI n] s b e hT hTl rfl hs
 rw[←Qn (Tw (T:=T) (s:=s) (show h.list.length=8 from rfl))]at h1
 exact h1
end

section
variable {K:Nat→Prop}{w0:World}{H:List AZ}
def dH(p:Nat×List UInt8):List Value:=[vI p.1,vS p.2]
theorem bW(s:List UInt8)(b:Nat)(hn:s.length≤1099511627776):kY Tryz.prog K w0 321 [vP b 0] [AK b (.cells #[vS s] 9)] dH (Oh s):=by
 intro lp J9 X T hy G h0
 refine T6.enter Tryz.func321 rfl rfl ?_
 refine Y (U E (V (AQ ?_)))
 refine SX.mono (BU (α:=Nat×List AZ) (fun x=>x.1≤s.length / 64∧J9 ((Oh s).take x.1) x.2) (fun x=>[(0,vY lp),(1,vP b 0),(3,vI (64*(x.1+1):Nat))]) (fun x=>AK b (.cells #[vS s] 9)::(x.2++T)) (fun x=>s.length / 64-x.1) (fun x D hp=>?_) (0,G) ⟨Nat.zero_le _,h0⟩) tL
 obtain⟨i,G⟩:=x
 obtain⟨hi,hJ⟩:=hp
 simp only at hi hJ
 refine AH (Y (J E (AG 0 GP E (Bz E Ce E (AA E I8 (V ?_))))))
 refine A0 E (fun hc1=>?_) (fun hc1=>?_)
 have hlt:i<s.length / 64:=by simp at hc1;omega
 have hg:=Wf s i hlt
 refine AJ (AI (AH (AQ (Y (J E (J E (AG 0 GP E (J E (AA E (D0 zO zO) (J E (gX (64*i) (64*(i+1)) E Ce E E E zO zO zO zO ?_)))))))))))
 have ht:64*(i+1)-64*i=64:=zO
 rw[ht]
 refine HQ (M2:=[_]) (G:=G) (T:=T) (vs:=[_,_]) (ok:=fun G1=>J9 ((Oh s).take (i+1)) G1) (no:=X) E E ⟨E,E,zT⟩ E ?_ (fun bb G1 hG1=>⟨zT,?_⟩)
 intro M
 have:=hy _ _ _ (E1 hg).1 G hJ M
 rw[←(E1 hg).2]at this
 exact this
 refine CW E E (V ?_)
 refine A0 E (fun hc2=>?_) (fun hc2=>?_)
 obtain rfl:bb=false:=by simpa using hc2
 refine AL (BC (Ac (Ea (BC ?_))))
 exact Al (Dh E) (Ak (M:=G1) (.inr hG1) fun _ h=>h.skip [_])
 obtain rfl:bb=true:=by simpa using hc2
 refine AJ (Ay (AI (AS (J E (AA E (Bj zO zO) (U E (Aa ?_)))))))
 refine A1 (i+1,G1) ⟨hlt,hG1⟩ (by simp only;omega) ⟨E,E,?_,zT⟩
 have e:((64*(i+1):Nat):Int)+64=((64*(i+1+1):Nat):Int):=zO
 simp only[look,Nat.beq,DB]
 rw[←e]
 refine A4 (A9 (Bi (BA ?_)))
 have hle:i=s.length / 64:=by simp at hc1;omega
 exact C9 (Dh E) (Ak (M:=G) (.inl (by rw[List.take_of_length_le (by rw[PK];omega)]at hJ;exact hJ)) fun _ h=>h.skip [_])
theorem aT(s:List UInt8):zC K w0 306 [vS s] [] H (fun r M=>∃b,r=.func (.func 321) #[] #[vP b 0]∧M=[AK b (.cells #[vS s] 9)]):=by
 refine T6.enter Tryz.func306 rfl rfl ?_
 refine Y ?_
 refine Ba E E zU fun b0=>?_
 refine U E (V (Y ?_))
 refine G3 (fv:=#[]) (cv:=#[_]) E E E ?_
 refine U E (V (AL ?_))
 exact Al (Cn E E) (Ak (M:=[_]) ⟨b0,E,E⟩ fun _ h=>h)
theorem aR(h:NJ)(tl:List Value)(b:Nat)(e:TypeId):zC K w0 307 [vP b 0] [AK b (.cells (NN Z h.list tl) e)] H (fun r M=>r=vS (h.list.flatMap Gg)∧M=[AK b (.cells (NN Z h.list tl) e)]):=by
 refine T6.enter Tryz.func307 rfl rfl ?_
 refine Y (U E (V (Y (U E (V (AH (Y (J E (J E (V (AQ (Ik 5 1 ?_))))))))))))
 refine SX.mono (BU (α:=Nat×Value) (fun x=>x.1≤8) (fun x=>[(3,x.2),(6,vP b 0),(7,vI x.1)]) (fun x=>DP 5 1 x.2 (4*x.1) (((h.list.take x.1).flatMap Gg).map fun b=>EE b)::AK b (.cells (NN Z h.list tl) e)::H) (fun x=>8-x.1) (fun x D hp=>?_) (0,zN) zD) tL
 obtain⟨i,v⟩:=x
 simp only at hp
 refine Y (AA E BD (V (AH ?_)))
 refine A0 E (fun hc1=>?_) (fun hc1=>?_)
 have hlt:i<8:=by simp at hc1;omega
 refine AJ (AI (AH (AQ (Y (AU E E ?_)))))
 refine Cy (n:=i) E PW Bq E E zO zO ?_
 refine B0 E A6 E (Cp 1 E (JR 0 hlt)) (U E (V (AS (J E (J E ?_)))))
 refine AA E (FQ.shr32 (n:=24)) ?_
 refine BM E E (Cx CP DG) (J E ?_)
 refine AA E (FQ.shr32 (n:=16)) ?_
 refine BM E E (Cx CP DG) (J E ?_)
 refine AA E (FQ.shr32 (n:=8)) ?_
 refine BM E E (Cx CP DG) (J E (BM E E (Cx CP DG) ?_))
 refine CE [_,_,_,_] E Ca Ji Kh ⟨E,E,E,E,zT⟩ E E E zX E E zU fun b0=>?_
 refine Ui 1 rfl (m:=4) (news:=(Gg (h.list.getD i 0)).map fun b=>EE b) Ca Ji Vl Kh rfl zD rfl rfl rfl rfl (An 0 rfl) (by intro u hu;obtain⟨x,_,rfl⟩:=List.mem_map.1 hu;rfl) zO zO zU fun v'=>?_
 refine U E (Aa (Ay (AI (AS (AA E (Bj zO zO) (J E (Aa ?_)))))))
 refine A1 (i+1,v') (by simp only;omega) (by simp only;omega) ⟨E,E,E,zT⟩ (fun w hw=>by
  have e1:h.list.take (i+1)=h.list.take i++[h.list.getD i 0]:=by
   rw[List.take_add_one,List.getD_eq_getElem?_getD,List.getElem?_eq_getElem (show i<h.list.length from hlt)]
   rfl
  simp only
  rw[e1,List.flatMap_append,List.map_append]
  simp only[List.flatMap_cons,List.flatMap_nil,List.append_nil]
  exact hw.skip [_])
 have hi:i=8:=by simp at hc1;omega
 subst hi
 refine A4 (A9 (Bi (BA (AI (Y (J E ?_))))))
 refine XN (s:=h.list.flatMap Gg) 0 E Ca DG Ce E E ?_
 refine U E (V (AL ?_))
 exact Al (Cn E E) (Ak (M:=[_]) ⟨E,E⟩ fun _ h=>h.skip [_])
end

section
variable {K:Nat→Prop}{w0:World}{H:List AZ}
theorem Ux(T:List UInt32)(h:NJ)(rest s:List UInt8)(n:Int)(b:Nat)(e:TypeId)(hT:TQ K w0 3 T)(hTl:T.length=64)(hr:rest.length<64)(hn:s.length≤1099511627776):zC K w0 275 [vP b 0,vS s] [AK b (.cells (OB h rest n) e)] H (fun r M=>r=.tuple #[]∧M=[AK b (.cells (OB (D7 T h (rest++s)).1 (D7 T h (rest++s)).2 n) e)]):=by
 refine T6.enter Tryz.func275 rfl rfl ?_
 refine Y ?_
 refine Ba E E zU fun b0=>?_
 refine Ba E E zU fun b1=>?_
 refine V (Km ?_)
 refine XT (α:=NJ×List UInt8×List UInt8) (fun x=>D7 T x.1 (x.2.1++x.2.2)=D7 T h (rest++s)∧x.2.1.length<64∧(x.2.1≠[]→(x.2.1++x.2.2).length<64)∧x.2.2.length≤s.length) (fun x=>[(2,vP b0 0),(3,vP b1 0)]) (fun x=>AK b1 (.cells #[vS x.2.2] 9)::AK b0 (.cells #[vP b 0] 362)::AK b (.cells (OB x.1 x.2.1 n) e)::H) ?_ (fun x hx=>?_)
 refine AH (A2 DE [0,1,2] (C3 [(true,0),(true,1),(true,2),(true,3),(true,4),(true,5),(true,6),(true,7),(true,8),(true,9),(true,10),(true,11),(true,12),(true,13),(true,14),(true,15)]) zK (AG 1 PR E (AU E E (AF E Lj (AG 2 GP E ?_)))))
 refine AA E (Uc (t:=[])) ?_
 refine J E ?_
 refine Cb (c:=decide ((64:Int)≤(rest.length:Int)+s.length)) 13 10 23 E (fun hb k=>?_) (fun hb k=>?_) ?_
 refine AG 1 PR E (AU E E (AF E Lj (AG 2 GP E (Bz E Ce E (AG 0 GP E (Bz E Ce E (AA E (Bj zO zO) ?_)))))))
 refine AA E LU (Ag E E E ?_)
 exact k.mono tL
 refine AB E (AB E (AB E (AB E (AB E (AB E (AB E (AB E ?_)))))))
 refine AB E (Ag E E E ?_)
 exact k.mono tL
 refine V ?_
 refine A0 E (fun hc1=>?_) (fun hc1=>?_)
 have hne:rest≠[]∧64≤rest.length+s.length:=by simp at hc1;exact⟨hc1.1,by omega⟩
 refine Y (AG 1 PR E (AU E E (AF E Lj (AG 2 GP E (Bz E Ce E (AA E (D0 zO zO) (U E (V (AH (A2 DE [0,1,2] (CK [(true,0),(true,1),(true,2),(true,3),(true,4),(true,5),(true,6),(true,7),(true,8),(true,9),(true,10)] (.last 11 .nil)) zK ?_))))))))))
 refine AG 1 PR E (AU E E (AF E YI (AG 1 PR E (AU E E (AF E Lj (AG 2 GP E (AG 0 GP E ?_)))))))
 refine J E (Ry (64-rest.length) E Ce E E zO zO (AA E (FR zQ) (Bk (SL.pick [2,0,1] 3 (AM 1 iC (WV T h rest (rest++s.take (64-rest.length)) n b e hT hTl zQ) E (SL.pick [1,2,0] 3 (V (A2 DE [0,1] (CK [(true,0),(true,1),(true,2),(true,3),(true,4),(true,5),(false,6)] (.last 7 .nil)) zK (AG 1 PR E ?_)))))))))
 refine AG 0 GP E (J E (Ot (64-rest.length) E Ce E E zO zO (AU E E (AF E Lj (A7 2 E E E E HC E E E ⟨⟨0,E⟩,⟨1,E⟩,zT⟩ (Bk (A7 0 E E E E HC E E E zT (Aa ?_))))))))
 refine TB (UO T h (rest++s.take (64-rest.length)),[],s.drop (64-rest.length)) ⟨?_,by simp,fun h=>absurd E h,by simp⟩ tL
 have e1:rest++s=(rest++s.take (64-rest.length))++s.drop (64-rest.length):=by rw[List.append_assoc,List.take_append_drop]
 have e2:=Un (T:=T) (h:=h) (p:=rest++s.take (64-rest.length)) (s:=s.drop (64-rest.length)) zQ
 rw[e1,e2]
 rfl
 refine AJ ?_
 refine TB (h,rest,s) ⟨E,hr,fun hne=>?_,Nat.le_refl _⟩ tL
 simp at hc1
 have:=hc1 hne
 simp
 omega
 
 obtain⟨h1,r1,s1⟩:=x
 obtain⟨hx1,hx2,hx3,hx4⟩:=hx
 simp only at hx1 hx2 hx3 hx4
 refine AH (Y (AG 1 PR E (AU E E (AF E Lj (AG 2 GP E ?_)))))
 refine AA E (Uc (t:=[])) ?_
 refine V ?_
 refine A0 E (fun hc2=>?_) (fun hc2=>?_)
 have hsh:=hx3 (by simpa using hc2)
 rw[Py hsh]at hx1
 rw[←hx1]
 refine AH (A2 DE [0,1,2] (CK [(true,0),(true,1),(true,2),(true,3),(true,4),(true,5),(true,6),(true,7)] (.last 8 .nil)) zK (AG 1 PR E (AU E E (AF E Lj (AG 2 GP E (AG 0 GP E (AA E (FR zQ) (AU E E ?_))))))))
 refine AF E Lj (Bk (A7 2 E E E E HC E E E zT (V (AL (Ac (EO ?_))))))
 exact Al (Dh E) (Ak (M:=[_]) ⟨E,E⟩ fun _ h=>h.skip [_,_])
 have hr1:r1=[]:=by simpa using hc2
 subst hr1
 rw[List.nil_append,LV]at hx1
 rw[←hx1]
 refine AJ (AI (Y ?_))
 refine Ar E qC zU fun b2=>?_
 refine A7 0 E E E E PU E E E zT (V (AH (Kl (AI (AH (Y (AG 1 GP E (BY 0 pT (aT s1) E ?_))))))))
 rintro _ _ ⟨bi,rfl,rfl⟩
 refine V (AQ ?_)
 refine TC (enc:=dH) (Oh s1) (fun pre G=>G=AK b2 (.cells #[vI (64*pre.length:Nat)] 3)::AK b1 (.cells #[vS s1] 9)::AK b0 (.cells #[vP b 0] 362)::AK b (.cells (OB (GO T h1 s1 pre.length) [] n) e)::H) (fun c G=>c=.exit 0∧G=AK b2 (.cells #[vI (64*(s1.length / 64):Nat)] 3)::AK b1 (.cells #[vS s1] 9)::AK b0 (.cells #[vP b 0] 362)::AK b (.cells (OB (GO T h1 s1 (s1.length / 64)) [] n) e)::H) E pZ E zV (bW s1 bi zO) E E (fun pre x suf G hxs hJ r lp Rest=>?_) (fun G D hJ=>?_) (fun c G D hX=>?_)
 obtain rfl:=hJ
 have hget:(Oh s1)[pre.length]? = some x:=by rw[hxs];simp
 have hlt:pre.length<s1.length / 64:=by
  have:=PK s1
  rw[hxs]at this
  simp at this
  omega
 rw[Wf s1 _ hlt]at hget
 obtain rfl:=zI hget
 refine Y (U E (V (AS (U E (Aa (Kk (AQ (Y (AG 2 PR E (AU E E (AF E YI (J E (SL.pick [3,0,1,2] 4 (AM 1 iC (WV T (GO T h1 s1 pre.length) [] _ n b e hT hTl zQ) E ?_))))))))))))))
 refine SL.pick [1,2,3,0] 4 (V (Y (J E (A7 0 E E E E PU E E E zT (V (Y (AG 1 GP E (Bz E Ce E (J E (AA E (D0 zO zO) (AA E BD (V ?_))))))))))))
 refine A0 E (fun hc3=>?_) (fun hc3=>?_)
 refine A4 (HR ?_)
 have e1:pre.length+1=s1.length / 64:=by simp at hc3;omega
 exact N1 (G:=_::_::_::_::H) (by rw[←e1];exact⟨E,E⟩) (fun _ h=>h)
 refine AJ (Ay ?_)
 exact IA (G:=_::_::_::_::H) (by rw[show(pre++[(64*(pre.length+1),(s1.drop (64*pre.length)).take 64)]).length=pre.length+1 by simp];rfl) (fun _ h=>h)
 obtain rfl:=hJ
 rw[PK]
 refine Ay (AI (A2 DE [0,1,2] (CK [(true,0),(true,1),(true,2),(true,3),(true,4),(true,5)] (.last 6 .nil)) zK (AG 2 PR E (AG 1 GP E (AG 0 FI E (Ot (64*(s1.length / 64)) E Ce E E zO zO (AU E E (AF E Lj (Bk (A7 3 E E E E HC E E E zT (Aa (gZ ?_))))))))))))
 exact C9 (Dh E) (Ak (M:=[_]) ⟨E,E⟩ fun _ h=>h.skip [_,_,_])
 obtain⟨rfl,rfl⟩:=hX
 refine A4 (BA (AI (A2 DE [0,1,2] (CK [(true,0),(true,1),(true,2),(true,3),(true,4),(true,5)] (.last 6 .nil)) zK (AG 2 PR E (AG 1 GP E (AG 0 FI E (Ot (64*(s1.length / 64)) E Ce E E zO zO (AU E E (AF E Lj (Bk (A7 3 E E E E HC E E E zT (Aa (gZ ?_)))))))))))))
 exact C9 (Dh E) (Ak (M:=[_]) ⟨E,E⟩ fun _ h=>h.skip [_,_,_])
end

section
variable {K:Nat→Prop}{w0:World}{H:List AZ}
def ZW(e:TypeId):Prop:=liesAt Tryz.prog Tryz.prog.depth e (2 / Tryz.prog.cellsOf e) 0 136 1=true
theorem sx(v:Value)(w:World):(callFunc 122 [v].toArray).run Tryz.prog w=.ok (.value v) w:=by
 rw[run_callFunc_extern (e:=Extern.AbiNoEscape.same) Tryz.func122 zK zK zK zK]
 rfl
theorem Yv(e:TypeId)(b:Nat)(v:Value)(hl:ZW e):zC K w0 85 [vP b 0] [AK b (.cells #[.pointer none,v] e)] H (fun r M=>r=.tuple #[]∧M=[AK b (.cells #[vP b 0,v] e)]):=by
 refine T6.enter Tryz.func85 rfl rfl ?_
 refine Y (J E (AU E E (AF E VH (AG 0 gA E (D8 E Yl E E (V (NW E (AS (J E (J E ?_))))))))))
 refine nW 0 E Yl mh gF E E E E ?_
 refine kG E (vs:=[_]) ⟨E,zT⟩ (sx _) ?_
 refine nJ 0 E mh Yl gF E E hl (AU E E (AF E VH (A7 0 E E E E sB E E E zT (Aa ?_))))
 exact C9 (Dh E) (Ak (M:=[_]) ⟨E,E⟩ fun _ h=>h)
theorem Yw(e:TypeId)(b:Nat)(v:Value):zC K w0 85 [vP b 0] [AK b (.cells #[vP b 0,v] e)] H (fun r M=>r=.tuple #[]∧M=[AK b (.cells #[vP b 0,v] e)]):=by
 refine T6.enter Tryz.func85 rfl rfl ?_
 refine Y (J E (AU E E (AF E VH (AG 0 gA E (D8 E Yl E E (V (Cz E (Y (J E (AU E E ?_))))))))))
 refine AF E VH (AG 0 gA E (J E (kK E Yl gF E E (V (Cz E (AJ ?_))))))
 exact C9 (Dh E) (Ak (M:=[_]) ⟨E,E⟩ fun _ h=>h)
def Ov(b:Nat)(p:Value):Prop:=p=.pointer none∨p=vP b 0
theorem Qr(e:TypeId)(b:Nat)(p v:Value)(hp:Ov b p)(hl:ZW e):zC K w0 85 [vP b 0] [AK b (.cells #[p,v] e)] H (fun r M=>r=.tuple #[]∧M=[AK b (.cells #[vP b 0,v] e)]):=by
 rcases hp with rfl | rfl
 exact Yv e b v hl
 exact Yw e b v
theorem OX(e:TypeId)(b:Nat)(p v:Value)(n:Nat)(xs:List Value)(c:UInt8)(hp:Ov b p)(hl:ZW e)(hn:n+1≤140737488355328):
  zC K w0 238 [vP b 0,EE c] [AK b (.cells #[p,v] e),DP 5 1 v n xs] H
   (fun r M=>r=.nilIface∧∃v',M=[AK b (.cells #[vP b 0,v'] e),DP 5 1 v' (n+1) (xs++[EE c])]):=by
 refine T6.enter Tryz.func238 rfl rfl ?_
 refine Y (U E (V (Y (J E (AM 1 fD (Qr e b p v hp hl) E (V (Y (J E (J E (AU E E (AF E Ib (AG 0 QD E ?_))))))))))))
 refine J E ?_
 refine CE [EE c] E Ca Ji Kh ⟨E,zT⟩ E E E zX E E zU fun b1=>?_
 refine Ui 2 E (news:=[EE c]) Ca Ji Vl Kh E zD E E E E (An 0 E) (by simp[Value.oneCell']) zO zO zU fun v'=>?_
 refine AU E E (AF E Ib ?_)
 refine cY (fun w hw=>Yc (hw.holds _ (List.mem_append_left _ (List.mem_of_getElem? (i:=2) E)))) fun hsh=>?_
 have hc1:v'.cells=#[v']:=by rcases hsh with⟨rfl,_⟩ | ⟨g,cap,rfl,_⟩<;>rfl
 have ho1:v'.oneCell'=true:=by rcases hsh with⟨rfl,_⟩ | ⟨g,cap,rfl,_⟩<;>rfl
 refine A7 1 E E E E gD (by rw[hc1];rfl) (by rw[hc1];simp[ho1]) E zT ?_
 rw[hc1]
 refine V (Y (U E (V (AL ?_))))
 exact Al (Cn E E) (Ak (M:=[_,_]) ⟨E,v',E⟩ fun _ h=>h.skip [_])
theorem Gi(e:TypeId)(b:Nat)(p v:Value)(n:Nat)(xs:List Value)(s:List UInt8)(hp:Ov b p)(hl:ZW e)(hn:n+s.length≤140737488355328):
  zC K w0 59 [vP b 0,vS s] [AK b (.cells #[p,v] e),DP 5 1 v n xs] H
   (fun r M=>r=.tuple #[vI s.length,.nilIface]∧∃v',M=[AK b (.cells #[vP b 0,v'] e),DP 5 1 v' (n+s.length) (xs++s.map fun b=>EE b)]):=by
 refine T6.enter Tryz.func59 rfl rfl ?_
 refine Y (U E (U E (V (Y (J E (AM 1 fD (Qr e b p v hp hl) E (V (Y (J E (J E (AU E E (AF E Ib ?_))))))))))))
 refine AG 0 QD E (J E ?_)
 refine kF 1 E Ca Ce Ji Vl Kh E E E hn zU fun v'=>?_
 refine AU E E (AF E Ib ?_)
 refine cY (fun w hw=>Yc (hw.holds _ (List.mem_append_left _ (List.mem_of_getElem? (i:=1) E)))) fun hsh=>?_
 have hc1:v'.cells=#[v']:=by rcases hsh with⟨rfl,_⟩ | ⟨g,cap,rfl,_⟩<;>rfl
 have ho1:v'.oneCell'=true:=by rcases hsh with⟨rfl,_⟩ | ⟨g,cap,rfl,_⟩<;>rfl
 refine A7 0 E E E E gD (by rw[hc1];rfl) (by rw[hc1];simp[ho1]) E zT ?_
 rw[hc1]
 refine V (Y (J E (Bz E Ce E (U E (U E (V (AL ?_)))))))
 exact Al (ET E E E) (Ak (M:=[_,_]) ⟨E,v',E⟩ fun _ h=>h)
theorem aB(e:TypeId)(b:Nat)(p v:Value)(n:Nat)(xs:List Value):
  zC K w0 60 [vP b 0] [AK b (.cells #[p,v] e),DP 5 1 v n xs] H
   (fun r M=>r=vI n∧M=[AK b (.cells #[p,v] e),DP 5 1 v n xs]):=by
 refine T6.enter Tryz.func60 rfl rfl ?_
 refine Y (U E (V (Y (J E (AU E E (AF E Ib (AG 0 QD E (cZ 1 E Ca E E (U E (V (AL ?_)))))))))))
 exact Al (Cn E E) (Ak (M:=[_,_]) ⟨E,E⟩ fun _ h=>h)
theorem JT(e:TypeId)(b:Nat)(p v:Value)(n:Nat)(s:List UInt8)(hn:n≤140737488355328):
  zC K w0 61 [vP b 0] [AK b (.cells #[p,v] e),DP 5 1 v n (s.map fun b=>EE b)] H
   (fun r M=>r=vS s∧M=[AK b (.cells #[p,v] e),DP 5 1 v n (s.map fun b=>EE b)]):=by
 refine T6.enter Tryz.func61 rfl rfl ?_
 refine Y (U E (V (AH (A2 DE [0,1] (C3 [(true,0),(true,1),(true,2),(true,3),(true,5),(true,6),(true,7),(true,8),(true,9),(false,4),(false,10),(true,11)]) zK (J E (AU E E (AF E Ib (AG 0 QD E (J E (AU E E ?_))))))))))
 refine AF E Ib (AG 0 QD E (cZ 1 E Ca E E ?_))
 refine kT 1 E me E E ⟨⟨0,E⟩,⟨1,E⟩,zT⟩ fun q hq=>?_
 refine kU 1 E me tc E E hq E zO ⟨⟨0,E⟩,⟨1,E⟩,zT⟩ (U E (V (AL ?_)))
 exact Al (Cn E E) (Ak (M:=[_,_]) ⟨E,E⟩ fun _ h=>h)
end

section
variable {K:Nat→Prop}{w0:World}{H:List AZ}
theorem bj{y:UInt64}(h:y.toNat<4294967296):shr64 y 32=0:=by
 apply UInt64.toNat_inj.1
 have h1:y.toNat / 4294967296=0:=Nat.div_eq_of_lt h
 simp[shr64,h1]
theorem ke(n:Nat)(h:n<9223372036854775808):decide ((9223372036854775807:UInt64)<Cq n)=false:=by
 rw[decide_eq_false_iff_not,UInt64.lt_iff_toNat_lt]
 have h1:(9223372036854775807:UInt64).toNat=9223372036854775807:=by decide
 have h2:(Cq n).toNat=n:=by simp only[Cq,UInt64.toNat_ofNat'];omega
 omega
theorem Z3{y:UInt64}(h:y.toNat<4294967296):y &&& 4294967295=y:=by
 apply UInt64.toNat_inj.1
 rw[UInt64.toNat_and]
 exact Nat.and_two_pow_sub_one_of_lt_two_pow (n:=32) h
theorem kn(y:UInt64)(hy:y.toNat<4294967296):zC K w0 83 [AV 1,AV y] [] H (fun r M=>r=.tuple #[AV 0,AV y]∧M=[]):=by
 refine T6.enter Tryz.func83 rfl rfl ?_
 refine Y (U E (U E (V (Y (J E ?_)))))
 refine AA E (Or (b:=4294967295)) ?_
 refine U E (V (Y (J E ?_)))
 refine AA E (FQ.shr64 (n:=32)) ?_
 refine U E (V (Y (J E ?_)))
 refine AA E (Or (b:=4294967295)) ?_
 refine U E (V (Y (J E ?_)))
 refine AA E (FQ.shr64 (n:=32)) ?_
 refine U E (V (Y (J E (J E (AA E MB (U E (V (Y (J E (J E (AA E MB ?_)))))))))))
 refine J E ?_
 refine AA E (FQ.shr64 (n:=32)) ?_
 refine AA E Hp (U E (V (Y (J E ?_))))
 refine AA E (Or (b:=4294967295)) ?_
 refine U E (V (Y (J E ?_)))
 refine AA E (FQ.shr64 (n:=32)) ?_
 refine U E (V (Y (J E (J E (J E (AA E MB (AA E Hp (U E (V (Y (J E ?_)))))))))))
 refine J E (AA E MB (J E (AA E Hp (J E ?_))))
 refine AA E (FQ.shr64 (n:=32)) ?_
 refine AA E Hp (U E (V (Y (J E (J E (AA E MB (U E (V (AL ?_)))))))))
 have h1:shr64 y 32=0:=bj hy
 have h2:y &&& 4294967295=y:=Z3 hy
 have h3:shr64 (1:UInt64) 32=0:=by decide
 have h4:(1:UInt64) &&& 4294967295=1:=by decide
 have h5:shr64 (0:UInt64) 32=0:=by decide
 have h6:(0:UInt64) &&& 4294967295=0:=by decide
 refine Al (ET E E E) (Ak (M:=[]) ⟨?_,E⟩ fun _ h=>h.skip [])
 simp[h1,h2,h3,h4,h5,h6]
theorem km(y:UInt64)(hy:y.toNat<4294967296):zC K w0 56 [AV 1,AV y] [] H (fun r M=>r=.tuple #[AV 0,AV y]∧M=[]):=by
 refine T6.enter Tryz.func56 rfl rfl ?_
 refine Y (U E (U E (V (AH ?_))))
 refine A0 E (fun hc1=>absurd hc1 zD) (fun hc1=>?_)
 refine AJ (AI (Y (J E (J E (AM 0 rE (kn y hy) E (J E (Af E E E (Af E E E (U E (U E (V (Y ?_))))))))))))
 refine J E (J E (U E (U E (V (AL ?_)))))
 exact Al (ET E E E) (Ak (M:=[]) ⟨E,E⟩ fun _ h=>h.skip [])
theorem kp(b n:Nat)(hn:n≤281474976710656):zC K w0 86 [vP b 0,vI n] [AK b (.cells #[vP b 0,zN] 136)] H (fun r M=>r=.tuple #[]∧∃v,M=[AK b (.cells #[vP b 0,v] 136),DP 5 1 v 0 []]):=by
 refine T6.enter Tryz.func86 rfl rfl ?_
 refine AH (A2 DE [0] (C3 [(true,0),(true,1),(true,2),(true,3),(true,4),(true,5),(true,6),(true,7),(true,9),(true,10),(true,11),(true,12),(true,13),(false,8),(true,14),(true,15)]) zK (J E (AU E E (AF E Ib (AG 0 QD E (cX E Ca E (AA E (Ol zO zO) (J E ?_))))))))
 refine AA E (Bj zO zO) (J E (AU E E (AF E Ib (AG 0 QD E (H9 E Ca E ?_)))))
 refine nQ (n:=n) (fn:=Tryz.f123) E E zO hn Ca (fun w r w' hr=>by rw[run_callFunc_extern (e:=Extern.BytealgMakeNoZero.makeNoZero #[3] #[112]) Tryz.func123 zK zK zK zK];rw[show(Extern.BytealgMakeNoZero.makeNoZero #[3] #[112] #[vI n]).run Tryz.prog w=.ok r w' from hr];rfl) (fun _ _=>⟨⟨1,E⟩,zT⟩) fun b1 cs hcs hcm=>?_
 refine ce 0 E Ca Ji E E E zO (U E (V (Y (J E (J E (AU E E (AF E Ib (AG 1 QD E (nI E Ca Ji E E (V (AS ?_)))))))))))
 refine J E (J E (AU E E (AF E Ib (A7 1 E E E E gD E E E zT (Aa ?_)))))
 refine SQ.heap (H':=DP 5 1 (.slice (some ⟨b1,0,none⟩) 0 cs.size) 0 []::AK b (.cells #[vP b 0,.slice (some ⟨b1,0,none⟩) 0 cs.size] 136)::H) ?_ fun w hw=>cS hw zS zO
 exact C9 (Dh E) (Ak (M:=[_,_]) ⟨E,_,E⟩ fun _ h=>h.perm (List.Perm.swap _ _ _))
theorem cm(b n:Nat)(p:Value)(hp:Ov b p)(h0:0<n)(hn:n≤281474976710656):zC K w0 58 [vP b 0,vI n] [AK b (.cells #[p,zN] 136)] H (fun r M=>r=.tuple #[]∧∃v,M=[AK b (.cells #[vP b 0,v] 136),DP 5 1 v 0 []]):=by
 refine T6.enter Tryz.func58 rfl rfl ?_
 refine Y (J E (AM 1 fD (Qr 136 b p (.slice none 0 0) hp RD) E (V (AH (Y (J E (AA E BD (V ?_))))))))
 refine A0 E (fun hc1=>absurd hc1 zS) (fun hc1=>?_)
 refine AJ (AI (AH (A2 DE [0] (C3 [(true,0),(true,1),(true,2),(true,3),(true,4),(true,5),(true,6),(true,7),(true,8),(true,9),(true,10),(true,11),(true,12)]) zK (J E (AU E E (AF E Ib (AG 0 QD E (cX E Ca E (J E (AU E E ?_))))))))))
 refine AF E Ib (AG 0 QD E (H9 E Ca E (AA E (D0 zO zO) (J E (AA E BD (V ?_))))))
 refine A0 E (fun hc2=>?_) (fun hc2=>absurd hc2 zQ)
 refine AS (J E (J E (BY 1 rF (kp b n hn) E ?_)))
 rintro _ _ ⟨rfl,v,rfl⟩
 refine Aa ?_
 exact C9 (Dh E) (Ak (M:=[_,_]) ⟨E,v,E⟩ fun _ h=>h)
theorem NZ(n:Nat)(hn:n≤8192):zC K w0 39 [vS [0],vI n] [] H (fun r M=>r=vS (List.replicate n 0)∧M=[]):=by
 refine T6.enter Tryz.func39 rfl rfl ?_
 refine Y (U E (V (AH (Y (J E (V (AQ (Y (AA E BS (U E (V ?_)))))))))))
 refine A0 E (fun hc1=>?_) (fun hc1=>?_)
 refine Y (U E (V (AL (BC (Ac ?_)))))
 exact Al (Cn E E) (Ak (M:=[]) ⟨by have h0:n=0:=(by simpa using hc1);subst h0;rfl,E⟩ fun _ h=>h.skip [])
 have h0:n≠0:=by intro h;subst h;simp at hc1
 refine Y (AA E BS (U E (V ?_)))
 refine A0 E (fun hc2=>?_) (fun hc2=>?_)
 refine Y (J E (U E (V (AL (BC (Ac ?_))))))
 exact Al (Cn E E) (Ak (M:=[]) ⟨by have h1:n=1:=(by simp at hc2;omega);subst h1;rfl,E⟩ fun _ h=>h.skip [])
 refine AJ (Ay (AI (AH (Y (J E (AA E BD (V ?_)))))))
 refine A0 E (fun hc3=>absurd hc3 zS) (fun hc3=>?_)
 refine AJ (AI (Y (J E (Bz E Ce E (BM E E (Et JQ PV) (J E (BM E E (Et JQ PV) (AM 0 k9 (km (Cq n) (by simp[Cq];omega)) E (J E (Af E E E ?_))))))))))
 refine Af E E E (U E (U E (V (AH (Y (J E ?_))))))
 refine AA E (NS (b:=0)) ?_
 refine J E ?_
 refine E2 (c:=false) 31 3 34 E (fun hb k=>?_) (fun hb k=>?_) ?_
 refine AB E (AB E (Ag E E E ?_))
 exact k.mono tL
 refine J E ?_
 refine AA E (NS (b:=9223372036854775807)) ?_
 rw[ke n zO]
 refine Ag E E E ?_
 exact k.mono tL
 refine V ?_
 refine A0 E (fun hc4=>absurd hc4 zD) (fun hc4=>?_)
 refine AJ (AI (Y (J E ?_)))
 have hto:((Cq n).toNat:Int)=n:=by simp only[Cq,UInt64.toNat_ofNat'];omega
 refine BM E E (gQ (n:=((Cq n).toNat:Int)) PV JQ zO zO) ?_
 rw[hto]
 refine U E (V (AH (Y (J E (Bz E Ce E (AA E BS (V ?_)))))))
 refine A0 E (fun hc5=>absurd hc5 zD) (fun hc5=>?_)
 refine AJ (AI (AH (Y (J E (Kj 0 E Ce E E zD zD (V (AQ (AH (Y ?_)))))))))
 refine AA E (Rs (b:=32)) ?_
 refine U E (V ?_)
 refine A0 E (fun hc6=>absurd hc6 zD) (fun hc6=>?_)
 refine Y ?_
 refine AA E (Rs (b:=45)) ?_
 refine U E (V ?_)
 refine A0 E (fun hc7=>absurd hc7 zD) (fun hc7=>?_)
 refine Y ?_
 refine AA E (Rs (b:=48)) ?_
 refine U E (V ?_)
 refine A0 E (fun hc8=>absurd hc8 zD) (fun hc8=>?_)
 refine Y ?_
 refine AA E (Rs (b:=61)) ?_
 refine U E (V ?_)
 refine A0 E (fun hc9=>absurd hc9 zD) (fun hc9=>?_)
 refine AS ?_
 refine AA E (Rs (b:=9)) ?_
 refine U E (V ?_)
 refine A0 E (fun hc10=>absurd hc10 zD) (fun hc10=>?_)
 refine AJ (Ay (AI (Y (J E (U E (V (AH (Y (J E (AA E Cm (V ?_)))))))))))
 refine A0 E (fun hc11=>absurd hc11 zQ) (fun hc11=>?_)
 refine AJ (AI (Y ?_))
 refine Ar E Ys zU fun b0=>?_
 refine V (Y (J E (BY 1 lA (cm b0 n _ (.inl E) zO zO) E ?_)))
 rintro _ _ ⟨rfl,v1,rfl⟩
 refine V (Y (J E (BY 2 SV (Gi 136 b0 _ v1 0 [] [0] (.inr E) RD zS) E ?_)))
 rintro _ _ ⟨rfl,v2,rfl⟩
 refine V (AH (AQ ?_))
 refine SX.mono (BU (α:=Nat×Value) (fun x=>1≤x.1∧x.1≤n) (fun x=>[(0,vS [0]),(7,vI n),(8,vI n),(9,vP b0 0)]) (fun x=>AK b0 (.cells #[vP b0 0,x.2] 136)::DP 5 1 x.2 x.1 ((List.replicate x.1 0).map fun b=>EE b)::H) (fun x=>n-x.1) (fun x D hp=>?_) (1,v2) ⟨Nat.le_refl _,by simp only;omega⟩) tL
 obtain⟨m,v⟩:=x
 obtain⟨h1,h2⟩:=hp
 simp only at h1 h2
 refine AH (Y (AM 2 ak (aB 136 b0 (vP b0 0) v m _) E (J E (AA E BD (V ?_)))))
 refine A0 E (fun hc12=>?_) (fun hc12=>?_)
 refine AJ (AI (AQ (Y (J E (AM 2 ak (aB 136 b0 (vP b0 0) v m _) E (AA E (D0 zO zO) (AM 2 ak (aB 136 b0 (vP b0 0) v m _) E (J E (i4 E E E E (U E (V (AS (AM 2 P2 (JT 136 b0 (vP b0 0) v m (List.replicate m 0) zO) E ?_)))))))))))))
 refine J E (Ry (min (n-m) m) E Ce E E zO zQ (BY 2 SV (Gi 136 b0 _ v m _ ((List.replicate m 0).take (min (n-m) m)) (.inr E) RD zQ) E ?_))
 rintro _ _ ⟨rfl,v',rfl⟩
 refine Aa (Ay ?_)
 exact A1 (m+min (n-m) m,v') ⟨by simp only;omega,by simp only;omega⟩ (by simp at hc12;simp only;omega) ⟨E,E,E,E,zT⟩ (fun w h=>by
  have e:(List.replicate m 0).map (fun b=>EE b)++((List.replicate m 0).take (min (n-m) m)).map (fun b=>EE b)=(List.replicate (m+min (n-m) m) 0).map fun b=>EE b:=by
   rw[←List.map_append,List.take_replicate,List.replicate_append_replicate];congr 2;omega
  have e2:((List.replicate m (0:UInt8)).take (min (n-m) m)).length=min (n-m) m:=by simp
  rw[e,e2]at h
  exact h)
 refine A4 (A9 (Bi (BA (AI (Y (AM 2 P2 (JT 136 b0 (vP b0 0) v m (List.replicate m 0) zO) E (U E (V (AL ?_)))))))))
 exact Al (Cn E E) (Ak (M:=[]) ⟨by have h3:m=n:=(by simp at hc12;omega);subst h3;rfl,E⟩ fun _ h=>h.skip [_,_])
end

section
variable {K:Nat→Prop}{w0:World}{H:List AZ}
theorem ec(n:UInt64)(i:Nat)(h:i<8):(R6 n).take (i+1)=(R6 n).take i++[(shr64 n (56-8*i)).toUInt8]:=by
 have:i=0∨i=1∨i=2∨i=3∨i=4∨i=5∨i=6∨i=7:=zO
 rcases this with rfl | rfl | rfl | rfl | rfl | rfl | rfl | rfl<;>rfl
theorem Vi(T:List UInt32)(h:NJ)(s:List UInt8):(D7 T h s).2.length=s.length%64:=by
 rw[LV]
 simp
 omega
theorem aQ(T:List UInt32)(h:NJ)(rest:List UInt8)(n:Nat)(b:Nat)(e:TypeId)(hT:TQ K w0 3 T)(hTl:T.length=64)(hr:rest.length=n%64)(hn:n≤1099511627776):zC K w0 276 [vP b 0] [AK b (.cells (OB h rest n) e)] H (fun r M=>r=vS ((D7 T h (rest++LS n)).1.list.flatMap Gg)∧M=[AK b (.cells (OB h rest n) e)]):=by
 refine T6.enter Tryz.func276 rfl rfl ?_
 refine Y (U E (V (AH (Y (J E (D8 E sL E E (V ?_)))))))
 refine A0 E (fun hc1=>absurd hc1 zS) (fun hc1=>?_)
 refine AJ (AI (Y (J E (AU E E ?_))))
 refine Aw (OB h rest n).toList E qV E E (Ck 0 E (fun j u hu=>by simpa using hu)) ?_
 refine Ar E nD zU fun b0=>?_
 refine OW (c':=OB h rest n) 0 E E E E sH E E (List.all_eq_true.1 (show(OB h rest n).toList.all (·.oneCell')=true from E)) zT ?_
 refine V (Y (J E (AU E E (AF E VM (AG 1 FI E (BM E E (Et JQ DL) ?_))))))
 refine AA E (MB (b:=8)) ?_
 refine U E (V (Y (J E (AU E E (AF E VM (AG 1 FI E (AA E (Vg zO zO) (AA E (D0 zO zO) (AA E (Vg zO zO) ?_)))))))))
 refine U E (V (Y (U E (V (AH (Y (U E (V (AQ (Ik 5 1 ?_))))))))))
 refine SX.mono (BU (α:=Nat×Value) (fun x=>x.1≤8) (fun x=>[(3,vP b0 0),(4,AV (Cq n*8)),(5,vI (Ll n)),(6,x.2),(7,vI (56-8*(x.1:Int)))]) (fun x=>DP 5 1 x.2 x.1 (((R6 (Cq n*8)).take x.1).map fun b=>EE b)::AK b0 (.cells (OB h rest n) 368)::AK b (.cells (OB h rest n) e)::H) (fun x=>8-x.1) (fun x D hp=>?_) (0,zN) zD) ⟨E,E,?_,E,E,zT⟩
 rotate_left
 have e1:((119-(n:Int)%64)%64)=(Ll n:Int):=by unfold Ll;omega
 rw[←e1]
 rfl
 obtain⟨i,v⟩:=x
 simp only at hp
 refine AH (Y (J E (AA E LU (V ?_))))
 refine A0 E (fun hc2=>?_) (fun hc2=>?_)
 have hi:i<8:=by simp at hc2;omega
 have e1:(56-8*(i:Int))=((56-8*i:Nat):Int):=zO
 refine AJ (AI (AH (AQ (AS (J E (J E (J E ?_)))))))
 refine gT E E (congrArg (fun z=>some (vI z)) e1) (FQ.shr64 (n:=56-8*i)) ?_
 refine BM E E (FD DL DG) ?_
 refine CE [_] E Ca Ji Kh ⟨E,zT⟩ E E E zX E E zU fun b1=>?_
 refine Ui 1 E (m:=1) (news:=[EE (shr64 (Cq n*8) (56-8*i)).toUInt8]) Ca Ji Vl Kh E zD E E E E (An 0 E) (by simp[Value.oneCell']) zO zO zU fun v'=>?_
 refine U E (Aa (Ay (AI (AS (J E (AA E (D0 zO zO) (U E (Aa ?_))))))))
 refine A1 (i+1,v') (by simp only;omega) (by simp only;omega) ⟨E,E,E,E,?_,zT⟩ (fun w hw=>by
  simp only
  rw[ec _ _ hi,List.map_append]
  exact hw.skip [_])
 have e2:(56-8*((i+1:Nat):Int))=56-8*(i:Int)-8:=zO
 simp only[e2]
 rfl
 have hi:i=8:=by simp at hc2;omega
 subst hi
 refine A4 (A9 (Bi (BA (AI (AH (A2 DE [0] (CK [(true,0),(true,3),(true,4),(false,1),(true,2),(true,5)] (.last 6 .nil)) zK (J E (J E ?_))))))))
 refine XN (s:=R6 (Cq n*8)) 0 E Ca DG Ce E E ?_
 refine Bf 0 SU (NZ (Ll n) (by unfold Ll;omega)) E ⟨⟨0,E⟩,zT⟩ (AA E (FR (by simp[Ll];omega)) (AA E (FR (by simp[Ll,R6];omega)) (Bk (SL.pick [1] 2 (AM 1 hZ (Ux T h rest (LS n) n b0 368 hT hTl zO (by simp[LS,Ll,R6];omega)) E (V (Y (AF E YI (AM 1 pU (aR (D7 T h (rest++LS n)).1 [vS (D7 T h (rest++LS n)).2,vI n] b0 368) E (U E (V (AL ?_))))))))))))
 exact Al (Cn E E) (Ak (M:=[_]) ⟨E,E⟩ fun _ h=>h.skip [_])
theorem eo(hF:TQ K w0 1 Dm.list):zC K w0 274 [] [] H (fun r M=>∃b,r=vP b 0∧M=[AK b (.cells (OB Dm [] 0) 368)]):=by
 refine T6.enter Tryz.func274 rfl rfl ?_
 refine Y (U E (V (Y ?_)))
 refine Aw (ad:=⟨1,0,none⟩) (Dm.list.map Z) E qU E E (fun w hw j u hu=>by
  rw[Cg,Nat.zero_add]
  rw[List.getElem?_map]at hu
  cases hx:Dm.list[j]? with
  | none=>rw[hx]at hu;cases hu
  | some x=>
   rw[hx]at hu
   obtain rfl:=zI hu
   exact O3 (ad:=⟨1,j,none⟩) hF.keep (hF.cell j x hx) w hw) ?_
 refine Bt [_] E rz ra nD ⟨E,zT⟩ E ?_
 refine Ba E E zU fun b0=>?_
 refine U E (V (AL ?_))
 exact Al (Cn E E) (Ak (M:=[_]) ⟨b0,E,E⟩ fun _ h=>h)
theorem UE(T:List UInt32)(v:Value)(ls:List (List UInt8))(hT:TQ K w0 3 T)(hTl:T.length=64)(hF:TQ K w0 1 Dm.list)(hk:CG K w0 Tt 1 v ls)(hn:ls.flatten.length≤1099511627776)(hl:ls.length≤1099511627776):zC K w0 240 [v] [] H (fun r M=>r=vS (NF T ls.flatten)∧M=[]):=by
 refine T6.enter Tryz.func240 rfl rfl ?_
 refine Y (U E (V (Y (BY 0 pJ (eo hF) E ?_))))
 rintro _ _ ⟨b0,rfl,rfl⟩
 refine U E (V (AH (Y (J E (CF hk E Eb E (J E (V (AQ ?_))))))))
 have h0:D7 T Dm (ls.take 0).flatten=(Dm,[]):=Py zS
 refine SX.heap (H':=AK b0 (.cells (OB (D7 T Dm (ls.take 0).flatten).1 (D7 T Dm (ls.take 0).flatten).2 ((ls.take 0).flatten.length:Nat)) 368)::H) ?_ (fun w hw=>by rw[h0];exact hw)
 refine SX.mono (BU (α:=Nat) (fun i=>i≤ls.length) (fun i=>[(3,vP b0 0),(7,v),(8,vI ls.length),(9,vI i)]) (fun i=>AK b0 (.cells (OB (D7 T Dm (ls.take i).flatten).1 (D7 T Dm (ls.take i).flatten).2 ((ls.take i).flatten.length:Nat)) 368)::H) (fun i=>ls.length-i) (fun i D hp=>?_) 0 (Nat.zero_le _)) tL
 refine Y (AA E BD (V (AH ?_)))
 refine A0 E (fun hc1=>?_) (fun hc1=>?_)
 have hlt:i<ls.length:=by simpa using hc1
 obtain⟨s,hs⟩:=PG hlt
 have hts:=(E1 hs).2
 have hfl:(ls.take (i+1)).flatten=(ls.take i).flatten++s:=by rw[hts];simp
 have hle:(ls.take (i+1)).flatten.length≤1099511627776:=by
  have:ls.flatten=(ls.take (i+1)).flatten++(ls.drop (i+1)).flatten:=by rw[←List.flatten_append,List.take_append_drop]
  rw[this]at hn
  simp only[List.length_append]at hn
  omega
 rw[hfl,List.length_append]at hle
 refine AJ (AI (AH (AQ (Y ?_))))
 refine Qk i s hk E Eb HC E E E hs fun be off hcell=>?_
 refine B0 E GP E (fun w hw=>hcell _ w hw 0 _ E) ?_
 refine U E (V (Y (J E (J E (AM 1 hZ (Ux T _ _ s _ b0 368 hT hTl (Z0 T Dm _) zO) E (V (AS (J E (AU E E (AF E VM (AG 0 FI E ?_)))))))))))
 refine J E (Bz E Ce E (AA E (Bj zO zO) (AU E E (AF E VM (A7 0 E E E E PU E E E zT (Aa (Ay (AI (AS (AA E (Bj zO zO) (J E (Aa ?_))))))))))))
 refine A1 (i+1) hlt zO tL (fun w hw=>by
  rw[hfl,Rz T Dm (ls.take i).flatten s,List.length_append]
  exact hw)
 have hi:i=ls.length:=by simp at hc1;omega
 have ht:ls.take i=ls:=by rw[hi];exact List.take_length
 rw[ht]
 refine A4 (A9 (Bi (BA (AI (Y (J E (AM 1 pK (aQ T _ _ ls.flatten.length b0 368 hT hTl (Vi T Dm ls.flatten) hn) E (U E (V (AL ?_))))))))))
 exact Al (Cn E E) (Ak (M:=[]) ⟨by unfold NF;rw[Rz T Dm ls.flatten],E⟩ fun _ h=>h.skip [_])
theorem ep(T:List UInt32)(s:List UInt8)(hT:TQ K w0 3 T)(hTl:T.length=64)(hF:TQ K w0 1 Dm.list)(hn:s.length≤1099511627776):zC K w0 277 [vS s] [] H (fun r M=>r=vS (NF T s)∧M=[]):=by
 refine T6.enter Tryz.func277 rfl rfl ?_
 refine Y (U E (V (Y (J E ?_))))
 refine CE [_] E Eb HC TZ ⟨E,zT⟩ E E E zX E E zU fun b0=>?_
 refine Bo (vs:=[_]) (Hin:=[_]) E E ⟨E,zT⟩ ah E E (Cl (B:=[AK b0 (.cells #[vS s] 9)]) (Hin:=[]) fun K' w1 hk hB=>(UE T _ [s] (hT.keeps hk) hTl (hF.keeps hk) (CG.lent (enc:=Tt) (sz:=1) (xs:=[s]) zV (Nat.le_refl 1) E (hB _ (List.mem_cons_self ..))) (by simpa using hn) zS)) ?_
 rintro _ _ ⟨M',rfl,rfl,rfl⟩
 refine⟨trivial,?_⟩
 refine U E (V (AL ?_))
 exact Al (Cn E E) (Ak (M:=[]) ⟨by simp,E⟩ fun _ h=>h.skip [_])
end

section
variable {K:Nat→Prop}{w0:World}{H:List AZ}
structure GQ(K:Nat→Prop)(w0:World)(T:List UInt32):Prop where
 tab:TQ K w0 3 T
 len:T.length=64
 first:TQ K w0 1 Dm.list
theorem GQ.keeps{T:List UInt32}{K':Nat→Prop}{w1:World}(h:GQ K w0 T)(hk:XI K w0 K' w1):GQ K' w1 T:=⟨h.tab.keeps hk,h.len,h.first.keeps hk⟩
theorem Tv(ls:List (List UInt8)):ls.flatMap Tt=ls.map vS:=by
 induction ls with
 | nil=>rfl
 | cons s r ih=>rw[List.flatMap_cons,ih];rfl
theorem Y7(k:List UInt8)(n i:Nat):(k++List.replicate n 0).getD i 0=k.getD i 0:=by
 simp only[List.getD_eq_getElem?_getD]
 rcases Nat.lt_or_ge i k.length with h | h
 rw[List.getElem?_append_left h]
 rw[List.getElem?_append_right h,List.getElem?_eq_none h]
 rw[List.getElem?_replicate]
 split<;>rfl
theorem dB(T:List UInt32)(v:Value)(ls:List (List UInt8))(hT:GQ K w0 T)(hn:ls.flatten.length≤1099511627776)(hl:ls.length≤1099511627776):zC K w0 240 [v] [DP 9 1 v ls.length (ls.flatMap Tt)] H (fun r M=>r=vS (NF T ls.flatten)∧M=[DP 9 1 v ls.length (ls.flatMap Tt)]):=by
 intro w hw
 have h1:=Cl (P:=Tryz.prog) (K:=K) (w0:=w0) (f:=240) (args:=[v]) (H:=H) (B:=[DP 9 1 v ls.length (ls.flatMap Tt)]) (Hin:=[]) (post:=fun r M=>r=vS (NF T ls.flatten)∧M=[]) (fun K' w1 hk hB=>UE T v ls (hT.keeps hk).tab hT.len (hT.keeps hk).first (ci zV (hB _ (List.mem_cons_self ..))) hn hl) w hw
 refine h1.mono ?_
 rintro e w' ⟨r,M,rfl,⟨M',rfl,hr,rfl⟩,hw'⟩
 exact⟨r,_,rfl,⟨hr,rfl⟩,hw'⟩
theorem dA(T:List UInt32)(b:Nat)(ls:List (List UInt8))(hT:GQ K w0 T)(hn:ls.flatten.length≤1099511627776)(hl:ls.length≤1099511627776):zC K w0 240 [.slice (some ⟨b,0,none⟩) ls.length ls.length] [AK b (.cells (DM vS ls) 9)] H (fun r M=>r=vS (NF T ls.flatten)∧M=[AK b (.cells (DM vS ls) 9)]):=by
 intro w hw
 have h1:=Cl (P:=Tryz.prog) (K:=K) (w0:=w0) (f:=240) (args:=[.slice (some ⟨b,0,none⟩) ls.length ls.length]) (H:=H) (B:=[AK b (.cells (DM vS ls) 9)]) (Hin:=[]) (post:=fun r M=>r=vS (NF T ls.flatten)∧M=[]) (fun K' w1 hk hB=>UE T _ ls (hT.keeps hk).tab hT.len (hT.keeps hk).first (CG.lent (enc:=Tt) (sz:=1) zV (Nat.le_refl _) (by rw[Tv,WS];exact List.take_of_length_le zS) (hB _ (List.mem_cons_self ..))) hn hl) w hw
 refine h1.mono ?_
 rintro e w' ⟨r,M,rfl,⟨M',rfl,hr,rfl⟩,hw'⟩
 exact⟨r,_,rfl,⟨hr,rfl⟩,hw'⟩
theorem WU(T:List UInt32)(key:List UInt8)(c:UInt8)(hT:GQ K w0 T)(hn:key.length≤549755813888):zC K w0 241 [vS key,EE c] [] H (fun r M=>r=vS (Fv T key c)∧M=[]):=by
 refine T6.enter Tryz.func241 rfl rfl ?_
 refine Y (U E (V ?_))
 refine XT (α:=Unit) (fun _=>True) (fun _=>[(0,vS (FH T key)),(1,EE c)]) (fun _=>H) ?_ (fun x hx=>?_)
 refine Y (J E (Bz E Ce E (AA E Cm (V ?_))))
 refine A0 E (fun hc1=>?_) (fun hc1=>?_)
 refine AS (J rfl (AM 0 pL (ep T key hT.tab hT.len hT.first zO) rfl (U rfl (Aa ?_))))
 have hk:FH T key=NF T key:=by unfold FH;rw[if_pos (by simp at hc1;omega)]
 exact TB () zT (by rw[hk];exact⟨E,E,zT⟩)
 refine AJ ?_
 have hk:FH T key=key:=by unfold FH;rw[if_neg (by simp at hc1;omega)]
 exact TB () zT (by rw[hk];exact⟨E,E,zT⟩)
 
 have hkl:=Vx T key
 refine Y (J E (J E (Bz E Ce E (AA E (D0 zO zO) ?_))))
 refine Bo (vs:=[_,_]) (Hin:=[]) E E ⟨E,E,zT⟩ SU (by rw[show(64-(((FH T key).length:Nat):Int))=((64-(FH T key).length:Nat):Int) by omega];rfl) E (NZ (64-(FH T key).length) zO) ?_
 rintro _ _ ⟨rfl,rfl⟩
 refine⟨trivial,?_⟩
 refine AA E (FR zQ) (U E (V (Y ?_)))
 refine Ar E Ys zU fun b0=>?_
 refine V (AH (Y (J E (V (AQ (Ik 5 1 (SX.pick [1,0] 2 ?_)))))))
 refine SX.mono (BU (α:=Nat×Value×Value) (fun x=>x.1≤64∧Ov b0 x.2.1) (fun x=>[(0,vS (FH T key++List.replicate (64-(FH T key).length) 0)),(1,EE c),(5,vP b0 0),(18,vI x.1)]) (fun x=>AK b0 (.cells #[x.2.1,x.2.2] 136)::DP 5 1 x.2.2 x.1 (((Fv T key c).take x.1).map fun b=>EE b)::H) (fun x=>64-x.1) (fun x D hp=>?_) (0,.pointer none,zN) ⟨by decide,.inl E⟩) tL
 obtain⟨i,p,v⟩:=x
 obtain⟨hp,hadr⟩:=hp
 simp only at hp hadr
 refine Y (AA E BD (V (AH ?_)))
 refine A0 E (fun hc2=>?_) (fun hc2=>?_)
 have hi:i<64:=by simp at hc2;omega
 refine AJ (AI (AH (AQ (Y (J E (U E (V (AS (J E (J E (Kj i E Ce E E zO zQ (J E (AA E S7 (BY 2 W9 (OX 136 b0 p v i _ _ hadr RD zO) E ?_))))))))))))))
 rintro _ _ ⟨rfl,v',rfl⟩
 refine Aa (Ay (AI (AS (AA E (Bj zO zO) (J E (Aa ?_))))))
 refine A1 (i+1,vP b0 0,v') ⟨by simp only;omega,.inr E⟩ (by simp only;omega) tL (fun w hw=>by
  have e1:(Fv T key c).take (i+1)=(Fv T key c).take i++[(FH T key++List.replicate (64-(FH T key).length) 0).getD i 0 ^^^ c]:=by
   rw[List.take_add_one,Y7]
   simp[Fv,hi]
  simp only
  rw[e1,List.map_append]
  exact hw)
 have hi:i=64:=by simp at hc2;omega
 subst hi
 have ht:(Fv T key c).take 64=Fv T key c:=List.take_of_length_le (by rw[Lm];omega)
 rw[ht]
 refine A4 (A9 (Bi (BA (AI (Y (AM 2 P2 (JT 136 b0 p v 64 (Fv T key c) zO) E (U E (V (AL ?_)))))))))
 exact Al (Cn E E) (Ak (M:=[]) ⟨E,E⟩ fun _ h=>h.skip [_,_])
theorem Xf(T:List UInt32)(key:List UInt8)(ls:List (List UInt8))(bs:Nat)(hT:GQ K w0 T)(hn:key.length≤549755813888)(hls:ls.flatten.length≤549755813888)(hl:ls.length≤549755813888):zC K w0 203 [vS key,.slice (some ⟨bs,0,none⟩) ls.length ls.length] [AK bs (.cells (DM vS ls) 9)] H (fun r M=>r=vS (Rf T key ls.flatten)∧M=[]):=by
 refine T6.enter Tryz.func203 rfl rfl ?_
 refine Y (U E (V (Y (J E (AM 0 hI (WU T key 54 hT hn) E ?_)))))
 refine CE [_] E Eb HC TZ ⟨E,zT⟩ E E E zX E E zU fun b0=>?_
 refine J E ?_
 refine SL.heap (H':=DP 9 1 (.slice (some ⟨b0,0,none⟩) 1 1) 1 [vS (Fv T key 54)]::AK bs (.cells (DM vS ls) 9)::H) ?_ (fun w hw=>Zs hw E (Nat.le_refl 1) zD)
 refine Ui 0 rfl (m:=ls.length) (news:=ls.map vS) Eb HC na TZ rfl zD rfl rfl rfl zS (An 1 rfl) (by intro u hu;obtain⟨x,_,rfl⟩:=List.mem_map.1 hu;rfl) zO zO zU fun v'=>?_
 have e1:DP 9 1 v' (1+ls.length) ([vS (Fv T key 54)]++ls.map vS)=DP 9 1 v' (Fv T key 54::ls).length ((Fv T key 54::ls).flatMap Tt):=by
  rw[Tv,List.length_cons,Nat.add_comm];rfl
 rw[e1]
 refine AM 1 ah (dB T v' (Fv T key 54::ls) hT (by simp only[List.flatten_cons,List.length_append,Lm];omega) (by simp only[List.length_cons];omega)) E (U E (V (Y (J E (AM 0 hI (WU T key 92 hT hn) E (J E ?_))))))
 refine CE [_,_] E Eb HC TZ ⟨E,E,zT⟩ E E E zX E E zU fun b1=>?_
 refine AM 1 ah (dA T b1 [Fv T key 92,NF T (Fv T key 54::ls).flatten] hT (by simp[Lm,I6]) zS) E (U E (V (AL ?_)))
 exact Al (Cn E E) (Ak (M:=[]) ⟨by simp[Rf],E⟩ fun _ h=>h.skip [_,_,_])
theorem W1(T:List UInt32)(key label:List UInt8)(bk bl:Nat)(hT:GQ K w0 T)(hn:key.length≤549755813888)(hl:label.length≤274877906944):kY Tryz.prog K w0 302 [vP bk 0,vP bl 0] [AK bl (.cells #[vS label] 9),AK bk (.cells #[vS key] 9)] Tt (U5 T key label):=by
 intro lp J9 X T1 hy G h0
 refine T6.enter Tryz.func302 rfl rfl ?_
 refine Y (U E (V (Y (U E (V (AQ ?_))))))
 refine SX.mono (BU (α:=Nat×List AZ) (fun x=>x.1≤255∧J9 ((U5 T key label).take x.1) x.2) (fun x=>[(0,vY lp),(1,vP bk 0),(2,vP bl 0),(4,vS (QV T key label x.1)),(5,vI (x.1+1:Nat))]) (fun x=>AK bl (.cells #[vS label] 9)::AK bk (.cells #[vS key] 9)::(x.2++T1)) (fun x=>255-x.1) (fun x D hp=>?_) (0,G) ⟨by simp,h0⟩) tL
 obtain⟨i,G⟩:=x
 obtain⟨hi,hJ⟩:=hp
 simp only at hi hJ
 refine AH (Y (J E (AA E I8 (V ?_))))
 refine A0 E (fun hc1=>?_) (fun hc1=>?_)
 have hlt:i<255:=by simp at hc1;omega
 have hg:=ZO T key label i hlt
 have hel:=au T key label i
 refine AJ (AI (AH (AQ (Y (AG 1 GP E (J E (AG 0 GP E (J E (BM E E (Qh JQ DG) ?_)))))))))
 refine CE [_] E Ca Ji Kh ⟨E,zT⟩ E E E zX E E zU fun b0=>?_
 refine S8 [_] E Ca DG Ce E E (An 0 E) ?_
 refine CE [_,_,_] E Eb HC TZ ⟨E,E,E,zT⟩ E E E zX E E zU fun b1=>?_
 refine AM 1 gu (Xf T key [QV T key label i,label,[If ((i+1:Nat):Int)]] _ hT hn zQ zS) E (U E (V (Y (J E (J E ?_)))))
 have e1:Rf T key [QV T key label i,label,[If ((i+1:Nat):Int)]].flatten=QV T key label (i+1):=by simp[QV]
 rw[e1]
 refine HQ (M2:=[_,_,_]) (G:=G) (T:=T1) (vs:=[_]) (ok:=fun G1=>J9 ((U5 T key label).take (i+1)) G1) (no:=X) E E ⟨E,zT⟩ E ?_ (fun bb G1 hG1=>⟨zT,?_⟩)
 intro M
 have:=hy _ _ _ (E1 hg).1 G hJ M
 rw[←(E1 hg).2]at this
 exact this
 refine CW E E (V ?_)
 refine A0 E (fun hc2=>?_) (fun hc2=>?_)
 obtain rfl:bb=false:=by simpa using hc2
 refine AL (BC (Ac (Ea (BC ?_))))
 exact Al (Dh E) (Ak (M:=G1) (.inr hG1) fun _ h=>h.skip [_,_,_])
 obtain rfl:bb=true:=by simpa using hc2
 refine AJ (Ay (AI (AS (J E (AA E (Bj zO zO) (U E (Aa ?_)))))))
 exact A1 (i+1,G1) ⟨hlt,hG1⟩ (by simp only;omega) tL (fun w hw=>hw.skip [_])
 refine A4 (A9 (Bi (BA ?_)))
 have hle:i=255:=by simp at hc1;omega
 exact C9 (Dh E) (Ak (M:=G) (.inl (by rw[List.take_of_length_le (by rw[U6];omega)]at hJ;exact hJ)) fun _ h=>h.skip [_,_])
theorem Wr(key label:List UInt8):zC K w0 271 [vS key,vS label] [] H (fun r M=>∃bk bl,r=.func (.func 302) #[] #[vP bk 0,vP bl 0]∧M=[AK bl (.cells #[vS label] 9),AK bk (.cells #[vS key] 9)]):=by
 refine T6.enter Tryz.func271 rfl rfl ?_
 refine Y ?_
 refine Ba E E zU fun b0=>?_
 refine Ba E E zU fun b1=>?_
 refine U E (V (Y ?_))
 refine G3 (fv:=#[]) (cv:=#[_,_]) E E E ?_
 refine U E (V (AL ?_))
 exact Al (Cn E E) (Ak (M:=[_,_]) ⟨b0,b1,E,E⟩ fun _ h=>h)
theorem Tg(T:List UInt32)(key label:List UInt8)(hT:GQ K w0 T)(hn:key.length≤549755813888)(hl:label.length≤274877906944):zC K w0 236 [vS key,vS label,vI 32] [] H (fun r M=>r=.tuple #[vS (GM T key label),vI 0]∧M=[]):=by
 refine T6.enter Tryz.func236 rfl rfl ?_
 refine Y ?_
 refine Ba E E zU fun b0=>?_
 refine U E (U E (V (Km (AH (Y (AG 0 FI E (AA E BD (J E ?_))))))))
 refine E2 (c:=decide ((8160:Int)<32)) 12 3 15 E (fun hb k=>?_) (fun hb k=>?_) ?_
 refine AB E (AB E (Ag E E E ?_))
 exact k.mono tL
 refine AG 0 FI E (AA E Cm (Ag E E E ?_))
 exact k.mono tL
 refine V ?_
 refine A0 E (fun hc1=>absurd hc1 zD) (fun hc1=>?_)
 refine AJ (AI (Y ?_))
 refine Ar E Ys zU fun b1=>?_
 refine V (AH (Kl (AI (AH (Y (J E (J E (BY 0 pH (Wr key label) E ?_))))))))
 rintro _ _ ⟨bk,bl,rfl,rfl⟩
 refine V (Ik 5 1 (SX.pick [1,2,3,0,4] 5 (AQ ?_)))
 refine TC (enc:=Tt) (U5 T key label) (fun pre G=>pre.length≤1∧∃p v,Ov b1 p∧G=AK b1 (.cells #[p,v] 136)::DP 5 1 v pre.flatten.length (pre.flatten.map fun b=>EE b)::AK b0 (.cells #[vI 32] 3)::H) (fun c G=>c=.exit 0∧∃p v,Ov b1 p∧G=AK b1 (.cells #[p,v] 136)::DP 5 1 v 32 ((GM T key label).map fun b=>EE b)::AK b0 (.cells #[vI 32] 3)::H) E pR E zV (W1 T key label bk bl hT hn hl) E ⟨Nat.zero_le _,_,_,.inl E,E⟩ (fun pre x suf G hxs hJ r lp Rest=>?_) (fun G D hJ=>?_) (fun c G D hX=>?_)
 obtain⟨hpl,p,v,hadr,rfl⟩:=hJ
 have hx0:(U5 T key label)[0]? = some (GM T key label):=by rw[ZO T key label 0 zD,jK]
 have he:(GM T key label).length=32:=Hn ..
 refine AS (U E (Aa (Kk (AQ (AH (AH (A2 DE [2] (C3 [(true,1),(false,0),(true,2)]) zK (AG 0 FI E (Bf 2 ak (aB 136 b1 p v _ _) E ⟨⟨2,E⟩,zT⟩ (AA E LU (V ?_)))))))))))
 refine A0 E (fun hc2=>?_) (fun hc2=>?_)
 have hpre:pre=[GM T key label]:=by
  match pre,hpl with
  | [],_=>simp at hc2
  | [y],_=>rw[hxs]at hx0;simpa using hx0
 subst hpre
 refine A4 (A9 (HR ?_))
 refine N1 (G:=AK b1 (.cells #[p,v] 136)::DP 5 1 v 32 ((GM T key label).map fun b=>EE b)::AK b0 (.cells #[vI 32] 3)::H) ⟨E,p,v,hadr,E⟩ (fun w hw=>?_)
 have e1:[GM T key label].flatten=GM T key label:=by simp
 rw[e1,he]at hw
 exact hw
 have hpre:pre=[]:=by
  match pre,hpl with
  | [],_=>rfl
  | [y],_=>
   rw[hxs]at hx0
   obtain rfl:y=GM T key label:=by simpa using hx0
   simp[he]at hc2
 subst hpre
 obtain rfl:x=GM T key label:=by rw[hxs]at hx0;simpa using hx0
 refine AJ (AI (AS (J E (BY 2 SV (Gi 136 b1 p v _ _ (GM T key label) hadr RD (by simp[he])) E ?_))))
 rintro _ _ ⟨rfl,v',rfl⟩
 refine Aa (Ay ?_)
 refine IA (G:=AK b1 (.cells #[vP b1 0,v'] 136)::DP 5 1 v' ([]++[GM T key label]).flatten.length (([]++[GM T key label]).flatten.map fun b=>EE b)::AK b0 (.cells #[vI 32] 3)::H) ⟨by simp,_,v',.inr E,E⟩ (fun w hw=>?_)
 have e1:([]++[GM T key label]).flatten=GM T key label:=by simp
 rw[e1]
 simpa using hw
 exact absurd hJ.1 (by rw[U6];omega)
 obtain⟨rfl,p,v,hadr,rfl⟩:=hX
 have he:(GM T key label).length=32:=Hn ..
 refine A4 (BA (AI (AH (A2 DE [2] (C3 [(true,1),(false,0),(true,2),(true,3),(true,4)]) zK (AG 0 FI E (Bf 2 P2 (JT 136 b1 p v 32 (GM T key label) zO) E ⟨⟨2,E⟩,zT⟩ (Ry 32 E Ce E E zO zO (U E (U E (V (AL (EO ?_))))))))))))
 exact Al (ET E E E) (Ak (M:=[]) ⟨by rw[List.take_of_length_le zO],E⟩ fun _ h=>h.skip [_,_,_])
end

section
variable {K:Nat→Prop}{w0:World}{H:List AZ}
theorem aG(T:List UInt32)(k:BV)(hT:GQ K w0 T):zC K w0 199 [.agg (AY k).toArray] [] H (fun r M=>r=(if DV [k]=true then .tuple #[vS (PT T k Nq),vS (PT T k OE),vI 0]else .tuple #[vS [],vS [],vI 40])∧M=[]):=by
 refine T6.enter Tryz.func199 rfl rfl ?_
 refine Y ?_
 refine Ba E E zU fun b0=>?_
 refine U E (U E (U E (V (AH (Y (Aw (AY k) E LJ E E (An 0 E) ?_))))))
 refine CE [_] E GV E4 Jk ⟨E,zT⟩ E E E (by simp[Value.cells,AY]) E E zU fun b1=>?_
 refine Bo (vs:=[_]) (Hin:=[_]) E E ⟨E,zT⟩ fA E E (Cl (B:=[AK b1 (.cells (AY k).toArray 114)]) (Hin:=[]) fun K' w1 hk hB=>P1 _ [k] (CG.lent (enc:=AY) (sz:=2) (xs:=[k]) zV (Nat.le_refl 1) E (hB _ (List.mem_cons_self ..))) E zS) ?_
 rintro _ _ ⟨M',rfl,rfl,rfl⟩
 refine⟨trivial,?_⟩
 refine CW E E (V ?_)
 refine A0 E (fun hc1=>?_) (fun hc1=>?_)
 have hr:DV [k]=false:=by simpa using hc1
 refine Y (U E (U E (U E (V (AL (Ac ?_))))))
 exact Al (VY E E E E) (Ak (M:=[]) ⟨by rw[hr];rfl,E⟩ fun _ h=>h.skip [_,_])
 have hr:DV [k]=true:=by simpa using hc1
 have hkl:=Wg hr
 refine AJ (AI (Y (AF E FV (AG 1 A6 E (BM E E (Cx CP DG) (AF E FV (AG 1 A6 E ?_)))))))
 refine AA E (FQ.shr32 (n:=8)) ?_
 refine BM E E (Cx CP DG) (AF E FV (AG 1 A6 E ?_))
 refine AA E (FQ.shr32 (n:=16)) ?_
 refine BM E E (Cx CP DG) (AF E FV (AG 1 A6 E ?_))
 refine AA E (FQ.shr32 (n:=24)) ?_
 refine BM E E (Cx CP DG) ?_
 refine CE [_,_,_,_] E Ca Ji Kh ⟨E,E,E,E,zT⟩ E E E zX E E zU fun b2=>?_
 refine S8 [_,_,_,_] E Ca DG Ce E E (An 0 E) (U E (V (Y (AF E QY (AG 2 GP E (J E ?_))))))
 refine AA E (FR (s:=Nq) (t:=Fu k.gen) (by simp[Fu,Nq])) ?_
 refine AM 0 hG (Tg T k.secret (Nq++Fu k.gen) hT zO (by simp[Fu,Nq])) E (J E (Af E E E (Af E E E (U E (U E (V (Y (AF E QY (AG 2 GP E ?_)))))))))
 refine J E ?_
 refine AA E (FR (s:=OE) (t:=Fu k.gen) (by simp[Fu,OE])) ?_
 refine AM 0 hG (Tg T k.secret (OE++Fu k.gen) hT zO (by simp[Fu,OE])) E (J E (Af E E E (Af E E E (U E (U E (V (Y (J E (J E ?_)))))))))
 refine U E (U E (U E (V (AL ?_))))
 exact Al (VY E E E E) (Ak (M:=[]) ⟨by rw[hr];rfl,E⟩ fun _ h=>h.skip [_,_,_])
theorem eh(s:List UInt8)(hn:s.length≤9223372036854775807):zC K w0 198 [vS s] [] H (fun r M=>r=(if 198<s.length then .tuple #[vS [],vI 50]else .tuple #[vS (Ka s),vI 0])∧M=[]):=by
 refine T6.enter Tryz.func198 rfl rfl ?_
 refine Y (U E (U E (V (AH (Y (J E (Bz E Ce E (AA E Cm (V ?_)))))))))
 refine A0 E (fun hc1=>?_) (fun hc1=>?_)
 have h0:198<s.length:=by simp at hc1;omega
 refine Y (U E (U E (V (AL (Ac ?_)))))
 exact Al (ET E E E) (Ak (M:=[]) ⟨by rw[if_pos h0],E⟩ fun _ h=>h.skip [])
 have h0:¬198<s.length:=by simp at hc1;omega
 have e1:(198-(s.length:Int))=((198-s.length:Nat):Int):=zO
 refine AJ (AI (AH (A2 DE [] (CK [(true,0),(true,1),(true,2),(true,3),(true,4),(true,5),(true,6),(true,9),(true,11),(true,12),(true,13)] (.alt 7 (.alt 8 (C3 [(true,10),(false,14),(true,15),(true,16),(true,17)]) (.cons (false,14) (C3 [(false,8),(true,10),(true,15),(true,16),(true,17)]))) (.cons (false,14) (C3 [(false,7),(false,8),(true,10),(true,15),(true,16),(true,17)])))) zK (J E (Bz E Ce E ?_)))))
 refine AA E (i0 (n:=8) zO zO) ?_
 refine BM E E (Qh JQ DG) (J E (Bz E Ce E (BM E E (Qh JQ DG) (J E (J E (Bz E Ce E (AA E (D0 zO zO) ?_)))))))
 rw[e1]
 refine Ql ?_ ?_
 refine CE [_,_] E Ca Ji Kh ⟨E,E,zT⟩ E E E zX E E zU fun b0=>?_
 refine Ql ?_ ?_
 refine S8 [_,_] E Ca DG Ce E E (An 0 E) (AA E (FR zQ) (AM 0 SU (NZ (198-s.length) zO) E (AA E (FR zQ) (U E (U E (V (AL ?_)))))))
 exact Al (ET E E E) (Ak (M:=[]) ⟨by rw[if_neg h0];rfl,E⟩ fun _ h=>h.skip [_])
 refine AM 0 SU (NZ (198-s.length) zO) E (S8 [_,_] E Ca DG Ce E E (An 0 E) (AA E (FR zQ) (AA E (FR zQ) (U E (U E (V (AL ?_)))))))
 exact Al (ET E E E) (Ak (M:=[]) ⟨by rw[if_neg h0];rfl,E⟩ fun _ h=>h.skip [_])
 refine AM 0 SU (NZ (198-s.length) zO) E ?_
 refine CE [_,_] E Ca Ji Kh ⟨E,E,zT⟩ E E E zX E E zU fun b0=>?_
 refine S8 [_,_] E Ca DG Ce E E (An 0 E) (AA E (FR zQ) (AA E (FR zQ) (U E (U E (V (AL ?_))))))
 exact Al (ET E E E) (Ak (M:=[]) ⟨by rw[if_neg h0];rfl,E⟩ fun _ h=>h.skip [_])
end

section
variable {K:Nat→Prop}{w0:World}{H:List AZ}
def qH(x:UInt32):List Value:=[Z x]
theorem cK{s:List UInt8}{j:Nat}(h:j<s.length / 4):(CV s)[j]? = some (J4 s (4*j)):=by simp[CV,h]
theorem cn(s:List UInt8)(hs:4≤s.length):zC K w0 317 [vS s] [] H (fun r M=>r=Z (J4 s 0)∧M=[]):=by
 refine T6.enter Tryz.func317 rfl rfl ?_
 refine Y (U E (V (AH (A2 DE [] (C3 [(true,0),(true,1),(true,2),(true,3),(true,4),(true,5),(true,6),(true,7),(true,8),(true,9),(true,10),(true,11),(true,12),(true,13),(true,14),(true,15),(true,16),(true,17),(true,18)]) zK (J E (Kj 0 E Ce E E zO zO (BM E E (FE DG CP) (J E (Kj 1 E Ce E E zO zO (BM E E (FE DG CP) ?_))))))))))
 refine AA E (FQ.shl32 (n:=8)) ?_
 refine AA E Es (J E (Kj 2 E Ce E E zO zO (BM E E (FE DG CP) ?_)))
 refine AA E (FQ.shl32 (n:=16)) ?_
 refine AA E Es (J E (Kj 3 E Ce E E zO zO (BM E E (FE DG CP) ?_)))
 refine AA E (FQ.shl32 (n:=24)) ?_
 refine AA E Es (U E (V (AL ?_)))
 exact Al (Cn E E) (Ak (M:=[]) ⟨E,E⟩ fun _ h=>h.skip [])
theorem bV(ls:List (List UInt8))(bl bs:Nat)(hl:ls.length≤549755813888)(hls:∀s∈ls,s.length≤549755813888):kY Tryz.prog K w0 316 [vP bl 0] [AK bl (.cells #[.slice (some ⟨bs,0,none⟩) ls.length ls.length] 40),AK bs (.cells (DM vS ls) 9)] qH (ls.flatMap CV):=by
 intro lp J9 X T1 hy G h0
 refine T6.enter Tryz.func316 rfl rfl ?_
 refine Y (AG 0 Pw E (H9 E Eb E (J E (V (AQ ?_)))))
 refine SX.mono (BU (α:=Nat×List AZ) (fun x=>x.1≤ls.length∧J9 ((ls.take x.1).flatMap CV) x.2) (fun x=>[(0,vY lp),(5,.slice (some ⟨bs,0,none⟩) ls.length ls.length),(6,vI ls.length),(7,vI x.1)]) (fun x=>AK bl (.cells #[.slice (some ⟨bs,0,none⟩) ls.length ls.length] 40)::AK bs (.cells (DM vS ls) 9)::(x.2++T1)) (fun x=>ls.length-x.1) (fun x D hp=>?_) (0,G) ⟨Nat.zero_le _,h0⟩) tL
 obtain⟨i,G⟩:=x
 obtain⟨hi,hJ⟩:=hp
 simp only at hi hJ
 refine Y (AA E BD (V (AH ?_)))
 refine A0 E (fun hc1=>?_) (fun hc1=>?_)
 have hlt:i<ls.length:=by simpa using hc1
 obtain⟨s,hs⟩:=PG hlt
 have hsl:=hls s (List.mem_of_getElem? hs)
 have hsplit:=E1 hs
 refine AJ (AI (AH (AQ (Y ?_))))
 refine nK (n:=i) E Eb HC E E zO zO ?_
 refine B0 E GP E (Cp 1 E (Eu hs)) (U E (V (AQ ?_)))
 refine SX.mono (BU (α:=Nat×List AZ) (fun x=>x.1≤s.length / 4∧J9 ((ls.take i).flatMap CV++(CV s).take x.1) x.2) (fun x=>[(0,vY lp),(4,vS (s.drop (4*x.1))),(5,.slice (some ⟨bs,0,none⟩) ls.length ls.length),(6,vI ls.length),(7,vI i)]) (fun x=>AK bl (.cells #[.slice (some ⟨bs,0,none⟩) ls.length ls.length] 40)::AK bs (.cells (DM vS ls) 9)::(x.2++T1)) (fun x=>s.length / 4-x.1) (fun x D hp=>?_) (0,G) ⟨Nat.zero_le _,by simpa using hJ⟩) tL
 obtain⟨j,G⟩:=x
 obtain⟨hj,hJ2⟩:=hp
 simp only at hj hJ2
 refine AH (Y (J E (Bz E Ce E (AA E LU (V ?_)))))
 refine A0 E (fun hc2=>?_) (fun hc2=>?_)
 have hjlt:j<s.length / 4:=by simp at hc2;omega
 have hw:=cK hjlt
 have hws:=E1 hw
 refine AJ (AI (AH (AQ (Y (J E (J E (AM 0 pX (cn (s.drop (4*j)) zQ) E ?_)))))))
 rw[cJ,Nat.add_zero]
 refine HQ (M2:=[_,_]) (G:=G) (T:=T1) (vs:=[_]) (ok:=fun G1=>J9 ((ls.take i).flatMap CV++(CV s).take (j+1)) G1) (no:=X) E E ⟨E,zT⟩ E ?_ (fun bb G1 hG1=>⟨zT,?_⟩)
 intro M
 have e1:ls.flatMap CV=((ls.take i).flatMap CV++(CV s).take j)++J4 s (4*j)::((CV s).drop (j+1)++(ls.drop (i+1)).flatMap CV):=by
  have h1:ls.flatMap CV=(ls.take i).flatMap CV++(CV s++(ls.drop (i+1)).flatMap CV):=by
   rw[←List.flatMap_cons,←List.flatMap_append,←hsplit.1]
  have h2:CV s++(ls.drop (i+1)).flatMap CV=(CV s).take j++J4 s (4*j)::((CV s).drop (j+1)++(ls.drop (i+1)).flatMap CV):=by
   rw[←List.cons_append,←List.append_assoc,←hws.1]
  rw[h1,h2,List.append_assoc]
 have:=hy _ _ _ e1 G hJ2 M
 rw[List.append_assoc,←hws.2]at this
 exact this
 refine CW E E (V ?_)
 refine A0 E (fun hc3=>?_) (fun hc3=>?_)
 obtain rfl:bb=false:=by simpa using hc3
 refine AL (BC (Ac (Ea (BC (BC (Ac (Ea (BC ?_))))))))
 exact Al (Dh E) (Ak (M:=G1) (.inr hG1) fun _ h=>h.skip [_,_])
 obtain rfl:bb=true:=by simpa using hc3
 refine AJ (Ay (AI (AS (J E (Ot 4 E Ce E E zO zQ ?_)))))
 rw[List.drop_drop,show 4*j+4=4*(j+1) by omega]
 refine U E (Aa ?_)
 exact A1 (j+1,G1) ⟨hjlt,hG1⟩ (by simp only;omega) tL
 have hje:j=s.length / 4:=by simp at hc2;omega
 refine A4 (A9 (Bi (BA (Ay (AI (AS (AA E (Bj zO zO) (J E (Aa ?_)))))))))
 refine A1 (i+1,G) ⟨hlt,?_⟩ (by simp only;omega) tL
 simp only
 rw[hsplit.2,List.flatMap_append,List.flatMap_cons,List.flatMap_nil,List.append_nil]
 have ht:(CV s).take j=CV s:=List.take_of_length_le (by rw[ED];omega)
 rw[ht]at hJ2
 exact hJ2
 have hle:i=ls.length:=by simp at hc1;omega
 refine A4 (A9 (Bi (BA ?_)))
 exact C9 (Dh E) (Ak (M:=G) (.inl (by rw[hle,List.take_length]at hJ;exact hJ)) fun _ h=>h.skip [_,_])
theorem aE(ls:List (List UInt8))(bs:Nat):zC K w0 303 [.slice (some ⟨bs,0,none⟩) ls.length ls.length] [AK bs (.cells (DM vS ls) 9)] H (fun r M=>∃bl,r=.func (.func 316) #[] #[vP bl 0]∧M=[AK bl (.cells #[.slice (some ⟨bs,0,none⟩) ls.length ls.length] 40),AK bs (.cells (DM vS ls) 9)]):=by
 refine T6.enter Tryz.func303 rfl rfl ?_
 refine Y ?_
 refine Ba E E zU fun b0=>?_
 refine U E (V (Y ?_))
 refine G3 (fv:=#[]) (cv:=#[_]) E E E ?_
 refine U E (V (AL ?_))
 exact Al (Cn E E) (Ak (M:=[_,_]) ⟨b0,E,E⟩ fun _ h=>h)
theorem aD(key nonce:List UInt8)(counter:UInt32)(hk:key.length=32)(hn:nonce.length=12):zC K w0 272 [vS key,Z counter,vS nonce] [] H (fun r M=>r=.agg (DM Z (HS key counter nonce))∧M=[]):=by
 refine T6.enter Tryz.func272 rfl rfl ?_
 refine Y ?_
 refine Ar E cM zU fun b0=>?_
 refine V (Km (Y ?_))
 refine Ar E cM zU fun b1=>?_
 refine V (Y ?_)
 refine Ar E qC zU fun b2=>?_
 refine A7 0 E E E E PU E E E zT (V (Y (J E (BM E E (Cx CP DG) (J E ?_)))))
 refine AA E (FQ.shr32 (n:=8)) ?_
 refine BM E E (Cx CP DG) (J E ?_)
 refine AA E (FQ.shr32 (n:=16)) ?_
 refine BM E E (Cx CP DG) (J E ?_)
 refine AA E (FQ.shr32 (n:=24)) ?_
 refine BM E E (Cx CP DG) ?_
 refine CE [_,_,_,_] E Ca Ji Kh ⟨E,E,E,E,zT⟩ E E E zX E E zU fun b3=>?_
 refine S8 [_,_,_,_] E Ca DG Ce E E (An 0 E) (U E (V (AH (Kl (AI (AH (Y (J E (J E (J E ?_))))))))))
 refine CE [_,_,_,_] E Eb HC TZ ⟨E,E,E,E,zT⟩ E E E zX E E zU fun b4=>?_
 refine BY 1 pS (aE [J8,key,Fu counter,nonce] b4) E ?_
 rintro _ _ ⟨bl,rfl,rfl⟩
 refine V ?_
 have hbl:=Mg (counter:=counter) hk hn
 have hfm:[J8,key,Fu counter,nonce].flatMap CV=HS key counter nonce:=by simp[HS,List.flatMap_cons]
 refine AQ ?_
 refine TC (enc:=qH) ([J8,key,Fu counter,nonce].flatMap CV) (fun pre G=>G=AK b3 (.cells (DM EE (Fu counter)) 5)::AK b2 (.cells #[vI pre.length] 3)::AK b1 (.cells (DM Z (pre++List.replicate (16-pre.length) 0)) 359)::AK b0 (.cells (DM Z (List.replicate 16 0)) 359)::H) (fun c G=>False) E pW E zV (bV [J8,key,Fu counter,nonce] bl b4 zS (by simp[hk,hn,J8,Fu])) E E (fun pre x suf G hxs hJ r lp Rest=>?_) (fun G D hJ=>?_) (fun c G D hX=>hX.elim)
 obtain rfl:=hJ
 have hlt:pre.length<16:=by
  rw[hfm]at hxs
  rw[hxs]at hbl
  simp at hbl
  omega
 refine AS (U E (Aa (Kk (AQ (AH (Y (AG 1 FI E (AA E BS (V ?_)))))))))
 refine A0 E (fun hc1=>absurd hc1 zQ) (fun hc1=>?_)
 refine AJ (AI (Y (AG 1 FI E (J E ?_))))
 refine Cy (n:=pre.length) E QF Bq E E zO zO ?_
 refine Ul (f:=Z) 2 E E E E Bq E E zQ zT ?_
 rw[TI pre 0 x 16 pre.length rfl hlt]
 refine V (AS (AG 1 FI E (AA E (Bj zO zO) (A7 1 E E E E PU E E E zT (Aa (Ay ?_))))))
 refine IA (G:=_::_::_::_::H) ?_ (fun _ h=>h)
 have e1:(pre++[x]).length=pre.length+1:=by simp
 rw[e1]
 rfl
 obtain rfl:=hJ
 rw[hfm,hbl]
 have e1:HS key counter nonce++List.replicate (16-16) 0=HS key counter nonce:=by simp
 rw[e1]
 refine Ay (AI (Y ?_))
 refine Aw ((HS key counter nonce).map Z) E eW (by simp[hbl]) E (Ck 2 E (fun j u hu=>by simpa[DM]using hu)) ?_
 refine OW 3 E E E E mZ (by simp[hbl]) (by simp[DM]) (N2 zV (HS key counter nonce)) zT ?_
 refine V (AL (EO ?_))
 exact Al (Id E (CC 3 ((HS key counter nonce).map Z) eW (by simp[hbl]) E E (by simp only[List.drop_zero];exact List.take_of_length_le (by simp[hbl])))) (Ak (M:=[]) ⟨E,E⟩ fun _ h=>h.skip [_,_,_,_])
end

section
variable {K:Nat→Prop}{w0:World}{H:List AZ}
theorem jU:∀n:Fin 32,(Cq (n.1:Int) &&& 31).toNat=n.1∧(32-(Cq (n.1:Int) &&& 31)).toNat=32-n.1:=by decide
theorem Zi(x:UInt32)(n:Nat)(h1:n<32):Va x (n:Int)=rl x n:=by
 obtain⟨e1,e2⟩:=jU ⟨n,h1⟩
 simp only at e1 e2
 unfold Va rl
 rw[e1,e2]
theorem jv:∀i,cA i<32 | 0=>(by decide:16<32) | _+1=>(by decide:8<32)
theorem jw:∀i,cB i<32 | 0=>(by decide:12<32) | _+1=>(by decide:7<32)
theorem R8(q:Q4):zC K w0 304 [Z q.a,Z q.b,Z q.c,Z q.d] [] H (fun r M=>r=.agg (DM Z q.quarter.list)∧M=[]):=by
 refine T6.enter Tryz.func304 rfl rfl ?_
 refine Y ?_
 refine Ar E S4 zU fun b0=>?_
 refine V (AH (Y (Uj [vI 16,vI 12] E cD PU gP E ⟨E,E,zT⟩ E E zX (Uj [vI 8,vI 7] E cD PU gP E ⟨E,E,zT⟩ E E zX ?_))))
 refine Bt (r:=#[vI 16,vI 12,vI 8,vI 7]) [_,_] E r6 rg sf ⟨E,E,zT⟩ E ?_
 refine J E (V (AQ ?_))
 refine SX.mono (BU (α:=Nat) (fun i=>i≤2) (fun i=>[(0,Z (q.steps i).a),(1,Z (q.steps i).b),(2,Z (q.steps i).c),(3,Z (q.steps i).d),(8,vP b0 0),(13,.agg #[vI 16,vI 12,vI 8,vI 7]),(14,vI i)]) (fun i=>AK b0 (.cells (DM Z [0,0,0,0]) 389)::H) (fun i=>2-i) (fun i D hp=>?_) 0 zO) tL
 refine Y (AA E BD (V (AH ?_)))
 refine A0 E (fun hc1=>?_) (fun hc1=>?_)
 have hi:i<2:=by simp at hc1;omega
 refine AJ (AI (AH (AQ (Y ?_))))
 refine Rx (i:=i) (c':=#[vI (cA i:Int),vI (cB i:Int)]) rfl sM qW rfl rfl zO zO (by rcases(by omega:i=0∨i=1)with rfl | rfl<;>rfl) ?_
 refine Ar E gP zU fun b1=>?_
 refine A7 0 E E E E sJ E E E zT (V (Y (J E (J E (AA E B4 (U E (V (Y (J E (J E (AA E Cf ?_)))))))))))
 refine Cy (n:=0) E cD PU E E zO zO ?_
 refine AG 0 FI E (AM 0 aj (HD _ (cA i:Int)) E ?_)
 rw[Zi _ _ (jv i)]
 refine U E (V (Y (J E (J E (AA E B4 (U E (V (AS (J E (J E (AA E Cf ?_)))))))))))
 refine Cy (n:=1) E cD PU E E zO zO ?_
 refine AG 0 FI E (AM 0 aj (HD _ (cB i:Int)) E ?_)
 rw[Zi _ _ (jw i)]
 refine U E (Aa (Ay (AI (AS (AA E (Bj zO zO) (J E (Aa ?_)))))))
 exact A1 (i+1) zO zO tL (fun w hw=>hw.skip [_])
 have hi:i=2:=by simp at hc1;omega
 subst hi
 refine A4 (A9 (Bi (BA (AI (Y (J E (J E (J E (J E ?_)))))))))
 refine Uj (q.quarter.list.map Z) rfl QG Bq S4 rfl ⟨rfl,rfl,rfl,rfl,trivial⟩ rfl rfl (fun v hv=>by obtain⟨x,_,rfl⟩:=List.mem_map.1 hv;rfl) ?_
 refine OW 0 E E E E WH E E (N2 zV q.quarter.list) zT ?_
 refine V (AL ?_)
 exact Al (Id E (CC 0 (q.quarter.list.map Z) eX E E E E)) (Ak (M:=[]) ⟨E,E⟩ fun _ h=>h.skip [_])
theorem Ur(ws:List UInt32)(step:Nat)(b:Nat)(e:TypeId)(hw:ws.length=16)(hs:step≤1):zC K w0 273 [vP b 0,vI step] [AK b (.cells (DM Z ws) e)] H (fun r M=>r=.tuple #[]∧M=[AK b (.cells (DM Z (Vb ws step)) e)]):=by
 refine T6.enter Tryz.func273 rfl rfl ?_
 refine Y (J E (V (AQ ?_)))
 refine SX.mono (BU (α:=Nat) (fun i=>i≤4) (fun i=>[(0,vP b 0),(1,vI step),(10,vI i)]) (fun i=>AK b (.cells (DM Z (DY ws step i)) e)::H) (fun i=>4-i) (fun i D hp=>?_) 0 zO) tL
 have hwl:(DY ws step i).length=16:=(Kd ws step i).trans hw
 refine Y (AA E BD (V (AH ?_)))
 refine A0 E (fun hc1=>?_) (fun hc1=>?_)
 have hi:i<4:=by simp at hc1;omega
 have h16:∀k,k<4→H2 step i k<16:=fun k hk=>by unfold H2;omega
 refine AJ (AI (AH (AQ (Y (J E (U E (V (Y ?_))))))))
 refine Ar E se zU fun b0=>?_
 refine V (AH (Y (J E (V (AQ ?_)))))
 refine SX.mono (BU (α:=Nat) (fun k=>k≤4) (fun k=>[(0,vP b 0),(1,vI step),(4,vI i),(5,vP b0 0),(10,vI i),(13,vI k)]) (fun k=>AK b0 (.cells (DM vI (((List.range k).map fun j=>((H2 step i j:Nat):Int))++List.replicate (4-k) 0)) 388)::AK b (.cells (DM Z (DY ws step i)) e)::H) (fun k=>4-k) (fun k D hp=>?_) 0 zO) tL
 refine Y (AA E BD (V (AH ?_)))
 refine A0 E (fun hc2=>?_) (fun hc2=>?_)
 have hk:k<4:=by simp at hc2;omega
 have hks:k*step≤3:=Nat.le_trans (Nat.mul_le_mul_left k hs) zO
 have hks2:((k:Int)*step)=((k*step:Nat):Int):=by simp
 refine AJ (AI (AH (AQ (Y (J E (U E (V (AS (J E (J E (AA E (Ol zO zO) (J E (J E (J E ?_))))))))))))))
 refine AA E (Ol zO zO) (AA E (Bj zO zO) (AA E (Vg zO zO) (AA E (Bj zO zO) ?_)))
 refine Cy (n:=k) E WJ PU E E zO zO ?_
 refine Ul (f:=vI) 0 E E E E PU E E zQ zT ?_
 rw[TI _ _ _ 4 k zS hk]
 refine Aa (Ay (AI (AS (AA E (Bj zO zO) (J E (Aa ?_))))))
 refine A1 (k+1) zO zO tL (fun w hw=>?_)
 have e1:(4*(k:Int)+((i:Int)+(k:Int)*step)%4)=((H2 step i k:Nat):Int):=by simp[H2]
 simp only[List.range_succ,List.map_append,List.map_cons,List.map_nil]
 rw[e1]at hw
 exact hw
 have hk:k=4:=by simp at hc2;omega
 subst hk
 have hat:((List.range 4).map fun j=>((H2 step i j:Nat):Int))++List.replicate (4-4) 0=[((H2 step i 0:Nat):Int),((H2 step i 1:Nat):Int),((H2 step i 2:Nat):Int),((H2 step i 3:Nat):Int)]:=by rfl
 rw[hat]
 refine A4 (A9 (Bi (BA (AI ?_))))
 generalize hq:(⟨(DY ws step i).getD (H2 step i 0) 0,(DY ws step i).getD (H2 step i 1) 0,(DY ws step i).getD (H2 step i 2) 0,(DY ws step i).getD (H2 step i 3) 0⟩:Q4)=q
 refine XT (α:=Nat) (fun _=>True) (fun x=>[(0,vP b 0),(1,vI step),(5,vP b0 0),(7,vP x 0),(10,vI i)]) (fun x=>AK x (.cells (DM Z q.quarter.list) 389)::AK b0 (.cells (DM vI [((H2 step i 0:Nat):Int),((H2 step i 1:Nat):Int),((H2 step i 2:Nat):Int),((H2 step i 3:Nat):Int)]) 388)::AK b (.cells (DM Z (DY ws step i)) e)::H) ?_ (fun x hx=>?_)
 refine A2 DE [0,1] (CK [(true,0),(true,1),(true,2),(true,3),(true,4),(true,5),(true,6),(true,7),(true,8),(true,9),(true,10),(true,11),(true,12),(true,13),(true,14),(true,15),(true,16),(true,17),(true,18),(true,19),(true,20),(true,21),(true,22),(true,23)] (.alt 24 (C3 [(false,25),(false,26)]) (.cons (false,25) (C3 [(false,24),(false,26)])))) zK (J E ?_)
 refine Cy (n:=0) E WJ PU E E zO zO ?_
 refine AG 0 FI E (AU E E ?_)
 refine Cy (n:=H2 step i 0) E QF Bq E E E (h16 _ zO) ?_
 refine B0 E A6 E (Cp 1 E (Eu (Jb 0 (by rw[hwl];exact h16 _ zO)))) (J E ?_)
 refine Cy (n:=1) E WJ PU E E zO zO ?_
 refine AG 0 FI E (AU E E ?_)
 refine Cy (n:=H2 step i 1) E QF Bq E E E (h16 _ zO) ?_
 refine B0 E A6 E (Cp 1 E (Eu (Jb 0 (by rw[hwl];exact h16 _ zO)))) (J E ?_)
 refine Cy (n:=2) E WJ PU E E zO zO ?_
 refine AG 0 FI E (AU E E ?_)
 refine Cy (n:=H2 step i 2) E QF Bq E E E (h16 _ zO) ?_
 refine B0 E A6 E (Cp 1 E (Eu (Jb 0 (by rw[hwl];exact h16 _ zO)))) (J E ?_)
 refine Cy (n:=3) E WJ PU E E zO zO ?_
 refine AG 0 FI E (AU E E ?_)
 refine Cy (n:=H2 step i 3) E QF Bq E E E (h16 _ zO) ?_
 refine B0 E A6 E (Cp 1 E (Eu (Jb 0 (by rw[hwl];exact h16 _ zO)))) ?_
 refine Ql ?_ ?_
 refine Bo (vs:=[_,_,_,_]) (Hin:=[]) E E ⟨E,E,E,E,zT⟩ iB (by rw[←hq];rfl) E (R8 q) ?_
 rintro _ _ ⟨rfl,rfl⟩
 refine⟨⟨⟨0,rfl⟩,⟨1,rfl⟩,trivial⟩,?_⟩
 refine Ar E S4 (fun _=>⟨⟨1,E⟩,⟨2,E⟩,zT⟩) fun b1=>?_
 refine OW 0 E E E E WH E E (N2 zV q.quarter.list) ⟨⟨1,E⟩,⟨2,E⟩,zT⟩ ?_
 refine Aa ?_
 exact TB b1 zT tL
 refine Ar E S4 (fun _=>⟨⟨1,E⟩,⟨2,E⟩,zT⟩) fun b1=>?_
 refine Bo (vs:=[_,_,_,_]) (Hin:=[]) E E ⟨E,E,E,E,zT⟩ iB (by rw[←hq];rfl) E (R8 q) ?_
 rintro _ _ ⟨rfl,rfl⟩
 refine⟨⟨⟨1,rfl⟩,⟨2,rfl⟩,trivial⟩,?_⟩
 refine OW 0 E E E E WH E E (N2 zV q.quarter.list) ⟨⟨1,E⟩,⟨2,E⟩,zT⟩ ?_
 refine Aa ?_
 exact TB b1 zT tL
 
 refine Y (Aw (q.quarter.list.map Z) E eX E E (An 0 E) (J E (V (AQ ?_))))
 refine SX.mono (BU (α:=Nat) (fun k=>k≤4) (fun k=>[(0,vP b 0),(1,vI step),(5,vP b0 0),(10,vI i),(53,.agg (DM Z q.quarter.list)),(54,vI k)]) (fun k=>AK x (.cells (DM Z q.quarter.list) 389)::AK b0 (.cells (DM vI [((H2 step i 0:Nat):Int),((H2 step i 1:Nat):Int),((H2 step i 2:Nat):Int),((H2 step i 3:Nat):Int)]) 388)::AK b (.cells (DM Z (Ua (DY ws step i) (H2 step i) q.quarter.list k)) e)::H) (fun k=>4-k) (fun k D hp=>?_) 0 zO) tL
 refine Y (AA E BD (V (AH ?_)))
 refine A0 E (fun hc3=>?_) (fun hc3=>?_)
 have hk:k<4:=by simp at hc3;omega
 have hix:[((H2 step i 0:Nat):Int),((H2 step i 1:Nat):Int),((H2 step i 2:Nat):Int),((H2 step i 3:Nat):Int)][k]? = some ((H2 step i k:Nat):Int):=by
  rcases(by omega:k=0∨k=1∨k=2∨k=3)with rfl | rfl | rfl | rfl<;>rfl
 have hsl:(Ua (DY ws step i) (H2 step i) q.quarter.list k).length=16:=(QE ..).trans hwl
 refine AJ (AI (AH (AQ (Y (J E ?_)))))
 refine Pd (i:=k) E QG A6 E E zO zO (Eu (Jb 0 hk)) ?_
 refine U E (U E (V (A2 DE [1] (CK [(true,0),(true,1),(true,2),(true,3),(true,4),(true,5),(true,6)] (.last 7 .nil)) zK (J E (J E ?_)))))
 refine Cy (n:=k) E WJ PU E E zO zO ?_
 refine B0 E FI E (Cp 0 E (Eu hix)) (J E (AU E E ?_))
 refine Cy (n:=H2 step i k) E QF Bq E E E (h16 _ hk) ?_
 refine Bk ?_
 refine Ul (f:=Z) 2 E E E E Bq E E (by rw[hsl];exact h16 _ hk) zT ?_
 refine Aa (Ay (AI (AS (AA E (Bj zO zO) (J E (Aa ?_))))))
 exact A1 (k+1) zO zO tL
 have hk:k=4:=by simp at hc3;omega
 subst hk
 refine A4 (A9 (Bi (BA (Ay (AI (AS (AA E (Bj zO zO) (J E (Aa ?_)))))))))
 refine A1 (i+1) zO zO tL (fun w hw=>?_)
 have e1:Ua (DY ws step i) (H2 step i) q.quarter.list 4=DY ws step (i+1):=by rw[DY,jl,hq]
 rw[e1]at hw
 exact hw.skip [_,_]
 have hi:i=4:=by simp at hc1;omega
 subst hi
 refine A4 (A9 (Bi (BA ?_)))
 exact C9 (Dh E) (Ak (M:=[_]) ⟨E,E⟩ fun _ h=>h)
end

section
variable {K:Nat→Prop}{w0:World}{H:List AZ}
theorem kC(W B:List UInt32)(i:Nat)(h1:i<W.length)(h2:i<B.length):(List.zipWith (·+·) W B).take (i+1)=(List.zipWith (·+·) W B).take i++[W.getD i 0+B.getD i 0]:=by
 rw[List.take_add_one,List.getElem?_eq_getElem zQ]
 simp[List.getD_eq_getElem?_getD,h1,h2]
theorem dd(j:Nat):UInt32.ofNat j+1=UInt32.ofNat (j+1):=by
 apply UInt32.toNat_inj.1
 simp
theorem gM(key nonce s:List UInt8)(n:Nat)(h:n<s.length):(Ig key nonce s).take (n+1)=(Ig key nonce s).take n++[s.getD n 0 ^^^ PS key nonce n]:=by
 rw[List.take_add_one,List.getElem?_eq_getElem (by rw[Fi];exact h)]
 simp[Ig]
theorem aC(key nonce:List UInt8)(counter:UInt32)(hk:key.length=32)(hn:nonce.length=12):zC K w0 237 [vS key,Z counter,vS nonce] [] H (fun r M=>r=.tuple #[vS (Jm key counter nonce),vI 0]∧M=[]):=by
 refine T6.enter Tryz.func237 rfl rfl ?_
 refine Y (U E (U E (V (AH (Y (J E (Bz E Ce E (AA E BG (J E ?_)))))))))
 refine E2 (c:=(!decide ((nonce.length:Int)=12))) 16 4 20 E (fun hb k=>?_) (fun hb k=>?_) ?_
 refine AB E (AB E (AB E (Ag E E E ?_)))
 exact k.mono tL
 refine J E (Bz E Ce E (AA E BG (Ag E E E ?_)))
 exact k.mono tL
 refine V ?_
 refine A0 E (fun hc1=>absurd hc1 (by simp[hk,hn])) (fun hc1=>?_)
 refine AJ (AI (Y (J E (J E (J E (AM 0 pI (aD key nonce counter hk hn) E ?_))))))
 have hB:=Mg (counter:=counter) hk hn
 generalize hBe:HS key counter nonce=B at hB
 refine Ar E cM zU fun b0=>?_
 refine OW (c':=DM Z B) 0 E E E E mZ (by rw[TE];exact hB) E (N2 zV B) zT ?_
 refine V (Y ?_)
 refine Ar E cM zU fun b1=>?_
 refine V (AH (A2 DE [] (CK [(true,0),(true,1)] (.last 2 .nil)) zK (gW E QF Bq E zD (gW E QF Bq E zD (Bk ?_)))))
 refine nH (f:=Z) (xs:=List.replicate 16 0) (ys:=B) 0 1 E CR Bq E E E E E hB zV zT ?_
 refine V (AH (Y (J E (V (AQ ?_)))))
 refine SX.mono (BU (α:=Nat) (fun i=>i≤10) (fun i=>[(8,vP b0 0),(9,vP b1 0),(28,vI i)]) (fun i=>AK b1 (.cells (DM Z (Sx B i)) 359)::AK b0 (.cells (DM Z B) 359)::H) (fun i=>10-i) (fun i D hp=>?_) 0 zO) tL
 have htl:=(NH B i).trans hB
 refine Y (AA E BD (V (AH ?_)))
 refine A0 E (fun hc2=>?_) (fun hc2=>?_)
 have hi:i<10:=by simp at hc2;omega
 refine AJ (AI (AH (AQ (Y (AM 1 hY (Ur (Sx B i) 0 b1 359 htl zO) E (V (AS (AM 1 hY (Ur (Vb (Sx B i) 0) 1 b1 359 ((Kd ..).trans htl) zO) E (Aa (Ay (AI (AS (AA E (Bj zO zO) (J E (Aa ?_)))))))))))))))
 exact A1 (i+1) zO zO tL
 have hi:i=10:=by simp at hc2;omega
 subst hi
 generalize hW:Sx B 10=W at htl
 refine A4 (A9 (Bi (BA (AI (Y (U E (V (AH (Y (Aw (W.map Z) E eW (by simp[htl]) E (An 0 E) (J E (V (AQ (Ik 5 1 ?_))))))))))))))
 refine SX.mono (BU (α:=Nat×Value) (fun x=>x.1≤16) (fun x=>[(8,vP b0 0),(10,x.2),(33,.agg (DM Z W)),(34,vI x.1)]) (fun x=>DP 5 1 x.2 (4*x.1) ((((List.zipWith (·+·) W B).take x.1).flatMap Fu).map fun b=>EE b)::AK b1 (.cells (DM Z W) 359)::AK b0 (.cells (DM Z B) 359)::H) (fun x=>16-x.1) (fun x D hp=>?_) (0,zN) zD) tL
 obtain⟨i,v⟩:=x
 simp only at hp
 refine Y (AA E BD (V (AH ?_)))
 refine A0 E (fun hc3=>?_) (fun hc3=>?_)
 have hi:i<16:=by simp at hc3;omega
 refine AJ (AI (AH (AQ (Y (J E ?_)))))
 refine Pd (i:=i) E QF A6 E E zO zO (Eu (Jb 0 zO)) ?_
 refine U E (U E (V (Y (J E (J E ?_)))))
 refine Cy (n:=i) E QF Bq E E zO zO ?_
 refine B0 E A6 E (Cp 2 E (Eu (Jb 0 zO))) (AA E B4 (U E (V (AS (J E (J E (BM E E (Cx CP DG) (J E ?_))))))))
 refine AA E (FQ.shr32 (n:=8)) ?_
 refine BM E E (Cx CP DG) (J E ?_)
 refine AA E (FQ.shr32 (n:=16)) ?_
 refine BM E E (Cx CP DG) (J E ?_)
 refine AA E (FQ.shr32 (n:=24)) ?_
 refine BM E E (Cx CP DG) ?_
 refine CE [_,_,_,_] E Ca Ji Kh ⟨E,E,E,E,zT⟩ E E E zX E E zU fun b2=>?_
 refine Ui 1 rfl (m:=4) (news:=(Fu (W.getD i 0+B.getD i 0)).map fun b=>EE b) Ca Ji Vl Kh rfl zD rfl rfl rfl rfl (An 0 rfl) (by intro u hu;obtain⟨x,_,rfl⟩:=List.mem_map.1 hu;rfl) zO zO zU fun v'=>?_
 refine U E (Aa (Ay (AI (AS (AA E (Bj zO zO) (J E (Aa ?_)))))))
 refine A1 (i+1,v') (by simp only;omega) (by simp only;omega) tL (fun w hw=>?_)
 simp only
 rw[kC W B i zO zO,List.flatMap_append,List.map_append]
 simp only[List.flatMap_cons,List.flatMap_nil,List.append_nil]
 exact hw.skip [_]
 have hi:i=16:=by simp at hc3;omega
 subst hi
 have ht:(List.zipWith (·+·) W B).take 16=List.zipWith (·+·) W B:=List.take_of_length_le zQ
 rw[ht]
 refine A4 (A9 (Bi (BA (AI (Y (J E ?_))))))
 refine XN (s:=(List.zipWith (·+·) W B).flatMap Fu) 0 E Ca DG Ce E E ?_
 refine U E (U E (V (AL ?_)))
 exact Al (ET E E E) (Ak (M:=[]) ⟨by rw[Jm,iZ,hBe,hW],E⟩ fun _ h=>h.skip [_,_,_])
theorem ef(key nonce s:List UInt8)(hk:key.length=32)(hn:nonce.length=12)(hs:s.length≤1048576):zC K w0 200 [vS key,vS nonce,vS s] [] H (fun r M=>r=.tuple #[vS (Ig key nonce s),vI 0]∧M=[]):=by
 refine T6.enter Tryz.func200 rfl rfl ?_
 refine Y (U E (U E (V (AH (Y (J E (Bz E Ce E (AA E BG (J E ?_)))))))))
 refine E2 (c:=(!decide ((nonce.length:Int)=12))) 17 4 21 E (fun hb k=>?_) (fun hb k=>?_) ?_
 refine AB E (AB E (AB E (Ag E E E ?_)))
 exact k.mono tL
 refine J E (Bz E Ce E (AA E BG (Ag E E E ?_)))
 exact k.mono tL
 refine J E ?_
 refine E2 (c:=decide ((1048576:Int)<s.length)) 22 4 26 E (fun hb k=>?_) (fun hb k=>?_) ?_
 refine AB E (AB E (AB E (Ag E E E ?_)))
 exact k.mono tL
 refine J E (Bz E Ce E (AA E Cm (Ag E E E ?_)))
 exact k.mono tL
 refine V ?_
 refine A0 E (fun hc1=>absurd hc1 (by simp[hk,hn];omega)) (fun hc1=>?_)
 refine AJ (AI (Y ?_))
 refine Ar E Ys zU fun b0=>?_
 refine V (AH (Y (U E (V (AQ (Ik 5 1 (SX.pick [1,0] 2 ?_)))))))
 have hxl:=Fi key nonce s
 refine SX.mono (BU (α:=Nat×Value×Value) (fun x=>64*x.1<s.length+64∧Ov b0 x.2.1) (fun x=>[(0,vS key),(1,vS nonce),(2,vS (s.drop (64*x.1))),(8,vP b0 0),(9,Z (UInt32.ofNat x.1))]) (fun x=>AK b0 (.cells #[x.2.1,x.2.2] 136)::DP 5 1 x.2.2 (min (64*x.1) s.length) (((Ig key nonce s).take (min (64*x.1) s.length)).map fun b=>EE b)::H) (fun x=>s.length+64-64*x.1) (fun x D hp=>?_) (0,.pointer none,zN) ⟨by simp,.inl E⟩) ⟨E,E,E,E,E,zT⟩
 obtain⟨j,p,v⟩:=x
 obtain⟨hj,hadr⟩:=hp
 simp only at hj hadr
 refine AH (Y (J E ?_))
 refine AA E (Uc (t:=[])) ?_
 refine V ?_
 refine A0 E (fun hc2=>?_) (fun hc2=>?_)
 have hjl:64*j<s.length:=by simp at hc2;omega
 have hmin:min (64*j) s.length=64*j:=zO
 rw[hmin]
 refine AJ (AI (AH (AQ (Y (J E (J E (J E (AM 0 oy (aC key nonce (UInt32.ofNat j) hk hn) E ?_))))))))
 have hbl:=R7 (counter:=UInt32.ofNat j) hk hn
 refine J E (Af E E E (Af E E E (U E (U E (V (Y (J E (J E (Bz E Ce E ?_)))))))))
 refine J E (Bz E Ce E (XP E E E (Ry (min (s.length-64*j) 64) E Ce E E zQ zQ (U E (V (AH (Y (J E (Bz E Ce E (J E (V (AQ ?_))))))))))))
 have hpl:((s.drop (64*j)).take (min (s.length-64*j) 64)).length=min (s.length-64*j) 64:=by simp
 refine SX.mono (BU (α:=Nat×Value×Value) (fun x=>x.1≤min (s.length-64*j) 64∧Ov b0 x.2.1) (fun x=>[(0,vS key),(1,vS nonce),(2,vS (s.drop (64*j))),(8,vP b0 0),(9,Z (UInt32.ofNat j)),(10,vS (Jm key (UInt32.ofNat j) nonce)),(12,vS ((s.drop (64*j)).take (min (s.length-64*j) 64))),(46,vI ((s.drop (64*j)).take (min (s.length-64*j) 64)).length),(47,vI x.1)]) (fun x=>AK b0 (.cells #[x.2.1,x.2.2] 136)::DP 5 1 x.2.2 (64*j+x.1) (((Ig key nonce s).take (64*j+x.1)).map fun b=>EE b)::H) (fun x=>64-x.1) (fun x D hp=>?_) (0,p,v) ⟨Nat.zero_le _,hadr⟩) tL
 obtain⟨i,p,v⟩:=x
 obtain⟨hi,hadr⟩:=hp
 simp only at hi hadr
 refine Y (AA E BD (V (AH ?_)))
 refine A0 E (fun hc3=>?_) (fun hc3=>?_)
 have hil:i<min (s.length-64*j) 64:=by simp only[hpl]at hc3;simpa using hc3
 refine AJ (AI (AH (AQ (Y (J E (U E (V (A2 DE [] (CK [(true,0),(true,1),(true,2),(true,3),(true,4),(true,5),(true,6)] (.last 7 .nil)) zK (J E (J E (Kj i E Ce E E zO zO (J E (J E ?_)))))))))))))
 refine Kj i E Ce E E zO zO (AA E S7 (Bk ?_))
 have e1:((s.drop (64*j)).take (min (s.length-64*j) 64)).getD i 0=s.getD (64*j+i) 0:=by
  simp[List.getD_eq_getElem?_getD,hil,show 64*j+i<s.length by omega]
 have e2:(Jm key (UInt32.ofNat j) nonce).getD i 0=PS key nonce (64*j+i):=by
  rw[PS,show(64*j+i) / 64=j by omega,show(64*j+i)%64=i by omega]
 rw[e1,e2]
 refine BY 2 W9 (OX 136 b0 p v (64*j+i) _ _ hadr RD zO) E ?_
 rintro _ _ ⟨rfl,v',rfl⟩
 refine Aa (Ay (AI (AS (AA E (Bj zO zO) (J E (Aa ?_))))))
 refine A1 (i+1,vP b0 0,v') ⟨by simp only;omega,.inr E⟩ (by simp only;omega) tL (fun w hw=>?_)
 simp only
 rw[←Nat.add_assoc,gM key nonce s (64*j+i) zO,List.map_append]
 exact hw
 have hie:i=min (s.length-64*j) 64:=by simp only[hpl]at hc3;simp at hc3;omega
 refine A4 (A9 (Bi (BA (AI (AS (J E (J E (Bz E Ce E (Ot (min (s.length-64*j) 64) E Ce E E (by rw[hpl]) zQ ?_)))))))))
 rw[List.drop_drop]
 refine U E (Aa (Ay (AI (AS (J E ?_)))))
 refine AA E (B4 (b:=1)) ?_
 refine U E (Aa ?_)
 have e1:s.drop (64*j+min (s.length-64*j) 64)=s.drop (64*(j+1)):=by
  rcases Nat.lt_or_ge (s.length-64*j) 64 with h | h
  rw[List.drop_eq_nil_of_le zO,List.drop_eq_nil_of_le zO]
  rw[show 64*j+min (s.length-64*j) 64=64*(j+1) by omega]
 rw[e1,dd]
 refine A1 (j+1,p,v) ⟨by simp only;omega,hadr⟩ (by simp only;omega) tL (fun w hw=>?_)
 simp only
 rw[show min (64*(j+1)) s.length=64*j+i by omega]
 exact hw
 have hjl:s.length≤64*j:=by simp at hc2;omega
 have hmin:min (64*j) s.length=s.length:=zO
 have ht:(Ig key nonce s).take s.length=Ig key nonce s:=List.take_of_length_le zO
 rw[hmin,ht]
 refine A4 (A9 (Bi (BA (AI (Y (AM 2 P2 (JT 136 b0 p v s.length (Ig key nonce s) zO) E (U E (U E (V (AL ?_))))))))))
 exact Al (ET E E E) (Ak (M:=[]) ⟨E,E⟩ fun _ h=>h.skip [_,_])
end

section
variable {K:Nat→Prop}{w0:World}{H:List AZ}
theorem Pk(b:Nat)(p v:Value)(e:TypeId)(n:UInt64)(w m:Nat)(xs:List UInt8)(hp:Ov b p)(hl:ZW e)(hw:w≤8)(hm:m≤1048576):zC K w0 239 [vP b 0,AV n,vI w] [AK b (.cells #[p,v] e),DP 5 1 v m (xs.map fun b=>EE b)] H (fun r M=>r=.tuple #[]∧∃p' v',Ov b p'∧M=[AK b (.cells #[p',v'] e),DP 5 1 v' (m+w) ((xs++CX n w).map fun b=>EE b)]):=by
 refine T6.enter Tryz.func239 rfl rfl ?_
 refine Y (J E (J E (V (AQ ?_))))
 refine SX.mono (BU (α:=Nat×Value×Value) (fun x=>x.1≤w∧Ov b x.2.1) (fun x=>[(0,vP b 0),(1,AV n),(7,vI w),(8,vI x.1)]) (fun x=>AK b (.cells #[x.2.1,x.2.2] e)::DP 5 1 x.2.2 (m+x.1) ((xs++CX n x.1).map fun b=>EE b)::H) (fun x=>w-x.1) (fun x D hp=>?_) (0,p,v) ⟨Nat.zero_le _,hp⟩ |>.heap (fun w h=>by simpa[CX]using h)) tL
 obtain⟨i,p,v⟩:=x
 obtain⟨hi,hadr⟩:=hp
 simp only at hi hadr
 refine Y (AA E BD (V (AH ?_)))
 refine A0 E (fun hc1=>?_) (fun hc1=>?_)
 have hlt:i<w:=by simpa using hc1
 refine AJ (AI (AH (AQ (Y (J E (U E (V (A2 DE [] (CK [(true,0),(true,1),(true,2),(true,3),(true,4),(true,5),(true,6),(true,7)] (.last 8 .nil)) zK (J E (AU E E (AF E YH (J E (J E ?_)))))))))))))
 refine AA E (Ol zO zO) ?_
 refine AA E (FQ.shr64 (n:=(8*i))) ?_
 refine BM E E (FD DL DG) (Bk (BY 2 W9 (OX e b p v (m+i) _ _ hadr hl zO) E ?_))
 rintro _ _ ⟨rfl,v',rfl⟩
 refine Aa (Ay (AI (AS (AA E (Bj zO zO) (J E (Aa ?_))))))
 refine A1 (i+1,vP b 0,v') ⟨hlt,.inr E⟩ (by simp only;omega) tL (fun w hw=>?_)
 simp only
 rw[Sl,←List.append_assoc,List.map_append (l₁:=xs++CX n i),←Nat.add_assoc]
 exact hw
 have hie:i=w:=by simp at hc1;omega
 subst hie
 refine A4 (A9 (Bi (BA ?_)))
 exact C9 (Dh E) (Ak (M:=[_,_]) ⟨E,p,v,hadr,E⟩ fun _ h=>h)
theorem Ts(h:C5):zC K w0 201 [.agg (J7 h).toArray] [] H (fun r M=>r=vS (LD h)∧M=[]):=by
 refine T6.enter Tryz.func201 rfl rfl ?_
 refine Y ?_
 refine Ba E E zU fun b0=>?_
 refine U E (V (Y ?_))
 refine Ar E nC zU fun b1=>?_
 refine V (Y ?_)
 refine G3 (fv:=#[_]) (cv:=#[]) E E E ?_
 refine U E (V (Ik 5 1 (SX.pick [1,0,2] 3 (Y (J E (AF E YF (AG 2 A6 E (BM E E (Co CP DL) (BY 2 XA (Pk b1 (.pointer none) (.slice none 0 0) 335 h.boot.toUInt64 4 0 [] (.inl E) bN zO zO) E ?_)))))))))
 rintro _ _ ⟨rfl,p1,v1,ha1,rfl⟩
 refine V (Y (J E (AF E YG (AG 2 FX E (BY 2 XA (Pk b1 p1 v1 335 h.seq 8 4 _ ha1 bN zO zO) E ?_)))))
 rintro _ _ ⟨rfl,p2,v2,ha2,rfl⟩
 refine V (Y (AF E YH (AM 2 P2 (JT 335 b1 p2 v2 12 (LD h) zO) E (U E (V (AL ?_))))))
 exact Al (Cn E E) (Ak (M:=[]) ⟨E,E⟩ fun _ h=>h.skip [_,_,_])
theorem c8(h:C5):zC K w0 202 [.agg (J7 h).toArray] [] H (fun r M=>r=vS (PN h)∧M=[]):=by
 refine T6.enter Tryz.func202 rfl rfl ?_
 refine Y ?_
 refine Ba E E zU fun b0=>?_
 refine U E (V (Y ?_))
 refine Ar E nC zU fun b1=>?_
 refine V (Y ?_)
 refine G3 (fv:=#[_]) (cv:=#[]) E E E ?_
 refine U E (V (Ik 5 1 (SX.pick [1,0,2] 3 (Y (J E (AF E dV (AG 2 A6 E (BM E E (Co CP DL) (BY 2 XA (Pk b1 (.pointer none) (.slice none 0 0) 335 h.page.toUInt64 4 0 [] (.inl E) bN zO zO) E ?_)))))))))
 rintro _ _ ⟨rfl,p1,v1,ha1,rfl⟩
 refine V (Y (J E (AF E VL (AG 2 A6 E (BM E E (Co CP DL) (BY 2 XA (Pk b1 p1 v1 335 h.gen.toUInt64 4 4 _ ha1 bN zO zO) E ?_))))))
 rintro _ _ ⟨rfl,p2,v2,ha2,rfl⟩
 refine V (AH (A2 DE [2] (C3 [(true,0),(true,2),(false,1),(false,3),(true,4),(true,5),(true,6)]) zK (AF E YH (Aw (J7 h) E T9 E E (An 0 E) (Bf 2 P2 (JT 335 b1 p2 v2 8 (CX h.page.toUInt64 4++CX h.gen.toUInt64 4) zO) E ⟨⟨2,E⟩,zT⟩ (Bf 0 gt (Ts h) E ⟨⟨2,E⟩,zT⟩ (AA E (FR (by simp[B9,KZ])) (AA E (FR (by simp[B9,KZ])) (U E (V (AL ?_)))))))))))
 exact Al (Cn E E) (Ak (M:=[]) ⟨E,E⟩ fun _ h=>h.skip [_,_,_])
end

section
variable {K:Nat→Prop}{w0:World}{H:List AZ}
end

section
variable {K:Nat→Prop}{w0:World}{H:List AZ}
theorem ne(s:List UInt8)(hn:s.length≤9223372036854775807):zC K w0 198 [vS s] [] H (fun r M=>r=.tuple #[vS (PJ s).1,vI (PJ s).2]∧M=[]):=
 (eh s hn).mono fun v M h=>⟨by rw[h.1];unfold PJ;split<;>rfl,h.2⟩
theorem kr(T:List UInt32)(k:BV)(hT:GQ K w0 T)(hr:DV [k]=true):zC K w0 199 [.agg (AY k).toArray] [] H (fun r M=>r=.tuple #[vS (PT T k Nq),vS (PT T k OE),vI 0]∧M=[]):=
 (aG T k hT).mono fun v M h=>⟨by rw[h.1,if_pos hr],h.2⟩
theorem aP(T:List UInt32)(v:Value)(l:List BV)(h:C5)(s:List UInt8)(hT:GQ K w0 T)(hk:CG K w0 AY 2 v l)(hv:v.cells=#[v])(hl:l.length≤1099511627776)(hn:s.length≤9223372036854775807):zC K w0 158 [v,.agg (J7 h).toArray,vS s] [] H (fun r M=>r=.tuple #[vS (HI T l h s).1,vI (HI T l h s).2]∧M=[]):=by
 refine T6.enter Tryz.func158 rfl rfl ?_
 refine Y ?_
 refine Ba E E zU fun b0=>?_
 refine U E (U E (V (Y (J E (AF E VL (AG 0 A6 E (AM 0 lH (Ut v l h.gen hk hv hl) E ?_)))))))
 generalize hf:DR l h.gen=f
 refine J E (Af E E E (Af E E E ?_))
 refine Ar E Jk zU fun b1=>?_
 refine A7 0 E E E E E4 E E E zT (U E (V (AH (Y (J E (AA E BG (V ?_)))))))
 refine A0 E (fun hc1=>?_) (fun hc1=>?_)
 have he:f.2≠0:=by simpa using hc1
 have hs:HI T l h s=([],f.2):=by unfold HI;rw[hf,if_pos he]
 rw[hs]
 refine Y (J E (U E (U E (V (AL (Ac ?_))))))
 exact Al (ET E E E) (Ak (M:=[]) ⟨E,E⟩ fun _ h=>h.skip [_,_])
 have he:f.2=0:=by simpa using hc1
 have hok:=U8 (l:=l) (g:=h.gen) (by rw[hf];exact he)
 rw[hf]at hok
 refine AJ (AI (Y (J E (AM 0 oW (ne s hn) E (J E (Af E E E (Af E E E (U E (U E (V (AH (Y (J E ?_)))))))))))))
 refine AA E BG (V ?_)
 refine A0 E (fun hc2=>?_) (fun hc2=>?_)
 have h1:198<s.length:=by
  unfold PJ at hc2
  split at hc2
  assumption
  simp at hc2
 have hs:HI T l h s=([],50):=by unfold HI;rw[hf,if_neg (by simp[he]),if_pos h1]
 have hp:PJ s=([],50):=by unfold PJ;rw[if_pos h1]
 rw[hs,hp]
 refine Y (J E (U E (U E (V (AL (Ac ?_))))))
 exact Al (ET E E E) (Ak (M:=[]) ⟨E,E⟩ fun _ h=>h.skip [_,_])
 have h1:¬198<s.length:=by
  intro h1
  unfold PJ at hc2
  rw[if_pos h1]at hc2
  simp at hc2
 have hp:PJ s=(Ka s,0):=by unfold PJ;rw[if_neg h1]
 have hpl:(Ka s).length=200:=Fg zO
 have hbl:=Gh T f.1 h hpl
 have hsl1:=Ok T f.1 Nq
 have hsl2:=Ok T f.1 OE
 have hs:HI T l h s=(HT T f.1 h s,0):=by unfold HI;rw[hf,if_neg (by simp[he]),if_neg h1]
 rw[hs,hp]
 refine AJ (AI (Y (Aw (AY f.1) E LJ E E (An 0 E) (AM 0 oX (kr T f.1 hT hok.2.2.2) E (J E (Af E E E (Af E E E (Af E E E (U E (U E ?_))))))))))
 refine U E (V (Y (J E (Aw (J7 h) E T9 E E (An 1 E) (AM 0 gt (Ts h) E (J E (AM 0 oY (ef (PT T f.1 Nq) (LD h) (Ka s) hsl1 (KZ h) zO) E (J E (Af E E E ?_)))))))))
 refine Af E E E (U E (U E (V (Y (Aw (J7 h) E T9 E E (An 1 E) (AM 0 oZ (c8 h) E (J E (AA E (FR (by rw[Ho,Fi];omega)) (U E (V (Y ?_)))))))))))
 refine J E (J E (J E ?_))
 refine CE [_] E Eb HC TZ ⟨E,zT⟩ E E E zX E E zU fun b2=>?_
 refine AM 1 gu (Xf T (PT T f.1 OE) [Ko T f.1 h (Ka s)] b2 hT zO zQ zS) E ?_
 refine AA E (FR (by rw[Hn];have:=hbl;simp only[Ko]at this;omega)) ?_
 refine U E (U E (V (AL ?_)))
 exact Al (ET E E E) (Ak (M:=[]) ⟨by simp[HT,Ko],E⟩ fun _ h=>h.skip [_,_])
end

section
variable {K:Nat→Prop}{w0:World}{H:List AZ}
end

section
open Go Go.ChangeShapes Go.WideShapes Go.ChangeAt Go.RowKit
def Q1:List UInt32:=[1116352408,1899447441,3049323471,3921009573,961987163,1508970993,2453635748,2870763221,3624381080,310598401,607225278,1426881987,1925078388,2162078206,2614888103,3248222580,3835390401,4022224774,264347078,604807628,770255983,1249150122,1555081692,1996064986,2554220882,2821834349,2952996808,3210313671,3336571891,3584528711,113926993,338241895,666307205,773529912,1294757372,1396182291,1695183700,1986661051,2177026350,2456956037,2730485921,2820302411,3259730800,3345764771,3516065817,3600352804,4094571909,275423344,430227734,506948616,659060556,883997877,958139571,1322822218,1537002063,1747873779,1955562222,2024104815,2227730452,2361852424,2428436474,2756734187,3204031479,3329325298]
def U1:List Int:=[1116352408,1899447441,3049323471,3921009573,961987163,1508970993,2453635748,2870763221,3624381080,310598401,607225278,1426881987,1925078388,2162078206,2614888103,3248222580,3835390401,4022224774,264347078,604807628,770255983,1249150122,1555081692,1996064986,2554220882,2821834349,2952996808,3210313671,3336571891,3584528711,113926993,338241895,666307205,773529912,1294757372,1396182291,1695183700,1986661051,2177026350,2456956037,2730485921,2820302411,3259730800,3345764771,3516065817,3600352804,4094571909,275423344,430227734,506948616,659060556,883997877,958139571,1322822218,1537002063,1747873779,1955562222,2024104815,2227730452,2361852424,2428436474,2756734187,3204031479,3329325298]
def ax:List Int:=[1779033703,3144134277,1013904242,2773480762,1359893119,2600822924,528734635,1541459225]
section
variable {P:Program}{W:World}
theorem WZ{x:String×DataW Unit}{r:List (String×DataW Unit)}(h:laidMet P (x::r) W):laidMet P r W:=by
 obtain⟨ps,⟨g,t,cs,fuel,p,q,_,_,_,_,hs,rfl⟩,hn,hc⟩:=h
 exact⟨q,hs,(List.nodup_append.1 hn).2.1,fun b off hb=>hc b off (List.mem_append_right _ hb)⟩
theorem bz{name:String}{g:Nat}{zs:List Int}{T:List UInt32}(hg:P.globalNamed name=some g)(h:Lib.TabIs P W name .u32 zs)(hl:T≠[])(hz:zs=T.map fun x=>(x.toNat:Int)):TQ (· < W.heap.size) W g T:=by
 have hc:∀i x,T[i]? = some x→W.cell? ⟨g,i,none⟩=some (Z x):=by
  intro i x hx
  obtain⟨hi,rfl⟩:=List.getElem?_eq_some_iff.1 hx
  have:=h.cell hg i (by rw[hz];simpa using hi)
  rw[this,hz]
  simp[Z,List.getD_eq_getElem?_getD,hi]
 refine⟨?_,hc⟩
 obtain⟨x,r,rfl⟩:=List.exists_cons_of_ne_nil hl
 have h0:=hc 0 x rfl
 rcases Nat.lt_or_ge g W.heap.size with h | h
 exact h
 have:W.heap[g]? = none:=by simp[h]
 simp[World.cell?,this]at h0
end
theorem sy:ownKnob Tryz.prog.godebug=none:=zK
theorem jR:laidOutB Tryz.prog=true:=zK
theorem iU:Tryz.prog.globalNamed "sphragis/sha.first" = some 1:=zK
theorem iT:Tryz.prog.globalNamed "sphragis/sha.constants" = some 3:=zK
theorem lj:(Tryz.prog.globals[1]?).map (·.type)=some 366:=zK
theorem li:(Tryz.prog.globals[3]?).map (·.type)=some 400:=zK
theorem Vr:Tryz.prog.cellsOf 33=1:=zK
theorem fI:Tryz.prog.cellsOf 366=8:=zK
theorem Xy:Tryz.prog.cellsOf 400=64:=zK
theorem mV{W:World}(h:laidMetH Tryz.prog [("sphragis/sha.first", Rows.laid_sphragis_sha_first),("sphragis/sha.constants", Rows.laid_sphragis_sha_constants)] W):GQ (· < W.heap.size) W Q1:=by
 have h0:laidMet Tryz.prog [("sphragis/sha.first", Lib.tabData .u32 ax),("sphragis/sha.constants", Lib.tabData .u32 U1)] W:=h
 refine⟨?_,rfl,?_⟩
 exact bz iT (Lib.tabIs_of_head (rest:=[]) iT li Tryz.underlying400 Tryz.underlying33 Vr Xy (WZ h0)) (by simp[Q1]) zK
 exact bz iU (Lib.tabIs_of_head iU lj Tryz.underlying366 Tryz.underlying33 Vr fI h0) (by simp[Dm,NJ.list]) zK
def lk(zs:List Int):Obj→Obj
 | .cells _ t frozen=>.cells (zs.map fun z=>Value.int .u32 z).toArray t frozen
 | o=>o
end

section
open Go Go.ChangeShapes Go.WideShapes Go.ChangeAt Go.RowKit Go.Deep Go.Lib Go.Joins
section
variable {G:Type}{enc:TypeId×Value→G}{P:Program}{W:World}
end
end

section
variable {P:Program}{ro:Option Nat}{K:Nat→Prop}{w0:World}{N:Nat}{Q:DH}{D:List Nat}{l l':Tm}{H H' Hs L:List AZ}{ops:Array Oper}{items:Hq}
variable {tk:Bool}{o:Oper}{t:Nat}{v:Value}{x y z:Operand}
def wI(x:Int):Int:=IntKind.i64.wrap x
theorem DK{x:Int}(h1 : -9223372036854775808≤x)(h2:x≤9223372036854775807):wI x=x:=OC (k:=.i64) h1 h2
def BN{α:Type}(l:List α)(i:Int):Option α:=if 0≤i then l[i.toNat]? else none
def LF{α:Type}(l:List α)(i j:Int):Option (List α):=if 0≤i∧i≤j∧j≤l.length then some ((l.drop i.toNat).take (j.toNat-i.toNat))else none
def OA{α:Type}(l:List α)(i:Int)(a:α):Option (List α):=if 0≤i∧i<l.length then some (l.set i.toNat a)else none
def EG(s t:List UInt8):Option (List UInt8):=if s.length+t.length≤9223372036854775807 then some (s++t)else none
def DO{α:Type}(by_:Nat)(s t:List α):Option (List α):=if(s.length+t.length)*by_≤140737488355328∧s.length+t.length≤9223372036854775807 then some (s++t)else none
def Qg(i:Int):Option Nat:=if 0≤i then some i.toNat else none
def VV(a b:Int):Option Int:=if b=0 then none else some (wI (a.tdiv b))
def T3(a b:Int):Option Int:=if b=0 then none else some (a.tmod b)
def RL(a b:UInt64):Option UInt64:=if b=0 then none else some (a / b)
def V4(a b:UInt64):Option UInt64:=if b=0 then none else some (a%b)
def Fk(b:Bool)(c:Option Bool):Option Bool:=cond b c (some false)
def V0(b:Bool)(c:Option Bool):Option Bool:=cond b (some true) c
def CO{α β:Type}(F:(α→Option β)→α→Option β):Nat→α→Option β
 | 0,_=>none
 | m+1,a=>F (CO F m) a
def ret{α β:Type}(e:α)(k:α→β):β:=k e
theorem D6{α β:Type}{a:Option α}{f:α→Option β}{r:β}(h:a.bind f=some r):∃x,a=some x∧f x=some r:=Option.bind_eq_some_iff.1 h
theorem By{α β:Type}{e:α}{k:α→Option β}{r:β}(h:ret e k=some r):∃x,e=x∧k x=some r:=⟨e,rfl,h⟩
theorem cT{α:Type}{b:Bool}{x y:Option α}{r:α}(hb:b=true)(h:cond b x y=some r):x=some r:=by subst hb;exact h
theorem cF{α:Type}{b:Bool}{x y:Option α}{r:α}(hb:b=false)(h:cond b x y=some r):y=some r:=by subst hb;exact h
theorem Ep{α:Type}{l:List α}{i:Int}{a:α}(h:BN l i=some a):i=(i.toNat:Int)∧i.toNat<l.length∧l[i.toNat]? = some a:=by
 unfold BN at h
 split at h
 rename_i h0
 obtain⟨hlt,_⟩:=List.getElem?_eq_some_iff.1 h
 exact⟨by omega,hlt,h⟩
 cases h
theorem Nr{α:Type}{l u:List α}{i j:Int}(h:LF l i j=some u):i=(i.toNat:Int)∧j=(j.toNat:Int)∧i.toNat≤j.toNat∧j.toNat≤l.length∧u=(l.drop i.toNat).take (j.toNat-i.toNat):=by
 unfold LF at h
 split at h
 rename_i h0
 exact⟨by omega,by omega,by omega,by omega,(zI h).symm⟩
 cases h
abbrev FS(x:UInt8):List Value:=[EE x]
abbrev BW(x:UInt32):List Value:=[Z x]
abbrev eS(x:List UInt8):List Value:=[vS x]
abbrev eB(x:Bool):List Value:=[vB x]
theorem Bu{a b:Int}:FQ .add (vI a) (vI b) (vI (wI (a+b))):=fun P w ty x y=>⟨Bd ..,by simp[binOp,Op.intArith,wI]⟩
theorem Dn{a b:Int}:FQ .sub (vI a) (vI b) (vI (wI (a-b))):=fun P w ty x y=>⟨Bd ..,by simp[binOp,Op.intArith,wI]⟩
theorem MR{a b:Int}:FQ .mul (vI a) (vI b) (vI (wI (a*b))):=fun P w ty x y=>⟨Bd ..,by simp[binOp,Op.intArith,wI]⟩
theorem Vf{a b c:Int}(h:VV a b=some c):FQ .quo (vI a) (vI b) (vI c):=fun P w ty x y=>⟨Bd ..,by
 unfold VV at h
 split at h
 cases h
 rename_i h0
 obtain rfl:=zI h
 simp[binOp,Op.intDiv,h0,wI]⟩
theorem S6{a b c:Int}(h:T3 a b=some c):FQ .rem (vI a) (vI b) (vI c):=fun P w ty x y=>⟨Bd ..,by
 unfold T3 at h
 split at h
 cases h
 rename_i h0
 obtain rfl:=zI h
 simp[binOp,Op.intDiv,h0]⟩
theorem Rt{a:UInt32}{k:IntKind}{i:Int}{n:Nat}(h:Qg i=some n):FQ .shl (Z a) (.int k i) (Z (Go.Proofs.YtjkhnhichalenaaGreatDoor.shl32 a n)):=by
 unfold Qg at h
 split at h
 obtain rfl:=zI h
 have:i=(i.toNat:Int):=zO
 rw[this]
 exact FQ.shl32
 cases h
theorem WP{a:UInt32}{k:IntKind}{i:Int}{n:Nat}(h:Qg i=some n):FQ .shr (Z a) (.int k i) (Z (Go.Proofs.YtjkhnhichalenaaGreatDoor.shr32 a n)):=by
 unfold Qg at h
 split at h
 obtain rfl:=zI h
 have:i=(i.toNat:Int):=zO
 rw[this]
 exact FQ.shr32
 cases h
theorem cQ{a:UInt64}{k:IntKind}{i:Int}{n:Nat}(h:Qg i=some n):FQ .shr (AV a) (.int k i) (AV (Go.Proofs.YtjkhnhichalenaaGreatDoor.shr64 a n)):=by
 unfold Qg at h
 split at h
 obtain rfl:=zI h
 have:i=(i.toNat:Int):=zO
 rw[this]
 exact FQ.shr64
 cases h
theorem cP{a:UInt64}{k:IntKind}{i:Int}{n:Nat}(h:Qg i=some n):FQ .shl (AV a) (.int k i) (AV (Go.Proofs.YtjkhnhichalenaaGreatDoor.shl64 a n)):=by
 unfold Qg at h
 split at h
 obtain rfl:=zI h
 have:i=(i.toNat:Int):=zO
 rw[this]
 exact FQ.shl64
 cases h
theorem Pa{a b c:UInt64}(h:RL a b=some c):FQ .quo (AV a) (AV b) (AV c):=fun P w ty x y=>⟨Bd ..,by
 unfold RL at h
 split at h
 cases h
 rename_i hb
 obtain rfl:=zI h
 have h0:((b.toNat:Int))≠0:=by
  intro h
  have:b.toNat=0:=zO
  exact hb (UInt64.toNat_inj.1 this)
 have h1:IntKind.u64.wrap (Int.tdiv (a.toNat:Int) (b.toNat:Int))=((a / b).toNat:Int):=by
  rw[Md,Int.tdiv_eq_ediv_of_nonneg zO,UInt64.toNat_div]
  have h2:a.toNat / b.toNat≤a.toNat:=Nat.div_le_self _ _
  have:=a.toNat_lt
  rw[show((a.toNat:Int) / (b.toNat:Int))=((a.toNat / b.toNat:Nat):Int)from rfl]
  generalize a.toNat / b.toNat=q at h2 ⊢
  omega
 simp only[binOp,Op.intDiv,ne_eq,not_true_eq_false,if_false,h0,h1,Sem.run_pure]⟩
theorem Pb{a b c:UInt64}(h:V4 a b=some c):FQ .rem (AV a) (AV b) (AV c):=by
 unfold V4 at h
 split at h
 cases h
 rename_i hb
 obtain rfl:=zI h
 exact eM hb
theorem CN{s t u:List UInt8}(h:EG s t=some u):FQ .add (vS s) (vS t) (vS u):=by
 unfold EG at h
 split at h
 rename_i hl
 obtain rfl:=zI h
 exact FR hl
 cases h
theorem Ki{s:List UInt8}{ty:TypeId}{k:IntKind}{i:Int}{c:UInt8}(hn:BN s i=some c)(ho:At ops N l o t (.index ty x y))(hty:P.underlying ty=some .string)(hx:Bn l x=some (vS s))(hy:Bn l y=some (.int k i))
(h:SL P ro K w0 N ops Hs items Q D ((t,EE c)::l) H):SL P ro K w0 N ops Hs (.cons (tk,o) items) Q D l H:=by
 obtain⟨h1,h2,h3⟩:=Ep hn
 refine Kj i.toNat ho hty hx hy h1 h2 ?_
 have:s.getD i.toNat 0=c:=by simp[List.getD_eq_getElem?_getD,h3]
 rw[this]
 exact h
theorem nU{s u:List UInt8}{ty:TypeId}{k k':IntKind}{i j:Int}(hn:LF s i j=some u)(ho:At ops N l o t (.slice ty x (some y) (some z) none))(hty:P.underlying ty=some .string)(hx:Bn l x=some (vS s))(hy:Bn l y=some (.int k i))(hz:Bn l z=some (.int k' j))
(h:SL P ro K w0 N ops Hs items Q D ((t,vS u)::l) H):SL P ro K w0 N ops Hs (.cons (tk,o) items) Q D l H:=by
 obtain⟨h1,h2,h3,h4,rfl⟩:=Nr hn
 exact gX i.toNat j.toNat ho hty hx hy hz h1 h2 h3 h4 h
theorem kQ{s u:List UInt8}{ty:TypeId}{k:IntKind}{i:Int}(hn:LF s i (s.length:Int)=some u)(ho:At ops N l o t (.slice ty x (some y) none none))(hty:P.underlying ty=some .string)(hx:Bn l x=some (vS s))(hy:Bn l y=some (.int k i))
(h:SL P ro K w0 N ops Hs items Q D ((t,vS u)::l) H):SL P ro K w0 N ops Hs (.cons (tk,o) items) Q D l H:=by
 obtain⟨h1,h2,h3,h4,rfl⟩:=Nr hn
 refine Ot i.toNat ho hty hx hy h1 zO ?_
 rw[List.take_of_length_le zS]at h
 exact h
theorem kP{s u:List UInt8}{ty:TypeId}{k:IntKind}{j:Int}(hn:LF s 0 j=some u)(ho:At ops N l o t (.slice ty x none (some z) none))(hty:P.underlying ty=some .string)(hx:Bn l x=some (vS s))(hz:Bn l z=some (.int k j))
(h:SL P ro K w0 N ops Hs items Q D ((t,vS u)::l) H):SL P ro K w0 N ops Hs (.cons (tk,o) items) Q D l H:=by
 obtain⟨h1,h2,h3,h4,rfl⟩:=Nr hn
 exact Ry j.toNat ho hty hx hz h2 h4 (by simpa using h)
theorem DF{α:Type}{enc:α→List Value}{sz:Nat}{xs:List α}{k:IntKind}{i:Int}{ty e:TypeId}{x0:α}(hn:BN xs i=some x0)(hk:CG K w0 enc sz v xs)(ho:At ops N l o t (.indexAddr ty x y))(hty:P.underlying ty=some (.slice e))(hsz:DC P e=some sz)(hx:Bn l x=some v)(hy:Bn l y=some (.int k i))
(h:∀b off,(∀L w,GL K w0 L w→∀j u,(enc x0)[j]? = some u→w.cell? ⟨b,off+j,none⟩=some u)→SL P ro K w0 N ops Hs items Q D ((t,vP b off)::l) H):SL P ro K w0 N ops Hs (.cons (tk,o) items) Q D l H:=by
 obtain⟨h1,h2,h3⟩:=Ep hn
 exact Qk i.toNat x0 hk ho hty hsz hx hy h1 h3 h
theorem Dd{b off j:Nat}{u:Value}{cs:List Value}(hc:∀L w,GL K w0 L w→∀j u,cs[j]? = some u→w.cell? ⟨b,off+j,none⟩=some u)(hj:cs[j]? = some u):∀w,GL K w0 L w→w.cell? ⟨b,off+j,none⟩=some u:=fun w hw=>hc L w hw j u hj
theorem Da{b off:Nat}{cs:List Value}(hc:∀L w,GL K w0 L w→∀j u,cs[j]? = some u→w.cell? ⟨b,off+j,none⟩=some u):∀w,GL K w0 L w→∀j u,cs[j]? = some u→w.cell? (Addr.add ⟨b,off,none⟩ j)=some u:=
 fun w hw j u hu=>by rw[Cg];exact hc L w hw j u hu
def AC{α:Type}(e:TypeId)(sz:Nat)(v:Value)(enc:α→List Value)(xs:List α):AZ:=
 ⟨fun b=>v.ownBlock=some b,fun w=>w.ownsRow 0 e sz v xs.length (xs.flatMap enc),fun w w' h hw=>by
  refine⟨hw.1,?_⟩
  rcases hw.2 with hn | ⟨g,cap,cur,rfl,hb,hgg,rest⟩
  exact .inl hn
  exact .inr ⟨g,cap,cur,rfl,hb,by rw[h g rfl];exact hgg,rest⟩⟩
section rows
variable {α:Type}{enc:α→List Value}{sz:Nat}{xs us:List α}{e ty:TypeId}
theorem I2(hl:∀x,(enc x).length=sz):∀ys:List α,(ys.flatMap enc).length=ys.length*sz
 | []=>by simp
 | y::ys=>by rw[List.flatMap_cons,List.length_append,I2 hl ys,hl,List.length_cons,Nat.add_mul,Nat.one_mul,Nat.add_comm]
theorem Bc.nilT{w:World}(e:TypeId)(sz:Nat)(enc:α→List Value)(h:Bc K w0 H w):Bc K w0 (AC e sz zN enc []::H) w:=by
 refine h.cons (n:=w.heap.size) (Nat.le_refl _) (fun d hd b hb=>(h.foot d hd b hb).1) h.kltw (World.ownsRow_nil ..) ?_
 intro b hb
 simp[AC,Value.ownBlock]at hb
theorem B5(e:TypeId)(sz:Nat)(enc:α→List Value)(h:SL P ro K w0 N ops Hs items Q D l (AC e sz zN enc []::H)):SL P ro K w0 N ops Hs items Q D l H:=
 fun a w ha hw hs=>h a w ha (hw.nilT e sz enc) hs
theorem du{w:World}{g n cap i j:Nat}{c:α}{u:Value}(hl:∀x,(enc x).length=sz)(h:(AC e sz v enc xs).holds w)(hv:v=.slice (some ⟨g,0,none⟩) n cap)(hi:xs[i]? = some c)(hj:(enc c)[j]? = some u):w.cell? ⟨g,i*sz+j,none⟩=some u:=by
 have hrow:w.ownsRow 0 e sz v xs.length (xs.flatMap enc):=h
 have hF:=World.ownsRowF_of hrow
 have:=hF.cells (g:=g) (by rw[hv];rfl) (i*sz+j) u (Q8 hl xs i c j u hi hj)
 rw[Cg]at this
 simpa using this
theorem CD{g n cap:Nat}{c:α}{i:Int}{u:Value}(k j:Nat)(hl:∀x,(enc x).length=sz)(hk:L[k]? = some (AC e sz v enc xs))(hv:v=.slice (some ⟨g,0,none⟩) n cap)(hi:BN xs i=some c)(hj:(enc c)[j]? = some u):∀w,GL K w0 L w→w.cell? ⟨g,i.toNat*sz+j,none⟩=some u:=
 fun _w hw=>du hl (hw.holds _ (List.mem_of_getElem? hk)) hv (Ep hi).2.2 hj
theorem MX{g n cap:Nat}{c:α}{i:Int}(k:Nat)(hl:∀x,(enc x).length=sz)(hk:L[k]? = some (AC e sz v enc xs))(hv:v=.slice (some ⟨g,0,none⟩) n cap)(hi:BN xs i=some c):∀w,GL K w0 L w→∀j u,(enc c)[j]? = some u→w.cell? (Addr.add ⟨g,i.toNat*sz,none⟩ j)=some u:=
 fun w hw j u hu=>by rw[Cg];exact CD k j hl hk hv hi hu w hw
theorem Di(k:Nat)(ho:At ops N l o t (.call { callee:=.builtin .len,args:=#[x],argTypes:=#[ty] }))(hty:P.underlying ty=some (.slice e))(hx:Bn l x=some v)
{e':TypeId}(hk:(bif tk then Hs else H)[k]? = some (AC e' sz v enc xs))(h:SL P ro K w0 N ops Hs items Q D ((t,vI xs.length)::l) H):SL P ro K w0 N ops Hs (.cons (tk,o) items) Q D l H:=
 SL.val ho rfl (fun a w ha hsw=>by
  have hrow:w.ownsRow 0 e' sz v xs.length (xs.flatMap enc):=hsw.holds _ (List.mem_of_getElem? hk)
  simp only[execOp,ho.op,resolve,invoke,builtin,Builtin.len_]
  rcases hrow.2 with⟨rfl,hn⟩ | ⟨g,cap,cur,rfl,_⟩
  simp[ha.eval hx,Ax hty,goInt,hn]
  simp[ha.eval hx,Ax hty,goInt]) h
theorem CL(k:Nat){kk:IntKind}{i:Int}{c:α}(hn:BN xs i=some c)(ho:At ops N l o t (.indexAddr ty x y))(hty:P.underlying ty=some (.slice e))(hsz:DC P e=some sz)(hx:Bn l x=some v)(hy:Bn l y=some (.int kk i))
(hk:H[k]? = some (AC e sz v enc xs))
(h:∀g m cap,v=.slice (some ⟨g,0,none⟩) m cap→SL P ro K w0 N ops Hs items Q D ((t,vP g (i.toNat*sz))::l) H):SL P ro K w0 N ops Hs (.cons (tk,o) items) Q D l H:=by
 intro a w ha hw hs
 have hrow:w.ownsRow 0 e sz v xs.length (xs.flatMap enc):=hw.holds _ (List.mem_append_left _ (List.mem_of_getElem? hk))
 obtain⟨h1,h2,h3⟩:=Ep hn
 rcases hrow.2 with⟨_,h0⟩ | ⟨g,cap,cur,hv,_⟩
 omega
 exact(eT (n:=i.toNat) ho hty hsz (hx.trans (by rw[hv])) hy h1 h2 (by simpa using h g xs.length cap hv)) a w ha hw hs
theorem VA(hl:∀x,(enc x).length=sz):∀(xs:List α) (i:Nat) (a:α),i<xs.length→(xs.set i a).flatMap enc=(xs.flatMap enc).take (i*sz)++enc a++(xs.flatMap enc).drop (i*sz+sz)
 | [],i,a,h=>by simp at h
 | b::r,0,a,_=>by
  have hb:=hl b
  simp only[List.set_cons_zero,List.flatMap_cons,Nat.zero_mul,List.take_zero,List.nil_append,Nat.zero_add]
  rw[List.drop_append_of_le_length zO,List.drop_of_length_le zO,List.nil_append]
 | b::r,i+1,a,h=>by
  have hb:=hl b
  have ih:=VA hl r i a (by simpa using h)
  simp only[List.set_cons_succ,List.flatMap_cons]
  rw[ih]
  have e1:(i+1)*sz=(enc b).length+i*sz:=by rw[hb,Nat.add_mul];omega
  have e2:(i+1)*sz+sz=(enc b).length+(i*sz+sz):=by rw[hb,Nat.add_mul];omega
  rw[e2,e1,List.take_length_add_append,List.drop_length_add_append]
  simp
theorem GC(k:Nat){g m cap:Nat}{i:Int}{u:Value}{a:α}(hn:OA xs i a=some us)(hl:∀x,(enc x).length=sz)(ho:At0 ops l o (.store ty x y))(hx:Bn l x=some (vP g (i.toNat*sz)))(hy:Bn l y=some u)(hu:u.cells.toList=enc a)(hk:H[k]? = some (AC e sz v enc xs))(hv:v=.slice (some ⟨g,0,none⟩) m cap)
(hsz:DC P ty=some sz)(h1:∀c∈enc a,c.oneCell'=true)(hs:EP Hs (H.set k (AC e sz v enc us)))(h:SL P ro K w0 N ops Hs items Q D l (H.set k (AC e sz v enc us))):SL P ro K w0 N ops Hs (.cons (false,o) items) Q D l H:=by
 unfold OA at hn
 split at hn
 rename_i hi
 obtain rfl:=zI hn
 refine Vh ho E (fun a' w ha hw=>?_) hs h
 have hrow:w.ownsRow 0 e sz v xs.length (xs.flatMap enc):=hw.holds _ (List.mem_append_left _ (List.mem_of_getElem? hk))
 have hlt:i.toNat<xs.length:=zO
 rcases hrow.2 with⟨hv',h0⟩ | ⟨g',cap',cur,hv',hb,hg,hnc,hcm,hcs,htk⟩
 rw[hv']at hv;cases hv
 obtain⟨rfl,rfl,rfl⟩:g'=g∧xs.length=m∧cap'=cap:=by rw[hv']at hv;simpa using hv
 have hucz:u.cells.size=sz:=by rw[←Array.length_toList,hu,hl]
 have hle:i.toNat*sz+sz≤xs.length*sz:=by
  have:=Nat.mul_le_mul_right sz (show i.toNat+1≤xs.length by omega)
  rw[Nat.add_mul,Nat.one_mul]at this
  exact this
 have hle2:xs.length*sz≤cap'*sz:=Nat.mul_le_mul_right _ hnc
 obtain⟨w',hrun,hw'⟩:=L9 (P:=P) u.cells.toList (i.toNat*sz) 0 cur w hg (by rw[Array.length_toList,hucz];omega) (by rw[hu];exact h1)
 refine⟨w',?_,?_⟩
 simp[execOp,ho.op,Instr.storeAt,Instr.sureAddr,ha.eval hx,ha.eval hy,storeVar,Cd hsz,hucz]
 rw[hrun]
 rfl
 rw[hw']
 obtain⟨hlt2,_⟩:=Array.getElem?_eq_some_iff.1 hg
 refine hw.turnAt (c:=AC e sz v enc xs) k hk rfl rfl rfl zS (fun b hb hne=>World.putObj_heap_other (fun e=>hne (by subst e;rw[hv'];rfl))) ⟨I2 hl _,.inr ⟨g',cap',_,by rw[hv',List.length_set],Nat.zero_le _,World.putObj_heap_same hlt2,by simpa using hnc,hcm,by rw[UZ,hcs],?_⟩⟩ (fun b hb=>⟨.inl hb,?_⟩)
 have hcl:(enc a).length=sz:=hl a
 rw[LE _ _ _ (by rw[hu,hcl];omega),VA hl xs i.toNat a hlt,hu,hcl,←htk,List.length_set,Nat.add_zero]
 have e1:(cur.toList.take (i.toNat*sz)).length=i.toNat*sz:=by simp;omega
 rw[List.take_take,Nat.min_eq_left zO]
 have e2:(cur.toList.take (i.toNat*sz)++enc a).length=i.toNat*sz+sz:=by rw[List.length_append,e1,hcl]
 rw[List.take_append,e2,List.take_of_length_le zO]
 congr 1
 rw[List.drop_take]
 have:b=g':=by
  have hb':v.ownBlock=some b:=hb
  rw[hv']at hb'
  simpa[Value.ownBlock]using hb'.symm
 subst this
 simpa using hlt2
 cases hn
theorem Cr{by_ m c:Nat}{zv:Value}{new:List α}{ad:Addr}(k:Nat)(hn:DO by_ xs new=some us)(hl:∀x,(enc x).length=sz)(ho:At ops N l o t (.call { callee:=.builtin .append,args:=#[x,y],argTypes:=#[ty,ty] }))
(hty:P.underlying ty=some (.slice e))(hsz:DC P e=some sz)(hby:PY P e=some by_)(hze:EF P e=some zv)(hzs:zv.cells.size=sz)(hsz0:0<sz)
(hx:Bn l x=some v)(hy:Bn l y=some (.slice (some ad) m c))(hm:m=new.length)(hk:H[k]? = some (AC e sz v enc xs))
(hnews:∀w,GL K w0 H w→∀j u,(new.flatMap enc)[j]? = some u→w.cell? (ad.add j)=some u)(h1:∀a,∀u∈enc a,u.oneCell'=true)
(hs:∀v',EP Hs (H.set k (AC e sz v' enc us)))
(h:∀v',SL P ro K w0 N ops Hs items Q D ((t,v')::l) (H.set k (AC e sz v' enc us))):SL P ro K w0 N ops Hs (.cons (false,o) items) Q D l H:=by
 unfold DO at hn
 split at hn
 rename_i hb
 obtain rfl:=zI hn
 subst hm
 have hfl:=I2 hl
 refine Gf (fun v'=>v') (fun v'=>H.set k (AC e sz v' enc (xs++new))) ho E (fun a w ha hw=>?_) hs h
 obtain⟨ii,hii,e1,e2,e3⟩:=PH hsz hby hze
 have hrow:w.ownsRow 0 e sz v xs.length (xs.flatMap enc):=hw.holds _ (List.mem_append_left _ (List.mem_of_getElem? hk))
 obtain⟨v',w',hr,hr2,hr3,_,hr4⟩:=run_append_own_at (P:=P) w 0 ty o.type e ii zv sz by_ hty hii e3 e1 e2 hzs hsz0 v xs.length _ hrow ad new.length c (new.flatMap enc) (hfl new) (hnews w hw.dropMarks.s) (fun u hu=>by
  obtain⟨a,_,ha⟩:=List.mem_flatMap.1 hu
  exact h1 a u ha) (by simp only[maxLen];omega) hb.1 (Nat.zero_le _)
 refine⟨v',w',?_,hw.turnAt (c:=AC e sz v enc xs) k hk hr3.os hr3.tape hr3.output hr3.size (fun b hb hne=>hr3.block b hb (fun e=>hne e.symm)) (show w'.ownsRow 0 e sz v' (xs++new).length ((xs++new).flatMap enc) by rw[List.flatMap_append,List.length_append];exact hr2) ?_⟩
 unfold execOp
 simp only[ho.op,resolve,invoke,builtin,Sem.run_bind,Sem.run_pure,Result.andThen_ok,List.map_toArray,List.map_cons,List.map_nil,ha.eval hx,ha.eval hy,hr]
 intro b hb
 refine⟨?_,(hr2.lt b hb).2⟩
 have hb':v'.ownBlock=some b:=hb
 rcases hr4 with h4 | h4
 exact .inl (by rw[h4]at hb';exact hb')
 rw[h4]at hb'
 right
 simp at hb'
 omega
 cases hn
theorem Bc.ownT{w:World}{b:Nat}{c:Array Value}(xs:List α)(h:Bc K w0 (AK b (.cells c e)::H) w)(hc:c.toList=xs.flatMap enc)(hl:∀x,(enc x).length=sz)(hm:xs.length≤9223372036854775807):Bc K w0 (AC e sz (.slice (some ⟨b,0,none⟩) xs.length xs.length) enc xs::H) w:=by
 have hfl:=I2 hl
 have hcs:c.size=xs.length*sz:=by rw[←Array.length_toList,hc,hfl]
 refine h.turn rfl rfl rfl (Nat.le_refl _) (fun _ _ _=>rfl) ⟨hfl xs,.inr ⟨b,xs.length,c,rfl,Nat.zero_le _,h.holds _ (List.mem_cons_self ..),Nat.le_refl _,by simp only[maxLen];omega,hcs,by rw[hc,←hfl];exact List.take_length⟩⟩ (fun k hk=>?_)
 have hkb:k=b:=by simp[AC,Value.ownBlock]at hk;exact hk.symm
 subst hkb
 exact⟨.inl rfl,(h.foot _ (List.mem_cons_self ..) k rfl).1⟩
theorem CJ{b:Nat}{c:Array Value}(enc:α→List Value)(sz:Nat)(xs:List α)(hc:c.toList=xs.flatMap enc)(hl:∀x,(enc x).length=sz)(hm:Nat.ble xs.length 1000000=true)
(h:SL P ro K w0 N ops Hs items Q D l (AC e sz (.slice (some ⟨b,0,none⟩) xs.length xs.length) enc xs::H)):SL P ro K w0 N ops Hs items Q D l (AK b (.cells c e)::H):=
 fun a w ha hw hs=>h a w ha (hw.ownT xs hc hl (by have:=Nat.le_of_ble_eq_true hm;omega)) hs
theorem gV{by_ n:Nat}{zv:Value}{k k':IntKind}(enc:α→List Value)(ho:At ops N l o t (.makeSlice ty x y))(hty:P.underlying ty=some (.slice e))(hsz:DC P e=some sz)(hby:PY P e=some by_)(hze:EF P e=some zv)(_hzs:zv.cells.size=sz)
(hx:Bn l x=some (.int k 0))(hy:Bn l y=some (.int k' (n:Int)))(hb:Nat.ble (by_*n) 281474976710656=true)(h63:Nat.ble n 9223372036854775807=true)
(hs:∀v',EP Hs (AC e sz v' enc []::H))(h:∀v',SL P ro K w0 N ops Hs items Q D ((t,v')::l) (AC e sz v' enc []::H)):SL P ro K w0 N ops Hs (.cons (false,o) items) Q D l H:=
 Gf (fun b=>.slice (some ⟨b,0,none⟩) 0 n) (fun b=>AC e sz (.slice (some ⟨b,0,none⟩) 0 n) enc []::H) ho rfl (fun a w ha hw=>by
  obtain⟨ii,hii,e1,e2,e3⟩:=PH hsz hby hze
  have hbn:=Nat.le_of_ble_eq_true hb
  have h63n:=Nat.le_of_ble_eq_true h63
  have hb':(ii.bytes:Int)*(n:Int)≤281474976710656:=by rw[e2,←Int.natCast_mul];omega
  have hr:=run_make (P:=P) w ty e ii zv hty hii e3 k k' 0 n zO zO hb' zO
  rw[e1]at hr
  simp only[Int.toNat_natCast]at hr
  refine⟨w.heap.size,w.alloc (.cells (madeCells zv.cells (n*sz)) e),?_,?_⟩
  unfold execOp
  simp only[ho.op,ha.eval hx,ha.eval hy,Sem.run_bind,hr,Result.andThen_ok,Sem.run_pure]
  rfl
  have h2:=hw.alloc (.cells (madeCells zv.cells (n*sz)) e)
  refine h2.turn rfl rfl rfl (Nat.le_refl _) (fun _ _ _=>rfl) ⟨by simp,.inr ⟨w.heap.size,n,_,rfl,Nat.zero_le _,h2.holds _ (List.mem_cons_self ..),Nat.zero_le _,by simp only[maxLen];omega,?_,by simp⟩⟩ (fun k hk=>?_)
  simp[madeCells]
  have hkb:k=w.heap.size:=by simp[AC,Value.ownBlock]at hk;exact hk.symm
  subst hkb
  exact⟨.inl rfl,(h2.foot _ (List.mem_cons_self ..) _ rfl).1⟩) (fun b=>hs _) (fun b=>h _)
theorem CY{K':Nat→Prop}{w1:World}(hl:∀x,(enc x).length=sz)(h:(AC e sz v enc xs).holds w1∧∀k,(AC e sz v enc xs).foot k→K' k):CG K' w1 enc sz v xs:=by
 have hrow:w1.ownsRow 0 e sz v xs.length (xs.flatMap enc):=h.1
 refine⟨hl,?_⟩
 rcases hrow.2 with⟨rfl,h0⟩ | ⟨g,cap,cur,rfl,_,hg,hc,_⟩
 exact .inl ⟨_,rfl,List.length_eq_zero_iff.1 h0⟩
 refine .inr ⟨g,0,cap,rfl,hc,fun j u hu=>⟨h.2 g rfl,?_⟩⟩
 have:=(World.ownsRowF_of hrow).cells (g:=g) rfl j u hu
 rw[Cg]at this
 exact this
theorem sw:∀s:List UInt8,s.flatMap FS=s.map fun b=>EE b
 | []=>rfl
 | b::r=>by rw[List.flatMap_cons,sw r];rfl
theorem Ge{src dst:TypeId}{s:List UInt8}(k:Nat)(ho:At ops N l o t (.convert src dst x))(hs:P.underlying src=some (.slice e))(he:P.underlying e=some (.int .u8))(hd:P.underlying dst=some .string)(hx:Bn l x=some v)
(hk:(bif tk then Hs else H)[k]? = some (AC e 1 v FS s))
(h:SL P ro K w0 N ops Hs items Q D ((t,vS s)::l) H):SL P ro K w0 N ops Hs (.cons (tk,o) items) Q D l H:=
 SL.val ho rfl (fun a w ha hsw=>by
  have hrow:w.ownsRow 0 e 1 v s.length (s.flatMap FS):=hsw.holds _ (List.mem_of_getElem? hk)
  rw[sw]at hrow
  rcases hrow.2 with⟨rfl,h0⟩ | ⟨g,cap,cur,rfl,_⟩
  have:s=[]:=List.length_eq_zero_iff.1 h0
  subst this
  have h0:(convert src dst (.slice none 0 0)).run P w=.ok (vS []) w:=by
   rw[run_convert_bytes_string w src dst e none 0 0 hs he hd]
   simp[Conv.bytesToString]
   rfl
  simp[execOp,ho.op,ha.eval hx,h0]
  simp[execOp,ho.op,ha.eval hx,Yd hs he hd rfl ((World.ownsRowF_of hrow).cells rfl)]) h
theorem CM{b n cap:Nat}(k:Nat)(_hl:∀x,(enc x).length=sz)(hk:L[k]? = some (AC e sz (.slice (some ⟨b,0,none⟩) n cap) enc xs)):∀w,GL K w0 L w→∀j u,(xs.flatMap enc)[j]? = some u→w.cell? (Addr.add ⟨b,0,none⟩ j)=some u:=by
 intro w hw j u hu
 have hrow:w.ownsRow 0 e sz (.slice (some ⟨b,0,none⟩) n cap) xs.length (xs.flatMap enc):=hw.holds _ (List.mem_of_getElem? hk)
 exact(World.ownsRowF_of hrow).cells (g:=b) rfl j u hu
theorem TY{w:World}(t ty e:TypeId)(i:TypeInfo)(ht:P.underlying t=some (.slice e))(hi:P.info? e=some i)
(v:Value)(n:Nat)(xs:List Value)(hown:w.ownsRow 0 e sz v n xs):(Builtin.append_ #[t,t] ty #[v,zN]).run P w=.ok v w:=by
 rcases hown.2 with⟨rfl,rfl⟩ | ⟨g,cap,cur,rfl,_,_,hnc,_⟩
 simp[Builtin.append_,Ax ht,sizeOf,typeInfo,hi,Builtin.lenOf,Builtin.firstCells]
 simp[Builtin.append_,Ax ht,sizeOf,typeInfo,hi,Builtin.lenOf,Builtin.firstCells,hnc,storeCells]
theorem cW{by_:Nat}{zv:Value}(k:Nat)(ho:At ops N l o t (.call { callee:=.builtin .append,args:=#[x,y],argTypes:=#[ty,ty] }))
(hty:P.underlying ty=some (.slice e))(hsz:DC P e=some sz)(hby:PY P e=some by_)(hze:EF P e=some zv)
(hx:Bn l x=some v)(hy:Bn l y=some zN)(hk:H[k]? = some (AC e sz v enc xs))(hs:EP Hs H)
(h:SL P ro K w0 N ops Hs items Q D ((t,v)::l) H):SL P ro K w0 N ops Hs (.cons (false,o) items) Q D l H:=
 Gf (fun _:Unit=>v) (fun _=>H) ho rfl (fun a w ha hw=>by
  obtain⟨ii,hii,e1,e2,e3⟩:=PH hsz hby hze
  have hrow:w.ownsRow 0 e sz v xs.length (xs.flatMap enc):=hw.holds _ (List.mem_append_left _ (List.mem_of_getElem? hk))
  have hr:=TY (P:=P) ty o.type e ii hty hii v xs.length _ hrow
  refine⟨(),w,?_,hw⟩
  unfold execOp
  simp only[ho.op,resolve,invoke,builtin,Sem.run_bind,Sem.run_pure,Result.andThen_ok,List.map_toArray,List.map_cons,List.map_nil,ha.eval hx,ha.eval hy,hr]) (fun _=>hs) (fun _=>h)
theorem Zm{c:AZ}{k:Nat}(hk:H[k]? = some c):H.set k c=H:=by
 obtain⟨hl,hg⟩:=List.getElem?_eq_some_iff.1 hk
 rw[←hg];exact List.set_getElem_self hl
theorem ZK{by_:Nat}(hn:DO by_ xs []=some us):us=xs:=by
 unfold DO at hn
 split at hn
 simpa using hn.symm
 cases hn
theorem Rv{by_:Nat}{zv u:Value}{new:List α}(k:Nat)(hn:DO by_ xs new=some us)(hu:CG K w0 enc sz u new)(hl:∀x,(enc x).length=sz)(ho:At ops N l o t (.call { callee:=.builtin .append,args:=#[x,y],argTypes:=#[ty,ty] }))
(hty:P.underlying ty=some (.slice e))(hsz:DC P e=some sz)(hby:PY P e=some by_)(hze:EF P e=some zv)(hzs:zv.cells.size=sz)(hsz0:0<sz)
(hx:Bn l x=some v)(hy:Bn l y=some u)(hk:H[k]? = some (AC e sz v enc xs))(h1:∀a,∀u∈enc a,u.oneCell'=true)
(hs:∀v',EP Hs (H.set k (AC e sz v' enc us)))
(h:∀v',SL P ro K w0 N ops Hs items Q D ((t,v')::l) (H.set k (AC e sz v' enc us))):SL P ro K w0 N ops Hs (.cons (false,o) items) Q D l H:=by
 rcases hu.at_ with⟨a0,rfl,rfl⟩ | ⟨b,off,cap,rfl,_,hc⟩
 cases a0 with
 | some ad=>exact Cr k hn hl ho hty hsz hby hze hzs hsz0 hx hy rfl hk (fun w hw j u hj=>by simp at hj) h1 hs h
 | none=>
  obtain rfl:=ZK hn
  have h2:=hs v
  have h3:=h v
  rw[Zm hk]at h2 h3
  exact cW k ho hty hsz hby hze hx hy hk h2 h3
 refine Cr k hn hl ho hty hsz hby hze hzs hsz0 hx hy E hk (fun w hw j u hj=>?_) h1 hs h
 obtain⟨hb,hcell⟩:=hc j u hj
 rw[Cg]
 exact O3 (L:=H) hb hcell w hw
theorem kE{by_:Nat}{zv u:Value}{new:List α}(k k2:Nat)(hn:DO by_ xs new=some us)(hl:∀x,(enc x).length=sz)(ho:At ops N l o t (.call { callee:=.builtin .append,args:=#[x,y],argTypes:=#[ty,ty] }))
(hty:P.underlying ty=some (.slice e))(hsz:DC P e=some sz)(hby:PY P e=some by_)(hze:EF P e=some zv)(hzs:zv.cells.size=sz)(hsz0:0<sz)
(hx:Bn l x=some v)(hy:Bn l y=some u)(hk:H[k]? = some (AC e sz v enc xs))(hk2:H[k2]? = some (AC e sz u enc new))(h1:∀a,∀u∈enc a,u.oneCell'=true)
(hs:∀v',EP Hs (H.set k (AC e sz v' enc us)))
(h:∀v',SL P ro K w0 N ops Hs items Q D ((t,v')::l) (H.set k (AC e sz v' enc us))):SL P ro K w0 N ops Hs (.cons (false,o) items) Q D l H:=by
 intro a w ha hw hs0
 have hrow:w.ownsRow 0 e sz u new.length (new.flatMap enc):=hw.holds _ (List.mem_append_left _ (List.mem_of_getElem? hk2))
 rcases hrow.2 with⟨rfl,h0⟩ | ⟨g,cap,cur,rfl,_⟩
 have:new=[]:=List.length_eq_zero_iff.1 h0
 subst this
 obtain rfl:=ZK hn
 have h2:=hs v
 have h3:=h v
 rw[Zm hk]at h2 h3
 exact cW k ho hty hsz hby hze hx hy hk h2 h3 a w ha hw hs0
 exact Cr k hn hl ho hty hsz hby hze hzs hsz0 hx hy E hk (CM k2 hl hk2) h1 hs h a w ha hw hs0
theorem CG.nil(hl:∀x,(enc x).length=sz):CG K w0 enc sz zN []:=⟨hl,.inl ⟨_,rfl,rfl⟩⟩
end rows
theorem Aq{u:Value}(ho:At ops N l o t (.assign x))(hx:Bn l x=some v)(hu:v=u)(h:SL P ro K w0 N ops Hs items Q D ((t,u)::l) H):SL P ro K w0 N ops Hs (.cons (tk,o) items) Q D l H:=
 gS ho (by rw[hx,hu]) h
theorem kX{c:Code}(l':Tm)(H':List AZ)(h:SX P ro K w0 N c Q D l' H')(e1:RW l' l)(e2:H=H':=by rfl):SX P ro K w0 N c Q D l H:=by
 subst e2;exact h.mono e1
def midD{α:Type}(K:Nat→Prop)(w0:World)(N:Nat)(p:α→Prop)(I:α→Tm)(G:α→List AZ)(Q:DH):DH
 | .normal,a,w=>∃x D,p x∧MV N D (I x) a∧Bc K w0 (G x++[BZ D]) w
 | e,a,w=>Q e a w
theorem BB{α:Type}(p:α→Prop)(I:α→Tm)(G:α→List AZ){c y:Code}(h:SX P ro K w0 N c (midD K w0 N p I G Q) D l H)(h2:∀x D,p x→SX P ro K w0 N y Q D (I x) (G x)):SX P ro K w0 N (.seq c y) Q D l H:=by
 intro a w ha hw
 refine wpIn_seq (wpIn_mono (h a w ha hw) ?_)
 intro e a w q
 cases e with
 | normal=>
  obtain⟨x,D',hx,ha,hw⟩:=q
  exact h2 x D' hx a w ha hw
 | _=>exact q
theorem Az{α:Type}{p:α→Prop}{I:α→Tm}{G:α→List AZ}(x:α)(hp:p x)(hl:RW (I x) l)(hH:∀w,Bc K w0 (H++[BZ D]) w→Bc K w0 (G x++[BZ D]) w):
  SQ K w0 N (Go.Proofs.YtjkhnhichalenaaGreatDoor.midD K w0 N p I G Q) .normal D l H:=fun _a w ha hw=>⟨x,D,hp,ha.mono hl,hH w hw⟩
theorem i6{α:Type}{p:α→Prop}{I:α→Tm}{G:α→List AZ}{i:Nat}(h:SQ K w0 N Q (.exit i) D l H):SQ K w0 N (Go.Proofs.YtjkhnhichalenaaGreatDoor.midD K w0 N p I G Q) (.exit i) D l H:=h
theorem HK{α:Type}{p:α→Prop}{I:α→Tm}{G:α→List AZ}(h:SQ K w0 N Q .ret D l H):SQ K w0 N (Go.Proofs.YtjkhnhichalenaaGreatDoor.midD K w0 N p I G Q) .ret D l H:=h
theorem DT(t n tt:Nat){b y:Bool}{C:Option Bool}(hy:Fk b C=some y)(hb:look l t=some (.bool b))
(ht:b=true→C=some y→SL P ro K w0 N ops Hs (items.drop n) Q D ((tt,.bool y)::(t,.bool true)::Mm t l) H→SL P ro K w0 N ops Hs items Q D ((t,.bool true)::Mm t l) H)
(hf:b=false→SL P ro K w0 N ops Hs (items.drop n) Q D ((tt,.bool false)::(t,.bool false)::Mm t l) H→SL P ro K w0 N ops Hs items Q D ((t,.bool false)::Mm t l) H)
(h:SL P ro K w0 N ops Hs (items.drop n) Q D ((tt,.bool y)::l) H):SL P ro K w0 N ops Hs items Q D l H:=by
 refine QO t hb (fun e=>?_) (fun e=>?_)
 subst e;exact MT (ht rfl hy (h.join hb))
 subst e
 obtain rfl:false=y:=zI hy
 exact MT (hf E (h.join hb))
theorem Pe(t n tt:Nat){b y:Bool}{C:Option Bool}(hy:V0 b C=some y)(hb:look l t=some (.bool b))
(ht:b=true→SL P ro K w0 N ops Hs (items.drop n) Q D ((tt,.bool true)::(t,.bool true)::Mm t l) H→SL P ro K w0 N ops Hs items Q D ((t,.bool true)::Mm t l) H)
(hf:b=false→C=some y→SL P ro K w0 N ops Hs (items.drop n) Q D ((tt,.bool y)::(t,.bool false)::Mm t l) H→SL P ro K w0 N ops Hs items Q D ((t,.bool false)::Mm t l) H)
(h:SL P ro K w0 N ops Hs (items.drop n) Q D ((tt,.bool y)::l) H):SL P ro K w0 N ops Hs items Q D l H:=by
 refine QO t hb (fun e=>?_) (fun e=>?_)
 subst e
 obtain rfl:true=y:=zI hy
 exact MT (ht E (h.join hb))
 subst e;exact MT (hf rfl hy (h.join hb))
theorem KT{xs ys:Array Value}:GB [] xs ys=some true:=rfl
theorem Cj{i:Nat}{d:TypeDesc}{r:List (Nat×TypeDesc)}{xs ys:Array Value}{u v:Value}{p q:Bool}(hx:xs[i]? = some u)(hy:ys[i]? = some v)(he:UI d u v=some p)(hr:GB r xs ys=some q):GB ((i,d)::r) xs ys=some (p&&q):=by
 simp[GB,hx,hy,he,hr]
theorem X2{k:IntKind}{a b:Int}:UI (.int k) (.int k a) (.int k b)=some (decide (a=b)):=by
 simp only[UI,if_true]
 congr 1
theorem Kr{a b:UInt32}:UI (.int .u32) (Z a) (Z b)=some (decide (a=b)):=by
 rw[X2];congr 1;rw[Bool.eq_iff_iff,decide_eq_true_eq,decide_eq_true_eq,←UInt32.toNat_inj];omega
theorem iJ{a b:UInt64}:UI (.int .u64) (AV a) (AV b)=some (decide (a=b)):=by
 rw[X2];congr 1;rw[Bool.eq_iff_iff,decide_eq_true_eq,decide_eq_true_eq,←UInt64.toNat_inj];omega
theorem UJ{a b:List UInt8}:UI .string (vS a) (vS b)=some (decide (a=b)):=by
 simp only[UI,Ub];congr 1;rw[Bool.eq_iff_iff];simp
theorem nF{src dst:TypeId}{d:TypeDesc}{k:IntKind}{n:Int}(hs:P.underlying src=some d)(hd:P.underlying dst=some (.int .i64)):Cv P src dst (.int k n) (vI (wI n)):=Cv.int hs hd rfl
theorem Mf{α:Type}{b m:Nat}{xs:List α}{k:IntKind}{i:Int}{c:α}{ty e:TypeId}(hn:BN xs i=some c)(ho:At ops N l o t (.indexAddr ty x y))(hty:P.underlying ty=some (.array m e))(hsz:DC P e=some 1)(hx:Bn l x=some (vP b 0))(hy:Bn l y=some (.int k i))
(hln:xs.length=m)(h:SL P ro K w0 N ops Hs items Q D ((t,vP b i.toNat)::l) H):SL P ro K w0 N ops Hs (.cons (tk,o) items) Q D l H:=by
 obtain⟨h1,h2,h3⟩:=Ep hn
 exact Cy ho hty hsz hx hy h1 zO h
structure I9(K:Nat→Prop)(w0:World)(g:Nat)(n:Nat)(T:List UInt32):Prop where
 tab:TQ K w0 g T
 len:T.length=n
theorem I9.keeps{g n:Nat}{T:List UInt32}{K':Nat→Prop}{w1:World}(h:I9 K w0 g n T)(hk:XI K w0 K' w1):I9 K' w1 g n T:=⟨h.tab.keeps hk,h.len⟩
theorem pw{g n:Nat}{T:List UInt32}{i:Int}{c:UInt32}(h:I9 K w0 g n T)(hn:BN T i=some c):∀w,GL K w0 L w→w.cell? ⟨g,i.toNat,none⟩=some (Z c):=
 O3 (ad:=⟨g,i.toNat,none⟩) h.tab.keep (h.tab.cell _ _ (Ep hn).2.2)
end

section
open Go Go.ChangeShapes Go.WideShapes Go.ChangeAt Go.RowKit
theorem dF:Q1.length=64:=by decide
theorem qJ:Tryz.prog.globalNamed "sphragis/sphragisref02.table" = some 2:=zK
theorem rN:(Tryz.prog.globals[2]?).map (·.type)=some 400:=zK
theorem js{W:World}(h:laidMetH Tryz.prog [("sphragis/sphragisref02.table", Rows.laid_sphragis_sphragisref02_table),("sphragis/sha.first", Rows.laid_sphragis_sha_first),("sphragis/sha.constants", Rows.laid_sphragis_sha_constants)] W):GQ (· < W.heap.size) W Q1∧I9 (· < W.heap.size) W 2 64 Q1:=by
 have h0:laidMet Tryz.prog [("sphragis/sphragisref02.table", Lib.tabData .u32 U1),("sphragis/sha.first", Lib.tabData .u32 ax),("sphragis/sha.constants", Lib.tabData .u32 U1)] W:=h
 refine⟨mV (WZ h0),bz qJ (Lib.tabIs_of_head qJ rN Tryz.underlying400 Tryz.underlying33 Vr Xy h0) (by simp[Q1]) zK,dF⟩
noncomputable def bL(os:Os):World:=
 { World.holding Tryz.prog os ⟨#[],#[],[]⟩with heap:=(((World.holding Tryz.prog os ⟨#[],#[],[]⟩).heap.modify 1 (lk ax)).modify 3 (lk U1)).modify 2 (lk U1) }
end

section
theorem Ez{α β:Type}{F:(α→Option β)→α→Option β}(I:Nat→α)(N:Nat){z:Option β}(hs:∀i,i<N→∀k,F k (I i)=k (I (i+1)))(he:∀k,F k (I N)=z){m:Nat}(hm:N<m):CO F m (I 0)=z:=by
 have key:∀d i m,i+d=N→d<m→CO F m (I i)=z:=by
  intro d
  induction d with
  | zero=>
   intro i m hi hm
   obtain rfl:i=N:=zO
   obtain⟨m,rfl⟩:∃k,m=k+1:=⟨m-1,by omega⟩
   exact he _
  | succ d ih=>
   intro i m hi hm
   obtain⟨m,rfl⟩:∃k,m=k+1:=⟨m-1,by omega⟩
   show F (CO F m) (I i)=z
   rw[hs i zO]
   exact ih (i+1) m zO zO
 exact key N 0 m zO hm
theorem jW{α β:Type}{F:(α→Option β)→α→Option β}(I:Nat→α)(Z9:Nat→Option β)(N:Nat)(hs:∀i,i<N→∀k,k (I (i+1))=Z9 (i+1)→F k (I i)=Z9 i)(he:∀k,F k (I N)=Z9 N){m:Nat}(hm:N<m):CO F m (I 0)=Z9 0:=by
 have key:∀d i m,i+d=N→d<m→CO F m (I i)=Z9 i:=by
  intro d
  induction d with
  | zero=>
   intro i m hi hm
   obtain rfl:i=N:=zO
   obtain⟨m,rfl⟩:∃k,m=k+1:=⟨m-1,by omega⟩
   exact he _
  | succ d ih=>
   intro i m hi hm
   obtain⟨m,rfl⟩:∃k,m=k+1:=⟨m-1,by omega⟩
   show F (CO F m) (I i)=Z9 i
   exact hs i zO _ (ih (i+1) m zO zO)
 exact key N 0 m zO hm
theorem jX{α β:Type}{F:(α→Option β)→α→Option β}(I:Nat→α)(p:Nat→Prop)(N:Nat){z:Option β}(hs:∀i,i<N→p i→∀k,(p (i+1)→k (I (i+1))=z)→F k (I i)=z)(he:p N→∀k,F k (I N)=z)(h0:p 0){m:Nat}(hm:N<m):CO F m (I 0)=z:=by
 have key:∀d i m,i+d=N→d<m→p i→CO F m (I i)=z:=by
  intro d
  induction d with
  | zero=>
   intro i m hi hm hp
   obtain rfl:i=N:=zO
   obtain⟨m,rfl⟩:∃k,m=k+1:=⟨m-1,by omega⟩
   exact he hp _
  | succ d ih=>
   intro i m hi hm hp
   obtain⟨m,rfl⟩:∃k,m=k+1:=⟨m-1,by omega⟩
   show F (CO F m) (I i)=z
   exact hs i zO hp _ (ih (i+1) m zO zO)
 exact key N 0 m zO hm h0
theorem HO{α:Type}{l:List α}{i:Nat}:BN l (i:Int)=l[i]? := by simp[BN]
theorem PI{α:Type}{l:List α}{i:Int}{k:Nat}(h:i=(k:Int)):BN l i=l[k]? := by rw[h,HO]
theorem Cw{α:Type}{l:List α}{i:Int}{k:Nat}(d:α)(h:i=(k:Int))(hk:k<l.length):BN l i=some (l.getD k d):=by rw[PI h,Jb d hk]
theorem Ls{α:Type}{l:List α}{i:Int}{k:Nat}{a:α}(h:i=(k:Int))(hk:k<l.length):OA l i a=some (l.set k a):=by
 subst h
 unfold OA
 rw[if_pos zO]
 simp
theorem d6{α:Type}{l:List α}{i j:Int}{p q:Nat}(hi:i=(p:Int))(hj:j=(q:Int))(h1:p≤q)(h2:q≤l.length):LF l i j=some ((l.drop p).take (q-p)):=by
 subst hi;subst hj
 unfold LF
 rw[if_pos zO]
 simp
theorem DX{α:Type}{b:Nat}{s t:List α}(h:(s.length+t.length)*b≤140737488355328)(h2:s.length+t.length≤9223372036854775807):DO b s t=some (s++t):=if_pos ⟨h,h2⟩
theorem Eg{s t:List UInt8}(h:s.length+t.length≤9223372036854775807):EG s t=some (s++t):=if_pos h
theorem Vc{i:Nat}:Qg (i:Int)=some i:=by simp[Qg]
theorem VX{a b:Nat}(hb:b≠0):T3 (a:Int) (b:Int)=some ((a%b:Nat):Int):=by
 unfold T3
 rw[if_neg zO,Int.tmod_eq_emod_of_nonneg zO]
 rfl
theorem dq{a b:Nat}(hb:b≠0)(ha:a≤9223372036854775807):VV (a:Int) (b:Int)=some ((a / b:Nat):Int):=by
 unfold VV
 have h1:a / b≤a:=Nat.div_le_self _ _
 rw[if_neg zO,Int.tdiv_eq_ediv_of_nonneg zO,show((a:Int) / (b:Int))=((a / b:Nat):Int)from rfl]
 generalize a / b=q at h1 ⊢
 rw[DK zO zO]
theorem AD{α β:Type}{a:α}{f:α→Option β}:(some a).bind f=f a:=by simp
theorem CI{α β:Type}{e:α}{k:α→β}:ret e k=k e:=by simp[ret]
theorem Wb{α β:Type}{F:(α→Option β)→α→Option β}{m:Nat}{a:α}:CO F (m+1) a=F (CO F m) a:=by rw[CO]
end

section
open Go Go.MapKept Go.ChangeMaps
variable {P:Program}{ro:Option Nat}{K:Nat→Prop}{w0:World}{N:Nat}{Q:DH}{D:List Nat}{l l':Tm}{H H' Hs L:List AZ}{ops:Array Oper}{items:Hq}
variable {tk:Bool}{o:Oper}{t:Nat}{v:Value}{x y z:Operand}
theorem QB{α β:Type}(f:α→β){l:List α}(h:(l.map f).Nodup):l.Nodup:=(List.pairwise_map.1 h).imp fun hne e=>hne (congrArg f e)
theorem RF{α:Type}:∀ {l l':List α},l.Nodup→(∀a∈l,a∈l')→l.length≤l'.length
  | [],_,_,_=>by simp
  | a::r,l',hn,hs=>by
    obtain⟨h1,h2⟩:=List.nodup_cons.1 hn
    obtain⟨p,q,rfl⟩:=List.append_of_mem (hs a (List.mem_cons_self ..))
    have:=RF (l':=p++q) h2 (fun b hb=>by
      have hb':=hs b (List.mem_cons_of_mem _ hb)
      simp only[List.mem_append,List.mem_cons]at hb' ⊢
      rcases hb' with h | rfl | h
      exact .inl h
      exact absurd hb h1
      exact .inr h)
    simp at this ⊢
    omega
section fi
variable {κ α:Type}[DecidableEq κ]
def C0(m:List (κ×α))(k:κ):Option α:=(m.find? fun p=>decide (p.1=k)).map (·.2)
def Gz(m:List (κ×α))(k:κ):List (κ×α):=m.filter fun p=>decide (p.1≠k)
def Mb(m:List (κ×α))(k:κ)(a:α):List (κ×α):=(k,a)::Gz m k
theorem YQ{m:List (κ×α)}{k:κ}(h:∀p∈m,p.1≠k):C0 m k=none:=by
  unfold C0
  rw[List.find?_eq_none.2 (fun p hp=>by simpa using h p hp)]
  rfl
theorem UQ{m:List (κ×α)}(hn:(m.map (·.1)).Nodup){p:κ×α}(hp:p∈m):C0 m p.1=some p.2:=by
  induction m with
  | nil=>cases hp
  | cons q r ih=>
    simp only[List.map_cons,List.nodup_cons]at hn
    unfold C0
    rcases List.mem_cons.1 hp with rfl | hp
    simp
    have hne:q.1≠p.1:=fun e=>hn.1 (by rw[e];exact List.mem_map_of_mem hp)
    rw[List.find?_cons_of_neg (by simpa using hne)]
    exact ih hn.2 hp
theorem TM{m:List (κ×α)}{k:κ}(h:∀p∈m,p.1≠k):Gz m k=m:=List.filter_eq_self.2 (fun p hp=>by simpa using h p hp)
theorem Wc{m:List (κ×α)}(hn:(m.map (·.1)).Nodup){p:κ×α}(hp:p∈m):m.Perm (p::Gz m p.1):=by
  induction m with
  | nil=>cases hp
  | cons q r ih=>
    simp only[List.map_cons,List.nodup_cons]at hn
    rcases List.mem_cons.1 hp with rfl | hp
    have h1:Gz (p::r) p.1=r:=by
      unfold Gz
      rw[List.filter_cons_of_neg zS]
      exact TM fun q hq e=>hn.1 (by rw[←e];exact List.mem_map_of_mem hq)
    rw[h1]
    have hne:q.1≠p.1:=fun e=>hn.1 (by rw[e];exact List.mem_map_of_mem hp)
    have h1:Gz (q::r) p.1=q::Gz r p.1:=by
      unfold Gz
      rw[List.filter_cons_of_pos (by simpa using hne)]
    rw[h1]
    exact((ih hn.2 hp).cons q).trans (List.Perm.swap _ _ _)
theorem da{m:List (κ×α)}{k:κ}(hn:(m.map (·.1)).Nodup):((Gz m k).map (·.1)).Nodup:=hn.sublist (List.Sublist.map _ (List.filter_sublist ..))
theorem ZZ{m:List (κ×α)}{k j:κ}{a:α}:C0 (Mb m k a) j=if k=j then some a else C0 m j:=by
  unfold Mb C0
  by_cases h:k=j
  rw[if_pos h,List.find?_cons_of_pos (by simpa using h)];rfl
  rw[if_neg h,List.find?_cons_of_neg (by simpa using h)]
  congr 1
  unfold Gz
  rw[List.find?_filter]
  congr 1
  funext p
  by_cases hj:p.1=j
  simp[hj,Ne.symm h]
  simp[hj]
end fi
structure NM(P:Program)(k:TypeId){κ α:Type}(ek:κ→Value)(ev:α→Value):Prop where
  keyed:Go.Maps.Keyed P k
  lit:∀x,∃l,keyOf P k (ek x)=some l
  dk:∃f:Value→Option κ,∀x,f (ek x)=some x
  dv:∃f:Value→Option α,∀x,f (ev x)=some x
theorem NM.inj{k:TypeId}{κ α:Type}{ek:κ→Value}{ev:α→Value}(E9:NM P k ek ev){x y:κ}(h:ek x=ek y):x=y:=by
  obtain⟨f,hf⟩:=E9.dk
  have:=hf x
  rw[h,hf y]at this
  exact(zI this).symm
theorem Vd{k:TypeId}(hk:P.underlying k=some (.int .u32))(a:UInt32):∃l,keyOf P k (Z a)=some l:=
  ⟨_,Maps.keyOf_int_mk hk (by have:=a.toNat_lt;simp[Lit.wf,IntKind.min,IntKind.max,IntKind.signed,IntKind.bits];omega)⟩
theorem T7{k:TypeId}(hk:P.underlying k=some (.int .u32)):NM P k Z vS:=
  ⟨Maps.int_keyed hk,Vd hk,⟨fun v=>match v with | .int _ a=>some (UInt32.ofNat a.toNat) | _=>none,fun x=>by simp⟩,⟨fun v=>match v with | .string b=>some b.data.toList | _=>none,fun x=>rfl⟩⟩
theorem Qi{k:TypeId}(hk:P.underlying k=some (.int .u32)):NM P k Z vB:=
  ⟨Maps.int_keyed hk,Vd hk,⟨fun v=>match v with | .int _ a=>some (UInt32.ofNat a.toNat) | _=>none,fun x=>by simp⟩,⟨fun v=>match v with | .bool b=>some b | _=>none,fun x=>rfl⟩⟩
section maps
variable {κ α:Type}{ek:κ→Value}{ev:α→Value}{m:List (κ×α)}{k:TypeId}{b:Nat}
def Me(ek:κ→Value)(ev:α→Value)(m:List (κ×α))(es:Array MapEntry)(clock:Nat):Prop:=
  Stamped es clock∧es.size≤maxLen∧(es.toList.map fun e=>(e.key,e.val)).Perm (m.map fun p=>(ek p.1,ev p.2))
def Ab(b:Nat)(ek:κ→Value)(ev:α→Value)(m:List (κ×α)):AZ:=
  ⟨(·=b),fun w=>∃es clock,w.heap[b]? = some (.map es clock)∧Me ek ev m es clock,fun w w' h ⟨es,c,h1,h2⟩=>⟨es,c,by rw[h _ rfl];exact h1,h2⟩⟩
theorem Me.mem{es:Array MapEntry}{clock:Nat}(h:Me ek ev m es clock){e:MapEntry}(he:e∈es.toList):∃p∈m,e.key=ek p.1∧e.val=ev p.2:=by
  have:=h.2.2.mem_iff.1 (List.mem_map_of_mem (f:=fun e:MapEntry=>(e.key,e.val)) he)
  obtain⟨p,hp,e1⟩:=List.mem_map.1 this
  simp only[Prod.mk.injEq]at e1
  exact⟨p,hp,e1.1.symm,e1.2.symm⟩
theorem Me.nodup{es:Array MapEntry}{clock:Nat}(h:Me ek ev m es clock):(m.map (·.1)).Nodup:=by
  have h1:(es.toList.map (·.key)).Nodup:=h.1.2.2
  have h2:(es.toList.map (·.key)).Perm (m.map fun p=>ek p.1):=by
    have:=h.2.2.map (·.1)
    simpa[List.map_map,Function.comp_def]using this
  have h3:(m.map fun p=>ek p.1).Nodup:=h2.nodup_iff.1 h1
  have h4:(m.map fun p=>ek p.1)=(m.map (·.1)).map ek:=by simp
  rw[h4]at h3
  exact QB _ h3
theorem Me.keys{es:Array MapEntry}{clock:Nat}(E9:NM P k ek ev)(h:Me ek ev m es clock):∀e∈es.toList,∃l,keyOf P k e.key=some l:=fun e he=>by
  obtain⟨p,_,e1,_⟩:=h.mem he
  rw[e1]
  exact E9.lit _
theorem Me.size_eq{es:Array MapEntry}{clock:Nat}(h:Me ek ev m es clock):es.size=m.length:=by
  have:=h.2.2.length_eq
  simpa using this
variable [DecidableEq κ]
theorem Me.look{es:Array MapEntry}{clock:Nat}{w:World}(E9:NM P k ek ev)(h:Me ek ev m es clock)(hb:w.heap[b]? = some (.map es clock)){ty e:TypeId}(ht:P.underlying ty=some (.map k e)){zv:α}(hz:EF P e=some (ev zv))(key:κ)(c:Bool):
    (Instr.lookup ty (.map (some b)) (ek key) c).run P w=.ok (if c then .tuple #[ev ((C0 m key).getD zv),.bool (C0 m key).isSome]else ev ((C0 m key).getD zv)) w:=by
  obtain⟨lx,hl⟩:=E9.lit key
  rcases E9.keyed.find w hl es.toList (h.keys E9)with⟨h1,h2⟩ | ⟨j,e0,h1,h2,h3⟩
  have hg:C0 m key=none:=YQ fun p hp e=>by
    have:=h.2.2.mem_iff.2 (List.mem_map_of_mem (f:=fun p:κ×α=>(ek p.1,ev p.2)) hp)
    obtain⟨e',he',e1⟩:=List.mem_map.1 this
    simp only[Prod.mk.injEq]at e1
    exact h2 e' he' (by rw[e1.1,e])
  simp[Instr.lookup,Ax ht,MapKept.run_getObj_map hb,E9.keyed.check w _ hl,h1,No hz,Result.andThen,hg]
  obtain⟨p,hp,e1,e2⟩:=h.mem (List.mem_of_getElem? h2)
  have hk:p.1=key:=E9.inj (by rw[←e1,h3])
  have hg:=UQ h.nodup hp
  rw[hk]at hg
  simp[Instr.lookup,Ax ht,MapKept.run_getObj_map hb,E9.keyed.check w _ hl,h1,Result.andThen,hg,←e2]
theorem Me.upd{es:Array MapEntry}{clock:Nat}{w:World}(E9:NM P k ek ev)(h:Me ek ev m es clock)(hb:w.heap[b]? = some (.map es clock)){ty e:TypeId}(ht:P.underlying ty=some (.map k e))(key:κ)(a:α)(hroom:m.length<9223372036854775807):
    ∃es' clock',(Instr.mapUpdate ty (.map (some b)) (ek key) (ev a)).run P w=.ok () (setBlock w b (.map es' clock'))∧Me ek ev (Mb m key a) es' clock':=by
  obtain⟨lx,hl⟩:=E9.lit key
  have hsz:=h.size_eq
  rcases E9.keyed.find w hl es.toList (h.keys E9)with⟨h1,h2⟩ | ⟨j,e0,h1,h2,h3⟩
  have hno:∀p∈m,p.1≠key:=fun p hp e=>by
    have:=h.2.2.mem_iff.2 (List.mem_map_of_mem (f:=fun p:κ×α=>(ek p.1,ev p.2)) hp)
    obtain⟨e',he',e1⟩:=List.mem_map.1 this
    simp only[Prod.mk.injEq]at e1
    exact h2 e' he' (by rw[e1.1,e])
  refine⟨es.push ⟨ek key,ev a,clock⟩,clock+1,?_,stamped_push h.1 h2,by simp only[maxLen,Array.size_push];omega,?_⟩
  simp[Instr.mapUpdate,Ax ht,MapKept.run_getObj_map hb,E9.keyed.check w false hl,h1,MapKept.run_setObj_map _ hb,Result.andThen,setBlock]
  unfold Mb
  rw[TM hno,Array.toList_push,List.map_append,List.map_cons]
  exact(List.perm_append_singleton _ _).trans (h.2.2.cons _)
  have hj:es[j]? = some e0:=by simpa using h2
  have hjl:j<es.toList.length:=(List.getElem?_eq_some_iff.1 h2).1
  obtain⟨p,hp,e1,e2⟩:=h.mem (List.mem_of_getElem? h2)
  have hk:p.1=key:=E9.inj (by rw[←e1,h3])
  have hkeyf:∀e',es[j]? = some e'→({ e' with key:=ek key,val:=ev a }:MapEntry).key=e'.key:=fun e' he'=>by rw[hj]at he';cases he';exact h3.symm
  have hlist:(es.modify j (fun e'=>{ e' with key:=ek key,val:=ev a })).toList=es.toList.set j { e0 with key:=ek key,val:=ev a }:=by rw[Array.toList_modify,modify_eq_set _ _ _ _ h2]
  refine⟨es.modify j (fun e'=>{ e' with key:=ek key,val:=ev a }),clock,?_,stamped_modify h.1 _ _ (fun _ _=>rfl) (fun e' _ he'=>hkeyf e' he'),by simpa using h.2.1,?_⟩
  simp[Instr.mapUpdate,Ax ht,MapKept.run_getObj_map hb,E9.keyed.check w false hl,h1,hj,h3,E9.keyed.stays w hl,MapKept.run_setObj_map _ hb,Result.andThen,setBlock]
  rw[hlist]
  unfold Mb
  have hspl:=Wc h.nodup hp
  rw[hk]at hspl
  have p1:es.toList=es.toList.take j++e0::es.toList.drop (j+1):=(E1 h2).1
  have p2:es.toList.set j { e0 with key:=ek key,val:=ev a }=es.toList.take j++{ e0 with key:=ek key,val:=ev a }::es.toList.drop (j+1):=by
    rw[List.set_eq_take_append_cons_drop,if_pos hjl]
  rw[p2]
  have q1:((es.toList.take j++es.toList.drop (j+1)).map fun e=>(e.key,e.val)).Perm ((Gz m key).map fun p=>(ek p.1,ev p.2)):=by
    have h5:=h.2.2
    rw[p1]at h5
    have h6:=(List.perm_middle (l₁:=es.toList.take j) (a:=e0) (l₂:=es.toList.drop (j+1))).symm.map (fun e:MapEntry=>(e.key,e.val))
    have h7:=(h6.trans h5).trans (hspl.map fun p=>(ek p.1,ev p.2))
    simp only[List.map_cons,e1,e2]at h7
    exact h7.cons_inv
  have h8:=(List.perm_middle (l₁:=es.toList.take j) (a:=({ e0 with key:=ek key,val:=ev a }:MapEntry)) (l₂:=es.toList.drop (j+1))).map (fun e:MapEntry=>(e.key,e.val))
  exact h8.trans (q1.cons _)
theorem Me.drop{es:Array MapEntry}{clock:Nat}{w:World}(E9:NM P k ek ev)(h:Me ek ev m es clock)(hb:w.heap[b]? = some (.map es clock)){t2 e rt:TypeId}(ht:P.underlying t2=some (.map k e))(key:κ):
    ∃es',(Builtin.delete_ #[t2,k] rt #[.map (some b),ek key]).run P w=.ok (.tuple #[]) (setBlock w b (.map es' clock))∧Me ek ev (Gz m key) es' clock:=by
  obtain⟨lx,hl⟩:=E9.lit key
  rcases E9.keyed.find w hl es.toList (h.keys E9)with⟨h1,h2⟩ | ⟨j,e0,h1,h2,h3⟩
  have hno:∀p∈m,p.1≠key:=fun p hp e=>by
    have:=h.2.2.mem_iff.2 (List.mem_map_of_mem (f:=fun p:κ×α=>(ek p.1,ev p.2)) hp)
    obtain⟨e',he',e1⟩:=List.mem_map.1 this
    simp only[Prod.mk.injEq]at e1
    exact h2 e' he' (by rw[e1.1,e])
  refine⟨es,?_,by rw[TM hno];exact h⟩
  simp[Builtin.delete_,Ax ht,MapKept.run_getObj_map hb,E9.keyed.check w _ hl,h1,MapKept.run_setObj_map _ hb,Result.andThen,setBlock]
  have hjl:j<es.toList.length:=(List.getElem?_eq_some_iff.1 h2).1
  have hjs:j<es.size:=by simpa using hjl
  obtain⟨p,hp,e1,e2⟩:=h.mem (List.mem_of_getElem? h2)
  have hk:p.1=key:=E9.inj (by rw[←e1,h3])
  have hsub:(es.eraseIdxIfInBounds j).toList=es.toList.eraseIdx j:=by
    unfold Array.eraseIdxIfInBounds
    rw[dif_pos hjs]
    simp
  refine⟨es.eraseIdxIfInBounds j,?_,stamped_erase h.1 j,Nat.le_trans (MapFrom.size_erase es j) h.2.1,?_⟩
  simp[Builtin.delete_,Ax ht,MapKept.run_getObj_map hb,E9.keyed.check w _ hl,h1,MapKept.run_setObj_map _ hb,Result.andThen,setBlock]
  rw[hsub,List.eraseIdx_eq_take_drop_succ]
  have hspl:=Wc h.nodup hp
  rw[hk]at hspl
  have p1:es.toList=es.toList.take j++e0::es.toList.drop (j+1):=(E1 h2).1
  have h5:=h.2.2
  rw[p1]at h5
  have h6:=(List.perm_middle (l₁:=es.toList.take j) (a:=e0) (l₂:=es.toList.drop (j+1))).symm.map (fun e:MapEntry=>(e.key,e.val))
  have h7:=(h6.trans h5).trans (hspl.map fun p=>(ek p.1,ev p.2))
  simp only[List.map_cons,e1,e2]at h7
  exact h7.cons_inv
omit [DecidableEq κ]
theorem Fh(w:World)(b:Nat)(o:Obj):setBlock w b o=w.putObj b o:=rfl
theorem TA{ty:TypeId}(ek:κ→Value)(ev:α→Value)(ho:At ops N l o t (.makeMap ty none))(hs:∀b,EP Hs (Ab b ek ev []::H))
(h:∀b,SL P ro K w0 N ops Hs items Q D ((t,.map (some b))::l) (Ab b ek ev []::H)):SL P ro K w0 N ops Hs (.cons (false,o) items) Q D l H:=
  Gf (fun b=>.map (some b)) (fun b=>Ab b ek ev []::H) ho rfl (fun a w ha hw=>by
    refine⟨w.heap.size,w.alloc (.map #[] 0),?_,?_⟩
    simp[execOp,ho.op,Instr.makeMap]
    have h2:=hw.alloc (.map #[] 0)
    refine h2.turn rfl rfl rfl (Nat.le_refl _) (fun _ _ _=>rfl) ⟨#[],0,h2.holds _ (List.mem_cons_self ..),stamped_empty 0,by simp,by simp⟩ (fun j hj=>?_)
    exact⟨.inl hj,(h2.foot _ (List.mem_cons_self ..) j hj).1⟩) hs h
variable [DecidableEq κ]
theorem W3{ty e:TypeId}{key:κ}{zv:α}(i:Nat)(E9:NM P k ek ev)(ho:At ops N l o t (.lookup ty x y false))(ht:P.underlying ty=some (.map k e))(hz:EF P e=some (ev zv))(hx:Bn l x=some (.map (some b)))(hy:Bn l y=some (ek key))
(hi:(bif tk then Hs else H)[i]? = some (Ab b ek ev m))(h:SL P ro K w0 N ops Hs items Q D ((t,ev ((C0 m key).getD zv))::l) H):SL P ro K w0 N ops Hs (.cons (tk,o) items) Q D l H:=
  SL.val ho rfl (fun a w ha hsw=>by
    obtain⟨es,clock,hb,hr⟩:=hsw.holds _ (List.mem_of_getElem? hi)
    have:=hr.look E9 hb ht hz key false
    simp[execOp,ho.op,ha.eval hx,ha.eval hy,this]) h
theorem ZF{ty e:TypeId}{key:κ}{zv:α}(i:Nat)(E9:NM P k ek ev)(ho:At ops N l o t (.lookup ty x y true))(ht:P.underlying ty=some (.map k e))(hz:EF P e=some (ev zv))(hx:Bn l x=some (.map (some b)))(hy:Bn l y=some (ek key))
(hi:(bif tk then Hs else H)[i]? = some (Ab b ek ev m))(h:SL P ro K w0 N ops Hs items Q D ((t,.tuple #[ev ((C0 m key).getD zv),.bool (C0 m key).isSome])::l) H):SL P ro K w0 N ops Hs (.cons (tk,o) items) Q D l H:=
  SL.val ho rfl (fun a w ha hsw=>by
    obtain⟨es,clock,hb,hr⟩:=hsw.holds _ (List.mem_of_getElem? hi)
    have:=hr.look E9 hb ht hz key true
    simp[execOp,ho.op,ha.eval hx,ha.eval hy,this]) h
theorem nS{ty e:TypeId}{key:κ}{a:α}{z:Operand}(i:Nat)(E9:NM P k ek ev)(ho:At0 ops l o (.mapUpdate ty x y z))(ht:P.underlying ty=some (.map k e))(hx:Bn l x=some (.map (some b)))(hy:Bn l y=some (ek key))(hz:Bn l z=some (ev a))
(hi:H[i]? = some (Ab b ek ev m))(hroom:m.length<9223372036854775807)(hs:EP Hs (H.set i (Ab b ek ev (Mb m key a))))(h:SL P ro K w0 N ops Hs items Q D l (H.set i (Ab b ek ev (Mb m key a)))):SL P ro K w0 N ops Hs (.cons (false,o) items) Q D l H:=
  Vh ho rfl (fun a' w ha hw=>by
    obtain⟨es,clock,hb,hr⟩:=hw.holds _ (List.mem_append_left _ (List.mem_of_getElem? hi))
    obtain⟨es',clock',hrun,hr'⟩:=hr.upd E9 hb ht key a hroom
    obtain⟨hlt,_⟩:=Array.getElem?_eq_some_iff.1 hb
    refine⟨_,by simp[execOp,ho.op,ha.eval hx,ha.eval hy,ha.eval hz,hrun];rfl,?_⟩
    refine hw.turnAt (c:=Ab b ek ev m) i hi rfl rfl rfl (by simp[Fh]) (fun j hj hne=>World.putObj_heap_other (fun e=>hne (by rw[e];rfl))) ⟨es',clock',World.putObj_heap_same hlt,hr'⟩ (fun j hj=>⟨.inl hj,?_⟩)
    obtain rfl:j=b:=hj
    simpa[Fh]using hlt) hs h
theorem nM{ty k' e:TypeId}{key:κ}(i:Nat)(E9:NM P k ek ev)(hd:o.dst=none)(hop:o.op=.call { callee:=.builtin .delete,args:=#[x,y],argTypes:=#[ty,k'] })(hwt:RU ops l o=some true)(hk:k'=k)(ht:P.underlying ty=some (.map k e))(hx:Bn l x=some (.map (some b)))(hy:Bn l y=some (ek key))
(hi:H[i]? = some (Ab b ek ev m))(hs:EP Hs (H.set i (Ab b ek ev (Gz m key))))(h:SL P ro K w0 N ops Hs items Q D l (H.set i (Ab b ek ev (Gz m key)))):SL P ro K w0 N ops Hs (.cons (false,o) items) Q D l H:=by
  subst hk
  intro a w ha hw hs0
  have hw1:=FK hwt ha.vals
  simp only[PL,hw1,if_true]
  obtain⟨es,clock,hb,hr⟩:=hw.holds _ (List.mem_append_left _ (List.mem_of_getElem? hi))
  obtain⟨es',hrun,hr'⟩:=hr.drop (rt:=o.type) E9 hb ht key
  obtain⟨hlt,_⟩:=Array.getElem?_eq_some_iff.1 hb
  have hw':Bc K w0 (H.set i (Ab b ek ev (Gz m key))++[BZ D]) (setBlock w b (.map es' clock)):=by
    refine hw.turnAt (c:=Ab b ek ev m) i hi rfl rfl rfl (by simp[Fh]) (fun j hj hne=>World.putObj_heap_other (fun e=>hne (by rw[e];rfl))) ⟨es',clock,World.putObj_heap_same hlt,hr'⟩ (fun j hj=>⟨.inl hj,?_⟩)
    obtain rfl:j=b:=hj
    simpa[Fh]using hlt
  refine Jc (by rw[hop];exact FJ rfl) (v:=.tuple #[]) (w':=setBlock w b (.map es' clock)) ?_ ⟨hs.hs hw',?_⟩
  unfold execOp
  simp only[hop,resolve,invoke,builtin,Sem.run_bind,Sem.run_pure,Result.andThen_ok,List.map_toArray,List.map_cons,List.map_nil,ha.vals.eval hx,ha.vals.eval hy,hrun]
  rw[hd]
  exact h _ _ ha hw' (hs.hs hw')
omit [DecidableEq κ]
theorem nL{ty e:TypeId}(i:Nat)(hd:o.dst=none)(hop:o.op=.call { callee:=.builtin .clear,args:=#[x],argTypes:=#[ty] })(hwt:RU ops l o=some true)(ht:P.underlying ty=some (.map k e))(hx:Bn l x=some (.map (some b)))
(hi:H[i]? = some (Ab b ek ev m))(hs:EP Hs (H.set i (Ab b ek ev [])))(h:SL P ro K w0 N ops Hs items Q D l (H.set i (Ab b ek ev []))):SL P ro K w0 N ops Hs (.cons (false,o) items) Q D l H:=by
  intro a w ha hw hs0
  have hw1:=FK hwt ha.vals
  simp only[PL,hw1,if_true]
  obtain⟨es,clock,hb,hr⟩:=hw.holds _ (List.mem_append_left _ (List.mem_of_getElem? hi))
  obtain⟨hlt,_⟩:=Array.getElem?_eq_some_iff.1 hb
  have hw':Bc K w0 (H.set i (Ab b ek ev [])++[BZ D]) (setBlock w b (.map #[] clock)):=by
    refine hw.turnAt (c:=Ab b ek ev m) i hi rfl rfl rfl (by simp[Fh]) (fun j hj hne=>World.putObj_heap_other (fun e=>hne (by rw[e];rfl))) ⟨#[],clock,World.putObj_heap_same hlt,stamped_empty clock,by simp,by simp⟩ (fun j hj=>⟨.inl hj,?_⟩)
    obtain rfl:j=b:=hj
    simpa[Fh]using hlt
  refine Jc (by rw[hop];exact FJ rfl) (v:=.tuple #[]) (w':=setBlock w b (.map #[] clock)) ?_ ⟨hs.hs hw',?_⟩
  unfold execOp
  simp only[hop,resolve,invoke,builtin,Sem.run_bind,Sem.run_pure,Result.andThen_ok,List.map_toArray,List.map_cons,List.map_nil,ha.vals.eval hx]
  simp[Builtin.clear_,Ax ht,MapKept.run_getObj_map hb,MapKept.run_setObj_map _ hb,Result.andThen,setBlock]
  rw[hd]
  exact h _ _ ha hw' (hs.hs hw')
def Nm(b it:Nat)(ek:κ→Value)(ev:α→Value)(m done:List (κ×α)):AZ:=
  ⟨fun j=>j=b∨j=it,fun w=>∃es clock seen,w.heap[b]? = some (.map es clock)∧Me ek ev m es clock∧w.heap[it]? = some (.mapIter (some b) clock seen clock)∧
    ∃ord:List MapEntry,seen.toList=ord.map MapEntry.born∧(∀e∈ord,e∈es.toList)∧(ord.map MapEntry.born).Nodup∧(ord.map fun e=>(e.key,e.val))=done.map fun p=>(ek p.1,ev p.2),
   fun w w' h ⟨es,c,s,h1,h2,h3,h4⟩=>⟨es,c,s,by rw[h _ (.inl rfl)];exact h1,h2,by rw[h _ (.inr rfl)];exact h3,h4⟩⟩
theorem nR{ty e:TypeId}(i:Nat)(ho:At ops N l o t (.range ty x))(ht:P.underlying ty=some (.map k e))(hx:Bn l x=some (.map (some b)))(hi:H[i]? = some (Ab b ek ev m))
(hs:∀it,EP Hs (H.set i (Nm b it ek ev m [])))(h:∀it,SL P ro K w0 N ops Hs items Q D ((t,vP it 0)::l) (H.set i (Nm b it ek ev m []))):SL P ro K w0 N ops Hs (.cons (false,o) items) Q D l H:=
  Gf (fun it=>vP it 0) (fun it=>H.set i (Nm b it ek ev m [])) ho rfl (fun a w ha hw=>by
    obtain⟨es,clock,hb,hr⟩:=hw.holds _ (List.mem_append_left _ (List.mem_of_getElem? hi))
    obtain⟨hlt,_⟩:=Array.getElem?_eq_some_iff.1 hb
    refine⟨w.heap.size,w.alloc (.mapIter (some b) clock #[] clock),?_,?_⟩
    simp[execOp,ho.op,Instr.range,ha.eval hx,Ax ht,MapKept.run_getObj_map hb]
    refine hw.turnAt (c:=Ab b ek ev m) i hi rfl rfl rfl zS (fun j hj _=>P9 w _ j hj) ⟨es,clock,#[],(P9 w _ b hlt).trans hb,hr,?_,[],by simp,by simp,by simp,by simp⟩ (fun j hj=>?_)
    show(w.heap.push _)[w.heap.size]? = _
    simp
    rcases hj with rfl | rfl
    exact⟨.inl rfl,by simp;omega⟩
    exact⟨.inr (Nat.le_refl _),by simp⟩) hs h
theorem nP{it:Nat}{done:List (κ×α)}(i:Nat)(E9:NM P k ek ev)(ho:At ops N l o t (.next x false))(hx:Bn l x=some (vP it 0))(hi:H[i]? = some (Nm b it ek ev m done))(hs0:EP Hs H)
(hA:done.Perm m→SL P ro K w0 N ops Hs items Q D ((t,.tuple #[.bool false])::l) H)
(hB:∀p,p∈m→done.length<m.length→EP Hs (H.set i (Nm b it ek ev m (done++[p])))∧SL P ro K w0 N ops Hs items Q D ((t,.tuple #[.bool true,ek p.1,ev p.2])::l) (H.set i (Nm b it ek ev m (done++[p])))):
    SL P ro K w0 N ops Hs (.cons (false,o) items) Q D l H:=by
  intro a w ha hw hsw
  have hw1:=FK ho.wt ha.vals
  simp only[PL,hw1,if_true]
  obtain⟨es,clock,seen,hb,hr,hit,ord,ho1,ho2,ho3,ho4⟩:=hw.holds _ (List.mem_append_left _ (List.mem_of_getElem? hi))
  obtain⟨hlt,_⟩:=Array.getElem?_eq_some_iff.1 hb
  obtain⟨hlt2,_⟩:=Array.getElem?_eq_some_iff.1 hit
  have hlen:ord.length=done.length:=by simpa using congrArg List.length ho4
  have hsz:=hr.size_eq
  have hnd:ord.Nodup:=QB _ ho3
  rcases run_next_at (P:=P) w o.type it b clock clock seen es clock hit hb hr.1.1 (Nat.le_refl _)with⟨h0,hrun⟩ | ⟨e,he,w1,hal,hrun⟩
  
  have hall:∀e∈es.toList,e∈ord:=fun e he=>by
    have:leftOf es seen=#[]:=Array.eq_empty_of_size_eq_zero h0
    unfold leftOf at this
    have h1:=Array.filter_eq_empty_iff.1 this e (by simpa using he)
    have h2:e.born∈seen.toList:=by simpa using h1
    rw[ho1]at h2
    obtain⟨e',he',eb⟩:=List.mem_map.1 h2
    have h3:=ho2 e' he'
    have:e'=e:=by
      have hn:=hr.1.2.1
      obtain⟨p,hp,e1⟩:=List.getElem_of_mem h3
      obtain⟨q,hq,e2⟩:=List.getElem_of_mem he
      have:=(List.getElem_inj (h₀:=by simpa using hp) (h₁:=by simpa using hq) hn).1 (by simp[e1,e2,eb])
      subst this
      rw[←e1,←e2]
    rw[←this];exact he'
  have hperm:ord.Perm es.toList:=by
    have hen:es.toList.Nodup:=QB _ hr.1.2.1
    exact(List.perm_ext_iff_of_nodup hnd hen).2 fun e=>⟨ho2 e,hall e⟩
  have hdm:done.Perm m:=by
    have h1:(done.map fun p=>(ek p.1,ev p.2)).Perm (m.map fun p=>(ek p.1,ev p.2)):=by
      rw[←ho4]
      exact(hperm.map _).trans hr.2.2
    obtain⟨fk,hfk⟩:=E9.dk
    obtain⟨fv,hfv⟩:=E9.dv
    have h2:=h1.filterMap fun q:Value×Value=>(fk q.1).bind fun a=>(fv q.2).map fun b=>(a,b)
    have h3:∀l:List (κ×α),(l.map fun p=>(ek p.1,ev p.2)).filterMap (fun q:Value×Value=>(fk q.1).bind fun a=>(fv q.2).map fun b=>(a,b))=l:=by
      intro l
      induction l with
      | nil=>rfl
      | cons p r ih=>simp[hfk,hfv,ih]
    rwa [h3,h3]at h2
  refine Jc (by rw[ho.op];exact FJ rfl) (v:=.tuple #[.bool false]) (w':=w) ?_ ⟨hs0.hs hw,hA hdm _ w (by rw[ho.dst];exact ha.put (HU ho.lt) _) hw (hs0.hs hw)⟩
  simp[execOp,ho.op,ha.vals.eval hx,hrun]
  
  have hel:e∈es.toList:=by
    unfold leftOf at he
    simp at he ⊢
    exact he.1
  have hens:e.born∉ord.map (·.born):=by
    unfold leftOf at he
    rw[←ho1]
    simp at he ⊢
    exact he.2
  obtain⟨p,hp,e1,e2⟩:=hr.mem hel
  have hlt3:done.length<m.length:=by
    have hnd2:(ord++[e]).Nodup:=by
      refine List.nodup_append.2 ⟨hnd,by simp,?_⟩
      intro x hx y hy
      simp only[List.mem_singleton]at hy
      subst hy
      intro exy
      exact hens (by rw[←exy];exact List.mem_map_of_mem hx)
    have hsub:(ord++[e])⊆es.toList:=by
      intro x hx
      rcases List.mem_append.1 hx with hx | hx
      exact ho2 x hx
      simp only[List.mem_singleton]at hx
      subst hx;exact hel
    have:=RF hnd2 (fun a ha=>hsub ha)
    simp at this
    omega
  obtain⟨hsub,hcont⟩:=hB p hp hlt3
  have hhw1:w1.os=w.os∧w1.tape=w.tape∧w1.output=w.output∧w1.heap=w.heap:=by rcases hal with rfl | rfl<;>exact⟨rfl,rfl,rfl,rfl⟩
  have hne:it≠b:=fun e=>by rw[e,hb]at hit;cases hit
  have hw':Bc K w0 (H.set i (Nm b it ek ev m (done++[p]))++[BZ D]) (setBlock w1 it (.mapIter (some b) clock (seen.push e.born) clock)):=by
    refine hw.turnAt (c:=Nm b it ek ev m done) i hi hhw1.1 hhw1.2.1 hhw1.2.2.1 (by simp[Fh,hhw1.2.2.2]) (fun j hj hnf=>?_) ⟨es,clock,seen.push e.born,?_,hr,World.putObj_heap_same (by rw[hhw1.2.2.2];exact hlt2),ord++[e],by simp[ho1],?_,?_,by simp[ho4,e1,e2]⟩ (fun j hj=>⟨.inl hj,?_⟩)
    exact(World.putObj_heap_other (fun e=>hnf (.inr e))).trans (by rw[hhw1.2.2.2])
    exact(World.putObj_heap_other (fun e=>hne e.symm)).trans (by rw[hhw1.2.2.2];exact hb)
    intro x hx
    rcases List.mem_append.1 hx with hx | hx
    exact ho2 x hx
    simp only[List.mem_singleton]at hx
    subst hx;exact hel
    rw[List.map_append]
    refine List.nodup_append.2 ⟨ho3,by simp,?_⟩
    intro x hx y hy
    simp only[List.map_cons,List.map_nil,List.mem_singleton]at hy
    subst hy
    intro exy
    exact hens (by rw[←exy];exact hx)
    rcases hj with rfl | rfl
    simpa[Fh,hhw1.2.2.2]using hlt
    simpa[Fh,hhw1.2.2.2]using hlt2
  refine Jc (by rw[ho.op];exact FJ rfl) (v:=.tuple #[.bool true,ek p.1,ev p.2]) (w':=setBlock w1 it (.mapIter (some b) clock (seen.push e.born) clock)) ?_ ⟨hsub.hs hw',hcont _ _ (by rw[ho.dst];exact ha.put (HU ho.lt) _) hw' (hsub.hs hw')⟩
  simp[execOp,ho.op,ha.vals.eval hx,hrun,e1,e2]
theorem nN{it:Nat}{done:List (κ×α)}{p:κ×α}(i:Nat)(ho:At ops N l o t (.entry x))(hx:Bn l x=some (vP it 0))(hi:(bif tk then Hs else H)[i]? = some (Nm b it ek ev m (done++[p])))
(h:SL P ro K w0 N ops Hs items Q D ((t,.tuple #[ek p.1,ev p.2])::l) H):SL P ro K w0 N ops Hs (.cons (tk,o) items) Q D l H:=
  SL.val ho rfl (fun a w ha hsw=>by
    obtain⟨es,clock,seen,hb,hr,hit,ord,ho1,ho2,ho3,ho4⟩:=hsw.holds _ (List.mem_of_getElem? hi)
    have hne:ord≠[]:=fun e=>by rw[e]at ho4;simp at ho4
    obtain⟨ord',e,rfl⟩:∃o' e,ord=o'++[e]:=⟨_,_,(List.dropLast_concat_getLast hne).symm⟩
    simp only[List.map_append,List.map_cons,List.map_nil]at ho4 ho1
    have h4:=List.append_inj' ho4 rfl
    simp only[List.cons.injEq,Prod.mk.injEq,and_true]at h4
    have hse:seen=(ord'.map (·.born)).toArray.push e.born:=by
      apply Array.ext'
      simp[ho1]
    rw[hse]at hit
    have:=run_entry_at (P:=P) w it b clock _ es clock e hit hb (ho2 e zS) hr.1.2.1
    simp[execOp,ho.op,ha.eval hx,this,h4.2.1,h4.2.2]) h
theorem Bc.itOff{w:World}{M:List AZ}{it:Nat}{done:List (κ×α)}(i:Nat)(h:Bc K w0 (H++M) w)(hi:H[i]? = some (Nm b it ek ev m done)):Bc K w0 (H.set i (Ab b ek ev m)++M) w:=by
  obtain⟨es,clock,seen,hb,hr,_⟩:=h.holds _ (List.mem_append_left _ (List.mem_of_getElem? hi))
  exact h.turnAt (c:=Nm b it ek ev m done) i hi rfl rfl rfl (Nat.le_refl _) (fun _ _ _=>rfl) ⟨es,clock,hb,hr⟩ (fun j hj=>⟨.inl (.inl hj),(h.foot _ (List.mem_append_left _ (List.mem_of_getElem? hi)) j (.inl hj)).1⟩)
theorem i7{c:Code}{it:Nat}{done:List (κ×α)}(i:Nat)(hi:H[i]? = some (Nm b it ek ev m done))(h:SX P ro K w0 N c Q D l (H.set i (Ab b ek ev m))):SX P ro K w0 N c Q D l H:=
  fun a w ha hw=>h a w ha (hw.itOff i hi)
end maps
end

section
open Go Go.MapKept Go.ChangeMaps
variable {P:Program}{ro:Option Nat}{K:Nat→Prop}{w0:World}{N:Nat}{Q:DH}{D:List Nat}{l l':Tm}{H H' Hs L:List AZ}{ops:Array Oper}{items:Hq}
variable {tk:Bool}{o:Oper}{t:Nat}{v:Value}{x y z:Operand}
theorem Cu{α:Type}{e:TypeId}{sz:Nat}{enc:α→List Value}{xs:List α}(i:Nat)(hi:H[i]? = some (AC e sz v enc xs))(h:v.cells=#[v]→v.oneCell'=true→SL P ro K w0 N ops Hs items Q D l H):SL P ro K w0 N ops Hs items Q D l H:=by
 intro a w ha hw hs
 have hrow:w.ownsRow 0 e sz v xs.length (xs.flatMap enc):=hw.holds _ (List.mem_append_left _ (List.mem_of_getElem? hi))
 rcases hrow.2 with⟨rfl,_⟩ | ⟨g,cap,cur,rfl,_⟩
 exact h rfl rfl a w ha hw hs
 exact h rfl rfl a w ha hw hs
theorem QN{α:Type}{sz:Nat}{enc:α→List Value}{xs:List α}(hk:CG K w0 enc sz v xs)(h:v.cells=#[v]→v.oneCell'=true→SL P ro K w0 N ops Hs items Q D l H):SL P ro K w0 N ops Hs items Q D l H:=by
 rcases hk.at_ with⟨_,rfl,_⟩ | ⟨b,off,cap,rfl,_⟩
 exact h rfl rfl
 exact h rfl rfl
theorem XL{ty:TypeId}(hv:v.cells=#[v])(ho:At ops N l o t (.box ty x))(hx:Bn l x=some v)(hs:∀b,EP Hs (AK b (.cells #[v] ty)::H))
(h:∀b,SL P ro K w0 N ops Hs items Q D ((t,vP b 0)::l) (AK b (.cells #[v] ty)::H)):SL P ro K w0 N ops Hs (.cons (false,o) items) Q D l H:=
 Ba ho hx (by rw[hv];exact hs) (by rw[hv];exact h)
theorem Du{b off:Nat}{c:Array Value}{e ty:TypeId}(i:Nat)(ho:At0 ops l o (.store ty x y))(hx:Bn l x=some (vP b off))(hy:Bn l y=some v)(hi:H[i]? = some (AK b (.cells c e)))
(hn:DC P ty=some 1)(hv:v.cells=#[v])(h1:v.oneCell'=true)(hle:Nat.ble (off+1) c.size=true)
(hs:EP Hs (H.set i (AK b (.cells (El c off [v]) e))))(h:SL P ro K w0 N ops Hs items Q D l (H.set i (AK b (.cells (El c off [v]) e)))):SL P ro K w0 N ops Hs (.cons (false,o) items) Q D l H:=
 A7 i ho hx hy hi hn (by rw[hv];rfl) (by rw[hv];simp[h1]) hle (by rw[hv];exact hs) (by rw[hv];exact h)
def fU{α:Type}(by_:Nat)(n:Int)(a:α):Option (List α):=if 0≤n∧by_*n.toNat≤281474976710656∧n≤9223372036854775807 then some (List.replicate n.toNat a)else none
theorem jZ{α:Type}{by_:Nat}{n:Int}{a:α}{xs:List α}(h:fU by_ n a=some xs):n=(n.toNat:Int)∧by_*n.toNat≤281474976710656∧n.toNat≤9223372036854775807∧xs=List.replicate n.toNat a:=by
 unfold fU at h
 split at h
 rename_i hc
 exact⟨by omega,hc.2.1,by omega,(zI h).symm⟩
 cases h
theorem jY{α:Type}{enc:α→List Value}{a:α}{zv:Value}(hz:zv.cells.toList=enc a)(h1:(enc a).length=1)(n:Nat):(madeCells zv.cells (n*1)).toList=(List.replicate n a).flatMap enc:=by
 obtain⟨u,hu⟩:=List.length_eq_one_iff.1 h1
 have hs:zv.cells=#[u]:=by apply Array.ext';rw[hz,hu]
 rw[hs]
 have hrep:(List.replicate n a).flatMap enc=List.replicate n u:=by
  induction n with
  | zero=>rfl
  | succ k ih=>rw[List.replicate_succ,List.flatMap_cons,ih,hu,List.replicate_succ];rfl
 rw[hrep]
 apply List.ext_getElem
 simp[madeCells]
 intro i h2 h3
 simp[madeCells,Nat.mod_one]
theorem Zv{α:Type}{e ty:TypeId}{by_:Nat}{zv:Value}{n:Int}{a:α}{xs:List α}(hn:fU by_ n a=some xs)(enc:α→List Value)(ho:At ops N l o t (.makeSlice ty x x))(hty:P.underlying ty=some (.slice e))(hsz:DC P e=some 1)(hby:PY P e=some by_)(hze:EF P e=some zv)
(hx:Bn l x=some (vI n))(hza:zv.cells.toList=enc a)(h1:(enc a).length=1)(hzs:zv.cells.size=1)
(hs:∀v',EP Hs (AC e 1 v' enc xs::H))(h:∀v',SL P ro K w0 N ops Hs items Q D ((t,v')::l) (AC e 1 v' enc xs::H)):SL P ro K w0 N ops Hs (.cons (false,o) items) Q D l H:=by
 obtain⟨h0,hb,h63,rfl⟩:=jZ hn
 generalize n.toNat=m at h0 hb h63 hs h
 subst h0
 refine Gf (fun b=>.slice (some ⟨b,0,none⟩) m m) (fun b=>AC e 1 (.slice (some ⟨b,0,none⟩) m m) enc (List.replicate m a)::H) ho E (fun a' w ha hw=>?_) (fun b=>hs _) (fun b=>h _)
 obtain⟨ii,hii,e1,e2,e3⟩:=PH hsz hby hze
 have hb':(ii.bytes:Int)*(m:Int)≤281474976710656:=by rw[e2,←Int.natCast_mul];omega
 have hr:=run_make (P:=P) w ty e ii zv hty hii e3 .i64 .i64 m m zO zO hb' zO
 rw[e1]at hr
 simp only[Int.toNat_natCast]at hr
 refine⟨w.heap.size,w.alloc (.cells (madeCells zv.cells (m*1)) e),?_,?_⟩
 unfold execOp
 simp only[ho.op,ha.eval hx,Sem.run_bind,hr,Result.andThen_ok,Sem.run_pure]
 have h2:=hw.alloc (.cells (madeCells zv.cells (m*1)) e)
 have hlen:((List.replicate m a).flatMap enc).length=m*1:=by simp[h1]
 refine h2.turn rfl rfl rfl (Nat.le_refl _) (fun _ _ _=>rfl) ⟨by simp[h1],.inr ⟨w.heap.size,m,_,by simp,Nat.zero_le _,h2.holds _ (List.mem_cons_self ..),by simp,by simp only[maxLen];omega,?_,?_⟩⟩ (fun k hk=>?_)
 simp[madeCells]
 rw[jY hza h1]
 rw[List.take_of_length_le (by simp[h1])]
 have hkb:k=w.heap.size:=by simp[AC,Value.ownBlock]at hk;exact hk.symm
 subst hkb
 exact⟨.inl rfl,(h2.foot _ (List.mem_cons_self ..) _ rfl).1⟩
def ND{κ α:Type}[DecidableEq κ](m:List (κ×α))(k:κ)(a:α):Option (List (κ×α)):=if m.length<9223372036854775807 then some (Mb m k a)else none
theorem Wd{κ α:Type}[DecidableEq κ]{m us:List (κ×α)}{k:κ}{a:α}(h:ND m k a=some us):m.length<9223372036854775807∧us=Mb m k a:=by
 unfold ND at h
 split at h
 exact⟨by assumption,(zI h).symm⟩
 cases h
theorem QM{κ α:Type}[DecidableEq κ]{ek:κ→Value}{ev:α→Value}{m us:List (κ×α)}{k:TypeId}{b:Nat}{ty e:TypeId}{key:κ}{a:α}(i:Nat)(hn:ND m key a=some us)(E9:NM P k ek ev)(ho:At0 ops l o (.mapUpdate ty x y z))(ht:P.underlying ty=some (.map k e))(hx:Bn l x=some (.map (some b)))(hy:Bn l y=some (ek key))(hz:Bn l z=some (ev a))
(hi:H[i]? = some (Ab b ek ev m))(hs:EP Hs (H.set i (Ab b ek ev us)))(h:SL P ro K w0 N ops Hs items Q D l (H.set i (Ab b ek ev us))):SL P ro K w0 N ops Hs (.cons (false,o) items) Q D l H:=by
 obtain⟨hr,rfl⟩:=Wd hn
 exact nS i E9 ho ht hx hy hz hi hr hs h
structure cU where
 cnt:UInt64
 tag:List UInt8
 boots:UInt32
deriving DecidableEq
def iG(r:cU):List Value:=[AV r.cnt,vS r.tag,Z r.boots]
structure tv where
 act:Int
 page:UInt32
 num:Int
 txt:List UInt8
 lv:Value
 fates:List Int
structure Ao where
 off:Bool
 isCut:Bool
 lasts:Int
 counts:Int
 blocks:List (List UInt8)
 pend:List (UInt32×List UInt8)
 bad:List (UInt32×Bool)
 rcnt:UInt64
 rtag:List UInt8
 rboots:UInt32
structure A8 where
 blk:List (List UInt8)
 pnd:List (List UInt8)
 bads:List Bool
 rcnt:UInt64
 rtag:List UInt8
 rboots:UInt32
 left:Int
 off:Bool
end

section
variable {P:Program}{ro:Option Nat}{K:Nat→Prop}{w0:World}{N:Nat}{Q:DH}{D:List Nat}{l l':Tm}{H H' Hs L:List AZ}{ops:Array Oper}{items:Hq}
variable {tk:Bool}{o:Oper}{t:Nat}{v:Value}{x y z:Operand}
theorem XR{b off n c sz:Nat}{k:IntKind}{j:Int}{ty e:TypeId}(q:Nat)(ho:At ops N l o t (.slice ty x (some z) none none))(hty:P.underlying ty=some (.slice e))(hsz:DC P e=some sz)(hx:Bn l x=some (.slice (some ⟨b,off,none⟩) n c))(hz:Bn l z=some (.int k j))
(hj:j=(q:Int))(hq:q≤n)(hqc:q<c)(h:SL P ro K w0 N ops Hs items Q D ((t,.slice (some ⟨b,off+q*sz,none⟩) (n-q) (c-q))::l) H):SL P ro K w0 N ops Hs (.cons (tk,o) items) Q D l H:=
 SL.val ho rfl (fun a w ha _=>by
  subst hj
  simp only[execOp,ho.op,Instr.sliceAt,Instr.slice,Option.map]
  simp[ha.eval hx,ha.eval hz,Ax hty,Cd hsz,Instr.sliceBounds,Instr.sliceBound,asIntOf,hq,Cg];omega) h
theorem gU{b off dl dc sl sc:Nat}{c:Array Value}{e ty ty':TypeId}{ad:Addr}(i:Nat)(news:List Value)(ho:At ops N l o t (.call { callee:=.builtin .copy,args:=#[x,y],argTypes:=#[ty,ty'] }))(hty:P.underlying ty=some (.slice e))(hsz:DC P e=some 1)
(hx:Bn l x=some (.slice (some ⟨b,off,none⟩) dl dc))(hy:Bn l y=some (.slice (some ad) sl sc))(hi:H[i]? = some (AK b (.cells c e)))
(hn:news.length=Nat.min sl dl)(hnews:∀w,GL K w0 H w→∀j u,news[j]? = some u→w.cell? (ad.add j)=some u)(h1:∀u∈news,u.oneCell'=true)(hle:off+news.length≤c.size)
(hs:EP Hs (H.set i (AK b (.cells (El c off news) e))))(h:SL P ro K w0 N ops Hs items Q D ((t,vI news.length)::l) (H.set i (AK b (.cells (El c off news) e)))):SL P ro K w0 N ops Hs (.cons (false,o) items) Q D l H:=
 Gf (fun _:Unit=>vI news.length) (fun _=>H.set i (AK b (.cells (El c off news) e))) ho rfl (fun a w ha hw=>by
  have hb:w.heap[b]? = some (.cells c e (0,0)):=hw.holds _ (List.mem_append_left _ (List.mem_of_getElem? hi))
  obtain⟨w',hrun,hw'⟩:=L9 (P:=P) news off 0 c w hb (by simpa using hle) h1
  have hl:=run_loadCells_list (P:=P) w ad news (hnews w hw.dropMarks.s)
  have hs1:=Cd (w:=w) hsz
  refine⟨(),w',?_,?_⟩
  unfold execOp
  simp only[ho.op,resolve,Sem.run_bind,Sem.run_pure,Result.andThen_ok,invoke]
  simp only[List.map_toArray,List.map_cons,List.map_nil,ha.eval hx,ha.eval hy]
  simp[builtin,Builtin.copy_,Ax hty,Builtin.lenOf,Builtin.firstCells,hs1,←hn,hl,hrun,goInt]
  rw[hw']
  exact hw.putAt i hi) (fun _=>hs) (fun _=>h)
theorem i5{α:Type}{b n:Nat}{c:Array Value}{e:TypeId}(enc:α→List Value)(sz:Nat)(xs:List α)(hn:xs.length=n)(hc:c.toList=xs.flatMap enc)(hl:∀x,(enc x).length=sz)(hm:n≤1000000)
(h:SL P ro K w0 N ops Hs items Q D l (AC e sz (.slice (some ⟨b,0,none⟩) n n) enc xs::H)):SL P ro K w0 N ops Hs items Q D l (AK b (.cells c e)::H):=by
 subst hn
 exact CJ enc sz xs hc hl (Nat.ble_eq_true_of_le hm) h
end

section
variable {P:Program}{ro:Option Nat}{K:Nat→Prop}{w0:World}{N:Nat}{Q:DH}{D:List Nat}{l l':Tm}{H H' Hs L:List AZ}{ops:Array Oper}{items:Hq}
def OD(P:Program)(K:Nat→Prop)(w0:World)(f:FuncId)(cap:List Value)(Hit G0:List AZ){α:Type}(enc:α→List Value)(xs:List α):Prop:=
 ∀(lp:Nat) (J9:List α→List AZ→Prop) (X:List AZ→Prop) (T:List AZ) (rc:AZ),
  (∀pre x suf,xs=pre++x::suf→∀G,J9 pre G→∀M,ka P K w0 lp (enc x) (G++M) fun b G'=>∃G1,G'=G1++M∧(if b then J9 (pre++[x]) G1 else X G1))→
  J9 [] (rc::G0)→T6 P K w0 f (vY lp::cap) (Hit++(rc::G0)) T fun _ M=>J9 xs M∨X M
theorem MU{α:Type}{g:Operand}{ps:Array Tmp}{assign body:Code}{f:FuncId}{cap:List Value}{Hit:List AZ}{enc:α→List Value}(xs:List α){G0:List AZ}
(J9:List α→List AZ→Prop)(X:Code→List AZ→Prop)
(hg:Bn l g=some (.func (.func f) #[] cap.toArray))(hf:AN P f=true)(hps:ps.toList.all (fun p=>Nat.blt p N)=true)(hlen:∀x,(enc x).length=ps.size)
(hseq:OD P K w0 f cap Hit G0 enc xs)(hH:H=Hit++G0)(h0:J9 [] G0)
(hbody:∀pre x suf G,xs=pre++x::suf→J9 pre G→∀r lp Rest,SX P (some lp) K w0 N assign (bgn P lp body (fx K w0 J9 X pre x (Tl r lp Rest .busy))) [] (RG ps.toList (enc x) l) (G++Tl r lp Rest .ready))
(hdone:∀G D,J9 xs G→SQ K w0 N Q .normal D l G)
(hstop:∀c G D,X c G→SX P none K w0 N c Q D l G):SX P none K w0 N (.rangeFunc g ps assign body) Q D l H:=by
 intro a w ha hw
 subst hH
 refine wpIn_rangeFunc fun fn _=>?_
 let r:Loop:={ state:=.ready,pending:=none,fn:=fn,tmps:=a.tmps,params:=ps,assign:=assign,body:=body,defers:=w.heap.size }
 refine⟨w.heap.size+1,[{ target:=.collected w.heap.size,args:=#[] }],(w.alloc (.deferred (some []))).alloc (.loop r),{ target:=.fn (.func f) cap.toArray,args:=#[vY (w.heap.size+1)] },(w.alloc (.deferred (some []))).alloc (.loop r),
  f,(vY (w.heap.size+1)::cap).toArray,(w.alloc (.deferred (some []))).alloc (.loop r),?_,?_,fun _ _=>NV _ _,?_,fun hd=>by simp[Om]at hd,?_⟩
 rw[MS];exact run_enterLoop_outer fn a.tmps ps assign body
 have hev:=ha.vals.eval hg
 simp[resolve,hev,Deferred.ofValue]
 rfl
 simp[invoke,Lr hf]
 
 generalize hlp:w.heap.size+1=lp
 have hw1:Bc K w0 ((Hit++(Tl r lp [] .ready++G0))++[BZ (w.heap.size::D)]) ((w.alloc (.deferred (some []))).alloc (.loop r)):=by
  have h1:=(hw.alloc (.deferred (some []))).alloc (.loop r)
  rw[World.size_alloc,hlp]at h1
  
  have hm:Bc K w0 (BZ (w.heap.size::D)::AK lp (.loop r)::(Hit++G0)) ((w.alloc (.deferred (some []))).alloc (.loop r)):=by
   have hp:(AK lp (.loop r)::AK w.heap.size (.deferred (some []))::(Hit++G0++[BZ D])).Perm (AK w.heap.size (.deferred (some []))::BZ D::AK lp (.loop r)::(Hit++G0)):=by
    refine(List.Perm.swap _ _ _).trans (List.Perm.cons _ ?_)
    refine(List.Perm.cons _ (List.perm_append_comm (l₁:=Hit++G0) (l₂:=[BZ D]))).trans ?_
    exact List.Perm.swap _ _ _
   have h2:=h1.perm hp
   have hpw:=List.pairwise_cons.1 h2.disj
   have hpw2:=List.pairwise_cons.1 hpw.2
   have hmk:=h2.holds (BZ D) zS
   have hnew:=h2.holds (AK w.heap.size (.deferred (some []))) (List.mem_cons_self ..)
   refine⟨h2.os,h2.tape,h2.output,h2.size,h2.klt,h2.keep,?_,?_,?_⟩
   intro c hc
   rcases List.mem_cons.1 hc with rfl | hc
   refine⟨List.nodup_cons.2 ⟨fun hin=>hpw.1 (BZ D) zS _ rfl hin,hmk.1⟩,fun b hb=>?_⟩
   rcases List.mem_cons.1 hb with rfl | hb
   exact hnew
   exact hmk.2 b hb
   exact h2.holds c (by simp only[List.mem_cons]at hc ⊢;exact .inr (.inr hc))
   intro c hc b hb
   rcases List.mem_cons.1 hc with rfl | hc
   rcases List.mem_cons.1 hb with rfl | hb
   exact h2.foot (AK w.heap.size (.deferred (some []))) (List.mem_cons_self ..) _ rfl
   exact h2.foot (BZ D) zS b hb
   exact h2.foot c (by simp only[List.mem_cons]at hc ⊢;exact .inr (.inr hc)) b hb
   refine List.pairwise_cons.2 ⟨fun c hc b hb hb'=>?_,hpw2.2⟩
   rcases List.mem_cons.1 hb with rfl | hb
   exact hpw.1 c (List.mem_cons_of_mem _ hc) _ rfl hb'
   exact hpw2.1 c hc b hb hb'
  refine hm.perm ?_
  have e:Tl r lp [] .ready=[AK lp (.loop r)]:=rfl
  rw[e]
  refine(List.perm_append_comm (l₁:=[BZ (w.heap.size::D)])).trans (List.Perm.append_right _ ?_)
  simpa using(List.perm_middle (l₁:=Hit) (a:=AK lp (.loop r)) (l₂:=G0)).symm
 have hN:∀p∈ps.toList,p<a.tmps.size:=fun p hp=>by
  rw[ha.size]
  exact HU (List.all_eq_true.1 hps p hp)
 let D':=w.heap.size::D
 have hcon:=hseq lp (fun pre Gx=>∃G,J9 pre G∧Gx=Tl r lp [] .ready++G) (fun Gx=>∃c G,X c G∧Gx=AK lp (.loop { r with state:=.done,pending:=some c })::G) [BZ D'] (AK lp (.loop { r with state:=.ready,pending:=none })) ?_ ⟨G0,h0,rfl⟩
 refine QK none ((hcon _ hw1).mono ?_)
 rintro e w' ⟨v,M,rfl,hM,hw'⟩
 have hD:MV N D' l { tmps:=a.tmps,defers:=[{ target:=.collected w.heap.size,args:=#[] }]++a.defers }:=⟨ha.size,by simp[ha.defers,D',ZY],ha.vals⟩
 rcases hM with⟨G,hJ,rfl⟩ | ⟨c,G,hX,rfl⟩
 have hl:w'.heap[lp]? = some (.loop { r with state:=.ready,pending:=none }):=hw'.holds (AK lp _) (by simp[Tl])
 refine⟨_,_,run_endLoop hl zS,?_⟩
 refine hdone G D' hJ _ _ hD ?_
 have h3:=(show Bc K w0 (AK lp (.loop { r with state:=.ready,pending:=none })::(G++[BZ D'])) w' from hw').put (o':=.loop { r with state:=.exhausted,pending:=none })
 exact h3.sublist (List.sublist_cons_self _ _)
 have hl:w'.heap[lp]? = some (.loop { r with state:=.done,pending:=some c }):=hw'.holds (AK lp _) zS
 refine⟨_,_,run_endLoop hl zS,?_⟩
 refine hstop c G D' hX _ _ hD ?_
 have h3:=(show Bc K w0 (AK lp (.loop { r with state:=.done,pending:=some c })::(G++[BZ D'])) w' from hw').put (o':=.loop { r with state:=.exhausted,pending:=some c })
 exact h3.sublist (List.sublist_cons_self _ _)
 
 rintro pre x suf hxs Gx ⟨G,hJ,rfl⟩ M w₁ hw₁
 have hl:w₁.heap[lp]? = some (.loop { r with state:=.ready,pending:=none }):=hw₁.holds (AK lp _) (by simp[Tl])
 refine⟨_,_,_,_,run_yield hl (by simp[hlen];rfl),?_⟩
 refine roundIn_of_wpIn trivial ?_
 have hw₂:Bc K w0 ((G++Tl r lp M .ready)++[BZ []]) w₁:=by
  refine Bc.marks0 (hw₁.perm ?_)
  show(AK lp _::(G++M)).Perm (G++AK lp _::M)
  exact List.perm_middle.symm
 have hzip:((ps.zip (enc x).toArray).foldl (fun tmps (t,a)=>tmps.setIfInBounds t a) a.tmps)=((ps.toList.zip (enc x)).foldl (fun tm (t,a)=>tm.setIfInBounds t a) a.tmps):=by
  rw[←Array.foldl_toList,Array.toList_zip]
 have hb:=hbody pre x suf G hxs hJ r lp M { tmps:=(ps.zip (enc x).toArray).foldl (fun tmps (t,a)=>tmps.setIfInBounds t a) a.tmps,defers:=[] } w₁
  ⟨by rw[hzip,JN];exact ha.size,rfl,by rw[hzip];exact Qd ps.toList (enc x) l a.tmps hN ha.vals⟩ hw₂
 refine wpIn_mono hb ?_
 intro e a' w' q
 cases e with
 | normal=>
  obtain⟨w₃,hbr,hbody'⟩:=q
  refine⟨w₃,hbr,wpIn_mono hbody' ?_⟩
  have fin:∀(jump:Option Code) (G':List AZ) (w₄:World),Bc K w0 (G'++Tl r lp M .busy) w₄→
    (Instr.endRound lp jump).run P w₄=.ok (.bool jump.isNone) (w₄.putObj lp (.loop { r with state:=if jump.isNone then .ready else .done,pending:=jump }))∧
    Bc K w0 ((AK lp (.loop { r with state:=if jump.isNone then .ready else .done,pending:=jump })::G')++M) (w₄.putObj lp (.loop { r with state:=if jump.isNone then .ready else .done,pending:=jump })):=by
   intro jump G' w₄ h4
   have hl4:w₄.heap[lp]? = some (.loop { r with state:=.busy,pending:=none }):=h4.holds (AK lp _) (by simp[Tl])
   refine⟨run_endRound (r:={ r with state:=.busy,pending:=none }) jump hl4,?_⟩
   have h5:Bc K w0 (AK lp (.loop { r with state:=.busy,pending:=none })::(G'++M)) w₄:=h4.perm List.perm_middle
   exact h5.put
  intro e₂ a₂ w₄ q₂
  cases e₂ with
  | normal=>
   obtain⟨G',hJ',h4⟩:=q₂
   obtain⟨hrun,h5⟩:=fin none G' w₄ h4
   exact⟨_,_,hrun,_,_,rfl,⟨_,rfl,by simp only[Option.isNone_none,if_true];exact⟨G',hJ',rfl⟩⟩,h5⟩
  | ret=>
   obtain⟨G',hX',h4⟩:=q₂
   obtain⟨hrun,h5⟩:=fin (some .ret) G' w₄ h4
   exact⟨_,_,hrun,_,_,rfl,⟨_,rfl,by simp only[Option.isNone_some,Bool.false_eq_true,if_false];exact⟨_,G',hX',rfl⟩⟩,h5⟩
  | exit id=>
   obtain⟨G',hX',h4⟩:=q₂
   obtain⟨hrun,h5⟩:=fin (some (.exit id)) G' w₄ h4
   exact⟨_,_,hrun,_,_,rfl,⟨_,rfl,by simp only[Option.isNone_some,Bool.false_eq_true,if_false];exact⟨_,G',hX',rfl⟩⟩,h5⟩
  | goto _=>exact q₂.elim
  | panic _=>exact q₂.elim
  | outgrown=>exact q₂.elim
 | exit _=>exact q.elim
 | goto _=>exact q.elim
 | ret=>exact q.elim
 | panic _=>exact q.elim
 | outgrown=>exact q.elim
def VW{α σ R:Type}(body:(σ→Option R)→α→σ→Option R)(fin:σ→Option R):List α→σ→Option R
 | [],s=>fin s
 | x::r,s=>body (VW body fin r) x s
theorem XG{α:Type}{xs pre suf suf':List α}{x:α}(h:xs=pre++x::suf)(h':xs=(pre++[x])++suf'):suf'=suf:=by
 rw[h,List.append_assoc]at h'
 simpa using(List.append_cancel_left h').symm
end

section
variable {P:Program}{ro:Option Nat}{K:Nat→Prop}{w0:World}{N:Nat}{Q:DH}{D:List Nat}{l l':Tm}{H H' Hs L:List AZ}{ops:Array Oper}{items:Hq}
variable {tk:Bool}{o:Oper}{t:Nat}{v:Value}{x y z:Operand}
def tx(j:Int)(n:Nat):Option Unit:=if j<(n:Int)then some ()else none
theorem XM{ty e:TypeId}{sz:Nat}(ho:At ops N l o t (.buildSlice ty 0 #[]))(hty:P.underlying ty=some (.slice e))(hsz:DC P e=some sz)(hs:∀b,EP Hs (AK b (.cells #[] e)::H))
(h:∀b,SL P ro K w0 N ops Hs items Q D ((t,.slice (some ⟨b,0,none⟩) 0 0)::l) (AK b (.cells #[] e)::H)):SL P ro K w0 N ops Hs (.cons (false,o) items) Q D l H:=
 Gf (fun b=>.slice (some ⟨b,0,none⟩) 0 0) (fun b=>AK b (.cells #[] e)::H) ho rfl (fun a w ha hw=>by
  refine⟨w.heap.size,w.alloc (.cells #[] e),?_,by exact hw.alloc _⟩
  unfold execOp
  simp only[ho.op,Instr.buildSlice,Sem.run_bind,Ax hty,Result.andThen_ok,Cd hsz,Nat.zero_mul,if_neg (show ¬(0>2^24) by omega),if_true,Sem.run_pure,show(Array.range 0)=(#[]:Array Nat)from rfl,List.map_toArray,List.map_nil,Array.map_empty,Instr.fill,newRow,run_newObj]
  rfl) hs h
def Vu(pl:List (Nat×Nat)):Array Value→List (Nat×Array Value)→Option (Array Value)
 | c,[]=>some c
 | c,(i,u)::r=>
  match pl[i]? with
  | none=>none
  | some (off,size)=>bif Nat.beq u.size size&&Nat.ble (off+u.size) c.size then Vu pl (El c off u.toList) r else none
theorem dI(pl:List (Nat×Nat)):∀(is:List Nat) (vs:List Value) (c:Array Value),P6 pl c (is.zip vs)=Vu pl c (is.zip (vs.map Value.cells))
 | [],vs,c=>by simp[P6,Vu]
 | i::is,[],c=>by simp[P6,Vu]
 | i::is,v::vs,c=>by
  simp only[List.zip_cons_cons,List.map_cons,P6,Vu]
  cases hi:pl[i]? with
  | none=>rfl
  | some p=>
   obtain⟨off,size⟩:=p
   simp only[dI pl is vs]
theorem Rw{ty:TypeId}{parts:Array (Nat×Operand)}{pl:List (Nat×Nat)}{zv:Value}{r:Array Value}(vs:List Value)(css:List (Array Value))(hc:vs.map Value.cells=css)(ho:At ops N l o t (.build ty parts))(hp:Lp P ty=some pl)(hk:Lq P ty=true)(hz:EF P ty=some zv)
(hv:Y6 l (parts.toList.map (·.2)) vs)(hf:Vu pl zv.cells ((parts.toList.map (·.1)).zip css)=some r)(h:SL P ro K w0 N ops Hs items Q D ((t,.agg r)::l) H):SL P ro K w0 N ops Hs (.cons (tk,o) items) Q D l H:=
 Bt vs ho hp hk hz hv (by rw[dI,hc];exact hf) h
def Zx(P:Program)(K:Nat→Prop)(w0:World)(f:FuncId)(cap:List Value)(Hit G0:List AZ){α:Type}(enc:α→List Value)(xs:List α):Prop:=
 ∀(lp:Nat) (J9:List α→List AZ→Prop) (X:List AZ→Prop) (T:List AZ) (rc:AZ),(∀pre G,J9 pre G→pre=[])→
  (∀pre x suf,xs=pre++x::suf→∀G,J9 pre G→∀M,ka P K w0 lp (enc x) (G++M) fun b G'=>∃G1,G'=G1++M∧(if b then J9 (pre++[x]) G1 else X G1))→
  J9 [] (rc::G0)→T6 P K w0 f (vY lp::cap) (Hit++(rc::G0)) T fun _ M=>J9 xs M∨X M
theorem Zw{α:Type}{g:Operand}{ps:Array Tmp}{assign body:Code}{f:FuncId}{cap:List Value}{Hit:List AZ}{enc:α→List Value}(xs:List α){G0:List AZ}
(J9:List α→List AZ→Prop)(X:Code→List AZ→Prop)
(hg:Bn l g=some (.func (.func f) #[] cap.toArray))(hf:AN P f=true)(hps:ps.toList.all (fun p=>Nat.blt p N)=true)(hlen:∀x,(enc x).length=ps.size)
(hseq:Zx P K w0 f cap Hit G0 enc xs)(hH:H=Hit++G0)(h0:J9 [] G0)(hJ1:∀pre G,J9 pre G→pre=[])
(hbody:∀pre x suf G,xs=pre++x::suf→J9 pre G→∀r lp Rest,SX P (some lp) K w0 N assign (bgn P lp body (fx K w0 J9 X pre x (Tl r lp Rest .busy))) [] (RG ps.toList (enc x) l) (G++Tl r lp Rest .ready))
(hdone:∀G D,J9 xs G→SQ K w0 N Q .normal D l G)
(hstop:∀c G D,X c G→SX P none K w0 N c Q D l G):SX P none K w0 N (.rangeFunc g ps assign body) Q D l H:=by
 intro a w ha hw
 subst hH
 refine wpIn_rangeFunc fun fn _=>?_
 let r:Loop:={ state:=.ready,pending:=none,fn:=fn,tmps:=a.tmps,params:=ps,assign:=assign,body:=body,defers:=w.heap.size }
 refine⟨w.heap.size+1,[{ target:=.collected w.heap.size,args:=#[] }],(w.alloc (.deferred (some []))).alloc (.loop r),{ target:=.fn (.func f) cap.toArray,args:=#[vY (w.heap.size+1)] },(w.alloc (.deferred (some []))).alloc (.loop r),
  f,(vY (w.heap.size+1)::cap).toArray,(w.alloc (.deferred (some []))).alloc (.loop r),?_,?_,fun _ _=>NV _ _,?_,fun hd=>by simp[Om]at hd,?_⟩
 rw[MS];exact run_enterLoop_outer fn a.tmps ps assign body
 have hev:=ha.vals.eval hg
 simp[resolve,hev,Deferred.ofValue]
 rfl
 simp[invoke,Lr hf]
 
 generalize hlp:w.heap.size+1=lp
 have hw1:Bc K w0 ((Hit++(Tl r lp [] .ready++G0))++[BZ (w.heap.size::D)]) ((w.alloc (.deferred (some []))).alloc (.loop r)):=by
  have h1:=(hw.alloc (.deferred (some []))).alloc (.loop r)
  rw[World.size_alloc,hlp]at h1
  
  have hm:Bc K w0 (BZ (w.heap.size::D)::AK lp (.loop r)::(Hit++G0)) ((w.alloc (.deferred (some []))).alloc (.loop r)):=by
   have hp:(AK lp (.loop r)::AK w.heap.size (.deferred (some []))::(Hit++G0++[BZ D])).Perm (AK w.heap.size (.deferred (some []))::BZ D::AK lp (.loop r)::(Hit++G0)):=by
    refine(List.Perm.swap _ _ _).trans (List.Perm.cons _ ?_)
    refine(List.Perm.cons _ (List.perm_append_comm (l₁:=Hit++G0) (l₂:=[BZ D]))).trans ?_
    exact List.Perm.swap _ _ _
   have h2:=h1.perm hp
   have hpw:=List.pairwise_cons.1 h2.disj
   have hpw2:=List.pairwise_cons.1 hpw.2
   have hmk:=h2.holds (BZ D) zS
   have hnew:=h2.holds (AK w.heap.size (.deferred (some []))) (List.mem_cons_self ..)
   refine⟨h2.os,h2.tape,h2.output,h2.size,h2.klt,h2.keep,?_,?_,?_⟩
   intro c hc
   rcases List.mem_cons.1 hc with rfl | hc
   refine⟨List.nodup_cons.2 ⟨fun hin=>hpw.1 (BZ D) zS _ rfl hin,hmk.1⟩,fun b hb=>?_⟩
   rcases List.mem_cons.1 hb with rfl | hb
   exact hnew
   exact hmk.2 b hb
   exact h2.holds c (by simp only[List.mem_cons]at hc ⊢;exact .inr (.inr hc))
   intro c hc b hb
   rcases List.mem_cons.1 hc with rfl | hc
   rcases List.mem_cons.1 hb with rfl | hb
   exact h2.foot (AK w.heap.size (.deferred (some []))) (List.mem_cons_self ..) _ rfl
   exact h2.foot (BZ D) zS b hb
   exact h2.foot c (by simp only[List.mem_cons]at hc ⊢;exact .inr (.inr hc)) b hb
   refine List.pairwise_cons.2 ⟨fun c hc b hb hb'=>?_,hpw2.2⟩
   rcases List.mem_cons.1 hb with rfl | hb
   exact hpw.1 c (List.mem_cons_of_mem _ hc) _ rfl hb'
   exact hpw2.1 c hc b hb hb'
  refine hm.perm ?_
  have e:Tl r lp [] .ready=[AK lp (.loop r)]:=rfl
  rw[e]
  refine(List.perm_append_comm (l₁:=[BZ (w.heap.size::D)])).trans (List.Perm.append_right _ ?_)
  simpa using(List.perm_middle (l₁:=Hit) (a:=AK lp (.loop r)) (l₂:=G0)).symm
 have hN:∀p∈ps.toList,p<a.tmps.size:=fun p hp=>by
  rw[ha.size]
  exact HU (List.all_eq_true.1 hps p hp)
 let D':=w.heap.size::D
 have hcon:=hseq lp (fun pre Gx=>∃G,J9 pre G∧Gx=Tl r lp [] .ready++G) (fun Gx=>∃c G,X c G∧Gx=AK lp (.loop { r with state:=.done,pending:=some c })::G) [BZ D'] (AK lp (.loop { r with state:=.ready,pending:=none })) (fun pre _ h=>hJ1 pre _ h.choose_spec.1) ?_ ⟨G0,h0,rfl⟩
 refine QK none ((hcon _ hw1).mono ?_)
 rintro e w' ⟨v,M,rfl,hM,hw'⟩
 have hD:MV N D' l { tmps:=a.tmps,defers:=[{ target:=.collected w.heap.size,args:=#[] }]++a.defers }:=⟨ha.size,by simp[ha.defers,D',ZY],ha.vals⟩
 rcases hM with⟨G,hJ,rfl⟩ | ⟨c,G,hX,rfl⟩
 have hl:w'.heap[lp]? = some (.loop { r with state:=.ready,pending:=none }):=hw'.holds (AK lp _) (by simp[Tl])
 refine⟨_,_,run_endLoop hl zS,?_⟩
 refine hdone G D' hJ _ _ hD ?_
 have h3:=(show Bc K w0 (AK lp (.loop { r with state:=.ready,pending:=none })::(G++[BZ D'])) w' from hw').put (o':=.loop { r with state:=.exhausted,pending:=none })
 exact h3.sublist (List.sublist_cons_self _ _)
 have hl:w'.heap[lp]? = some (.loop { r with state:=.done,pending:=some c }):=hw'.holds (AK lp _) zS
 refine⟨_,_,run_endLoop hl zS,?_⟩
 refine hstop c G D' hX _ _ hD ?_
 have h3:=(show Bc K w0 (AK lp (.loop { r with state:=.done,pending:=some c })::(G++[BZ D'])) w' from hw').put (o':=.loop { r with state:=.exhausted,pending:=some c })
 exact h3.sublist (List.sublist_cons_self _ _)
 
 rintro pre x suf hxs Gx ⟨G,hJ,rfl⟩ M w₁ hw₁
 have hl:w₁.heap[lp]? = some (.loop { r with state:=.ready,pending:=none }):=hw₁.holds (AK lp _) (by simp[Tl])
 refine⟨_,_,_,_,run_yield hl (by simp[hlen];rfl),?_⟩
 refine roundIn_of_wpIn trivial ?_
 have hw₂:Bc K w0 ((G++Tl r lp M .ready)++[BZ []]) w₁:=by
  refine Bc.marks0 (hw₁.perm ?_)
  show(AK lp _::(G++M)).Perm (G++AK lp _::M)
  exact List.perm_middle.symm
 have hzip:((ps.zip (enc x).toArray).foldl (fun tmps (t,a)=>tmps.setIfInBounds t a) a.tmps)=((ps.toList.zip (enc x)).foldl (fun tm (t,a)=>tm.setIfInBounds t a) a.tmps):=by
  rw[←Array.foldl_toList,Array.toList_zip]
 have hb:=hbody pre x suf G hxs hJ r lp M { tmps:=(ps.zip (enc x).toArray).foldl (fun tmps (t,a)=>tmps.setIfInBounds t a) a.tmps,defers:=[] } w₁
  ⟨by rw[hzip,JN];exact ha.size,rfl,by rw[hzip];exact Qd ps.toList (enc x) l a.tmps hN ha.vals⟩ hw₂
 refine wpIn_mono hb ?_
 intro e a' w' q
 cases e with
 | normal=>
  obtain⟨w₃,hbr,hbody'⟩:=q
  refine⟨w₃,hbr,wpIn_mono hbody' ?_⟩
  have fin:∀(jump:Option Code) (G':List AZ) (w₄:World),Bc K w0 (G'++Tl r lp M .busy) w₄→
    (Instr.endRound lp jump).run P w₄=.ok (.bool jump.isNone) (w₄.putObj lp (.loop { r with state:=if jump.isNone then .ready else .done,pending:=jump }))∧
    Bc K w0 ((AK lp (.loop { r with state:=if jump.isNone then .ready else .done,pending:=jump })::G')++M) (w₄.putObj lp (.loop { r with state:=if jump.isNone then .ready else .done,pending:=jump })):=by
   intro jump G' w₄ h4
   have hl4:w₄.heap[lp]? = some (.loop { r with state:=.busy,pending:=none }):=h4.holds (AK lp _) (by simp[Tl])
   refine⟨run_endRound (r:={ r with state:=.busy,pending:=none }) jump hl4,?_⟩
   have h5:Bc K w0 (AK lp (.loop { r with state:=.busy,pending:=none })::(G'++M)) w₄:=h4.perm List.perm_middle
   exact h5.put
  intro e₂ a₂ w₄ q₂
  cases e₂ with
  | normal=>
   obtain⟨G',hJ',h4⟩:=q₂
   obtain⟨hrun,h5⟩:=fin none G' w₄ h4
   exact⟨_,_,hrun,_,_,rfl,⟨_,rfl,by simp only[Option.isNone_none,if_true];exact⟨G',hJ',rfl⟩⟩,h5⟩
  | ret=>
   obtain⟨G',hX',h4⟩:=q₂
   obtain⟨hrun,h5⟩:=fin (some .ret) G' w₄ h4
   exact⟨_,_,hrun,_,_,rfl,⟨_,rfl,by simp only[Option.isNone_some,Bool.false_eq_true,if_false];exact⟨_,G',hX',rfl⟩⟩,h5⟩
  | exit id=>
   obtain⟨G',hX',h4⟩:=q₂
   obtain⟨hrun,h5⟩:=fin (some (.exit id)) G' w₄ h4
   exact⟨_,_,hrun,_,_,rfl,⟨_,rfl,by simp only[Option.isNone_some,Bool.false_eq_true,if_false];exact⟨_,G',hX',rfl⟩⟩,h5⟩
  | goto _=>exact q₂.elim
  | panic _=>exact q₂.elim
  | outgrown=>exact q₂.elim
 | exit _=>exact q.elim
 | goto _=>exact q.elim
 | ret=>exact q.elim
 | panic _=>exact q.elim
 | outgrown=>exact q.elim
end

section
structure Bb where
 page:UInt32
 tag:List UInt8
deriving DecidableEq
def B3(r:Bb):List Value:=[Z r.page,vS r.tag]
structure A5 where
 ring:List BV
 gen:UInt32
 boot:UInt32
 seals:UInt64
 taken:List (UInt32×Bool)
structure Bh where
 ring:List BV
 gen:UInt32
 boot:UInt32
 num:UInt64
 taken:List Bool
end

section
open Go Go.ChangeShapes Go.WideShapes Go.ChangeAt Go.RowKit Go.Deep Go.Lib Go.Joins
section
variable {G:Type}{enc:TypeId×Value→G}{P:Program}{W:World}
end
end
end Go.Proofs.YtjkhnhichalenaaGreatDoor
