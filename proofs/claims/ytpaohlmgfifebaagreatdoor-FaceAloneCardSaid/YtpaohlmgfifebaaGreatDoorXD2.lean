/- The texts T0, C0, C1, A0, D0, D1, D2, D3, B0, B1, D4, E0, E1, G0, G1, G2, H0, H1, I0, I1, R1, R2, X0, R3, V0, S14, S15, S16, S17, S18, S19, R4, one behind the other: walks of the program, and plain laws of what it computes. Conditions: as each theorem says. -/
import Derived.Test.YtpaohlmgfifebaaGreatDoorXD1
import Derived.Test.YtpaohlmgfifebaaGreatDoorChecked
import Derived.Maps.Range
import Derived.JoinedOf
import Derived.SliceStrings
import Derived.Deep.Slices
import Derived.HandedShaped

set_option linter.unusedVariables false
set_option linter.unusedSimpArgs false
set_option maxHeartbeats 4000000
set_option maxRecDepth 100000
namespace Go.Proofs.YtpaohlmgfifebaaGreatDoor
open Go
section
abbrev zC:=T3 Tryz.prog
set_option maxRecDepth 100000
theorem DH:Tryz.prog.follows .mixedOrders=true:=zK
theorem Qz:NW Tryz.prog 105=some 5:=zK
theorem DK:NW Tryz.prog 146=some 2:=zK
theorem P9:NW Tryz.prog 148=some 3:=zK
theorem Fl:NW Tryz.prog 201=some 3:=zK
theorem NV:NW Tryz.prog 204=some 5:=zK
theorem I0:NW Tryz.prog 217=some 5:=zK
theorem Xi:NW Tryz.prog 250=some 8:=zK
theorem rL:NW Tryz.prog 264=some 4:=zK
theorem T7:NW Tryz.prog 267=some 4:=zK
theorem aJ:NW Tryz.prog 313=some 2:=zK
theorem lB:NW Tryz.prog 317=some 4:=zK
theorem fK:NW Tryz.prog 342=some 16:=zK
theorem rM:NW Tryz.prog 349=some 8:=zK
theorem rN:NW Tryz.prog 351=some 10:=zK
theorem fL:NW Tryz.prog 365=some 4:=zK
theorem lC:NW Tryz.prog 376=some 64:=zK
theorem rO:NW Tryz.prog 378=some 2:=zK
theorem qz:NW Tryz.prog 38=some 3:=zK
theorem GN:NW Tryz.prog 43=some 4:=zK
theorem tz:NW Tryz.prog 45=some 6:=zK
theorem OY:NW Tryz.prog 55=some 2:=zK
theorem rQ:Ph Tryz.prog 105=some 40:=zK
theorem rR:Ph Tryz.prog 146=some 24:=zK
theorem lL:Ph Tryz.prog 148=some 40:=zK
theorem aP:Ph Tryz.prog 204=some 64:=zK
theorem t9:Ph Tryz.prog 22=some 24:=zK
theorem Qc:Ph Tryz.prog 36=some 4:=zK
theorem uA:Ph Tryz.prog 4=some 1:=zK
theorem Xp:Ph Tryz.prog 43=some 32:=zK
theorem Vq:Ph Tryz.prog 5=some 1:=zK
theorem lM:Ph Tryz.prog 55=some 24:=zK
theorem oJ:Ph Tryz.prog 9=some 16:=zK
theorem oN:AK Tryz.prog 100=true:=zK
theorem oO:AK Tryz.prog 102=true:=zK
theorem hQ:AK Tryz.prog 104=true:=zK
theorem oP:AK Tryz.prog 106=true:=zK
theorem an:AK Tryz.prog 108=true:=zK
theorem oQ:AK Tryz.prog 109=true:=zK
theorem fc:AK Tryz.prog 11=true:=zK
theorem oR:AK Tryz.prog 110=true:=zK
theorem XF:AK Tryz.prog 111=true:=zK
theorem oS:AK Tryz.prog 112=true:=zK
theorem oT:AK Tryz.prog 113=true:=zK
theorem oU:AK Tryz.prog 114=true:=zK
theorem oV:AK Tryz.prog 115=true:=zK
theorem hU:AK Tryz.prog 116=true:=zK
theorem hY:AK Tryz.prog 117=true:=zK
theorem XG:AK Tryz.prog 118=true:=zK
theorem aq:AK Tryz.prog 119=true:=zK
theorem rV:AK Tryz.prog 12=true:=zK
theorem ar:AK Tryz.prog 120=true:=zK
theorem au:AK Tryz.prog 121=true:=zK
theorem av:AK Tryz.prog 122=true:=zK
theorem aw:AK Tryz.prog 123=true:=zK
theorem oW:AK Tryz.prog 124=true:=zK
theorem oX:AK Tryz.prog 125=true:=zK
theorem ax:AK Tryz.prog 127=true:=zK
theorem hZ:AK Tryz.prog 128=true:=zK
theorem iA:AK Tryz.prog 129=true:=zK
theorem fe:AK Tryz.prog 13=true:=zK
theorem iB:AK Tryz.prog 130=true:=zK
theorem iC:AK Tryz.prog 131=true:=zK
theorem oY:AK Tryz.prog 132=true:=zK
theorem iD:AK Tryz.prog 133=true:=zK
theorem oZ:AK Tryz.prog 134=true:=zK
theorem oa:AK Tryz.prog 135=true:=zK
theorem ob:AK Tryz.prog 136=true:=zK
theorem oc:AK Tryz.prog 137=true:=zK
theorem ay:AK Tryz.prog 14=true:=zK
theorem od:AK Tryz.prog 140=true:=zK
theorem oe:AK Tryz.prog 143=true:=zK
theorem iE:AK Tryz.prog 144=true:=zK
theorem og:AK Tryz.prog 145=true:=zK
theorem oh:AK Tryz.prog 148=true:=zK
theorem U3:AK Tryz.prog 149=true:=zK
theorem ff:AK Tryz.prog 15=true:=zK
theorem ol:AK Tryz.prog 150=true:=zK
theorem om:AK Tryz.prog 151=true:=zK
theorem iF:AK Tryz.prog 152=true:=zK
theorem iG:AK Tryz.prog 153=true:=zK
theorem oo:AK Tryz.prog 154=true:=zK
theorem iH:AK Tryz.prog 155=true:=zK
theorem oq:AK Tryz.prog 156=true:=zK
theorem iI:AK Tryz.prog 157=true:=zK
theorem ot:AK Tryz.prog 158=true:=zK
theorem ou:AK Tryz.prog 159=true:=zK
theorem lT:AK Tryz.prog 16=true:=zK
theorem ov:AK Tryz.prog 160=true:=zK
theorem iJ:AK Tryz.prog 161=true:=zK
theorem XH:AK Tryz.prog 162=true:=zK
theorem iK:AK Tryz.prog 163=true:=zK
theorem iL:AK Tryz.prog 165=true:=zK
theorem ow:AK Tryz.prog 166=true:=zK
theorem XI:AK Tryz.prog 167=true:=zK
theorem ox:AK Tryz.prog 168=true:=zK
theorem oy:AK Tryz.prog 169=true:=zK
theorem oz:AK Tryz.prog 170=true:=zK
theorem pA:AK Tryz.prog 171=true:=zK
theorem pB:AK Tryz.prog 172=true:=zK
theorem pC:AK Tryz.prog 173=true:=zK
theorem pD:AK Tryz.prog 174=true:=zK
theorem pE:AK Tryz.prog 175=true:=zK
theorem pF:AK Tryz.prog 176=true:=zK
theorem pG:AK Tryz.prog 177=true:=zK
theorem pH:AK Tryz.prog 178=true:=zK
theorem az:AK Tryz.prog 179=true:=zK
theorem pI:AK Tryz.prog 180=true:=zK
theorem XJ:AK Tryz.prog 181=true:=zK
theorem pJ:AK Tryz.prog 185=true:=zK
theorem pK:AK Tryz.prog 186=true:=zK
theorem bA:AK Tryz.prog 187=true:=zK
theorem pL:AK Tryz.prog 188=true:=zK
theorem pM:AK Tryz.prog 189=true:=zK
theorem pN:AK Tryz.prog 191=true:=zK
theorem pO:AK Tryz.prog 192=true:=zK
theorem pP:AK Tryz.prog 193=true:=zK
theorem pQ:AK Tryz.prog 194=true:=zK
theorem pR:AK Tryz.prog 195=true:=zK
theorem pS:AK Tryz.prog 196=true:=zK
theorem iM:AK Tryz.prog 197=true:=zK
theorem pT:AK Tryz.prog 198=true:=zK
theorem iN:AK Tryz.prog 199=true:=zK
theorem pU:AK Tryz.prog 200=true:=zK
theorem pV:AK Tryz.prog 201=true:=zK
theorem Ml:AK Tryz.prog 202=true:=zK
theorem iO:AK Tryz.prog 203=true:=zK
theorem pW:AK Tryz.prog 204=true:=zK
theorem pX:AK Tryz.prog 205=true:=zK
theorem pY:AK Tryz.prog 206=true:=zK
theorem pZ:AK Tryz.prog 207=true:=zK
theorem pb:AK Tryz.prog 208=true:=zK
theorem pc:AK Tryz.prog 209=true:=zK
theorem pf:AK Tryz.prog 210=true:=zK
theorem iP:AK Tryz.prog 211=true:=zK
theorem pg:AK Tryz.prog 212=true:=zK
theorem Mm:AK Tryz.prog 213=true:=zK
theorem ph:AK Tryz.prog 214=true:=zK
theorem pi:AK Tryz.prog 215=true:=zK
theorem iQ:AK Tryz.prog 216=true:=zK
theorem iR:AK Tryz.prog 217=true:=zK
theorem pj:AK Tryz.prog 218=true:=zK
theorem pm:AK Tryz.prog 219=true:=zK
theorem iS:AK Tryz.prog 220=true:=zK
theorem pn:AK Tryz.prog 221=true:=zK
theorem bB:AK Tryz.prog 222=true:=zK
theorem bC:AK Tryz.prog 223=true:=zK
theorem pp:AK Tryz.prog 224=true:=zK
theorem pq:AK Tryz.prog 225=true:=zK
theorem iT:AK Tryz.prog 226=true:=zK
theorem pr:AK Tryz.prog 227=true:=zK
theorem XK:AK Tryz.prog 228=true:=zK
theorem XL:AK Tryz.prog 229=true:=zK
theorem bD:AK Tryz.prog 230=true:=zK
theorem iU:AK Tryz.prog 231=true:=zK
theorem iV:AK Tryz.prog 232=true:=zK
theorem pu:AK Tryz.prog 233=true:=zK
theorem pv:AK Tryz.prog 234=true:=zK
theorem pw:AK Tryz.prog 235=true:=zK
theorem px:AK Tryz.prog 241=true:=zK
theorem py:AK Tryz.prog 244=true:=zK
theorem iW:AK Tryz.prog 245=true:=zK
theorem pz:AK Tryz.prog 246=true:=zK
theorem p9:AK Tryz.prog 247=true:=zK
theorem qA:AK Tryz.prog 248=true:=zK
theorem iX:AK Tryz.prog 249=true:=zK
theorem lU:AK Tryz.prog 25=true:=zK
theorem bE:AK Tryz.prog 250=true:=zK
theorem qB:AK Tryz.prog 251=true:=zK
theorem qC:AK Tryz.prog 252=true:=zK
theorem qD:AK Tryz.prog 253=true:=zK
theorem qE:AK Tryz.prog 254=true:=zK
theorem iY:AK Tryz.prog 255=true:=zK
theorem qF:AK Tryz.prog 256=true:=zK
theorem iZ:AK Tryz.prog 257=true:=zK
theorem qG:AK Tryz.prog 258=true:=zK
theorem qH:AK Tryz.prog 259=true:=zK
theorem rW:AK Tryz.prog 26=true:=zK
theorem qI:AK Tryz.prog 260=true:=zK
theorem ib:AK Tryz.prog 266=true:=zK
theorem qJ:AK Tryz.prog 267=true:=zK
theorem TL:AK Tryz.prog 268=true:=zK
theorem qK:AK Tryz.prog 269=true:=zK
theorem rX:AK Tryz.prog 27=true:=zK
theorem qL:AK Tryz.prog 270=true:=zK
theorem qM:AK Tryz.prog 271=true:=zK
theorem ic:AK Tryz.prog 272=true:=zK
theorem qN:AK Tryz.prog 273=true:=zK
theorem qO:AK Tryz.prog 274=true:=zK
theorem ie:AK Tryz.prog 275=true:=zK
theorem ig:AK Tryz.prog 276=true:=zK
theorem qP:AK Tryz.prog 277=true:=zK
theorem qQ:AK Tryz.prog 278=true:=zK
theorem rY:AK Tryz.prog 28=true:=zK
theorem qR:AK Tryz.prog 280=true:=zK
theorem Pu:AK Tryz.prog 281=true:=zK
theorem Ns:AK Tryz.prog 282=true:=zK
theorem qS:AK Tryz.prog 283=true:=zK
theorem qT:AK Tryz.prog 284=true:=zK
theorem bF:AK Tryz.prog 285=true:=zK
theorem qU:AK Tryz.prog 286=true:=zK
theorem Nt:AK Tryz.prog 287=true:=zK
theorem qV:AK Tryz.prog 288=true:=zK
theorem ij:AK Tryz.prog 289=true:=zK
theorem rZ:AK Tryz.prog 29=true:=zK
theorem ik:AK Tryz.prog 290=true:=zK
theorem XM:AK Tryz.prog 291=true:=zK
theorem lV:AK Tryz.prog 30=true:=zK
theorem ra:AK Tryz.prog 31=true:=zK
theorem rf:AK Tryz.prog 32=true:=zK
theorem X8:AK Tryz.prog 33=true:=zK
theorem rg:AK Tryz.prog 34=true:=zK
theorem rh:AK Tryz.prog 35=true:=zK
theorem lW:AK Tryz.prog 36=true:=zK
theorem fg:AK Tryz.prog 37=true:=zK
theorem ri:AK Tryz.prog 38=true:=zK
theorem rj:AK Tryz.prog 39=true:=zK
theorem rk:AK Tryz.prog 40=true:=zK
theorem rm:AK Tryz.prog 48=true:=zK
theorem SU:AK Tryz.prog 49=true:=zK
theorem rn:AK Tryz.prog 50=true:=zK
theorem lX:AK Tryz.prog 51=true:=zK
theorem fh:AK Tryz.prog 52=true:=zK
theorem lY:AK Tryz.prog 53=true:=zK
theorem rq:AK Tryz.prog 54=true:=zK
theorem lZ:AK Tryz.prog 55=true:=zK
theorem rr:AK Tryz.prog 56=true:=zK
theorem rz:AK Tryz.prog 57=true:=zK
theorem r5:AK Tryz.prog 58=true:=zK
theorem r6:AK Tryz.prog 59=true:=zK
theorem r7:AK Tryz.prog 60=true:=zK
theorem r8:AK Tryz.prog 61=true:=zK
theorem r9:AK Tryz.prog 62=true:=zK
theorem sA:AK Tryz.prog 63=true:=zK
theorem lg:AK Tryz.prog 64=true:=zK
theorem sB:AK Tryz.prog 65=true:=zK
theorem uB:AK Tryz.prog 7=true:=zK
theorem sC:AK Tryz.prog 72=true:=zK
theorem lh:AK Tryz.prog 73=true:=zK
theorem li:AK Tryz.prog 75=true:=zK
theorem SV:AK Tryz.prog 76=true:=zK
theorem bG:AK Tryz.prog 77=true:=zK
theorem QE:AK Tryz.prog 78=true:=zK
theorem fi:AK Tryz.prog 79=true:=zK
theorem lj:AK Tryz.prog 8=true:=zK
theorem sD:AK Tryz.prog 80=true:=zK
theorem sE:AK Tryz.prog 81=true:=zK
theorem sF:AK Tryz.prog 82=true:=zK
theorem lk:AK Tryz.prog 83=true:=zK
theorem ll:AK Tryz.prog 84=true:=zK
theorem lm:AK Tryz.prog 85=true:=zK
theorem fj:AK Tryz.prog 86=true:=zK
theorem bH:AK Tryz.prog 87=true:=zK
theorem ln:AK Tryz.prog 88=true:=zK
theorem sG:AK Tryz.prog 89=true:=zK
theorem q8:AK Tryz.prog 9=true:=zK
theorem sH:AK Tryz.prog 90=true:=zK
theorem sI:AK Tryz.prog 91=true:=zK
theorem X9:AK Tryz.prog 92=true:=zK
theorem sJ:AK Tryz.prog 93=true:=zK
theorem sK:AK Tryz.prog 94=true:=zK
theorem fm:AK Tryz.prog 95=true:=zK
theorem sL:AK Tryz.prog 96=true:=zK
theorem lo:AK Tryz.prog 97=true:=zK
theorem lq:AK Tryz.prog 99=true:=zK
theorem ug:Tryz.prog.cellsOf 5=1:=zK
theorem sN:di Tryz.prog 146=some [(0,.int .u32),(1,.string)]:=zK
theorem fy:di Tryz.prog 201=some [(0,.int .u32),(1,.int .u32),(2,.int .i64)]:=zK
theorem mE:di Tryz.prog 43=some [(0,.int .u64),(1,.int .u32),(2,.int .u32),(3,.string)]:=zK
theorem uC:di Tryz.prog 45=some [(0,.int .i64),(1,.int .i64),(2,.int .i64),(3,.int .u64),(4,.int .u32),(5,.int .i64)]:=zK
theorem VE:fo Tryz.prog 102 0=some 0:=zK
theorem VF:fo Tryz.prog 102 1=some 4:=zK
theorem VG:fo Tryz.prog 102 2=some 5:=zK
theorem Lh:fo Tryz.prog 102 4=some 7:=zK
theorem VH:fo Tryz.prog 105 0=some 0:=zK
theorem YM:fo Tryz.prog 105 1=some 1:=zK
theorem Qi:fo Tryz.prog 118 0=some 0:=zK
theorem Qj:fo Tryz.prog 118 1=some 1:=zK
theorem dq:fo Tryz.prog 118 2=some 2:=zK
theorem Li:fo Tryz.prog 118 3=some 3:=zK
theorem VI:fo Tryz.prog 118 4=some 6:=zK
theorem dr:fo Tryz.prog 118 5=some 7:=zK
theorem KX:fo Tryz.prog 131 0=some 0:=zK
theorem mG:fo Tryz.prog 131 1=some 1:=zK
theorem VJ:fo Tryz.prog 131 2=some 2:=zK
theorem mH:fo Tryz.prog 131 3=some 3:=zK
theorem YN:fo Tryz.prog 137 0=some 0:=zK
theorem mI:fo Tryz.prog 137 1=some 1:=zK
theorem mJ:fo Tryz.prog 137 2=some 2:=zK
theorem mK:fo Tryz.prog 137 3=some 3:=zK
theorem YO:fo Tryz.prog 137 4=some 4:=zK
theorem Se:fo Tryz.prog 137 5=some 5:=zK
theorem PQ:fo Tryz.prog 142 0=some 0:=zK
theorem mL:fo Tryz.prog 142 1=some 1:=zK
theorem YP:fo Tryz.prog 142 2=some 2:=zK
theorem mM:fo Tryz.prog 142 3=some 3:=zK
theorem YQ:fo Tryz.prog 142 4=some 4:=zK
theorem Sf:fo Tryz.prog 142 5=some 5:=zK
theorem FR:fo Tryz.prog 146 0=some 0:=zK
theorem M9:fo Tryz.prog 146 1=some 1:=zK
theorem mN:fo Tryz.prog 148 0=some 0:=zK
theorem JZ:fo Tryz.prog 148 1=some 1:=zK
theorem VK:fo Tryz.prog 161 0=some 0:=zK
theorem Im:fo Tryz.prog 161 1=some 1:=zK
theorem Ja:fo Tryz.prog 201 0=some 0:=zK
theorem Jb:fo Tryz.prog 201 1=some 1:=zK
theorem GV:fo Tryz.prog 201 2=some 2:=zK
theorem Qk:fo Tryz.prog 204 0=some 0:=zK
theorem Sg:fo Tryz.prog 204 1=some 3:=zK
theorem KY:fo Tryz.prog 204 2=some 4:=zK
theorem mO:fo Tryz.prog 214 0=some 0:=zK
theorem YR:fo Tryz.prog 214 1=some 1:=zK
theorem Sh:fo Tryz.prog 214 2=some 2:=zK
theorem Lj:fo Tryz.prog 217 0=some 0:=zK
theorem VL:fo Tryz.prog 217 1=some 1:=zK
theorem VM:fo Tryz.prog 217 2=some 2:=zK
theorem Ql:fo Tryz.prog 217 3=some 3:=zK
theorem dt:fo Tryz.prog 229 0=some 0:=zK
theorem mP:fo Tryz.prog 229 1=some 1:=zK
theorem YT:fo Tryz.prog 229 2=some 2:=zK
theorem du:fo Tryz.prog 229 3=some 3:=zK
theorem YU:fo Tryz.prog 229 4=some 4:=zK
theorem Qm:fo Tryz.prog 250 0=some 0:=zK
theorem Jc:fo Tryz.prog 250 1=some 1:=zK
theorem KZ:fo Tryz.prog 250 2=some 4:=zK
theorem F6:fo Tryz.prog 250 3=some 5:=zK
theorem NA:fo Tryz.prog 250 4=some 6:=zK
theorem dw:fo Tryz.prog 267 0=some 0:=zK
theorem VN:fo Tryz.prog 267 1=some 1:=zK
theorem YV:fo Tryz.prog 267 2=some 2:=zK
theorem YW:fo Tryz.prog 267 3=some 3:=zK
theorem Si:fo Tryz.prog 298 0=some 0:=zK
theorem dx:fo Tryz.prog 317 0=some 0:=zK
theorem dy:fo Tryz.prog 317 1=some 1:=zK
theorem YX:fo Tryz.prog 317 2=some 2:=zK
theorem YY:fo Tryz.prog 317 3=some 3:=zK
theorem YZ:fo Tryz.prog 323 0=some 0:=zK
theorem Ya:fo Tryz.prog 351 0=some 0:=zK
theorem Ll:fo Tryz.prog 351 1=some 8:=zK
theorem VO:fo Tryz.prog 351 2=some 9:=zK
theorem Px:fo Tryz.prog 38 0=some 0:=zK
theorem bQ:fo Tryz.prog 38 1=some 1:=zK
theorem Py:fo Tryz.prog 38 2=some 2:=zK
theorem Pz:fo Tryz.prog 43 0=some 0:=zK
theorem L6:fo Tryz.prog 43 1=some 1:=zK
theorem L7:fo Tryz.prog 43 2=some 2:=zK
theorem Ol:fo Tryz.prog 43 3=some 3:=zK
theorem HQ:fo Tryz.prog 55 0=some 0:=zK
theorem TN:fo Tryz.prog 55 1=some 1:=zK
theorem P0:fo Tryz.prog 83 0=some 0:=zK
theorem TO:fo Tryz.prog 83 1=some 1:=zK
theorem P1:fo Tryz.prog 85 0=some 0:=zK
theorem XQ:fo Tryz.prog 85 1=some 2:=zK
theorem qX:fo Tryz.prog 85 2=some 3:=zK
theorem XR:fo Tryz.prog 92 0=some 0:=zK
theorem VP:fo Tryz.prog 92 1=some 1:=zK
theorem iu:fo Tryz.prog 92 2=some 2:=zK
theorem NB:fo Tryz.prog 95 0=some 0:=zK
theorem Ny:fo Tryz.prog 95 1=some 3:=zK
theorem RJ:fo Tryz.prog 95 2=some 4:=zK
theorem qY:fo Tryz.prog 95 3=some 5:=zK
theorem bR:fo Tryz.prog 95 4=some 6:=zK
theorem bS:fo Tryz.prog 95 5=some 7:=zK
theorem iv:fo Tryz.prog 97 0=some 0:=zK
theorem iw:fo Tryz.prog 97 1=some 1:=zK
theorem bT:fo Tryz.prog 97 2=some 2:=zK
theorem iy:fo Tryz.prog 97 3=some 3:=zK
theorem RN:liesAt Tryz.prog Tryz.prog.depth 161 (2 / Tryz.prog.cellsOf 161) 0 161 1=true:=zK
theorem mX:liesAt Tryz.prog Tryz.prog.depth 298 (2 / Tryz.prog.cellsOf 298) 0 161 1=true:=zK
theorem bc:liesAt Tryz.prog Tryz.prog.depth 323 (2 / Tryz.prog.cellsOf 323) 0 161 1=true:=zK
theorem sT:LP Tryz.prog 102=true:=zK
theorem sU:LP Tryz.prog 105=true:=zK
theorem sV:LP Tryz.prog 118=true:=zK
theorem sW:LP Tryz.prog 131=true:=zK
theorem sX:LP Tryz.prog 137=true:=zK
theorem sY:LP Tryz.prog 142=true:=zK
theorem OQ:LP Tryz.prog 146=true:=zK
theorem mj:LP Tryz.prog 148=true:=zK
theorem RP:LP Tryz.prog 201=true:=zK
theorem bw:LP Tryz.prog 204=true:=zK
theorem sZ:LP Tryz.prog 214=true:=zK
theorem UV:LP Tryz.prog 217=true:=zK
theorem sa:LP Tryz.prog 229=true:=zK
theorem gJ:LP Tryz.prog 250=true:=zK
theorem ml:LP Tryz.prog 267=true:=zK
theorem bz:LP Tryz.prog 313=true:=zK
theorem sb:LP Tryz.prog 314=true:=zK
theorem sd:LP Tryz.prog 317=true:=zK
theorem se:LP Tryz.prog 351=true:=zK
theorem sf:LP Tryz.prog 365=true:=zK
theorem sg:LP Tryz.prog 379=true:=zK
theorem uG:LP Tryz.prog 38=true:=zK
theorem eJ:LP Tryz.prog 43=true:=zK
theorem uH:LP Tryz.prog 45=true:=zK
theorem eK:LP Tryz.prog 55=true:=zK
theorem uI:LP Tryz.prog 81=true:=zK
theorem uJ:LP Tryz.prog 85=true:=zK
theorem uK:LP Tryz.prog 92=true:=zK
theorem uL:LP Tryz.prog 95=true:=zK
theorem sh:LO Tryz.prog 102=some [(0,4),(4,1),(5,1),(6,1),(7,3)]:=zK
theorem si:LO Tryz.prog 105=some [(0,1),(1,4)]:=zK
theorem sj:LO Tryz.prog 118=some [(0,1),(1,1),(2,1),(3,3),(6,1),(7,1)]:=zK
theorem sk:LO Tryz.prog 131=some [(0,1),(1,1),(2,1),(3,1),(4,1)]:=zK
theorem sm:LO Tryz.prog 137=some [(0,1),(1,1),(2,1),(3,1),(4,1),(5,1)]:=zK
theorem sn:LO Tryz.prog 142=some [(0,1),(1,1),(2,1),(3,1),(4,1),(5,1)]:=zK
theorem OR:LO Tryz.prog 146=some [(0,1),(1,1)]:=zK
theorem mm:LO Tryz.prog 148=some [(0,1),(1,2)]:=zK
theorem RQ:LO Tryz.prog 201=some [(0,1),(1,1),(2,1)]:=zK
theorem cA:LO Tryz.prog 204=some [(0,3),(3,1),(4,1)]:=zK
theorem so:LO Tryz.prog 214=some [(0,1),(1,1),(2,1)]:=zK
theorem UW:LO Tryz.prog 217=some [(0,1),(1,1),(2,1),(3,2)]:=zK
theorem sp:LO Tryz.prog 229=some [(0,1),(1,1),(2,1),(3,1),(4,1),(5,1)]:=zK
theorem gK:LO Tryz.prog 250=some [(0,1),(1,3),(4,1),(5,1),(6,2)]:=zK
theorem mn:LO Tryz.prog 267=some [(0,1),(1,1),(2,1),(3,1)]:=zK
theorem cB:LO Tryz.prog 313=some [(0,1),(1,1)]:=zK
theorem su:LO Tryz.prog 314=some [(0,2),(2,2),(4,2),(6,2)]:=zK
theorem sw:LO Tryz.prog 317=some [(0,1),(1,1),(2,1),(3,1)]:=zK
theorem sx:LO Tryz.prog 351=some [(0,8),(8,1),(9,1)]:=zK
theorem sy:LO Tryz.prog 365=some [(0,1),(1,1),(2,1),(3,1)]:=zK
theorem tA:LO Tryz.prog 379=some [(0,2),(2,2)]:=zK
theorem uM:LO Tryz.prog 38=some [(0,1),(1,1),(2,1)]:=zK
theorem eL:LO Tryz.prog 43=some [(0,1),(1,1),(2,1),(3,1)]:=zK
theorem uN:LO Tryz.prog 45=some [(0,1),(1,1),(2,1),(3,1),(4,1),(5,1)]:=zK
theorem eM:LO Tryz.prog 55=some [(0,1),(1,1)]:=zK
theorem uO:LO Tryz.prog 81=some [(0,1),(1,1),(2,1),(3,1)]:=zK
theorem uP:LO Tryz.prog 85=some [(0,2),(2,1),(3,1)]:=zK
theorem uQ:LO Tryz.prog 92=some [(0,1),(1,1),(2,1)]:=zK
theorem uR:LO Tryz.prog 95=some [(0,3),(3,1),(4,1),(5,1),(6,1),(7,1)]:=zK
theorem Yq:JJ Tryz.prog 100=true:=zK
theorem WG:JJ Tryz.prog 116=true:=zK
theorem QQ:JJ Tryz.prog 123=true:=zK
theorem Nm:JJ Tryz.prog 126=true:=zK
theorem gW:JJ Tryz.prog 129=true:=zK
theorem tC:JJ Tryz.prog 132=true:=zK
theorem gX:JJ Tryz.prog 159=true:=zK
theorem nD:JJ Tryz.prog 184=true:=zK
theorem UZ:JJ Tryz.prog 202=true:=zK
theorem nE:JJ Tryz.prog 207=true:=zK
theorem cM:JJ Tryz.prog 209=true:=zK
theorem tD:JJ Tryz.prog 212=true:=zK
theorem Fa:JJ Tryz.prog 22=true:=zK
theorem LQ:JJ Tryz.prog 248=true:=zK
theorem jD:JJ Tryz.prog 25=true:=zK
theorem MZ:JJ Tryz.prog 26=true:=zK
theorem cN:JJ Tryz.prog 272=true:=zK
theorem FJ:JJ Tryz.prog 3=true:=zK
theorem Qo:JJ Tryz.prog 30=true:=zK
theorem HJ:JJ Tryz.prog 33=true:=zK
theorem Pa:JJ Tryz.prog 345=true:=zK
theorem A2:JJ Tryz.prog 36=true:=zK
theorem WH:JJ Tryz.prog 4=true:=zK
theorem uU:JJ Tryz.prog 40=true:=zK
theorem Yr:JJ Tryz.prog 68=true:=zK
theorem jE:JJ Tryz.prog 73=true:=zK
theorem Z1:JJ Tryz.prog 79=true:=zK
theorem Pb:JJ Tryz.prog 89=true:=zK
theorem Gd:JJ Tryz.prog 9=true:=zK
theorem rD:JJ Tryz.prog 90=true:=zK
theorem Rp:JJ Tryz.prog 93=true:=zK
theorem P7:JJ Tryz.prog 98=true:=zK
theorem jF:JJ Tryz.prog 99=true:=zK
theorem Uc:DP Tryz.prog 105=some 5:=zK
theorem tE:DP Tryz.prog 116=some 1:=zK
theorem gb:DP Tryz.prog 123=some 1:=zK
theorem gc:DP Tryz.prog 129=some 1:=zK
theorem Ek:DP Tryz.prog 146=some 2:=zK
theorem JL:DP Tryz.prog 148=some 3:=zK
theorem tF:DP Tryz.prog 159=some 1:=zK
theorem gd:DP Tryz.prog 161=some 2:=zK
theorem S2:DP Tryz.prog 201=some 3:=zK
theorem cS:DP Tryz.prog 202=some 1:=zK
theorem Io:DP Tryz.prog 204=some 5:=zK
theorem tG:DP Tryz.prog 207=some 1:=zK
theorem NF:DP Tryz.prog 217=some 5:=zK
theorem Jf:DP Tryz.prog 22=some 1:=zK
theorem tH:DP Tryz.prog 248=some 1:=zK
theorem tI:DP Tryz.prog 250=some 8:=zK
theorem tJ:DP Tryz.prog 267=some 4:=zK
theorem tK:DP Tryz.prog 272=some 1:=zK
theorem OT:DP Tryz.prog 3=some 1:=zK
theorem eg:DP Tryz.prog 30=some 1:=zK
theorem cU:DP Tryz.prog 313=some 2:=zK
theorem tM:DP Tryz.prog 317=some 4:=zK
theorem jH:DP Tryz.prog 33=some 1:=zK
theorem nK:DP Tryz.prog 342=some 16:=zK
theorem tN:DP Tryz.prog 351=some 10:=zK
theorem Bd:DP Tryz.prog 36=some 1:=zK
theorem WL:DP Tryz.prog 365=some 4:=zK
theorem tO:DP Tryz.prog 376=some 64:=zK
theorem tP:DP Tryz.prog 378=some 2:=zK
theorem uW:DP Tryz.prog 38=some 3:=zK
theorem Rx:DP Tryz.prog 4=some 1:=zK
theorem Dq:DP Tryz.prog 43=some 4:=zK
theorem uX:DP Tryz.prog 45=some 6:=zK
theorem Jx:DP Tryz.prog 5=some 1:=zK
theorem HT:DP Tryz.prog 55=some 2:=zK
theorem nL:DP Tryz.prog 79=some 1:=zK
theorem nM:DP Tryz.prog 89=some 1:=zK
theorem HS:DP Tryz.prog 9=some 1:=zK
theorem uY:DP Tryz.prog 92=some 3:=zK
theorem nN:DP Tryz.prog 98=some 1:=zK
theorem Yx:Tryz.prog.underlying 100=some (.map 36 4):=zK
theorem S5:Tryz.prog.underlying 116=some (.slice 4):=zK
theorem Cb:Tryz.prog.underlying 123=some (.slice 5):=zK
theorem tQ:Tryz.prog.underlying 126=some (.pointer 142):=zK
theorem CF:Tryz.prog.underlying 129=some (.slice 36):=zK
theorem Pf:Tryz.prog.underlying 155=some (.int .u64):=zK
theorem Yy:Tryz.prog.underlying 159=some (.pointer 161):=zK
theorem nO:Tryz.prog.underlying 196=some (.pointer 5):=zK
theorem ua:Tryz.prog.underlying 2=some (.int .i64):=zK
theorem OU:Tryz.prog.underlying 202=some (.slice 204):=zK
theorem nP:Tryz.prog.underlying 207=some (.map 9 146):=zK
theorem Cz:Tryz.prog.underlying 22=some (.slice 43):=zK
theorem nQ:Tryz.prog.underlying 225=some (.map 36 148):=zK
theorem nR:Tryz.prog.underlying 239=some (.unsafePointer):=zK
theorem ub:Tryz.prog.underlying 24=some (.pointer 85):=zK
theorem JM:Tryz.prog.underlying 248=some (.slice 146):=zK
theorem eo:Tryz.prog.underlying 25=some (.pointer 95):=zK
theorem Wu:Tryz.prog.underlying 26=some (.pointer 102):=zK
theorem OV:Tryz.prog.underlying 264=some (.array 4 22):=zK
theorem WM:Tryz.prog.underlying 272=some (.slice 22):=zK
theorem Jg:Tryz.prog.underlying 3=some (.int .i64):=zK
theorem S6:Tryz.prog.underlying 313=some (.array 2 36):=zK
theorem cY:Tryz.prog.underlying 314=some (.array 4 313):=zK
theorem Da:Tryz.prog.underlying 33=some (.int .u64):=zK
theorem QS:Tryz.prog.underlying 342=some (.array 16 36):=zK
theorem tR:Tryz.prog.underlying 345=some (.pointer 351):=zK
theorem nS:Tryz.prog.underlying 348=some (.array 8 36):=zK
theorem Pg:Tryz.prog.underlying 349=some (.array 8 36):=zK
theorem CP:Tryz.prog.underlying 36=some (.int .u32):=zK
theorem WN:Tryz.prog.underlying 364=some (.array 4 3):=zK
theorem QT:Tryz.prog.underlying 365=some (.array 4 36):=zK
theorem Rb:Tryz.prog.underlying 376=some (.array 64 36):=zK
theorem cZ:Tryz.prog.underlying 378=some (.array 2 3):=zK
theorem tS:Tryz.prog.underlying 379=some (.array 2 378):=zK
theorem DS:Tryz.prog.underlying 5=some (.int .u8):=zK
theorem Gj:Tryz.prog.underlying 73=some (.slice 55):=zK
theorem Rq:Tryz.prog.underlying 79=some (.slice 105):=zK
theorem Iy:Tryz.prog.underlying 89=some (.slice 148):=zK
theorem Cj:Tryz.prog.underlying 9=some (.string):=zK
theorem ep:Tryz.prog.underlying 90=some (.map 36 36):=zK
theorem eq:Tryz.prog.underlying 93=some (.pointer 137):=zK
theorem El:Tryz.prog.underlying 98=some (.slice 9):=zK
theorem jJ:Tryz.prog.underlying 99=some (.map 36 9):=zK
theorem tW:EP Tryz.prog 102=some (.agg #[.bool false,.bool false,.int .i64 0,.int .i64 0,zN,.map none,.map none,.int .u64 0,.string ⟨⟨[]⟩⟩,.int .u32 0]):=zK
theorem WR:EP Tryz.prog 105=some (.agg #[.int .i64 0,.int .u64 0,.int .u32 0,.int .u32 0,.string ⟨⟨[]⟩⟩]):=zK
theorem tX:EP Tryz.prog 118=some (.agg #[zN,zN,zN,.int .u64 0,.string ⟨⟨[]⟩⟩,.int .u32 0,.int .i64 0,.bool false]):=zK
theorem tY:EP Tryz.prog 129=some zN:=zK
theorem tZ:EP Tryz.prog 131=some (.agg #[.pointer none,zN,zN,zN,.bool false]):=zK
theorem ta:EP Tryz.prog 137=some (.agg #[.pointer none,zN,.int .u32 0,.int .u32 0,.int .u64 0,.map none]):=zK
theorem tc:EP Tryz.prog 142=some (.agg #[.pointer none,zN,.int .u32 0,.int .u32 0,.int .u64 0,zN]):=zK
theorem FT:EP Tryz.prog 146=some (.agg #[.int .u32 0,.string ⟨⟨[]⟩⟩]):=zK
theorem OW:EP Tryz.prog 148=some (.agg #[.string ⟨⟨[]⟩⟩,.int .u32 0,.string ⟨⟨[]⟩⟩]):=zK
theorem Y5:EP Tryz.prog 161=some (.agg #[.pointer none,zN]):=zK
theorem MN:EP Tryz.prog 201=some (.agg #[.int .u32 0,.int .u32 0,.int .i64 0]):=zK
theorem Ir:EP Tryz.prog 204=some (.agg #[.int .u32 0,.int .u32 0,.int .i64 0,zN,zN]):=zK
theorem td:EP Tryz.prog 207=some (.map none):=zK
theorem te:EP Tryz.prog 214=some (.agg #[.nilFunc,zN,.int .i64 0]):=zK
theorem LS:EP Tryz.prog 217=some (.agg #[.int .u64 0,.int .u32 0,.int .u32 0,.int .u32 0,.string ⟨⟨[]⟩⟩]):=zK
theorem fA:EP Tryz.prog 22=some zN:=zK
theorem tf:EP Tryz.prog 229=some (.agg #[.pointer none,zN,zN,zN,.int .i64 0,zN]):=zK
theorem cj:EP Tryz.prog 250=some (.agg #[.int .i64 0,.int .u32 0,.int .u32 0,.int .i64 0,zN,zN,.int .u32 0,.string ⟨⟨[]⟩⟩]):=zK
theorem tg:EP Tryz.prog 264=some (.agg #[zN,zN,zN,zN]):=zK
theorem gm:EP Tryz.prog 267=some (.agg #[.int .u32 0,.int .u32 0,.int .u32 0,.int .u64 0]):=zK
theorem ti:EP Tryz.prog 298=some (.agg #[.pointer none,zN]):=zK
theorem ni:EP Tryz.prog 3=some (.int .i64 0):=zK
theorem rF:EP Tryz.prog 30=some (.int .i64 0):=zK
theorem S7:EP Tryz.prog 313=some (.agg #[.int .u32 0,.int .u32 0]):=zK
theorem tj:EP Tryz.prog 314=some (.agg #[.int .u32 0,.int .u32 0,.int .u32 0,.int .u32 0,.int .u32 0,.int .u32 0,.int .u32 0,.int .u32 0]):=zK
theorem nj:EP Tryz.prog 317=some (.agg #[.int .u32 0,.int .u32 0,.int .u32 0,.int .u32 0]):=zK
theorem nk:EP Tryz.prog 323=some (.agg #[.pointer none,zN]):=zK
theorem ck:EP Tryz.prog 342=some (.agg #[.int .u32 0,.int .u32 0,.int .u32 0,.int .u32 0,.int .u32 0,.int .u32 0,.int .u32 0,.int .u32 0,.int .u32 0,.int .u32 0,.int .u32 0,.int .u32 0,.int .u32 0,.int .u32 0,.int .u32 0,.int .u32 0]):=zK
theorem tn:EP Tryz.prog 348=some (.agg #[.int .u32 0,.int .u32 0,.int .u32 0,.int .u32 0,.int .u32 0,.int .u32 0,.int .u32 0,.int .u32 0]):=zK
theorem nl:EP Tryz.prog 351=some (.agg #[.int .u32 0,.int .u32 0,.int .u32 0,.int .u32 0,.int .u32 0,.int .u32 0,.int .u32 0,.int .u32 0,.string ⟨⟨[]⟩⟩,.int .i64 0]):=zK
theorem H8:EP Tryz.prog 36=some (.int .u32 0):=zK
theorem to:EP Tryz.prog 364=some (.agg #[.int .i64 0,.int .i64 0,.int .i64 0,.int .i64 0]):=zK
theorem S8:EP Tryz.prog 365=some (.agg #[.int .u32 0,.int .u32 0,.int .u32 0,.int .u32 0]):=zK
theorem nm:EP Tryz.prog 376=some (.agg #[.int .u32 0,.int .u32 0,.int .u32 0,.int .u32 0,.int .u32 0,.int .u32 0,.int .u32 0,.int .u32 0,.int .u32 0,.int .u32 0,.int .u32 0,.int .u32 0,.int .u32 0,.int .u32 0,.int .u32 0,.int .u32 0,.int .u32 0,.int .u32 0,.int .u32 0,.int .u32 0,.int .u32 0,.int .u32 0,.int .u32 0,.int .u32 0,.int .u32 0,.int .u32 0,.int .u32 0,.int .u32 0,.int .u32 0,.int .u32 0,.int .u32 0,.int .u32 0,.int .u32 0,.int .u32 0,.int .u32 0,.int .u32 0,.int .u32 0,.int .u32 0,.int .u32 0,.int .u32 0,.int .u32 0,.int .u32 0,.int .u32 0,.int .u32 0,.int .u32 0,.int .u32 0,.int .u32 0,.int .u32 0,.int .u32 0,.int .u32 0,.int .u32 0,.int .u32 0,.int .u32 0,.int .u32 0,.int .u32 0,.int .u32 0,.int .u32 0,.int .u32 0,.int .u32 0,.int .u32 0,.int .u32 0,.int .u32 0,.int .u32 0,.int .u32 0]):=zK
theorem gn:EP Tryz.prog 378=some (.agg #[.int .i64 0,.int .i64 0]):=zK
theorem tp:EP Tryz.prog 379=some (.agg #[.int .i64 0,.int .i64 0,.int .i64 0,.int .i64 0]):=zK
theorem rG:EP Tryz.prog 38=some (.agg #[.int .u64 0,.string ⟨⟨[]⟩⟩,.int .u32 0]):=zK
theorem kf:EP Tryz.prog 4=some (.bool false):=zK
theorem HU:EP Tryz.prog 43=some (.agg #[.int .u64 0,.int .u32 0,.int .u32 0,.string ⟨⟨[]⟩⟩]):=zK
theorem rH:EP Tryz.prog 45=some (.agg #[.int .i64 0,.int .i64 0,.int .i64 0,.int .u64 0,.int .u32 0,.int .i64 0]):=zK
theorem Ki:EP Tryz.prog 5=some (.int .u8 0):=zK
theorem NN:EP Tryz.prog 55=some (.agg #[.int .u32 0,.string ⟨⟨[]⟩⟩]):=zK
theorem uc:EP Tryz.prog 81=some (.agg #[.pointer none,zN,.bool false,.bool false]):=zK
theorem ud:EP Tryz.prog 85=some (.agg #[zN,.bool false,.pointer none,.bool false]):=zK
theorem Ta:EP Tryz.prog 9=some (.string ⟨⟨[]⟩⟩):=zK
theorem ue:EP Tryz.prog 92=some (.agg #[zN,zN,.map none]):=zK
theorem uf:EP Tryz.prog 95=some (.agg #[zN,zN,.map none,.pointer none,.pointer none,zN,.int .u32 0,.bool false]):=zK
end

section
variable {K:Nat→Prop}{w0:World}{H:List AV}
def mA(p:UInt32×Bool):List Value:=[Y p.1,vB p.2]
theorem TX(v:Value):zC K w0 110 [v] [] H (fun r M=>∃b,r=.func (.func 148) #[] #[vP b 0]∧M=[own b (.cells v.cells 73)]):=by
 refine T3.enter Tryz.func110 rfl rfl ?_
 refine V ?_
 refine Bc E E zU fun b0=>?_
 refine O E (U (V ?_))
 refine GZ (fv:=#[]) (cv:=#[_]) E E E ?_
 refine O E (U (AJ ?_))
 exact Ae (C1 E E) (Ad (M:=[_]) ⟨b0,E,E⟩ fun _ h=>h)
theorem TY(v:Value)(ks:List BI)(b:Nat)(hk:B6 K w0 AX 2 v ks)(hv:v.cells=#[v])(hn:ks.length≤1099511627776):k8 Tryz.prog K w0 148 [vP b 0] [own b (.cells v.cells 73)] mA (LN ks):=by
 intro lp J9 X T hy G h0
 rw[hv]
 refine T3.enter Tryz.func148 rfl rfl ?_
 refine V (O E (U (V (AF 0 jE E (B3 hk E Gj E (J E (U (AM ?_))))))))
 refine SX.mono (BF (α:=Nat×List AV) (fun x=>x.1≤ks.length∧J9 ((LN ks).take x.1) x.2) (fun x=>[(0,vY lp),(3,Y (Ke ks x.1)),(6,v),(7,vI ks.length),(8,vI x.1)]) (fun x=>own b (.cells #[v] 73)::(x.2++T)) (fun x=>ks.length-x.1) (fun x D hp=>?_) (0,G) ⟨Nat.zero_le _,h0⟩) tL
 obtain⟨i,G⟩:=x
 obtain⟨hi,hJ⟩:=hp
 simp only at hi hJ
 refine V (Z E A8 (U (AG ?_)))
 refine Ax E (fun hc=>?_) (fun hc=>?_)
 have hlt:i<ks.length:=by simpa using hc
 obtain⟨key,hkey⟩:=PS hlt
 have hg:=UL ks i hlt
 rw[Ka hkey]at hg
 refine AI (AH (AG (AM (V ?_))))
 refine Qu i key hk E Gj HT E E E hkey fun be off hcell=>?_
 refine Ap (AX key) E OY E E (Vv (hcell _)) ?_
 refine Al E NN zU fun b0=>?_
 refine A5 0 E E E E HT E E E zT (U (AG (V (J E (AE E HQ (AF 0 A2 E (AE E HQ (AF 0 A2 E (J E ?_)))))))))
 refine Z E (S9 (b:=Ke ks i)) ?_
 refine J E ?_
 refine Cl (c:=decide ((key.secret.length:Int)=32)) 19 5 24 E (fun hb k=>?_) (fun hb k=>?_) ?_
 refine AE E TN (AF 0 Gd E (Bw E Cj E (Z E Bq (Ag E E E ?_))))
 exact k.mono tL
 refine AC E (AC E (AC E (AC E (Ag E E E ?_))))
 exact k.mono tL
 refine HK (M2:=[_,_]) (G:=G) (T:=T) (vs:=[_,_]) (ok:=fun G1=>J9 ((LN ks).take (i+1)) G1) (no:=X) E E ⟨E,E,zT⟩ E ?_ (fun bb G1 hG1=>⟨zT,?_⟩)
 intro M
 have:=hy _ _ _ (FH hg).1 G hJ M
 rw[←(FH hg).2]at this
 have e:OO ks i=(decide (Ke ks i<key.gen)&&decide ((key.secret.length:Int)=32)):=by unfold OO;rw[Ka hkey]
 rw[e]at this
 exact this
 refine CT E E (U ?_)
 refine Ax E (fun hc=>?_) (fun hc=>?_)
 obtain rfl:bb=false:=by simpa using hc
 refine AJ (Ab (BC (Ab (EB (BC ?_)))))
 exact Ae (Dr E) (Ad (M:=G1) (.inr hG1) fun _ h=>h.skip [_,_])
 obtain rfl:bb=true:=by simpa using hc
 refine AI (AH (AN (AE E HQ (AF 0 A2 E (O E (AY (Aj (AH (AN (Z E (Bf zO zO) (J E (AY ?_))))))))))))
 refine Au (i+1,G1) ⟨hlt,hG1⟩ (by simp only;omega) ⟨E,by rw[Ke,Ka hkey];rfl,E,E,E,zT⟩ (fun w h=>h.skip [_])
 refine A1 (A6 (Ba (A7 ?_)))
 have hle:i=ks.length:=by simp at hc;omega
 exact DF (Dr E) (Ad (M:=G) (.inl (by rw[List.take_of_length_le (by rw[QK];omega)]at hJ;exact hJ)) fun _ h=>h.skip [_])
theorem QC(v:Value)(ks:List BI)(hk:B6 K w0 AX 2 v ks)(hv:v.cells=#[v])(hn:ks.length≤1099511627776):zC K w0 79 [v] [] H (fun r M=>r=vB (Dm ks)∧M=[]):=by
 refine T3.enter Tryz.func79 rfl rfl ?_
 refine V (O E (U (Km (V (J E (B3 hk E Gj E (Z E JN ?_)))))))
 refine Al E kf zU fun b0=>?_
 refine A5 0 E E E E Rx E E E zT (U (AG (Kl (AH (AG (V (J E (BO 0 oR (TX v) E ?_))))))))
 rintro _ _ ⟨b1,rfl,rfl⟩
 refine U (AM ?_)
 refine TH (enc:=mA) (LN ks) (fun pre G=>pre.all (·.2)=true∧G=own b0 (.cells #[vB (decide ((ks.length:Int)≤16))] 4)::H) (fun c G=>c=.exit 0∧(LN ks).all (·.2)=false∧G=own b0 (.cells #[vB false] 4)::H) E oh E zV (TY v ks b1 hk hv hn) E ⟨E,E⟩ (fun pre x suf G hxs hJ r lp Rest=>?_) (fun G D hJ=>?_) (fun c G D hX=>?_)
 obtain⟨hpre,rfl⟩:=hJ
 refine AN (O E (AY (Jz (AM (V (J E (CT E E (U ?_))))))))
 refine Ax E (fun hc=>?_) (fun hc=>?_)
 refine V (A5 0 E E E E Rx E E E zT (U (A1 (Hf ?_))))
 exact N2 ⟨E,by rw[hxs];simp at hc;simp[hc],E⟩ (fun _ h=>h)
 refine AI (Aj ?_)
 exact Hg ⟨by simp at hc;simp[hpre,hc],E⟩ (fun _ h=>h)
 obtain⟨hall,rfl⟩:=hJ
 refine Aj (AH (V (AF 0 WH E (O E (U (AJ (Eb ?_)))))))
 exact Ae (C1 E E) (Ad (M:=[]) ⟨by simp only[Dm,hall];simp;try omega,E⟩ fun _ h=>h.skip [_])
 obtain⟨rfl,hall,rfl⟩:=hX
 refine A1 (A7 (AH (V (AF 0 WH E (O E (U (AJ (Eb ?_))))))))
 exact Ae (C1 E E) (Ad (M:=[]) ⟨by simp only[Dm,hall];simp;try omega,E⟩ fun _ h=>h.skip [_])
end

section
variable {K:Nat→Prop}{w0:World}{H:List AV}
theorem Wy(k:BI)(g:UInt32)(b:Nat):zC K w0 140 [.agg (AX k).toArray,vP b 0] [own b (.cells #[Y g] 36)] H (fun r M=>r=vB (decide (g≤k.gen))∧M=[own b (.cells #[Y g] 36)]):=by
 refine T3.enter Tryz.func140 rfl rfl ?_
 refine V ?_
 refine Bc E E zU fun b0=>?_
 refine O E (U (V (AE E HQ (AF 0 A2 E (AF 1 A2 E (Z E HZ (O E (U (AJ ?_)))))))))
 exact Ae (C1 E E) (Ad (M:=[_]) ⟨E,E⟩ fun _ h=>h.skip [_])
theorem Vr(v:Value)(ks:List BI)(g:FuncId)(cap:List Value)(B:List AV)(φ:BI→Bool)(hk:B6 K w0 AX 2 v ks)(hn:ks.length≤1099511627776)(hcal:AK Tryz.prog g=true)
(hf:∀(H:List AV) (k:BI),zC K w0 g (.agg (AX k).toArray::cap) B H (fun r M=>r=vB (φ k)∧M=B)):
  zC K w0 102 [v,.func (.func g) #[] cap.toArray] B H (fun r M=>r=vI (if ks.findIdx φ<ks.length then(ks.findIdx φ:Int)else -1)∧M=B):=by
 refine T3.enter Tryz.func102 rfl rfl ?_
 refine V (O E (U (AG (V (J E (B3 hk E Gj E (J E (U (AM ?_)))))))))
 refine SX.mono (BF (α:=Nat) (fun i=>i≤ks.length∧∀j y,j<i→ks[j]? = some y→φ y=false) (fun i=>[(0,v),(1,.func (.func g) #[] cap.toArray),(7,vI ks.length),(8,vI i)]) (fun i=>B++H) (fun i=>ks.length-i) (fun i D hp=>?_) 0 ⟨Nat.zero_le _,fun j y hj=>absurd hj (Nat.not_lt_zero _)⟩) tL
 obtain⟨hi,hb⟩:=hp
 refine V (Z E A8 (U (AG ?_)))
 refine Ax E (fun hc=>?_) (fun hc=>?_)
 have hlt:i<ks.length:=by simpa using hc
 obtain⟨key,hkey⟩:=PS hlt
 refine AI (AH (AG (AM (V (J E (O E (U (V (J E (J E (J E ?_)))))))))))
 refine Qu i key hk E Gj HT E E E hkey fun be off hcell=>?_
 refine Ap (AX key) E OY E E (Vv (hcell _)) ?_
 refine Bg (vs:=[_]) (Hin:=B) E E ⟨E,zT⟩ hcal E E (hf _ key) ?_
 rintro _ M ⟨rfl,hM⟩
 rw[hM]
 refine⟨trivial,?_⟩
 refine U ?_
 refine Ax E (fun hc2=>?_) (fun hc2=>?_)
 refine V (J E (O E (U (AJ (BC (Ab (EB (BC (Ab ?_)))))))))
 exact Ae (C1 E E) (Ad (M:=B) ⟨by rw[Wc hkey hc2 hb];simp[hlt],E⟩ fun _ h=>h)
 refine AI (Aj (AH (AN (Z E (Bf zO zO) (J E (AY ?_))))))
 refine Au (i+1) ⟨hlt,fun j y hj hy=>?_⟩ zO ⟨E,E,E,E,zT⟩
 rcases Nat.lt_or_ge j i with h | h
 exact hb j y h hy
 obtain rfl:j=i:=zO
 rw[hkey]at hy
 cases hy
 exact hc2
 refine A1 (A6 (Ba (A7 (AH (V (O E (U (AJ ?_))))))))
 have hle:i=ks.length:=by simp at hc;omega
 exact Ae (C1 rfl rfl) (Ad (M:=B) ⟨by rw[dh (fun j y hy=>hb j y (by obtain⟨h,_⟩:=List.getElem?_eq_some_iff.1 hy;omega) hy)];simp,rfl⟩ fun _ h=>h)
theorem ZB(v:Value)(ks:List BI)(g:UInt32)(hk:B6 K w0 AX 2 v ks)(hn:ks.length≤1099511627776):zC K w0 100 [v,Y g] [] H (fun r M=>r=.tuple #[vI (L9 g ks),vB (RZ g ks)]∧M=[]):=by
 refine T3.enter Tryz.func100 rfl rfl ?_
 refine V ?_
 refine Bc E E zU fun b0=>?_
 refine O E (O E (U (V (J E ?_))))
 refine GZ (fv:=#[]) (cv:=#[_]) E E E ?_
 refine AP 1 oO (Vr v ks 140 [vP b0 0] [_] (fun k=>decide (g≤k.gen)) hk hn od (fun H k=>Wy k g b0)) E ?_
 change SL _ _ _ _ _ _ _ _ _ _ ((9,vI (if L9 g ks<ks.length then(L9 g ks:Int)else -1))::_) _
 generalize hpl:L9 g ks=pl
 refine O E (U (AG (V (J E (Z E A8 (U ?_))))))
 refine Ax E (fun hc=>?_) (fun hc=>?_)
 refine V ?_
 have hnl:¬pl<ks.length:=by intro h;simp[h]at hc;omega
 have hpe:pl=ks.length:=by have:=gL g ks;omega
 refine J E (B3 hk E Gj E (O E (O E (U (AJ (Ab ?_))))))
 exact Ae (Ef E E E) (Ad (M:=[]) ⟨by simp[RZ,hpl,hpe],E⟩ fun _ h=>h.skip [_])
 have hlt:pl<ks.length:=by
  rcases Nat.lt_or_ge pl ks.length with h | h
  exact h
  simp[Nat.not_lt.2 h]at hc
 rw[if_pos hlt]
 obtain⟨key,hkey⟩:=PS hlt
 refine AI (AH (AG (Av DH [0] (C7 [(true,0),(true,1),(true,2),(true,3),(true,4),(true,5),(true,6),(true,7),(true,8),(true,9)]) zK (J E (J E (J E ?_))))))
 refine Qu pl key hk E Gj HT E E E hkey fun be off hcell=>?_
 refine AE E HQ ?_
 refine Bk E A2 E (fun w hw=>hcell _ w hw 0 _ E) ?_
 refine AF 0 A2 E (Z E NO (O E (O E (U (AJ ?_)))))
 exact Ae (Ef E E E) (Ad (M:=[]) ⟨by simp[RZ,hpl,hkey],E⟩ fun _ h=>h.skip [_])
theorem Ux(v:Value)(ks:List BI)(g:UInt32)(hk:B6 K w0 AX 2 v ks)(hv:v.cells=#[v])(hn:ks.length≤1099511627776):zC K w0 99 [v,Y g] [] H (fun r M=>r=.tuple #[.agg (AX (DW ks g).1).toArray,vI (DW ks g).2]∧M=[]):=by
 refine T3.enter Tryz.func99 rfl rfl ?_
 refine V ?_
 refine Al E NN zU fun b0=>?_
 refine O E (U (AG (V (J E (AP 0 fi (QC v ks hk hv hn) E (CT E E (U ?_)))))))
 refine Ax E (fun hc=>?_) (fun hc=>?_)
 have hf:DW ks g=(Gi,40):=by unfold DW;rw[if_pos (by simpa using hc)]
 rw[hf]
 refine V (B5 [] E eM eK NN zT E (A5 0 E E E E HT E E E zT (O E (U (AJ (Ab ?_))))))
 exact Ae (EN E (B9 0 (AX Gi) OY E E E E) E) (Ad (M:=[]) ⟨E,E⟩ fun _ h=>h.skip [_])
 have hr:Dm ks=true:=by simpa using hc
 refine AI (AH (V (J E (J E (AP 0 oN (ZB v ks g hk hn) E (J E (Ac E E E (Ac E E E (O E (O E (U (AG (V ?_)))))))))))))
 refine J E (CT E E (U ?_))
 refine Ax E (fun hc=>?_) (fun hc=>?_)
 have hf:DW ks g=(Gi,41):=by
  have:RZ g ks=false:=by simpa using hc
  unfold RZ at this
  unfold DW
  rw[hr]
  cases h:ks[L9 g ks]? with
  | none=>simp
  | some k=>rw[h]at this;simp at this;simp[this]
 rw[hf]
 refine V (B5 [] E eM eK NN zT E (A5 0 E E E E HT E E E zT (O E (U (AJ (Ab ?_))))))
 exact Ae (EN E (B9 0 (AX Gi) OY E E E E) E) (Ad (M:=[]) ⟨E,E⟩ fun _ h=>h.skip [_])
 have hth:RZ g ks=true:=by simpa using hc
 obtain⟨key,hkey,hg⟩:∃key,ks[L9 g ks]? = some key∧key.gen=g:=by
  unfold RZ at hth
  cases h:ks[L9 g ks]? with
  | none=>rw[h]at hth;cases hth
  | some k=>rw[h]at hth;exact⟨k,rfl,by simpa using hth⟩
 have hf:DW ks g=(key,0):=by
  unfold DW
  rw[hr]
  simp[hkey,hg]
 rw[hf]
 refine AI (AH (V (J E (J E ?_))))
 refine Qu (L9 g ks) key hk E Gj HT E E E hkey fun be off hcell=>?_
 refine Ap (AX key) E OY E E (Vv (hcell _)) (A5 0 E E E E HT E E E zT (O E (U (AJ ?_))))
 exact Ae (EN E (B9 0 (AX key) OY E E E E) E) (Ad (M:=[]) ⟨E,E⟩ fun _ h=>h.skip [_])
end

section
variable {K:Nat→Prop}{w0:World}{H:List AV}
theorem dS(b:List UInt8)(hb:b.length≤9223372036854775807):zC K w0 171 [vS b] [] H (fun v M=>v=vS (b.drop (b.length-32))∧M=[]):=by
 refine T3.enter Tryz.func171 rfl rfl ?_
 refine AG (AN (O E (AY (AH (AG (AN (J E (J E (Bw E Cj E (Z E (EF zO zO) (dD E E E (O5 (b.length-32) E Cj E E zO zO (O E (AY (AH (AJ ?_))))))))))))))))
 exact Ae (C1 E E) (Ad (M:=[]) ⟨E,E⟩ fun _ h=>h.skip [])
def Va(x:UInt32)(k:Int):UInt32:=shl32 x (Cq k &&& 31).toNat ||| shr32 x (32-(Cq k &&& 31)).toNat
theorem HV(x:UInt32)(k:Int):zC K w0 285 [Y x,vI k] [] H (fun v M=>v=Y (Va x k)∧M=[]):=by
 refine T3.enter Tryz.func285 rfl rfl ?_
 refine AG (AN (O E (AY (AH (AG (AN (J E (BG E E (E6 Jg Pf) ?_))))))))
 refine Z E (O2 (b:=31)) ?_
 refine O E (AY (AH (AG (AN (J E (J E (Z E Fd.shl32 (J E (J E ?_)))))))))
 refine Z E (T2 (a:=32)) ?_
 refine Z E Fd.shr32 (Z E E5 (O E (AY (AH (AJ ?_)))))
 exact Ae (C1 E E) (Ad (M:=[]) ⟨E,E⟩ fun _ h=>h.skip [])
end

section
variable {K:Nat→Prop}{w0:World}{H:List AV}
theorem kW:∀n:Fin 32,0<n.1→(Cq (-(n.1:Int)) &&& 31).toNat=32-n.1∧(32-(Cq (-(n.1:Int)) &&& 31)).toNat=n.1:=by decide
theorem kK(x:UInt32)(n:Nat)(h0:0<n)(h1:n<32):Va x (-(n:Int))=KE x n:=by
 obtain⟨e1,e2⟩:=kW ⟨n,h1⟩ h0
 simp only at e1 e2
 unfold Va KE
 rw[e1,e2,UInt32.or_comm]
theorem Gf(x:UInt32)(n:Nat)(h0:0<n)(h1:n<32):zC K w0 287 [Y x,vI n] [] H (fun r M=>r=Y (KE x n)∧M=[]):=by
 refine T3.enter Tryz.func287 rfl rfl ?_
 refine V (O E (U (V (J E (J E (kr E E zO zO (AP 0 bF (HV x (-(n:Int))) E (O E (U (AJ ?_))))))))))
 exact Ae (C1 E E) (Ad (M:=[]) ⟨by rw[kK x n h0 h1],E⟩ fun _ h=>h.skip [])
theorem ZI(s:List UInt8)(hs:s.length=64):zC K w0 286 [vS s] [] H (fun r M=>r=.agg (Db Y (ED s))∧M=[]):=by
 refine T3.enter Tryz.func286 rfl rfl ?_
 refine V ?_
 refine Al E nm zU fun b0=>?_
 refine U (V ?_)
 refine Al E nm zU fun b1=>?_
 refine U (AG (V (J E (U (AM ?_)))))
 refine SX.mono (BF (α:=Nat) (fun i=>i≤64) (fun i=>[(0,vS s),(2,vP b0 0),(3,vP b1 0),(8,vI i)]) (fun i=>own b1 (.cells (Db Y (FG s i++List.replicate (64-i) 0)) 376)::own b0 (.cells (Db Y (List.replicate 64 0)) 376)::H) (fun i=>64-i) (fun i D hp=>?_) 0 zO) tL
 have hlen:=MB s i
 refine V (Z E A8 (U (AG ?_)))
 refine Ax E (fun hc1=>?_) (fun hc1=>?_)
 have hi:i<64:=by simp at hc1;omega
 refine AI (AH (AG (AM (V (J E (O E (U (AG (V (J E (Z E A8 (U ?_))))))))))))
 refine Ax E (fun hc2=>?_) (fun hc2=>?_)
 have h16:i<16:=by simp at hc2;omega
 refine V (J E (Z E (Ou zO zO) (O E (U (AG (Av DH [] (CA [(true,0),(true,1),(true,2),(true,3),(true,4),(true,5),(true,6),(true,7),(true,8),(true,9),(true,10),(true,11),(true,12),(true,13),(true,14),(true,15),(true,16),(true,17),(true,18),(true,19),(true,20),(true,21),(true,22),(true,23),(true,24),(true,25),(true,26)] (.last 27 .nil)) zK (J E (J E (J E (Kk (4*i) E Cj E E zO zO ?_))))))))))
 refine BG E E (FV DS CP) ?_
 refine Z E (Fd.shl32 (n:=24)) ?_
 refine J E (J E (Z E (Bf zO zO) (Kk ((4*i)+1) E Cj E E zO zO (BG E E (FV DS CP) ?_))))
 refine Z E (Fd.shl32 (n:=16)) ?_
 refine Z E E5 (J E (J E (Z E (Bf zO zO) (Kk ((4*i)+2) E Cj E E zO zO (BG E E (FV DS CP) ?_)))))
 refine Z E (Fd.shl32 (n:=8)) ?_
 refine Z E E5 (J E (J E (Z E (Bf zO zO) (Kk ((4*i)+3) E Cj E E zO zO (BG E E (FV DS CP) (Z E E5 ?_))))))
 refine DC (n:=i) E Rb Bd E E zO zO ?_
 refine BY ?_
 refine Up (f:=Y) 0 E E E E Bd E E zQ zT ?_
 rw[TM _ _ _ 64 i hlen hi]
 refine U (A1 (A6 (A7 (AH (AN (Z E (Bf zO zO) (J E (AY ?_))))))))
 refine Au (i+1) zO zO ⟨E,E,E,E,zT⟩ (fun w h=>by
  have e:RO s (FG s i)=jP s (4*i):=by unfold RO;rw[hlen,if_pos h16]
  rw[FG,e]
  exact h)
 have h16:16≤i:=by simp at hc2;omega
 refine AI (AH (AG (Av DH [0] (C7 [(true,0),(true,1),(true,2),(true,3),(true,4),(true,5),(true,6),(true,7),(true,8),(true,9)]) zK (J E (Z E (EF zO zO) ?_)))))
 refine DC (n:=(i-15)) E Rb Bd E E zO zO ?_
 refine Bk E A2 E (C3 0 E (Ut 0 zO)) (J E (Z E (EF zO zO) ?_))
 refine DC (n:=(i-2)) E Rb Bd E E zO zO ?_
 refine Bk E A2 E (C3 0 E (Ut 0 zO)) (O E (O E (U (Av DH [0] (CA [(true,0),(true,1),(true,2),(true,3),(true,4),(true,5),(true,6),(true,7),(true,8),(true,9),(true,10),(true,12),(true,15),(true,16),(true,19),(true,21),(true,24),(true,25),(false,11),(false,13),(true,14),(true,17),(true,18),(false,20),(false,22),(true,23),(true,26),(true,27),(true,28)] (.last 29 .nil)) zK (J E (J E (Z E (EF zO zO) ?_)))))))
 refine DC (n:=(i-16)) E Rb Bd E E zO zO ?_
 refine Bk E A2 E (C3 0 E (Ut 0 zO)) (J E (Z E (EF zO zO) ?_))
 refine DC (n:=(i-7)) E Rb Bd E E zO zO ?_
 refine Bk E A2 E (C3 0 E (Ut 0 zO)) (Z E B1 (J E (J E (J E ?_))))
 refine Z E (Fd.shr32 (n:=3)) ?_
 refine J E (J E (J E ?_))
 refine Z E (Fd.shr32 (n:=10)) ?_
 refine BP 0 Nt (Gf _ 7 zO zO) E ⟨⟨0,E⟩,zT⟩ (BP 0 Nt (Gf _ 18 zO zO) E ⟨⟨0,E⟩,zT⟩ (Z E Ck (Z E Ck (Z E B1 (BP 0 Nt (Gf _ 17 zO zO) E ⟨⟨0,E⟩,zT⟩ (BP 0 Nt (Gf _ 19 zO zO) E ⟨⟨0,E⟩,zT⟩ (Z E Ck ?_)))))))
 refine Z E Ck (Z E B1 ?_)
 refine DC (n:=i) E Rb Bd E E zO zO ?_
 refine BY ?_
 refine Up (f:=Y) 0 E E E E Bd E E zQ zT ?_
 rw[TM _ _ _ 64 i hlen hi]
 refine AY (Aj (AH (AN (Z E (Bf zO zO) (J E (AY ?_))))))
 refine Au (i+1) zO zO ⟨E,E,E,E,zT⟩ (fun w h=>by
  have e:RO s (FG s i)=(FG s i).getD (i-16) 0+(FG s i).getD (i-7) 0+nH ((FG s i).getD (i-15) 0)+nI ((FG s i).getD (i-2) 0):=by unfold RO;rw[hlen,if_neg zO]
  rw[FG,e]
  exact h)
 have hi:i=64:=by simp at hc1;omega
 subst hi
 refine A1 (A6 (Ba (A7 (AH (V ?_)))))
 refine Ap ((ED s).map Y) E lC (by simp[ED,hlen]) E (Cw 0 E (fun j u hu=>by simpa[Db,ED]using hu)) ?_
 refine Od 1 E E E E tO (by simp[ED,hlen]) (by simp[Db]) (N3 zV (ED s)) zT ?_
 refine U (AJ ?_)
 exact Ae (IK E (B9 1 ((ED s).map Y) lC (by simp[ED,hlen]) E E (by simp only[List.drop_zero];exact List.take_of_length_le (by simp[ED,hlen])))) (Ad (M:=[]) ⟨E,E⟩ fun _ h=>h.skip [_,_])
end

section
variable {K:Nat→Prop}{w0:World}{H:List AV}
theorem ak(T h:List UInt32)(tl:List Value)(s:List UInt8)(b:Nat)(e:TypeId)(hT:TU K w0 3 T)(hTl:T.length=64)(hh:h.length=8)(hs:s.length=64):zC K w0 276 [vP b 0,vS s] [own b (.cells (NL Y h tl) e)] H (fun r M=>r=.tuple #[]∧M=[own b (.cells (NL Y (RL T h s) tl) e)]):=by
 refine T3.enter Tryz.func276 rfl rfl ?_
 refine AG (Av DH [0] (C7 [(true,0),(true,1),(true,2),(true,3),(true,4),(true,5),(true,6),(true,7),(true,8),(true,9),(true,10),(true,11),(true,12),(true,13),(true,14),(true,15),(true,16),(true,17),(true,18),(true,19),(true,20),(true,21),(true,22),(true,23),(true,24),(true,25),(true,26),(true,27),(true,28),(true,29),(true,30),(true,31),(true,32),(true,33),(true,34),(true,35),(true,36),(true,37),(true,38),(true,39)]) zK (J E (AQ E E ?_)))
 refine DC (n:=0) E Pg Bd E E zO zO ?_
 refine Bk E A2 E (C3 0 E (Jh 0 zO)) (J E (AQ E E ?_))
 refine DC (n:=1) E Pg Bd E E zO zO ?_
 refine Bk E A2 E (C3 0 E (Jh 0 zO)) (J E (AQ E E ?_))
 refine DC (n:=2) E Pg Bd E E zO zO ?_
 refine Bk E A2 E (C3 0 E (Jh 0 zO)) (J E (AQ E E ?_))
 refine DC (n:=3) E Pg Bd E E zO zO ?_
 refine Bk E A2 E (C3 0 E (Jh 0 zO)) (J E (AQ E E ?_))
 refine DC (n:=4) E Pg Bd E E zO zO ?_
 refine Bk E A2 E (C3 0 E (Jh 0 zO)) (J E (AQ E E ?_))
 refine DC (n:=5) E Pg Bd E E zO zO ?_
 refine Bk E A2 E (C3 0 E (Jh 0 zO)) (J E (AQ E E ?_))
 refine DC (n:=6) E Pg Bd E E zO zO ?_
 refine Bk E A2 E (C3 0 E (Jh 0 zO)) (J E (AQ E E ?_))
 refine DC (n:=7) E Pg Bd E E zO zO ?_
 refine Bk E A2 E (C3 0 E (Jh 0 zO)) (O E (O E (O E (O E (O E (O E (O E ?_)))))))
 refine O E (U (AG (V (J E (AP 0 qU (ZI s hs) E (J E (U (AM ?_))))))))
 refine SX.mono (BF (α:=Nat) (fun i=>i≤64) (fun i=>[(0,vP b 0),(4,Y (GW T (ED s) h i).a),(5,Y (GW T (ED s) h i).b),(6,Y (GW T (ED s) h i).c),(7,Y (GW T (ED s) h i).d),(8,Y (GW T (ED s) h i).e),(9,Y (GW T (ED s) h i).f),(10,Y (GW T (ED s) h i).g),(11,Y (GW T (ED s) h i).i),(51,.agg (Db Y (ED s))),(52,vI i)]) (fun i=>own b (.cells (NL Y h tl) e)::H) (fun i=>64-i) (fun i D hp=>?_) 0 zO) tL
 refine V (Z E A8 (U (AG ?_)))
 refine Ax E (fun hc1=>?_) (fun hc1=>?_)
 have hi:i<64:=by simp at hc1;omega
 have hw:(ED s)[i]? = some ((ED s).getD i 0):=by
  rw[List.getD_eq_getElem?_getD,List.getElem?_eq_getElem (by rw[ED,MB];exact hi)]
  rfl
 refine AI (AH (AG (AM (V (J E ?_)))))
 refine Pn (i:=i) E Rb A2 E E zO zO (E8 hw) ?_
 refine O E (O E (U (AG (Av DH [] (C7 [(true,0),(true,1),(true,3),(true,6),(true,10),(true,11),(true,12),(true,13),(true,14),(true,15),(true,16),(true,17),(true,19),(true,20),(true,21),(true,23),(false,2),(false,4),(true,5),(false,7),(true,8),(true,9),(true,18),(true,22),(true,24),(true,25)]) zK (J E (J E (J E (J E (J E ?_)))))))))
 refine J E (Z E Gs (J E (ZU E E (J E (Z E Gs (Z E Ck (J E ?_)))))))
 refine DC (b:=3) (n:=i) E Rb Bd E E zO zO ?_
 refine Bk E A2 E (hT.load zO) (J E (AP 0 Nt (Gf _ 6 zO zO) E (AP 0 Nt (Gf _ 11 zO zO) E (Z E Ck (AP 0 Nt (Gf _ 25 zO zO) E (Z E Ck (Z E B1 ?_)))))))
 refine Z E B1 (Z E B1 (Z E B1 (O E (U (V (J E (AP 0 Nt (Gf _ 2 zO zO) E (J E (AP 0 Nt (Gf _ 13 zO zO) E ?_)))))))))
 refine Z E Ck (J E (AP 0 Nt (Gf _ 22 zO zO) E (Z E Ck (J E (J E (Z E Gs (J E ?_)))))))
 refine J E (Z E Gs (Z E Ck (J E (J E (Z E Gs (Z E Ck (Z E B1 ?_)))))))
 refine O E (U (AN (J E (J E (J E (J E (J E (Z E B1 (J E ?_)))))))))
 refine J E (J E (J E (J E (Z E B1 (O E (O E (O E ?_)))))))
 refine O E (O E (O E (O E (O E (AY (Aj (AH (AN (Z E (Bf zO zO) (J E (AY ?_)))))))))))
 exact Au (i+1) zO zO ⟨E,E,E,E,E,E,E,E,E,E,E,zT⟩
 have hi:i=64:=by simp at hc1;omega
 subst hi
 generalize hfin:GW T (ED s) h 64=fin
 refine A1 (A6 (Ba (A7 (AH (V (J E (J E (J E (J E (J E (J E (J E (J E ?_)))))))))))))
 refine Un (fin.list.map Y) rfl nS Bd tn rfl ⟨rfl,rfl,rfl,rfl,rfl,rfl,rfl,rfl,trivial⟩ rfl rfl (fun v hv=>by obtain⟨x,_,rfl⟩:=List.mem_map.1 hv;rfl) ?_
 refine J E ?_
 have hfl:fin.list.length=h.length:=by rw[hh];rfl
 refine U (AM ?_)
 refine SX.mono (BF (α:=Nat) (fun i=>i≤8) (fun i=>[(0,vP b 0),(122,.agg (Db Y fin.list)),(123,vI i)]) (fun i=>own b (.cells (NL Y (Ro h fin.list i) tl) e)::H) (fun i=>8-i) (fun i D hp=>?_) 0 zO) tL
 refine V (Z E A8 (U (AG ?_)))
 refine Ax E (fun hc2=>?_) (fun hc2=>?_)
 have hi:i<8:=by simp at hc2;omega
 have hml:=VV h _ hfl i
 have hw:fin.list[i]? = some (fin.list.getD i 0):=by
  rw[List.getD_eq_getElem?_getD,List.getElem?_eq_getElem zO]
  rfl
 refine AI (AH (AG (AM (V (J E ?_)))))
 refine Pn (i:=i) E nS A2 E E zO zO (E8 hw) ?_
 refine O E (O E (U (Av DH [0] (CA [(true,0),(true,1),(true,2),(true,3),(true,4),(true,5),(true,6),(true,7),(true,8)] (.last 9 .nil)) zK (J E (J E (AQ E E ?_))))))
 refine DC (n:=i) E Pg Bd E E zO zO ?_
 refine Bk E A2 E (C3 0 E (Jh 0 zO)) ?_
 rw[Zp h _ hfl i zO]
 refine J E (Z E B1 (AQ E E ?_))
 refine DC (n:=i) E Pg Bd E E zO zO ?_
 refine BY ?_
 refine oD (f:=Y) 0 E E E E Bd E E zO zT ?_
 rw[Zq h _ hfl i zO]
 refine AY (Aj (AH (AN (Z E (Bf zO zO) (J E (AY ?_))))))
 exact Au (i+1) zO zO ⟨E,E,E,zT⟩
 have hi:i=8:=by simp at hc2;omega
 subst hi
 refine A1 (A6 (Ba (A7 ?_)))
 have hfull:=Yi h _ hfl
 rw[hh]at hfull
 rw[hfull,←hfin]
 exact DF (Dr E) (Ad (M:=[_]) ⟨E,E⟩ fun _ h=>h)
theorem WZ(T:List UInt32)(h:NI)(rest s:List UInt8)(n:Int)(b:Nat)(e:TypeId)(hT:TU K w0 3 T)(hTl:T.length=64)(hs:s.length=64):zC K w0 276 [vP b 0,vS s] [own b (.cells (OD h rest n) e)] H (fun r M=>r=.tuple #[]∧M=[own b (.cells (OD (UN T h s) rest n) e)]):=by
 have h1:=ak (K:=K) (w0:=w0) (H:=H) T h.list [vS rest,vI n] s b e hT hTl rfl hs
 rw[←Qx (Tu (T:=T) (s:=s) (show h.list.length=8 from rfl))]at h1
 exact h1
end

section
variable {K:Nat→Prop}{w0:World}{H:List AV}
def dd(p:Nat×List UInt8):List Value:=[vI p.1,vS p.2]
theorem cG(s:List UInt8)(b:Nat)(hn:s.length≤1099511627776):k8 Tryz.prog K w0 288 [vP b 0] [own b (.cells #[vS s] 9)] dd (On s):=by
 intro lp J9 X T hy G h0
 refine T3.enter Tryz.func288 rfl rfl ?_
 refine V (O E (U (AM ?_)))
 refine SX.mono (BF (α:=Nat×List AV) (fun x=>x.1≤s.length / 64∧J9 ((On s).take x.1) x.2) (fun x=>[(0,vY lp),(1,vP b 0),(3,vI (64*(x.1+1):Nat))]) (fun x=>own b (.cells #[vS s] 9)::(x.2++T)) (fun x=>s.length / 64-x.1) (fun x D hp=>?_) (0,G) ⟨Nat.zero_le _,h0⟩) tL
 obtain⟨i,G⟩:=x
 obtain⟨hi,hJ⟩:=hp
 simp only at hi hJ
 refine AG (V (J E (AF 0 Gd E (Bw E Cj E (Z E JN (U ?_))))))
 refine Ax E (fun hc1=>?_) (fun hc1=>?_)
 have hlt:i<s.length / 64:=by simp at hc1;omega
 have hg:=Wn s i hlt
 refine AI (AH (AG (AM (V (J E (J E (AF 0 Gd E (J E (Z E (EF zO zO) (J E (gz (64*i) (64*(i+1)) E Cj E E E zO zO zO zO ?_)))))))))))
 have ht:64*(i+1)-64*i=64:=zO
 rw[ht]
 refine HK (M2:=[_]) (G:=G) (T:=T) (vs:=[_,_]) (ok:=fun G1=>J9 ((On s).take (i+1)) G1) (no:=X) E E ⟨E,E,zT⟩ E ?_ (fun bb G1 hG1=>⟨zT,?_⟩)
 intro M
 have:=hy _ _ _ (FH hg).1 G hJ M
 rw[←(FH hg).2]at this
 exact this
 refine CT E E (U ?_)
 refine Ax E (fun hc2=>?_) (fun hc2=>?_)
 obtain rfl:bb=false:=by simpa using hc2
 refine AJ (BC (Ab (EB (BC ?_))))
 exact Ae (Dr E) (Ad (M:=G1) (.inr hG1) fun _ h=>h.skip [_])
 obtain rfl:bb=true:=by simpa using hc2
 refine AI (Aj (AH (AN (J E (Z E (Bf zO zO) (O E (AY ?_)))))))
 refine Au (i+1,G1) ⟨hlt,hG1⟩ (by simp only;omega) ⟨E,E,?_,zT⟩
 have e:((64*(i+1):Nat):Int)+64=((64*(i+1+1):Nat):Int):=zO
 simp only[look,Nat.beq,Cs]
 rw[←e]
 refine A1 (A6 (Ba (A7 ?_)))
 have hle:i=s.length / 64:=by simp at hc1;omega
 exact DF (Dr E) (Ad (M:=G) (.inl (by rw[List.take_of_length_le (by rw[PV];omega)]at hJ;exact hJ)) fun _ h=>h.skip [_])
theorem al(s:List UInt8):zC K w0 277 [vS s] [] H (fun r M=>∃b,r=.func (.func 288) #[] #[vP b 0]∧M=[own b (.cells #[vS s] 9)]):=by
 refine T3.enter Tryz.func277 rfl rfl ?_
 refine V ?_
 refine Bc E E zU fun b0=>?_
 refine O E (U (V ?_))
 refine GZ (fv:=#[]) (cv:=#[_]) E E E ?_
 refine O E (U (AJ ?_))
 exact Ae (C1 E E) (Ad (M:=[_]) ⟨b0,E,E⟩ fun _ h=>h)
theorem aj(h:NI)(tl:List Value)(b:Nat)(e:TypeId):zC K w0 278 [vP b 0] [own b (.cells (NL Y h.list tl) e)] H (fun r M=>r=vS (h.list.flatMap Gv)∧M=[own b (.cells (NL Y h.list tl) e)]):=by
 refine T3.enter Tryz.func278 rfl rfl ?_
 refine V (O E (U (V (O E (U (AG (V (J E (J E (U (AM (Iz 5 1 ?_))))))))))))
 refine SX.mono (BF (α:=Nat×Value) (fun x=>x.1≤8) (fun x=>[(3,x.2),(6,vP b 0),(7,vI x.1)]) (fun x=>Dg 5 1 x.2 (4*x.1) (((h.list.take x.1).flatMap Gv).map fun b=>ES b)::own b (.cells (NL Y h.list tl) e)::H) (fun x=>8-x.1) (fun x D hp=>?_) (0,zN) zD) tL
 obtain⟨i,v⟩:=x
 simp only at hp
 refine V (Z E A8 (U (AG ?_)))
 refine Ax E (fun hc1=>?_) (fun hc1=>?_)
 have hlt:i<8:=by simp at hc1;omega
 refine AI (AH (AG (AM (V (AQ E E ?_)))))
 refine DC (n:=i) E Pg Bd E E zO zO ?_
 refine Bk E A2 E (C3 1 E (Jh 0 hlt)) (O E (U (AN (J E (J E ?_)))))
 refine Z E (Fd.shr32 (n:=24)) ?_
 refine BG E E (DB CP DS) (J E ?_)
 refine Z E (Fd.shr32 (n:=16)) ?_
 refine BG E E (DB CP DS) (J E ?_)
 refine Z E (Fd.shr32 (n:=8)) ?_
 refine BG E E (DB CP DS) (J E (BG E E (DB CP DS) ?_))
 refine CD [_,_,_,_] E Cb Jx Ki ⟨E,E,E,E,zT⟩ E E E zX E E zU fun b0=>?_
 refine Um 1 rfl (m:=4) (news:=(Gv (h.list.getD i 0)).map fun b=>ES b) Cb Jx Vq Ki rfl zD rfl rfl rfl rfl (Ah 0 rfl) (by intro u hu;obtain⟨x,_,rfl⟩:=List.mem_map.1 hu;rfl) zO zO zU fun v'=>?_
 refine O E (AY (Aj (AH (AN (Z E (Bf zO zO) (J E (AY ?_)))))))
 refine Au (i+1,v') (by simp only;omega) (by simp only;omega) ⟨E,E,E,zT⟩ (fun w hw=>by
  have e1:h.list.take (i+1)=h.list.take i++[h.list.getD i 0]:=by
   rw[List.take_add_one,List.getD_eq_getElem?_getD,List.getElem?_eq_getElem (show i<h.list.length from hlt)]
   rfl
  simp only
  rw[e1,List.flatMap_append,List.map_append]
  simp only[List.flatMap_cons,List.flatMap_nil,List.append_nil]
  exact hw.skip [_])
 have hi:i=8:=by simp at hc1;omega
 subst hi
 refine A1 (A6 (Ba (A7 (AH (V (J E ?_))))))
 refine XY (s:=h.list.flatMap Gv) 0 E Cb DS Cj E E ?_
 refine O E (U (AJ ?_))
 exact Ae (C1 E E) (Ad (M:=[_]) ⟨E,E⟩ fun _ h=>h.skip [_])
end

section
variable {K:Nat→Prop}{w0:World}{H:List AV}
theorem U0(T:List UInt32)(h:NI)(rest s:List UInt8)(n:Int)(b:Nat)(e:TypeId)(hT:TU K w0 3 T)(hTl:T.length=64)(hr:rest.length<64)(hn:s.length≤1099511627776):zC K w0 257 [vP b 0,vS s] [own b (.cells (OD h rest n) e)] H (fun r M=>r=.tuple #[]∧M=[own b (.cells (OD (EJ T h (rest++s)).1 (EJ T h (rest++s)).2 n) e)]):=by
 refine T3.enter Tryz.func257 rfl rfl ?_
 refine V ?_
 refine Bc E E zU fun b0=>?_
 refine Bc E E zU fun b1=>?_
 refine U (Km ?_)
 refine Xe (α:=NI×List UInt8×List UInt8) (fun x=>EJ T x.1 (x.2.1++x.2.2)=EJ T h (rest++s)∧x.2.1.length<64∧(x.2.1≠[]→(x.2.1++x.2.2).length<64)∧x.2.2.length≤s.length) (fun x=>[(2,vP b0 0),(3,vP b1 0)]) (fun x=>own b1 (.cells #[vS x.2.2] 9)::own b0 (.cells #[vP b 0] 345)::own b (.cells (OD x.1 x.2.1 n) e)::H) ?_ (fun x hx=>?_)
 refine AG (Av DH [0,1,2] (C7 [(true,0),(true,1),(true,2),(true,3),(true,4),(true,5),(true,6),(true,7),(true,8),(true,9),(true,10),(true,11),(true,12),(true,13),(true,14),(true,15)]) zK (AF 1 Pa E (AQ E E (AE E Ll (AF 2 Gd E ?_)))))
 refine Z E (Uf (t:=[])) ?_
 refine J E ?_
 refine Cl (c:=decide ((64:Int)≤(rest.length:Int)+s.length)) 13 10 23 E (fun hb k=>?_) (fun hb k=>?_) ?_
 refine AF 1 Pa E (AQ E E (AE E Ll (AF 2 Gd E (Bw E Cj E (AF 0 Gd E (Bw E Cj E (Z E (Bf zO zO) ?_)))))))
 refine Z E LT (Ag E E E ?_)
 exact k.mono tL
 refine AC E (AC E (AC E (AC E (AC E (AC E (AC E (AC E ?_)))))))
 refine AC E (Ag E E E ?_)
 exact k.mono tL
 refine U ?_
 refine Ax E (fun hc1=>?_) (fun hc1=>?_)
 have hne:rest≠[]∧64≤rest.length+s.length:=by simp at hc1;exact⟨hc1.1,by omega⟩
 refine V (AF 1 Pa E (AQ E E (AE E Ll (AF 2 Gd E (Bw E Cj E (Z E (EF zO zO) (O E (U (AG (Av DH [0,1,2] (CA [(true,0),(true,1),(true,2),(true,3),(true,4),(true,5),(true,6),(true,7),(true,8),(true,9),(true,10)] (.last 11 .nil)) zK ?_))))))))))
 refine AF 1 Pa E (AQ E E (AE E Ya (AF 1 Pa E (AQ E E (AE E Ll (AF 2 Gd E (AF 0 Gd E ?_)))))))
 refine J E (R9 (64-rest.length) E Cj E E zO zO (Z E (Ff zQ) (BY (SL.pick [2,0,1] 3 (AP 1 ig (WZ T h rest (rest++s.take (64-rest.length)) n b e hT hTl zQ) E (SL.pick [1,2,0] 3 (U (Av DH [0,1] (CA [(true,0),(true,1),(true,2),(true,3),(true,4),(true,5),(false,6)] (.last 7 .nil)) zK (AF 1 Pa E ?_)))))))))
 refine AF 0 Gd E (J E (O5 (64-rest.length) E Cj E E zO zO (AQ E E (AE E Ll (A5 2 E E E E HS E E E ⟨⟨0,E⟩,⟨1,E⟩,zT⟩ (BY (A5 0 E E E E HS E E E zT (AY ?_))))))))
 refine TG (UN T h (rest++s.take (64-rest.length)),[],s.drop (64-rest.length)) ⟨?_,by simp,fun h=>absurd E h,by simp⟩ tL
 have e1:rest++s=(rest++s.take (64-rest.length))++s.drop (64-rest.length):=by rw[List.append_assoc,List.take_append_drop]
 have e2:=Ur (T:=T) (h:=h) (p:=rest++s.take (64-rest.length)) (s:=s.drop (64-rest.length)) zQ
 rw[e1,e2]
 rfl
 refine AI ?_
 refine TG (h,rest,s) ⟨E,hr,fun hne=>?_,Nat.le_refl _⟩ tL
 simp at hc1
 have:=hc1 hne
 simp
 omega
 
 obtain⟨h1,r1,s1⟩:=x
 obtain⟨hx1,hx2,hx3,hx4⟩:=hx
 simp only at hx1 hx2 hx3 hx4
 refine AG (V (AF 1 Pa E (AQ E E (AE E Ll (AF 2 Gd E ?_)))))
 refine Z E (Uf (t:=[])) ?_
 refine U ?_
 refine Ax E (fun hc2=>?_) (fun hc2=>?_)
 have hsh:=hx3 (by simpa using hc2)
 rw[P8 hsh]at hx1
 rw[←hx1]
 refine AG (Av DH [0,1,2] (CA [(true,0),(true,1),(true,2),(true,3),(true,4),(true,5),(true,6),(true,7)] (.last 8 .nil)) zK (AF 1 Pa E (AQ E E (AE E Ll (AF 2 Gd E (AF 0 Gd E (Z E (Ff zQ) (AQ E E ?_))))))))
 refine AE E Ll (BY (A5 2 E E E E HS E E E zT (U (AJ (Ab (Eb ?_))))))
 exact Ae (Dr E) (Ad (M:=[_]) ⟨E,E⟩ fun _ h=>h.skip [_,_])
 have hr1:r1=[]:=by simpa using hc2
 subst hr1
 rw[List.nil_append,LU]at hx1
 rw[←hx1]
 refine AI (AH (V ?_))
 refine Al E ni zU fun b2=>?_
 refine A5 0 E E E E OT E E E zT (U (AG (Kl (AH (AG (V (AF 1 Gd E (BO 0 qP (al s1) E ?_))))))))
 rintro _ _ ⟨bi,rfl,rfl⟩
 refine U (AM ?_)
 refine TH (enc:=dd) (On s1) (fun pre G=>G=own b2 (.cells #[vI (64*pre.length:Nat)] 3)::own b1 (.cells #[vS s1] 9)::own b0 (.cells #[vP b 0] 345)::own b (.cells (OD (Gc T h1 s1 pre.length) [] n) e)::H) (fun c G=>c=.exit 0∧G=own b2 (.cells #[vI (64*(s1.length / 64):Nat)] 3)::own b1 (.cells #[vS s1] 9)::own b0 (.cells #[vP b 0] 345)::own b (.cells (OD (Gc T h1 s1 (s1.length / 64)) [] n) e)::H) E qV E zV (cG s1 bi zO) E E (fun pre x suf G hxs hJ r lp Rest=>?_) (fun G D hJ=>?_) (fun c G D hX=>?_)
 obtain rfl:=hJ
 have hget:(On s1)[pre.length]? = some x:=by rw[hxs];simp
 have hlt:pre.length<s1.length / 64:=by
  have:=PV s1
  rw[hxs]at this
  simp at this
  omega
 rw[Wn s1 _ hlt]at hget
 obtain rfl:=zI hget
 refine V (O E (U (AN (O E (AY (Jz (AM (V (AF 2 Pa E (AQ E E (AE E Ya (J E (SL.pick [3,0,1,2] 4 (AP 1 ig (WZ T (Gc T h1 s1 pre.length) [] _ n b e hT hTl zQ) E ?_))))))))))))))
 refine SL.pick [1,2,3,0] 4 (U (V (J E (A5 0 E E E E OT E E E zT (U (V (AF 1 Gd E (Bw E Cj E (J E (Z E (EF zO zO) (Z E A8 (U ?_))))))))))))
 refine Ax E (fun hc3=>?_) (fun hc3=>?_)
 refine A1 (Hf ?_)
 have e1:pre.length+1=s1.length / 64:=by simp at hc3;omega
 exact N2 (G:=_::_::_::_::H) (by rw[←e1];exact⟨E,E⟩) (fun _ h=>h)
 refine AI (Aj ?_)
 exact Hg (G:=_::_::_::_::H) (by rw[show(pre++[(64*(pre.length+1),(s1.drop (64*pre.length)).take 64)]).length=pre.length+1 by simp];rfl) (fun _ h=>h)
 obtain rfl:=hJ
 rw[PV]
 refine Aj (AH (Av DH [0,1,2] (CA [(true,0),(true,1),(true,2),(true,3),(true,4),(true,5)] (.last 6 .nil)) zK (AF 2 Pa E (AF 1 Gd E (AF 0 FJ E (O5 (64*(s1.length / 64)) E Cj E E zO zO (AQ E E (AE E Ll (BY (A5 3 E E E E HS E E E zT (AY (hE ?_))))))))))))
 exact DF (Dr E) (Ad (M:=[_]) ⟨E,E⟩ fun _ h=>h.skip [_,_,_])
 obtain⟨rfl,rfl⟩:=hX
 refine A1 (A7 (AH (Av DH [0,1,2] (CA [(true,0),(true,1),(true,2),(true,3),(true,4),(true,5)] (.last 6 .nil)) zK (AF 2 Pa E (AF 1 Gd E (AF 0 FJ E (O5 (64*(s1.length / 64)) E Cj E E zO zO (AQ E E (AE E Ll (BY (A5 3 E E E E HS E E E zT (AY (hE ?_)))))))))))))
 exact DF (Dr E) (Ad (M:=[_]) ⟨E,E⟩ fun _ h=>h.skip [_,_,_])
end

section
variable {K:Nat→Prop}{w0:World}{H:List AV}
def Zm(e:TypeId):Prop:=liesAt Tryz.prog Tryz.prog.depth e (2 / Tryz.prog.cellsOf e) 0 161 1=true
theorem uE(v:Value)(w:World):(callFunc 146 [v].toArray).run Tryz.prog w=.ok (.value v) w:=by
 rw[run_callFunc_extern (e:=Extern.AbiNoEscape.same) Tryz.func146 zK zK zK zK]
 rfl
theorem Y7(e:TypeId)(b:Nat)(v:Value)(hl:Zm e):zC K w0 108 [vP b 0] [own b (.cells #[.pointer none,v] e)] H (fun r M=>r=.tuple #[]∧M=[own b (.cells #[vP b 0,v] e)]):=by
 refine T3.enter Tryz.func108 rfl rfl ?_
 refine V (J E (AQ E E (AE E VK (AF 0 gX E (EL E Yy E E (U (Qa E (AN (J E (J E ?_))))))))))
 refine oE 0 E Yy nR gd E E E E ?_
 refine km E (vs:=[_]) ⟨E,zT⟩ (uE _) ?_
 refine nt 0 E nR Yy gd E E hl (AQ E E (AE E VK (A5 0 E E E E tF E E E zT (AY ?_))))
 exact DF (Dr E) (Ad (M:=[_]) ⟨E,E⟩ fun _ h=>h)
theorem Y8(e:TypeId)(b:Nat)(v:Value):zC K w0 108 [vP b 0] [own b (.cells #[vP b 0,v] e)] H (fun r M=>r=.tuple #[]∧M=[own b (.cells #[vP b 0,v] e)]):=by
 refine T3.enter Tryz.func108 rfl rfl ?_
 refine V (J E (AQ E E (AE E VK (AF 0 gX E (EL E Yy E E (U (Cx E (V (J E (AQ E E ?_))))))))))
 refine AE E VK (AF 0 gX E (J E (kq E Yy gd E E (U (Cx E (AI ?_))))))
 exact DF (Dr E) (Ad (M:=[_]) ⟨E,E⟩ fun _ h=>h)
def O7(b:Nat)(p:Value):Prop:=p=.pointer none∨p=vP b 0
theorem Q2(e:TypeId)(b:Nat)(p v:Value)(hp:O7 b p)(hl:Zm e):zC K w0 108 [vP b 0] [own b (.cells #[p,v] e)] H (fun r M=>r=.tuple #[]∧M=[own b (.cells #[vP b 0,v] e)]):=by
 rcases hp with rfl | rfl
 exact Y7 e b v hl
 exact Y8 e b v
theorem Of(e:TypeId)(b:Nat)(p v:Value)(n:Nat)(xs:List Value)(c:UInt8)(hp:O7 b p)(hl:Zm e)(hn:n+1≤140737488355328):
  zC K w0 228 [vP b 0,ES c] [own b (.cells #[p,v] e),Dg 5 1 v n xs] H
   (fun r M=>r=.nilIface∧∃v',M=[own b (.cells #[vP b 0,v'] e),Dg 5 1 v' (n+1) (xs++[ES c])]):=by
 refine T3.enter Tryz.func228 rfl rfl ?_
 refine V (O E (U (V (J E (AP 1 an (Q2 e b p v hp hl) E (U (V (J E (J E (AQ E E (AE E Im (AF 0 QQ E ?_))))))))))))
 refine J E ?_
 refine CD [ES c] E Cb Jx Ki ⟨E,zT⟩ E E E zX E E zU fun b1=>?_
 refine Um 2 E (news:=[ES c]) Cb Jx Vq Ki E zD E E E E (Ah 0 E) (by simp[Value.oneCell']) zO zO zU fun v'=>?_
 refine AQ E E (AE E Im ?_)
 refine c9 (fun w hw=>Yo (hw.holds _ (List.mem_append_left _ (List.mem_of_getElem? (i:=2) E)))) fun hsh=>?_
 have hc1:v'.cells=#[v']:=by rcases hsh with⟨rfl,_⟩ | ⟨g,cap,rfl,_⟩<;>rfl
 have ho1:v'.oneCell'=true:=by rcases hsh with⟨rfl,_⟩ | ⟨g,cap,rfl,_⟩<;>rfl
 refine A5 1 E E E E gb (by rw[hc1];rfl) (by rw[hc1];simp[ho1]) E zT ?_
 rw[hc1]
 refine U (V (O E (U (AJ ?_))))
 exact Ae (C1 E E) (Ad (M:=[_,_]) ⟨E,v',E⟩ fun _ h=>h.skip [_])
theorem Gy(e:TypeId)(b:Nat)(p v:Value)(n:Nat)(xs:List Value)(s:List UInt8)(hp:O7 b p)(hl:Zm e)(hn:n+s.length≤140737488355328):
  zC K w0 76 [vP b 0,vS s] [own b (.cells #[p,v] e),Dg 5 1 v n xs] H
   (fun r M=>r=.tuple #[vI s.length,.nilIface]∧∃v',M=[own b (.cells #[vP b 0,v'] e),Dg 5 1 v' (n+s.length) (xs++s.map fun b=>ES b)]):=by
 refine T3.enter Tryz.func76 rfl rfl ?_
 refine V (O E (O E (U (V (J E (AP 1 an (Q2 e b p v hp hl) E (U (V (J E (J E (AQ E E (AE E Im ?_))))))))))))
 refine AF 0 QQ E (J E ?_)
 refine kl 1 E Cb Cj Jx Vq Ki E E E hn zU fun v'=>?_
 refine AQ E E (AE E Im ?_)
 refine c9 (fun w hw=>Yo (hw.holds _ (List.mem_append_left _ (List.mem_of_getElem? (i:=1) E)))) fun hsh=>?_
 have hc1:v'.cells=#[v']:=by rcases hsh with⟨rfl,_⟩ | ⟨g,cap,rfl,_⟩<;>rfl
 have ho1:v'.oneCell'=true:=by rcases hsh with⟨rfl,_⟩ | ⟨g,cap,rfl,_⟩<;>rfl
 refine A5 0 E E E E gb (by rw[hc1];rfl) (by rw[hc1];simp[ho1]) E zT ?_
 rw[hc1]
 refine U (V (J E (Bw E Cj E (O E (O E (U (AJ ?_)))))))
 exact Ae (Ef E E E) (Ad (M:=[_,_]) ⟨E,v',E⟩ fun _ h=>h)
theorem aR(e:TypeId)(b:Nat)(p v:Value)(n:Nat)(xs:List Value):
  zC K w0 77 [vP b 0] [own b (.cells #[p,v] e),Dg 5 1 v n xs] H
   (fun r M=>r=vI n∧M=[own b (.cells #[p,v] e),Dg 5 1 v n xs]):=by
 refine T3.enter Tryz.func77 rfl rfl ?_
 refine V (O E (U (V (J E (AQ E E (AE E Im (AF 0 QQ E (dA 1 E Cb E E (O E (U (AJ ?_)))))))))))
 exact Ae (C1 E E) (Ad (M:=[_,_]) ⟨E,E⟩ fun _ h=>h)
theorem Jj(e:TypeId)(b:Nat)(p v:Value)(n:Nat)(s:List UInt8)(hn:n≤140737488355328):
  zC K w0 78 [vP b 0] [own b (.cells #[p,v] e),Dg 5 1 v n (s.map fun b=>ES b)] H
   (fun r M=>r=vS s∧M=[own b (.cells #[p,v] e),Dg 5 1 v n (s.map fun b=>ES b)]):=by
 refine T3.enter Tryz.func78 rfl rfl ?_
 refine V (O E (U (AG (Av DH [0,1] (C7 [(true,0),(true,1),(true,2),(true,3),(true,5),(true,6),(true,7),(true,8),(true,9),(false,4),(false,10),(true,11)]) zK (J E (AQ E E (AE E Im (AF 0 QQ E (J E (AQ E E ?_))))))))))
 refine AE E Im (AF 0 QQ E (dA 1 E Cb E E ?_))
 refine k4 1 E nO E E ⟨⟨0,E⟩,⟨1,E⟩,zT⟩ fun q hq=>?_
 refine k5 1 E nO ug E E hq E zO ⟨⟨0,E⟩,⟨1,E⟩,zT⟩ (O E (U (AJ ?_)))
 exact Ae (C1 E E) (Ad (M:=[_,_]) ⟨E,E⟩ fun _ h=>h)
end

section
variable {K:Nat→Prop}{w0:World}{H:List AV}
theorem cO{y:UInt64}(h:y.toNat<4294967296):shr64 y 32=0:=by
 apply UInt64.toNat_inj.1
 have h1:y.toNat / 4294967296=0:=Nat.div_eq_of_lt h
 simp[shr64,h1]
theorem lF(n:Nat)(h:n<9223372036854775808):decide ((9223372036854775807:UInt64)<Cq n)=false:=by
 rw[decide_eq_false_iff_not,UInt64.lt_iff_toNat_lt]
 have h1:(9223372036854775807:UInt64).toNat=9223372036854775807:=by decide
 have h2:(Cq n).toNat=n:=by simp only[Cq,UInt64.toNat_ofNat'];omega
 omega
theorem aK{y:UInt64}(h:y.toNat<4294967296):y &&& 4294967295=y:=by
 apply UInt64.toNat_inj.1
 rw[UInt64.toNat_and]
 exact Nat.and_two_pow_sub_one_of_lt_two_pow (n:=32) h
theorem lO(y:UInt64)(hy:y.toNat<4294967296):zC K w0 106 [AT 1,AT y] [] H (fun r M=>r=.tuple #[AT 0,AT y]∧M=[]):=by
 refine T3.enter Tryz.func106 rfl rfl ?_
 refine V (O E (O E (U (V (J E ?_)))))
 refine Z E (O2 (b:=4294967295)) ?_
 refine O E (U (V (J E ?_)))
 refine Z E (Fd.shr64 (n:=32)) ?_
 refine O E (U (V (J E ?_)))
 refine Z E (O2 (b:=4294967295)) ?_
 refine O E (U (V (J E ?_)))
 refine Z E (Fd.shr64 (n:=32)) ?_
 refine O E (U (V (J E (J E (Z E MC (O E (U (V (J E (J E (Z E MC ?_)))))))))))
 refine J E ?_
 refine Z E (Fd.shr64 (n:=32)) ?_
 refine Z E H9 (O E (U (V (J E ?_))))
 refine Z E (O2 (b:=4294967295)) ?_
 refine O E (U (V (J E ?_)))
 refine Z E (Fd.shr64 (n:=32)) ?_
 refine O E (U (V (J E (J E (J E (Z E MC (Z E H9 (O E (U (V (J E ?_)))))))))))
 refine J E (Z E MC (J E (Z E H9 (J E ?_))))
 refine Z E (Fd.shr64 (n:=32)) ?_
 refine Z E H9 (O E (U (V (J E (J E (Z E MC (O E (U (AJ ?_)))))))))
 have h1:shr64 y 32=0:=cO hy
 have h2:y &&& 4294967295=y:=aK hy
 have h3:shr64 (1:UInt64) 32=0:=by decide
 have h4:(1:UInt64) &&& 4294967295=1:=by decide
 have h5:shr64 (0:UInt64) 32=0:=by decide
 have h6:(0:UInt64) &&& 4294967295=0:=by decide
 refine Ae (Ef E E E) (Ad (M:=[]) ⟨?_,E⟩ fun _ h=>h.skip [])
 simp[h1,h2,h3,h4,h5,h6]
theorem lN(y:UInt64)(hy:y.toNat<4294967296):zC K w0 73 [AT 1,AT y] [] H (fun r M=>r=.tuple #[AT 0,AT y]∧M=[]):=by
 refine T3.enter Tryz.func73 rfl rfl ?_
 refine V (O E (O E (U (AG ?_))))
 refine Ax E (fun hc1=>absurd hc1 zD) (fun hc1=>?_)
 refine AI (AH (V (J E (J E (AP 0 oP (lO y hy) E (J E (Ac E E E (Ac E E E (O E (O E (U (V ?_))))))))))))
 refine J E (J E (O E (O E (U (AJ ?_)))))
 exact Ae (Ef E E E) (Ad (M:=[]) ⟨E,E⟩ fun _ h=>h.skip [])
theorem lQ(b n:Nat)(hn:n≤281474976710656):zC K w0 109 [vP b 0,vI n] [own b (.cells #[vP b 0,zN] 161)] H (fun r M=>r=.tuple #[]∧∃v,M=[own b (.cells #[vP b 0,v] 161),Dg 5 1 v 0 []]):=by
 refine T3.enter Tryz.func109 rfl rfl ?_
 refine AG (Av DH [0] (C7 [(true,0),(true,1),(true,2),(true,3),(true,4),(true,5),(true,6),(true,7),(true,9),(true,10),(true,11),(true,12),(true,13),(false,8),(true,14),(true,15)]) zK (J E (AQ E E (AE E Im (AF 0 QQ E (c8 E Cb E (Z E (Ou zO zO) (J E ?_))))))))
 refine Z E (Bf zO zO) (J E (AQ E E (AE E Im (AF 0 QQ E (IQ E Cb E ?_)))))
 refine n8 (n:=n) (fn:=Tryz.f147) E E zO hn Cb (fun w r w' hr=>by rw[run_callFunc_extern (e:=Extern.BytealgMakeNoZero.makeNoZero #[3] #[123]) Tryz.func147 zK zK zK zK];rw[show(Extern.BytealgMakeNoZero.makeNoZero #[3] #[123] #[vI n]).run Tryz.prog w=.ok r w' from hr];rfl) (fun _ _=>⟨⟨1,E⟩,zT⟩) fun b1 cs hcs hcm=>?_
 refine dE 0 E Cb Jx E E E zO (O E (U (V (J E (J E (AQ E E (AE E Im (AF 1 QQ E (nr E Cb Jx E E (U (AN ?_)))))))))))
 refine J E (J E (AQ E E (AE E Im (A5 1 E E E E gb E E E zT (AY ?_)))))
 refine SQ.heap (H':=Dg 5 1 (.slice (some ⟨b1,0,none⟩) 0 cs.size) 0 []::own b (.cells #[vP b 0,.slice (some ⟨b1,0,none⟩) 0 cs.size] 161)::H) ?_ fun w hw=>ct hw zS zO
 exact DF (Dr E) (Ad (M:=[_,_]) ⟨E,_,E⟩ fun _ h=>h.perm (List.Perm.swap _ _ _))
theorem dK(b n:Nat)(p:Value)(hp:O7 b p)(h0:0<n)(hn:n≤281474976710656):zC K w0 75 [vP b 0,vI n] [own b (.cells #[p,zN] 161)] H (fun r M=>r=.tuple #[]∧∃v,M=[own b (.cells #[vP b 0,v] 161),Dg 5 1 v 0 []]):=by
 refine T3.enter Tryz.func75 rfl rfl ?_
 refine V (J E (AP 1 an (Q2 161 b p (.slice none 0 0) hp RN) E (U (AG (V (J E (Z E A8 (U ?_))))))))
 refine Ax E (fun hc1=>absurd hc1 zS) (fun hc1=>?_)
 refine AI (AH (AG (Av DH [0] (C7 [(true,0),(true,1),(true,2),(true,3),(true,4),(true,5),(true,6),(true,7),(true,8),(true,9),(true,10),(true,11),(true,12)]) zK (J E (AQ E E (AE E Im (AF 0 QQ E (c8 E Cb E (J E (AQ E E ?_))))))))))
 refine AE E Im (AF 0 QQ E (IQ E Cb E (Z E (EF zO zO) (J E (Z E A8 (U ?_))))))
 refine Ax E (fun hc2=>?_) (fun hc2=>absurd hc2 zQ)
 refine AN (J E (J E (BO 1 oQ (lQ b n hn) E ?_)))
 rintro _ _ ⟨rfl,v,rfl⟩
 refine AY ?_
 exact DF (Dr E) (Ad (M:=[_,_]) ⟨E,v,E⟩ fun _ h=>h)
theorem NX(n:Nat)(hn:n≤8192):zC K w0 49 [vS [0],vI n] [] H (fun r M=>r=vS (List.replicate n 0)∧M=[]):=by
 refine T3.enter Tryz.func49 rfl rfl ?_
 refine V (O E (U (AG (V (J E (U (AM (V (Z E Bq (O E (U ?_)))))))))))
 refine Ax E (fun hc1=>?_) (fun hc1=>?_)
 refine V (O E (U (AJ (BC (Ab ?_)))))
 exact Ae (C1 E E) (Ad (M:=[]) ⟨by have h0:n=0:=(by simpa using hc1);subst h0;rfl,E⟩ fun _ h=>h.skip [])
 have h0:n≠0:=by intro h;subst h;simp at hc1
 refine V (Z E Bq (O E (U ?_)))
 refine Ax E (fun hc2=>?_) (fun hc2=>?_)
 refine V (J E (O E (U (AJ (BC (Ab ?_))))))
 exact Ae (C1 E E) (Ad (M:=[]) ⟨by have h1:n=1:=(by simp at hc2;omega);subst h1;rfl,E⟩ fun _ h=>h.skip [])
 refine AI (Aj (AH (AG (V (J E (Z E A8 (U ?_)))))))
 refine Ax E (fun hc3=>absurd hc3 zS) (fun hc3=>?_)
 refine AI (AH (V (J E (Bw E Cj E (BG E E (E6 Jg Pf) (J E (BG E E (E6 Jg Pf) (AP 0 lh (lN (Cq n) (by simp[Cq];omega)) E (J E (Ac E E E ?_))))))))))
 refine Ac E E E (O E (O E (U (AG (V (J E ?_))))))
 refine Z E (NQ (b:=0)) ?_
 refine J E ?_
 refine Eg (c:=false) 31 3 34 E (fun hb k=>?_) (fun hb k=>?_) ?_
 refine AC E (AC E (Ag E E E ?_))
 exact k.mono tL
 refine J E ?_
 refine Z E (NQ (b:=9223372036854775807)) ?_
 rw[lF n zO]
 refine Ag E E E ?_
 exact k.mono tL
 refine U ?_
 refine Ax E (fun hc4=>absurd hc4 zD) (fun hc4=>?_)
 refine AI (AH (V (J E ?_)))
 have hto:((Cq n).toNat:Int)=n:=by simp only[Cq,UInt64.toNat_ofNat'];omega
 refine BG E E (gp (n:=((Cq n).toNat:Int)) Pf Jg zO zO) ?_
 rw[hto]
 refine O E (U (AG (V (J E (Bw E Cj E (Z E Bq (U ?_)))))))
 refine Ax E (fun hc5=>absurd hc5 zD) (fun hc5=>?_)
 refine AI (AH (AG (V (J E (Kk 0 E Cj E E zD zD (U (AM (AG (V ?_)))))))))
 refine Z E (Ry (b:=32)) ?_
 refine O E (U ?_)
 refine Ax E (fun hc6=>absurd hc6 zD) (fun hc6=>?_)
 refine V ?_
 refine Z E (Ry (b:=45)) ?_
 refine O E (U ?_)
 refine Ax E (fun hc7=>absurd hc7 zD) (fun hc7=>?_)
 refine V ?_
 refine Z E (Ry (b:=48)) ?_
 refine O E (U ?_)
 refine Ax E (fun hc8=>absurd hc8 zD) (fun hc8=>?_)
 refine V ?_
 refine Z E (Ry (b:=61)) ?_
 refine O E (U ?_)
 refine Ax E (fun hc9=>absurd hc9 zD) (fun hc9=>?_)
 refine AN ?_
 refine Z E (Ry (b:=9)) ?_
 refine O E (U ?_)
 refine Ax E (fun hc10=>absurd hc10 zD) (fun hc10=>?_)
 refine AI (Aj (AH (V (J E (O E (U (AG (V (J E (Z E Cu (U ?_)))))))))))
 refine Ax E (fun hc11=>absurd hc11 zQ) (fun hc11=>?_)
 refine AI (AH (V ?_))
 refine Al E Y5 zU fun b0=>?_
 refine U (V (J E (BO 1 li (dK b0 n _ (.inl E) zO zO) E ?_)))
 rintro _ _ ⟨rfl,v1,rfl⟩
 refine U (V (J E (BO 2 SV (Gy 161 b0 _ v1 0 [] [0] (.inr E) RN zS) E ?_)))
 rintro _ _ ⟨rfl,v2,rfl⟩
 refine U (AG (AM ?_))
 refine SX.mono (BF (α:=Nat×Value) (fun x=>1≤x.1∧x.1≤n) (fun x=>[(0,vS [0]),(7,vI n),(8,vI n),(9,vP b0 0)]) (fun x=>own b0 (.cells #[vP b0 0,x.2] 161)::Dg 5 1 x.2 x.1 ((List.replicate x.1 0).map fun b=>ES b)::H) (fun x=>n-x.1) (fun x D hp=>?_) (1,v2) ⟨Nat.le_refl _,by simp only;omega⟩) tL
 obtain⟨m,v⟩:=x
 obtain⟨h1,h2⟩:=hp
 simp only at h1 h2
 refine AG (V (AP 2 bG (aR 161 b0 (vP b0 0) v m _) E (J E (Z E A8 (U ?_)))))
 refine Ax E (fun hc12=>?_) (fun hc12=>?_)
 refine AI (AH (AM (V (J E (AP 2 bG (aR 161 b0 (vP b0 0) v m _) E (Z E (EF zO zO) (AP 2 bG (aR 161 b0 (vP b0 0) v m _) E (J E (jU E E E E (O E (U (AN (AP 2 QE (Jj 161 b0 (vP b0 0) v m (List.replicate m 0) zO) E ?_)))))))))))))
 refine J E (R9 (min (n-m) m) E Cj E E zO zQ (BO 2 SV (Gy 161 b0 _ v m _ ((List.replicate m 0).take (min (n-m) m)) (.inr E) RN zQ) E ?_))
 rintro _ _ ⟨rfl,v',rfl⟩
 refine AY (Aj ?_)
 exact Au (m+min (n-m) m,v') ⟨by simp only;omega,by simp only;omega⟩ (by simp at hc12;simp only;omega) ⟨E,E,E,E,zT⟩ (fun w h=>by
  have e:(List.replicate m 0).map (fun b=>ES b)++((List.replicate m 0).take (min (n-m) m)).map (fun b=>ES b)=(List.replicate (m+min (n-m) m) 0).map fun b=>ES b:=by
   rw[←List.map_append,List.take_replicate,List.replicate_append_replicate];congr 2;omega
  have e2:((List.replicate m (0:UInt8)).take (min (n-m) m)).length=min (n-m) m:=by simp
  rw[e,e2]at h
  exact h)
 refine A1 (A6 (Ba (A7 (AH (V (AP 2 QE (Jj 161 b0 (vP b0 0) v m (List.replicate m 0) zO) E (O E (U (AJ ?_)))))))))
 exact Ae (C1 E E) (Ad (M:=[]) ⟨by have h3:m=n:=(by simp at hc12;omega);subst h3;rfl,E⟩ fun _ h=>h.skip [_,_])
end

section
variable {K:Nat→Prop}{w0:World}{H:List AV}
theorem fQ(n:UInt64)(i:Nat)(h:i<8):(SD n).take (i+1)=(SD n).take i++[(shr64 n (56-8*i)).toUInt8]:=by
 have:i=0∨i=1∨i=2∨i=3∨i=4∨i=5∨i=6∨i=7:=zO
 rcases this with rfl | rfl | rfl | rfl | rfl | rfl | rfl | rfl<;>rfl
theorem Vm(T:List UInt32)(h:NI)(s:List UInt8):(EJ T h s).2.length=s.length%64:=by
 rw[LU]
 simp
 omega
theorem ai(T:List UInt32)(h:NI)(rest:List UInt8)(n:Nat)(b:Nat)(e:TypeId)(hT:TU K w0 3 T)(hTl:T.length=64)(hr:rest.length=n%64)(hn:n≤1099511627776):zC K w0 258 [vP b 0] [own b (.cells (OD h rest n) e)] H (fun r M=>r=vS ((EJ T h (rest++LR n)).1.list.flatMap Gv)∧M=[own b (.cells (OD h rest n) e)]):=by
 refine T3.enter Tryz.func258 rfl rfl ?_
 refine V (O E (U (AG (V (J E (EL E tR E E (U ?_)))))))
 refine Ax E (fun hc1=>absurd hc1 zS) (fun hc1=>?_)
 refine AI (AH (V (J E (AQ E E ?_))))
 refine Ap (OD h rest n).toList E rN E E (Cw 0 E (fun j u hu=>by simpa using hu)) ?_
 refine Al E nl zU fun b0=>?_
 refine Od (c':=OD h rest n) 0 E E E E tN E E (List.all_eq_true.1 (show(OD h rest n).toList.all (·.oneCell')=true from E)) zT ?_
 refine U (V (J E (AQ E E (AE E VO (AF 1 FJ E (BG E E (E6 Jg Da) ?_))))))
 refine Z E (MC (b:=8)) ?_
 refine O E (U (V (J E (AQ E E (AE E VO (AF 1 FJ E (Z E (Vk zO zO) (Z E (EF zO zO) (Z E (Vk zO zO) ?_)))))))))
 refine O E (U (V (O E (U (AG (V (O E (U (AM (Iz 5 1 ?_))))))))))
 refine SX.mono (BF (α:=Nat×Value) (fun x=>x.1≤8) (fun x=>[(3,vP b0 0),(4,AT (Cq n*8)),(5,vI (Ln n)),(6,x.2),(7,vI (56-8*(x.1:Int)))]) (fun x=>Dg 5 1 x.2 x.1 (((SD (Cq n*8)).take x.1).map fun b=>ES b)::own b0 (.cells (OD h rest n) 351)::own b (.cells (OD h rest n) e)::H) (fun x=>8-x.1) (fun x D hp=>?_) (0,zN) zD) ⟨E,E,?_,E,E,zT⟩
 rotate_left
 have e1:((119-(n:Int)%64)%64)=(Ln n:Int):=by unfold Ln;omega
 rw[←e1]
 rfl
 obtain⟨i,v⟩:=x
 simp only at hp
 refine AG (V (J E (Z E LT (U ?_))))
 refine Ax E (fun hc2=>?_) (fun hc2=>?_)
 have hi:i<8:=by simp at hc2;omega
 have e1:(56-8*(i:Int))=((56-8*i:Nat):Int):=zO
 refine AI (AH (AG (AM (AN (J E (J E (J E ?_)))))))
 refine gt E E (congrArg (fun z=>some (vI z)) e1) (Fd.shr64 (n:=56-8*i)) ?_
 refine BG E E (FU Da DS) ?_
 refine CD [_] E Cb Jx Ki ⟨E,zT⟩ E E E zX E E zU fun b1=>?_
 refine Um 1 E (m:=1) (news:=[ES (shr64 (Cq n*8) (56-8*i)).toUInt8]) Cb Jx Vq Ki E zD E E E E (Ah 0 E) (by simp[Value.oneCell']) zO zO zU fun v'=>?_
 refine O E (AY (Aj (AH (AN (J E (Z E (EF zO zO) (O E (AY ?_))))))))
 refine Au (i+1,v') (by simp only;omega) (by simp only;omega) ⟨E,E,E,E,?_,zT⟩ (fun w hw=>by
  simp only
  rw[fQ _ _ hi,List.map_append]
  exact hw.skip [_])
 have e2:(56-8*((i+1:Nat):Int))=56-8*(i:Int)-8:=zO
 simp only[e2]
 rfl
 have hi:i=8:=by simp at hc2;omega
 subst hi
 refine A1 (A6 (Ba (A7 (AH (AG (Av DH [0] (CA [(true,0),(true,3),(true,4),(false,1),(true,2),(true,5)] (.last 6 .nil)) zK (J E (J E ?_))))))))
 refine XY (s:=SD (Cq n*8)) 0 E Cb DS Cj E E ?_
 refine BP 0 SU (NX (Ln n) (by unfold Ln;omega)) E ⟨⟨0,E⟩,zT⟩ (Z E (Ff (by simp[Ln];omega)) (Z E (Ff (by simp[Ln,SD];omega)) (BY (SL.pick [1] 2 (AP 1 iZ (U0 T h rest (LR n) n b0 351 hT hTl zO (by simp[LR,Ln,SD];omega)) E (U (V (AE E Ya (AP 1 qQ (aj (EJ T h (rest++LR n)).1 [vS (EJ T h (rest++LR n)).2,vI n] b0 351) E (O E (U (AJ ?_))))))))))))
 exact Ae (C1 E E) (Ad (M:=[_]) ⟨E,E⟩ fun _ h=>h.skip [_])
theorem fX(hF:TU K w0 1 D5.list):zC K w0 256 [] [] H (fun r M=>∃b,r=vP b 0∧M=[own b (.cells (OD D5 [] 0) 351)]):=by
 refine T3.enter Tryz.func256 rfl rfl ?_
 refine V (O E (U (V ?_)))
 refine Ap (ad:=⟨1,0,none⟩) (D5.list.map Y) E rM E E (fun w hw j u hu=>by
  rw[Ci,Nat.zero_add]
  rw[List.getElem?_map]at hu
  cases hx:D5.list[j]? with
  | none=>rw[hx]at hu;cases hu
  | some x=>
   rw[hx]at hu
   obtain rfl:=zI hu
   exact PE (ad:=⟨1,j,none⟩) hF.keep (hF.cell j x hx) w hw) ?_
 refine B5 [_] E sx se nl ⟨E,zT⟩ E ?_
 refine Bc E E zU fun b0=>?_
 refine O E (U (AJ ?_))
 exact Ae (C1 E E) (Ad (M:=[_]) ⟨b0,E,E⟩ fun _ h=>h)
theorem UD(T:List UInt32)(v:Value)(ls:List (List UInt8))(hT:TU K w0 3 T)(hTl:T.length=64)(hF:TU K w0 1 D5.list)(hk:B6 K w0 Tq 1 v ls)(hn:ls.flatten.length≤1099511627776)(hl:ls.length≤1099511627776):zC K w0 230 [v] [] H (fun r M=>r=vS (NE T ls.flatten)∧M=[]):=by
 refine T3.enter Tryz.func230 rfl rfl ?_
 refine V (O E (U (V (BO 0 qF (fX hF) E ?_))))
 rintro _ _ ⟨b0,rfl,rfl⟩
 refine O E (U (AG (V (J E (B3 hk E El E (J E (U (AM ?_))))))))
 have h0:EJ T D5 (ls.take 0).flatten=(D5,[]):=P8 zS
 refine SX.heap (H':=own b0 (.cells (OD (EJ T D5 (ls.take 0).flatten).1 (EJ T D5 (ls.take 0).flatten).2 ((ls.take 0).flatten.length:Nat)) 351)::H) ?_ (fun w hw=>by rw[h0];exact hw)
 refine SX.mono (BF (α:=Nat) (fun i=>i≤ls.length) (fun i=>[(3,vP b0 0),(7,v),(8,vI ls.length),(9,vI i)]) (fun i=>own b0 (.cells (OD (EJ T D5 (ls.take i).flatten).1 (EJ T D5 (ls.take i).flatten).2 ((ls.take i).flatten.length:Nat)) 351)::H) (fun i=>ls.length-i) (fun i D hp=>?_) 0 (Nat.zero_le _)) tL
 refine V (Z E A8 (U (AG ?_)))
 refine Ax E (fun hc1=>?_) (fun hc1=>?_)
 have hlt:i<ls.length:=by simpa using hc1
 obtain⟨s,hs⟩:=PS hlt
 have hts:=(FH hs).2
 have hfl:(ls.take (i+1)).flatten=(ls.take i).flatten++s:=by rw[hts];simp
 have hle:(ls.take (i+1)).flatten.length≤1099511627776:=by
  have:ls.flatten=(ls.take (i+1)).flatten++(ls.drop (i+1)).flatten:=by rw[←List.flatten_append,List.take_append_drop]
  rw[this]at hn
  simp only[List.length_append]at hn
  omega
 rw[hfl,List.length_append]at hle
 refine AI (AH (AG (AM (V ?_))))
 refine Qu i s hk E El HS E E E hs fun be off hcell=>?_
 refine Bk E Gd E (fun w hw=>hcell _ w hw 0 _ E) ?_
 refine O E (U (V (J E (J E (AP 1 iZ (U0 T _ _ s _ b0 351 hT hTl (aI T D5 _) zO) E (U (AN (J E (AQ E E (AE E VO (AF 0 FJ E ?_)))))))))))
 refine J E (Bw E Cj E (Z E (Bf zO zO) (AQ E E (AE E VO (A5 0 E E E E OT E E E zT (AY (Aj (AH (AN (Z E (Bf zO zO) (J E (AY ?_))))))))))))
 refine Au (i+1) hlt zO tL (fun w hw=>by
  rw[hfl,SC T D5 (ls.take i).flatten s,List.length_append]
  exact hw)
 have hi:i=ls.length:=by simp at hc1;omega
 have ht:ls.take i=ls:=by rw[hi];exact List.take_length
 rw[ht]
 refine A1 (A6 (Ba (A7 (AH (V (J E (AP 1 qG (ai T _ _ ls.flatten.length b0 351 hT hTl (Vm T D5 ls.flatten) hn) E (O E (U (AJ ?_))))))))))
 exact Ae (C1 E E) (Ad (M:=[]) ⟨by unfold NE;rw[SC T D5 ls.flatten],E⟩ fun _ h=>h.skip [_])
theorem fY(T:List UInt32)(s:List UInt8)(hT:TU K w0 3 T)(hTl:T.length=64)(hF:TU K w0 1 D5.list)(hn:s.length≤1099511627776):zC K w0 259 [vS s] [] H (fun r M=>r=vS (NE T s)∧M=[]):=by
 refine T3.enter Tryz.func259 rfl rfl ?_
 refine V (O E (U (V (J E ?_))))
 refine CD [_] E El HS Ta ⟨E,zT⟩ E E E zX E E zU fun b0=>?_
 refine Bg (vs:=[_]) (Hin:=[_]) E E ⟨E,zT⟩ bD E E (Co (B:=[own b0 (.cells #[vS s] 9)]) (Hin:=[]) fun K' w1 hk hB=>(UD T _ [s] (hT.keeps hk) hTl (hF.keeps hk) (B6.lent (enc:=Tq) (sz:=1) (xs:=[s]) zV (Nat.le_refl 1) E (hB _ (List.mem_cons_self ..))) (by simpa using hn) zS)) ?_
 rintro _ _ ⟨M',rfl,rfl,rfl⟩
 refine⟨trivial,?_⟩
 refine O E (U (AJ ?_))
 exact Ae (C1 E E) (Ad (M:=[]) ⟨by simp,E⟩ fun _ h=>h.skip [_])
end

section
variable {K:Nat→Prop}{w0:World}{H:List AV}
structure Ge(K:Nat→Prop)(w0:World)(T:List UInt32):Prop where
 tab:TU K w0 3 T
 len:T.length=64
 first:TU K w0 1 D5.list
theorem Ge.keeps{T:List UInt32}{K':Nat→Prop}{w1:World}(h:Ge K w0 T)(hk:XU K w0 K' w1):Ge K' w1 T:=⟨h.tab.keeps hk,h.len,h.first.keeps hk⟩
theorem Tt(ls:List (List UInt8)):ls.flatMap Tq=ls.map vS:=by
 induction ls with
 | nil=>rfl
 | cons s r ih=>rw[List.flatMap_cons,ih];rfl
theorem ZL(k:List UInt8)(n i:Nat):(k++List.replicate n 0).getD i 0=k.getD i 0:=by
 simp only[List.getD_eq_getElem?_getD]
 rcases Nat.lt_or_ge i k.length with h | h
 rw[List.getElem?_append_left h]
 rw[List.getElem?_append_right h,List.getElem?_eq_none h]
 rw[List.getElem?_replicate]
 split<;>rfl
theorem dU(T:List UInt32)(v:Value)(ls:List (List UInt8))(hT:Ge K w0 T)(hn:ls.flatten.length≤1099511627776)(hl:ls.length≤1099511627776):zC K w0 230 [v] [Dg 9 1 v ls.length (ls.flatMap Tq)] H (fun r M=>r=vS (NE T ls.flatten)∧M=[Dg 9 1 v ls.length (ls.flatMap Tq)]):=by
 intro w hw
 have h1:=Co (P:=Tryz.prog) (K:=K) (w0:=w0) (f:=230) (args:=[v]) (H:=H) (B:=[Dg 9 1 v ls.length (ls.flatMap Tq)]) (Hin:=[]) (post:=fun r M=>r=vS (NE T ls.flatten)∧M=[]) (fun K' w1 hk hB=>UD T v ls (hT.keeps hk).tab hT.len (hT.keeps hk).first (dH zV (hB _ (List.mem_cons_self ..))) hn hl) w hw
 refine h1.mono ?_
 rintro e w' ⟨r,M,rfl,⟨M',rfl,hr,rfl⟩,hw'⟩
 exact⟨r,_,rfl,⟨hr,rfl⟩,hw'⟩
theorem dT(T:List UInt32)(b:Nat)(ls:List (List UInt8))(hT:Ge K w0 T)(hn:ls.flatten.length≤1099511627776)(hl:ls.length≤1099511627776):zC K w0 230 [.slice (some ⟨b,0,none⟩) ls.length ls.length] [own b (.cells (Db vS ls) 9)] H (fun r M=>r=vS (NE T ls.flatten)∧M=[own b (.cells (Db vS ls) 9)]):=by
 intro w hw
 have h1:=Co (P:=Tryz.prog) (K:=K) (w0:=w0) (f:=230) (args:=[.slice (some ⟨b,0,none⟩) ls.length ls.length]) (H:=H) (B:=[own b (.cells (Db vS ls) 9)]) (Hin:=[]) (post:=fun r M=>r=vS (NE T ls.flatten)∧M=[]) (fun K' w1 hk hB=>UD T _ ls (hT.keeps hk).tab hT.len (hT.keeps hk).first (B6.lent (enc:=Tq) (sz:=1) zV (Nat.le_refl _) (by rw[Tt,WW];exact List.take_of_length_le zS) (hB _ (List.mem_cons_self ..))) hn hl) w hw
 refine h1.mono ?_
 rintro e w' ⟨r,M,rfl,⟨M',rfl,hr,rfl⟩,hw'⟩
 exact⟨r,_,rfl,⟨hr,rfl⟩,hw'⟩
theorem WY(T:List UInt32)(key:List UInt8)(c:UInt8)(hT:Ge K w0 T)(hn:key.length≤549755813888):zC K w0 231 [vS key,ES c] [] H (fun r M=>r=vS (F8 T key c)∧M=[]):=by
 refine T3.enter Tryz.func231 rfl rfl ?_
 refine V (O E (U ?_))
 refine Xe (α:=Unit) (fun _=>True) (fun _=>[(0,vS (FY T key)),(1,ES c)]) (fun _=>H) ?_ (fun x hx=>?_)
 refine V (J E (Bw E Cj E (Z E Cu (U ?_))))
 refine Ax E (fun hc1=>?_) (fun hc1=>?_)
 refine AN (J rfl (AP 0 qH (fY T key hT.tab hT.len hT.first zO) rfl (O rfl (AY ?_))))
 have hk:FY T key=NE T key:=by unfold FY;rw[if_pos (by simp at hc1;omega)]
 exact TG () zT (by rw[hk];exact⟨E,E,zT⟩)
 refine AI ?_
 have hk:FY T key=key:=by unfold FY;rw[if_neg (by simp at hc1;omega)]
 exact TG () zT (by rw[hk];exact⟨E,E,zT⟩)
 
 have hkl:=V0 T key
 refine V (J E (J E (Bw E Cj E (Z E (EF zO zO) ?_))))
 refine Bg (vs:=[_,_]) (Hin:=[]) E E ⟨E,E,zT⟩ SU (by rw[show(64-(((FY T key).length:Nat):Int))=((64-(FY T key).length:Nat):Int) by omega];rfl) E (NX (64-(FY T key).length) zO) ?_
 rintro _ _ ⟨rfl,rfl⟩
 refine⟨trivial,?_⟩
 refine Z E (Ff zQ) (O E (U (V ?_)))
 refine Al E Y5 zU fun b0=>?_
 refine U (AG (V (J E (U (AM (Iz 5 1 (SX.pick [1,0] 2 ?_)))))))
 refine SX.mono (BF (α:=Nat×Value×Value) (fun x=>x.1≤64∧O7 b0 x.2.1) (fun x=>[(0,vS (FY T key++List.replicate (64-(FY T key).length) 0)),(1,ES c),(5,vP b0 0),(18,vI x.1)]) (fun x=>own b0 (.cells #[x.2.1,x.2.2] 161)::Dg 5 1 x.2.2 x.1 (((F8 T key c).take x.1).map fun b=>ES b)::H) (fun x=>64-x.1) (fun x D hp=>?_) (0,.pointer none,zN) ⟨by decide,.inl E⟩) tL
 obtain⟨i,p,v⟩:=x
 obtain⟨hp,hadr⟩:=hp
 simp only at hp hadr
 refine V (Z E A8 (U (AG ?_)))
 refine Ax E (fun hc2=>?_) (fun hc2=>?_)
 have hi:i<64:=by simp at hc2;omega
 refine AI (AH (AG (AM (V (J E (O E (U (AN (J E (J E (Kk i E Cj E E zO zQ (J E (Z E TB (BO 2 XK (Of 161 b0 p v i _ _ hadr RN zO) E ?_))))))))))))))
 rintro _ _ ⟨rfl,v',rfl⟩
 refine AY (Aj (AH (AN (Z E (Bf zO zO) (J E (AY ?_))))))
 refine Au (i+1,vP b0 0,v') ⟨by simp only;omega,.inr E⟩ (by simp only;omega) tL (fun w hw=>by
  have e1:(F8 T key c).take (i+1)=(F8 T key c).take i++[(FY T key++List.replicate (64-(FY T key).length) 0).getD i 0 ^^^ c]:=by
   rw[List.take_add_one,ZL]
   simp[F8,hi]
  simp only
  rw[e1,List.map_append]
  exact hw)
 have hi:i=64:=by simp at hc2;omega
 subst hi
 have ht:(F8 T key c).take 64=F8 T key c:=List.take_of_length_le (by rw[Lo];omega)
 rw[ht]
 refine A1 (A6 (Ba (A7 (AH (V (AP 2 QE (Jj 161 b0 p v 64 (F8 T key c) zO) E (O E (U (AJ ?_)))))))))
 exact Ae (C1 E E) (Ad (M:=[]) ⟨E,E⟩ fun _ h=>h.skip [_,_])
theorem Xr(T:List UInt32)(key:List UInt8)(ls:List (List UInt8))(bs:Nat)(hT:Ge K w0 T)(hn:key.length≤549755813888)(hls:ls.flatten.length≤549755813888)(hl:ls.length≤549755813888):zC K w0 199 [vS key,.slice (some ⟨bs,0,none⟩) ls.length ls.length] [own bs (.cells (Db vS ls) 9)] H (fun r M=>r=vS (Rn T key ls.flatten)∧M=[]):=by
 refine T3.enter Tryz.func199 rfl rfl ?_
 refine V (O E (U (V (J E (AP 0 iU (WY T key 54 hT hn) E ?_)))))
 refine CD [_] E El HS Ta ⟨E,zT⟩ E E E zX E E zU fun b0=>?_
 refine J E ?_
 refine SL.heap (H':=Dg 9 1 (.slice (some ⟨b0,0,none⟩) 1 1) 1 [vS (F8 T key 54)]::own bs (.cells (Db vS ls) 9)::H) ?_ (fun w hw=>aA hw E (Nat.le_refl 1) zD)
 refine Um 0 rfl (m:=ls.length) (news:=ls.map vS) El HS oJ Ta rfl zD rfl rfl rfl zS (Ah 1 rfl) (by intro u hu;obtain⟨x,_,rfl⟩:=List.mem_map.1 hu;rfl) zO zO zU fun v'=>?_
 have e1:Dg 9 1 v' (1+ls.length) ([vS (F8 T key 54)]++ls.map vS)=Dg 9 1 v' (F8 T key 54::ls).length ((F8 T key 54::ls).flatMap Tq):=by
  rw[Tt,List.length_cons,Nat.add_comm];rfl
 rw[e1]
 refine AP 1 bD (dU T v' (F8 T key 54::ls) hT (by simp only[List.flatten_cons,List.length_append,Lo];omega) (by simp only[List.length_cons];omega)) E (O E (U (V (J E (AP 0 iU (WY T key 92 hT hn) E (J E ?_))))))
 refine CD [_,_] E El HS Ta ⟨E,E,zT⟩ E E E zX E E zU fun b1=>?_
 refine AP 1 bD (dT T b1 [F8 T key 92,NE T (F8 T key 54::ls).flatten] hT (by simp[Lo,JK]) zS) E (O E (U (AJ ?_)))
 exact Ae (C1 E E) (Ad (M:=[]) ⟨by simp[Rn],E⟩ fun _ h=>h.skip [_,_,_])
theorem W8(T:List UInt32)(key label:List UInt8)(bk bl:Nat)(hT:Ge K w0 T)(hn:key.length≤549755813888)(hl:label.length≤274877906944):k8 Tryz.prog K w0 273 [vP bk 0,vP bl 0] [own bl (.cells #[vS label] 9),own bk (.cells #[vS key] 9)] Tq (U7 T key label):=by
 intro lp J9 X T1 hy G h0
 refine T3.enter Tryz.func273 rfl rfl ?_
 refine V (O E (U (V (O E (U (AM ?_))))))
 refine SX.mono (BF (α:=Nat×List AV) (fun x=>x.1≤255∧J9 ((U7 T key label).take x.1) x.2) (fun x=>[(0,vY lp),(1,vP bk 0),(2,vP bl 0),(4,vS (Qh T key label x.1)),(5,vI (x.1+1:Nat))]) (fun x=>own bl (.cells #[vS label] 9)::own bk (.cells #[vS key] 9)::(x.2++T1)) (fun x=>255-x.1) (fun x D hp=>?_) (0,G) ⟨by simp,h0⟩) tL
 obtain⟨i,G⟩:=x
 obtain⟨hi,hJ⟩:=hp
 simp only at hi hJ
 refine AG (V (J E (Z E JN (U ?_))))
 refine Ax E (fun hc1=>?_) (fun hc1=>?_)
 have hlt:i<255:=by simp at hc1;omega
 have hg:=Za T key label i hlt
 have hel:=bM T key label i
 refine AI (AH (AG (AM (V (AF 1 Gd E (J E (AF 0 Gd E (J E (BG E E (Qr Jg DS) ?_)))))))))
 refine CD [_] E Cb Jx Ki ⟨E,zT⟩ E E E zX E E zU fun b0=>?_
 refine TC [_] E Cb DS Cj E E (Ah 0 E) ?_
 refine CD [_,_,_] E El HS Ta ⟨E,E,E,zT⟩ E E E zX E E zU fun b1=>?_
 refine AP 1 iN (Xr T key [Qh T key label i,label,[Ip ((i+1:Nat):Int)]] _ hT hn zQ zS) E (O E (U (V (J E (J E ?_)))))
 have e1:Rn T key [Qh T key label i,label,[Ip ((i+1:Nat):Int)]].flatten=Qh T key label (i+1):=by simp[Qh]
 rw[e1]
 refine HK (M2:=[_,_,_]) (G:=G) (T:=T1) (vs:=[_]) (ok:=fun G1=>J9 ((U7 T key label).take (i+1)) G1) (no:=X) E E ⟨E,zT⟩ E ?_ (fun bb G1 hG1=>⟨zT,?_⟩)
 intro M
 have:=hy _ _ _ (FH hg).1 G hJ M
 rw[←(FH hg).2]at this
 exact this
 refine CT E E (U ?_)
 refine Ax E (fun hc2=>?_) (fun hc2=>?_)
 obtain rfl:bb=false:=by simpa using hc2
 refine AJ (BC (Ab (EB (BC ?_))))
 exact Ae (Dr E) (Ad (M:=G1) (.inr hG1) fun _ h=>h.skip [_,_,_])
 obtain rfl:bb=true:=by simpa using hc2
 refine AI (Aj (AH (AN (J E (Z E (Bf zO zO) (O E (AY ?_)))))))
 exact Au (i+1,G1) ⟨hlt,hG1⟩ (by simp only;omega) tL (fun w hw=>hw.skip [_])
 refine A1 (A6 (Ba (A7 ?_)))
 have hle:i=255:=by simp at hc1;omega
 exact DF (Dr E) (Ad (M:=G) (.inl (by rw[List.take_of_length_le (by rw[U8];omega)]at hJ;exact hJ)) fun _ h=>h.skip [_,_])
theorem Wz(key label:List UInt8):zC K w0 253 [vS key,vS label] [] H (fun r M=>∃bk bl,r=.func (.func 273) #[] #[vP bk 0,vP bl 0]∧M=[own bl (.cells #[vS label] 9),own bk (.cells #[vS key] 9)]):=by
 refine T3.enter Tryz.func253 rfl rfl ?_
 refine V ?_
 refine Bc E E zU fun b0=>?_
 refine Bc E E zU fun b1=>?_
 refine O E (U (V ?_))
 refine GZ (fv:=#[]) (cv:=#[_,_]) E E E ?_
 refine O E (U (AJ ?_))
 exact Ae (C1 E E) (Ad (M:=[_,_]) ⟨b0,b1,E,E⟩ fun _ h=>h)
theorem Te(T:List UInt32)(key label:List UInt8)(hT:Ge K w0 T)(hn:key.length≤549755813888)(hl:label.length≤274877906944):zC K w0 226 [vS key,vS label,vI 32] [] H (fun r M=>r=.tuple #[vS (Ga T key label),vI 0]∧M=[]):=by
 refine T3.enter Tryz.func226 rfl rfl ?_
 refine V ?_
 refine Bc E E zU fun b0=>?_
 refine O E (O E (U (Km (AG (V (AF 0 FJ E (Z E A8 (J E ?_))))))))
 refine Eg (c:=decide ((8160:Int)<32)) 12 3 15 E (fun hb k=>?_) (fun hb k=>?_) ?_
 refine AC E (AC E (Ag E E E ?_))
 exact k.mono tL
 refine AF 0 FJ E (Z E Cu (Ag E E E ?_))
 exact k.mono tL
 refine U ?_
 refine Ax E (fun hc1=>absurd hc1 zD) (fun hc1=>?_)
 refine AI (AH (V ?_))
 refine Al E Y5 zU fun b1=>?_
 refine U (AG (Kl (AH (AG (V (J E (J E (BO 0 qD (Wz key label) E ?_))))))))
 rintro _ _ ⟨bk,bl,rfl,rfl⟩
 refine U (Iz 5 1 (SX.pick [1,2,3,0,4] 5 (AM ?_)))
 refine TH (enc:=Tq) (U7 T key label) (fun pre G=>pre.length≤1∧∃p v,O7 b1 p∧G=own b1 (.cells #[p,v] 161)::Dg 5 1 v pre.flatten.length (pre.flatten.map fun b=>ES b)::own b0 (.cells #[vI 32] 3)::H) (fun c G=>c=.exit 0∧∃p v,O7 b1 p∧G=own b1 (.cells #[p,v] 161)::Dg 5 1 v 32 ((Ga T key label).map fun b=>ES b)::own b0 (.cells #[vI 32] 3)::H) E qN E zV (W8 T key label bk bl hT hn hl) E ⟨Nat.zero_le _,_,_,.inl E,E⟩ (fun pre x suf G hxs hJ r lp Rest=>?_) (fun G D hJ=>?_) (fun c G D hX=>?_)
 obtain⟨hpl,p,v,hadr,rfl⟩:=hJ
 have hx0:(U7 T key label)[0]? = some (Ga T key label):=by rw[Za T key label 0 zD,jn]
 have he:(Ga T key label).length=32:=H6 ..
 refine AN (O E (AY (Jz (AM (AG (AG (Av DH [2] (C7 [(true,1),(false,0),(true,2)]) zK (AF 0 FJ E (BP 2 bG (aR 161 b1 p v _ _) E ⟨⟨2,E⟩,zT⟩ (Z E LT (U ?_)))))))))))
 refine Ax E (fun hc2=>?_) (fun hc2=>?_)
 have hpre:pre=[Ga T key label]:=by
  match pre,hpl with
  | [],_=>simp at hc2
  | [y],_=>rw[hxs]at hx0;simpa using hx0
 subst hpre
 refine A1 (A6 (Hf ?_))
 refine N2 (G:=own b1 (.cells #[p,v] 161)::Dg 5 1 v 32 ((Ga T key label).map fun b=>ES b)::own b0 (.cells #[vI 32] 3)::H) ⟨E,p,v,hadr,E⟩ (fun w hw=>?_)
 have e1:[Ga T key label].flatten=Ga T key label:=by simp
 rw[e1,he]at hw
 exact hw
 have hpre:pre=[]:=by
  match pre,hpl with
  | [],_=>rfl
  | [y],_=>
   rw[hxs]at hx0
   obtain rfl:y=Ga T key label:=by simpa using hx0
   simp[he]at hc2
 subst hpre
 obtain rfl:x=Ga T key label:=by rw[hxs]at hx0;simpa using hx0
 refine AI (AH (AN (J E (BO 2 SV (Gy 161 b1 p v _ _ (Ga T key label) hadr RN (by simp[he])) E ?_))))
 rintro _ _ ⟨rfl,v',rfl⟩
 refine AY (Aj ?_)
 refine Hg (G:=own b1 (.cells #[vP b1 0,v'] 161)::Dg 5 1 v' ([]++[Ga T key label]).flatten.length (([]++[Ga T key label]).flatten.map fun b=>ES b)::own b0 (.cells #[vI 32] 3)::H) ⟨by simp,_,v',.inr E,E⟩ (fun w hw=>?_)
 have e1:([]++[Ga T key label]).flatten=Ga T key label:=by simp
 rw[e1]
 simpa using hw
 exact absurd hJ.1 (by rw[U8];omega)
 obtain⟨rfl,p,v,hadr,rfl⟩:=hX
 have he:(Ga T key label).length=32:=H6 ..
 refine A1 (A7 (AH (AG (Av DH [2] (C7 [(true,1),(false,0),(true,2),(true,3),(true,4)]) zK (AF 0 FJ E (BP 2 QE (Jj 161 b1 p v 32 (Ga T key label) zO) E ⟨⟨2,E⟩,zT⟩ (R9 32 E Cj E E zO zO (O E (O E (U (AJ (Eb ?_))))))))))))
 exact Ae (Ef E E E) (Ad (M:=[]) ⟨by rw[List.take_of_length_le zO],E⟩ fun _ h=>h.skip [_,_,_])
end

section
variable {K:Nat→Prop}{w0:World}{H:List AV}
theorem aV(T:List UInt32)(k:BI)(hT:Ge K w0 T):zC K w0 195 [.agg (AX k).toArray] [] H (fun r M=>r=(if Dm [k]=true then .tuple #[vS (Pe T k Nn),vS (Pe T k OG),vI 0]else .tuple #[vS [],vS [],vI 40])∧M=[]):=by
 refine T3.enter Tryz.func195 rfl rfl ?_
 refine V ?_
 refine Bc E E zU fun b0=>?_
 refine O E (O E (O E (U (AG (V (Ap (AX k) E OY E E (Ah 0 E) ?_))))))
 refine CD [_] E Gj HT NN ⟨E,zT⟩ E E E (by simp[Value.cells,AX]) E E zU fun b1=>?_
 refine Bg (vs:=[_]) (Hin:=[_]) E E ⟨E,zT⟩ fi E E (Co (B:=[own b1 (.cells (AX k).toArray 55)]) (Hin:=[]) fun K' w1 hk hB=>QC _ [k] (B6.lent (enc:=AX) (sz:=2) (xs:=[k]) zV (Nat.le_refl 1) E (hB _ (List.mem_cons_self ..))) E zS) ?_
 rintro _ _ ⟨M',rfl,rfl,rfl⟩
 refine⟨trivial,?_⟩
 refine CT E E (U ?_)
 refine Ax E (fun hc1=>?_) (fun hc1=>?_)
 have hr:Dm [k]=false:=by simpa using hc1
 refine V (O E (O E (O E (U (AJ (Ab ?_))))))
 exact Ae (Ym E E E E) (Ad (M:=[]) ⟨by rw[hr];rfl,E⟩ fun _ h=>h.skip [_,_])
 have hr:Dm [k]=true:=by simpa using hc1
 have hkl:=Wp hr
 refine AI (AH (V (AE E HQ (AF 1 A2 E (BG E E (DB CP DS) (AE E HQ (AF 1 A2 E ?_)))))))
 refine Z E (Fd.shr32 (n:=8)) ?_
 refine BG E E (DB CP DS) (AE E HQ (AF 1 A2 E ?_))
 refine Z E (Fd.shr32 (n:=16)) ?_
 refine BG E E (DB CP DS) (AE E HQ (AF 1 A2 E ?_))
 refine Z E (Fd.shr32 (n:=24)) ?_
 refine BG E E (DB CP DS) ?_
 refine CD [_,_,_,_] E Cb Jx Ki ⟨E,E,E,E,zT⟩ E E E zX E E zU fun b2=>?_
 refine TC [_,_,_,_] E Cb DS Cj E E (Ah 0 E) (O E (U (V (AE E TN (AF 2 Gd E (J E ?_))))))
 refine Z E (Ff (s:=Nn) (t:=F7 k.gen) (by simp[F7,Nn])) ?_
 refine AP 0 iT (Te T k.secret (Nn++F7 k.gen) hT zO (by simp[F7,Nn])) E (J E (Ac E E E (Ac E E E (O E (O E (U (V (AE E TN (AF 2 Gd E ?_)))))))))
 refine J E ?_
 refine Z E (Ff (s:=OG) (t:=F7 k.gen) (by simp[F7,OG])) ?_
 refine AP 0 iT (Te T k.secret (OG++F7 k.gen) hT zO (by simp[F7,OG])) E (J E (Ac E E E (Ac E E E (O E (O E (U (V (J E (J E ?_)))))))))
 refine O E (O E (O E (U (AJ ?_))))
 exact Ae (Ym E E E E) (Ad (M:=[]) ⟨by rw[hr];rfl,E⟩ fun _ h=>h.skip [_,_,_])
theorem fU(s:List UInt8)(hn:s.length≤9223372036854775807):zC K w0 194 [vS s] [] H (fun r M=>r=(if 198<s.length then .tuple #[vS [],vI 50]else .tuple #[vS (Kc s),vI 0])∧M=[]):=by
 refine T3.enter Tryz.func194 rfl rfl ?_
 refine V (O E (O E (U (AG (V (J E (Bw E Cj E (Z E Cu (U ?_)))))))))
 refine Ax E (fun hc1=>?_) (fun hc1=>?_)
 have h0:198<s.length:=by simp at hc1;omega
 refine V (O E (O E (U (AJ (Ab ?_)))))
 exact Ae (Ef E E E) (Ad (M:=[]) ⟨by rw[if_pos h0],E⟩ fun _ h=>h.skip [])
 have h0:¬198<s.length:=by simp at hc1;omega
 have e1:(198-(s.length:Int))=((198-s.length:Nat):Int):=zO
 refine AI (AH (AG (Av DH [] (CA [(true,0),(true,1),(true,2),(true,3),(true,4),(true,5),(true,6),(true,9),(true,11),(true,12),(true,13)] (.alt 7 (.alt 8 (C7 [(true,10),(false,14),(true,15),(true,16),(true,17)]) (.cons (false,14) (C7 [(false,8),(true,10),(true,15),(true,16),(true,17)]))) (.cons (false,14) (C7 [(false,7),(false,8),(true,10),(true,15),(true,16),(true,17)])))) zK (J E (Bw E Cj E ?_)))))
 refine Z E (jS (n:=8) zO zO) ?_
 refine BG E E (Qr Jg DS) (J E (Bw E Cj E (BG E E (Qr Jg DS) (J E (J E (Bw E Cj E (Z E (EF zO zO) ?_)))))))
 rw[e1]
 refine Po ?_ ?_
 refine CD [_,_] E Cb Jx Ki ⟨E,E,zT⟩ E E E zX E E zU fun b0=>?_
 refine Po ?_ ?_
 refine TC [_,_] E Cb DS Cj E E (Ah 0 E) (Z E (Ff zQ) (AP 0 SU (NX (198-s.length) zO) E (Z E (Ff zQ) (O E (O E (U (AJ ?_)))))))
 exact Ae (Ef E E E) (Ad (M:=[]) ⟨by rw[if_neg h0];rfl,E⟩ fun _ h=>h.skip [_])
 refine AP 0 SU (NX (198-s.length) zO) E (TC [_,_] E Cb DS Cj E E (Ah 0 E) (Z E (Ff zQ) (Z E (Ff zQ) (O E (O E (U (AJ ?_)))))))
 exact Ae (Ef E E E) (Ad (M:=[]) ⟨by rw[if_neg h0];rfl,E⟩ fun _ h=>h.skip [_])
 refine AP 0 SU (NX (198-s.length) zO) E ?_
 refine CD [_,_] E Cb Jx Ki ⟨E,E,zT⟩ E E E zX E E zU fun b0=>?_
 refine TC [_,_] E Cb DS Cj E E (Ah 0 E) (Z E (Ff zQ) (Z E (Ff zQ) (O E (O E (U (AJ ?_))))))
 exact Ae (Ef E E E) (Ad (M:=[]) ⟨by rw[if_neg h0];rfl,E⟩ fun _ h=>h.skip [_])
end

section
variable {K:Nat→Prop}{w0:World}{H:List AV}
def q9(x:UInt32):List Value:=[Y x]
theorem ci{s:List UInt8}{j:Nat}(h:j<s.length / 4):(CX s)[j]? = some (KF s (4*j)):=by simp[CX,h]
theorem dL(s:List UInt8)(hs:4≤s.length):zC K w0 284 [vS s] [] H (fun r M=>r=Y (KF s 0)∧M=[]):=by
 refine T3.enter Tryz.func284 rfl rfl ?_
 refine V (O E (U (AG (Av DH [] (C7 [(true,0),(true,1),(true,2),(true,3),(true,4),(true,5),(true,6),(true,7),(true,8),(true,9),(true,10),(true,11),(true,12),(true,13),(true,14),(true,15),(true,16),(true,17),(true,18)]) zK (J E (Kk 0 E Cj E E zO zO (BG E E (FV DS CP) (J E (Kk 1 E Cj E E zO zO (BG E E (FV DS CP) ?_))))))))))
 refine Z E (Fd.shl32 (n:=8)) ?_
 refine Z E E5 (J E (Kk 2 E Cj E E zO zO (BG E E (FV DS CP) ?_)))
 refine Z E (Fd.shl32 (n:=16)) ?_
 refine Z E E5 (J E (Kk 3 E Cj E E zO zO (BG E E (FV DS CP) ?_)))
 refine Z E (Fd.shl32 (n:=24)) ?_
 refine Z E E5 (O E (U (AJ ?_)))
 exact Ae (C1 E E) (Ad (M:=[]) ⟨E,E⟩ fun _ h=>h.skip [])
theorem cE(ls:List (List UInt8))(bl bs:Nat)(hl:ls.length≤549755813888)(hls:∀s∈ls,s.length≤549755813888):k8 Tryz.prog K w0 283 [vP bl 0] [own bl (.cells #[.slice (some ⟨bs,0,none⟩) ls.length ls.length] 98),own bs (.cells (Db vS ls) 9)] q9 (ls.flatMap CX):=by
 intro lp J9 X T1 hy G h0
 refine T3.enter Tryz.func283 rfl rfl ?_
 refine V (AF 0 P7 E (IQ E El E (J E (U (AM ?_)))))
 refine SX.mono (BF (α:=Nat×List AV) (fun x=>x.1≤ls.length∧J9 ((ls.take x.1).flatMap CX) x.2) (fun x=>[(0,vY lp),(5,.slice (some ⟨bs,0,none⟩) ls.length ls.length),(6,vI ls.length),(7,vI x.1)]) (fun x=>own bl (.cells #[.slice (some ⟨bs,0,none⟩) ls.length ls.length] 98)::own bs (.cells (Db vS ls) 9)::(x.2++T1)) (fun x=>ls.length-x.1) (fun x D hp=>?_) (0,G) ⟨Nat.zero_le _,h0⟩) tL
 obtain⟨i,G⟩:=x
 obtain⟨hi,hJ⟩:=hp
 simp only at hi hJ
 refine V (Z E A8 (U (AG ?_)))
 refine Ax E (fun hc1=>?_) (fun hc1=>?_)
 have hlt:i<ls.length:=by simpa using hc1
 obtain⟨s,hs⟩:=PS hlt
 have hsl:=hls s (List.mem_of_getElem? hs)
 have hsplit:=FH hs
 refine AI (AH (AG (AM (V ?_))))
 refine nu (n:=i) E El HS E E zO zO ?_
 refine Bk E Gd E (C3 1 E (E8 hs)) (O E (U (AM ?_)))
 refine SX.mono (BF (α:=Nat×List AV) (fun x=>x.1≤s.length / 4∧J9 ((ls.take i).flatMap CX++(CX s).take x.1) x.2) (fun x=>[(0,vY lp),(4,vS (s.drop (4*x.1))),(5,.slice (some ⟨bs,0,none⟩) ls.length ls.length),(6,vI ls.length),(7,vI i)]) (fun x=>own bl (.cells #[.slice (some ⟨bs,0,none⟩) ls.length ls.length] 98)::own bs (.cells (Db vS ls) 9)::(x.2++T1)) (fun x=>s.length / 4-x.1) (fun x D hp=>?_) (0,G) ⟨Nat.zero_le _,by simpa using hJ⟩) tL
 obtain⟨j,G⟩:=x
 obtain⟨hj,hJ2⟩:=hp
 simp only at hj hJ2
 refine AG (V (J E (Bw E Cj E (Z E LT (U ?_)))))
 refine Ax E (fun hc2=>?_) (fun hc2=>?_)
 have hjlt:j<s.length / 4:=by simp at hc2;omega
 have hw:=ci hjlt
 have hws:=FH hw
 refine AI (AH (AG (AM (V (J E (J E (AP 0 qT (dL (s.drop (4*j)) zQ) E ?_)))))))
 rw[cg,Nat.add_zero]
 refine HK (M2:=[_,_]) (G:=G) (T:=T1) (vs:=[_]) (ok:=fun G1=>J9 ((ls.take i).flatMap CX++(CX s).take (j+1)) G1) (no:=X) E E ⟨E,zT⟩ E ?_ (fun bb G1 hG1=>⟨zT,?_⟩)
 intro M
 have e1:ls.flatMap CX=((ls.take i).flatMap CX++(CX s).take j)++KF s (4*j)::((CX s).drop (j+1)++(ls.drop (i+1)).flatMap CX):=by
  have h1:ls.flatMap CX=(ls.take i).flatMap CX++(CX s++(ls.drop (i+1)).flatMap CX):=by
   rw[←List.flatMap_cons,←List.flatMap_append,←hsplit.1]
  have h2:CX s++(ls.drop (i+1)).flatMap CX=(CX s).take j++KF s (4*j)::((CX s).drop (j+1)++(ls.drop (i+1)).flatMap CX):=by
   rw[←List.cons_append,←List.append_assoc,←hws.1]
  rw[h1,h2,List.append_assoc]
 have:=hy _ _ _ e1 G hJ2 M
 rw[List.append_assoc,←hws.2]at this
 exact this
 refine CT E E (U ?_)
 refine Ax E (fun hc3=>?_) (fun hc3=>?_)
 obtain rfl:bb=false:=by simpa using hc3
 refine AJ (BC (Ab (EB (BC (BC (Ab (EB (BC ?_))))))))
 exact Ae (Dr E) (Ad (M:=G1) (.inr hG1) fun _ h=>h.skip [_,_])
 obtain rfl:bb=true:=by simpa using hc3
 refine AI (Aj (AH (AN (J E (O5 4 E Cj E E zO zQ ?_)))))
 rw[List.drop_drop,show 4*j+4=4*(j+1) by omega]
 refine O E (AY ?_)
 exact Au (j+1,G1) ⟨hjlt,hG1⟩ (by simp only;omega) tL
 have hje:j=s.length / 4:=by simp at hc2;omega
 refine A1 (A6 (Ba (A7 (Aj (AH (AN (Z E (Bf zO zO) (J E (AY ?_)))))))))
 refine Au (i+1,G) ⟨hlt,?_⟩ (by simp only;omega) tL
 simp only
 rw[hsplit.2,List.flatMap_append,List.flatMap_cons,List.flatMap_nil,List.append_nil]
 have ht:(CX s).take j=CX s:=List.take_of_length_le (by rw[ER];omega)
 rw[ht]at hJ2
 exact hJ2
 have hle:i=ls.length:=by simp at hc1;omega
 refine A1 (A6 (Ba (A7 ?_)))
 exact DF (Dr E) (Ad (M:=G) (.inl (by rw[hle,List.take_length]at hJ;exact hJ)) fun _ h=>h.skip [_,_])
theorem aU(ls:List (List UInt8))(bs:Nat):zC K w0 274 [.slice (some ⟨bs,0,none⟩) ls.length ls.length] [own bs (.cells (Db vS ls) 9)] H (fun r M=>∃bl,r=.func (.func 283) #[] #[vP bl 0]∧M=[own bl (.cells #[.slice (some ⟨bs,0,none⟩) ls.length ls.length] 98),own bs (.cells (Db vS ls) 9)]):=by
 refine T3.enter Tryz.func274 rfl rfl ?_
 refine V ?_
 refine Bc E E zU fun b0=>?_
 refine O E (U (V ?_))
 refine GZ (fv:=#[]) (cv:=#[_]) E E E ?_
 refine O E (U (AJ ?_))
 exact Ae (C1 E E) (Ad (M:=[_,_]) ⟨b0,E,E⟩ fun _ h=>h)
theorem aT(key nonce:List UInt8)(counter:UInt32)(hk:key.length=32)(hn:nonce.length=12):zC K w0 254 [vS key,Y counter,vS nonce] [] H (fun r M=>r=.agg (Db Y (Hh key counter nonce))∧M=[]):=by
 refine T3.enter Tryz.func254 rfl rfl ?_
 refine V ?_
 refine Al E ck zU fun b0=>?_
 refine U (Km (V ?_))
 refine Al E ck zU fun b1=>?_
 refine U (V ?_)
 refine Al E ni zU fun b2=>?_
 refine A5 0 E E E E OT E E E zT (U (V (J E (BG E E (DB CP DS) (J E ?_)))))
 refine Z E (Fd.shr32 (n:=8)) ?_
 refine BG E E (DB CP DS) (J E ?_)
 refine Z E (Fd.shr32 (n:=16)) ?_
 refine BG E E (DB CP DS) (J E ?_)
 refine Z E (Fd.shr32 (n:=24)) ?_
 refine BG E E (DB CP DS) ?_
 refine CD [_,_,_,_] E Cb Jx Ki ⟨E,E,E,E,zT⟩ E E E zX E E zU fun b3=>?_
 refine TC [_,_,_,_] E Cb DS Cj E E (Ah 0 E) (O E (U (AG (Kl (AH (AG (V (J E (J E (J E ?_))))))))))
 refine CD [_,_,_,_] E El HS Ta ⟨E,E,E,E,zT⟩ E E E zX E E zU fun b4=>?_
 refine BO 1 qO (aU [KJ,key,F7 counter,nonce] b4) E ?_
 rintro _ _ ⟨bl,rfl,rfl⟩
 refine U ?_
 have hbl:=Mh (counter:=counter) hk hn
 have hfm:[KJ,key,F7 counter,nonce].flatMap CX=Hh key counter nonce:=by simp[Hh,List.flatMap_cons]
 refine AM ?_
 refine TH (enc:=q9) ([KJ,key,F7 counter,nonce].flatMap CX) (fun pre G=>G=own b3 (.cells (Db ES (F7 counter)) 5)::own b2 (.cells #[vI pre.length] 3)::own b1 (.cells (Db Y (pre++List.replicate (16-pre.length) 0)) 342)::own b0 (.cells (Db Y (List.replicate 16 0)) 342)::H) (fun c G=>False) E qS E zV (cE [KJ,key,F7 counter,nonce] bl b4 zS (by simp[hk,hn,KJ,F7])) E E (fun pre x suf G hxs hJ r lp Rest=>?_) (fun G D hJ=>?_) (fun c G D hX=>hX.elim)
 obtain rfl:=hJ
 have hlt:pre.length<16:=by
  rw[hfm]at hxs
  rw[hxs]at hbl
  simp at hbl
  omega
 refine AN (O E (AY (Jz (AM (AG (V (AF 1 FJ E (Z E Bq (U ?_)))))))))
 refine Ax E (fun hc1=>absurd hc1 zQ) (fun hc1=>?_)
 refine AI (AH (V (AF 1 FJ E (J E ?_))))
 refine DC (n:=pre.length) E QS Bd E E zO zO ?_
 refine Up (f:=Y) 2 E E E E Bd E E zQ zT ?_
 rw[TM pre 0 x 16 pre.length rfl hlt]
 refine U (AN (AF 1 FJ E (Z E (Bf zO zO) (A5 1 E E E E OT E E E zT (AY (Aj ?_))))))
 refine Hg (G:=_::_::_::_::H) ?_ (fun _ h=>h)
 have e1:(pre++[x]).length=pre.length+1:=by simp
 rw[e1]
 rfl
 obtain rfl:=hJ
 rw[hfm,hbl]
 have e1:Hh key counter nonce++List.replicate (16-16) 0=Hh key counter nonce:=by simp
 rw[e1]
 refine Aj (AH (V ?_))
 refine Ap ((Hh key counter nonce).map Y) E fK (by simp[hbl]) E (Cw 2 E (fun j u hu=>by simpa[Db]using hu)) ?_
 refine Od 3 E E E E nK (by simp[hbl]) (by simp[Db]) (N3 zV (Hh key counter nonce)) zT ?_
 refine U (AJ (Eb ?_))
 exact Ae (IK E (B9 3 ((Hh key counter nonce).map Y) fK (by simp[hbl]) E E (by simp only[List.drop_zero];exact List.take_of_length_le (by simp[hbl])))) (Ad (M:=[]) ⟨E,E⟩ fun _ h=>h.skip [_,_,_,_])
end

section
variable {K:Nat→Prop}{w0:World}{H:List AV}
theorem jx:∀n:Fin 32,(Cq (n.1:Int) &&& 31).toNat=n.1∧(32-(Cq (n.1:Int) &&& 31)).toNat=32-n.1:=by decide
theorem Zz(x:UInt32)(n:Nat)(h1:n<32):Va x (n:Int)=rl x n:=by
 obtain⟨e1,e2⟩:=jx ⟨n,h1⟩
 simp only at e1 e2
 unfold Va rl
 rw[e1,e2]
theorem kU:∀i,cW i<32 | 0=>(by decide:16<32) | _+1=>(by decide:8<32)
theorem kV:∀i,cX i<32 | 0=>(by decide:12<32) | _+1=>(by decide:7<32)
theorem SF(q:Q4):zC K w0 275 [Y q.a,Y q.b,Y q.c,Y q.d] [] H (fun r M=>r=.agg (Db Y q.quarter.list)∧M=[]):=by
 refine T3.enter Tryz.func275 rfl rfl ?_
 refine V ?_
 refine Al E S8 zU fun b0=>?_
 refine U (AG (V (Un [vI 16,vI 12] E cZ OT gn E ⟨E,E,zT⟩ E E zX (Un [vI 8,vI 7] E cZ OT gn E ⟨E,E,zT⟩ E E zX ?_))))
 refine B5 (r:=#[vI 16,vI 12,vI 8,vI 7]) [_,_] E tA sg tp ⟨E,E,zT⟩ E ?_
 refine J E (U (AM ?_))
 refine SX.mono (BF (α:=Nat) (fun i=>i≤2) (fun i=>[(0,Y (q.steps i).a),(1,Y (q.steps i).b),(2,Y (q.steps i).c),(3,Y (q.steps i).d),(8,vP b0 0),(13,.agg #[vI 16,vI 12,vI 8,vI 7]),(14,vI i)]) (fun i=>own b0 (.cells (Db Y [0,0,0,0]) 365)::H) (fun i=>2-i) (fun i D hp=>?_) 0 zO) tL
 refine V (Z E A8 (U (AG ?_)))
 refine Ax E (fun hc1=>?_) (fun hc1=>?_)
 have hi:i<2:=by simp at hc1;omega
 refine AI (AH (AG (AM (V ?_))))
 refine R8 (i:=i) (c':=#[vI (cW i:Int),vI (cX i:Int)]) rfl tS rO rfl rfl zO zO (by rcases(by omega:i=0∨i=1)with rfl | rfl<;>rfl) ?_
 refine Al E gn zU fun b1=>?_
 refine A5 0 E E E E tP E E E zT (U (V (J E (J E (Z E B1 (O E (U (V (J E (J E (Z E Ck ?_)))))))))))
 refine DC (n:=0) E cZ OT E E zO zO ?_
 refine AF 0 FJ E (AP 0 bF (HV _ (cW i:Int)) E ?_)
 rw[Zz _ _ (kU i)]
 refine O E (U (V (J E (J E (Z E B1 (O E (U (AN (J E (J E (Z E Ck ?_)))))))))))
 refine DC (n:=1) E cZ OT E E zO zO ?_
 refine AF 0 FJ E (AP 0 bF (HV _ (cX i:Int)) E ?_)
 rw[Zz _ _ (kV i)]
 refine O E (AY (Aj (AH (AN (Z E (Bf zO zO) (J E (AY ?_)))))))
 exact Au (i+1) zO zO tL (fun w hw=>hw.skip [_])
 have hi:i=2:=by simp at hc1;omega
 subst hi
 refine A1 (A6 (Ba (A7 (AH (V (J E (J E (J E (J E ?_)))))))))
 refine Un (q.quarter.list.map Y) rfl QT Bd S8 rfl ⟨rfl,rfl,rfl,rfl,trivial⟩ rfl rfl (fun v hv=>by obtain⟨x,_,rfl⟩:=List.mem_map.1 hv;rfl) ?_
 refine Od 0 E E E E WL E E (N3 zV q.quarter.list) zT ?_
 refine U (AJ ?_)
 exact Ae (IK E (B9 0 (q.quarter.list.map Y) fL E E E E)) (Ad (M:=[]) ⟨E,E⟩ fun _ h=>h.skip [_])
theorem Uu(ws:List UInt32)(step:Nat)(b:Nat)(e:TypeId)(hw:ws.length=16)(hs:step≤1):zC K w0 255 [vP b 0,vI step] [own b (.cells (Db Y ws) e)] H (fun r M=>r=.tuple #[]∧M=[own b (.cells (Db Y (Vb ws step)) e)]):=by
 refine T3.enter Tryz.func255 rfl rfl ?_
 refine V (J E (U (AM ?_)))
 refine SX.mono (BF (α:=Nat) (fun i=>i≤4) (fun i=>[(0,vP b 0),(1,vI step),(10,vI i)]) (fun i=>own b (.cells (Db Y (Ds ws step i)) e)::H) (fun i=>4-i) (fun i D hp=>?_) 0 zO) tL
 have hwl:(Ds ws step i).length=16:=(Kf ws step i).trans hw
 refine V (Z E A8 (U (AG ?_)))
 refine Ax E (fun hc1=>?_) (fun hc1=>?_)
 have hi:i<4:=by simp at hc1;omega
 have h16:∀k,k<4→IJ step i k<16:=fun k hk=>by unfold IJ;omega
 refine AI (AH (AG (AM (V (J E (O E (U (V ?_))))))))
 refine Al E to zU fun b0=>?_
 refine U (AG (V (J E (U (AM ?_)))))
 refine SX.mono (BF (α:=Nat) (fun k=>k≤4) (fun k=>[(0,vP b 0),(1,vI step),(4,vI i),(5,vP b0 0),(10,vI i),(13,vI k)]) (fun k=>own b0 (.cells (Db vI (((List.range k).map fun j=>((IJ step i j:Nat):Int))++List.replicate (4-k) 0)) 364)::own b (.cells (Db Y (Ds ws step i)) e)::H) (fun k=>4-k) (fun k D hp=>?_) 0 zO) tL
 refine V (Z E A8 (U (AG ?_)))
 refine Ax E (fun hc2=>?_) (fun hc2=>?_)
 have hk:k<4:=by simp at hc2;omega
 have hks:k*step≤3:=Nat.le_trans (Nat.mul_le_mul_left k hs) zO
 have hks2:((k:Int)*step)=((k*step:Nat):Int):=by simp
 refine AI (AH (AG (AM (V (J E (O E (U (AN (J E (J E (Z E (Ou zO zO) (J E (J E (J E ?_))))))))))))))
 refine Z E (Ou zO zO) (Z E (Bf zO zO) (Z E (Vk zO zO) (Z E (Bf zO zO) ?_)))
 refine DC (n:=k) E WN OT E E zO zO ?_
 refine Up (f:=vI) 0 E E E E OT E E zQ zT ?_
 rw[TM _ _ _ 4 k zS hk]
 refine AY (Aj (AH (AN (Z E (Bf zO zO) (J E (AY ?_))))))
 refine Au (k+1) zO zO tL (fun w hw=>?_)
 have e1:(4*(k:Int)+((i:Int)+(k:Int)*step)%4)=((IJ step i k:Nat):Int):=by simp[IJ]
 simp only[List.range_succ,List.map_append,List.map_cons,List.map_nil]
 rw[e1]at hw
 exact hw
 have hk:k=4:=by simp at hc2;omega
 subst hk
 have hat:((List.range 4).map fun j=>((IJ step i j:Nat):Int))++List.replicate (4-4) 0=[((IJ step i 0:Nat):Int),((IJ step i 1:Nat):Int),((IJ step i 2:Nat):Int),((IJ step i 3:Nat):Int)]:=by rfl
 rw[hat]
 refine A1 (A6 (Ba (A7 (AH ?_))))
 generalize hq:(⟨(Ds ws step i).getD (IJ step i 0) 0,(Ds ws step i).getD (IJ step i 1) 0,(Ds ws step i).getD (IJ step i 2) 0,(Ds ws step i).getD (IJ step i 3) 0⟩:Q4)=q
 refine Xe (α:=Nat) (fun _=>True) (fun x=>[(0,vP b 0),(1,vI step),(5,vP b0 0),(7,vP x 0),(10,vI i)]) (fun x=>own x (.cells (Db Y q.quarter.list) 365)::own b0 (.cells (Db vI [((IJ step i 0:Nat):Int),((IJ step i 1:Nat):Int),((IJ step i 2:Nat):Int),((IJ step i 3:Nat):Int)]) 364)::own b (.cells (Db Y (Ds ws step i)) e)::H) ?_ (fun x hx=>?_)
 refine Av DH [0,1] (CA [(true,0),(true,1),(true,2),(true,3),(true,4),(true,5),(true,6),(true,7),(true,8),(true,9),(true,10),(true,11),(true,12),(true,13),(true,14),(true,15),(true,16),(true,17),(true,18),(true,19),(true,20),(true,21),(true,22),(true,23)] (.alt 24 (C7 [(false,25),(false,26)]) (.cons (false,25) (C7 [(false,24),(false,26)])))) zK (J E ?_)
 refine DC (n:=0) E WN OT E E zO zO ?_
 refine AF 0 FJ E (AQ E E ?_)
 refine DC (n:=IJ step i 0) E QS Bd E E E (h16 _ zO) ?_
 refine Bk E A2 E (C3 1 E (E8 (Jq 0 (by rw[hwl];exact h16 _ zO)))) (J E ?_)
 refine DC (n:=1) E WN OT E E zO zO ?_
 refine AF 0 FJ E (AQ E E ?_)
 refine DC (n:=IJ step i 1) E QS Bd E E E (h16 _ zO) ?_
 refine Bk E A2 E (C3 1 E (E8 (Jq 0 (by rw[hwl];exact h16 _ zO)))) (J E ?_)
 refine DC (n:=2) E WN OT E E zO zO ?_
 refine AF 0 FJ E (AQ E E ?_)
 refine DC (n:=IJ step i 2) E QS Bd E E E (h16 _ zO) ?_
 refine Bk E A2 E (C3 1 E (E8 (Jq 0 (by rw[hwl];exact h16 _ zO)))) (J E ?_)
 refine DC (n:=3) E WN OT E E zO zO ?_
 refine AF 0 FJ E (AQ E E ?_)
 refine DC (n:=IJ step i 3) E QS Bd E E E (h16 _ zO) ?_
 refine Bk E A2 E (C3 1 E (E8 (Jq 0 (by rw[hwl];exact h16 _ zO)))) ?_
 refine Po ?_ ?_
 refine Bg (vs:=[_,_,_,_]) (Hin:=[]) E E ⟨E,E,E,E,zT⟩ ie (by rw[←hq];rfl) E (SF q) ?_
 rintro _ _ ⟨rfl,rfl⟩
 refine⟨⟨⟨0,rfl⟩,⟨1,rfl⟩,trivial⟩,?_⟩
 refine Al E S8 (fun _=>⟨⟨1,E⟩,⟨2,E⟩,zT⟩) fun b1=>?_
 refine Od 0 E E E E WL E E (N3 zV q.quarter.list) ⟨⟨1,E⟩,⟨2,E⟩,zT⟩ ?_
 refine AY ?_
 exact TG b1 zT tL
 refine Al E S8 (fun _=>⟨⟨1,E⟩,⟨2,E⟩,zT⟩) fun b1=>?_
 refine Bg (vs:=[_,_,_,_]) (Hin:=[]) E E ⟨E,E,E,E,zT⟩ ie (by rw[←hq];rfl) E (SF q) ?_
 rintro _ _ ⟨rfl,rfl⟩
 refine⟨⟨⟨1,rfl⟩,⟨2,rfl⟩,trivial⟩,?_⟩
 refine Od 0 E E E E WL E E (N3 zV q.quarter.list) ⟨⟨1,E⟩,⟨2,E⟩,zT⟩ ?_
 refine AY ?_
 exact TG b1 zT tL
 
 refine V (Ap (q.quarter.list.map Y) E fL E E (Ah 0 E) (J E (U (AM ?_))))
 refine SX.mono (BF (α:=Nat) (fun k=>k≤4) (fun k=>[(0,vP b 0),(1,vI step),(5,vP b0 0),(10,vI i),(53,.agg (Db Y q.quarter.list)),(54,vI k)]) (fun k=>own x (.cells (Db Y q.quarter.list) 365)::own b0 (.cells (Db vI [((IJ step i 0:Nat):Int),((IJ step i 1:Nat):Int),((IJ step i 2:Nat):Int),((IJ step i 3:Nat):Int)]) 364)::own b (.cells (Db Y (Ub (Ds ws step i) (IJ step i) q.quarter.list k)) e)::H) (fun k=>4-k) (fun k D hp=>?_) 0 zO) tL
 refine V (Z E A8 (U (AG ?_)))
 refine Ax E (fun hc3=>?_) (fun hc3=>?_)
 have hk:k<4:=by simp at hc3;omega
 have hix:[((IJ step i 0:Nat):Int),((IJ step i 1:Nat):Int),((IJ step i 2:Nat):Int),((IJ step i 3:Nat):Int)][k]? = some ((IJ step i k:Nat):Int):=by
  rcases(by omega:k=0∨k=1∨k=2∨k=3)with rfl | rfl | rfl | rfl<;>rfl
 have hsl:(Ub (Ds ws step i) (IJ step i) q.quarter.list k).length=16:=(QR ..).trans hwl
 refine AI (AH (AG (AM (V (J E ?_)))))
 refine Pn (i:=k) E QT A2 E E zO zO (E8 (Jq 0 hk)) ?_
 refine O E (O E (U (Av DH [1] (CA [(true,0),(true,1),(true,2),(true,3),(true,4),(true,5),(true,6)] (.last 7 .nil)) zK (J E (J E ?_)))))
 refine DC (n:=k) E WN OT E E zO zO ?_
 refine Bk E FJ E (C3 0 E (E8 hix)) (J E (AQ E E ?_))
 refine DC (n:=IJ step i k) E QS Bd E E E (h16 _ hk) ?_
 refine BY ?_
 refine Up (f:=Y) 2 E E E E Bd E E (by rw[hsl];exact h16 _ hk) zT ?_
 refine AY (Aj (AH (AN (Z E (Bf zO zO) (J E (AY ?_))))))
 exact Au (k+1) zO zO tL
 have hk:k=4:=by simp at hc3;omega
 subst hk
 refine A1 (A6 (Ba (A7 (Aj (AH (AN (Z E (Bf zO zO) (J E (AY ?_)))))))))
 refine Au (i+1) zO zO tL (fun w hw=>?_)
 have e1:Ub (Ds ws step i) (IJ step i) q.quarter.list 4=Ds ws step (i+1):=by rw[Ds,kJ,hq]
 rw[e1]at hw
 exact hw.skip [_,_]
 have hi:i=4:=by simp at hc1;omega
 subst hi
 refine A1 (A6 (Ba (A7 ?_)))
 exact DF (Dr E) (Ad (M:=[_]) ⟨E,E⟩ fun _ h=>h)
end

section
variable {K:Nat→Prop}{w0:World}{H:List AV}
theorem kh(W B:List UInt32)(i:Nat)(h1:i<W.length)(h2:i<B.length):(List.zipWith (·+·) W B).take (i+1)=(List.zipWith (·+·) W B).take i++[W.getD i 0+B.getD i 0]:=by
 rw[List.take_add_one,List.getElem?_eq_getElem zQ]
 simp[List.getD_eq_getElem?_getD,h1,h2]
theorem eC(j:Nat):UInt32.ofNat j+1=UInt32.ofNat (j+1):=by
 apply UInt32.toNat_inj.1
 simp
theorem gk(key nonce s:List UInt8)(n:Nat)(h:n<s.length):(Iq key nonce s).take (n+1)=(Iq key nonce s).take n++[s.getD n 0 ^^^ Pd key nonce n]:=by
 rw[List.take_add_one,List.getElem?_eq_getElem (by rw[Fw];exact h)]
 simp[Iq]
theorem aS(key nonce:List UInt8)(counter:UInt32)(hk:key.length=32)(hn:nonce.length=12):zC K w0 227 [vS key,Y counter,vS nonce] [] H (fun r M=>r=.tuple #[vS (J1 key counter nonce),vI 0]∧M=[]):=by
 refine T3.enter Tryz.func227 rfl rfl ?_
 refine V (O E (O E (U (AG (V (J E (Bw E Cj E (Z E BJ (J E ?_)))))))))
 refine Eg (c:=(!decide ((nonce.length:Int)=12))) 16 4 20 E (fun hb k=>?_) (fun hb k=>?_) ?_
 refine AC E (AC E (AC E (Ag E E E ?_)))
 exact k.mono tL
 refine J E (Bw E Cj E (Z E BJ (Ag E E E ?_)))
 exact k.mono tL
 refine U ?_
 refine Ax E (fun hc1=>absurd hc1 (by simp[hk,hn])) (fun hc1=>?_)
 refine AI (AH (V (J E (J E (J E (AP 0 qE (aT key nonce counter hk hn) E ?_))))))
 have hB:=Mh (counter:=counter) hk hn
 generalize hBe:Hh key counter nonce=B at hB
 refine Al E ck zU fun b0=>?_
 refine Od (c':=Db Y B) 0 E E E E nK (by rw[TJ];exact hB) E (N3 zV B) zT ?_
 refine U (V ?_)
 refine Al E ck zU fun b1=>?_
 refine U (AG (Av DH [] (CA [(true,0),(true,1)] (.last 2 .nil)) zK (gw E QS Bd E zD (gw E QS Bd E zD (BY ?_)))))
 refine nq (f:=Y) (xs:=List.replicate 16 0) (ys:=B) 0 1 E CF Bd E E E E E hB zV zT ?_
 refine U (AG (V (J E (U (AM ?_)))))
 refine SX.mono (BF (α:=Nat) (fun i=>i≤10) (fun i=>[(8,vP b0 0),(9,vP b1 0),(28,vI i)]) (fun i=>own b1 (.cells (Db Y (S3 B i)) 342)::own b0 (.cells (Db Y B) 342)::H) (fun i=>10-i) (fun i D hp=>?_) 0 zO) tL
 have htl:=(NG B i).trans hB
 refine V (Z E A8 (U (AG ?_)))
 refine Ax E (fun hc2=>?_) (fun hc2=>?_)
 have hi:i<10:=by simp at hc2;omega
 refine AI (AH (AG (AM (V (AP 1 iY (Uu (S3 B i) 0 b1 342 htl zO) E (U (AN (AP 1 iY (Uu (Vb (S3 B i) 0) 1 b1 342 ((Kf ..).trans htl) zO) E (AY (Aj (AH (AN (Z E (Bf zO zO) (J E (AY ?_)))))))))))))))
 exact Au (i+1) zO zO tL
 have hi:i=10:=by simp at hc2;omega
 subst hi
 generalize hW:S3 B 10=W at htl
 refine A1 (A6 (Ba (A7 (AH (V (O E (U (AG (V (Ap (W.map Y) E fK (by simp[htl]) E (Ah 0 E) (J E (U (AM (Iz 5 1 ?_))))))))))))))
 refine SX.mono (BF (α:=Nat×Value) (fun x=>x.1≤16) (fun x=>[(8,vP b0 0),(10,x.2),(33,.agg (Db Y W)),(34,vI x.1)]) (fun x=>Dg 5 1 x.2 (4*x.1) ((((List.zipWith (·+·) W B).take x.1).flatMap F7).map fun b=>ES b)::own b1 (.cells (Db Y W) 342)::own b0 (.cells (Db Y B) 342)::H) (fun x=>16-x.1) (fun x D hp=>?_) (0,zN) zD) tL
 obtain⟨i,v⟩:=x
 simp only at hp
 refine V (Z E A8 (U (AG ?_)))
 refine Ax E (fun hc3=>?_) (fun hc3=>?_)
 have hi:i<16:=by simp at hc3;omega
 refine AI (AH (AG (AM (V (J E ?_)))))
 refine Pn (i:=i) E QS A2 E E zO zO (E8 (Jq 0 zO)) ?_
 refine O E (O E (U (V (J E (J E ?_)))))
 refine DC (n:=i) E QS Bd E E zO zO ?_
 refine Bk E A2 E (C3 2 E (E8 (Jq 0 zO))) (Z E B1 (O E (U (AN (J E (J E (BG E E (DB CP DS) (J E ?_))))))))
 refine Z E (Fd.shr32 (n:=8)) ?_
 refine BG E E (DB CP DS) (J E ?_)
 refine Z E (Fd.shr32 (n:=16)) ?_
 refine BG E E (DB CP DS) (J E ?_)
 refine Z E (Fd.shr32 (n:=24)) ?_
 refine BG E E (DB CP DS) ?_
 refine CD [_,_,_,_] E Cb Jx Ki ⟨E,E,E,E,zT⟩ E E E zX E E zU fun b2=>?_
 refine Um 1 rfl (m:=4) (news:=(F7 (W.getD i 0+B.getD i 0)).map fun b=>ES b) Cb Jx Vq Ki rfl zD rfl rfl rfl rfl (Ah 0 rfl) (by intro u hu;obtain⟨x,_,rfl⟩:=List.mem_map.1 hu;rfl) zO zO zU fun v'=>?_
 refine O E (AY (Aj (AH (AN (Z E (Bf zO zO) (J E (AY ?_)))))))
 refine Au (i+1,v') (by simp only;omega) (by simp only;omega) tL (fun w hw=>?_)
 simp only
 rw[kh W B i zO zO,List.flatMap_append,List.map_append]
 simp only[List.flatMap_cons,List.flatMap_nil,List.append_nil]
 exact hw.skip [_]
 have hi:i=16:=by simp at hc3;omega
 subst hi
 have ht:(List.zipWith (·+·) W B).take 16=List.zipWith (·+·) W B:=List.take_of_length_le zQ
 rw[ht]
 refine A1 (A6 (Ba (A7 (AH (V (J E ?_))))))
 refine XY (s:=(List.zipWith (·+·) W B).flatMap F7) 0 E Cb DS Cj E E ?_
 refine O E (O E (U (AJ ?_)))
 exact Ae (Ef E E E) (Ad (M:=[]) ⟨by rw[J1,jA,hBe,hW],E⟩ fun _ h=>h.skip [_,_,_])
theorem fS(key nonce s:List UInt8)(hk:key.length=32)(hn:nonce.length=12)(hs:s.length≤1048576):zC K w0 196 [vS key,vS nonce,vS s] [] H (fun r M=>r=.tuple #[vS (Iq key nonce s),vI 0]∧M=[]):=by
 refine T3.enter Tryz.func196 rfl rfl ?_
 refine V (O E (O E (U (AG (V (J E (Bw E Cj E (Z E BJ (J E ?_)))))))))
 refine Eg (c:=(!decide ((nonce.length:Int)=12))) 17 4 21 E (fun hb k=>?_) (fun hb k=>?_) ?_
 refine AC E (AC E (AC E (Ag E E E ?_)))
 exact k.mono tL
 refine J E (Bw E Cj E (Z E BJ (Ag E E E ?_)))
 exact k.mono tL
 refine J E ?_
 refine Eg (c:=decide ((1048576:Int)<s.length)) 22 4 26 E (fun hb k=>?_) (fun hb k=>?_) ?_
 refine AC E (AC E (AC E (Ag E E E ?_)))
 exact k.mono tL
 refine J E (Bw E Cj E (Z E Cu (Ag E E E ?_)))
 exact k.mono tL
 refine U ?_
 refine Ax E (fun hc1=>absurd hc1 (by simp[hk,hn];omega)) (fun hc1=>?_)
 refine AI (AH (V ?_))
 refine Al E Y5 zU fun b0=>?_
 refine U (AG (V (O E (U (AM (Iz 5 1 (SX.pick [1,0] 2 ?_)))))))
 have hxl:=Fw key nonce s
 refine SX.mono (BF (α:=Nat×Value×Value) (fun x=>64*x.1<s.length+64∧O7 b0 x.2.1) (fun x=>[(0,vS key),(1,vS nonce),(2,vS (s.drop (64*x.1))),(8,vP b0 0),(9,Y (UInt32.ofNat x.1))]) (fun x=>own b0 (.cells #[x.2.1,x.2.2] 161)::Dg 5 1 x.2.2 (min (64*x.1) s.length) (((Iq key nonce s).take (min (64*x.1) s.length)).map fun b=>ES b)::H) (fun x=>s.length+64-64*x.1) (fun x D hp=>?_) (0,.pointer none,zN) ⟨by simp,.inl E⟩) ⟨E,E,E,E,E,zT⟩
 obtain⟨j,p,v⟩:=x
 obtain⟨hj,hadr⟩:=hp
 simp only at hj hadr
 refine AG (V (J E ?_))
 refine Z E (Uf (t:=[])) ?_
 refine U ?_
 refine Ax E (fun hc2=>?_) (fun hc2=>?_)
 have hjl:64*j<s.length:=by simp at hc2;omega
 have hmin:min (64*j) s.length=64*j:=zO
 rw[hmin]
 refine AI (AH (AG (AM (V (J E (J E (J E (AP 0 pr (aS key nonce (UInt32.ofNat j) hk hn) E ?_))))))))
 have hbl:=SE (counter:=UInt32.ofNat j) hk hn
 refine J E (Ac E E E (Ac E E E (O E (O E (U (V (J E (J E (Bw E Cj E ?_)))))))))
 refine J E (Bw E Cj E (Xa E E E (R9 (min (s.length-64*j) 64) E Cj E E zQ zQ (O E (U (AG (V (J E (Bw E Cj E (J E (U (AM ?_))))))))))))
 have hpl:((s.drop (64*j)).take (min (s.length-64*j) 64)).length=min (s.length-64*j) 64:=by simp
 refine SX.mono (BF (α:=Nat×Value×Value) (fun x=>x.1≤min (s.length-64*j) 64∧O7 b0 x.2.1) (fun x=>[(0,vS key),(1,vS nonce),(2,vS (s.drop (64*j))),(8,vP b0 0),(9,Y (UInt32.ofNat j)),(10,vS (J1 key (UInt32.ofNat j) nonce)),(12,vS ((s.drop (64*j)).take (min (s.length-64*j) 64))),(46,vI ((s.drop (64*j)).take (min (s.length-64*j) 64)).length),(47,vI x.1)]) (fun x=>own b0 (.cells #[x.2.1,x.2.2] 161)::Dg 5 1 x.2.2 (64*j+x.1) (((Iq key nonce s).take (64*j+x.1)).map fun b=>ES b)::H) (fun x=>64-x.1) (fun x D hp=>?_) (0,p,v) ⟨Nat.zero_le _,hadr⟩) tL
 obtain⟨i,p,v⟩:=x
 obtain⟨hi,hadr⟩:=hp
 simp only at hi hadr
 refine V (Z E A8 (U (AG ?_)))
 refine Ax E (fun hc3=>?_) (fun hc3=>?_)
 have hil:i<min (s.length-64*j) 64:=by simp only[hpl]at hc3;simpa using hc3
 refine AI (AH (AG (AM (V (J E (O E (U (Av DH [] (CA [(true,0),(true,1),(true,2),(true,3),(true,4),(true,5),(true,6)] (.last 7 .nil)) zK (J E (J E (Kk i E Cj E E zO zO (J E (J E ?_)))))))))))))
 refine Kk i E Cj E E zO zO (Z E TB (BY ?_))
 have e1:((s.drop (64*j)).take (min (s.length-64*j) 64)).getD i 0=s.getD (64*j+i) 0:=by
  simp[List.getD_eq_getElem?_getD,hil,show 64*j+i<s.length by omega]
 have e2:(J1 key (UInt32.ofNat j) nonce).getD i 0=Pd key nonce (64*j+i):=by
  rw[Pd,show(64*j+i) / 64=j by omega,show(64*j+i)%64=i by omega]
 rw[e1,e2]
 refine BO 2 XK (Of 161 b0 p v (64*j+i) _ _ hadr RN zO) E ?_
 rintro _ _ ⟨rfl,v',rfl⟩
 refine AY (Aj (AH (AN (Z E (Bf zO zO) (J E (AY ?_))))))
 refine Au (i+1,vP b0 0,v') ⟨by simp only;omega,.inr E⟩ (by simp only;omega) tL (fun w hw=>?_)
 simp only
 rw[←Nat.add_assoc,gk key nonce s (64*j+i) zO,List.map_append]
 exact hw
 have hie:i=min (s.length-64*j) 64:=by simp only[hpl]at hc3;simp at hc3;omega
 refine A1 (A6 (Ba (A7 (AH (AN (J E (J E (Bw E Cj E (O5 (min (s.length-64*j) 64) E Cj E E (by rw[hpl]) zQ ?_)))))))))
 rw[List.drop_drop]
 refine O E (AY (Aj (AH (AN (J E ?_)))))
 refine Z E (B1 (b:=1)) ?_
 refine O E (AY ?_)
 have e1:s.drop (64*j+min (s.length-64*j) 64)=s.drop (64*(j+1)):=by
  rcases Nat.lt_or_ge (s.length-64*j) 64 with h | h
  rw[List.drop_eq_nil_of_le zO,List.drop_eq_nil_of_le zO]
  rw[show 64*j+min (s.length-64*j) 64=64*(j+1) by omega]
 rw[e1,eC]
 refine Au (j+1,p,v) ⟨by simp only;omega,hadr⟩ (by simp only;omega) tL (fun w hw=>?_)
 simp only
 rw[show min (64*(j+1)) s.length=64*j+i by omega]
 exact hw
 have hjl:s.length≤64*j:=by simp at hc2;omega
 have hmin:min (64*j) s.length=s.length:=zO
 have ht:(Iq key nonce s).take s.length=Iq key nonce s:=List.take_of_length_le zO
 rw[hmin,ht]
 refine A1 (A6 (Ba (A7 (AH (V (AP 2 QE (Jj 161 b0 p v s.length (Iq key nonce s) zO) E (O E (O E (U (AJ ?_))))))))))
 exact Ae (Ef E E E) (Ad (M:=[]) ⟨E,E⟩ fun _ h=>h.skip [_,_])
end

section
variable {K:Nat→Prop}{w0:World}{H:List AV}
theorem Ps(b:Nat)(p v:Value)(e:TypeId)(n:UInt64)(w m:Nat)(xs:List UInt8)(hp:O7 b p)(hl:Zm e)(hw:w≤8)(hm:m≤1048576):zC K w0 229 [vP b 0,AT n,vI w] [own b (.cells #[p,v] e),Dg 5 1 v m (xs.map fun b=>ES b)] H (fun r M=>r=.tuple #[]∧∃p' v',O7 b p'∧M=[own b (.cells #[p',v'] e),Dg 5 1 v' (m+w) ((xs++Ca n w).map fun b=>ES b)]):=by
 refine T3.enter Tryz.func229 rfl rfl ?_
 refine V (J E (J E (U (AM ?_))))
 refine SX.mono (BF (α:=Nat×Value×Value) (fun x=>x.1≤w∧O7 b x.2.1) (fun x=>[(0,vP b 0),(1,AT n),(7,vI w),(8,vI x.1)]) (fun x=>own b (.cells #[x.2.1,x.2.2] e)::Dg 5 1 x.2.2 (m+x.1) ((xs++Ca n x.1).map fun b=>ES b)::H) (fun x=>w-x.1) (fun x D hp=>?_) (0,p,v) ⟨Nat.zero_le _,hp⟩ |>.heap (fun w h=>by simpa[Ca]using h)) tL
 obtain⟨i,p,v⟩:=x
 obtain⟨hi,hadr⟩:=hp
 simp only at hi hadr
 refine V (Z E A8 (U (AG ?_)))
 refine Ax E (fun hc1=>?_) (fun hc1=>?_)
 have hlt:i<w:=by simpa using hc1
 refine AI (AH (AG (AM (V (J E (O E (U (Av DH [] (CA [(true,0),(true,1),(true,2),(true,3),(true,4),(true,5),(true,6),(true,7)] (.last 8 .nil)) zK (J E (AQ E E (AE E YZ (J E (J E ?_)))))))))))))
 refine Z E (Ou zO zO) ?_
 refine Z E (Fd.shr64 (n:=(8*i))) ?_
 refine BG E E (FU Da DS) (BY (BO 2 XK (Of e b p v (m+i) _ _ hadr hl zO) E ?_))
 rintro _ _ ⟨rfl,v',rfl⟩
 refine AY (Aj (AH (AN (Z E (Bf zO zO) (J E (AY ?_))))))
 refine Au (i+1,vP b 0,v') ⟨hlt,.inr E⟩ (by simp only;omega) tL (fun w hw=>?_)
 simp only
 rw[Sn,←List.append_assoc,List.map_append (l₁:=xs++Ca n i),←Nat.add_assoc]
 exact hw
 have hie:i=w:=by simp at hc1;omega
 subst hie
 refine A1 (A6 (Ba (A7 ?_)))
 exact DF (Dr E) (Ad (M:=[_,_]) ⟨E,p,v,hadr,E⟩ fun _ h=>h)
theorem Tp(h:DJ):zC K w0 197 [.agg (KI h).toArray] [] H (fun r M=>r=vS (LC h)∧M=[]):=by
 refine T3.enter Tryz.func197 rfl rfl ?_
 refine V ?_
 refine Bc E E zU fun b0=>?_
 refine O E (U (V ?_))
 refine Al E nk zU fun b1=>?_
 refine U (V ?_)
 refine GZ (fv:=#[_]) (cv:=#[]) E E E ?_
 refine O E (U (Iz 5 1 (SX.pick [1,0,2] 3 (V (J E (AE E YV (AF 2 A2 E (BG E E (C2 CP Da) (BO 2 XL (Ps b1 (.pointer none) (.slice none 0 0) 323 h.boot.toUInt64 4 0 [] (.inl E) bc zO zO) E ?_)))))))))
 rintro _ _ ⟨rfl,p1,v1,ha1,rfl⟩
 refine U (V (J E (AE E YW (AF 2 HJ E (BO 2 XL (Ps b1 p1 v1 323 h.seq 8 4 _ ha1 bc zO zO) E ?_)))))
 rintro _ _ ⟨rfl,p2,v2,ha2,rfl⟩
 refine U (V (AE E YZ (AP 2 QE (Jj 323 b1 p2 v2 12 (LC h) zO) E (O E (U (AJ ?_))))))
 exact Ae (C1 E E) (Ad (M:=[]) ⟨E,E⟩ fun _ h=>h.skip [_,_,_])
theorem dR(h:DJ):zC K w0 198 [.agg (KI h).toArray] [] H (fun r M=>r=vS (PW h)∧M=[]):=by
 refine T3.enter Tryz.func198 rfl rfl ?_
 refine V ?_
 refine Bc E E zU fun b0=>?_
 refine O E (U (V ?_))
 refine Al E nk zU fun b1=>?_
 refine U (V ?_)
 refine GZ (fv:=#[_]) (cv:=#[]) E E E ?_
 refine O E (U (Iz 5 1 (SX.pick [1,0,2] 3 (V (J E (AE E dw (AF 2 A2 E (BG E E (C2 CP Da) (BO 2 XL (Ps b1 (.pointer none) (.slice none 0 0) 323 h.page.toUInt64 4 0 [] (.inl E) bc zO zO) E ?_)))))))))
 rintro _ _ ⟨rfl,p1,v1,ha1,rfl⟩
 refine U (V (J E (AE E VN (AF 2 A2 E (BG E E (C2 CP Da) (BO 2 XL (Ps b1 p1 v1 323 h.gen.toUInt64 4 4 _ ha1 bc zO zO) E ?_))))))
 rintro _ _ ⟨rfl,p2,v2,ha2,rfl⟩
 refine U (AG (Av DH [2] (C7 [(true,0),(true,2),(false,1),(false,3),(true,4),(true,5),(true,6)]) zK (AE E YZ (Ap (KI h) E T7 E E (Ah 0 E) (BP 2 QE (Jj 323 b1 p2 v2 8 (Ca h.page.toUInt64 4++Ca h.gen.toUInt64 4) zO) E ⟨⟨2,E⟩,zT⟩ (BP 0 iM (Tp h) E ⟨⟨2,E⟩,zT⟩ (Z E (Ff (by simp[B4,Kb])) (Z E (Ff (by simp[B4,Kb])) (O E (U (AJ ?_)))))))))))
 exact Ae (C1 E E) (Ad (M:=[]) ⟨E,E⟩ fun _ h=>h.skip [_,_,_])
end

section
variable {K:Nat→Prop}{w0:World}{H:List AV}
end

section
variable {K:Nat→Prop}{w0:World}{H:List AV}
theorem oM(s:List UInt8)(hn:s.length≤9223372036854775807):zC K w0 194 [vS s] [] H (fun r M=>r=.tuple #[vS (PU s).1,vI (PU s).2]∧M=[]):=
 (fU s hn).mono fun v M h=>⟨by rw[h.1];unfold PU;split<;>rfl,h.2⟩
theorem lS(T:List UInt32)(k:BI)(hT:Ge K w0 T)(hr:Dm [k]=true):zC K w0 195 [.agg (AX k).toArray] [] H (fun r M=>r=.tuple #[vS (Pe T k Nn),vS (Pe T k OG),vI 0]∧M=[]):=
 (aV T k hT).mono fun v M h=>⟨by rw[h.1,if_pos hr],h.2⟩
theorem ah(T:List UInt32)(v:Value)(l:List BI)(h:DJ)(s:List UInt8)(hT:Ge K w0 T)(hk:B6 K w0 AX 2 v l)(hv:v.cells=#[v])(hl:l.length≤1099511627776)(hn:s.length≤9223372036854775807):zC K w0 169 [v,.agg (KI h).toArray,vS s] [] H (fun r M=>r=.tuple #[vS (HY T l h s).1,vI (HY T l h s).2]∧M=[]):=by
 refine T3.enter Tryz.func169 rfl rfl ?_
 refine V ?_
 refine Bc E E zU fun b0=>?_
 refine O E (O E (U (V (J E (AE E VN (AF 0 A2 E (AP 0 lq (Ux v l h.gen hk hv hl) E ?_)))))))
 generalize hf:DW l h.gen=f
 refine J E (Ac E E E (Ac E E E ?_))
 refine Al E NN zU fun b1=>?_
 refine A5 0 E E E E HT E E E zT (O E (U (AG (V (J E (Z E BJ (U ?_)))))))
 refine Ax E (fun hc1=>?_) (fun hc1=>?_)
 have he:f.2≠0:=by simpa using hc1
 have hs:HY T l h s=([],f.2):=by unfold HY;rw[hf,if_pos he]
 rw[hs]
 refine V (J E (O E (O E (U (AJ (Ab ?_))))))
 exact Ae (Ef E E E) (Ad (M:=[]) ⟨E,E⟩ fun _ h=>h.skip [_,_])
 have he:f.2=0:=by simpa using hc1
 have hok:=VA (l:=l) (g:=h.gen) (by rw[hf];exact he)
 rw[hf]at hok
 refine AI (AH (V (J E (AP 0 pQ (oM s hn) E (J E (Ac E E E (Ac E E E (O E (O E (U (AG (V (J E ?_)))))))))))))
 refine Z E BJ (U ?_)
 refine Ax E (fun hc2=>?_) (fun hc2=>?_)
 have h1:198<s.length:=by
  unfold PU at hc2
  split at hc2
  assumption
  simp at hc2
 have hs:HY T l h s=([],50):=by unfold HY;rw[hf,if_neg (by simp[he]),if_pos h1]
 have hp:PU s=([],50):=by unfold PU;rw[if_pos h1]
 rw[hs,hp]
 refine V (J E (O E (O E (U (AJ (Ab ?_))))))
 exact Ae (Ef E E E) (Ad (M:=[]) ⟨E,E⟩ fun _ h=>h.skip [_,_])
 have h1:¬198<s.length:=by
  intro h1
  unfold PU at hc2
  rw[if_pos h1]at hc2
  simp at hc2
 have hp:PU s=(Kc s,0):=by unfold PU;rw[if_neg h1]
 have hpl:(Kc s).length=200:=Fu zO
 have hbl:=Gw T f.1 h hpl
 have hsl1:=Ot T f.1 Nn
 have hsl2:=Ot T f.1 OG
 have hs:HY T l h s=(Hi T f.1 h s,0):=by unfold HY;rw[hf,if_neg (by simp[he]),if_neg h1]
 rw[hs,hp]
 refine AI (AH (V (Ap (AX f.1) E OY E E (Ah 0 E) (AP 0 pR (lS T f.1 hT hok.2.2.2) E (J E (Ac E E E (Ac E E E (Ac E E E (O E (O E ?_))))))))))
 refine O E (U (V (J E (Ap (KI h) E T7 E E (Ah 1 E) (AP 0 iM (Tp h) E (J E (AP 0 pS (fS (Pe T f.1 Nn) (LC h) (Kc s) hsl1 (Kb h) zO) E (J E (Ac E E E ?_)))))))))
 refine Ac E E E (O E (O E (U (V (Ap (KI h) E T7 E E (Ah 1 E) (AP 0 pT (dR h) E (J E (Z E (Ff (by rw[H7,Fw];omega)) (O E (U (V ?_)))))))))))
 refine J E (J E (J E ?_))
 refine CD [_] E El HS Ta ⟨E,zT⟩ E E E zX E E zU fun b2=>?_
 refine AP 1 iN (Xr T (Pe T f.1 OG) [Ko T f.1 h (Kc s)] b2 hT zO zQ zS) E ?_
 refine Z E (Ff (by rw[H6];have:=hbl;simp only[Ko]at this;omega)) ?_
 refine O E (O E (U (AJ ?_)))
 exact Ae (Ef E E E) (Ad (M:=[]) ⟨by simp[Hi,Ko],E⟩ fun _ h=>h.skip [_,_])
end

section
variable {K:Nat→Prop}{w0:World}{H:List AV}
end

section
open Go Go.ChangeShapes Go.WideShapes Go.ChangeAt Go.RowKit
def Q9:List UInt32:=[1116352408,1899447441,3049323471,3921009573,961987163,1508970993,2453635748,2870763221,3624381080,310598401,607225278,1426881987,1925078388,2162078206,2614888103,3248222580,3835390401,4022224774,264347078,604807628,770255983,1249150122,1555081692,1996064986,2554220882,2821834349,2952996808,3210313671,3336571891,3584528711,113926993,338241895,666307205,773529912,1294757372,1396182291,1695183700,1986661051,2177026350,2456956037,2730485921,2820302411,3259730800,3345764771,3516065817,3600352804,4094571909,275423344,430227734,506948616,659060556,883997877,958139571,1322822218,1537002063,1747873779,1955562222,2024104815,2227730452,2361852424,2428436474,2756734187,3204031479,3329325298]
def U4:List Int:=[1116352408,1899447441,3049323471,3921009573,961987163,1508970993,2453635748,2870763221,3624381080,310598401,607225278,1426881987,1925078388,2162078206,2614888103,3248222580,3835390401,4022224774,264347078,604807628,770255983,1249150122,1555081692,1996064986,2554220882,2821834349,2952996808,3210313671,3336571891,3584528711,113926993,338241895,666307205,773529912,1294757372,1396182291,1695183700,1986661051,2177026350,2456956037,2730485921,2820302411,3259730800,3345764771,3516065817,3600352804,4094571909,275423344,430227734,506948616,659060556,883997877,958139571,1322822218,1537002063,1747873779,1955562222,2024104815,2227730452,2361852424,2428436474,2756734187,3204031479,3329325298]
def bP:List Int:=[1779033703,3144134277,1013904242,2773480762,1359893119,2600822924,528734635,1541459225]
section
variable {P:Program}{W:World}
theorem Wh{x:String×DataW Unit}{r:List (String×DataW Unit)}(h:laidMet P (x::r) W):laidMet P r W:=by
 obtain⟨ps,⟨g,t,cs,fuel,p,q,_,_,_,_,hs,rfl⟩,hn,hc⟩:=h
 exact⟨q,hs,(List.nodup_append.1 hn).2.1,fun b off hb=>hc b off (List.mem_append_right _ hb)⟩
theorem cV{name:String}{g:Nat}{zs:List Int}{T:List UInt32}(hg:P.globalNamed name=some g)(h:Lib.TabIs P W name .u32 zs)(hl:T≠[])(hz:zs=T.map fun x=>(x.toNat:Int)):TU (· < W.heap.size) W g T:=by
 have hc:∀i x,T[i]? = some x→W.cell? ⟨g,i,none⟩=some (Y x):=by
  intro i x hx
  obtain⟨hi,rfl⟩:=List.getElem?_eq_some_iff.1 hx
  have:=h.cell hg i (by rw[hz];simpa using hi)
  rw[this,hz]
  simp[Y,List.getD_eq_getElem?_getD,hi]
 refine⟨?_,hc⟩
 obtain⟨x,r,rfl⟩:=List.exists_cons_of_ne_nil hl
 have h0:=hc 0 x rfl
 rcases Nat.lt_or_ge g W.heap.size with h | h
 exact h
 have:W.heap[g]? = none:=by simp[h]
 simp[World.cell?,this]at h0
end
theorem uF:ownKnob Tryz.prog.godebug=none:=zK
theorem ju:laidOutB Tryz.prog=true:=zK
theorem i0:Tryz.prog.globalNamed "sphragis/sha.first" = some 1:=zK
theorem iz:Tryz.prog.globalNamed "sphragis/sha.constants" = some 3:=zK
theorem mR:(Tryz.prog.globals[1]?).map (·.type)=some 349:=zK
theorem mQ:(Tryz.prog.globals[3]?).map (·.type)=some 376:=zK
theorem Vu:Tryz.prog.cellsOf 36=1:=zK
theorem fq:Tryz.prog.cellsOf 349=8:=zK
theorem YB:Tryz.prog.cellsOf 376=64:=zK
theorem nG{W:World}(h:laidMetH Tryz.prog [("sphragis/sha.first", Rows.laid_sphragis_sha_first),("sphragis/sha.constants", Rows.laid_sphragis_sha_constants)] W):Ge (· < W.heap.size) W Q9:=by
 have h0:laidMet Tryz.prog [("sphragis/sha.first", Lib.tabData .u32 bP),("sphragis/sha.constants", Lib.tabData .u32 U4)] W:=h
 refine⟨?_,rfl,?_⟩
 exact cV iz (Lib.tabIs_of_head (rest:=[]) iz mQ Tryz.underlying376 Tryz.underlying36 Vu YB (Wh h0)) (by simp[Q9]) zK
 exact cV i0 (Lib.tabIs_of_head i0 mR Tryz.underlying349 Tryz.underlying36 Vu fq h0) (by simp[D5,NI.list]) zK
def mV(zs:List Int):Obj→Obj
 | .cells _ t frozen=>.cells (zs.map fun z=>Value.int .u32 z).toArray t frozen
 | o=>o
end

section
open Go Go.ChangeShapes Go.WideShapes Go.ChangeAt Go.RowKit Go.Deep Go.Lib Go.Joins
section
variable {G:Type}{enc:TypeId×Value→G}{P:Program}{W:World}
end
end

section
variable {P:Program}{ro:Option Nat}{K:Nat→Prop}{w0:World}{N:Nat}{Q:DQ}{D:List Nat}{l l':Tm}{H H' Hs L:List AV}{ops:Array Oper}{items:Hd}
variable {tk:Bool}{o:Oper}{t:Nat}{v:Value}{x y z:Operand}
def wI(x:Int):Int:=IntKind.i64.wrap x
theorem Cm{x:Int}(h1 : -9223372036854775808≤x)(h2:x≤9223372036854775807):wI x=x:=OE (k:=.i64) h1 h2
def BB{α:Type}(l:List α)(i:Int):Option α:=if 0≤i then l[i.toNat]? else none
def Ix{α:Type}(l:List α)(i j:Int):Option (List α):=if 0≤i∧i≤j∧j≤l.length then some ((l.drop i.toNat).take (j.toNat-i.toNat))else none
def Ma{α:Type}(l:List α)(i:Int)(a:α):Option (List α):=if 0≤i∧i<l.length then some (l.set i.toNat a)else none
def ET(s t:List UInt8):Option (List UInt8):=if s.length+t.length≤9223372036854775807 then some (s++t)else none
def DR{α:Type}(by_:Nat)(s t:List α):Option (List α):=if(s.length+t.length)*by_≤140737488355328∧s.length+t.length≤9223372036854775807 then some (s++t)else none
def Qq(i:Int):Option Nat:=if 0≤i then some i.toNat else none
def VY(a b:Int):Option Int:=if b=0 then none else some (wI (a.tdiv b))
def Tx(a b:Int):Option Int:=if b=0 then none else some (a.tmod b)
def RV(a b:UInt64):Option UInt64:=if b=0 then none else some (a / b)
def V8(a b:UInt64):Option UInt64:=if b=0 then none else some (a%b)
def It(b:Bool)(c:Option Bool):Option Bool:=cond b c (some false)
def Sq(b:Bool)(c:Option Bool):Option Bool:=cond b (some true) c
def CN{α β:Type}(F:(α→Option β)→α→Option β):Nat→α→Option β
 | 0,_=>none
 | m+1,a=>F (CN F m) a
def ret{α β:Type}(e:α)(k:α→β):β:=k e
theorem EE{α β:Type}{a:Option α}{f:α→Option β}{r:β}(h:a.bind f=some r):∃x,a=some x∧f x=some r:=Option.bind_eq_some_iff.1 h
theorem Bu{α β:Type}{e:α}{k:α→Option β}{r:β}(h:ret e k=some r):∃x,e=x∧k x=some r:=⟨e,rfl,h⟩
theorem cT{α:Type}{b:Bool}{x y:Option α}{r:α}(hb:b=true)(h:cond b x y=some r):x=some r:=by subst hb;exact h
theorem cF{α:Type}{b:Bool}{x y:Option α}{r:α}(hb:b=false)(h:cond b x y=some r):y=some r:=by subst hb;exact h
theorem E2{α:Type}{l:List α}{i:Int}{a:α}(h:BB l i=some a):i=(i.toNat:Int)∧i.toNat<l.length∧l[i.toNat]? = some a:=by
 unfold BB at h
 split at h
 rename_i h0
 obtain⟨hlt,_⟩:=List.getElem?_eq_some_iff.1 h
 exact⟨by omega,hlt,h⟩
 cases h
theorem No{α:Type}{l u:List α}{i j:Int}(h:Ix l i j=some u):i=(i.toNat:Int)∧j=(j.toNat:Int)∧i.toNat≤j.toNat∧j.toNat≤l.length∧u=(l.drop i.toNat).take (j.toNat-i.toNat):=by
 unfold Ix at h
 split at h
 rename_i h0
 exact⟨by omega,by omega,by omega,by omega,(zI h).symm⟩
 cases h
abbrev Fg(x:UInt8):List Value:=[ES x]
abbrev BD(x:UInt32):List Value:=[Y x]
abbrev eS(x:List UInt8):List Value:=[vS x]
abbrev eB(x:Bool):List Value:=[vB x]
theorem Bh{a b:Int}:Fd .add (vI a) (vI b) (vI (wI (a+b))):=fun P w ty x y=>⟨BS ..,by simp[binOp,Op.intArith,wI]⟩
theorem DI{a b:Int}:Fd .sub (vI a) (vI b) (vI (wI (a-b))):=fun P w ty x y=>⟨BS ..,by simp[binOp,Op.intArith,wI]⟩
theorem MP{a b:Int}:Fd .mul (vI a) (vI b) (vI (wI (a*b))):=fun P w ty x y=>⟨BS ..,by simp[binOp,Op.intArith,wI]⟩
theorem Vj{a b c:Int}(h:VY a b=some c):Fd .quo (vI a) (vI b) (vI c):=fun P w ty x y=>⟨BS ..,by
 unfold VY at h
 split at h
 cases h
 rename_i h0
 obtain rfl:=zI h
 simp[binOp,Op.intDiv,h0,wI]⟩
theorem TA{a b c:Int}(h:Tx a b=some c):Fd .rem (vI a) (vI b) (vI c):=fun P w ty x y=>⟨BS ..,by
 unfold Tx at h
 split at h
 cases h
 rename_i h0
 obtain rfl:=zI h
 simp[binOp,Op.intDiv,h0]⟩
theorem Rz{a:UInt32}{k:IntKind}{i:Int}{n:Nat}(h:Qq i=some n):Fd .shl (Y a) (.int k i) (Y (Go.Proofs.YtpaohlmgfifebaaGreatDoor.shl32 a n)):=by
 unfold Qq at h
 split at h
 obtain rfl:=zI h
 have:i=(i.toNat:Int):=zO
 rw[this]
 exact Fd.shl32
 cases h
theorem WT{a:UInt32}{k:IntKind}{i:Int}{n:Nat}(h:Qq i=some n):Fd .shr (Y a) (.int k i) (Y (Go.Proofs.YtpaohlmgfifebaaGreatDoor.shr32 a n)):=by
 unfold Qq at h
 split at h
 obtain rfl:=zI h
 have:i=(i.toNat:Int):=zO
 rw[this]
 exact Fd.shr32
 cases h
theorem cq{a:UInt64}{k:IntKind}{i:Int}{n:Nat}(h:Qq i=some n):Fd .shr (AT a) (.int k i) (AT (Go.Proofs.YtpaohlmgfifebaaGreatDoor.shr64 a n)):=by
 unfold Qq at h
 split at h
 obtain rfl:=zI h
 have:i=(i.toNat:Int):=zO
 rw[this]
 exact Fd.shr64
 cases h
theorem cn{a:UInt64}{k:IntKind}{i:Int}{n:Nat}(h:Qq i=some n):Fd .shl (AT a) (.int k i) (AT (Go.Proofs.YtpaohlmgfifebaaGreatDoor.shl64 a n)):=by
 unfold Qq at h
 split at h
 obtain rfl:=zI h
 have:i=(i.toNat:Int):=zO
 rw[this]
 exact Fd.shl64
 cases h
theorem Pj{a b c:UInt64}(h:RV a b=some c):Fd .quo (AT a) (AT b) (AT c):=fun P w ty x y=>⟨BS ..,by
 unfold RV at h
 split at h
 cases h
 rename_i hb
 obtain rfl:=zI h
 have h0:((b.toNat:Int))≠0:=by
  intro h
  have:b.toNat=0:=zO
  exact hb (UInt64.toNat_inj.1 this)
 have h1:IntKind.u64.wrap (Int.tdiv (a.toNat:Int) (b.toNat:Int))=((a / b).toNat:Int):=by
  rw[Md,Int.tdiv_eq_ediv_of_nonneg zO,UInt64.toNat_div]
  have h2:a.toNat / b.toNat≤a.toNat:=Nat.div_le_self _ _
  have:=a.toNat_lt
  rw[show((a.toNat:Int) / (b.toNat:Int))=((a.toNat / b.toNat:Nat):Int)from rfl]
  generalize a.toNat / b.toNat=q at h2 ⊢
  omega
 simp only[binOp,Op.intDiv,ne_eq,not_true_eq_false,if_false,h0,h1,Sem.run_pure]⟩
theorem Pk{a b c:UInt64}(h:V8 a b=some c):Fd .rem (AT a) (AT b) (AT c):=by
 unfold V8 at h
 split at h
 cases h
 rename_i hb
 obtain rfl:=zI h
 exact fB hb
theorem CQ{s t u:List UInt8}(h:ET s t=some u):Fd .add (vS s) (vS t) (vS u):=by
 unfold ET at h
 split at h
 rename_i hl
 obtain rfl:=zI h
 exact Ff hl
 cases h
theorem Kj{s:List UInt8}{ty:TypeId}{k:IntKind}{i:Int}{c:UInt8}(hn:BB s i=some c)(ho:At ops N l o t (.index ty x y))(hty:P.underlying ty=some .string)(hx:Bi l x=some (vS s))(hy:Bi l y=some (.int k i))
(h:SL P ro K w0 N ops Hs items Q D ((t,ES c)::l) H):SL P ro K w0 N ops Hs (.cons (tk,o) items) Q D l H:=by
 obtain⟨h1,h2,h3⟩:=E2 hn
 refine Kk i.toNat ho hty hx hy h1 h2 ?_
 have:s.getD i.toNat 0=c:=by simp[List.getD_eq_getElem?_getD,h3]
 rw[this]
 exact h
theorem oC{s u:List UInt8}{ty:TypeId}{k k':IntKind}{i j:Int}(hn:Ix s i j=some u)(ho:At ops N l o t (.slice ty x (some y) (some z) none))(hty:P.underlying ty=some .string)(hx:Bi l x=some (vS s))(hy:Bi l y=some (.int k i))(hz:Bi l z=some (.int k' j))
(h:SL P ro K w0 N ops Hs items Q D ((t,vS u)::l) H):SL P ro K w0 N ops Hs (.cons (tk,o) items) Q D l H:=by
 obtain⟨h1,h2,h3,h4,rfl⟩:=No hn
 exact gz i.toNat j.toNat ho hty hx hy hz h1 h2 h3 h4 h
theorem ky{s u:List UInt8}{ty:TypeId}{k:IntKind}{i:Int}(hn:Ix s i (s.length:Int)=some u)(ho:At ops N l o t (.slice ty x (some y) none none))(hty:P.underlying ty=some .string)(hx:Bi l x=some (vS s))(hy:Bi l y=some (.int k i))
(h:SL P ro K w0 N ops Hs items Q D ((t,vS u)::l) H):SL P ro K w0 N ops Hs (.cons (tk,o) items) Q D l H:=by
 obtain⟨h1,h2,h3,h4,rfl⟩:=No hn
 refine O5 i.toNat ho hty hx hy h1 zO ?_
 rw[List.take_of_length_le zS]at h
 exact h
theorem kx{s u:List UInt8}{ty:TypeId}{k:IntKind}{j:Int}(hn:Ix s 0 j=some u)(ho:At ops N l o t (.slice ty x none (some z) none))(hty:P.underlying ty=some .string)(hx:Bi l x=some (vS s))(hz:Bi l z=some (.int k j))
(h:SL P ro K w0 N ops Hs items Q D ((t,vS u)::l) H):SL P ro K w0 N ops Hs (.cons (tk,o) items) Q D l H:=by
 obtain⟨h1,h2,h3,h4,rfl⟩:=No hn
 exact R9 j.toNat ho hty hx hz h2 h4 (by simpa using h)
theorem DD{α:Type}{enc:α→List Value}{sz:Nat}{xs:List α}{k:IntKind}{i:Int}{ty e:TypeId}{x0:α}(hn:BB xs i=some x0)(hk:B6 K w0 enc sz v xs)(ho:At ops N l o t (.indexAddr ty x y))(hty:P.underlying ty=some (.slice e))(hsz:DP P e=some sz)(hx:Bi l x=some v)(hy:Bi l y=some (.int k i))
(h:∀b off,(∀L w,GY K w0 L w→∀j u,(enc x0)[j]? = some u→w.cell? ⟨b,off+j,none⟩=some u)→SL P ro K w0 N ops Hs items Q D ((t,vP b off)::l) H):SL P ro K w0 N ops Hs (.cons (tk,o) items) Q D l H:=by
 obtain⟨h1,h2,h3⟩:=E2 hn
 exact Qu i.toNat x0 hk ho hty hsz hx hy h1 h3 h
theorem Du{b off j:Nat}{u:Value}{cs:List Value}(hc:∀L w,GY K w0 L w→∀j u,cs[j]? = some u→w.cell? ⟨b,off+j,none⟩=some u)(hj:cs[j]? = some u):∀w,GY K w0 L w→w.cell? ⟨b,off+j,none⟩=some u:=fun w hw=>hc L w hw j u hj
theorem DM{b off:Nat}{cs:List Value}(hc:∀L w,GY K w0 L w→∀j u,cs[j]? = some u→w.cell? ⟨b,off+j,none⟩=some u):∀w,GY K w0 L w→∀j u,cs[j]? = some u→w.cell? (Addr.add ⟨b,off,none⟩ j)=some u:=
 fun w hw j u hu=>by rw[Ci];exact hc L w hw j u hu
def AB{α:Type}(e:TypeId)(sz:Nat)(v:Value)(enc:α→List Value)(xs:List α):AV:=
 ⟨fun b=>v.ownBlock=some b,fun w=>w.ownsRow 0 e sz v xs.length (xs.flatMap enc),fun w w' h hw=>by
  refine⟨hw.1,?_⟩
  rcases hw.2 with hn | ⟨g,cap,cur,rfl,hb,hgg,rest⟩
  exact .inl hn
  exact .inr ⟨g,cap,cur,rfl,hb,by rw[h g rfl];exact hgg,rest⟩⟩
section rows
variable {α:Type}{enc:α→List Value}{sz:Nat}{xs us:List α}{e ty:TypeId}
theorem JG(hl:∀x,(enc x).length=sz):∀ys:List α,(ys.flatMap enc).length=ys.length*sz
 | []=>by simp
 | y::ys=>by rw[List.flatMap_cons,List.length_append,JG hl ys,hl,List.length_cons,Nat.add_mul,Nat.one_mul,Nat.add_comm]
theorem BX.nilT{w:World}(e:TypeId)(sz:Nat)(enc:α→List Value)(h:BX K w0 H w):BX K w0 (AB e sz zN enc []::H) w:=by
 refine h.cons (n:=w.heap.size) (Nat.le_refl _) (fun d hd b hb=>(h.foot d hd b hb).1) h.kltw (World.ownsRow_nil ..) ?_
 intro b hb
 simp[AB,Value.ownBlock]at hb
theorem CB(e:TypeId)(sz:Nat)(enc:α→List Value)(h:SL P ro K w0 N ops Hs items Q D l (AB e sz zN enc []::H)):SL P ro K w0 N ops Hs items Q D l H:=
 fun a w ha hw hs=>h a w ha (hw.nilT e sz enc) hs
theorem eV{w:World}{g n cap i j:Nat}{c:α}{u:Value}(hl:∀x,(enc x).length=sz)(h:(AB e sz v enc xs).holds w)(hv:v=.slice (some ⟨g,0,none⟩) n cap)(hi:xs[i]? = some c)(hj:(enc c)[j]? = some u):w.cell? ⟨g,i*sz+j,none⟩=some u:=by
 have hrow:w.ownsRow 0 e sz v xs.length (xs.flatMap enc):=h
 have hF:=World.ownsRowF_of hrow
 have:=hF.cells (g:=g) (by rw[hv];rfl) (i*sz+j) u (RG hl xs i c j u hi hj)
 rw[Ci]at this
 simpa using this
theorem Br{g n cap:Nat}{c:α}{i:Int}{u:Value}(k j:Nat)(hl:∀x,(enc x).length=sz)(hk:L[k]? = some (AB e sz v enc xs))(hv:v=.slice (some ⟨g,0,none⟩) n cap)(hi:BB xs i=some c)(hj:(enc c)[j]? = some u):∀w,GY K w0 L w→w.cell? ⟨g,i.toNat*sz+j,none⟩=some u:=
 fun _w hw=>eV hl (hw.holds _ (List.mem_of_getElem? hk)) hv (E2 hi).2.2 hj
theorem KH{g n cap:Nat}{c:α}{i:Int}(k:Nat)(hl:∀x,(enc x).length=sz)(hk:L[k]? = some (AB e sz v enc xs))(hv:v=.slice (some ⟨g,0,none⟩) n cap)(hi:BB xs i=some c):∀w,GY K w0 L w→∀j u,(enc c)[j]? = some u→w.cell? (Addr.add ⟨g,i.toNat*sz,none⟩ j)=some u:=
 fun w hw j u hu=>by rw[Ci];exact Br k j hl hk hv hi hu w hw
theorem Dj(k:Nat)(ho:At ops N l o t (.call { callee:=.builtin .len,args:=#[x],argTypes:=#[ty] }))(hty:P.underlying ty=some (.slice e))(hx:Bi l x=some v)
{e':TypeId}(hk:(bif tk then Hs else H)[k]? = some (AB e' sz v enc xs))(h:SL P ro K w0 N ops Hs items Q D ((t,vI xs.length)::l) H):SL P ro K w0 N ops Hs (.cons (tk,o) items) Q D l H:=
 SL.val ho rfl (fun a w ha hsw=>by
  have hrow:w.ownsRow 0 e' sz v xs.length (xs.flatMap enc):=hsw.holds _ (List.mem_of_getElem? hk)
  simp only[execOp,ho.op,resolve,invoke,builtin,Builtin.len_]
  rcases hrow.2 with⟨rfl,hn⟩ | ⟨g,cap,cur,rfl,_⟩
  simp[ha.eval hx,An hty,goInt,hn]
  simp[ha.eval hx,An hty,goInt]) h
theorem B2(k:Nat){kk:IntKind}{i:Int}{c:α}(hn:BB xs i=some c)(ho:At ops N l o t (.indexAddr ty x y))(hty:P.underlying ty=some (.slice e))(hsz:DP P e=some sz)(hx:Bi l x=some v)(hy:Bi l y=some (.int kk i))
(hk:H[k]? = some (AB e sz v enc xs))
(h:∀g m cap,v=.slice (some ⟨g,0,none⟩) m cap→SL P ro K w0 N ops Hs items Q D ((t,vP g (i.toNat*sz))::l) H):SL P ro K w0 N ops Hs (.cons (tk,o) items) Q D l H:=by
 intro a w ha hw hs
 have hrow:w.ownsRow 0 e sz v xs.length (xs.flatMap enc):=hw.holds _ (List.mem_append_left _ (List.mem_of_getElem? hk))
 obtain⟨h1,h2,h3⟩:=E2 hn
 rcases hrow.2 with⟨_,h0⟩ | ⟨g,cap,cur,hv,_⟩
 omega
 exact(fH (n:=i.toNat) ho hty hsz (hx.trans (by rw[hv])) hy h1 h2 (by simpa using h g xs.length cap hv)) a w ha hw hs
theorem VC(hl:∀x,(enc x).length=sz):∀(xs:List α) (i:Nat) (a:α),i<xs.length→(xs.set i a).flatMap enc=(xs.flatMap enc).take (i*sz)++enc a++(xs.flatMap enc).drop (i*sz+sz)
 | [],i,a,h=>by simp at h
 | b::r,0,a,_=>by
  have hb:=hl b
  simp only[List.set_cons_zero,List.flatMap_cons,Nat.zero_mul,List.take_zero,List.nil_append,Nat.zero_add]
  rw[List.drop_append_of_le_length zO,List.drop_of_length_le zO,List.nil_append]
 | b::r,i+1,a,h=>by
  have hb:=hl b
  have ih:=VC hl r i a (by simpa using h)
  simp only[List.set_cons_succ,List.flatMap_cons]
  rw[ih]
  have e1:(i+1)*sz=(enc b).length+i*sz:=by rw[hb,Nat.add_mul];omega
  have e2:(i+1)*sz+sz=(enc b).length+(i*sz+sz):=by rw[hb,Nat.add_mul];omega
  rw[e2,e1,List.take_length_add_append,List.drop_length_add_append]
  simp
theorem E7(k:Nat){g m cap:Nat}{i:Int}{u:Value}{a:α}(hn:Ma xs i a=some us)(hl:∀x,(enc x).length=sz)(ho:At0 ops l o (.store ty x y))(hx:Bi l x=some (vP g (i.toNat*sz)))(hy:Bi l y=some u)(hu:u.cells.toList=enc a)(hk:H[k]? = some (AB e sz v enc xs))(hv:v=.slice (some ⟨g,0,none⟩) m cap)
(hsz:DP P ty=some sz)(h1:∀c∈enc a,c.oneCell'=true)(hs:Ec Hs (H.set k (AB e sz v enc us)))(h:SL P ro K w0 N ops Hs items Q D l (H.set k (AB e sz v enc us))):SL P ro K w0 N ops Hs (.cons (false,o) items) Q D l H:=by
 unfold Ma at hn
 split at hn
 rename_i hi
 obtain rfl:=zI hn
 refine Vl ho E (fun a' w ha hw=>?_) hs h
 have hrow:w.ownsRow 0 e sz v xs.length (xs.flatMap enc):=hw.holds _ (List.mem_append_left _ (List.mem_of_getElem? hk))
 have hlt:i.toNat<xs.length:=zO
 rcases hrow.2 with⟨hv',h0⟩ | ⟨g',cap',cur,hv',hb,hg,hnc,hcm,hcs,htk⟩
 rw[hv']at hv;cases hv
 obtain⟨rfl,rfl,rfl⟩:g'=g∧xs.length=m∧cap'=cap:=by rw[hv']at hv;simpa using hv
 have hucz:u.cells.size=sz:=by rw[←Array.length_toList,hu,hl]
 have hle:i.toNat*sz+sz≤xs.length*sz:=by
  have:=Nat.mul_le_mul_right sz (show i.toNat+1≤xs.length by omega)
  rw[Nat.add_mul,Nat.one_mul]at this
  exact this
 have hle2:xs.length*sz≤cap'*sz:=Nat.mul_le_mul_right _ hnc
 obtain⟨w',hrun,hw'⟩:=MA (P:=P) u.cells.toList (i.toNat*sz) 0 cur w hg (by rw[Array.length_toList,hucz];omega) (by rw[hu];exact h1)
 refine⟨w',?_,?_⟩
 simp[execOp,ho.op,Instr.storeAt,Instr.sureAddr,ha.eval hx,ha.eval hy,storeVar,Ch hsz,hucz]
 rw[hrun]
 rfl
 rw[hw']
 obtain⟨hlt2,_⟩:=Array.getElem?_eq_some_iff.1 hg
 refine hw.turnAt (c:=AB e sz v enc xs) k hk rfl rfl rfl zS (fun b hb hne=>World.putObj_heap_other (fun e=>hne (by subst e;rw[hv'];rfl))) ⟨JG hl _,.inr ⟨g',cap',_,by rw[hv',List.length_set],Nat.zero_le _,World.putObj_heap_same hlt2,by simpa using hnc,hcm,by rw[Ua,hcs],?_⟩⟩ (fun b hb=>⟨.inl hb,?_⟩)
 have hcl:(enc a).length=sz:=hl a
 rw[LD _ _ _ (by rw[hu,hcl];omega),VC hl xs i.toNat a hlt,hu,hcl,←htk,List.length_set,Nat.add_zero]
 have e1:(cur.toList.take (i.toNat*sz)).length=i.toNat*sz:=by simp;omega
 rw[List.take_take,Nat.min_eq_left zO]
 have e2:(cur.toList.take (i.toNat*sz)++enc a).length=i.toNat*sz+sz:=by rw[List.length_append,e1,hcl]
 rw[List.take_append,e2,List.take_of_length_le zO]
 congr 1
 rw[List.drop_take]
 have:b=g':=by
  have hb':v.ownBlock=some b:=hb
  rw[hv']at hb'
  simpa[Value.ownBlock]using hb'.symm
 subst this
 simpa using hlt2
 cases hn
theorem C5{by_ m c:Nat}{zv:Value}{new:List α}{ad:Addr}(k:Nat)(hn:DR by_ xs new=some us)(hl:∀x,(enc x).length=sz)(ho:At ops N l o t (.call { callee:=.builtin .append,args:=#[x,y],argTypes:=#[ty,ty] }))
(hty:P.underlying ty=some (.slice e))(hsz:DP P e=some sz)(hby:Ph P e=some by_)(hze:EP P e=some zv)(hzs:zv.cells.size=sz)(hsz0:0<sz)
(hx:Bi l x=some v)(hy:Bi l y=some (.slice (some ad) m c))(hm:m=new.length)(hk:H[k]? = some (AB e sz v enc xs))
(hnews:∀w,GY K w0 H w→∀j u,(new.flatMap enc)[j]? = some u→w.cell? (ad.add j)=some u)(h1:∀a,∀u∈enc a,u.oneCell'=true)
(hs:∀v',Ec Hs (H.set k (AB e sz v' enc us)))
(h:∀v',SL P ro K w0 N ops Hs items Q D ((t,v')::l) (H.set k (AB e sz v' enc us))):SL P ro K w0 N ops Hs (.cons (false,o) items) Q D l H:=by
 unfold DR at hn
 split at hn
 rename_i hb
 obtain rfl:=zI hn
 subst hm
 have hfl:=JG hl
 refine Gu (fun v'=>v') (fun v'=>H.set k (AB e sz v' enc (xs++new))) ho E (fun a w ha hw=>?_) hs h
 obtain⟨ii,hii,e1,e2,e3⟩:=PT hsz hby hze
 have hrow:w.ownsRow 0 e sz v xs.length (xs.flatMap enc):=hw.holds _ (List.mem_append_left _ (List.mem_of_getElem? hk))
 obtain⟨v',w',hr,hr2,hr3,_,hr4⟩:=run_append_own_at (P:=P) w 0 ty o.type e ii zv sz by_ hty hii e3 e1 e2 hzs hsz0 v xs.length _ hrow ad new.length c (new.flatMap enc) (hfl new) (hnews w hw.dropMarks.s) (fun u hu=>by
  obtain⟨a,_,ha⟩:=List.mem_flatMap.1 hu
  exact h1 a u ha) (by simp only[maxLen];omega) hb.1 (Nat.zero_le _)
 refine⟨v',w',?_,hw.turnAt (c:=AB e sz v enc xs) k hk hr3.os hr3.tape hr3.output hr3.size (fun b hb hne=>hr3.block b hb (fun e=>hne e.symm)) (show w'.ownsRow 0 e sz v' (xs++new).length ((xs++new).flatMap enc) by rw[List.flatMap_append,List.length_append];exact hr2) ?_⟩
 unfold execOp
 simp only[ho.op,resolve,invoke,builtin,Sem.run_bind,Sem.run_pure,Result.andThen_ok,List.map_toArray,List.map_cons,List.map_nil,ha.eval hx,ha.eval hy,hr]
 intro b hb
 refine⟨?_,(hr2.lt b hb).2⟩
 have hb':v'.ownBlock=some b:=hb
 rcases hr4 with h4 | h4
 exact .inl (by rw[h4]at hb';exact hb')
 rw[h4]at hb'
 right
 simp at hb'
 omega
 cases hn
theorem BX.ownT{w:World}{b:Nat}{c:Array Value}(xs:List α)(h:BX K w0 (own b (.cells c e)::H) w)(hc:c.toList=xs.flatMap enc)(hl:∀x,(enc x).length=sz)(hm:xs.length≤9223372036854775807):BX K w0 (AB e sz (.slice (some ⟨b,0,none⟩) xs.length xs.length) enc xs::H) w:=by
 have hfl:=JG hl
 have hcs:c.size=xs.length*sz:=by rw[←Array.length_toList,hc,hfl]
 refine h.turn rfl rfl rfl (Nat.le_refl _) (fun _ _ _=>rfl) ⟨hfl xs,.inr ⟨b,xs.length,c,rfl,Nat.zero_le _,h.holds _ (List.mem_cons_self ..),Nat.le_refl _,by simp only[maxLen];omega,hcs,by rw[hc,←hfl];exact List.take_length⟩⟩ (fun k hk=>?_)
 have hkb:k=b:=by simp[AB,Value.ownBlock]at hk;exact hk.symm
 subst hkb
 exact⟨.inl rfl,(h.foot _ (List.mem_cons_self ..) k rfl).1⟩
theorem CH{b:Nat}{c:Array Value}(enc:α→List Value)(sz:Nat)(xs:List α)(hc:c.toList=xs.flatMap enc)(hl:∀x,(enc x).length=sz)(hm:Nat.ble xs.length 1000000=true)
(h:SL P ro K w0 N ops Hs items Q D l (AB e sz (.slice (some ⟨b,0,none⟩) xs.length xs.length) enc xs::H)):SL P ro K w0 N ops Hs items Q D l (own b (.cells c e)::H):=
 fun a w ha hw hs=>h a w ha (hw.ownT xs hc hl (by have:=Nat.le_of_ble_eq_true hm;omega)) hs
theorem gv{by_ n:Nat}{zv:Value}{k k':IntKind}(enc:α→List Value)(ho:At ops N l o t (.makeSlice ty x y))(hty:P.underlying ty=some (.slice e))(hsz:DP P e=some sz)(hby:Ph P e=some by_)(hze:EP P e=some zv)(_hzs:zv.cells.size=sz)
(hx:Bi l x=some (.int k 0))(hy:Bi l y=some (.int k' (n:Int)))(hb:Nat.ble (by_*n) 281474976710656=true)(h63:Nat.ble n 9223372036854775807=true)
(hs:∀v',Ec Hs (AB e sz v' enc []::H))(h:∀v',SL P ro K w0 N ops Hs items Q D ((t,v')::l) (AB e sz v' enc []::H)):SL P ro K w0 N ops Hs (.cons (false,o) items) Q D l H:=
 Gu (fun b=>.slice (some ⟨b,0,none⟩) 0 n) (fun b=>AB e sz (.slice (some ⟨b,0,none⟩) 0 n) enc []::H) ho rfl (fun a w ha hw=>by
  obtain⟨ii,hii,e1,e2,e3⟩:=PT hsz hby hze
  have hbn:=Nat.le_of_ble_eq_true hb
  have h63n:=Nat.le_of_ble_eq_true h63
  have hb':(ii.bytes:Int)*(n:Int)≤281474976710656:=by rw[e2,←Int.natCast_mul];omega
  have hr:=run_make (P:=P) w ty e ii zv hty hii e3 k k' 0 n zO zO hb' zO
  rw[e1]at hr
  simp only[Int.toNat_natCast]at hr
  refine⟨w.heap.size,w.alloc (.cells (madeCells zv.cells (n*sz)) e),?_,?_⟩
  unfold execOp
  simp only[ho.op,ha.eval hx,ha.eval hy,Sem.run_bind,hr,Result.andThen_ok,Sem.run_pure]
  rfl
  have h2:=hw.alloc (.cells (madeCells zv.cells (n*sz)) e)
  refine h2.turn rfl rfl rfl (Nat.le_refl _) (fun _ _ _=>rfl) ⟨by simp,.inr ⟨w.heap.size,n,_,rfl,Nat.zero_le _,h2.holds _ (List.mem_cons_self ..),Nat.zero_le _,by simp only[maxLen];omega,?_,by simp⟩⟩ (fun k hk=>?_)
  simp[madeCells]
  have hkb:k=w.heap.size:=by simp[AB,Value.ownBlock]at hk;exact hk.symm
  subst hkb
  exact⟨.inl rfl,(h2.foot _ (List.mem_cons_self ..) _ rfl).1⟩) (fun b=>hs _) (fun b=>h _)
theorem CO{K':Nat→Prop}{w1:World}(hl:∀x,(enc x).length=sz)(h:(AB e sz v enc xs).holds w1∧∀k,(AB e sz v enc xs).foot k→K' k):B6 K' w1 enc sz v xs:=by
 have hrow:w1.ownsRow 0 e sz v xs.length (xs.flatMap enc):=h.1
 refine⟨hl,?_⟩
 rcases hrow.2 with⟨rfl,h0⟩ | ⟨g,cap,cur,rfl,_,hg,hc,_⟩
 exact .inl ⟨_,rfl,List.length_eq_zero_iff.1 h0⟩
 refine .inr ⟨g,0,cap,rfl,hc,fun j u hu=>⟨h.2 g rfl,?_⟩⟩
 have:=(World.ownsRowF_of hrow).cells (g:=g) rfl j u hu
 rw[Ci]at this
 exact this
theorem uD:∀s:List UInt8,s.flatMap Fg=s.map fun b=>ES b
 | []=>rfl
 | b::r=>by rw[List.flatMap_cons,uD r];rfl
theorem Gt{src dst:TypeId}{s:List UInt8}(k:Nat)(ho:At ops N l o t (.convert src dst x))(hs:P.underlying src=some (.slice e))(he:P.underlying e=some (.int .u8))(hd:P.underlying dst=some .string)(hx:Bi l x=some v)
(hk:(bif tk then Hs else H)[k]? = some (AB e 1 v Fg s))
(h:SL P ro K w0 N ops Hs items Q D ((t,vS s)::l) H):SL P ro K w0 N ops Hs (.cons (tk,o) items) Q D l H:=
 SL.val ho rfl (fun a w ha hsw=>by
  have hrow:w.ownsRow 0 e 1 v s.length (s.flatMap Fg):=hsw.holds _ (List.mem_of_getElem? hk)
  rw[uD]at hrow
  rcases hrow.2 with⟨rfl,h0⟩ | ⟨g,cap,cur,rfl,_⟩
  have:s=[]:=List.length_eq_zero_iff.1 h0
  subst this
  have h0:(convert src dst (.slice none 0 0)).run P w=.ok (vS []) w:=by
   rw[run_convert_bytes_string w src dst e none 0 0 hs he hd]
   simp[Conv.bytesToString]
   rfl
  simp[execOp,ho.op,ha.eval hx,h0]
  simp[execOp,ho.op,ha.eval hx,Yp hs he hd rfl ((World.ownsRowF_of hrow).cells rfl)]) h
theorem CL{b n cap:Nat}(k:Nat)(_hl:∀x,(enc x).length=sz)(hk:L[k]? = some (AB e sz (.slice (some ⟨b,0,none⟩) n cap) enc xs)):∀w,GY K w0 L w→∀j u,(xs.flatMap enc)[j]? = some u→w.cell? (Addr.add ⟨b,0,none⟩ j)=some u:=by
 intro w hw j u hu
 have hrow:w.ownsRow 0 e sz (.slice (some ⟨b,0,none⟩) n cap) xs.length (xs.flatMap enc):=hw.holds _ (List.mem_of_getElem? hk)
 exact(World.ownsRowF_of hrow).cells (g:=b) rfl j u hu
theorem TZ{w:World}(t ty e:TypeId)(i:TypeInfo)(ht:P.underlying t=some (.slice e))(hi:P.info? e=some i)
(v:Value)(n:Nat)(xs:List Value)(hown:w.ownsRow 0 e sz v n xs):(Builtin.append_ #[t,t] ty #[v,zN]).run P w=.ok v w:=by
 rcases hown.2 with⟨rfl,rfl⟩ | ⟨g,cap,cur,rfl,_,_,hnc,_⟩
 simp[Builtin.append_,An ht,sizeOf,typeInfo,hi,Builtin.lenOf,Builtin.firstCells]
 simp[Builtin.append_,An ht,sizeOf,typeInfo,hi,Builtin.lenOf,Builtin.firstCells,hnc,storeCells]
theorem cz{by_:Nat}{zv:Value}(k:Nat)(ho:At ops N l o t (.call { callee:=.builtin .append,args:=#[x,y],argTypes:=#[ty,ty] }))
(hty:P.underlying ty=some (.slice e))(hsz:DP P e=some sz)(hby:Ph P e=some by_)(hze:EP P e=some zv)
(hx:Bi l x=some v)(hy:Bi l y=some zN)(hk:H[k]? = some (AB e sz v enc xs))(hs:Ec Hs H)
(h:SL P ro K w0 N ops Hs items Q D ((t,v)::l) H):SL P ro K w0 N ops Hs (.cons (false,o) items) Q D l H:=
 Gu (fun _:Unit=>v) (fun _=>H) ho rfl (fun a w ha hw=>by
  obtain⟨ii,hii,e1,e2,e3⟩:=PT hsz hby hze
  have hrow:w.ownsRow 0 e sz v xs.length (xs.flatMap enc):=hw.holds _ (List.mem_append_left _ (List.mem_of_getElem? hk))
  have hr:=TZ (P:=P) ty o.type e ii hty hii v xs.length _ hrow
  refine⟨(),w,?_,hw⟩
  unfold execOp
  simp only[ho.op,resolve,invoke,builtin,Sem.run_bind,Sem.run_pure,Result.andThen_ok,List.map_toArray,List.map_cons,List.map_nil,ha.eval hx,ha.eval hy,hr]) (fun _=>hs) (fun _=>h)
theorem Z3{c:AV}{k:Nat}(hk:H[k]? = some c):H.set k c=H:=by
 obtain⟨hl,hg⟩:=List.getElem?_eq_some_iff.1 hk
 rw[←hg];exact List.set_getElem_self hl
theorem ZW{by_:Nat}(hn:DR by_ xs []=some us):us=xs:=by
 unfold DR at hn
 split at hn
 simpa using hn.symm
 cases hn
theorem R6{by_:Nat}{zv u:Value}{new:List α}(k:Nat)(hn:DR by_ xs new=some us)(hu:B6 K w0 enc sz u new)(hl:∀x,(enc x).length=sz)(ho:At ops N l o t (.call { callee:=.builtin .append,args:=#[x,y],argTypes:=#[ty,ty] }))
(hty:P.underlying ty=some (.slice e))(hsz:DP P e=some sz)(hby:Ph P e=some by_)(hze:EP P e=some zv)(hzs:zv.cells.size=sz)(hsz0:0<sz)
(hx:Bi l x=some v)(hy:Bi l y=some u)(hk:H[k]? = some (AB e sz v enc xs))(h1:∀a,∀u∈enc a,u.oneCell'=true)
(hs:∀v',Ec Hs (H.set k (AB e sz v' enc us)))
(h:∀v',SL P ro K w0 N ops Hs items Q D ((t,v')::l) (H.set k (AB e sz v' enc us))):SL P ro K w0 N ops Hs (.cons (false,o) items) Q D l H:=by
 rcases hu.at_ with⟨a0,rfl,rfl⟩ | ⟨b,off,cap,rfl,_,hc⟩
 cases a0 with
 | some ad=>exact C5 k hn hl ho hty hsz hby hze hzs hsz0 hx hy rfl hk (fun w hw j u hj=>by simp at hj) h1 hs h
 | none=>
  obtain rfl:=ZW hn
  have h2:=hs v
  have h3:=h v
  rw[Z3 hk]at h2 h3
  exact cz k ho hty hsz hby hze hx hy hk h2 h3
 refine C5 k hn hl ho hty hsz hby hze hzs hsz0 hx hy E hk (fun w hw j u hj=>?_) h1 hs h
 obtain⟨hb,hcell⟩:=hc j u hj
 rw[Ci]
 exact PE (L:=H) hb hcell w hw
theorem kj{by_:Nat}{zv u:Value}{new:List α}(k k2:Nat)(hn:DR by_ xs new=some us)(hl:∀x,(enc x).length=sz)(ho:At ops N l o t (.call { callee:=.builtin .append,args:=#[x,y],argTypes:=#[ty,ty] }))
(hty:P.underlying ty=some (.slice e))(hsz:DP P e=some sz)(hby:Ph P e=some by_)(hze:EP P e=some zv)(hzs:zv.cells.size=sz)(hsz0:0<sz)
(hx:Bi l x=some v)(hy:Bi l y=some u)(hk:H[k]? = some (AB e sz v enc xs))(hk2:H[k2]? = some (AB e sz u enc new))(h1:∀a,∀u∈enc a,u.oneCell'=true)
(hs:∀v',Ec Hs (H.set k (AB e sz v' enc us)))
(h:∀v',SL P ro K w0 N ops Hs items Q D ((t,v')::l) (H.set k (AB e sz v' enc us))):SL P ro K w0 N ops Hs (.cons (false,o) items) Q D l H:=by
 intro a w ha hw hs0
 have hrow:w.ownsRow 0 e sz u new.length (new.flatMap enc):=hw.holds _ (List.mem_append_left _ (List.mem_of_getElem? hk2))
 rcases hrow.2 with⟨rfl,h0⟩ | ⟨g,cap,cur,rfl,_⟩
 have:new=[]:=List.length_eq_zero_iff.1 h0
 subst this
 obtain rfl:=ZW hn
 have h2:=hs v
 have h3:=h v
 rw[Z3 hk]at h2 h3
 exact cz k ho hty hsz hby hze hx hy hk h2 h3 a w ha hw hs0
 exact C5 k hn hl ho hty hsz hby hze hzs hsz0 hx hy E hk (CL k2 hl hk2) h1 hs h a w ha hw hs0
theorem B6.nil(hl:∀x,(enc x).length=sz):B6 K w0 enc sz zN []:=⟨hl,.inl ⟨_,rfl,rfl⟩⟩
end rows
theorem Ai{u:Value}(ho:At ops N l o t (.assign x))(hx:Bi l x=some v)(hu:v=u)(h:SL P ro K w0 N ops Hs items Q D ((t,u)::l) H):SL P ro K w0 N ops Hs (.cons (tk,o) items) Q D l H:=
 gr ho (by rw[hx,hu]) h
theorem aE{c:Code}(l':Tm)(H':List AV)(h:SX P ro K w0 N c Q D l' H')(e1:Rf l' l)(e2:H=H':=by rfl):SX P ro K w0 N c Q D l H:=by
 subst e2;exact h.mono e1
def midD{α:Type}(K:Nat→Prop)(w0:World)(N:Nat)(p:α→Prop)(I:α→Tm)(G:α→List AV)(Q:DQ):DQ
 | .normal,a,w=>∃x D,p x∧MU N D (I x) a∧BX K w0 (G x++[BR D]) w
 | e,a,w=>Q e a w
theorem A9{α:Type}(p:α→Prop)(I:α→Tm)(G:α→List AV){c y:Code}(h:SX P ro K w0 N c (midD K w0 N p I G Q) D l H)(h2:∀x D,p x→SX P ro K w0 N y Q D (I x) (G x)):SX P ro K w0 N (.seq c y) Q D l H:=by
 intro a w ha hw
 refine wpIn_seq (wpIn_mono (h a w ha hw) ?_)
 intro e a w q
 cases e with
 | normal=>
  obtain⟨x,D',hx,ha,hw⟩:=q
  exact h2 x D' hx a w ha hw
 | _=>exact q
theorem Aq{α:Type}{p:α→Prop}{I:α→Tm}{G:α→List AV}(x:α)(hp:p x)(hl:Rf (I x) l)(hH:∀w,BX K w0 (H++[BR D]) w→BX K w0 (G x++[BR D]) w):
  SQ K w0 N (Go.Proofs.YtpaohlmgfifebaaGreatDoor.midD K w0 N p I G Q) .normal D l H:=fun _a w ha hw=>⟨x,D,hp,ha.mono hl,hH w hw⟩
theorem jW{α:Type}{p:α→Prop}{I:α→Tm}{G:α→List AV}{i:Nat}(h:SQ K w0 N Q (.exit i) D l H):SQ K w0 N (Go.Proofs.YtpaohlmgfifebaaGreatDoor.midD K w0 N p I G Q) (.exit i) D l H:=h
theorem F9{α:Type}{p:α→Prop}{I:α→Tm}{G:α→List AV}(h:SQ K w0 N Q .ret D l H):SQ K w0 N (Go.Proofs.YtpaohlmgfifebaaGreatDoor.midD K w0 N p I G Q) .ret D l H:=h
theorem GM(t n tt:Nat){b y:Bool}{C:Option Bool}(hy:It b C=some y)(hb:look l t=some (.bool b))
(ht:b=true→C=some y→SL P ro K w0 N ops Hs (items.drop n) Q D ((tt,.bool y)::(t,.bool true)::Mn t l) H→SL P ro K w0 N ops Hs items Q D ((t,.bool true)::Mn t l) H)
(hf:b=false→SL P ro K w0 N ops Hs (items.drop n) Q D ((tt,.bool false)::(t,.bool false)::Mn t l) H→SL P ro K w0 N ops Hs items Q D ((t,.bool false)::Mn t l) H)
(h:SL P ro K w0 N ops Hs (items.drop n) Q D ((tt,.bool y)::l) H):SL P ro K w0 N ops Hs items Q D l H:=by
 refine Ow t hb (fun e=>?_) (fun e=>?_)
 subst e;exact MS (ht rfl hy (h.join hb))
 subst e
 obtain rfl:false=y:=zI hy
 exact MS (hf E (h.join hb))
theorem Oc(t n tt:Nat){b y:Bool}{C:Option Bool}(hy:Sq b C=some y)(hb:look l t=some (.bool b))
(ht:b=true→SL P ro K w0 N ops Hs (items.drop n) Q D ((tt,.bool true)::(t,.bool true)::Mn t l) H→SL P ro K w0 N ops Hs items Q D ((t,.bool true)::Mn t l) H)
(hf:b=false→C=some y→SL P ro K w0 N ops Hs (items.drop n) Q D ((tt,.bool y)::(t,.bool false)::Mn t l) H→SL P ro K w0 N ops Hs items Q D ((t,.bool false)::Mn t l) H)
(h:SL P ro K w0 N ops Hs (items.drop n) Q D ((tt,.bool y)::l) H):SL P ro K w0 N ops Hs items Q D l H:=by
 refine Ow t hb (fun e=>?_) (fun e=>?_)
 subst e
 obtain rfl:true=y:=zI hy
 exact MS (ht E (h.join hb))
 subst e;exact MS (hf rfl hy (h.join hb))
theorem II{xs ys:Array Value}:GL [] xs ys=some true:=rfl
theorem CI{i:Nat}{d:TypeDesc}{r:List (Nat×TypeDesc)}{xs ys:Array Value}{u v:Value}{p q:Bool}(hx:xs[i]? = some u)(hy:ys[i]? = some v)(he:UH d u v=some p)(hr:GL r xs ys=some q):GL ((i,d)::r) xs ys=some (p&&q):=by
 simp[GL,hx,hy,he,hr]
theorem RC{k:IntKind}{a b:Int}:UH (.int k) (.int k a) (.int k b)=some (decide (a=b)):=by
 simp only[UH,if_true]
 congr 1
theorem IN{a b:UInt32}:UH (.int .u32) (Y a) (Y b)=some (decide (a=b)):=by
 rw[RC];congr 1;rw[Bool.eq_iff_iff,decide_eq_true_eq,decide_eq_true_eq,←UInt32.toNat_inj];omega
theorem XP{a b:UInt64}:UH (.int .u64) (AT a) (AT b)=some (decide (a=b)):=by
 rw[RC];congr 1;rw[Bool.eq_iff_iff,decide_eq_true_eq,decide_eq_true_eq,←UInt64.toNat_inj];omega
theorem SZ{a b:List UInt8}:UH .string (vS a) (vS b)=some (decide (a=b)):=by
 simp only[UH,Ud];congr 1;rw[Bool.eq_iff_iff];simp
theorem nn{src dst:TypeId}{d:TypeDesc}{k:IntKind}{n:Int}(hs:P.underlying src=some d)(hd:P.underlying dst=some (.int .i64)):Cv P src dst (.int k n) (vI (wI n)):=Cv.int hs hd rfl
theorem Mg{α:Type}{b m:Nat}{xs:List α}{k:IntKind}{i:Int}{c:α}{ty e:TypeId}(hn:BB xs i=some c)(ho:At ops N l o t (.indexAddr ty x y))(hty:P.underlying ty=some (.array m e))(hsz:DP P e=some 1)(hx:Bi l x=some (vP b 0))(hy:Bi l y=some (.int k i))
(hln:xs.length=m)(h:SL P ro K w0 N ops Hs items Q D ((t,vP b i.toNat)::l) H):SL P ro K w0 N ops Hs (.cons (tk,o) items) Q D l H:=by
 obtain⟨h1,h2,h3⟩:=E2 hn
 exact DC ho hty hsz hx hy h1 zO h
structure JO(K:Nat→Prop)(w0:World)(g:Nat)(n:Nat)(T:List UInt32):Prop where
 tab:TU K w0 g T
 len:T.length=n
theorem JO.keeps{g n:Nat}{T:List UInt32}{K':Nat→Prop}{w1:World}(h:JO K w0 g n T)(hk:XU K w0 K' w1):JO K' w1 g n T:=⟨h.tab.keeps hk,h.len⟩
theorem qp{g n:Nat}{T:List UInt32}{i:Int}{c:UInt32}(h:JO K w0 g n T)(hn:BB T i=some c):∀w,GY K w0 L w→w.cell? ⟨g,i.toNat,none⟩=some (Y c):=
 PE (ad:=⟨g,i.toNat,none⟩) h.tab.keep (h.tab.cell _ _ (E2 hn).2.2)
end

section
open Go Go.ChangeShapes Go.WideShapes Go.ChangeAt Go.RowKit
theorem dZ:Q9.length=64:=by decide
theorem rA:Tryz.prog.globalNamed "sphragis/sphragisref02.table" = some 2:=zK
theorem sO:(Tryz.prog.globals[2]?).map (·.type)=some 376:=zK
theorem kQ{W:World}(h:laidMetH Tryz.prog [("sphragis/sphragisref02.table", Rows.laid_sphragis_sphragisref02_table),("sphragis/sha.first", Rows.laid_sphragis_sha_first),("sphragis/sha.constants", Rows.laid_sphragis_sha_constants)] W):Ge (· < W.heap.size) W Q9∧JO (· < W.heap.size) W 2 64 Q9:=by
 have h0:laidMet Tryz.prog [("sphragis/sphragisref02.table", Lib.tabData .u32 U4),("sphragis/sha.first", Lib.tabData .u32 bP),("sphragis/sha.constants", Lib.tabData .u32 U4)] W:=h
 refine⟨nG (Wh h0),cV rA (Lib.tabIs_of_head rA sO Tryz.underlying376 Tryz.underlying36 Vu YB h0) (by simp[Q9]) zK,dZ⟩
noncomputable def bZ(os:Os):World:=
 { World.holding Tryz.prog os ⟨#[],#[],[]⟩with heap:=(((World.holding Tryz.prog os ⟨#[],#[],[]⟩).heap.modify 1 (mV bP)).modify 3 (mV U4)).modify 2 (mV U4) }
end

section
theorem Et{α β:Type}{F:(α→Option β)→α→Option β}(I:Nat→α)(N:Nat){z:Option β}(hs:∀i,i<N→∀k,F k (I i)=k (I (i+1)))(he:∀k,F k (I N)=z){m:Nat}(hm:N<m):CN F m (I 0)=z:=by
 have key:∀d i m,i+d=N→d<m→CN F m (I i)=z:=by
  intro d
  induction d with
  | zero=>
   intro i m hi hm
   obtain rfl:i=N:=zO
   obtain⟨m,rfl⟩:∃k,m=k+1:=⟨m-1,by omega⟩
   exact he _
  | succ d ih=>
   intro i m hi hm
   obtain⟨m,rfl⟩:∃k,m=k+1:=⟨m-1,by omega⟩
   show F (CN F m) (I i)=z
   rw[hs i zO]
   exact ih (i+1) m zO zO
 exact key N 0 m zO hm
theorem jz{α β:Type}{F:(α→Option β)→α→Option β}(I:Nat→α)(Z9:Nat→Option β)(N:Nat)(hs:∀i,i<N→∀k,k (I (i+1))=Z9 (i+1)→F k (I i)=Z9 i)(he:∀k,F k (I N)=Z9 N){m:Nat}(hm:N<m):CN F m (I 0)=Z9 0:=by
 have key:∀d i m,i+d=N→d<m→CN F m (I i)=Z9 i:=by
  intro d
  induction d with
  | zero=>
   intro i m hi hm
   obtain rfl:i=N:=zO
   obtain⟨m,rfl⟩:∃k,m=k+1:=⟨m-1,by omega⟩
   exact he _
  | succ d ih=>
   intro i m hi hm
   obtain⟨m,rfl⟩:∃k,m=k+1:=⟨m-1,by omega⟩
   show F (CN F m) (I i)=Z9 i
   exact hs i zO _ (ih (i+1) m zO zO)
 exact key N 0 m zO hm
theorem j0{α β:Type}{F:(α→Option β)→α→Option β}(I:Nat→α)(p:Nat→Prop)(N:Nat){z:Option β}(hs:∀i,i<N→p i→∀k,(p (i+1)→k (I (i+1))=z)→F k (I i)=z)(he:p N→∀k,F k (I N)=z)(h0:p 0){m:Nat}(hm:N<m):CN F m (I 0)=z:=by
 have key:∀d i m,i+d=N→d<m→p i→CN F m (I i)=z:=by
  intro d
  induction d with
  | zero=>
   intro i m hi hm hp
   obtain rfl:i=N:=zO
   obtain⟨m,rfl⟩:∃k,m=k+1:=⟨m-1,by omega⟩
   exact he hp _
  | succ d ih=>
   intro i m hi hm hp
   obtain⟨m,rfl⟩:∃k,m=k+1:=⟨m-1,by omega⟩
   show F (CN F m) (I i)=z
   exact hs i zO hp _ (ih (i+1) m zO zO)
 exact key N 0 m zO hm h0
theorem Dp{α:Type}{l:List α}{i:Nat}:BB l (i:Int)=l[i]? := by simp[BB]
theorem Lm{α:Type}{l:List α}{i:Int}{k:Nat}(h:i=(k:Int)):BB l i=l[k]? := by rw[h,Dp]
theorem C9{α:Type}{l:List α}{i:Int}{k:Nat}(d:α)(h:i=(k:Int))(hk:k<l.length):BB l i=some (l.getD k d):=by rw[Lm h,Jq d hk]
theorem Je{α:Type}{l:List α}{i:Int}{k:Nat}{a:α}(h:i=(k:Int))(hk:k<l.length):Ma l i a=some (l.set k a):=by
 subst h
 unfold Ma
 rw[if_pos zO]
 simp
theorem ed{α:Type}{l:List α}{i j:Int}{p q:Nat}(hi:i=(p:Int))(hj:j=(q:Int))(h1:p≤q)(h2:q≤l.length):Ix l i j=some ((l.drop p).take (q-p)):=by
 subst hi;subst hj
 unfold Ix
 rw[if_pos zO]
 simp
theorem Do{α:Type}{b:Nat}{s t:List α}(h:(s.length+t.length)*b≤140737488355328)(h2:s.length+t.length≤9223372036854775807):DR b s t=some (s++t):=if_pos ⟨h,h2⟩
theorem Ev{s t:List UInt8}(h:s.length+t.length≤9223372036854775807):ET s t=some (s++t):=if_pos h
theorem Vc{i:Nat}:Qq (i:Int)=some i:=by simp[Qq]
theorem VZ{a b:Nat}(hb:b≠0):Tx (a:Int) (b:Int)=some ((a%b:Nat):Int):=by
 unfold Tx
 rw[if_neg zO,Int.tmod_eq_emod_of_nonneg zO]
 rfl
theorem eQ{a b:Nat}(hb:b≠0)(ha:a≤9223372036854775807):VY (a:Int) (b:Int)=some ((a / b:Nat):Int):=by
 unfold VY
 have h1:a / b≤a:=Nat.div_le_self _ _
 rw[if_neg zO,Int.tdiv_eq_ediv_of_nonneg zO,show((a:Int) / (b:Int))=((a / b:Nat):Int)from rfl]
 generalize a / b=q at h1 ⊢
 rw[Cm zO zO]
theorem AA{α β:Type}{a:α}{f:α→Option β}:(some a).bind f=f a:=by simp
theorem Be{α β:Type}{e:α}{k:α→β}:ret e k=k e:=by simp[ret]
theorem Wj{α β:Type}{F:(α→Option β)→α→Option β}{m:Nat}{a:α}:CN F (m+1) a=F (CN F m) a:=by rw[CN]
end

section
open Go Go.MapKept Go.ChangeMaps
variable {P:Program}{ro:Option Nat}{K:Nat→Prop}{w0:World}{N:Nat}{Q:DQ}{D:List Nat}{l l':Tm}{H H' Hs L:List AV}{ops:Array Oper}{items:Hd}
variable {tk:Bool}{o:Oper}{t:Nat}{v:Value}{x y z:Operand}
theorem QN{α β:Type}(f:α→β){l:List α}(h:(l.map f).Nodup):l.Nodup:=(List.pairwise_map.1 h).imp fun hne e=>hne (congrArg f e)
theorem Nk{α:Type}:∀ {l l':List α},l.Nodup→(∀a∈l,a∈l')→l.length≤l'.length
  | [],_,_,_=>by simp
  | a::r,l',hn,hs=>by
    obtain⟨h1,h2⟩:=List.nodup_cons.1 hn
    obtain⟨p,q,rfl⟩:=List.append_of_mem (hs a (List.mem_cons_self ..))
    have:=Nk (l':=p++q) h2 (fun b hb=>by
      have hb':=hs b (List.mem_cons_of_mem _ hb)
      simp only[List.mem_append,List.mem_cons]at hb' ⊢
      rcases hb' with h | rfl | h
      exact .inl h
      exact absurd hb h1
      exact .inr h)
    simp at this ⊢
    omega
section gM
variable {κ α:Type}[DecidableEq κ]
def Cd(m:List (κ×α))(k:κ):Option α:=(m.find? fun p=>decide (p.1=k)).map (·.2)
def EU(m:List (κ×α))(k:κ):List (κ×α):=m.filter fun p=>decide (p.1≠k)
def In(m:List (κ×α))(k:κ)(a:α):List (κ×α):=(k,a)::EU m k
theorem UQ{m:List (κ×α)}{k:κ}(h:∀p∈m,p.1≠k):Cd m k=none:=by
  unfold Cd
  rw[List.find?_eq_none.2 (fun p hp=>by simpa using h p hp)]
  rfl
theorem UR{m:List (κ×α)}(hn:(m.map (·.1)).Nodup){p:κ×α}(hp:p∈m):Cd m p.1=some p.2:=by
  induction m with
  | nil=>cases hp
  | cons q r ih=>
    simp only[List.map_cons,List.nodup_cons]at hn
    unfold Cd
    rcases List.mem_cons.1 hp with rfl | hp
    simp
    have hne:q.1≠p.1:=fun e=>hn.1 (by rw[e];exact List.mem_map_of_mem hp)
    rw[List.find?_cons_of_neg (by simpa using hne)]
    exact ih hn.2 hp
theorem O1{m:List (κ×α)}{k:κ}(h:∀p∈m,p.1≠k):EU m k=m:=List.filter_eq_self.2 (fun p hp=>by simpa using h p hp)
theorem Wk{m:List (κ×α)}(hn:(m.map (·.1)).Nodup){p:κ×α}(hp:p∈m):m.Perm (p::EU m p.1):=by
  induction m with
  | nil=>cases hp
  | cons q r ih=>
    simp only[List.map_cons,List.nodup_cons]at hn
    rcases List.mem_cons.1 hp with rfl | hp
    have h1:EU (p::r) p.1=r:=by
      unfold EU
      rw[List.filter_cons_of_neg zS]
      exact O1 fun q hq e=>hn.1 (by rw[←e];exact List.mem_map_of_mem hq)
    rw[h1]
    have hne:q.1≠p.1:=fun e=>hn.1 (by rw[e];exact List.mem_map_of_mem hp)
    have h1:EU (q::r) p.1=q::EU r p.1:=by
      unfold EU
      rw[List.filter_cons_of_pos (by simpa using hne)]
    rw[h1]
    exact((ih hn.2 hp).cons q).trans (List.Perm.swap _ _ _)
theorem eA{m:List (κ×α)}{k:κ}(hn:(m.map (·.1)).Nodup):((EU m k).map (·.1)).Nodup:=hn.sublist (List.Sublist.map _ (List.filter_sublist ..))
theorem V2{m:List (κ×α)}{k j:κ}{a:α}:Cd (In m k a) j=if k=j then some a else Cd m j:=by
  unfold In Cd
  by_cases h:k=j
  rw[if_pos h,List.find?_cons_of_pos (by simpa using h)];rfl
  rw[if_neg h,List.find?_cons_of_neg (by simpa using h)]
  congr 1
  unfold EU
  rw[List.find?_filter]
  congr 1
  funext p
  by_cases hj:p.1=j
  simp[hj,Ne.symm h]
  simp[hj]
end gM
structure NK(P:Program)(k:TypeId){κ α:Type}(ek:κ→Value)(ev:α→Value):Prop where
  keyed:Go.Maps.Keyed P k
  lit:∀x,∃l,keyOf P k (ek x)=some l
  dk:∃f:Value→Option κ,∀x,f (ek x)=some x
  dv:∃f:Value→Option α,∀x,f (ev x)=some x
theorem NK.inj{k:TypeId}{κ α:Type}{ek:κ→Value}{ev:α→Value}(E9:NK P k ek ev){x y:κ}(h:ek x=ek y):x=y:=by
  obtain⟨f,hf⟩:=E9.dk
  have:=hf x
  rw[h,hf y]at this
  exact(zI this).symm
theorem Vg{k:TypeId}(hk:P.underlying k=some (.int .u32))(a:UInt32):∃l,keyOf P k (Y a)=some l:=
  ⟨_,Maps.keyOf_int_mk hk (by have:=a.toNat_lt;simp[Lit.wf,IntKind.min,IntKind.max,IntKind.signed,IntKind.bits];omega)⟩
theorem T4{k:TypeId}(hk:P.underlying k=some (.int .u32)):NK P k Y vS:=
  ⟨Maps.int_keyed hk,Vg hk,⟨fun v=>match v with | .int _ a=>some (UInt32.ofNat a.toNat) | _=>none,fun x=>by simp⟩,⟨fun v=>match v with | .string b=>some b.data.toList | _=>none,fun x=>rfl⟩⟩
theorem Qt{k:TypeId}(hk:P.underlying k=some (.int .u32)):NK P k Y vB:=
  ⟨Maps.int_keyed hk,Vg hk,⟨fun v=>match v with | .int _ a=>some (UInt32.ofNat a.toNat) | _=>none,fun x=>by simp⟩,⟨fun v=>match v with | .bool b=>some b | _=>none,fun x=>rfl⟩⟩
section maps
variable {κ α:Type}{ek:κ→Value}{ev:α→Value}{m:List (κ×α)}{k:TypeId}{b:Nat}
def Mf(ek:κ→Value)(ev:α→Value)(m:List (κ×α))(es:Array MapEntry)(clock:Nat):Prop:=
  Stamped es clock∧es.size≤maxLen∧(es.toList.map fun e=>(e.key,e.val)).Perm (m.map fun p=>(ek p.1,ev p.2))
def Aa(b:Nat)(ek:κ→Value)(ev:α→Value)(m:List (κ×α)):AV:=
  ⟨(·=b),fun w=>∃es clock,w.heap[b]? = some (.map es clock)∧Mf ek ev m es clock,fun w w' h ⟨es,c,h1,h2⟩=>⟨es,c,by rw[h _ rfl];exact h1,h2⟩⟩
theorem Mf.mem{es:Array MapEntry}{clock:Nat}(h:Mf ek ev m es clock){e:MapEntry}(he:e∈es.toList):∃p∈m,e.key=ek p.1∧e.val=ev p.2:=by
  have:=h.2.2.mem_iff.1 (List.mem_map_of_mem (f:=fun e:MapEntry=>(e.key,e.val)) he)
  obtain⟨p,hp,e1⟩:=List.mem_map.1 this
  simp only[Prod.mk.injEq]at e1
  exact⟨p,hp,e1.1.symm,e1.2.symm⟩
theorem Mf.nodup{es:Array MapEntry}{clock:Nat}(h:Mf ek ev m es clock):(m.map (·.1)).Nodup:=by
  have h1:(es.toList.map (·.key)).Nodup:=h.1.2.2
  have h2:(es.toList.map (·.key)).Perm (m.map fun p=>ek p.1):=by
    have:=h.2.2.map (·.1)
    simpa[List.map_map,Function.comp_def]using this
  have h3:(m.map fun p=>ek p.1).Nodup:=h2.nodup_iff.1 h1
  have h4:(m.map fun p=>ek p.1)=(m.map (·.1)).map ek:=by simp
  rw[h4]at h3
  exact QN _ h3
theorem Mf.keys{es:Array MapEntry}{clock:Nat}(E9:NK P k ek ev)(h:Mf ek ev m es clock):∀e∈es.toList,∃l,keyOf P k e.key=some l:=fun e he=>by
  obtain⟨p,_,e1,_⟩:=h.mem he
  rw[e1]
  exact E9.lit _
theorem Mf.size_eq{es:Array MapEntry}{clock:Nat}(h:Mf ek ev m es clock):es.size=m.length:=by
  have:=h.2.2.length_eq
  simpa using this
variable [DecidableEq κ]
theorem Mf.look{es:Array MapEntry}{clock:Nat}{w:World}(E9:NK P k ek ev)(h:Mf ek ev m es clock)(hb:w.heap[b]? = some (.map es clock)){ty e:TypeId}(ht:P.underlying ty=some (.map k e)){zv:α}(hz:EP P e=some (ev zv))(key:κ)(c:Bool):
    (Instr.lookup ty (.map (some b)) (ek key) c).run P w=.ok (if c then .tuple #[ev ((Cd m key).getD zv),.bool (Cd m key).isSome]else ev ((Cd m key).getD zv)) w:=by
  obtain⟨lx,hl⟩:=E9.lit key
  rcases E9.keyed.find w hl es.toList (h.keys E9)with⟨h1,h2⟩ | ⟨j,e0,h1,h2,h3⟩
  have hg:Cd m key=none:=UQ fun p hp e=>by
    have:=h.2.2.mem_iff.2 (List.mem_map_of_mem (f:=fun p:κ×α=>(ek p.1,ev p.2)) hp)
    obtain⟨e',he',e1⟩:=List.mem_map.1 this
    simp only[Prod.mk.injEq]at e1
    exact h2 e' he' (by rw[e1.1,e])
  simp[Instr.lookup,An ht,MapKept.run_getObj_map hb,E9.keyed.check w _ hl,h1,Nl hz,Result.andThen,hg]
  obtain⟨p,hp,e1,e2⟩:=h.mem (List.mem_of_getElem? h2)
  have hk:p.1=key:=E9.inj (by rw[←e1,h3])
  have hg:=UR h.nodup hp
  rw[hk]at hg
  simp[Instr.lookup,An ht,MapKept.run_getObj_map hb,E9.keyed.check w _ hl,h1,Result.andThen,hg,←e2]
theorem Mf.upd{es:Array MapEntry}{clock:Nat}{w:World}(E9:NK P k ek ev)(h:Mf ek ev m es clock)(hb:w.heap[b]? = some (.map es clock)){ty e:TypeId}(ht:P.underlying ty=some (.map k e))(key:κ)(a:α)(hroom:m.length<9223372036854775807):
    ∃es' clock',(Instr.mapUpdate ty (.map (some b)) (ek key) (ev a)).run P w=.ok () (setBlock w b (.map es' clock'))∧Mf ek ev (In m key a) es' clock':=by
  obtain⟨lx,hl⟩:=E9.lit key
  have hsz:=h.size_eq
  rcases E9.keyed.find w hl es.toList (h.keys E9)with⟨h1,h2⟩ | ⟨j,e0,h1,h2,h3⟩
  have hno:∀p∈m,p.1≠key:=fun p hp e=>by
    have:=h.2.2.mem_iff.2 (List.mem_map_of_mem (f:=fun p:κ×α=>(ek p.1,ev p.2)) hp)
    obtain⟨e',he',e1⟩:=List.mem_map.1 this
    simp only[Prod.mk.injEq]at e1
    exact h2 e' he' (by rw[e1.1,e])
  refine⟨es.push ⟨ek key,ev a,clock⟩,clock+1,?_,stamped_push h.1 h2,by simp only[maxLen,Array.size_push];omega,?_⟩
  simp[Instr.mapUpdate,An ht,MapKept.run_getObj_map hb,E9.keyed.check w false hl,h1,MapKept.run_setObj_map _ hb,Result.andThen,setBlock]
  unfold In
  rw[O1 hno,Array.toList_push,List.map_append,List.map_cons]
  exact(List.perm_append_singleton _ _).trans (h.2.2.cons _)
  have hj:es[j]? = some e0:=by simpa using h2
  have hjl:j<es.toList.length:=(List.getElem?_eq_some_iff.1 h2).1
  obtain⟨p,hp,e1,e2⟩:=h.mem (List.mem_of_getElem? h2)
  have hk:p.1=key:=E9.inj (by rw[←e1,h3])
  have hkeyf:∀e',es[j]? = some e'→({ e' with key:=ek key,val:=ev a }:MapEntry).key=e'.key:=fun e' he'=>by rw[hj]at he';cases he';exact h3.symm
  have hlist:(es.modify j (fun e'=>{ e' with key:=ek key,val:=ev a })).toList=es.toList.set j { e0 with key:=ek key,val:=ev a }:=by rw[Array.toList_modify,modify_eq_set _ _ _ _ h2]
  refine⟨es.modify j (fun e'=>{ e' with key:=ek key,val:=ev a }),clock,?_,stamped_modify h.1 _ _ (fun _ _=>rfl) (fun e' _ he'=>hkeyf e' he'),by simpa using h.2.1,?_⟩
  simp[Instr.mapUpdate,An ht,MapKept.run_getObj_map hb,E9.keyed.check w false hl,h1,hj,h3,E9.keyed.stays w hl,MapKept.run_setObj_map _ hb,Result.andThen,setBlock]
  rw[hlist]
  unfold In
  have hspl:=Wk h.nodup hp
  rw[hk]at hspl
  have p1:es.toList=es.toList.take j++e0::es.toList.drop (j+1):=(FH h2).1
  have p2:es.toList.set j { e0 with key:=ek key,val:=ev a }=es.toList.take j++{ e0 with key:=ek key,val:=ev a }::es.toList.drop (j+1):=by
    rw[List.set_eq_take_append_cons_drop,if_pos hjl]
  rw[p2]
  have q1:((es.toList.take j++es.toList.drop (j+1)).map fun e=>(e.key,e.val)).Perm ((EU m key).map fun p=>(ek p.1,ev p.2)):=by
    have h5:=h.2.2
    rw[p1]at h5
    have h6:=(List.perm_middle (l₁:=es.toList.take j) (a:=e0) (l₂:=es.toList.drop (j+1))).symm.map (fun e:MapEntry=>(e.key,e.val))
    have h7:=(h6.trans h5).trans (hspl.map fun p=>(ek p.1,ev p.2))
    simp only[List.map_cons,e1,e2]at h7
    exact h7.cons_inv
  have h8:=(List.perm_middle (l₁:=es.toList.take j) (a:=({ e0 with key:=ek key,val:=ev a }:MapEntry)) (l₂:=es.toList.drop (j+1))).map (fun e:MapEntry=>(e.key,e.val))
  exact h8.trans (q1.cons _)
theorem Mf.drop{es:Array MapEntry}{clock:Nat}{w:World}(E9:NK P k ek ev)(h:Mf ek ev m es clock)(hb:w.heap[b]? = some (.map es clock)){t2 e rt:TypeId}(ht:P.underlying t2=some (.map k e))(key:κ):
    ∃es',(Builtin.delete_ #[t2,k] rt #[.map (some b),ek key]).run P w=.ok (.tuple #[]) (setBlock w b (.map es' clock))∧Mf ek ev (EU m key) es' clock:=by
  obtain⟨lx,hl⟩:=E9.lit key
  rcases E9.keyed.find w hl es.toList (h.keys E9)with⟨h1,h2⟩ | ⟨j,e0,h1,h2,h3⟩
  have hno:∀p∈m,p.1≠key:=fun p hp e=>by
    have:=h.2.2.mem_iff.2 (List.mem_map_of_mem (f:=fun p:κ×α=>(ek p.1,ev p.2)) hp)
    obtain⟨e',he',e1⟩:=List.mem_map.1 this
    simp only[Prod.mk.injEq]at e1
    exact h2 e' he' (by rw[e1.1,e])
  refine⟨es,?_,by rw[O1 hno];exact h⟩
  simp[Builtin.delete_,An ht,MapKept.run_getObj_map hb,E9.keyed.check w _ hl,h1,MapKept.run_setObj_map _ hb,Result.andThen,setBlock]
  have hjl:j<es.toList.length:=(List.getElem?_eq_some_iff.1 h2).1
  have hjs:j<es.size:=by simpa using hjl
  obtain⟨p,hp,e1,e2⟩:=h.mem (List.mem_of_getElem? h2)
  have hk:p.1=key:=E9.inj (by rw[←e1,h3])
  have hsub:(es.eraseIdxIfInBounds j).toList=es.toList.eraseIdx j:=by
    unfold Array.eraseIdxIfInBounds
    rw[dif_pos hjs]
    simp
  refine⟨es.eraseIdxIfInBounds j,?_,stamped_erase h.1 j,Nat.le_trans (MapFrom.size_erase es j) h.2.1,?_⟩
  simp[Builtin.delete_,An ht,MapKept.run_getObj_map hb,E9.keyed.check w _ hl,h1,MapKept.run_setObj_map _ hb,Result.andThen,setBlock]
  rw[hsub,List.eraseIdx_eq_take_drop_succ]
  have hspl:=Wk h.nodup hp
  rw[hk]at hspl
  have p1:es.toList=es.toList.take j++e0::es.toList.drop (j+1):=(FH h2).1
  have h5:=h.2.2
  rw[p1]at h5
  have h6:=(List.perm_middle (l₁:=es.toList.take j) (a:=e0) (l₂:=es.toList.drop (j+1))).symm.map (fun e:MapEntry=>(e.key,e.val))
  have h7:=(h6.trans h5).trans (hspl.map fun p=>(ek p.1,ev p.2))
  simp only[List.map_cons,e1,e2]at h7
  exact h7.cons_inv
omit [DecidableEq κ]
theorem Fv(w:World)(b:Nat)(o:Obj):setBlock w b o=w.putObj b o:=rfl
theorem TE{ty:TypeId}(ek:κ→Value)(ev:α→Value)(ho:At ops N l o t (.makeMap ty none))(hs:∀b,Ec Hs (Aa b ek ev []::H))
(h:∀b,SL P ro K w0 N ops Hs items Q D ((t,.map (some b))::l) (Aa b ek ev []::H)):SL P ro K w0 N ops Hs (.cons (false,o) items) Q D l H:=
  Gu (fun b=>.map (some b)) (fun b=>Aa b ek ev []::H) ho rfl (fun a w ha hw=>by
    refine⟨w.heap.size,w.alloc (.map #[] 0),?_,?_⟩
    simp[execOp,ho.op,Instr.makeMap]
    have h2:=hw.alloc (.map #[] 0)
    refine h2.turn rfl rfl rfl (Nat.le_refl _) (fun _ _ _=>rfl) ⟨#[],0,h2.holds _ (List.mem_cons_self ..),stamped_empty 0,by simp,by simp⟩ (fun j hj=>?_)
    exact⟨.inl hj,(h2.foot _ (List.mem_cons_self ..) j hj).1⟩) hs h
variable [DecidableEq κ]
theorem XB{ty e:TypeId}{key:κ}{zv:α}(i:Nat)(E9:NK P k ek ev)(ho:At ops N l o t (.lookup ty x y false))(ht:P.underlying ty=some (.map k e))(hz:EP P e=some (ev zv))(hx:Bi l x=some (.map (some b)))(hy:Bi l y=some (ek key))
(hi:(bif tk then Hs else H)[i]? = some (Aa b ek ev m))(h:SL P ro K w0 N ops Hs items Q D ((t,ev ((Cd m key).getD zv))::l) H):SL P ro K w0 N ops Hs (.cons (tk,o) items) Q D l H:=
  SL.val ho rfl (fun a w ha hsw=>by
    obtain⟨es,clock,hb,hr⟩:=hsw.holds _ (List.mem_of_getElem? hi)
    have:=hr.look E9 hb ht hz key false
    simp[execOp,ho.op,ha.eval hx,ha.eval hy,this]) h
theorem ZS{ty e:TypeId}{key:κ}{zv:α}(i:Nat)(E9:NK P k ek ev)(ho:At ops N l o t (.lookup ty x y true))(ht:P.underlying ty=some (.map k e))(hz:EP P e=some (ev zv))(hx:Bi l x=some (.map (some b)))(hy:Bi l y=some (ek key))
(hi:(bif tk then Hs else H)[i]? = some (Aa b ek ev m))(h:SL P ro K w0 N ops Hs items Q D ((t,.tuple #[ev ((Cd m key).getD zv),.bool (Cd m key).isSome])::l) H):SL P ro K w0 N ops Hs (.cons (tk,o) items) Q D l H:=
  SL.val ho rfl (fun a w ha hsw=>by
    obtain⟨es,clock,hb,hr⟩:=hsw.holds _ (List.mem_of_getElem? hi)
    have:=hr.look E9 hb ht hz key true
    simp[execOp,ho.op,ha.eval hx,ha.eval hy,this]) h
theorem oA{ty e:TypeId}{key:κ}{a:α}{z:Operand}(i:Nat)(E9:NK P k ek ev)(ho:At0 ops l o (.mapUpdate ty x y z))(ht:P.underlying ty=some (.map k e))(hx:Bi l x=some (.map (some b)))(hy:Bi l y=some (ek key))(hz:Bi l z=some (ev a))
(hi:H[i]? = some (Aa b ek ev m))(hroom:m.length<9223372036854775807)(hs:Ec Hs (H.set i (Aa b ek ev (In m key a))))(h:SL P ro K w0 N ops Hs items Q D l (H.set i (Aa b ek ev (In m key a)))):SL P ro K w0 N ops Hs (.cons (false,o) items) Q D l H:=
  Vl ho rfl (fun a' w ha hw=>by
    obtain⟨es,clock,hb,hr⟩:=hw.holds _ (List.mem_append_left _ (List.mem_of_getElem? hi))
    obtain⟨es',clock',hrun,hr'⟩:=hr.upd E9 hb ht key a hroom
    obtain⟨hlt,_⟩:=Array.getElem?_eq_some_iff.1 hb
    refine⟨_,by simp[execOp,ho.op,ha.eval hx,ha.eval hy,ha.eval hz,hrun];rfl,?_⟩
    refine hw.turnAt (c:=Aa b ek ev m) i hi rfl rfl rfl (by simp[Fv]) (fun j hj hne=>World.putObj_heap_other (fun e=>hne (by rw[e];rfl))) ⟨es',clock',World.putObj_heap_same hlt,hr'⟩ (fun j hj=>⟨.inl hj,?_⟩)
    obtain rfl:j=b:=hj
    simpa[Fv]using hlt) hs h
theorem ny{ty k' e:TypeId}{key:κ}(i:Nat)(E9:NK P k ek ev)(hd:o.dst=none)(hop:o.op=.call { callee:=.builtin .delete,args:=#[x,y],argTypes:=#[ty,k'] })(hwt:Rc ops l o=some true)(hk:k'=k)(ht:P.underlying ty=some (.map k e))(hx:Bi l x=some (.map (some b)))(hy:Bi l y=some (ek key))
(hi:H[i]? = some (Aa b ek ev m))(hs:Ec Hs (H.set i (Aa b ek ev (EU m key))))(h:SL P ro K w0 N ops Hs items Q D l (H.set i (Aa b ek ev (EU m key)))):SL P ro K w0 N ops Hs (.cons (false,o) items) Q D l H:=by
  subst hk
  intro a w ha hw hs0
  have hw1:=Fb hwt ha.vals
  simp only[PL,hw1,if_true]
  obtain⟨es,clock,hb,hr⟩:=hw.holds _ (List.mem_append_left _ (List.mem_of_getElem? hi))
  obtain⟨es',hrun,hr'⟩:=hr.drop (rt:=o.type) E9 hb ht key
  obtain⟨hlt,_⟩:=Array.getElem?_eq_some_iff.1 hb
  have hw':BX K w0 (H.set i (Aa b ek ev (EU m key))++[BR D]) (setBlock w b (.map es' clock)):=by
    refine hw.turnAt (c:=Aa b ek ev m) i hi rfl rfl rfl (by simp[Fv]) (fun j hj hne=>World.putObj_heap_other (fun e=>hne (by rw[e];rfl))) ⟨es',clock,World.putObj_heap_same hlt,hr'⟩ (fun j hj=>⟨.inl hj,?_⟩)
    obtain rfl:j=b:=hj
    simpa[Fv]using hlt
  refine Jr (by rw[hop];exact FZ rfl) (v:=.tuple #[]) (w':=setBlock w b (.map es' clock)) ?_ ⟨hs.hs hw',?_⟩
  unfold execOp
  simp only[hop,resolve,invoke,builtin,Sem.run_bind,Sem.run_pure,Result.andThen_ok,List.map_toArray,List.map_cons,List.map_nil,ha.vals.eval hx,ha.vals.eval hy,hrun]
  rw[hd]
  exact h _ _ ha hw' (hs.hs hw')
omit [DecidableEq κ]
theorem nw{ty e:TypeId}(i:Nat)(hd:o.dst=none)(hop:o.op=.call { callee:=.builtin .clear,args:=#[x],argTypes:=#[ty] })(hwt:Rc ops l o=some true)(ht:P.underlying ty=some (.map k e))(hx:Bi l x=some (.map (some b)))
(hi:H[i]? = some (Aa b ek ev m))(hs:Ec Hs (H.set i (Aa b ek ev [])))(h:SL P ro K w0 N ops Hs items Q D l (H.set i (Aa b ek ev []))):SL P ro K w0 N ops Hs (.cons (false,o) items) Q D l H:=by
  intro a w ha hw hs0
  have hw1:=Fb hwt ha.vals
  simp only[PL,hw1,if_true]
  obtain⟨es,clock,hb,hr⟩:=hw.holds _ (List.mem_append_left _ (List.mem_of_getElem? hi))
  obtain⟨hlt,_⟩:=Array.getElem?_eq_some_iff.1 hb
  have hw':BX K w0 (H.set i (Aa b ek ev [])++[BR D]) (setBlock w b (.map #[] clock)):=by
    refine hw.turnAt (c:=Aa b ek ev m) i hi rfl rfl rfl (by simp[Fv]) (fun j hj hne=>World.putObj_heap_other (fun e=>hne (by rw[e];rfl))) ⟨#[],clock,World.putObj_heap_same hlt,stamped_empty clock,by simp,by simp⟩ (fun j hj=>⟨.inl hj,?_⟩)
    obtain rfl:j=b:=hj
    simpa[Fv]using hlt
  refine Jr (by rw[hop];exact FZ rfl) (v:=.tuple #[]) (w':=setBlock w b (.map #[] clock)) ?_ ⟨hs.hs hw',?_⟩
  unfold execOp
  simp only[hop,resolve,invoke,builtin,Sem.run_bind,Sem.run_pure,Result.andThen_ok,List.map_toArray,List.map_cons,List.map_nil,ha.vals.eval hx]
  simp[Builtin.clear_,An ht,MapKept.run_getObj_map hb,MapKept.run_setObj_map _ hb,Result.andThen,setBlock]
  rw[hd]
  exact h _ _ ha hw' (hs.hs hw')
theorem ko{ty e:TypeId}(i:Nat)(ho:At ops N l o t (.call { callee:=.builtin .len,args:=#[x],argTypes:=#[ty] }))(ht:P.underlying ty=some (.map k e))(hx:Bi l x=some (.map (some b)))
(hi:(bif tk then Hs else H)[i]? = some (Aa b ek ev m))(h:SL P ro K w0 N ops Hs items Q D ((t,vI m.length)::l) H):SL P ro K w0 N ops Hs (.cons (tk,o) items) Q D l H:=
  SL.val ho rfl (fun a w ha hsw=>by
    obtain⟨es,clock,hb,hr⟩:=hsw.holds _ (List.mem_of_getElem? hi)
    have hsz:=hr.size_eq
    simp only[execOp,ho.op,resolve,invoke,builtin,Builtin.len_]
    simp[ha.eval hx,An ht,MapKept.run_getObj_map hb,goInt,hsz]) h
def Nj(b it:Nat)(ek:κ→Value)(ev:α→Value)(m done:List (κ×α)):AV:=
  ⟨fun j=>j=b∨j=it,fun w=>∃es clock seen,w.heap[b]? = some (.map es clock)∧Mf ek ev m es clock∧w.heap[it]? = some (.mapIter (some b) clock seen clock)∧
    ∃ord:List MapEntry,seen.toList=ord.map MapEntry.born∧(∀e∈ord,e∈es.toList)∧(ord.map MapEntry.born).Nodup∧(ord.map fun e=>(e.key,e.val))=done.map fun p=>(ek p.1,ev p.2),
   fun w w' h ⟨es,c,s,h1,h2,h3,h4⟩=>⟨es,c,s,by rw[h _ (.inl rfl)];exact h1,h2,by rw[h _ (.inr rfl)];exact h3,h4⟩⟩
theorem n9{ty e:TypeId}(i:Nat)(ho:At ops N l o t (.range ty x))(ht:P.underlying ty=some (.map k e))(hx:Bi l x=some (.map (some b)))(hi:H[i]? = some (Aa b ek ev m))
(hs:∀it,Ec Hs (H.set i (Nj b it ek ev m [])))(h:∀it,SL P ro K w0 N ops Hs items Q D ((t,vP it 0)::l) (H.set i (Nj b it ek ev m []))):SL P ro K w0 N ops Hs (.cons (false,o) items) Q D l H:=
  Gu (fun it=>vP it 0) (fun it=>H.set i (Nj b it ek ev m [])) ho rfl (fun a w ha hw=>by
    obtain⟨es,clock,hb,hr⟩:=hw.holds _ (List.mem_append_left _ (List.mem_of_getElem? hi))
    obtain⟨hlt,_⟩:=Array.getElem?_eq_some_iff.1 hb
    refine⟨w.heap.size,w.alloc (.mapIter (some b) clock #[] clock),?_,?_⟩
    simp[execOp,ho.op,Instr.range,ha.eval hx,An ht,MapKept.run_getObj_map hb]
    refine hw.turnAt (c:=Aa b ek ev m) i hi rfl rfl rfl zS (fun j hj _=>QL w _ j hj) ⟨es,clock,#[],(QL w _ b hlt).trans hb,hr,?_,[],by simp,by simp,by simp,by simp⟩ (fun j hj=>?_)
    show(w.heap.push _)[w.heap.size]? = _
    simp
    rcases hj with rfl | rfl
    exact⟨.inl rfl,by simp;omega⟩
    exact⟨.inr (Nat.le_refl _),by simp⟩) hs h
theorem n7{it:Nat}{done:List (κ×α)}(i:Nat)(E9:NK P k ek ev)(ho:At ops N l o t (.next x false))(hx:Bi l x=some (vP it 0))(hi:H[i]? = some (Nj b it ek ev m done))(hs0:Ec Hs H)
(hA:done.Perm m→SL P ro K w0 N ops Hs items Q D ((t,.tuple #[.bool false])::l) H)
(hB:∀p,p∈m→done.length<m.length→Ec Hs (H.set i (Nj b it ek ev m (done++[p])))∧SL P ro K w0 N ops Hs items Q D ((t,.tuple #[.bool true,ek p.1,ev p.2])::l) (H.set i (Nj b it ek ev m (done++[p])))):
    SL P ro K w0 N ops Hs (.cons (false,o) items) Q D l H:=by
  intro a w ha hw hsw
  have hw1:=Fb ho.wt ha.vals
  simp only[PL,hw1,if_true]
  obtain⟨es,clock,seen,hb,hr,hit,ord,ho1,ho2,ho3,ho4⟩:=hw.holds _ (List.mem_append_left _ (List.mem_of_getElem? hi))
  obtain⟨hlt,_⟩:=Array.getElem?_eq_some_iff.1 hb
  obtain⟨hlt2,_⟩:=Array.getElem?_eq_some_iff.1 hit
  have hlen:ord.length=done.length:=by simpa using congrArg List.length ho4
  have hsz:=hr.size_eq
  have hnd:ord.Nodup:=QN _ ho3
  rcases run_next_at (P:=P) w o.type it b clock clock seen es clock hit hb hr.1.1 (Nat.le_refl _)with⟨h0,hrun⟩ | ⟨e,he,w1,hal,hrun⟩
  
  have hall:∀e∈es.toList,e∈ord:=fun e he=>by
    have:leftOf es seen=#[]:=Array.eq_empty_of_size_eq_zero h0
    unfold leftOf at this
    have h1:=Array.filter_eq_empty_iff.1 this e (by simpa using he)
    have h2:e.born∈seen.toList:=by simpa using h1
    rw[ho1]at h2
    obtain⟨e',he',eb⟩:=List.mem_map.1 h2
    have h3:=ho2 e' he'
    have:e'=e:=by
      have hn:=hr.1.2.1
      obtain⟨p,hp,e1⟩:=List.getElem_of_mem h3
      obtain⟨q,hq,e2⟩:=List.getElem_of_mem he
      have:=(List.getElem_inj (h₀:=by simpa using hp) (h₁:=by simpa using hq) hn).1 (by simp[e1,e2,eb])
      subst this
      rw[←e1,←e2]
    rw[←this];exact he'
  have hperm:ord.Perm es.toList:=by
    have hen:es.toList.Nodup:=QN _ hr.1.2.1
    exact(List.perm_ext_iff_of_nodup hnd hen).2 fun e=>⟨ho2 e,hall e⟩
  have hdm:done.Perm m:=by
    have h1:(done.map fun p=>(ek p.1,ev p.2)).Perm (m.map fun p=>(ek p.1,ev p.2)):=by
      rw[←ho4]
      exact(hperm.map _).trans hr.2.2
    obtain⟨fk,hfk⟩:=E9.dk
    obtain⟨fv,hfv⟩:=E9.dv
    have h2:=h1.filterMap fun q:Value×Value=>(fk q.1).bind fun a=>(fv q.2).map fun b=>(a,b)
    have h3:∀l:List (κ×α),(l.map fun p=>(ek p.1,ev p.2)).filterMap (fun q:Value×Value=>(fk q.1).bind fun a=>(fv q.2).map fun b=>(a,b))=l:=by
      intro l
      induction l with
      | nil=>rfl
      | cons p r ih=>simp[hfk,hfv,ih]
    rwa [h3,h3]at h2
  refine Jr (by rw[ho.op];exact FZ rfl) (v:=.tuple #[.bool false]) (w':=w) ?_ ⟨hs0.hs hw,hA hdm _ w (by rw[ho.dst];exact ha.put (Hj ho.lt) _) hw (hs0.hs hw)⟩
  simp[execOp,ho.op,ha.vals.eval hx,hrun]
  
  have hel:e∈es.toList:=by
    unfold leftOf at he
    simp at he ⊢
    exact he.1
  have hens:e.born∉ord.map (·.born):=by
    unfold leftOf at he
    rw[←ho1]
    simp at he ⊢
    exact he.2
  obtain⟨p,hp,e1,e2⟩:=hr.mem hel
  have hlt3:done.length<m.length:=by
    have hnd2:(ord++[e]).Nodup:=by
      refine List.nodup_append.2 ⟨hnd,by simp,?_⟩
      intro x hx y hy
      simp only[List.mem_singleton]at hy
      subst hy
      intro exy
      exact hens (by rw[←exy];exact List.mem_map_of_mem hx)
    have hsub:(ord++[e])⊆es.toList:=by
      intro x hx
      rcases List.mem_append.1 hx with hx | hx
      exact ho2 x hx
      simp only[List.mem_singleton]at hx
      subst hx;exact hel
    have:=Nk hnd2 (fun a ha=>hsub ha)
    simp at this
    omega
  obtain⟨hsub,hcont⟩:=hB p hp hlt3
  have hhw1:w1.os=w.os∧w1.tape=w.tape∧w1.output=w.output∧w1.heap=w.heap:=by rcases hal with rfl | rfl<;>exact⟨rfl,rfl,rfl,rfl⟩
  have hne:it≠b:=fun e=>by rw[e,hb]at hit;cases hit
  have hw':BX K w0 (H.set i (Nj b it ek ev m (done++[p]))++[BR D]) (setBlock w1 it (.mapIter (some b) clock (seen.push e.born) clock)):=by
    refine hw.turnAt (c:=Nj b it ek ev m done) i hi hhw1.1 hhw1.2.1 hhw1.2.2.1 (by simp[Fv,hhw1.2.2.2]) (fun j hj hnf=>?_) ⟨es,clock,seen.push e.born,?_,hr,World.putObj_heap_same (by rw[hhw1.2.2.2];exact hlt2),ord++[e],by simp[ho1],?_,?_,by simp[ho4,e1,e2]⟩ (fun j hj=>⟨.inl hj,?_⟩)
    exact(World.putObj_heap_other (fun e=>hnf (.inr e))).trans (by rw[hhw1.2.2.2])
    exact(World.putObj_heap_other (fun e=>hne e.symm)).trans (by rw[hhw1.2.2.2];exact hb)
    intro x hx
    rcases List.mem_append.1 hx with hx | hx
    exact ho2 x hx
    simp only[List.mem_singleton]at hx
    subst hx;exact hel
    rw[List.map_append]
    refine List.nodup_append.2 ⟨ho3,by simp,?_⟩
    intro x hx y hy
    simp only[List.map_cons,List.map_nil,List.mem_singleton]at hy
    subst hy
    intro exy
    exact hens (by rw[←exy];exact hx)
    rcases hj with rfl | rfl
    simpa[Fv,hhw1.2.2.2]using hlt
    simpa[Fv,hhw1.2.2.2]using hlt2
  refine Jr (by rw[ho.op];exact FZ rfl) (v:=.tuple #[.bool true,ek p.1,ev p.2]) (w':=setBlock w1 it (.mapIter (some b) clock (seen.push e.born) clock)) ?_ ⟨hsub.hs hw',hcont _ _ (by rw[ho.dst];exact ha.put (Hj ho.lt) _) hw' (hsub.hs hw')⟩
  simp[execOp,ho.op,ha.vals.eval hx,hrun,e1,e2]
theorem nz{it:Nat}{done:List (κ×α)}{p:κ×α}(i:Nat)(ho:At ops N l o t (.entry x))(hx:Bi l x=some (vP it 0))(hi:(bif tk then Hs else H)[i]? = some (Nj b it ek ev m (done++[p])))
(h:SL P ro K w0 N ops Hs items Q D ((t,.tuple #[ek p.1,ev p.2])::l) H):SL P ro K w0 N ops Hs (.cons (tk,o) items) Q D l H:=
  SL.val ho rfl (fun a w ha hsw=>by
    obtain⟨es,clock,seen,hb,hr,hit,ord,ho1,ho2,ho3,ho4⟩:=hsw.holds _ (List.mem_of_getElem? hi)
    have hne:ord≠[]:=fun e=>by rw[e]at ho4;simp at ho4
    obtain⟨ord',e,rfl⟩:∃o' e,ord=o'++[e]:=⟨_,_,(List.dropLast_concat_getLast hne).symm⟩
    simp only[List.map_append,List.map_cons,List.map_nil]at ho4 ho1
    have h4:=List.append_inj' ho4 rfl
    simp only[List.cons.injEq,Prod.mk.injEq,and_true]at h4
    have hse:seen=(ord'.map (·.born)).toArray.push e.born:=by
      apply Array.ext'
      simp[ho1]
    rw[hse]at hit
    have:=run_entry_at (P:=P) w it b clock _ es clock e hit hb (ho2 e zS) hr.1.2.1
    simp[execOp,ho.op,ha.eval hx,this,h4.2.1,h4.2.2]) h
theorem BX.itOff{w:World}{M:List AV}{it:Nat}{done:List (κ×α)}(i:Nat)(h:BX K w0 (H++M) w)(hi:H[i]? = some (Nj b it ek ev m done)):BX K w0 (H.set i (Aa b ek ev m)++M) w:=by
  obtain⟨es,clock,seen,hb,hr,_⟩:=h.holds _ (List.mem_append_left _ (List.mem_of_getElem? hi))
  exact h.turnAt (c:=Nj b it ek ev m done) i hi rfl rfl rfl (Nat.le_refl _) (fun _ _ _=>rfl) ⟨es,clock,hb,hr⟩ (fun j hj=>⟨.inl (.inl hj),(h.foot _ (List.mem_append_left _ (List.mem_of_getElem? hi)) j (.inl hj)).1⟩)
theorem jX{c:Code}{it:Nat}{done:List (κ×α)}(i:Nat)(hi:H[i]? = some (Nj b it ek ev m done))(h:SX P ro K w0 N c Q D l (H.set i (Aa b ek ev m))):SX P ro K w0 N c Q D l H:=
  fun a w ha hw=>h a w ha (hw.itOff i hi)
end maps
end

section
open Go Go.MapKept Go.ChangeMaps
variable {P:Program}{ro:Option Nat}{K:Nat→Prop}{w0:World}{N:Nat}{Q:DQ}{D:List Nat}{l l':Tm}{H H' Hs L:List AV}{ops:Array Oper}{items:Hd}
variable {tk:Bool}{o:Oper}{t:Nat}{v:Value}{x y z:Operand}
theorem C8{α:Type}{e:TypeId}{sz:Nat}{enc:α→List Value}{xs:List α}(i:Nat)(hi:H[i]? = some (AB e sz v enc xs))(h:v.cells=#[v]→v.oneCell'=true→SL P ro K w0 N ops Hs items Q D l H):SL P ro K w0 N ops Hs items Q D l H:=by
 intro a w ha hw hs
 have hrow:w.ownsRow 0 e sz v xs.length (xs.flatMap enc):=hw.holds _ (List.mem_append_left _ (List.mem_of_getElem? hi))
 rcases hrow.2 with⟨rfl,_⟩ | ⟨g,cap,cur,rfl,_⟩
 exact h rfl rfl a w ha hw hs
 exact h rfl rfl a w ha hw hs
theorem QZ{α:Type}{sz:Nat}{enc:α→List Value}{xs:List α}(hk:B6 K w0 enc sz v xs)(h:v.cells=#[v]→v.oneCell'=true→SL P ro K w0 N ops Hs items Q D l H):SL P ro K w0 N ops Hs items Q D l H:=by
 rcases hk.at_ with⟨_,rfl,_⟩ | ⟨b,off,cap,rfl,_⟩
 exact h rfl rfl
 exact h rfl rfl
theorem XW{ty:TypeId}(hv:v.cells=#[v])(ho:At ops N l o t (.box ty x))(hx:Bi l x=some v)(hs:∀b,Ec Hs (own b (.cells #[v] ty)::H))
(h:∀b,SL P ro K w0 N ops Hs items Q D ((t,vP b 0)::l) (own b (.cells #[v] ty)::H)):SL P ro K w0 N ops Hs (.cons (false,o) items) Q D l H:=
 Bc ho hx (by rw[hv];exact hs) (by rw[hv];exact h)
theorem EA{b off:Nat}{c:Array Value}{e ty:TypeId}(i:Nat)(ho:At0 ops l o (.store ty x y))(hx:Bi l x=some (vP b off))(hy:Bi l y=some v)(hi:H[i]? = some (own b (.cells c e)))
(hn:DP P ty=some 1)(hv:v.cells=#[v])(h1:v.oneCell'=true)(hle:Nat.ble (off+1) c.size=true)
(hs:Ec Hs (H.set i (own b (.cells (E0 c off [v]) e))))(h:SL P ro K w0 N ops Hs items Q D l (H.set i (own b (.cells (E0 c off [v]) e)))):SL P ro K w0 N ops Hs (.cons (false,o) items) Q D l H:=
 A5 i ho hx hy hi hn (by rw[hv];rfl) (by rw[hv];simp[h1]) hle (by rw[hv];exact hs) (by rw[hv];exact h)
def gB{α:Type}(by_:Nat)(n:Int)(a:α):Option (List α):=if 0≤n∧by_*n.toNat≤281474976710656∧n≤9223372036854775807 then some (List.replicate n.toNat a)else none
theorem j6{α:Type}{by_:Nat}{n:Int}{a:α}{xs:List α}(h:gB by_ n a=some xs):n=(n.toNat:Int)∧by_*n.toNat≤281474976710656∧n.toNat≤9223372036854775807∧xs=List.replicate n.toNat a:=by
 unfold gB at h
 split at h
 rename_i hc
 exact⟨by omega,hc.2.1,by omega,(zI h).symm⟩
 cases h
theorem j5{α:Type}{enc:α→List Value}{a:α}{zv:Value}(hz:zv.cells.toList=enc a)(h1:(enc a).length=1)(n:Nat):(madeCells zv.cells (n*1)).toList=(List.replicate n a).flatMap enc:=by
 obtain⟨u,hu⟩:=List.length_eq_one_iff.1 h1
 have hs:zv.cells=#[u]:=by apply Array.ext';rw[hz,hu]
 rw[hs]
 have hrep:(List.replicate n a).flatMap enc=List.replicate n u:=by
  induction n with
  | zero=>rfl
  | succ k ih=>rw[List.replicate_succ,List.flatMap_cons,ih,hu,List.replicate_succ];rfl
 rw[hrep]
 apply List.ext_getElem
 simp[madeCells]
 intro i h2 h3
 simp[madeCells,Nat.mod_one]
theorem aB{α:Type}{e ty:TypeId}{by_:Nat}{zv:Value}{n:Int}{a:α}{xs:List α}(hn:gB by_ n a=some xs)(enc:α→List Value)(ho:At ops N l o t (.makeSlice ty x x))(hty:P.underlying ty=some (.slice e))(hsz:DP P e=some 1)(hby:Ph P e=some by_)(hze:EP P e=some zv)
(hx:Bi l x=some (vI n))(hza:zv.cells.toList=enc a)(h1:(enc a).length=1)(hzs:zv.cells.size=1)
(hs:∀v',Ec Hs (AB e 1 v' enc xs::H))(h:∀v',SL P ro K w0 N ops Hs items Q D ((t,v')::l) (AB e 1 v' enc xs::H)):SL P ro K w0 N ops Hs (.cons (false,o) items) Q D l H:=by
 obtain⟨h0,hb,h63,rfl⟩:=j6 hn
 generalize n.toNat=m at h0 hb h63 hs h
 subst h0
 refine Gu (fun b=>.slice (some ⟨b,0,none⟩) m m) (fun b=>AB e 1 (.slice (some ⟨b,0,none⟩) m m) enc (List.replicate m a)::H) ho E (fun a' w ha hw=>?_) (fun b=>hs _) (fun b=>h _)
 obtain⟨ii,hii,e1,e2,e3⟩:=PT hsz hby hze
 have hb':(ii.bytes:Int)*(m:Int)≤281474976710656:=by rw[e2,←Int.natCast_mul];omega
 have hr:=run_make (P:=P) w ty e ii zv hty hii e3 .i64 .i64 m m zO zO hb' zO
 rw[e1]at hr
 simp only[Int.toNat_natCast]at hr
 refine⟨w.heap.size,w.alloc (.cells (madeCells zv.cells (m*1)) e),?_,?_⟩
 unfold execOp
 simp only[ho.op,ha.eval hx,Sem.run_bind,hr,Result.andThen_ok,Sem.run_pure]
 have h2:=hw.alloc (.cells (madeCells zv.cells (m*1)) e)
 have hlen:((List.replicate m a).flatMap enc).length=m*1:=by simp[h1]
 refine h2.turn rfl rfl rfl (Nat.le_refl _) (fun _ _ _=>rfl) ⟨by simp[h1],.inr ⟨w.heap.size,m,_,by simp,Nat.zero_le _,h2.holds _ (List.mem_cons_self ..),by simp,by simp only[maxLen];omega,?_,?_⟩⟩ (fun k hk=>?_)
 simp[madeCells]
 rw[j5 hza h1]
 rw[List.take_of_length_le (by simp[h1])]
 have hkb:k=w.heap.size:=by simp[AB,Value.ownBlock]at hk;exact hk.symm
 subst hkb
 exact⟨.inl rfl,(h2.foot _ (List.mem_cons_self ..) _ rfl).1⟩
def NC{κ α:Type}[DecidableEq κ](m:List (κ×α))(k:κ)(a:α):Option (List (κ×α)):=if m.length<9223372036854775807 then some (In m k a)else none
theorem Wl{κ α:Type}[DecidableEq κ]{m us:List (κ×α)}{k:κ}{a:α}(h:NC m k a=some us):m.length<9223372036854775807∧us=In m k a:=by
 unfold NC at h
 split at h
 exact⟨by assumption,(zI h).symm⟩
 cases h
theorem QY{κ α:Type}[DecidableEq κ]{ek:κ→Value}{ev:α→Value}{m us:List (κ×α)}{k:TypeId}{b:Nat}{ty e:TypeId}{key:κ}{a:α}(i:Nat)(hn:NC m key a=some us)(E9:NK P k ek ev)(ho:At0 ops l o (.mapUpdate ty x y z))(ht:P.underlying ty=some (.map k e))(hx:Bi l x=some (.map (some b)))(hy:Bi l y=some (ek key))(hz:Bi l z=some (ev a))
(hi:H[i]? = some (Aa b ek ev m))(hs:Ec Hs (H.set i (Aa b ek ev us)))(h:SL P ro K w0 N ops Hs items Q D l (H.set i (Aa b ek ev us))):SL P ro K w0 N ops Hs (.cons (false,o) items) Q D l H:=by
 obtain⟨hr,rfl⟩:=Wl hn
 exact oA i E9 ho ht hx hy hz hi hr hs h
structure cu where
 cnt:UInt64
 tag:List UInt8
 boots:UInt32
deriving DecidableEq
def im(r:cu):List Value:=[AT r.cnt,vS r.tag,Y r.boots]
structure uv where
 act:Int
 page:UInt32
 num:Int
 txt:List UInt8
 lv:Value
 fates:List Int
structure Af where
 off:Bool
 isCut:Bool
 lasts:Int
 counts:Int
 blocks:List (List UInt8)
 pend:List (UInt32×List UInt8)
 bad:List (UInt32×Bool)
 rcnt:UInt64
 rtag:List UInt8
 rboots:UInt32
structure A3 where
 blk:List (List UInt8)
 pnd:List (List UInt8)
 bads:List Bool
 rcnt:UInt64
 rtag:List UInt8
 rboots:UInt32
 left:Int
 off:Bool
end

section
variable {P:Program}{ro:Option Nat}{K:Nat→Prop}{w0:World}{N:Nat}{Q:DQ}{D:List Nat}{l l':Tm}{H H' Hs L:List AV}{ops:Array Oper}{items:Hd}
variable {tk:Bool}{o:Oper}{t:Nat}{v:Value}{x y z:Operand}
theorem Xc{b off n c sz:Nat}{k:IntKind}{j:Int}{ty e:TypeId}(q:Nat)(ho:At ops N l o t (.slice ty x (some z) none none))(hty:P.underlying ty=some (.slice e))(hsz:DP P e=some sz)(hx:Bi l x=some (.slice (some ⟨b,off,none⟩) n c))(hz:Bi l z=some (.int k j))
(hj:j=(q:Int))(hq:q≤n)(hqc:q<c)(h:SL P ro K w0 N ops Hs items Q D ((t,.slice (some ⟨b,off+q*sz,none⟩) (n-q) (c-q))::l) H):SL P ro K w0 N ops Hs (.cons (tk,o) items) Q D l H:=
 SL.val ho rfl (fun a w ha _=>by
  subst hj
  simp only[execOp,ho.op,Instr.sliceAt,Instr.slice,Option.map]
  simp[ha.eval hx,ha.eval hz,An hty,Ch hsz,Instr.sliceBounds,Instr.sliceBound,asIntOf,hq,Ci];omega) h
theorem gu{b off dl dc sl sc:Nat}{c:Array Value}{e ty ty':TypeId}{ad:Addr}(i:Nat)(news:List Value)(ho:At ops N l o t (.call { callee:=.builtin .copy,args:=#[x,y],argTypes:=#[ty,ty'] }))(hty:P.underlying ty=some (.slice e))(hsz:DP P e=some 1)
(hx:Bi l x=some (.slice (some ⟨b,off,none⟩) dl dc))(hy:Bi l y=some (.slice (some ad) sl sc))(hi:H[i]? = some (own b (.cells c e)))
(hn:news.length=Nat.min sl dl)(hnews:∀w,GY K w0 H w→∀j u,news[j]? = some u→w.cell? (ad.add j)=some u)(h1:∀u∈news,u.oneCell'=true)(hle:off+news.length≤c.size)
(hs:Ec Hs (H.set i (own b (.cells (E0 c off news) e))))(h:SL P ro K w0 N ops Hs items Q D ((t,vI news.length)::l) (H.set i (own b (.cells (E0 c off news) e)))):SL P ro K w0 N ops Hs (.cons (false,o) items) Q D l H:=
 Gu (fun _:Unit=>vI news.length) (fun _=>H.set i (own b (.cells (E0 c off news) e))) ho rfl (fun a w ha hw=>by
  have hb:w.heap[b]? = some (.cells c e (0,0)):=hw.holds _ (List.mem_append_left _ (List.mem_of_getElem? hi))
  obtain⟨w',hrun,hw'⟩:=MA (P:=P) news off 0 c w hb (by simpa using hle) h1
  have hl:=run_loadCells_list (P:=P) w ad news (hnews w hw.dropMarks.s)
  have hs1:=Ch (w:=w) hsz
  refine⟨(),w',?_,?_⟩
  unfold execOp
  simp only[ho.op,resolve,Sem.run_bind,Sem.run_pure,Result.andThen_ok,invoke]
  simp only[List.map_toArray,List.map_cons,List.map_nil,ha.eval hx,ha.eval hy]
  simp[builtin,Builtin.copy_,An hty,Builtin.lenOf,Builtin.firstCells,hs1,←hn,hl,hrun,goInt]
  rw[hw']
  exact hw.putAt i hi) (fun _=>hs) (fun _=>h)
theorem jV{α:Type}{b n:Nat}{c:Array Value}{e:TypeId}(enc:α→List Value)(sz:Nat)(xs:List α)(hn:xs.length=n)(hc:c.toList=xs.flatMap enc)(hl:∀x,(enc x).length=sz)(hm:n≤1000000)
(h:SL P ro K w0 N ops Hs items Q D l (AB e sz (.slice (some ⟨b,0,none⟩) n n) enc xs::H)):SL P ro K w0 N ops Hs items Q D l (own b (.cells c e)::H):=by
 subst hn
 exact CH enc sz xs hc hl (Nat.ble_eq_true_of_le hm) h
end

section
variable {P:Program}{ro:Option Nat}{K:Nat→Prop}{w0:World}{N:Nat}{Q:DQ}{D:List Nat}{l l':Tm}{H H' Hs L:List AV}{ops:Array Oper}{items:Hd}
def OF(P:Program)(K:Nat→Prop)(w0:World)(f:FuncId)(cap:List Value)(Hit G0:List AV){α:Type}(enc:α→List Value)(xs:List α):Prop:=
 ∀(lp:Nat) (J9:List α→List AV→Prop) (X:List AV→Prop) (T:List AV) (rc:AV),
  (∀pre x suf,xs=pre++x::suf→∀G,J9 pre G→∀M,lA P K w0 lp (enc x) (G++M) fun b G'=>∃G1,G'=G1++M∧(if b then J9 (pre++[x]) G1 else X G1))→
  J9 [] (rc::G0)→T3 P K w0 f (vY lp::cap) (Hit++(rc::G0)) T fun _ M=>J9 xs M∨X M
theorem MT{α:Type}{g:Operand}{ps:Array Tmp}{assign body:Code}{f:FuncId}{cap:List Value}{Hit:List AV}{enc:α→List Value}(xs:List α){G0:List AV}
(J9:List α→List AV→Prop)(X:Code→List AV→Prop)
(hg:Bi l g=some (.func (.func f) #[] cap.toArray))(hf:AK P f=true)(hps:ps.toList.all (fun p=>Nat.blt p N)=true)(hlen:∀x,(enc x).length=ps.size)
(hseq:OF P K w0 f cap Hit G0 enc xs)(hH:H=Hit++G0)(h0:J9 [] G0)
(hbody:∀pre x suf G,xs=pre++x::suf→J9 pre G→∀r lp Rest,SX P (some lp) K w0 N assign (bgn P lp body (eU K w0 J9 X pre x (Tl r lp Rest .busy))) [] (QO ps.toList (enc x) l) (G++Tl r lp Rest .ready))
(hdone:∀G D,J9 xs G→SQ K w0 N Q .normal D l G)
(hstop:∀c G D,X c G→SX P none K w0 N c Q D l G):SX P none K w0 N (.rangeFunc g ps assign body) Q D l H:=by
 intro a w ha hw
 subst hH
 refine wpIn_rangeFunc fun fn _=>?_
 let r:Loop:={ state:=.ready,pending:=none,fn:=fn,tmps:=a.tmps,params:=ps,assign:=assign,body:=body,defers:=w.heap.size }
 refine⟨w.heap.size+1,[{ target:=.collected w.heap.size,args:=#[] }],(w.alloc (.deferred (some []))).alloc (.loop r),{ target:=.fn (.func f) cap.toArray,args:=#[vY (w.heap.size+1)] },(w.alloc (.deferred (some []))).alloc (.loop r),
  f,(vY (w.heap.size+1)::cap).toArray,(w.alloc (.deferred (some []))).alloc (.loop r),?_,?_,fun _ _=>NU _ _,?_,fun hd=>by simp[Ov]at hd,?_⟩
 rw[MQ];exact run_enterLoop_outer fn a.tmps ps assign body
 have hev:=ha.vals.eval hg
 simp[resolve,hev,Deferred.ofValue]
 rfl
 simp[invoke,Lr hf]
 
 generalize hlp:w.heap.size+1=lp
 have hw1:BX K w0 ((Hit++(Tl r lp [] .ready++G0))++[BR (w.heap.size::D)]) ((w.alloc (.deferred (some []))).alloc (.loop r)):=by
  have h1:=(hw.alloc (.deferred (some []))).alloc (.loop r)
  rw[World.size_alloc,hlp]at h1
  
  have hm:BX K w0 (BR (w.heap.size::D)::own lp (.loop r)::(Hit++G0)) ((w.alloc (.deferred (some []))).alloc (.loop r)):=by
   have hp:(own lp (.loop r)::own w.heap.size (.deferred (some []))::(Hit++G0++[BR D])).Perm (own w.heap.size (.deferred (some []))::BR D::own lp (.loop r)::(Hit++G0)):=by
    refine(List.Perm.swap _ _ _).trans (List.Perm.cons _ ?_)
    refine(List.Perm.cons _ (List.perm_append_comm (l₁:=Hit++G0) (l₂:=[BR D]))).trans ?_
    exact List.Perm.swap _ _ _
   have h2:=h1.perm hp
   have hpw:=List.pairwise_cons.1 h2.disj
   have hpw2:=List.pairwise_cons.1 hpw.2
   have hmk:=h2.holds (BR D) zS
   have hnew:=h2.holds (own w.heap.size (.deferred (some []))) (List.mem_cons_self ..)
   refine⟨h2.os,h2.tape,h2.output,h2.size,h2.klt,h2.keep,?_,?_,?_⟩
   intro c hc
   rcases List.mem_cons.1 hc with rfl | hc
   refine⟨List.nodup_cons.2 ⟨fun hin=>hpw.1 (BR D) zS _ rfl hin,hmk.1⟩,fun b hb=>?_⟩
   rcases List.mem_cons.1 hb with rfl | hb
   exact hnew
   exact hmk.2 b hb
   exact h2.holds c (by simp only[List.mem_cons]at hc ⊢;exact .inr (.inr hc))
   intro c hc b hb
   rcases List.mem_cons.1 hc with rfl | hc
   rcases List.mem_cons.1 hb with rfl | hb
   exact h2.foot (own w.heap.size (.deferred (some []))) (List.mem_cons_self ..) _ rfl
   exact h2.foot (BR D) zS b hb
   exact h2.foot c (by simp only[List.mem_cons]at hc ⊢;exact .inr (.inr hc)) b hb
   refine List.pairwise_cons.2 ⟨fun c hc b hb hb'=>?_,hpw2.2⟩
   rcases List.mem_cons.1 hb with rfl | hb
   exact hpw.1 c (List.mem_cons_of_mem _ hc) _ rfl hb'
   exact hpw2.1 c hc b hb hb'
  refine hm.perm ?_
  have e:Tl r lp [] .ready=[own lp (.loop r)]:=rfl
  rw[e]
  refine(List.perm_append_comm (l₁:=[BR (w.heap.size::D)])).trans (List.Perm.append_right _ ?_)
  simpa using(List.perm_middle (l₁:=Hit) (a:=own lp (.loop r)) (l₂:=G0)).symm
 have hN:∀p∈ps.toList,p<a.tmps.size:=fun p hp=>by
  rw[ha.size]
  exact Hj (List.all_eq_true.1 hps p hp)
 let D':=w.heap.size::D
 have hcon:=hseq lp (fun pre Gx=>∃G,J9 pre G∧Gx=Tl r lp [] .ready++G) (fun Gx=>∃c G,X c G∧Gx=own lp (.loop { r with state:=.done,pending:=some c })::G) [BR D'] (own lp (.loop { r with state:=.ready,pending:=none })) ?_ ⟨G0,h0,rfl⟩
 refine QW none ((hcon _ hw1).mono ?_)
 rintro e w' ⟨v,M,rfl,hM,hw'⟩
 have hD:MU N D' l { tmps:=a.tmps,defers:=[{ target:=.collected w.heap.size,args:=#[] }]++a.defers }:=⟨ha.size,by simp[ha.defers,D',Zo],ha.vals⟩
 rcases hM with⟨G,hJ,rfl⟩ | ⟨c,G,hX,rfl⟩
 have hl:w'.heap[lp]? = some (.loop { r with state:=.ready,pending:=none }):=hw'.holds (own lp _) (by simp[Tl])
 refine⟨_,_,run_endLoop hl zS,?_⟩
 refine hdone G D' hJ _ _ hD ?_
 have h3:=(show BX K w0 (own lp (.loop { r with state:=.ready,pending:=none })::(G++[BR D'])) w' from hw').put (o':=.loop { r with state:=.exhausted,pending:=none })
 exact h3.sublist (List.sublist_cons_self _ _)
 have hl:w'.heap[lp]? = some (.loop { r with state:=.done,pending:=some c }):=hw'.holds (own lp _) zS
 refine⟨_,_,run_endLoop hl zS,?_⟩
 refine hstop c G D' hX _ _ hD ?_
 have h3:=(show BX K w0 (own lp (.loop { r with state:=.done,pending:=some c })::(G++[BR D'])) w' from hw').put (o':=.loop { r with state:=.exhausted,pending:=some c })
 exact h3.sublist (List.sublist_cons_self _ _)
 
 rintro pre x suf hxs Gx ⟨G,hJ,rfl⟩ M w₁ hw₁
 have hl:w₁.heap[lp]? = some (.loop { r with state:=.ready,pending:=none }):=hw₁.holds (own lp _) (by simp[Tl])
 refine⟨_,_,_,_,run_yield hl (by simp[hlen];rfl),?_⟩
 refine roundIn_of_wpIn trivial ?_
 have hw₂:BX K w0 ((G++Tl r lp M .ready)++[BR []]) w₁:=by
  refine BX.marks0 (hw₁.perm ?_)
  show(own lp _::(G++M)).Perm (G++own lp _::M)
  exact List.perm_middle.symm
 have hzip:((ps.zip (enc x).toArray).foldl (fun tmps (t,a)=>tmps.setIfInBounds t a) a.tmps)=((ps.toList.zip (enc x)).foldl (fun tm (t,a)=>tm.setIfInBounds t a) a.tmps):=by
  rw[←Array.foldl_toList,Array.toList_zip]
 have hb:=hbody pre x suf G hxs hJ r lp M { tmps:=(ps.zip (enc x).toArray).foldl (fun tmps (t,a)=>tmps.setIfInBounds t a) a.tmps,defers:=[] } w₁
  ⟨by rw[hzip,Jd];exact ha.size,rfl,by rw[hzip];exact Qn ps.toList (enc x) l a.tmps hN ha.vals⟩ hw₂
 refine wpIn_mono hb ?_
 intro e a' w' q
 cases e with
 | normal=>
  obtain⟨w₃,hbr,hbody'⟩:=q
  refine⟨w₃,hbr,wpIn_mono hbody' ?_⟩
  have fin:∀(jump:Option Code) (G':List AV) (w₄:World),BX K w0 (G'++Tl r lp M .busy) w₄→
    (Instr.endRound lp jump).run P w₄=.ok (.bool jump.isNone) (w₄.putObj lp (.loop { r with state:=if jump.isNone then .ready else .done,pending:=jump }))∧
    BX K w0 ((own lp (.loop { r with state:=if jump.isNone then .ready else .done,pending:=jump })::G')++M) (w₄.putObj lp (.loop { r with state:=if jump.isNone then .ready else .done,pending:=jump })):=by
   intro jump G' w₄ h4
   have hl4:w₄.heap[lp]? = some (.loop { r with state:=.busy,pending:=none }):=h4.holds (own lp _) (by simp[Tl])
   refine⟨run_endRound (r:={ r with state:=.busy,pending:=none }) jump hl4,?_⟩
   have h5:BX K w0 (own lp (.loop { r with state:=.busy,pending:=none })::(G'++M)) w₄:=h4.perm List.perm_middle
   exact h5.put
  intro e₂ a₂ w₄ q₂
  cases e₂ with
  | normal=>
   obtain⟨G',hJ',h4⟩:=q₂
   obtain⟨hrun,h5⟩:=fin none G' w₄ h4
   exact⟨_,_,hrun,_,_,rfl,⟨_,rfl,by simp only[Option.isNone_none,if_true];exact⟨G',hJ',rfl⟩⟩,h5⟩
  | ret=>
   obtain⟨G',hX',h4⟩:=q₂
   obtain⟨hrun,h5⟩:=fin (some .ret) G' w₄ h4
   exact⟨_,_,hrun,_,_,rfl,⟨_,rfl,by simp only[Option.isNone_some,Bool.false_eq_true,if_false];exact⟨_,G',hX',rfl⟩⟩,h5⟩
  | exit id=>
   obtain⟨G',hX',h4⟩:=q₂
   obtain⟨hrun,h5⟩:=fin (some (.exit id)) G' w₄ h4
   exact⟨_,_,hrun,_,_,rfl,⟨_,rfl,by simp only[Option.isNone_some,Bool.false_eq_true,if_false];exact⟨_,G',hX',rfl⟩⟩,h5⟩
  | goto _=>exact q₂.elim
  | panic _=>exact q₂.elim
  | outgrown=>exact q₂.elim
 | exit _=>exact q.elim
 | goto _=>exact q.elim
 | ret=>exact q.elim
 | panic _=>exact q.elim
 | outgrown=>exact q.elim
def TR{α σ R:Type}(body:(σ→Option R)→α→σ→Option R)(fin:σ→Option R):List α→σ→Option R
 | [],s=>fin s
 | x::r,s=>body (TR body fin r) x s
theorem Vf{α:Type}{xs pre suf suf':List α}{x:α}(h:xs=pre++x::suf)(h':xs=(pre++[x])++suf'):suf'=suf:=by
 rw[h,List.append_assoc]at h'
 simpa using(List.append_cancel_left h').symm
end

section
variable {P:Program}{ro:Option Nat}{K:Nat→Prop}{w0:World}{N:Nat}{Q:DQ}{D:List Nat}{l l':Tm}{H H' Hs L:List AV}{ops:Array Oper}{items:Hd}
variable {tk:Bool}{o:Oper}{t:Nat}{v:Value}{x y z:Operand}
def ux(j:Int)(n:Nat):Option Unit:=if j<(n:Int)then some ()else none
theorem XX{ty e:TypeId}{sz:Nat}(ho:At ops N l o t (.buildSlice ty 0 #[]))(hty:P.underlying ty=some (.slice e))(hsz:DP P e=some sz)(hs:∀b,Ec Hs (own b (.cells #[] e)::H))
(h:∀b,SL P ro K w0 N ops Hs items Q D ((t,.slice (some ⟨b,0,none⟩) 0 0)::l) (own b (.cells #[] e)::H)):SL P ro K w0 N ops Hs (.cons (false,o) items) Q D l H:=
 Gu (fun b=>.slice (some ⟨b,0,none⟩) 0 0) (fun b=>own b (.cells #[] e)::H) ho rfl (fun a w ha hw=>by
  refine⟨w.heap.size,w.alloc (.cells #[] e),?_,by exact hw.alloc _⟩
  unfold execOp
  simp only[ho.op,Instr.buildSlice,Sem.run_bind,An hty,Result.andThen_ok,Ch hsz,Nat.zero_mul,if_neg (show ¬(0>2^24) by omega),if_true,Sem.run_pure,show(Array.range 0)=(#[]:Array Nat)from rfl,List.map_toArray,List.map_nil,Array.map_empty,Instr.fill,newRow,run_newObj]
  rfl) hs h
def Vx(pl:List (Nat×Nat)):Array Value→List (Nat×Array Value)→Option (Array Value)
 | c,[]=>some c
 | c,(i,u)::r=>
  match pl[i]? with
  | none=>none
  | some (off,size)=>bif Nat.beq u.size size&&Nat.ble (off+u.size) c.size then Vx pl (E0 c off u.toList) r else none
theorem df(pl:List (Nat×Nat)):∀(is:List Nat) (vs:List Value) (c:Array Value),QI pl c (is.zip vs)=Vx pl c (is.zip (vs.map Value.cells))
 | [],vs,c=>by simp[QI,Vx]
 | i::is,[],c=>by simp[QI,Vx]
 | i::is,v::vs,c=>by
  simp only[List.zip_cons_cons,List.map_cons,QI,Vx]
  cases hi:pl[i]? with
  | none=>rfl
  | some p=>
   obtain⟨off,size⟩:=p
   simp only[df pl is vs]
theorem R7{ty:TypeId}{parts:Array (Nat×Operand)}{pl:List (Nat×Nat)}{zv:Value}{r:Array Value}(vs:List Value)(css:List (Array Value))(hc:vs.map Value.cells=css)(ho:At ops N l o t (.build ty parts))(hp:LO P ty=some pl)(hk:LP P ty=true)(hz:EP P ty=some zv)
(hv:ZK l (parts.toList.map (·.2)) vs)(hf:Vx pl zv.cells ((parts.toList.map (·.1)).zip css)=some r)(h:SL P ro K w0 N ops Hs items Q D ((t,.agg r)::l) H):SL P ro K w0 N ops Hs (.cons (tk,o) items) Q D l H:=
 B5 vs ho hp hk hz hv (by rw[df,hc];exact hf) h
def aF(P:Program)(K:Nat→Prop)(w0:World)(f:FuncId)(cap:List Value)(Hit G0:List AV){α:Type}(enc:α→List Value)(xs:List α):Prop:=
 ∀(lp:Nat) (J9:List α→List AV→Prop) (X:List AV→Prop) (T:List AV) (rc:AV),(∀pre G,J9 pre G→pre=[])→
  (∀pre x suf,xs=pre++x::suf→∀G,J9 pre G→∀M,lA P K w0 lp (enc x) (G++M) fun b G'=>∃G1,G'=G1++M∧(if b then J9 (pre++[x]) G1 else X G1))→
  J9 [] (rc::G0)→T3 P K w0 f (vY lp::cap) (Hit++(rc::G0)) T fun _ M=>J9 xs M∨X M
theorem aC{α:Type}{g:Operand}{ps:Array Tmp}{assign body:Code}{f:FuncId}{cap:List Value}{Hit:List AV}{enc:α→List Value}(xs:List α){G0:List AV}
(J9:List α→List AV→Prop)(X:Code→List AV→Prop)
(hg:Bi l g=some (.func (.func f) #[] cap.toArray))(hf:AK P f=true)(hps:ps.toList.all (fun p=>Nat.blt p N)=true)(hlen:∀x,(enc x).length=ps.size)
(hseq:aF P K w0 f cap Hit G0 enc xs)(hH:H=Hit++G0)(h0:J9 [] G0)(hJ1:∀pre G,J9 pre G→pre=[])
(hbody:∀pre x suf G,xs=pre++x::suf→J9 pre G→∀r lp Rest,SX P (some lp) K w0 N assign (bgn P lp body (eU K w0 J9 X pre x (Tl r lp Rest .busy))) [] (QO ps.toList (enc x) l) (G++Tl r lp Rest .ready))
(hdone:∀G D,J9 xs G→SQ K w0 N Q .normal D l G)
(hstop:∀c G D,X c G→SX P none K w0 N c Q D l G):SX P none K w0 N (.rangeFunc g ps assign body) Q D l H:=by
 intro a w ha hw
 subst hH
 refine wpIn_rangeFunc fun fn _=>?_
 let r:Loop:={ state:=.ready,pending:=none,fn:=fn,tmps:=a.tmps,params:=ps,assign:=assign,body:=body,defers:=w.heap.size }
 refine⟨w.heap.size+1,[{ target:=.collected w.heap.size,args:=#[] }],(w.alloc (.deferred (some []))).alloc (.loop r),{ target:=.fn (.func f) cap.toArray,args:=#[vY (w.heap.size+1)] },(w.alloc (.deferred (some []))).alloc (.loop r),
  f,(vY (w.heap.size+1)::cap).toArray,(w.alloc (.deferred (some []))).alloc (.loop r),?_,?_,fun _ _=>NU _ _,?_,fun hd=>by simp[Ov]at hd,?_⟩
 rw[MQ];exact run_enterLoop_outer fn a.tmps ps assign body
 have hev:=ha.vals.eval hg
 simp[resolve,hev,Deferred.ofValue]
 rfl
 simp[invoke,Lr hf]
 
 generalize hlp:w.heap.size+1=lp
 have hw1:BX K w0 ((Hit++(Tl r lp [] .ready++G0))++[BR (w.heap.size::D)]) ((w.alloc (.deferred (some []))).alloc (.loop r)):=by
  have h1:=(hw.alloc (.deferred (some []))).alloc (.loop r)
  rw[World.size_alloc,hlp]at h1
  
  have hm:BX K w0 (BR (w.heap.size::D)::own lp (.loop r)::(Hit++G0)) ((w.alloc (.deferred (some []))).alloc (.loop r)):=by
   have hp:(own lp (.loop r)::own w.heap.size (.deferred (some []))::(Hit++G0++[BR D])).Perm (own w.heap.size (.deferred (some []))::BR D::own lp (.loop r)::(Hit++G0)):=by
    refine(List.Perm.swap _ _ _).trans (List.Perm.cons _ ?_)
    refine(List.Perm.cons _ (List.perm_append_comm (l₁:=Hit++G0) (l₂:=[BR D]))).trans ?_
    exact List.Perm.swap _ _ _
   have h2:=h1.perm hp
   have hpw:=List.pairwise_cons.1 h2.disj
   have hpw2:=List.pairwise_cons.1 hpw.2
   have hmk:=h2.holds (BR D) zS
   have hnew:=h2.holds (own w.heap.size (.deferred (some []))) (List.mem_cons_self ..)
   refine⟨h2.os,h2.tape,h2.output,h2.size,h2.klt,h2.keep,?_,?_,?_⟩
   intro c hc
   rcases List.mem_cons.1 hc with rfl | hc
   refine⟨List.nodup_cons.2 ⟨fun hin=>hpw.1 (BR D) zS _ rfl hin,hmk.1⟩,fun b hb=>?_⟩
   rcases List.mem_cons.1 hb with rfl | hb
   exact hnew
   exact hmk.2 b hb
   exact h2.holds c (by simp only[List.mem_cons]at hc ⊢;exact .inr (.inr hc))
   intro c hc b hb
   rcases List.mem_cons.1 hc with rfl | hc
   rcases List.mem_cons.1 hb with rfl | hb
   exact h2.foot (own w.heap.size (.deferred (some []))) (List.mem_cons_self ..) _ rfl
   exact h2.foot (BR D) zS b hb
   exact h2.foot c (by simp only[List.mem_cons]at hc ⊢;exact .inr (.inr hc)) b hb
   refine List.pairwise_cons.2 ⟨fun c hc b hb hb'=>?_,hpw2.2⟩
   rcases List.mem_cons.1 hb with rfl | hb
   exact hpw.1 c (List.mem_cons_of_mem _ hc) _ rfl hb'
   exact hpw2.1 c hc b hb hb'
  refine hm.perm ?_
  have e:Tl r lp [] .ready=[own lp (.loop r)]:=rfl
  rw[e]
  refine(List.perm_append_comm (l₁:=[BR (w.heap.size::D)])).trans (List.Perm.append_right _ ?_)
  simpa using(List.perm_middle (l₁:=Hit) (a:=own lp (.loop r)) (l₂:=G0)).symm
 have hN:∀p∈ps.toList,p<a.tmps.size:=fun p hp=>by
  rw[ha.size]
  exact Hj (List.all_eq_true.1 hps p hp)
 let D':=w.heap.size::D
 have hcon:=hseq lp (fun pre Gx=>∃G,J9 pre G∧Gx=Tl r lp [] .ready++G) (fun Gx=>∃c G,X c G∧Gx=own lp (.loop { r with state:=.done,pending:=some c })::G) [BR D'] (own lp (.loop { r with state:=.ready,pending:=none })) (fun pre _ h=>hJ1 pre _ h.choose_spec.1) ?_ ⟨G0,h0,rfl⟩
 refine QW none ((hcon _ hw1).mono ?_)
 rintro e w' ⟨v,M,rfl,hM,hw'⟩
 have hD:MU N D' l { tmps:=a.tmps,defers:=[{ target:=.collected w.heap.size,args:=#[] }]++a.defers }:=⟨ha.size,by simp[ha.defers,D',Zo],ha.vals⟩
 rcases hM with⟨G,hJ,rfl⟩ | ⟨c,G,hX,rfl⟩
 have hl:w'.heap[lp]? = some (.loop { r with state:=.ready,pending:=none }):=hw'.holds (own lp _) (by simp[Tl])
 refine⟨_,_,run_endLoop hl zS,?_⟩
 refine hdone G D' hJ _ _ hD ?_
 have h3:=(show BX K w0 (own lp (.loop { r with state:=.ready,pending:=none })::(G++[BR D'])) w' from hw').put (o':=.loop { r with state:=.exhausted,pending:=none })
 exact h3.sublist (List.sublist_cons_self _ _)
 have hl:w'.heap[lp]? = some (.loop { r with state:=.done,pending:=some c }):=hw'.holds (own lp _) zS
 refine⟨_,_,run_endLoop hl zS,?_⟩
 refine hstop c G D' hX _ _ hD ?_
 have h3:=(show BX K w0 (own lp (.loop { r with state:=.done,pending:=some c })::(G++[BR D'])) w' from hw').put (o':=.loop { r with state:=.exhausted,pending:=some c })
 exact h3.sublist (List.sublist_cons_self _ _)
 
 rintro pre x suf hxs Gx ⟨G,hJ,rfl⟩ M w₁ hw₁
 have hl:w₁.heap[lp]? = some (.loop { r with state:=.ready,pending:=none }):=hw₁.holds (own lp _) (by simp[Tl])
 refine⟨_,_,_,_,run_yield hl (by simp[hlen];rfl),?_⟩
 refine roundIn_of_wpIn trivial ?_
 have hw₂:BX K w0 ((G++Tl r lp M .ready)++[BR []]) w₁:=by
  refine BX.marks0 (hw₁.perm ?_)
  show(own lp _::(G++M)).Perm (G++own lp _::M)
  exact List.perm_middle.symm
 have hzip:((ps.zip (enc x).toArray).foldl (fun tmps (t,a)=>tmps.setIfInBounds t a) a.tmps)=((ps.toList.zip (enc x)).foldl (fun tm (t,a)=>tm.setIfInBounds t a) a.tmps):=by
  rw[←Array.foldl_toList,Array.toList_zip]
 have hb:=hbody pre x suf G hxs hJ r lp M { tmps:=(ps.zip (enc x).toArray).foldl (fun tmps (t,a)=>tmps.setIfInBounds t a) a.tmps,defers:=[] } w₁
  ⟨by rw[hzip,Jd];exact ha.size,rfl,by rw[hzip];exact Qn ps.toList (enc x) l a.tmps hN ha.vals⟩ hw₂
 refine wpIn_mono hb ?_
 intro e a' w' q
 cases e with
 | normal=>
  obtain⟨w₃,hbr,hbody'⟩:=q
  refine⟨w₃,hbr,wpIn_mono hbody' ?_⟩
  have fin:∀(jump:Option Code) (G':List AV) (w₄:World),BX K w0 (G'++Tl r lp M .busy) w₄→
    (Instr.endRound lp jump).run P w₄=.ok (.bool jump.isNone) (w₄.putObj lp (.loop { r with state:=if jump.isNone then .ready else .done,pending:=jump }))∧
    BX K w0 ((own lp (.loop { r with state:=if jump.isNone then .ready else .done,pending:=jump })::G')++M) (w₄.putObj lp (.loop { r with state:=if jump.isNone then .ready else .done,pending:=jump })):=by
   intro jump G' w₄ h4
   have hl4:w₄.heap[lp]? = some (.loop { r with state:=.busy,pending:=none }):=h4.holds (own lp _) (by simp[Tl])
   refine⟨run_endRound (r:={ r with state:=.busy,pending:=none }) jump hl4,?_⟩
   have h5:BX K w0 (own lp (.loop { r with state:=.busy,pending:=none })::(G'++M)) w₄:=h4.perm List.perm_middle
   exact h5.put
  intro e₂ a₂ w₄ q₂
  cases e₂ with
  | normal=>
   obtain⟨G',hJ',h4⟩:=q₂
   obtain⟨hrun,h5⟩:=fin none G' w₄ h4
   exact⟨_,_,hrun,_,_,rfl,⟨_,rfl,by simp only[Option.isNone_none,if_true];exact⟨G',hJ',rfl⟩⟩,h5⟩
  | ret=>
   obtain⟨G',hX',h4⟩:=q₂
   obtain⟨hrun,h5⟩:=fin (some .ret) G' w₄ h4
   exact⟨_,_,hrun,_,_,rfl,⟨_,rfl,by simp only[Option.isNone_some,Bool.false_eq_true,if_false];exact⟨_,G',hX',rfl⟩⟩,h5⟩
  | exit id=>
   obtain⟨G',hX',h4⟩:=q₂
   obtain⟨hrun,h5⟩:=fin (some (.exit id)) G' w₄ h4
   exact⟨_,_,hrun,_,_,rfl,⟨_,rfl,by simp only[Option.isNone_some,Bool.false_eq_true,if_false];exact⟨_,G',hX',rfl⟩⟩,h5⟩
  | goto _=>exact q₂.elim
  | panic _=>exact q₂.elim
  | outgrown=>exact q₂.elim
 | exit _=>exact q.elim
 | goto _=>exact q.elim
 | ret=>exact q.elim
 | panic _=>exact q.elim
 | outgrown=>exact q.elim
end

section
structure BQ where
 page:UInt32
 tag:List UInt8
deriving DecidableEq
def Bz(r:BQ):List Value:=[Y r.page,vS r.tag]
structure Aw where
 ring:List BI
 gen:UInt32
 boot:UInt32
 seals:UInt64
 taken:List (UInt32×Bool)
structure BW where
 ring:List BI
 gen:UInt32
 boot:UInt32
 num:UInt64
 taken:List Bool
end

section
open Go Go.ChangeShapes Go.WideShapes Go.ChangeAt Go.RowKit Go.Deep Go.Lib Go.Joins
section
variable {G:Type}{enc:TypeId×Value→G}{P:Program}{W:World}
end
end
end Go.Proofs.YtpaohlmgfifebaaGreatDoor
