/- The texts T0, C0, C1, A0, D0, D1, D2, D3, B0, B1, D4, E0, E1, G0, G1, G2, H0, H1, I0, I1, R1, R2, X0, R3, V0, S14, S15, one behind the other: each bears its own sentence. Conditions: as each says. -/
import Derived.Test.YtkibffdipniemaaGreatDoorMH1
import Derived.Test.YtkibffdipniemaaGreatDoorChecked
import Derived.Maps.Range

set_option linter.unusedVariables false
set_option linter.unusedSimpArgs false
set_option maxHeartbeats 4000000
set_option maxRecDepth 100000
namespace Go.Proofs.YtkibffdipniemaaGreatDoor
open Go
/- Closed facts of the loaded program: types and functions, each by the kernel. No condition. -/
section
set_option maxRecDepth 100000
theorem CJ:Tryz.prog.follows .mixedOrders=true:=zK
theorem JA:Nd Tryz.prog 138=some 2:=zK
theorem Dk:Nd Tryz.prog 143=some 4:=zK
theorem K8:Nd Tryz.prog 148=some 8:=zK
theorem qM:Nd Tryz.prog 159=some 4:=zK
theorem Zi:Nd Tryz.prog 251=some 2:=zK
theorem jt:Nd Tryz.prog 255=some 4:=zK
theorem dd:Nd Tryz.prog 265=some 16:=zK
theorem pj:Nd Tryz.prog 272=some 8:=zK
theorem ph:Nd Tryz.prog 274=some 10:=zK
theorem dX:Nd Tryz.prog 288=some 4:=zK
theorem k4:Nd Tryz.prog 296=some 64:=zK
theorem oF:Nd Tryz.prog 298=some 2:=zK
theorem CR:Nd Tryz.prog 31=some 2:=zK
theorem Dm:Nd Tryz.prog 54=some 3:=zK
theorem Kp:Nd Tryz.prog 57=some 5:=zK
theorem kL:Nd Tryz.prog 72=some 3:=zK
theorem D8:Nd Tryz.prog 79=some 4:=zK
theorem im:Ng Tryz.prog 138=some 24:=zK
theorem QN:Ng Tryz.prog 29=some 4:=zK
theorem fj:Ng Tryz.prog 31=some 24:=zK
theorem qh:Ng Tryz.prog 35=some 24:=zK
theorem rB:Ng Tryz.prog 4=some 1:=zK
theorem Uy:Ng Tryz.prog 5=some 1:=zK
theorem cC:Ng Tryz.prog 57=some 64:=zK
theorem fD:Ng Tryz.prog 72=some 40:=zK
theorem Rh:Ng Tryz.prog 79=some 32:=zK
theorem ie:Ng Tryz.prog 9=some 16:=zK
theorem lU:AQ Tryz.prog 100=true:=zK
theorem S3:AQ Tryz.prog 101=true:=zK
theorem VE:AQ Tryz.prog 102=true:=zK
theorem Mi:AQ Tryz.prog 103=true:=zK
theorem ZU:AQ Tryz.prog 104=true:=zK
theorem mn:AQ Tryz.prog 105=true:=zK
theorem fp:AQ Tryz.prog 106=true:=zK
theorem nX:AQ Tryz.prog 107=true:=zK
theorem f6:AQ Tryz.prog 108=true:=zK
theorem fb:AQ Tryz.prog 109=true:=zK
theorem qY:AQ Tryz.prog 11=true:=zK
theorem ZE:AQ Tryz.prog 110=true:=zK
theorem fF:AQ Tryz.prog 111=true:=zK
theorem Yu:AQ Tryz.prog 112=true:=zK
theorem la:AQ Tryz.prog 113=true:=zK
theorem nH:AQ Tryz.prog 114=true:=zK
theorem mD:AQ Tryz.prog 115=true:=zK
theorem ff:AQ Tryz.prog 116=true:=zK
theorem fX:AQ Tryz.prog 117=true:=zK
theorem ms:AQ Tryz.prog 118=true:=zK
theorem Yv:AQ Tryz.prog 119=true:=zK
theorem jU:AQ Tryz.prog 12=true:=zK
theorem nY:AQ Tryz.prog 120=true:=zK
theorem me:AQ Tryz.prog 121=true:=zK
theorem fL:AQ Tryz.prog 122=true:=zK
theorem gV:AQ Tryz.prog 123=true:=zK
theorem U3:AQ Tryz.prog 124=true:=zK
theorem nh:AQ Tryz.prog 125=true:=zK
theorem md:AQ Tryz.prog 126=true:=zK
theorem nb:AQ Tryz.prog 127=true:=zK
theorem lO:AQ Tryz.prog 128=true:=zK
theorem mS:AQ Tryz.prog 129=true:=zK
theorem oA:AQ Tryz.prog 13=true:=zK
theorem fG:AQ Tryz.prog 130=true:=zK
theorem lQ:AQ Tryz.prog 134=true:=zK
theorem mW:AQ Tryz.prog 135=true:=zK
theorem mu:AQ Tryz.prog 136=true:=zK
theorem lP:AQ Tryz.prog 137=true:=zK
theorem mX:AQ Tryz.prog 138=true:=zK
theorem Ze:AQ Tryz.prog 139=true:=zK
theorem qX:AQ Tryz.prog 14=true:=zK
theorem Sc:AQ Tryz.prog 140=true:=zK
theorem lN:AQ Tryz.prog 142=true:=zK
theorem aD:AQ Tryz.prog 144=true:=zK
theorem nO:AQ Tryz.prog 145=true:=zK
theorem ng:AQ Tryz.prog 146=true:=zK
theorem lz:AQ Tryz.prog 147=true:=zK
theorem lJ:AQ Tryz.prog 148=true:=zK
theorem fy:AQ Tryz.prog 149=true:=zK
theorem pf:AQ Tryz.prog 15=true:=zK
theorem mE:AQ Tryz.prog 150=true:=zK
theorem VC:AQ Tryz.prog 151=true:=zK
theorem VA:AQ Tryz.prog 152=true:=zK
theorem aG:AQ Tryz.prog 153=true:=zK
theorem gA:AQ Tryz.prog 154=true:=zK
theorem nC:AQ Tryz.prog 155=true:=zK
theorem lj:AQ Tryz.prog 156=true:=zK
theorem nN:AQ Tryz.prog 157=true:=zK
theorem fq:AQ Tryz.prog 158=true:=zK
theorem Zc:AQ Tryz.prog 159=true:=zK
theorem mY:AQ Tryz.prog 160=true:=zK
theorem lV:AQ Tryz.prog 161=true:=zK
theorem G8:AQ Tryz.prog 162=true:=zK
theorem fE:AQ Tryz.prog 163=true:=zK
theorem lH:AQ Tryz.prog 164=true:=zK
theorem f4:AQ Tryz.prog 165=true:=zK
theorem lg:AQ Tryz.prog 166=true:=zK
theorem lW:AQ Tryz.prog 167=true:=zK
theorem aK:AQ Tryz.prog 168=true:=zK
theorem mB:AQ Tryz.prog 169=true:=zK
theorem pq:AQ Tryz.prog 17=true:=zK
theorem LK:AQ Tryz.prog 170=true:=zK
theorem fH:AQ Tryz.prog 171=true:=zK
theorem mO:AQ Tryz.prog 172=true:=zK
theorem mj:AQ Tryz.prog 173=true:=zK
theorem ni:AQ Tryz.prog 174=true:=zK
theorem fi:AQ Tryz.prog 177=true:=zK
theorem LJ:AQ Tryz.prog 178=true:=zK
theorem lM:AQ Tryz.prog 179=true:=zK
theorem dU:AQ Tryz.prog 18=true:=zK
theorem gH:AQ Tryz.prog 180=true:=zK
theorem lS:AQ Tryz.prog 181=true:=zK
theorem Y6:AQ Tryz.prog 182=true:=zK
theorem lR:AQ Tryz.prog 183=true:=zK
theorem lh:AQ Tryz.prog 184=true:=zK
theorem mP:AQ Tryz.prog 187=true:=zK
theorem nF:AQ Tryz.prog 188=true:=zK
theorem nL:AQ Tryz.prog 189=true:=zK
theorem eG:AQ Tryz.prog 19=true:=zK
theorem f8:AQ Tryz.prog 190=true:=zK
theorem nV:AQ Tryz.prog 191=true:=zK
theorem f5:AQ Tryz.prog 192=true:=zK
theorem nk:AQ Tryz.prog 193=true:=zK
theorem nW:AQ Tryz.prog 194=true:=zK
theorem lc:AQ Tryz.prog 195=true:=zK
theorem Qx:AQ Tryz.prog 196=true:=zK
theorem mH:AQ Tryz.prog 197=true:=zK
theorem lI:AQ Tryz.prog 198=true:=zK
theorem nG:AQ Tryz.prog 199=true:=zK
theorem aE:AQ Tryz.prog 20=true:=zK
theorem fm:AQ Tryz.prog 200=true:=zK
theorem nS:AQ Tryz.prog 201=true:=zK
theorem nR:AQ Tryz.prog 202=true:=zK
theorem Zw:AQ Tryz.prog 203=true:=zK
theorem lT:AQ Tryz.prog 204=true:=zK
theorem mc:AQ Tryz.prog 205=true:=zK
theorem Yc:AQ Tryz.prog 206=true:=zK
theorem kr:AQ Tryz.prog 21=true:=zK
theorem mm:AQ Tryz.prog 210=true:=zK
theorem mz:AQ Tryz.prog 211=true:=zK
theorem mI:AQ Tryz.prog 212=true:=zK
theorem fJ:AQ Tryz.prog 213=true:=zK
theorem gP:AQ Tryz.prog 214=true:=zK
theorem nT:AQ Tryz.prog 215=true:=zK
theorem mM:AQ Tryz.prog 216=true:=zK
theorem mC:AQ Tryz.prog 217=true:=zK
theorem Nq:AQ Tryz.prog 218=true:=zK
theorem Lt:AQ Tryz.prog 219=true:=zK
theorem qH:AQ Tryz.prog 22=true:=zK
theorem li:AQ Tryz.prog 220=true:=zK
theorem nn:AQ Tryz.prog 221=true:=zK
theorem lX:AQ Tryz.prog 222=true:=zK
theorem mA:AQ Tryz.prog 225=true:=zK
theorem mr:AQ Tryz.prog 226=true:=zK
theorem ZS:AQ Tryz.prog 227=true:=zK
theorem mo:AQ Tryz.prog 228=true:=zK
theorem Lq:AQ Tryz.prog 229=true:=zK
theorem oK:AQ Tryz.prog 23=true:=zK
theorem m0:AQ Tryz.prog 230=true:=zK
theorem fu:AQ Tryz.prog 231=true:=zK
theorem gF:AQ Tryz.prog 232=true:=zK
theorem mh:AQ Tryz.prog 233=true:=zK
theorem U8:AQ Tryz.prog 234=true:=zK
theorem nj:AQ Tryz.prog 235=true:=zK
theorem qF:AQ Tryz.prog 24=true:=zK
theorem jO:AQ Tryz.prog 25=true:=zK
theorem qE:AQ Tryz.prog 26=true:=zK
theorem kx:AQ Tryz.prog 29=true:=zK
theorem oI:AQ Tryz.prog 30=true:=zK
theorem pZ:AQ Tryz.prog 31=true:=zK
theorem pP:AQ Tryz.prog 32=true:=zK
theorem oP:AQ Tryz.prog 33=true:=zK
theorem oM:AQ Tryz.prog 34=true:=zK
theorem pg:AQ Tryz.prog 40=true:=zK
theorem oV:AQ Tryz.prog 41=true:=zK
theorem pn:AQ Tryz.prog 42=true:=zK
theorem jr:AQ Tryz.prog 43=true:=zK
theorem oq:AQ Tryz.prog 44=true:=zK
theorem pW:AQ Tryz.prog 45=true:=zK
theorem oW:AQ Tryz.prog 46=true:=zK
theorem qO:AQ Tryz.prog 47=true:=zK
theorem jz:AQ Tryz.prog 48=true:=zK
theorem pz:AQ Tryz.prog 49=true:=zK
theorem ZM:AQ Tryz.prog 50=true:=zK
theorem ow:AQ Tryz.prog 51=true:=zK
theorem qA:AQ Tryz.prog 52=true:=zK
theorem eU:AQ Tryz.prog 53=true:=zK
theorem ku:AQ Tryz.prog 56=true:=zK
theorem n6:AQ Tryz.prog 57=true:=zK
theorem oh:AQ Tryz.prog 58=true:=zK
theorem qT:AQ Tryz.prog 59=true:=zK
theorem p9:AQ Tryz.prog 60=true:=zK
theorem k9:AQ Tryz.prog 61=true:=zK
theorem Wj:AQ Tryz.prog 62=true:=zK
theorem jc:AQ Tryz.prog 63=true:=zK
theorem lA:AQ Tryz.prog 64=true:=zK
theorem pb:AQ Tryz.prog 65=true:=zK
theorem i0:AQ Tryz.prog 66=true:=zK
theorem jP:AQ Tryz.prog 67=true:=zK
theorem oa:AQ Tryz.prog 68=true:=zK
theorem kP:AQ Tryz.prog 69=true:=zK
theorem N3:AQ Tryz.prog 70=true:=zK
theorem oz:AQ Tryz.prog 71=true:=zK
theorem de:AQ Tryz.prog 72=true:=zK
theorem jx:AQ Tryz.prog 73=true:=zK
theorem qU:AQ Tryz.prog 74=true:=zK
theorem kK:AQ Tryz.prog 75=true:=zK
theorem ip:AQ Tryz.prog 76=true:=zK
theorem ot:AQ Tryz.prog 77=true:=zK
theorem dP:AQ Tryz.prog 78=true:=zK
theorem pR:AQ Tryz.prog 79=true:=zK
theorem oo:AQ Tryz.prog 80=true:=zK
theorem o7:AQ Tryz.prog 81=true:=zK
theorem pG:AQ Tryz.prog 82=true:=zK
theorem ou:AQ Tryz.prog 83=true:=zK
theorem jQ:AQ Tryz.prog 84=true:=zK
theorem jy:AQ Tryz.prog 85=true:=zK
theorem qJ:AQ Tryz.prog 86=true:=zK
theorem jE:AQ Tryz.prog 89=true:=zK
theorem pV:AQ Tryz.prog 90=true:=zK
theorem pB:AQ Tryz.prog 91=true:=zK
theorem pL:AQ Tryz.prog 92=true:=zK
theorem Zx:AQ Tryz.prog 93=true:=zK
theorem ol:AQ Tryz.prog 94=true:=zK
theorem oJ:AQ Tryz.prog 95=true:=zK
theorem oZ:AQ Tryz.prog 96=true:=zK
theorem eh:AQ Tryz.prog 97=true:=zK
theorem j6:AQ Tryz.prog 98=true:=zK
theorem rH:Tryz.prog.cellsOf 5=1:=zK
theorem gC:eN Tryz.prog 31=some [(0,.int .u32),(1,.string)]:=zK
theorem kY:eN Tryz.prog 54=some [(0,.int .u32),(1,.int .u32),(2,.int .i64)]:=zK
theorem rC:eN Tryz.prog 79=some [(0,.int .u64),(1,.int .u32),(2,.int .u32),(3,.string)]:=zK
theorem iq:fo Tryz.prog 106 0=some 0:=zK
theorem V7:fo Tryz.prog 106 1=some 1:=zK
theorem Oc:fo Tryz.prog 106 2=some 2:=zK
theorem dA:fo Tryz.prog 115 0=some 0:=zK
theorem Sx:fo Tryz.prog 115 1=some 1:=zK
theorem QE:fo Tryz.prog 115 2=some 2:=zK
theorem TG:fo Tryz.prog 115 3=some 3:=zK
theorem OR:fo Tryz.prog 115 4=some 4:=zK
theorem WK:fo Tryz.prog 125 0=some 0:=zK
theorem af:fo Tryz.prog 125 1=some 1:=zK
theorem Va:fo Tryz.prog 125 2=some 2:=zK
theorem cq:fo Tryz.prog 125 3=some 3:=zK
theorem kG:fo Tryz.prog 128 1=some 1:=zK
theorem bh:fo Tryz.prog 130 0=some 0:=zK
theorem P8:fo Tryz.prog 130 1=some 4:=zK
theorem aU:fo Tryz.prog 130 2=some 5:=zK
theorem jv:fo Tryz.prog 130 3=some 6:=zK
theorem jm:fo Tryz.prog 130 4=some 7:=zK
theorem Od:fo Tryz.prog 132 0=some 0:=zK
theorem QG:fo Tryz.prog 132 1=some 1:=zK
theorem cm:fo Tryz.prog 132 2=some 2:=zK
theorem Sp:fo Tryz.prog 132 4=some 6:=zK
theorem bQ:fo Tryz.prog 132 5=some 7:=zK
theorem FO:fo Tryz.prog 138 0=some 0:=zK
theorem Ou:fo Tryz.prog 138 1=some 1:=zK
theorem Wx:fo Tryz.prog 143 0=some 0:=zK
theorem OU:fo Tryz.prog 143 1=some 1:=zK
theorem Sa:fo Tryz.prog 143 2=some 2:=zK
theorem Sb:fo Tryz.prog 143 3=some 3:=zK
theorem NJ:fo Tryz.prog 148 0=some 0:=zK
theorem Ft:fo Tryz.prog 148 1=some 1:=zK
theorem Fx:fo Tryz.prog 148 2=some 4:=zK
theorem DZ:fo Tryz.prog 148 3=some 5:=zK
theorem Gm:fo Tryz.prog 148 4=some 6:=zK
theorem Sd:fo Tryz.prog 172 0=some 0:=zK
theorem HL:fo Tryz.prog 172 1=some 1:=zK
theorem Qc:fo Tryz.prog 194 0=some 0:=zK
theorem V0:fo Tryz.prog 194 1=some 1:=zK
theorem Wv:fo Tryz.prog 228 0=some 0:=zK
theorem QU:fo Tryz.prog 243 0=some 0:=zK
theorem cD:fo Tryz.prog 255 0=some 0:=zK
theorem bD:fo Tryz.prog 255 1=some 1:=zK
theorem V4:fo Tryz.prog 255 2=some 2:=zK
theorem Vx:fo Tryz.prog 255 3=some 3:=zK
theorem Vj:fo Tryz.prog 274 0=some 0:=zK
theorem KA:fo Tryz.prog 274 1=some 8:=zK
theorem SM:fo Tryz.prog 274 2=some 9:=zK
theorem MY:fo Tryz.prog 31 0=some 0:=zK
theorem Mh:fo Tryz.prog 31 1=some 1:=zK
theorem GG:fo Tryz.prog 54 0=some 0:=zK
theorem GE:fo Tryz.prog 54 1=some 1:=zK
theorem Dg:fo Tryz.prog 54 2=some 2:=zK
theorem Mk:fo Tryz.prog 57 0=some 0:=zK
theorem Q0:fo Tryz.prog 57 1=some 3:=zK
theorem Hb:fo Tryz.prog 57 2=some 4:=zK
theorem fA:fo Tryz.prog 69 0=some 0:=zK
theorem mi:fo Tryz.prog 69 1=some 1:=zK
theorem nJ:fo Tryz.prog 69 2=some 2:=zK
theorem lZ:fo Tryz.prog 69 3=some 3:=zK
theorem Ys:fo Tryz.prog 69 4=some 4:=zK
theorem Ly:fo Tryz.prog 69 5=some 5:=zK
theorem ZB:fo Tryz.prog 72 0=some 0:=zK
theorem Sr:fo Tryz.prog 72 1=some 1:=zK
theorem Nh:fo Tryz.prog 79 0=some 0:=zK
theorem HA:fo Tryz.prog 79 1=some 1:=zK
theorem G6:fo Tryz.prog 79 2=some 2:=zK
theorem PU:fo Tryz.prog 79 3=some 3:=zK
theorem VG:fo Tryz.prog 96 0=some 0:=zK
theorem fR:fo Tryz.prog 96 1=some 1:=zK
theorem mq:fo Tryz.prog 96 2=some 2:=zK
theorem nI:fo Tryz.prog 96 3=some 3:=zK
theorem U6:fo Tryz.prog 96 4=some 4:=zK
theorem Ss:fo Tryz.prog 96 5=some 5:=zK
theorem lK:fo Tryz.prog 99 0=some 0:=zK
theorem PV:fo Tryz.prog 99 1=some 1:=zK
theorem Sv:fo Tryz.prog 99 2=some 2:=zK
theorem Zy:fo Tryz.prog 99 3=some 3:=zK
theorem Tk:liesAt Tryz.prog Tryz.prog.depth 172 (2 / Tryz.prog.cellsOf 172) 0 172 1=true:=zK
theorem ZG:liesAt Tryz.prog Tryz.prog.depth 228 (2 / Tryz.prog.cellsOf 228) 0 172 1=true:=zK
theorem jh:liesAt Tryz.prog Tryz.prog.depth 243 (2 / Tryz.prog.cellsOf 243) 0 172 1=true:=zK
theorem kj:Lf Tryz.prog 106=true:=zK
theorem oL:Lf Tryz.prog 115=true:=zK
theorem py:Lf Tryz.prog 128=true:=zK
theorem qP:Lf Tryz.prog 130=true:=zK
theorem qS:Lf Tryz.prog 132=true:=zK
theorem WJ:Lf Tryz.prog 138=true:=zK
theorem To:Lf Tryz.prog 143=true:=zK
theorem T3:Lf Tryz.prog 148=true:=zK
theorem od:Lf Tryz.prog 194=true:=zK
theorem ZT:Lf Tryz.prog 251=true:=zK
theorem pJ:Lf Tryz.prog 252=true:=zK
theorem oS:Lf Tryz.prog 255=true:=zK
theorem pm:Lf Tryz.prog 274=true:=zK
theorem pQ:Lf Tryz.prog 288=true:=zK
theorem pT:Lf Tryz.prog 299=true:=zK
theorem Kv:Lf Tryz.prog 31=true:=zK
theorem Po:Lf Tryz.prog 54=true:=zK
theorem Xo:Lf Tryz.prog 57=true:=zK
theorem qu:Lf Tryz.prog 69=true:=zK
theorem fU:Lf Tryz.prog 72=true:=zK
theorem RR:Lf Tryz.prog 79=true:=zK
theorem ql:Lf Tryz.prog 96=true:=zK
theorem qm:Lf Tryz.prog 99=true:=zK
theorem i9:Lb Tryz.prog 106=some [(0,1),(1,1),(2,1)]:=zK
theorem oT:Lb Tryz.prog 115=some [(0,1),(1,1),(2,1),(3,1),(4,1),(5,1)]:=zK
theorem om:Lb Tryz.prog 128=some [(0,1),(1,1),(2,1)]:=zK
theorem pI:Lb Tryz.prog 130=some [(0,4),(4,1),(5,1),(6,1),(7,3)]:=zK
theorem n9:Lb Tryz.prog 132=some [(0,1),(1,1),(2,1),(3,3),(6,1),(7,1)]:=zK
theorem Wr:Lb Tryz.prog 138=some [(0,1),(1,1)]:=zK
theorem TP:Lb Tryz.prog 143=some [(0,1),(1,1),(2,1),(3,1)]:=zK
theorem Tg:Lb Tryz.prog 148=some [(0,1),(1,3),(4,1),(5,1),(6,2)]:=zK
theorem o8:Lb Tryz.prog 194=some [(0,1),(1,1)]:=zK
theorem Yb:Lb Tryz.prog 251=some [(0,1),(1,1)]:=zK
theorem oB:Lb Tryz.prog 252=some [(0,2),(2,2),(4,2),(6,2)]:=zK
theorem oO:Lb Tryz.prog 255=some [(0,1),(1,1),(2,1),(3,1)]:=zK
theorem px:Lb Tryz.prog 274=some [(0,8),(8,1),(9,1)]:=zK
theorem qR:Lb Tryz.prog 288=some [(0,1),(1,1),(2,1),(3,1)]:=zK
theorem pA:Lb Tryz.prog 299=some [(0,2),(2,2)]:=zK
theorem K4:Lb Tryz.prog 31=some [(0,1),(1,1)]:=zK
theorem Pm:Lb Tryz.prog 54=some [(0,1),(1,1),(2,1)]:=zK
theorem X4:Lb Tryz.prog 57=some [(0,3),(3,1),(4,1)]:=zK
theorem q8:Lb Tryz.prog 69=some [(0,1),(1,1),(2,1),(3,1),(4,1),(5,1)]:=zK
theorem fZ:Lb Tryz.prog 72=some [(0,1),(1,2)]:=zK
theorem Rj:Lb Tryz.prog 79=some [(0,1),(1,1),(2,1),(3,1)]:=zK
theorem qp:Lb Tryz.prog 96=some [(0,1),(1,1),(2,1),(3,1),(4,1),(5,1)]:=zK
theorem qq:Lb Tryz.prog 99=some [(0,1),(1,1),(2,1),(3,1)]:=zK
theorem Zd:Ip Tryz.prog 104=true:=zK
theorem WG:Ip Tryz.prog 113=true:=zK
theorem kV:Ip Tryz.prog 116=true:=zK
theorem jd:Ip Tryz.prog 126=true:=zK
theorem N5:Ip Tryz.prog 141=true:=zK
theorem Hc:Ip Tryz.prog 146=true:=zK
theorem dj:Ip Tryz.prog 170=true:=zK
theorem LE:Ip Tryz.prog 192=true:=zK
theorem Zs:Ip Tryz.prog 200=true:=zK
theorem Ns:Ip Tryz.prog 22=true:=zK
theorem YE:Ip Tryz.prog 24=true:=zK
theorem gB:Ip Tryz.prog 25=true:=zK
theorem nu:Ip Tryz.prog 26=true:=zK
theorem M3:Ip Tryz.prog 268=true:=zK
theorem Az:Ip Tryz.prog 29=true:=zK
theorem DT:Ip Tryz.prog 3=true:=zK
theorem Sl:Ip Tryz.prog 32=true:=zK
theorem qZ:Ip Tryz.prog 34=true:=zK
theorem Em:Ip Tryz.prog 35=true:=zK
theorem MB:Ip Tryz.prog 36=true:=zK
theorem Uv:Ip Tryz.prog 4=true:=zK
theorem qb:Ip Tryz.prog 46=true:=zK
theorem MU:Ip Tryz.prog 48=true:=zK
theorem rG:Ip Tryz.prog 5=true:=zK
theorem Rc:Ip Tryz.prog 55=true:=zK
theorem nq:Ip Tryz.prog 65=true:=zK
theorem fK:Ip Tryz.prog 66=true:=zK
theorem P2:Ip Tryz.prog 67=true:=zK
theorem EZ:Ip Tryz.prog 9=true:=zK
theorem YN:Ip Tryz.prog 94=true:=zK
theorem S7:Ip Tryz.prog 97=true:=zK
theorem ik:CY Tryz.prog 113=some 1:=zK
theorem oQ:CY Tryz.prog 116=some 1:=zK
theorem Ej:CY Tryz.prog 138=some 2:=zK
theorem eI:CY Tryz.prog 141=some 1:=zK
theorem JI:CY Tryz.prog 143=some 4:=zK
theorem eE:CY Tryz.prog 146=some 1:=zK
theorem O6:CY Tryz.prog 148=some 8:=zK
theorem qN:CY Tryz.prog 170=some 1:=zK
theorem ez:CY Tryz.prog 172=some 2:=zK
theorem qD:CY Tryz.prog 200=some 1:=zK
theorem i4:CY Tryz.prog 22=some 1:=zK
theorem aO:CY Tryz.prog 251=some 2:=zK
theorem oD:CY Tryz.prog 255=some 4:=zK
theorem je:CY Tryz.prog 265=some 16:=zK
theorem oH:CY Tryz.prog 274=some 10:=zK
theorem Tw:CY Tryz.prog 288=some 4:=zK
theorem BQ:CY Tryz.prog 29=some 1:=zK
theorem ov:CY Tryz.prog 296=some 64:=zK
theorem pH:CY Tryz.prog 298=some 2:=zK
theorem La:CY Tryz.prog 3=some 1:=zK
theorem C2:CY Tryz.prog 31=some 2:=zK
theorem jo:CY Tryz.prog 32=some 1:=zK
theorem Ki:CY Tryz.prog 35=some 1:=zK
theorem f7:CY Tryz.prog 36=some 1:=zK
theorem O3:CY Tryz.prog 4=some 1:=zK
theorem jD:CY Tryz.prog 48=some 1:=zK
theorem Iv:CY Tryz.prog 5=some 1:=zK
theorem Na:CY Tryz.prog 54=some 3:=zK
theorem c9:CY Tryz.prog 55=some 1:=zK
theorem G4:CY Tryz.prog 57=some 5:=zK
theorem qa:CY Tryz.prog 67=some 1:=zK
theorem LQ:CY Tryz.prog 72=some 3:=zK
theorem Bo:CY Tryz.prog 79=some 4:=zK
theorem Gn:CY Tryz.prog 9=some 1:=zK
theorem rE:CY Tryz.prog 97=some 1:=zK
theorem Bz:Tryz.prog.underlying 113=some (.slice 29):=zK
theorem jL:Tryz.prog.underlying 116=some (.map 9 31):=zK
theorem k8:Tryz.prog.underlying 126=some (.map 29 9):=zK
theorem B1:Tryz.prog.underlying 141=some (.slice 5):=zK
theorem Eh:Tryz.prog.underlying 146=some (.slice 31):=zK
theorem MK:Tryz.prog.underlying 159=some (.array 4 35):=zK
theorem HF:Tryz.prog.underlying 166=some (.int .u64):=zK
theorem Wo:Tryz.prog.underlying 170=some (.pointer 172):=zK
theorem qi:Tryz.prog.underlying 2=some (.int .i64):=zK
theorem UB:Tryz.prog.underlying 200=some (.slice 35):=zK
theorem kT:Tryz.prog.underlying 218=some (.pointer 5):=zK
theorem DU:Tryz.prog.underlying 22=some (.slice 9):=zK
theorem UR:Tryz.prog.underlying 24=some (.pointer 96):=zK
theorem bz:Tryz.prog.underlying 25=some (.pointer 130):=zK
theorem Qh:Tryz.prog.underlying 251=some (.array 2 29):=zK
theorem Y3:Tryz.prog.underlying 252=some (.array 4 251):=zK
theorem k6:Tryz.prog.underlying 257=some (.unsafePointer):=zK
theorem rA:Tryz.prog.underlying 26=some (.pointer 69):=zK
theorem N6:Tryz.prog.underlying 265=some (.array 16 29):=zK
theorem pp:Tryz.prog.underlying 268=some (.pointer 274):=zK
theorem kZ:Tryz.prog.underlying 271=some (.array 8 29):=zK
theorem M9:Tryz.prog.underlying 272=some (.array 8 29):=zK
theorem Ta:Tryz.prog.underlying 287=some (.array 4 3):=zK
theorem OJ:Tryz.prog.underlying 288=some (.array 4 29):=zK
theorem Bg:Tryz.prog.underlying 29=some (.int .u32):=zK
theorem O2:Tryz.prog.underlying 296=some (.array 64 29):=zK
theorem Zh:Tryz.prog.underlying 298=some (.array 2 3):=zK
theorem oX:Tryz.prog.underlying 299=some (.array 2 298):=zK
theorem Ef:Tryz.prog.underlying 3=some (.int .i64):=zK
theorem iw:Tryz.prog.underlying 308=some (.array 5 3):=zK
theorem Bf:Tryz.prog.underlying 35=some (.slice 79):=zK
theorem HG:Tryz.prog.underlying 36=some (.slice 72):=zK
theorem CB:Tryz.prog.underlying 48=some (.int .u64):=zK
theorem CW:Tryz.prog.underlying 5=some (.int .u8):=zK
theorem MR:Tryz.prog.underlying 55=some (.slice 57):=zK
theorem Jr:Tryz.prog.underlying 66=some (.slice 138):=zK
theorem OS:Tryz.prog.underlying 67=some (.slice 4):=zK
theorem Bu:Tryz.prog.underlying 9=some (.string):=zK
theorem YH:Tryz.prog.underlying 94=some (.map 29 4):=zK
theorem kO:Dl Tryz.prog 106=some (.agg #[.nilFunc,.slice none 0 0,.int .i64 0]):=zK
theorem pE:Dl Tryz.prog 113=some (.slice none 0 0):=zK
theorem pK:Dl Tryz.prog 115=some (.agg #[.pointer none,.slice none 0 0,.slice none 0 0,.slice none 0 0,.int .i64 0,.slice none 0 0]):=zK
theorem qQ:Dl Tryz.prog 116=some (.map none):=zK
theorem oR:Dl Tryz.prog 128=some (.agg #[.int .u64 0,.string ⟨⟨[]⟩⟩,.int .u32 0]):=zK
theorem qC:Dl Tryz.prog 130=some (.agg #[.bool false,.bool false,.int .i64 0,.int .i64 0,.slice none 0 0,.map none,.map none,.int .u64 0,.string ⟨⟨[]⟩⟩,.int .u32 0]):=zK
theorem pu:Dl Tryz.prog 132=some (.agg #[.slice none 0 0,.slice none 0 0,.slice none 0 0,.int .u64 0,.string ⟨⟨[]⟩⟩,.int .u32 0,.int .i64 0,.bool false]):=zK
theorem IT:Dl Tryz.prog 138=some (.agg #[.int .u32 0,.string ⟨⟨[]⟩⟩]):=zK
theorem K5:Dl Tryz.prog 143=some (.agg #[.int .u32 0,.int .u32 0,.int .u32 0,.int .u64 0]):=zK
theorem Lh:Dl Tryz.prog 148=some (.agg #[.int .i64 0,.int .u32 0,.int .u32 0,.int .i64 0,.slice none 0 0,.slice none 0 0,.int .u32 0,.string ⟨⟨[]⟩⟩]):=zK
theorem pr:Dl Tryz.prog 159=some (.agg #[.slice none 0 0,.slice none 0 0,.slice none 0 0,.slice none 0 0]):=zK
theorem ZW:Dl Tryz.prog 172=some (.agg #[.pointer none,.slice none 0 0]):=zK
theorem o9:Dl Tryz.prog 194=some (.agg #[.string ⟨⟨[]⟩⟩,.bool false]):=zK
theorem lB:Dl Tryz.prog 228=some (.agg #[.pointer none,.slice none 0 0]):=zK
theorem qK:Dl Tryz.prog 243=some (.agg #[.pointer none,.slice none 0 0]):=zK
theorem P0:Dl Tryz.prog 251=some (.agg #[.int .u32 0,.int .u32 0]):=zK
theorem oC:Dl Tryz.prog 252=some (.agg #[.int .u32 0,.int .u32 0,.int .u32 0,.int .u32 0,.int .u32 0,.int .u32 0,.int .u32 0,.int .u32 0]):=zK
theorem iy:Dl Tryz.prog 255=some (.agg #[.int .u32 0,.int .u32 0,.int .u32 0,.int .u32 0]):=zK
theorem aC:Dl Tryz.prog 265=some (.agg #[.int .u32 0,.int .u32 0,.int .u32 0,.int .u32 0,.int .u32 0,.int .u32 0,.int .u32 0,.int .u32 0,.int .u32 0,.int .u32 0,.int .u32 0,.int .u32 0,.int .u32 0,.int .u32 0,.int .u32 0,.int .u32 0]):=zK
theorem pC:Dl Tryz.prog 271=some (.agg #[.int .u32 0,.int .u32 0,.int .u32 0,.int .u32 0,.int .u32 0,.int .u32 0,.int .u32 0,.int .u32 0]):=zK
theorem jf:Dl Tryz.prog 274=some (.agg #[.int .u32 0,.int .u32 0,.int .u32 0,.int .u32 0,.int .u32 0,.int .u32 0,.int .u32 0,.int .u32 0,.string ⟨⟨[]⟩⟩,.int .i64 0]):=zK
theorem pO:Dl Tryz.prog 287=some (.agg #[.int .i64 0,.int .i64 0,.int .i64 0,.int .i64 0]):=zK
theorem P9:Dl Tryz.prog 288=some (.agg #[.int .u32 0,.int .u32 0,.int .u32 0,.int .u32 0]):=zK
theorem Jq:Dl Tryz.prog 29=some (.int .u32 0):=zK
theorem kg:Dl Tryz.prog 296=some (.agg #[.int .u32 0,.int .u32 0,.int .u32 0,.int .u32 0,.int .u32 0,.int .u32 0,.int .u32 0,.int .u32 0,.int .u32 0,.int .u32 0,.int .u32 0,.int .u32 0,.int .u32 0,.int .u32 0,.int .u32 0,.int .u32 0,.int .u32 0,.int .u32 0,.int .u32 0,.int .u32 0,.int .u32 0,.int .u32 0,.int .u32 0,.int .u32 0,.int .u32 0,.int .u32 0,.int .u32 0,.int .u32 0,.int .u32 0,.int .u32 0,.int .u32 0,.int .u32 0,.int .u32 0,.int .u32 0,.int .u32 0,.int .u32 0,.int .u32 0,.int .u32 0,.int .u32 0,.int .u32 0,.int .u32 0,.int .u32 0,.int .u32 0,.int .u32 0,.int .u32 0,.int .u32 0,.int .u32 0,.int .u32 0,.int .u32 0,.int .u32 0,.int .u32 0,.int .u32 0,.int .u32 0,.int .u32 0,.int .u32 0,.int .u32 0,.int .u32 0,.int .u32 0,.int .u32 0,.int .u32 0,.int .u32 0,.int .u32 0,.int .u32 0,.int .u32 0]):=zK
theorem dz:Dl Tryz.prog 298=some (.agg #[.int .i64 0,.int .i64 0]):=zK
theorem pi:Dl Tryz.prog 299=some (.agg #[.int .i64 0,.int .i64 0,.int .i64 0,.int .i64 0]):=zK
theorem nD:Dl Tryz.prog 3=some (.int .i64 0):=zK
theorem oN:Dl Tryz.prog 308=some (.agg #[.int .i64 0,.int .i64 0,.int .i64 0,.int .i64 0,.int .i64 0]):=zK
theorem DQ:Dl Tryz.prog 31=some (.agg #[.int .u32 0,.string ⟨⟨[]⟩⟩]):=zK
theorem j0:Dl Tryz.prog 35=some (.slice none 0 0):=zK
theorem d7:Dl Tryz.prog 4=some (.bool false):=zK
theorem J7:Dl Tryz.prog 5=some (.int .u8 0):=zK
theorem It:Dl Tryz.prog 54=some (.agg #[.int .u32 0,.int .u32 0,.int .i64 0]):=zK
theorem HV:Dl Tryz.prog 57=some (.agg #[.int .u32 0,.int .u32 0,.int .i64 0,.slice none 0 0,.slice none 0 0]):=zK
theorem qc:Dl Tryz.prog 69=some (.agg #[.pointer none,.slice none 0 0,.int .u32 0,.int .u32 0,.int .u64 0,.slice none 0 0]):=zK
theorem Ol:Dl Tryz.prog 72=some (.agg #[.string ⟨⟨[]⟩⟩,.int .u32 0,.string ⟨⟨[]⟩⟩]):=zK
theorem ET:Dl Tryz.prog 79=some (.agg #[.int .u64 0,.int .u32 0,.int .u32 0,.string ⟨⟨[]⟩⟩]):=zK
theorem OM:Dl Tryz.prog 9=some (.string ⟨⟨[]⟩⟩):=zK
theorem qe:Dl Tryz.prog 96=some (.agg #[.pointer none,.slice none 0 0,.int .u32 0,.int .u32 0,.int .u64 0,.map none]):=zK
theorem qs:Dl Tryz.prog 97=some (.pointer none):=zK
theorem qj:Dl Tryz.prog 99=some (.agg #[.pointer none,.slice none 0 0,.slice none 0 0,.int .i64 0]):=zK
end

/- Walks of the ring's functions: what a ring is, what is found in it. Condition: rings of at most 2^40 keys. -/
section
variable {K:Nat→Prop}{w0:World}{H:List AT}
def kc(p:UInt32×Bool):List Value:=[Z p.1,vB p.2]
theorem RG(v:Value):BH Tryz.prog K w0 146 [v] [] H (fun r M=>∃b,r=.func (.func 187) #[] #[vP b 0]∧M=[AI b (.cells v.cells 66)]):=by
 refine BH.enter Tryz.func146 rfl rfl ?_
 refine V ?_
 refine BU zR zR (fun _=>trivial) fun b0=>?_
 refine J zR (U (V ?_))
 refine GD (fv:=#[]) (cv:=#[_]) zR zR zR ?_
 refine J zR (U (AM ?_))
 exact AU (Co zR zR) (AV (M:=[_]) ⟨b0,zR,zR⟩ fun _ h=>h)
theorem RJ(v:Value)(ks:List BC)(b:Nat)(hk:Bn K w0 Ax 2 v ks)(hv:v.cells=#[v])(hn:ks.length≤1099511627776):iQ Tryz.prog K w0 187 [vP b 0] [AI b (.cells v.cells 66)] kc (Jt ks):=by
 intro lp J9 X T hy G h0
 rw[hv]
 refine BH.enter Tryz.func187 rfl rfl ?_
 refine V (J zR (U (V (AC 0 fK zR (Bb hk zR Jr zR (E zR (U (AL ?_))))))))
 refine SX.mono (Ay (α:=Nat×List AT) (fun x=>x.1≤ks.length∧J9 ((Jt ks).take x.1) x.2) (fun x=>[(0,vY lp),(3,Z (I8 ks x.1)),(6,v),(7,vI ks.length),(8,vI x.1)]) (fun x=>AI b (.cells #[v] 66)::(x.2++T)) (fun x=>ks.length-x.1) (fun x D hp=>?_) (0,G) ⟨Nat.zero_le _,h0⟩) tL
 obtain⟨i,G⟩:=x
 obtain⟨hi,hJ⟩:=hp
 simp only at hi hJ
 refine V (O zR Ao (U (AD ?_)))
 refine AG zR (fun hc=>?_) (fun hc=>?_)
 have hlt:i<ks.length:=by simpa using hc
 obtain⟨key,hkey⟩:=NA hlt
 have hg:=SA ks i hlt
 rw[JH hkey]at hg
 refine AH (AF (AD (AL (V ?_))))
 refine PF i key hk zR Jr Ej zR zR zR hkey fun be off hcell=>?_
 refine Aa (Ax key) zR JA zR zR (T6 (hcell _)) ?_
 refine Ah zR IT (fun _=>trivial) fun b0=>?_
 refine Am 0 zR zR zR zR Ej zR zR zR zT (U (AD (V (E zR (AB zR FO (AC 0 Az zR (AB zR FO (AC 0 Az zR (E zR ?_)))))))))
 refine O zR (iT (b:=I8 ks i)) ?_
 refine E zR ?_
 refine CU (c:=decide ((key.secret.length:Int)=32)) 19 5 24 zR (fun hb k=>?_) (fun hb k=>?_) ?_
 refine AB zR Ou (AC 0 EZ zR (BV zR Bu zR (O zR Bq (Ad zR zR zR ?_))))
 exact k.mono tL
 refine AA zR (AA zR (AA zR (AA zR (Ad zR zR zR ?_))))
 exact k.mono tL
 refine HX (M2:=[_,_]) (G:=G) (T:=T) (vs:=[_,_]) (ok:=fun G1=>J9 ((Jt ks).take (i+1)) G1) (no:=X) zR zR ⟨zR,zR,zT⟩ zR ?_ (fun bb G1 hG1=>⟨zT,?_⟩)
 intro M
 have:=hy _ _ _ (D9 hg).1 G hJ M
 rw[←(D9 hg).2]at this
 have e:MN ks i=(decide (I8 ks i<key.gen)&&decide ((key.secret.length:Int)=32)):=by unfold MN;rw[JH hkey]
 rw[e]at this
 exact this
 refine B9 zR zR (U ?_)
 refine AG zR (fun hc=>?_) (fun hc=>?_)
 obtain rfl:bb=false:=by simpa using hc
 refine AM (Ab (BM (Ab (DD (BM ?_)))))
 exact AU (C7 zR) (AV (M:=G1) (.inr hG1) fun _ h=>h.skip [_,_])
 obtain rfl:bb=true:=by simpa using hc
 refine AH (AF (AJ (AB zR FO (AC 0 Az zR (J zR (AS (Ai (AF (AJ (O zR (BA zO zO) (E zR (AS ?_))))))))))))
 refine Ac (i+1,G1) ⟨hlt,hG1⟩ (by simp only;omega) ⟨zR,by rw[I8,JH hkey];rfl,zR,zR,zR,zT⟩ (fun w h=>h.skip [_])
 refine Al (Aw (A9 (Au ?_)))
 have hle:i=ks.length:=by simp at hc;omega
 exact CQ (C7 zR) (AV (M:=G) (.inl (by rw[List.take_of_length_le (by rw[OD];omega)]at hJ;exact hJ)) fun _ h=>h.skip [_])
theorem OE(v:Value)(ks:List BC)(hk:Bn K w0 Ax 2 v ks)(hv:v.cells=#[v])(hn:ks.length≤1099511627776):BH Tryz.prog K w0 104 [v] [] H (fun r M=>r=vB (Cs ks)∧M=[]):=by
 refine BH.enter Tryz.func104 rfl rfl ?_
 refine V (J zR (U (JL (V (E zR (Bb hk zR Jr zR (O zR Gs ?_)))))))
 refine Ah zR d7 (fun _=>trivial) fun b0=>?_
 refine Am 0 zR zR zR zR O3 zR zR zR zT (U (AD (JS (AF (AD (V (E zR ?_)))))))
 refine AP (vs:=[_]) (Hin:=[]) zR zR ⟨zR,zT⟩ ng zR zR (RG v) ?_
 rintro _ _ ⟨b1,rfl,rfl⟩
 refine⟨trivial,?_⟩
 refine U (AL ?_)
 refine OT (enc:=kc) (Jt ks) (fun pre G=>pre.all (·.2)=true∧G=AI b0 (.cells #[vB (decide ((ks.length:Int)≤16))] 4)::H) (fun c G=>c=.exit 0∧(Jt ks).all (·.2)=false∧G=AI b0 (.cells #[vB false] 4)::H) zR mP zR (fun _=>rfl) (RJ v ks b1 hk hv hn) zR ⟨zR,zR⟩ (fun pre x suf G hxs hJ r lp Rest=>?_) (fun G D hJ=>?_) (fun c G D hX=>?_)
 obtain⟨hpre,rfl⟩:=hJ
 refine AJ (J zR (AS (KL (AL (V (E zR (B9 zR zR (U ?_))))))))
 refine AG zR (fun hc=>?_) (fun hc=>?_)
 refine V (Am 0 zR zR zR zR O3 zR zR zR zT (U (Al (Ks ?_))))
 exact MD ⟨zR,by rw[hxs];simp at hc;simp[hc],zR⟩ (fun _ h=>h)
 refine AH (Ai ?_)
 exact HK ⟨by simp at hc;simp[hpre,hc],zR⟩ (fun _ h=>h)
 obtain⟨hall,rfl⟩:=hJ
 refine Ai (AF (V (AC 0 Uv zR (J zR (U (AM (EN ?_)))))))
 exact AU (Co zR zR) (AV (M:=[]) ⟨by simp only[Cs,hall];simp;try omega,zR⟩ fun _ h=>h.skip [_])
 obtain⟨rfl,hall,rfl⟩:=hX
 refine Al (Au (AF (V (AC 0 Uv zR (J zR (U (AM (EN ?_))))))))
 exact AU (Co zR zR) (AV (M:=[]) ⟨by simp only[Cs,hall];simp;try omega,zR⟩ fun _ h=>h.skip [_])
end

/- Walks of the ring's functions: the place of a generation, its key. Condition: rings of at most 2^40 keys. -/
section
variable {K:Nat→Prop}{w0:World}{H:List AT}
theorem Uz(k:BC)(g:UInt32)(b:Nat):BH Tryz.prog K w0 148 [.agg (Ax k).toArray,vP b 0] [AI b (.cells #[Z g] 29)] H (fun r M=>r=vB (decide (g≤k.gen))∧M=[AI b (.cells #[Z g] 29)]):=by
 refine BH.enter Tryz.func148 rfl rfl ?_
 refine V ?_
 refine BU zR zR (fun _=>trivial) fun b0=>?_
 refine J zR (U (V (AB zR FO (AC 0 Az zR (AC 1 Az zR (O zR Fp (J zR (U (AM ?_)))))))))
 exact AU (Co zR zR) (AV (M:=[_]) ⟨zR,zR⟩ fun _ h=>h.skip [_])
theorem T5(v:Value)(ks:List BC)(g:FuncId)(cap:List Value)(B:List AT)(φ:BC→Bool)(hk:Bn K w0 Ax 2 v ks)(hn:ks.length≤1099511627776)(hcal:AQ Tryz.prog g=true)
(hf:∀(H:List AT) (k:BC),BH Tryz.prog K w0 g (.agg (Ax k).toArray::cap) B H (fun r M=>r=vB (φ k)∧M=B)):
  BH Tryz.prog K w0 147 [v,.func (.func g) #[] cap.toArray] B H (fun r M=>r=vI (if ks.findIdx φ<ks.length then(ks.findIdx φ:Int)else -1)∧M=B):=by
 refine BH.enter Tryz.func147 rfl rfl ?_
 refine V (J zR (U (AD (V (E zR (Bb hk zR Jr zR (E zR (U (AL ?_)))))))))
 refine SX.mono (Ay (α:=Nat) (fun i=>i≤ks.length∧∀j y,j<i→ks[j]? = some y→φ y=false) (fun i=>[(0,v),(1,.func (.func g) #[] cap.toArray),(7,vI ks.length),(8,vI i)]) (fun i=>B++H) (fun i=>ks.length-i) (fun i D hp=>?_) 0 ⟨Nat.zero_le _,fun j y hj=>absurd hj (Nat.not_lt_zero _)⟩) tL
 obtain⟨hi,hb⟩:=hp
 refine V (O zR Ao (U (AD ?_)))
 refine AG zR (fun hc=>?_) (fun hc=>?_)
 have hlt:i<ks.length:=by simpa using hc
 obtain⟨key,hkey⟩:=NA hlt
 refine AH (AF (AD (AL (V (E zR (J zR (U (V (E zR (E zR (E zR ?_)))))))))))
 refine PF i key hk zR Jr Ej zR zR zR hkey fun be off hcell=>?_
 refine Aa (Ax key) zR JA zR zR (T6 (hcell _)) ?_
 refine AP (vs:=[_]) (Hin:=B) zR zR ⟨zR,zT⟩ hcal zR zR (hf _ key) ?_
 rintro _ M ⟨rfl,hM⟩
 rw[hM]
 refine⟨trivial,?_⟩
 refine U ?_
 refine AG zR (fun hc2=>?_) (fun hc2=>?_)
 refine V (E zR (J zR (U (AM (BM (Ab (DD (BM (Ab ?_)))))))))
 exact AU (Co zR zR) (AV (M:=B) ⟨by rw[UO hkey hc2 hb];simp[hlt],zR⟩ fun _ h=>h)
 refine AH (Ai (AF (AJ (O zR (BA zO zO) (E zR (AS ?_))))))
 refine Ac (i+1) ⟨hlt,fun j y hj hy=>?_⟩ zO ⟨zR,zR,zR,zR,zT⟩
 rcases Nat.lt_or_ge j i with h | h
 exact hb j y h hy
 obtain rfl:j=i:=by omega
 rw[hkey]at hy
 cases hy
 exact hc2
 refine Al (Aw (A9 (Au (AF (V (J zR (U (AM ?_))))))))
 have hle:i=ks.length:=by simp at hc;omega
 exact AU (Co rfl rfl) (AV (M:=B) ⟨by rw[ak (fun j y hy=>hb j y (by obtain⟨h,_⟩:=List.getElem?_eq_some_iff.1 hy;omega) hy)];simp,rfl⟩ fun _ h=>h)
theorem XJ(v:Value)(ks:List BC)(g:UInt32)(hk:Bn K w0 Ax 2 v ks)(hn:ks.length≤1099511627776):BH Tryz.prog K w0 105 [v,Z g] [] H (fun r M=>r=.tuple #[vI (KK g ks),vB (Pa g ks)]∧M=[]):=by
 refine BH.enter Tryz.func105 rfl rfl ?_
 refine V ?_
 refine BU zR zR (fun _=>trivial) fun b0=>?_
 refine J zR (J zR (U (V (E zR ?_))))
 refine GD (fv:=#[]) (cv:=#[_]) zR zR zR ?_
 refine AP (vs:=[_,_]) (Hin:=[_]) zR zR ⟨zR,zR,zT⟩ lz zR zR (T5 v ks 148 [vP b0 0] [_] (fun k=>decide (g≤k.gen)) hk hn lJ (fun H k=>Uz k g b0)) ?_
 rintro _ _ ⟨rfl,rfl⟩
 refine⟨trivial,?_⟩
 change SL _ _ _ _ _ _ _ _ _ _ ((9,vI (if KK g ks<ks.length then(KK g ks:Int)else -1))::_) _
 generalize hpl:KK g ks=pl
 refine J zR (U (AD (V (E zR (O zR Ao (U ?_))))))
 refine AG zR (fun hc=>?_) (fun hc=>?_)
 refine V ?_
 have hnl:¬pl<ks.length:=by intro h;simp[h]at hc;omega
 have hpe:pl=ks.length:=by have:=di g ks;omega
 refine E zR (Bb hk zR Jr zR (J zR (J zR (U (AM (Ab ?_))))))
 exact AU (E8 zR zR zR) (AV (M:=[]) ⟨by simp[Pa,hpl,hpe],zR⟩ fun _ h=>h.skip [_])
 have hlt:pl<ks.length:=by
  rcases Nat.lt_or_ge pl ks.length with h | h
  exact h
  simp[Nat.not_lt.2 h]at hc
 rw[if_pos hlt]
 obtain⟨key,hkey⟩:=NA hlt
 refine AH (AF (AD (Aj CJ [0] (Pl.of [(true,0),(true,1),(true,2),(true,3),(true,4),(true,5),(true,6),(true,7),(true,8),(true,9)]) zK (E zR (E zR (E zR ?_))))))
 refine PF pl key hk zR Jr Ej zR zR zR hkey fun be off hcell=>?_
 refine AB zR FO ?_
 refine BR zR Az zR (fun w hw=>hcell _ w hw 0 _ zR) ?_
 refine AC 0 Az zR (O zR Or (J zR (J zR (U (AM ?_)))))
 exact AU (E8 zR zR zR) (AV (M:=[]) ⟨by simp[Pa,hpl,hkey],zR⟩ fun _ h=>h.skip [_])
theorem PW(v:Value)(ks:List BC)(g:UInt32)(hk:Bn K w0 Ax 2 v ks)(hv:v.cells=#[v])(hn:ks.length≤1099511627776):BH Tryz.prog K w0 72 [v,Z g] [] H (fun r M=>r=.tuple #[.agg (Ax (Cf ks g).1).toArray,vI (Cf ks g).2]∧M=[]):=by
 refine BH.enter Tryz.func72 rfl rfl ?_
 refine V ?_
 refine Ah zR IT (fun _=>trivial) fun b0=>?_
 refine J zR (U (AD (V (E zR ?_))))
 refine AP (vs:=[_]) (Hin:=[]) zR zR ⟨zR,zT⟩ ZU zR zR (OE v ks hk hv hn) ?_
 rintro _ _ ⟨rfl,rfl⟩
 refine⟨trivial,?_⟩
 refine B9 zR zR (U ?_)
 refine AG zR (fun hc=>?_) (fun hc=>?_)
 have hf:Cf ks g=(Ff,40):=by unfold Cf;rw[if_pos (by simpa using hc)]
 rw[hf]
 refine V (BL [] zR Wr WJ IT zT zR (Am 0 zR zR zR zR Ej zR zR zR zT (J zR (U (AM (Ab ?_))))))
 exact AU (Dq zR (BG 0 (Ax Ff) JA zR zR zR zR) zR) (AV (M:=[]) ⟨zR,zR⟩ fun _ h=>h.skip [_])
 have hr:Cs ks=true:=by simpa using hc
 refine AH (AF (V (E zR (E zR ?_))))
 refine AP (vs:=[_,_]) (Hin:=[]) zR zR ⟨zR,zR,zT⟩ mn zR zR (XJ v ks g hk hn) ?_
 rintro _ _ ⟨rfl,rfl⟩
 refine⟨trivial,?_⟩
 refine E zR (Ap zR zR zR (Ap zR zR zR (J zR (J zR (U (AD (V (E zR (B9 zR zR (U ?_))))))))))
 refine AG zR (fun hc=>?_) (fun hc=>?_)
 have hf:Cf ks g=(Ff,41):=by
  have:Pa g ks=false:=by simpa using hc
  unfold Pa at this
  unfold Cf
  rw[hr]
  cases h:ks[KK g ks]? with
  | none=>simp
  | some k=>rw[h]at this;simp at this;simp[this]
 rw[hf]
 refine V (BL [] zR Wr WJ IT zT zR (Am 0 zR zR zR zR Ej zR zR zR zT (J zR (U (AM (Ab ?_))))))
 exact AU (Dq zR (BG 0 (Ax Ff) JA zR zR zR zR) zR) (AV (M:=[]) ⟨zR,zR⟩ fun _ h=>h.skip [_])
 have hth:Pa g ks=true:=by simpa using hc
 obtain⟨key,hkey,hg⟩:∃key,ks[KK g ks]? = some key∧key.gen=g:=by
  unfold Pa at hth
  cases h:ks[KK g ks]? with
  | none=>rw[h]at hth;cases hth
  | some k=>rw[h]at hth;exact⟨k,rfl,by simpa using hth⟩
 have hf:Cf ks g=(key,0):=by
  unfold Cf
  rw[hr]
  simp[hkey,hg]
 rw[hf]
 refine AH (AF (V (E zR (E zR ?_))))
 refine PF (KK g ks) key hk zR Jr Ej zR zR zR hkey fun be off hcell=>?_
 refine Aa (Ax key) zR JA zR zR (T6 (hcell _)) (Am 0 zR zR zR zR Ej zR zR zR zT (J zR (U (AM ?_))))
 exact AU (Dq zR (BG 0 (Ax key) JA zR zR zR zR) zR) (AV (M:=[]) ⟨zR,zR⟩ fun _ h=>h.skip [_])
end

/- Walks of small functions: the tag of a block, words turned. No condition. -/
section
variable {K:Nat→Prop}{w0:World}{H:List AT}
theorem US(b:List UInt8)(hb:b.length≤9223372036854775807):BH Tryz.prog K w0 78 [vS b] [] H (fun v M=>v=vS (b.drop (b.length-32))∧M=[]):=by
 refine BH.enter Tryz.func78 rfl rfl ?_
 refine AD (AJ (J zR (AS (AF (AD (AJ (E zR (E zR (BV zR Bu zR (O zR (Cy zO zO) (az zR zR zR (MA (b.length-32) zR Bu zR zR zO zO (J zR (AS (AF (AM ?_))))))))))))))))
 exact AU (Co zR zR) (AV (M:=[]) ⟨zR,zR⟩ fun _ h=>h.skip [])
def S6(x:UInt32)(k:Int):UInt32:=shl32 x (BK k &&& 31).toNat ||| shr32 x (32-(BK k &&& 31)).toNat
theorem GL(x:UInt32)(k:Int):BH Tryz.prog K w0 227 [Z x,vI k] [] H (fun v M=>v=Z (S6 x k)∧M=[]):=by
 refine BH.enter Tryz.func227 rfl rfl ?_
 refine AD (AJ (J zR (AS (AF (AD (AJ (E zR (As zR zR (Cr Ef HF) ?_))))))))
 refine O zR (Pc (b:=31)) ?_
 refine J zR (AS (AF (AD (AJ (E zR (E zR (O zR D4.shl32 (E zR (E zR ?_)))))))))
 refine O zR (Rz (a:=32)) ?_
 refine O zR D4.shr32 (O zR DF (J zR (AS (AF (AM ?_)))))
 exact AU (Co zR zR) (AV (M:=[]) ⟨zR,zR⟩ fun _ h=>h.skip [])
end

/- Walks of SHA-256's words: a word turned, a part's sixty-four words. Condition: a part has sixty-four bytes. -/
section
variable {K:Nat→Prop}{w0:World}{H:List AT}
theorem iG:∀n:Fin 32,0<n.1→(BK (-(n.1:Int)) &&& 31).toNat=32-n.1∧(32-(BK (-(n.1:Int)) &&& 31)).toNat=n.1:=by decide
theorem hO(x:UInt32)(n:Nat)(h0:0<n)(h1:n<32):S6 x (-(n:Int))=Ic x n:=by
 obtain⟨e1,e2⟩:=iG ⟨n,h1⟩ h0
 simp only at e1 e2
 unfold S6 Ic
 rw[e1,e2,UInt32.or_comm]
theorem Fe(x:UInt32)(n:Nat)(h0:0<n)(h1:n<32):BH Tryz.prog K w0 229 [Z x,vI n] [] H (fun r M=>r=Z (Ic x n)∧M=[]):=by
 refine BH.enter Tryz.func229 rfl rfl ?_
 refine V (J zR (U (V (E zR (E zR (k7 zR zR zO zO ?_))))))
 refine AP (vs:=[_,_]) (Hin:=[]) zR zR ⟨zR,zR,zT⟩ ZS zR zR (GL x (-(n:Int))) ?_
 rintro _ _ ⟨rfl,rfl⟩
 refine⟨trivial,?_⟩
 refine J zR (U (AM ?_))
 exact AU (Co zR zR) (AV (M:=[]) ⟨by rw[hO x n h0 h1],zR⟩ fun _ h=>h.skip [])
theorem XS(s:List UInt8)(hs:s.length=64):BH Tryz.prog K w0 228 [vS s] [] H (fun r M=>r=.agg (Cg Z (DB s))∧M=[]):=by
 refine BH.enter Tryz.func228 rfl rfl ?_
 refine V ?_
 refine Ah zR kg (fun _=>trivial) fun b0=>?_
 refine U (V ?_)
 refine Ah zR kg (fun _=>trivial) fun b1=>?_
 refine U (AD (V (E zR (U (AL ?_)))))
 refine SX.mono (Ay (α:=Nat) (fun i=>i≤64) (fun i=>[(0,vS s),(2,vP b0 0),(3,vP b1 0),(8,vI i)]) (fun i=>AI b1 (.cells (Cg Z (D5 s i++List.replicate (64-i) 0)) 296)::AI b0 (.cells (Cg Z (List.replicate 64 0)) 296)::H) (fun i=>64-i) (fun i D hp=>?_) 0 zO) tL
 have hlen:=KJ s i
 refine V (O zR Ao (U (AD ?_)))
 refine AG zR (fun hc1=>?_) (fun hc1=>?_)
 have hi:i<64:=by simp at hc1;omega
 refine AH (AF (AD (AL (V (E zR (J zR (U (AD (V (E zR (O zR Ao (U ?_))))))))))))
 refine AG zR (fun hc2=>?_) (fun hc2=>?_)
 have h16:i<16:=by simp at hc2;omega
 refine V (E zR (O zR (JR zO zO) (J zR (U (AD (Aj CJ [] (BY [(true,0),(true,1),(true,2),(true,3),(true,4),(true,5),(true,6),(true,7),(true,8),(true,9),(true,10),(true,11),(true,12),(true,13),(true,14),(true,15),(true,16),(true,17),(true,18),(true,19),(true,20),(true,21),(true,22),(true,23),(true,24),(true,25),(true,26)] (.last 27 .nil)) zK (E zR (E zR (E zR (FW (4*i) zR Bu zR zR zO zO ?_))))))))))
 refine As zR zR (DG CW Bg) ?_
 refine O zR (D4.shl32 (n:=24)) ?_
 refine E zR (E zR (O zR (BA zO zO) (FW ((4*i)+1) zR Bu zR zR zO zO (As zR zR (DG CW Bg) ?_))))
 refine O zR (D4.shl32 (n:=16)) ?_
 refine O zR DF (E zR (E zR (O zR (BA zO zO) (FW ((4*i)+2) zR Bu zR zR zO zO (As zR zR (DG CW Bg) ?_)))))
 refine O zR (D4.shl32 (n:=8)) ?_
 refine O zR DF (E zR (E zR (O zR (BA zO zO) (FW ((4*i)+3) zR Bu zR zR zO zO (As zR zR (DG CW Bg) (O zR DF ?_))))))
 refine CO (n:=i) zR O2 BQ zR zR zO zO ?_
 refine BE ?_
 refine TM (f:=Z) 0 zR zR zR zR BQ zR zR (by simp;omega) zT ?_
 rw[Q3 _ _ _ 64 i hlen hi]
 refine U (Al (Aw (Au (AF (AJ (O zR (BA zO zO) (E zR (AS ?_))))))))
 refine Ac (i+1) zO zO ⟨zR,zR,zR,zR,zT⟩ (fun w h=>by
  have e:Oz s (D5 s i)=gM s (4*i):=by unfold Oz;rw[hlen,if_pos h16]
  rw[D5,e]
  exact h)
 have h16:16≤i:=by simp at hc2;omega
 refine AH (AF (AD (Aj CJ [0] (Pl.of [(true,0),(true,1),(true,2),(true,3),(true,4),(true,5),(true,6),(true,7),(true,8),(true,9)]) zK (E zR (O zR (Cy zO zO) ?_)))))
 refine CO (n:=(i-15)) zR O2 BQ zR zR zO zO ?_
 refine BR zR Az zR (CK 0 zR (S9 0 zO)) (E zR (O zR (Cy zO zO) ?_))
 refine CO (n:=(i-2)) zR O2 BQ zR zR zO zO ?_
 refine BR zR Az zR (CK 0 zR (S9 0 zO)) (J zR (J zR (U (Aj CJ [0] (BY [(true,0),(true,1),(true,2),(true,3),(true,4),(true,5),(true,6),(true,7),(true,8),(true,9),(true,10),(true,12),(true,15),(true,16),(true,19),(true,21),(true,24),(true,25),(false,11),(false,13),(true,14),(true,17),(true,18),(false,20),(false,22),(true,23),(true,26),(true,27),(true,28)] (.last 29 .nil)) zK (E zR (E zR (O zR (Cy zO zO) ?_)))))))
 refine CO (n:=(i-16)) zR O2 BQ zR zR zO zO ?_
 refine BR zR Az zR (CK 0 zR (S9 0 zO)) (E zR (O zR (Cy zO zO) ?_))
 refine CO (n:=(i-7)) zR O2 BQ zR zR zO zO ?_
 refine BR zR Az zR (CK 0 zR (S9 0 zO)) (O zR BZ (E zR (E zR (E zR ?_))))
 refine O zR (D4.shr32 (n:=3)) ?_
 refine E zR (E zR (E zR ?_))
 refine O zR (D4.shr32 (n:=10)) ?_
 refine AP (vs:=[_,_]) (Hin:=[]) zR zR ⟨zR,zR,zT⟩ Lq zR zR (Fe _ 7 zO zO) ?_
 rintro _ _ ⟨rfl,rfl⟩
 refine⟨⟨⟨0,rfl⟩,trivial⟩,?_⟩
 refine AP (vs:=[_,_]) (Hin:=[]) zR zR ⟨zR,zR,zT⟩ Lq zR zR (Fe _ 18 zO zO) ?_
 rintro _ _ ⟨rfl,rfl⟩
 refine⟨⟨⟨0,rfl⟩,trivial⟩,?_⟩
 refine O zR B5 (O zR B5 (O zR BZ ?_))
 refine AP (vs:=[_,_]) (Hin:=[]) zR zR ⟨zR,zR,zT⟩ Lq zR zR (Fe _ 17 zO zO) ?_
 rintro _ _ ⟨rfl,rfl⟩
 refine⟨⟨⟨0,rfl⟩,trivial⟩,?_⟩
 refine AP (vs:=[_,_]) (Hin:=[]) zR zR ⟨zR,zR,zT⟩ Lq zR zR (Fe _ 19 zO zO) ?_
 rintro _ _ ⟨rfl,rfl⟩
 refine⟨⟨⟨0,rfl⟩,trivial⟩,?_⟩
 refine O zR B5 (O zR B5 (O zR BZ ?_))
 refine CO (n:=i) zR O2 BQ zR zR zO zO ?_
 refine BE ?_
 refine TM (f:=Z) 0 zR zR zR zR BQ zR zR (by simp;omega) zT ?_
 rw[Q3 _ _ _ 64 i hlen hi]
 refine AS (Ai (AF (AJ (O zR (BA zO zO) (E zR (AS ?_))))))
 refine Ac (i+1) zO zO ⟨zR,zR,zR,zR,zT⟩ (fun w h=>by
  have e:Oz s (D5 s i)=(D5 s i).getD (i-16) 0+(D5 s i).getD (i-7) 0+jp ((D5 s i).getD (i-15) 0)+jg ((D5 s i).getD (i-2) 0):=by unfold Oz;rw[hlen,if_neg zO]
  rw[D5,e]
  exact h)
 have hi:i=64:=by simp at hc1;omega
 subst hi
 refine Al (Aw (A9 (Au (AF (V ?_)))))
 refine Aa ((DB s).map Z) zR k4 (by simp[DB,hlen]) zR (CG 0 zR (fun j u hu=>by simpa[Cg,DB]using hu)) ?_
 refine Mg 1 zR zR zR zR ov (by simp[DB,hlen]) (by simp[Cg]) (L9 (fun _=>rfl) (DB s)) zT ?_
 refine U (AM ?_)
 exact AU (Dx zR (BG 1 ((DB s).map Z) k4 (by simp[DB,hlen]) zR zR (by simp only[List.drop_zero];exact List.take_of_length_le (by simp[DB,hlen])))) (AV (M:=[]) ⟨zR,zR⟩ fun _ h=>h.skip [_,_])
end

/- The walk of SHA-256's part: sixty-four bytes laid to eight words. Condition: the program's table is kept. -/
section
variable {K:Nat→Prop}{w0:World}{H:List AT}
theorem ZR(T h:List UInt32)(tl:List Value)(s:List UInt8)(b:Nat)(e:TypeId)(hT:RH K w0 3 T)(hTl:T.length=64)(hh:h.length=8)(hs:s.length=64):BH Tryz.prog K w0 214 [vP b 0,vS s] [AI b (.cells (LP Z h tl) e)] H (fun r M=>r=.tuple #[]∧M=[AI b (.cells (LP Z (PI T h s) tl) e)]):=by
 refine BH.enter Tryz.func214 rfl rfl ?_
 refine AD (Aj CJ [0] (Pl.of [(true,0),(true,1),(true,2),(true,3),(true,4),(true,5),(true,6),(true,7),(true,8),(true,9),(true,10),(true,11),(true,12),(true,13),(true,14),(true,15),(true,16),(true,17),(true,18),(true,19),(true,20),(true,21),(true,22),(true,23),(true,24),(true,25),(true,26),(true,27),(true,28),(true,29),(true,30),(true,31),(true,32),(true,33),(true,34),(true,35),(true,36),(true,37),(true,38),(true,39)]) zK (E zR (AW zR zR ?_)))
 refine CO (n:=0) zR M9 BQ zR zR zO zO ?_
 refine BR zR Az zR (CK 0 zR (IP 0 zO)) (E zR (AW zR zR ?_))
 refine CO (n:=1) zR M9 BQ zR zR zO zO ?_
 refine BR zR Az zR (CK 0 zR (IP 0 zO)) (E zR (AW zR zR ?_))
 refine CO (n:=2) zR M9 BQ zR zR zO zO ?_
 refine BR zR Az zR (CK 0 zR (IP 0 zO)) (E zR (AW zR zR ?_))
 refine CO (n:=3) zR M9 BQ zR zR zO zO ?_
 refine BR zR Az zR (CK 0 zR (IP 0 zO)) (E zR (AW zR zR ?_))
 refine CO (n:=4) zR M9 BQ zR zR zO zO ?_
 refine BR zR Az zR (CK 0 zR (IP 0 zO)) (E zR (AW zR zR ?_))
 refine CO (n:=5) zR M9 BQ zR zR zO zO ?_
 refine BR zR Az zR (CK 0 zR (IP 0 zO)) (E zR (AW zR zR ?_))
 refine CO (n:=6) zR M9 BQ zR zR zO zO ?_
 refine BR zR Az zR (CK 0 zR (IP 0 zO)) (E zR (AW zR zR ?_))
 refine CO (n:=7) zR M9 BQ zR zR zO zO ?_
 refine BR zR Az zR (CK 0 zR (IP 0 zO)) (J zR (J zR (J zR (J zR (J zR (J zR (J zR ?_)))))))
 refine J zR (U (AD (V (E zR ?_))))
 refine AP (vs:=[_]) (Hin:=[]) zR zR ⟨zR,zT⟩ mo zR zR (XS s hs) ?_
 rintro _ _ ⟨rfl,rfl⟩
 refine⟨trivial,?_⟩
 refine E zR (U (AL ?_))
 refine SX.mono (Ay (α:=Nat) (fun i=>i≤64) (fun i=>[(0,vP b 0),(4,Z (FM T (DB s) h i).a),(5,Z (FM T (DB s) h i).b),(6,Z (FM T (DB s) h i).c),(7,Z (FM T (DB s) h i).d),(8,Z (FM T (DB s) h i).e),(9,Z (FM T (DB s) h i).f),(10,Z (FM T (DB s) h i).g),(11,Z (FM T (DB s) h i).i),(51,.agg (Cg Z (DB s))),(52,vI i)]) (fun i=>AI b (.cells (LP Z h tl) e)::H) (fun i=>64-i) (fun i D hp=>?_) 0 zO) tL
 refine V (O zR Ao (U (AD ?_)))
 refine AG zR (fun hc1=>?_) (fun hc1=>?_)
 have hi:i<64:=by simp at hc1;omega
 have hw:(DB s)[i]? = some ((DB s).getD i 0):=by
  rw[List.getD_eq_getElem?_getD,List.getElem?_eq_getElem (by rw[DB,KJ];exact hi)]
  rfl
 refine AH (AF (AD (AL (V (E zR ?_)))))
 refine Mf (i:=i) zR O2 Az zR zR zO zO (D3 hw) ?_
 refine J zR (J zR (U (AD (Aj CJ [] (Pl.of [(true,0),(true,1),(true,3),(true,6),(true,10),(true,11),(true,12),(true,13),(true,14),(true,15),(true,16),(true,17),(true,19),(true,20),(true,21),(true,23),(false,2),(false,4),(true,5),(false,7),(true,8),(true,9),(true,18),(true,22),(true,24),(true,25)]) zK (E zR (E zR (E zR (E zR (E zR ?_)))))))))
 refine E zR (O zR GA (E zR (Xa zR zR (E zR (O zR GA (O zR B5 (E zR ?_)))))))
 refine CO (b:=3) (n:=i) zR O2 BQ zR zR zO zO ?_
 refine BR zR Az zR (hT.load zO) (E zR ?_)
 refine AP (vs:=[_,_]) (Hin:=[]) zR zR ⟨zR,zR,zT⟩ Lq zR zR (Fe _ 6 zO zO) ?_
 rintro _ _ ⟨rfl,rfl⟩
 refine⟨trivial,?_⟩
 refine AP (vs:=[_,_]) (Hin:=[]) zR zR ⟨zR,zR,zT⟩ Lq zR zR (Fe _ 11 zO zO) ?_
 rintro _ _ ⟨rfl,rfl⟩
 refine⟨trivial,?_⟩
 refine O zR B5 ?_
 refine AP (vs:=[_,_]) (Hin:=[]) zR zR ⟨zR,zR,zT⟩ Lq zR zR (Fe _ 25 zO zO) ?_
 rintro _ _ ⟨rfl,rfl⟩
 refine⟨trivial,?_⟩
 refine O zR B5 (O zR BZ (O zR BZ (O zR BZ (O zR BZ (J zR (U (V (E zR ?_))))))))
 refine AP (vs:=[_,_]) (Hin:=[]) zR zR ⟨zR,zR,zT⟩ Lq zR zR (Fe _ 2 zO zO) ?_
 rintro _ _ ⟨rfl,rfl⟩
 refine⟨trivial,?_⟩
 refine E zR ?_
 refine AP (vs:=[_,_]) (Hin:=[]) zR zR ⟨zR,zR,zT⟩ Lq zR zR (Fe _ 13 zO zO) ?_
 rintro _ _ ⟨rfl,rfl⟩
 refine⟨trivial,?_⟩
 refine O zR B5 (E zR ?_)
 refine AP (vs:=[_,_]) (Hin:=[]) zR zR ⟨zR,zR,zT⟩ Lq zR zR (Fe _ 22 zO zO) ?_
 rintro _ _ ⟨rfl,rfl⟩
 refine⟨trivial,?_⟩
 refine O zR B5 (E zR (E zR (O zR GA (E zR (E zR (O zR GA (O zR B5 ?_)))))))
 refine E zR (E zR (O zR GA (O zR B5 (O zR BZ (J zR (U (AJ (E zR (E zR ?_)))))))))
 refine E zR (E zR (E zR (O zR BZ (E zR (E zR (E zR (E zR ?_)))))))
 refine E zR (O zR BZ (J zR (J zR (J zR (J zR (J zR (J zR ?_)))))))
 refine J zR (J zR (AS (Ai (AF (AJ (O zR (BA zO zO) (E zR (AS ?_))))))))
 exact Ac (i+1) zO zO ⟨zR,zR,zR,zR,zR,zR,zR,zR,zR,zR,zR,zT⟩
 have hi:i=64:=by simp at hc1;omega
 subst hi
 generalize hfin:FM T (DB s) h 64=fin
 refine Al (Aw (A9 (Au (AF (V (E zR (E zR (E zR (E zR (E zR (E zR (E zR (E zR ?_)))))))))))))
 refine Qk (fin.list.map Z) rfl kZ BQ pC rfl ⟨rfl,rfl,rfl,rfl,rfl,rfl,rfl,rfl,trivial⟩ rfl rfl (fun v hv=>by obtain⟨x,_,rfl⟩:=List.mem_map.1 hv;rfl) ?_
 refine E zR ?_
 have hfl:fin.list.length=h.length:=by rw[hh];rfl
 refine U (AL ?_)
 refine SX.mono (Ay (α:=Nat) (fun i=>i≤8) (fun i=>[(0,vP b 0),(122,.agg (Cg Z fin.list)),(123,vI i)]) (fun i=>AI b (.cells (LP Z (Pf h fin.list i) tl) e)::H) (fun i=>8-i) (fun i D hp=>?_) 0 zO) tL
 refine V (O zR Ao (U (AD ?_)))
 refine AG zR (fun hc2=>?_) (fun hc2=>?_)
 have hi:i<8:=by simp at hc2;omega
 have hml:=Sh h _ hfl i
 have hw:fin.list[i]? = some (fin.list.getD i 0):=by
  rw[List.getD_eq_getElem?_getD,List.getElem?_eq_getElem zO]
  rfl
 refine AH (AF (AD (AL (V (E zR ?_)))))
 refine Mf (i:=i) zR kZ Az zR zR zO zO (D3 hw) ?_
 refine J zR (J zR (U (Aj CJ [0] (BY [(true,0),(true,1),(true,2),(true,3),(true,4),(true,5),(true,6),(true,7),(true,8)] (.last 9 .nil)) zK (E zR (E zR (AW zR zR ?_))))))
 refine CO (n:=i) zR M9 BQ zR zR zO zO ?_
 refine BR zR Az zR (CK 0 zR (IP 0 zO)) ?_
 rw[Xm h _ hfl i zO]
 refine E zR (O zR BZ (AW zR zR ?_))
 refine CO (n:=i) zR M9 BQ zR zR zO zO ?_
 refine BE ?_
 refine mJ (f:=Z) 0 zR zR zR zR BQ zR zR zO zT ?_
 rw[Xj h _ hfl i zO]
 refine AS (Ai (AF (AJ (O zR (BA zO zO) (E zR (AS ?_))))))
 exact Ac (i+1) zO zO ⟨zR,zR,zR,zT⟩
 have hi:i=8:=by simp at hc2;omega
 subst hi
 refine Al (Aw (A9 (Au ?_)))
 have hfull:=WO h _ hfl
 rw[hh]at hfull
 rw[hfull,←hfin]
 exact CQ (C7 zR) (AV (M:=[_]) ⟨zR,zR⟩ fun _ h=>h)
theorem UU(T:List UInt32)(h:LO)(rest s:List UInt8)(n:Int)(b:Nat)(e:TypeId)(hT:RH K w0 3 T)(hTl:T.length=64)(hs:s.length=64):BH Tryz.prog K w0 214 [vP b 0,vS s] [AI b (.cells (MF h rest n) e)] H (fun r M=>r=.tuple #[]∧M=[AI b (.cells (MF (SE T h s) rest n) e)]):=by
 have h1:=ZR (K:=K) (w0:=w0) (H:=H) T h.list [vS rest,vI n] s b e hT hTl rfl hs
 rw[←PS (RU (T:=T) (s:=s) (show h.list.length=8 from rfl))]at h1
 exact h1
end

/- Walks of SHA-256's parts of a text, and of the words' bytes. Condition: texts of at most 2^40 bytes. -/
section
variable {K:Nat→Prop}{w0:World}{H:List AT}
def bM(p:Nat×List UInt8):List Value:=[vI p.1,vS p.2]
theorem Zn(s:List UInt8)(b:Nat)(hn:s.length≤1099511627776):iQ Tryz.prog K w0 230 [vP b 0] [AI b (.cells #[vS s] 9)] bM (Me s):=by
 intro lp J9 X T hy G h0
 refine BH.enter Tryz.func230 rfl rfl ?_
 refine V (J zR (U (AL ?_)))
 refine SX.mono (Ay (α:=Nat×List AT) (fun x=>x.1≤s.length / 64∧J9 ((Me s).take x.1) x.2) (fun x=>[(0,vY lp),(1,vP b 0),(3,vI (64*(x.1+1):Nat))]) (fun x=>AI b (.cells #[vS s] 9)::(x.2++T)) (fun x=>s.length / 64-x.1) (fun x D hp=>?_) (0,G) ⟨Nat.zero_le _,h0⟩) tL
 obtain⟨i,G⟩:=x
 obtain⟨hi,hJ⟩:=hp
 simp only at hi hJ
 refine AD (V (E zR (AC 0 EZ zR (BV zR Bu zR (O zR Gs (U ?_))))))
 refine AG zR (fun hc1=>?_) (fun hc1=>?_)
 have hlt:i<s.length / 64:=by simp at hc1;omega
 have hg:=Uj s i hlt
 refine AH (AF (AD (AL (V (E zR (E zR (AC 0 EZ zR (E zR (O zR (Cy zO zO) (E zR (U2 (64*i) (64*(i+1)) zR Bu zR zR zR zO zO zO zO ?_)))))))))))
 have ht:64*(i+1)-64*i=64:=by omega
 rw[ht]
 refine HX (M2:=[_]) (G:=G) (T:=T) (vs:=[_,_]) (ok:=fun G1=>J9 ((Me s).take (i+1)) G1) (no:=X) zR zR ⟨zR,zR,zT⟩ zR ?_ (fun bb G1 hG1=>⟨zT,?_⟩)
 intro M
 have:=hy _ _ _ (D9 hg).1 G hJ M
 rw[←(D9 hg).2]at this
 exact this
 refine B9 zR zR (U ?_)
 refine AG zR (fun hc2=>?_) (fun hc2=>?_)
 obtain rfl:bb=false:=by simpa using hc2
 refine AM (BM (Ab (DD (BM ?_))))
 exact AU (C7 zR) (AV (M:=G1) (.inr hG1) fun _ h=>h.skip [_])
 obtain rfl:bb=true:=by simpa using hc2
 refine AH (Ai (AF (AJ (E zR (O zR (BA zO zO) (J zR (AS ?_)))))))
 refine Ac (i+1,G1) ⟨hlt,hG1⟩ (by simp only;omega) ⟨zR,zR,?_,zT⟩
 have e:((64*(i+1):Nat):Int)+64=((64*(i+1+1):Nat):Int):=by omega
 simp only[look,Nat.beq,cond_true]
 rw[←e]
 refine Al (Aw (A9 (Au ?_)))
 have hle:i=s.length / 64:=by simp at hc1;omega
 exact CQ (C7 zR) (AV (M:=G) (.inl (by rw[List.take_of_length_le (by rw[NW];omega)]at hJ;exact hJ)) fun _ h=>h.skip [_])
theorem Yf(s:List UInt8):BH Tryz.prog K w0 215 [vS s] [] H (fun r M=>∃b,r=.func (.func 230) #[] #[vP b 0]∧M=[AI b (.cells #[vS s] 9)]):=by
 refine BH.enter Tryz.func215 rfl rfl ?_
 refine V ?_
 refine BU zR zR (fun _=>trivial) fun b0=>?_
 refine J zR (U (V ?_))
 refine GD (fv:=#[]) (cv:=#[_]) zR zR zR ?_
 refine J zR (U (AM ?_))
 exact AU (Co zR zR) (AV (M:=[_]) ⟨b0,zR,zR⟩ fun _ h=>h)
theorem ZN(h:LO)(tl:List Value)(b:Nat)(e:TypeId):BH Tryz.prog K w0 216 [vP b 0] [AI b (.cells (LP Z h.list tl) e)] H (fun r M=>r=vS (h.list.flatMap F9)∧M=[AI b (.cells (LP Z h.list tl) e)]):=by
 refine BH.enter Tryz.func216 rfl rfl ?_
 refine V (J zR (U (V (J zR (U (AD (V (E zR (E zR (U (AL (Hw 5 1 ?_))))))))))))
 refine SX.mono (Ay (α:=Nat×Value) (fun x=>x.1≤8) (fun x=>[(3,x.2),(6,vP b 0),(7,vI x.1)]) (fun x=>Ci 5 1 x.2 (4*x.1) (((h.list.take x.1).flatMap F9).map fun b=>Cw b)::AI b (.cells (LP Z h.list tl) e)::H) (fun x=>8-x.1) (fun x D hp=>?_) (0,.slice none 0 0) zD) tL
 obtain⟨i,v⟩:=x
 simp only at hp
 refine V (O zR Ao (U (AD ?_)))
 refine AG zR (fun hc1=>?_) (fun hc1=>?_)
 have hlt:i<8:=by simp at hc1;omega
 refine AH (AF (AD (AL (V (AW zR zR ?_)))))
 refine CO (n:=i) zR M9 BQ zR zR zO zO ?_
 refine BR zR Az zR (CK 1 zR (IP 0 hlt)) (J zR (U (AJ (E zR (E zR ?_)))))
 refine O zR (D4.shr32 (n:=24)) ?_
 refine As zR zR (CN Bg CW) (E zR ?_)
 refine O zR (D4.shr32 (n:=16)) ?_
 refine As zR zR (CN Bg CW) (E zR ?_)
 refine O zR (D4.shr32 (n:=8)) ?_
 refine As zR zR (CN Bg CW) (E zR (As zR zR (CN Bg CW) ?_))
 refine Bd [_,_,_,_] zR B1 Iv J7 ⟨zR,zR,zR,zR,zT⟩ zR zR zR (by simp[Value.cells]) zR zR (fun _=>trivial) fun b0=>?_
 refine TE 1 rfl (m:=4) (news:=(F9 (h.list.getD i 0)).map fun b=>Cw b) B1 Iv Uy J7 rfl zD rfl rfl rfl rfl (AZ 0 rfl) (by intro u hu;obtain⟨x,_,rfl⟩:=List.mem_map.1 hu;rfl) zO zO (fun _=>trivial) fun v'=>?_
 refine J zR (AS (Ai (AF (AJ (O zR (BA zO zO) (E zR (AS ?_)))))))
 refine Ac (i+1,v') (by simp only;omega) (by simp only;omega) ⟨zR,zR,zR,zT⟩ (fun w hw=>by
  have e1:h.list.take (i+1)=h.list.take i++[h.list.getD i 0]:=by
   rw[List.take_add_one,List.getD_eq_getElem?_getD,List.getElem?_eq_getElem (show i<h.list.length from hlt)]
   rfl
  simp only
  rw[e1,List.flatMap_append,List.map_append]
  simp only[List.flatMap_cons,List.flatMap_nil,List.append_nil]
  exact hw.skip [_])
 have hi:i=8:=by simp at hc1;omega
 subst hi
 refine Al (Aw (A9 (Au (AF (V (E zR ?_))))))
 refine Wl (s:=h.list.flatMap F9) 0 zR B1 CW Bu zR zR ?_
 refine J zR (U (AM ?_))
 exact AU (Co zR zR) (AV (M:=[_]) ⟨zR,zR⟩ fun _ h=>h.skip [_])
end

/- The walk of what a sum takes in: bytes behind those that it has. Condition: texts of at most 2^40 bytes. -/
section
variable {K:Nat→Prop}{w0:World}{H:List AT}
theorem SZ(T:List UInt32)(h:LO)(rest s:List UInt8)(n:Int)(b:Nat)(e:TypeId)(hT:RH K w0 3 T)(hTl:T.length=64)(hr:rest.length<64)(hn:s.length≤1099511627776):BH Tryz.prog K w0 192 [vP b 0,vS s] [AI b (.cells (MF h rest n) e)] H (fun r M=>r=.tuple #[]∧M=[AI b (.cells (MF (DH T h (rest++s)).1 (DH T h (rest++s)).2 n) e)]):=by
 refine BH.enter Tryz.func192 rfl rfl ?_
 refine V ?_
 refine BU zR zR (fun _=>trivial) fun b0=>?_
 refine BU zR zR (fun _=>trivial) fun b1=>?_
 refine U (JL ?_)
 refine Wf (α:=LO×List UInt8×List UInt8) (fun x=>DH T x.1 (x.2.1++x.2.2)=DH T h (rest++s)∧x.2.1.length<64∧(x.2.1≠[]→(x.2.1++x.2.2).length<64)∧x.2.2.length≤s.length) (fun x=>[(2,vP b0 0),(3,vP b1 0)]) (fun x=>AI b1 (.cells #[vS x.2.2] 9)::AI b0 (.cells #[vP b 0] 268)::AI b (.cells (MF x.1 x.2.1 n) e)::H) ?_ (fun x hx=>?_)
 refine AD (Aj CJ [0,1,2] (Pl.of [(true,0),(true,1),(true,2),(true,3),(true,4),(true,5),(true,6),(true,7),(true,8),(true,9),(true,10),(true,11),(true,12),(true,13),(true,14),(true,15)]) zK (AC 1 M3 zR (AW zR zR (AB zR KA (AC 2 EZ zR ?_)))))
 refine O zR (Jx (t:=[])) ?_
 refine E zR ?_
 refine CU (c:=decide ((64:Int)≤(rest.length:Int)+s.length)) 13 10 23 zR (fun hb k=>?_) (fun hb k=>?_) ?_
 refine AC 1 M3 zR (AW zR zR (AB zR KA (AC 2 EZ zR (BV zR Bu zR (AC 0 EZ zR (BV zR Bu zR (O zR (BA zO zO) ?_)))))))
 refine O zR LN (Ad zR zR zR ?_)
 exact k.mono tL
 refine AA zR (AA zR (AA zR (AA zR (AA zR (AA zR (AA zR (AA zR ?_)))))))
 refine AA zR (Ad zR zR zR ?_)
 exact k.mono tL
 refine U ?_
 refine AG zR (fun hc1=>?_) (fun hc1=>?_)
 have hne:rest≠[]∧64≤rest.length+s.length:=by simp at hc1;exact⟨hc1.1,by omega⟩
 refine V (AC 1 M3 zR (AW zR zR (AB zR KA (AC 2 EZ zR (BV zR Bu zR (O zR (Cy zO zO) (J zR (U (AD (Aj CJ [0,1,2] (BY [(true,0),(true,1),(true,2),(true,3),(true,4),(true,5),(true,6),(true,7),(true,8),(true,9),(true,10)] (.last 11 .nil)) zK ?_))))))))))
 refine AC 1 M3 zR (AW zR zR (AB zR Vj (AC 1 M3 zR (AW zR zR (AB zR KA (AC 2 EZ zR (AC 0 EZ zR ?_)))))))
 refine E zR (NX (64-rest.length) zR Bu zR zR zO zO (O zR (EY (by simp;omega)) (BE (SL.pick [2,0,1] 3 ?_))))
 refine AP (vs:=[_,_]) (Hin:=[_]) zR zR ⟨zR,zR,zT⟩ gP zR zR (UU T h rest (rest++s.take (64-rest.length)) n b e hT hTl (by simp;omega)) ?_
 rintro _ _ ⟨rfl,rfl⟩
 refine⟨trivial,?_⟩
 refine SL.pick [1,2,0] 3 (U (Aj CJ [0,1] (BY [(true,0),(true,1),(true,2),(true,3),(true,4),(true,5),(false,6)] (.last 7 .nil)) zK (AC 1 M3 zR (AC 0 EZ zR (E zR (MA (64-rest.length) zR Bu zR zR zO zO (AW zR zR (AB zR KA ?_))))))))
 refine Am 2 zR zR zR zR Gn zR zR zR ⟨⟨0,zR⟩,⟨1,zR⟩,zT⟩ (BE (Am 0 zR zR zR zR Gn zR zR zR zT (AS ?_)))
 refine Q6 (SE T h (rest++s.take (64-rest.length)),[],s.drop (64-rest.length)) ⟨?_,by simp,fun h=>absurd zR h,by simp⟩ tL
 have e1:rest++s=(rest++s.take (64-rest.length))++s.drop (64-rest.length):=by rw[List.append_assoc,List.take_append_drop]
 have e2:=S8 (T:=T) (h:=h) (p:=rest++s.take (64-rest.length)) (s:=s.drop (64-rest.length)) (by simp;omega)
 rw[e1,e2]
 rfl
 refine AH ?_
 refine Q6 (h,rest,s) ⟨zR,hr,fun hne=>?_,Nat.le_refl _⟩ tL
 simp at hc1
 have:=hc1 hne
 simp
 omega
 
 obtain⟨h1,r1,s1⟩:=x
 obtain⟨hx1,hx2,hx3,hx4⟩:=hx
 simp only at hx1 hx2 hx3 hx4
 refine AD (V (AC 1 M3 zR (AW zR zR (AB zR KA (AC 2 EZ zR ?_)))))
 refine O zR (Jx (t:=[])) ?_
 refine U ?_
 refine AG zR (fun hc2=>?_) (fun hc2=>?_)
 have hsh:=hx3 (by simpa using hc2)
 rw[N2 hsh]at hx1
 rw[←hx1]
 refine AD (Aj CJ [0,1,2] (BY [(true,0),(true,1),(true,2),(true,3),(true,4),(true,5),(true,6),(true,7)] (.last 8 .nil)) zK (AC 1 M3 zR (AW zR zR (AB zR KA (AC 2 EZ zR (AC 0 EZ zR (O zR (EY (by simp;omega)) (AW zR zR ?_))))))))
 refine AB zR KA (BE (Am 2 zR zR zR zR Gn zR zR zR zT (U (AM (Ab (EN ?_))))))
 exact AU (C7 zR) (AV (M:=[_]) ⟨zR,zR⟩ fun _ h=>h.skip [_,_])
 have hr1:r1=[]:=by simpa using hc2
 subst hr1
 rw[List.nil_append,KC]at hx1
 rw[←hx1]
 refine AH (AF (V ?_))
 refine Ah zR nD (fun _=>trivial) fun b2=>?_
 refine Am 0 zR zR zR zR La zR zR zR zT (U (AD (JS (AF (AD (V (AC 1 EZ zR ?_)))))))
 refine AP (vs:=[_]) (Hin:=[]) zR zR ⟨zR,zT⟩ nT zR zR (Yf s1) ?_
 rintro _ _ ⟨bi,rfl,rfl⟩
 refine⟨trivial,?_⟩
 refine U (AL ?_)
 refine OT (enc:=bM) (Me s1) (fun pre G=>G=AI b2 (.cells #[vI (64*pre.length:Nat)] 3)::AI b1 (.cells #[vS s1] 9)::AI b0 (.cells #[vP b 0] 268)::AI b (.cells (MF (FY T h1 s1 pre.length) [] n) e)::H) (fun c G=>c=.exit 0∧G=AI b2 (.cells #[vI (64*(s1.length / 64):Nat)] 3)::AI b1 (.cells #[vS s1] 9)::AI b0 (.cells #[vP b 0] 268)::AI b (.cells (MF (FY T h1 s1 (s1.length / 64)) [] n) e)::H) zR m0 zR (fun _=>rfl) (Zn s1 bi zO) zR zR (fun pre x suf G hxs hJ r lp Rest=>?_) (fun G D hJ=>?_) (fun c G D hX=>?_)
 obtain rfl:=hJ
 have hget:(Me s1)[pre.length]? = some x:=by rw[hxs];simp
 have hlt:pre.length<s1.length / 64:=by
  have:=NW s1
  rw[hxs]at this
  simp at this
  omega
 rw[Uj s1 _ hlt]at hget
 obtain rfl:=Option.some.inj hget
 refine V (J zR (U (AJ (J zR (AS (KL (AL (V (AC 2 M3 zR (AW zR zR (AB zR Vj (E zR (SL.pick [3,0,1,2] 4 ?_)))))))))))))
 refine AP (vs:=[_,_]) (Hin:=[_]) zR zR ⟨zR,zR,zT⟩ gP zR zR (UU T (FY T h1 s1 pre.length) [] _ n b e hT hTl (by simp;omega)) ?_
 rintro _ _ ⟨rfl,rfl⟩
 refine⟨trivial,?_⟩
 refine SL.pick [1,2,3,0] 4 (U (V (E zR (Am 0 zR zR zR zR La zR zR zR zT (U (V (AC 1 EZ zR (BV zR Bu zR (E zR (O zR (Cy zO zO) (O zR Ao (U ?_))))))))))))
 refine AG zR (fun hc3=>?_) (fun hc3=>?_)
 refine Al (Ks ?_)
 have e1:pre.length+1=s1.length / 64:=by simp at hc3;omega
 exact MD (G:=_::_::_::_::H) (by rw[←e1];exact⟨zR,zR⟩) (fun _ h=>h)
 refine AH (Ai ?_)
 exact HK (G:=_::_::_::_::H) (by rw[show(pre++[(64*(pre.length+1),(s1.drop (64*pre.length)).take 64)]).length=pre.length+1 by simp];rfl) (fun _ h=>h)
 obtain rfl:=hJ
 rw[NW]
 refine Ai (AF (Aj CJ [0,1,2] (BY [(true,0),(true,1),(true,2),(true,3),(true,4),(true,5)] (.last 6 .nil)) zK (AC 2 M3 zR (AC 1 EZ zR (AC 0 DT zR (MA (64*(s1.length / 64)) zR Bu zR zR zO zO (AW zR zR (AB zR KA (BE (Am 3 zR zR zR zR Gn zR zR zR zT (AS (gK ?_))))))))))))
 exact CQ (C7 zR) (AV (M:=[_]) ⟨zR,zR⟩ fun _ h=>h.skip [_,_,_])
 obtain⟨rfl,rfl⟩:=hX
 refine Al (Au (AF (Aj CJ [0,1,2] (BY [(true,0),(true,1),(true,2),(true,3),(true,4),(true,5)] (.last 6 .nil)) zK (AC 2 M3 zR (AC 1 EZ zR (AC 0 DT zR (MA (64*(s1.length / 64)) zR Bu zR zR zO zO (AW zR zR (AB zR KA (BE (Am 3 zR zR zR zR Gn zR zR zR zT (AS (gK ?_)))))))))))))
 exact CQ (C7 zR) (AV (M:=[_]) ⟨zR,zR⟩ fun _ h=>h.skip [_,_,_])
end

/- Walks of strings.Builder's methods: what is written is held, String hands it back. Condition: the bytes number at most 2^47. -/
section
variable {K:Nat→Prop}{w0:World}{H:List AT}
def X5(e:TypeId):Prop:=liesAt Tryz.prog Tryz.prog.depth e (2 / Tryz.prog.cellsOf e) 0 172 1=true
theorem qo(v:Value)(w:World):(callFunc 185 [v].toArray).run Tryz.prog w=.ok (.value v) w:=by
 rw[run_callFunc_extern (e:=Extern.AbiNoEscape.same) Tryz.func185 zK zK zK zK]
 rfl
theorem XG(e:TypeId)(b:Nat)(v:Value)(hl:X5 e):BH Tryz.prog K w0 144 [vP b 0] [AI b (.cells #[.pointer none,v] e)] H (fun r M=>r=.tuple #[]∧M=[AI b (.cells #[vP b 0,v] e)]):=by
 refine BH.enter Tryz.func144 rfl rfl ?_
 refine V (E zR (AW zR zR (AB zR Sd (AC 0 dj zR (Eu zR Wo zR zR (U (UG zR (AJ (E zR (E zR ?_))))))))))
 refine nf 0 zR Wo k6 ez zR zR zR zR ?_
 refine jJ zR (vs:=[_]) ⟨zR,zT⟩ (qo _) ?_
 refine na 0 zR k6 Wo ez zR zR hl (AW zR zR (AB zR Sd (Am 0 zR zR zR zR qN zR zR zR zT (AS ?_))))
 exact CQ (C7 zR) (AV (M:=[_]) ⟨zR,zR⟩ fun _ h=>h)
theorem XF(e:TypeId)(b:Nat)(v:Value):BH Tryz.prog K w0 144 [vP b 0] [AI b (.cells #[vP b 0,v] e)] H (fun r M=>r=.tuple #[]∧M=[AI b (.cells #[vP b 0,v] e)]):=by
 refine BH.enter Tryz.func144 rfl rfl ?_
 refine V (E zR (AW zR zR (AB zR Sd (AC 0 dj zR (Eu zR Wo zR zR (U (DE zR (V (E zR (AW zR zR ?_))))))))))
 refine AB zR Sd (AC 0 dj zR (E zR (i3 zR Wo ez zR zR (U (DE zR (AH ?_))))))
 exact CQ (C7 zR) (AV (M:=[_]) ⟨zR,zR⟩ fun _ h=>h)
def M8(b:Nat)(p:Value):Prop:=p=.pointer none∨p=vP b 0
theorem O8(e:TypeId)(b:Nat)(p v:Value)(hp:M8 b p)(hl:X5 e):BH Tryz.prog K w0 144 [vP b 0] [AI b (.cells #[p,v] e)] H (fun r M=>r=.tuple #[]∧M=[AI b (.cells #[vP b 0,v] e)]):=by
 rcases hp with rfl | rfl
 exact XG e b v hl
 exact XF e b v
theorem Mc(e:TypeId)(b:Nat)(p v:Value)(n:Nat)(xs:List Value)(c:UInt8)(hp:M8 b p)(hl:X5 e)(hn:n+1≤140737488355328):
  BH Tryz.prog K w0 151 [vP b 0,Cw c] [AI b (.cells #[p,v] e),Ci 5 1 v n xs] H
   (fun r M=>r=.nilIface∧∃v',M=[AI b (.cells #[vP b 0,v'] e),Ci 5 1 v' (n+1) (xs++[Cw c])]):=by
 refine BH.enter Tryz.func151 rfl rfl ?_
 refine V (J zR (U (V (E zR ?_))))
 refine AP (vs:=[_]) (Hin:=[_]) zR zR ⟨zR,zT⟩ aD zR zR (O8 e b p v hp hl) ?_
 rintro _ _ ⟨rfl,rfl⟩
 refine⟨trivial,?_⟩
 refine U (V (E zR (E zR (AW zR zR (AB zR HL (AC 0 N5 zR (E zR ?_)))))))
 refine Bd [Cw c] zR B1 Iv J7 ⟨zR,zT⟩ zR zR zR (by simp[Value.cells]) zR zR (fun _=>trivial) fun b1=>?_
 refine TE 2 zR (news:=[Cw c]) B1 Iv Uy J7 zR zD zR zR zR zR (AZ 0 zR) (by simp[Value.oneCell']) zO zO (fun _=>trivial) fun v'=>?_
 refine AW zR zR (AB zR HL ?_)
 refine cX (fun w hw=>VO (hw.holds _ (List.mem_append_left _ (List.mem_of_getElem? (i:=2) zR)))) fun hsh=>?_
 have hc1:v'.cells=#[v']:=by rcases hsh with⟨rfl,_⟩ | ⟨g,cap,rfl,_⟩<;>rfl
 have ho1:v'.oneCell'=true:=by rcases hsh with⟨rfl,_⟩ | ⟨g,cap,rfl,_⟩<;>rfl
 refine Am 1 zR zR zR zR eI (by rw[hc1];rfl) (by rw[hc1];simp[ho1]) zR zT ?_
 rw[hc1]
 refine U (V (J zR (U (AM ?_))))
 exact AU (Co zR zR) (AV (M:=[_,_]) ⟨zR,v',zR⟩ fun _ h=>h.skip [_])
theorem Kz(e:TypeId)(b:Nat)(p v:Value)(n:Nat)(xs:List Value)(s:List UInt8)(hp:M8 b p)(hl:X5 e)(hn:n+s.length≤140737488355328):
  BH Tryz.prog K w0 101 [vP b 0,vS s] [AI b (.cells #[p,v] e),Ci 5 1 v n xs] H
   (fun r M=>r=.tuple #[vI s.length,.nilIface]∧∃v',M=[AI b (.cells #[vP b 0,v'] e),Ci 5 1 v' (n+s.length) (xs++s.map fun b=>Cw b)]):=by
 refine BH.enter Tryz.func101 rfl rfl ?_
 refine V (J zR (J zR (U (V (E zR ?_)))))
 refine AP (vs:=[_]) (Hin:=[_]) zR zR ⟨zR,zT⟩ aD zR zR (O8 e b p v hp hl) ?_
 rintro _ _ ⟨rfl,rfl⟩
 refine⟨trivial,?_⟩
 refine U (V (E zR (E zR (AW zR zR (AB zR HL (AC 0 N5 zR (E zR ?_)))))))
 refine j9 1 zR B1 Bu Iv Uy J7 zR zR zR hn (fun _=>trivial) fun v'=>?_
 refine AW zR zR (AB zR HL ?_)
 refine cX (fun w hw=>VO (hw.holds _ (List.mem_append_left _ (List.mem_of_getElem? (i:=1) zR)))) fun hsh=>?_
 have hc1:v'.cells=#[v']:=by rcases hsh with⟨rfl,_⟩ | ⟨g,cap,rfl,_⟩<;>rfl
 have ho1:v'.oneCell'=true:=by rcases hsh with⟨rfl,_⟩ | ⟨g,cap,rfl,_⟩<;>rfl
 refine Am 0 zR zR zR zR eI (by rw[hc1];rfl) (by rw[hc1];simp[ho1]) zR zT ?_
 rw[hc1]
 refine U (V (E zR (BV zR Bu zR (J zR (J zR (U (AM ?_)))))))
 exact AU (E8 zR zR zR) (AV (M:=[_,_]) ⟨zR,v',zR⟩ fun _ h=>h)
theorem Za(e:TypeId)(b:Nat)(p v:Value)(n:Nat)(xs:List Value):
  BH Tryz.prog K w0 102 [vP b 0] [AI b (.cells #[p,v] e),Ci 5 1 v n xs] H
   (fun r M=>r=vI n∧M=[AI b (.cells #[p,v] e),Ci 5 1 v n xs]):=by
 refine BH.enter Tryz.func102 rfl rfl ?_
 refine V (J zR (U (V (E zR (AW zR zR (AB zR HL (AC 0 N5 zR (cH 1 zR B1 zR zR (J zR (U (AM ?_)))))))))))
 exact AU (Co zR zR) (AV (M:=[_,_]) ⟨zR,zR⟩ fun _ h=>h)
theorem Jh(e:TypeId)(b:Nat)(p v:Value)(n:Nat)(s:List UInt8)(hn:n≤140737488355328):
  BH Tryz.prog K w0 103 [vP b 0] [AI b (.cells #[p,v] e),Ci 5 1 v n (s.map fun b=>Cw b)] H
   (fun r M=>r=vS s∧M=[AI b (.cells #[p,v] e),Ci 5 1 v n (s.map fun b=>Cw b)]):=by
 refine BH.enter Tryz.func103 rfl rfl ?_
 refine V (J zR (U (AD (Aj CJ [0,1] (Pl.of [(true,0),(true,1),(true,2),(true,3),(true,5),(true,6),(true,7),(true,8),(true,9),(false,4),(false,10),(true,11)]) zK (E zR (AW zR zR (AB zR HL (AC 0 N5 zR (E zR (AW zR zR ?_))))))))))
 refine AB zR HL (AC 0 N5 zR (cH 1 zR B1 zR zR ?_))
 refine kw 1 zR kT zR zR ⟨⟨0,zR⟩,⟨1,zR⟩,zT⟩ fun q hq=>?_
 refine kA 1 zR kT rH zR zR hq zR zO ⟨⟨0,zR⟩,⟨1,zR⟩,zT⟩ (J zR (U (AM ?_)))
 exact AU (Co zR zR) (AV (M:=[_,_]) ⟨zR,zR⟩ fun _ h=>h)
end

/- Walks of strings.Repeat at the text of one zero byte, and of what it calls. Condition: at most 8192 times. -/
section
variable {K:Nat→Prop}{w0:World}{H:List AT}
theorem Y0{y:UInt64}(h:y.toNat<4294967296):shr64 y 32=0:=by
 apply UInt64.toNat_inj.1
 have h1:y.toNat / 4294967296=0:=Nat.div_eq_of_lt h
 simp[shr64,h1]
theorem jT(n:Nat)(h:n<9223372036854775808):decide ((9223372036854775807:UInt64)<BK n)=false:=by
 rw[decide_eq_false_iff_not,UInt64.lt_iff_toNat_lt]
 have h1:(9223372036854775807:UInt64).toNat=9223372036854775807:=by decide
 have h2:(BK n).toNat=n:=by simp only[BK,UInt64.toNat_ofNat'];omega
 omega
theorem Yd{y:UInt64}(h:y.toNat<4294967296):y &&& 4294967295=y:=by
 apply UInt64.toNat_inj.1
 rw[UInt64.toNat_and]
 exact Nat.and_two_pow_sub_one_of_lt_two_pow (n:=32) h
theorem k0(y:UInt64)(hy:y.toNat<4294967296):BH Tryz.prog K w0 142 [Ag 1,Ag y] [] H (fun r M=>r=.tuple #[Ag 0,Ag y]∧M=[]):=by
 refine BH.enter Tryz.func142 rfl rfl ?_
 refine V (J zR (J zR (U (V (E zR ?_)))))
 refine O zR (Pc (b:=4294967295)) ?_
 refine J zR (U (V (E zR ?_)))
 refine O zR (D4.shr64 (n:=32)) ?_
 refine J zR (U (V (E zR ?_)))
 refine O zR (Pc (b:=4294967295)) ?_
 refine J zR (U (V (E zR ?_)))
 refine O zR (D4.shr64 (n:=32)) ?_
 refine J zR (U (V (E zR (E zR (O zR KV (J zR (U (V (E zR (E zR (O zR KV ?_)))))))))))
 refine E zR ?_
 refine O zR (D4.shr64 (n:=32)) ?_
 refine O zR I6 (J zR (U (V (E zR ?_))))
 refine O zR (Pc (b:=4294967295)) ?_
 refine J zR (U (V (E zR ?_)))
 refine O zR (D4.shr64 (n:=32)) ?_
 refine J zR (U (V (E zR (E zR (E zR (O zR KV (O zR I6 (J zR (U (V (E zR ?_)))))))))))
 refine E zR (O zR KV (E zR (O zR I6 (E zR ?_))))
 refine O zR (D4.shr64 (n:=32)) ?_
 refine O zR I6 (J zR (U (V (E zR (E zR (O zR KV (J zR (U (AM ?_)))))))))
 have h1:shr64 y 32=0:=Y0 hy
 have h2:y &&& 4294967295=y:=Yd hy
 have h3:shr64 (1:UInt64) 32=0:=by decide
 have h4:(1:UInt64) &&& 4294967295=1:=by decide
 have h5:shr64 (0:UInt64) 32=0:=by decide
 have h6:(0:UInt64) &&& 4294967295=0:=by decide
 refine AU (E8 zR zR zR) (AV (M:=[]) ⟨?_,zR⟩ fun _ h=>h.skip [])
 simp[h1,h2,h3,h4,h5,h6]
theorem ky(y:UInt64)(hy:y.toNat<4294967296):BH Tryz.prog K w0 98 [Ag 1,Ag y] [] H (fun r M=>r=.tuple #[Ag 0,Ag y]∧M=[]):=by
 refine BH.enter Tryz.func98 rfl rfl ?_
 refine V (J zR (J zR (U (AD ?_))))
 refine AG zR (fun hc1=>absurd hc1 zD) (fun hc1=>?_)
 refine AH (AF (V (E zR (E zR ?_))))
 refine AP (vs:=[_,_]) (Hin:=[]) zR zR ⟨zR,zR,zT⟩ lN zR zR (k0 y hy) ?_
 rintro _ _ ⟨rfl,rfl⟩
 refine⟨trivial,?_⟩
 refine E zR (Ap zR zR zR (Ap zR zR zR (J zR (J zR (U (V (E zR (E zR (J zR ?_)))))))))
 refine J zR (U (AM ?_))
 exact AU (E8 zR zR zR) (AV (M:=[]) ⟨zR,zR⟩ fun _ h=>h.skip [])
theorem kN(b n:Nat)(hn:n≤281474976710656):BH Tryz.prog K w0 145 [vP b 0,vI n] [AI b (.cells #[vP b 0,.slice none 0 0] 172)] H (fun r M=>r=.tuple #[]∧∃v,M=[AI b (.cells #[vP b 0,v] 172),Ci 5 1 v 0 []]):=by
 refine BH.enter Tryz.func145 rfl rfl ?_
 refine AD (Aj CJ [0] (Pl.of [(true,0),(true,1),(true,2),(true,3),(true,4),(true,5),(true,6),(true,7),(true,9),(true,10),(true,11),(true,12),(true,13),(false,8),(true,14),(true,15)]) zK (E zR (AW zR zR (AB zR HL (AC 0 N5 zR (cZ zR B1 zR (O zR (JR zO zO) (E zR ?_))))))))
 refine O zR (BA zO zO) (E zR (AW zR zR (AB zR HL (AC 0 N5 zR (L4 zR B1 zR ?_)))))
 refine nA (n:=n) (fn:=Tryz.f186) zR zR zO hn B1 (fun w r w' hr=>by rw[run_callFunc_extern (e:=Extern.BytealgMakeNoZero.makeNoZero #[3] #[141]) Tryz.func186 zK zK zK zK];rw[show(Extern.BytealgMakeNoZero.makeNoZero #[3] #[141] #[vI n]).run Tryz.prog w=.ok r w' from hr];rfl) (fun _ _=>⟨⟨1,zR⟩,zT⟩) fun b1 cs hcs hcm=>?_
 refine aV 0 zR B1 Iv zR zR zR zO (J zR (U (V (E zR (E zR (AW zR zR (AB zR HL (AC 1 N5 zR (mR zR B1 Iv zR zR (U (AJ ?_)))))))))))
 refine E zR (E zR (AW zR zR (AB zR HL (Am 1 zR zR zR zR eI zR zR zR zT (AS ?_)))))
 refine SQ.heap (H':=Ci 5 1 (.slice (some ⟨b1,0,none⟩) 0 cs.size) 0 []::AI b (.cells #[vP b 0,.slice (some ⟨b1,0,none⟩) 0 cs.size] 172)::H) ?_ fun w hw=>cj hw zS zO
 exact CQ (C7 zR) (AV (M:=[_,_]) ⟨zR,_,zR⟩ fun _ h=>h.perm (List.Perm.swap _ _ _))
theorem kW(b n:Nat)(p:Value)(hp:M8 b p)(h0:0<n)(hn:n≤281474976710656):BH Tryz.prog K w0 100 [vP b 0,vI n] [AI b (.cells #[p,.slice none 0 0] 172)] H (fun r M=>r=.tuple #[]∧∃v,M=[AI b (.cells #[vP b 0,v] 172),Ci 5 1 v 0 []]):=by
 refine BH.enter Tryz.func100 rfl rfl ?_
 refine V (E zR ?_)
 refine AP (vs:=[_]) (Hin:=[_]) zR zR ⟨zR,zT⟩ aD zR zR (O8 172 b p (.slice none 0 0) hp Tk) ?_
 rintro _ _ ⟨rfl,rfl⟩
 refine⟨trivial,?_⟩
 refine U (AD (V (E zR (O zR Ao (U ?_)))))
 refine AG zR (fun hc1=>absurd hc1 zS) (fun hc1=>?_)
 refine AH (AF (AD (Aj CJ [0] (Pl.of [(true,0),(true,1),(true,2),(true,3),(true,4),(true,5),(true,6),(true,7),(true,8),(true,9),(true,10),(true,11),(true,12)]) zK (E zR (AW zR zR (AB zR HL (AC 0 N5 zR (cZ zR B1 zR (E zR (AW zR zR ?_))))))))))
 refine AB zR HL (AC 0 N5 zR (L4 zR B1 zR (O zR (Cy zO zO) (E zR (O zR Ao (U ?_))))))
 refine AG zR (fun hc2=>?_) (fun hc2=>absurd hc2 (by simp;omega))
 refine AJ (E zR (E zR ?_))
 refine AP (vs:=[_,_]) (Hin:=[_]) zR zR ⟨zR,zR,zT⟩ nO zR zR (kN b n hn) ?_
 rintro _ _ ⟨rfl,v,rfl⟩
 refine⟨trivial,?_⟩
 refine AS ?_
 exact CQ (C7 zR) (AV (M:=[_,_]) ⟨zR,v,zR⟩ fun _ h=>h)
theorem Ld(n:Nat)(hn:n≤8192):BH Tryz.prog K w0 70 [vS [0],vI n] [] H (fun r M=>r=vS (List.replicate n 0)∧M=[]):=by
 refine BH.enter Tryz.func70 rfl rfl ?_
 refine V (J zR (U (AD (V (E zR (U (AL (V (O zR Bq (J zR (U ?_)))))))))))
 refine AG zR (fun hc1=>?_) (fun hc1=>?_)
 refine V (J zR (U (AM (BM (Ab ?_)))))
 exact AU (Co zR zR) (AV (M:=[]) ⟨by have h0:n=0:=(by simpa using hc1);subst h0;rfl,zR⟩ fun _ h=>h.skip [])
 have h0:n≠0:=by intro h;subst h;simp at hc1
 refine V (O zR Bq (J zR (U ?_)))
 refine AG zR (fun hc2=>?_) (fun hc2=>?_)
 refine V (E zR (J zR (U (AM (BM (Ab ?_))))))
 exact AU (Co zR zR) (AV (M:=[]) ⟨by have h1:n=1:=(by simp at hc2;omega);subst h1;rfl,zR⟩ fun _ h=>h.skip [])
 refine AH (Ai (AF (AD (V (E zR (O zR Ao (U ?_)))))))
 refine AG zR (fun hc3=>absurd hc3 zS) (fun hc3=>?_)
 refine AH (AF (V (E zR (BV zR Bu zR (As zR zR (Cr Ef HF) (E zR (As zR zR (Cr Ef HF) ?_)))))))
 refine AP (vs:=[_,_]) (Hin:=[]) zR zR ⟨zR,zR,zT⟩ j6 zR zR (ky (BK n) (by simp[BK];omega)) ?_
 rintro _ _ ⟨rfl,rfl⟩
 refine⟨trivial,?_⟩
 refine E zR (Ap zR zR zR (Ap zR zR zR (J zR (J zR (U (AD (V (E zR ?_))))))))
 refine O zR (OX (b:=0)) ?_
 refine E zR ?_
 refine C1 (c:=false) 31 3 34 zR (fun hb k=>?_) (fun hb k=>?_) ?_
 refine AA zR (AA zR (Ad zR zR zR ?_))
 exact k.mono tL
 refine E zR ?_
 refine O zR (OX (b:=9223372036854775807)) ?_
 rw[jT n zO]
 refine Ad zR zR zR ?_
 exact k.mono tL
 refine U ?_
 refine AG zR (fun hc4=>absurd hc4 zD) (fun hc4=>?_)
 refine AH (AF (V (E zR ?_)))
 have hto:((BK n).toNat:Int)=n:=by simp only[BK,UInt64.toNat_ofNat'];omega
 refine As zR zR (fQ (n:=((BK n).toNat:Int)) HF Ef zO zO) ?_
 rw[hto]
 refine J zR (U (AD (V (E zR (BV zR Bu zR (O zR Bq (U ?_)))))))
 refine AG zR (fun hc5=>absurd hc5 zD) (fun hc5=>?_)
 refine AH (AF (AD (V (E zR (FW 0 zR Bu zR zR zD zD (U (AL (AD (V ?_)))))))))
 refine O zR (Oo (b:=32)) ?_
 refine J zR (U ?_)
 refine AG zR (fun hc6=>absurd hc6 zD) (fun hc6=>?_)
 refine V ?_
 refine O zR (Oo (b:=45)) ?_
 refine J zR (U ?_)
 refine AG zR (fun hc7=>absurd hc7 zD) (fun hc7=>?_)
 refine V ?_
 refine O zR (Oo (b:=48)) ?_
 refine J zR (U ?_)
 refine AG zR (fun hc8=>absurd hc8 zD) (fun hc8=>?_)
 refine V ?_
 refine O zR (Oo (b:=61)) ?_
 refine J zR (U ?_)
 refine AG zR (fun hc9=>absurd hc9 zD) (fun hc9=>?_)
 refine AJ ?_
 refine O zR (Oo (b:=9)) ?_
 refine J zR (U ?_)
 refine AG zR (fun hc10=>absurd hc10 zD) (fun hc10=>?_)
 refine AH (Ai (AF (V (E zR (J zR (U (AD (V (E zR (O zR CD (U ?_)))))))))))
 refine AG zR (fun hc11=>absurd hc11 (by simp;omega)) (fun hc11=>?_)
 refine AH (AF (V ?_))
 refine Ah zR ZW (fun _=>trivial) fun b0=>?_
 refine U (V (E zR ?_))
 refine AP (vs:=[_,_]) (Hin:=[_]) zR zR ⟨zR,zR,zT⟩ lU zR zR (kW b0 n _ (.inl zR) zO zO) ?_
 rintro _ _ ⟨rfl,v1,rfl⟩
 refine⟨trivial,?_⟩
 refine U (V (E zR ?_))
 refine AP (vs:=[_,_]) (Hin:=[_,_]) zR zR ⟨zR,zR,zT⟩ S3 zR zR (Kz 172 b0 _ v1 0 [] [0] (.inr zR) Tk zS) ?_
 rintro _ _ ⟨rfl,v2,rfl⟩
 refine⟨trivial,?_⟩
 refine U (AD (AL ?_))
 refine SX.mono (Ay (α:=Nat×Value) (fun x=>1≤x.1∧x.1≤n) (fun x=>[(0,vS [0]),(7,vI n),(8,vI n),(9,vP b0 0)]) (fun x=>AI b0 (.cells #[vP b0 0,x.2] 172)::Ci 5 1 x.2 x.1 ((List.replicate x.1 0).map fun b=>Cw b)::H) (fun x=>n-x.1) (fun x D hp=>?_) (1,v2) ⟨Nat.le_refl _,by simp only;omega⟩) tL
 obtain⟨m,v⟩:=x
 obtain⟨h1,h2⟩:=hp
 simp only at h1 h2
 refine AD (V ?_)
 refine AP (vs:=[_]) (Hin:=[_,_]) zR zR ⟨zR,zT⟩ VE zR zR (Za 172 b0 (vP b0 0) v m _) ?_
 rintro _ _ ⟨rfl,rfl⟩
 refine⟨trivial,?_⟩
 refine E zR (O zR Ao (U ?_))
 refine AG zR (fun hc12=>?_) (fun hc12=>?_)
 refine AH (AF (AL (V (E zR ?_))))
 refine AP (vs:=[_]) (Hin:=[_,_]) zR zR ⟨zR,zT⟩ VE zR zR (Za 172 b0 (vP b0 0) v m _) ?_
 rintro _ _ ⟨rfl,rfl⟩
 refine⟨trivial,?_⟩
 refine O zR (Cy zO zO) ?_
 refine AP (vs:=[_]) (Hin:=[_,_]) zR zR ⟨zR,zT⟩ VE zR zR (Za 172 b0 (vP b0 0) v m _) ?_
 rintro _ _ ⟨rfl,rfl⟩
 refine⟨trivial,?_⟩
 refine E zR (ga zR zR zR zR (J zR (U (AJ ?_))))
 refine AP (vs:=[_]) (Hin:=[_,_]) zR zR ⟨zR,zT⟩ Mi zR zR (Jh 172 b0 (vP b0 0) v m (List.replicate m 0) zO) ?_
 rintro _ _ ⟨rfl,rfl⟩
 refine⟨trivial,?_⟩
 refine E zR (NX (min (n-m) m) zR Bu zR zR zO (by simp;omega) ?_)
 refine AP (vs:=[_,_]) (Hin:=[_,_]) zR zR ⟨zR,zR,zT⟩ S3 zR zR (Kz 172 b0 _ v m _ ((List.replicate m 0).take (min (n-m) m)) (.inr zR) Tk (by simp;omega)) ?_
 rintro _ _ ⟨rfl,v',rfl⟩
 refine⟨trivial,?_⟩
 refine AS (Ai ?_)
 exact Ac (m+min (n-m) m,v') ⟨by simp only;omega,by simp only;omega⟩ (by simp at hc12;simp only;omega) ⟨zR,zR,zR,zR,zT⟩ (fun w h=>by
  have e:(List.replicate m 0).map (fun b=>Cw b)++((List.replicate m 0).take (min (n-m) m)).map (fun b=>Cw b)=(List.replicate (m+min (n-m) m) 0).map fun b=>Cw b:=by
   rw[←List.map_append,List.take_replicate,List.replicate_append_replicate];congr 2;omega
  have e2:((List.replicate m (0:UInt8)).take (min (n-m) m)).length=min (n-m) m:=by simp
  rw[e,e2]at h
  exact h)
 refine Al (Aw (A9 (Au (AF (V ?_)))))
 refine AP (vs:=[_]) (Hin:=[_,_]) zR zR ⟨zR,zT⟩ Mi zR zR (Jh 172 b0 (vP b0 0) v m (List.replicate m 0) zO) ?_
 rintro _ _ ⟨rfl,rfl⟩
 refine⟨trivial,?_⟩
 refine J zR (U (AM ?_))
 exact AU (Co zR zR) (AV (M:=[]) ⟨by have h3:m=n:=(by simp at hc12;omega);subst h3;rfl,zR⟩ fun _ h=>h.skip [_,_])
end

/- Walks of SHA-256's sum: of what was taken in, of texts behind each other, of a text. Condition: texts of at most 2^40 bytes together. -/
section
variable {K:Nat→Prop}{w0:World}{H:List AT}
theorem eJ(n:UInt64)(i:Nat)(h:i<8):(QA n).take (i+1)=(QA n).take i++[(shr64 n (56-8*i)).toUInt8]:=by
 have:i=0∨i=1∨i=2∨i=3∨i=4∨i=5∨i=6∨i=7:=by omega
 rcases this with rfl | rfl | rfl | rfl | rfl | rfl | rfl | rfl<;>rfl
theorem TZ(T:List UInt32)(h:LO)(s:List UInt8):(DH T h s).2.length=s.length%64:=by
 rw[KC]
 simp
 omega
theorem ZQ(T:List UInt32)(h:LO)(rest:List UInt8)(n:Nat)(b:Nat)(e:TypeId)(hT:RH K w0 3 T)(hTl:T.length=64)(hr:rest.length=n%64)(hn:n≤1099511627776):BH Tryz.prog K w0 193 [vP b 0] [AI b (.cells (MF h rest n) e)] H (fun r M=>r=vS ((DH T h (rest++Js n)).1.list.flatMap F9)∧M=[AI b (.cells (MF h rest n) e)]):=by
 refine BH.enter Tryz.func193 rfl rfl ?_
 refine V (J zR (U (AD (V (E zR (Eu zR pp zR zR (U ?_)))))))
 refine AG zR (fun hc1=>absurd hc1 zS) (fun hc1=>?_)
 refine AH (AF (V (E zR (AW zR zR ?_))))
 refine Aa (MF h rest n).toList zR ph zR zR (CG 0 zR (fun j u hu=>by simpa using hu)) ?_
 refine Ah zR jf (fun _=>trivial) fun b0=>?_
 refine Mg (c':=MF h rest n) 0 zR zR zR zR oH zR zR (List.all_eq_true.1 (show(MF h rest n).toList.all (·.oneCell')=true from zR)) zT ?_
 refine U (V (E zR (AW zR zR (AB zR SM (AC 1 DT zR (As zR zR (Cr Ef CB) ?_))))))
 refine O zR (KV (b:=8)) ?_
 refine J zR (U (V (E zR (AW zR zR (AB zR SM (AC 1 DT zR (O zR (Tj zO zO) (O zR (Cy zO zO) (O zR (Tj zO zO) ?_)))))))))
 refine J zR (U (V (J zR (U (AD (V (J zR (U (AL (Hw 5 1 ?_))))))))))
 refine SX.mono (Ay (α:=Nat×Value) (fun x=>x.1≤8) (fun x=>[(3,vP b0 0),(4,Ag (BK n*8)),(5,vI (Jw n)),(6,x.2),(7,vI (56-8*(x.1:Int)))]) (fun x=>Ci 5 1 x.2 x.1 (((QA (BK n*8)).take x.1).map fun b=>Cw b)::AI b0 (.cells (MF h rest n) 274)::AI b (.cells (MF h rest n) e)::H) (fun x=>8-x.1) (fun x D hp=>?_) (0,.slice none 0 0) zD) ⟨zR,zR,?_,zR,zR,zT⟩
 rotate_left
 have e1:((119-(n:Int)%64)%64)=(Jw n:Int):=by unfold Jw;omega
 rw[←e1]
 rfl
 obtain⟨i,v⟩:=x
 simp only at hp
 refine AD (V (E zR (O zR LN (U ?_))))
 refine AG zR (fun hc2=>?_) (fun hc2=>?_)
 have hi:i<8:=by simp at hc2;omega
 have e1:(56-8*(i:Int))=((56-8*i:Nat):Int):=by omega
 refine AH (AF (AD (AL (AJ (E zR (E zR (E zR ?_)))))))
 refine fc zR zR (congrArg (fun z=>some (vI z)) e1) (D4.shr64 (n:=56-8*i)) ?_
 refine As zR zR (Fk CB CW) ?_
 refine Bd [_] zR B1 Iv J7 ⟨zR,zT⟩ zR zR zR (by simp[Value.cells]) zR zR (fun _=>trivial) fun b1=>?_
 refine TE 1 zR (m:=1) (news:=[Cw (shr64 (BK n*8) (56-8*i)).toUInt8]) B1 Iv Uy J7 zR zD zR zR zR zR (AZ 0 zR) (by simp[Value.oneCell']) zO zO (fun _=>trivial) fun v'=>?_
 refine J zR (AS (Ai (AF (AJ (E zR (O zR (Cy zO zO) (J zR (AS ?_))))))))
 refine Ac (i+1,v') (by simp only;omega) (by simp only;omega) ⟨zR,zR,zR,zR,?_,zT⟩ (fun w hw=>by
  simp only
  rw[eJ _ _ hi,List.map_append]
  exact hw.skip [_])
 have e2:(56-8*((i+1:Nat):Int))=56-8*(i:Int)-8:=by omega
 simp only[e2]
 rfl
 have hi:i=8:=by simp at hc2;omega
 subst hi
 refine Al (Aw (A9 (Au (AF (AD (Aj CJ [0] (BY [(true,0),(true,3),(true,4),(false,1),(true,2),(true,5)] (.last 6 .nil)) zK (E zR (E zR ?_))))))))
 refine Wl (s:=QA (BK n*8)) 0 zR B1 CW Bu zR zR ?_
 refine AP (vs:=[_,_]) (Hin:=[]) zR zR ⟨zR,zR,zT⟩ N3 zR zR (Ld (Jw n) (by unfold Jw;omega)) ?_
 rintro _ _ ⟨rfl,rfl⟩
 refine⟨⟨⟨0,rfl⟩,trivial⟩,?_⟩
 refine O zR (EY (by simp[Jw];omega)) (O zR (EY (by simp[Jw,QA];omega)) (BE (SL.pick [1] 2 ?_)))
 refine AP (vs:=[_,_]) (Hin:=[_]) zR zR ⟨zR,zR,zT⟩ f5 zR zR (SZ T h rest (Js n) n b0 274 hT hTl zO (by simp[Js,Jw,QA];omega)) ?_
 rintro _ _ ⟨rfl,rfl⟩
 refine⟨trivial,?_⟩
 refine U (V (AB zR Vj ?_))
 refine AP (vs:=[_]) (Hin:=[_]) zR zR ⟨zR,zT⟩ mM zR zR (ZN (DH T h (rest++Js n)).1 [vS (DH T h (rest++Js n)).2,vI n] b0 274) ?_
 rintro _ _ ⟨rfl,rfl⟩
 refine⟨trivial,?_⟩
 refine J zR (U (AM ?_))
 exact AU (Co zR zR) (AV (M:=[_]) ⟨zR,zR⟩ fun _ h=>h.skip [_])
theorem dH(hF:RH K w0 1 C8.list):BH Tryz.prog K w0 191 [] [] H (fun r M=>∃b,r=vP b 0∧M=[AI b (.cells (MF C8 [] 0) 274)]):=by
 refine BH.enter Tryz.func191 rfl rfl ?_
 refine V (J zR (U (V ?_)))
 refine Aa (ad:=⟨1,0,none⟩) (C8.list.map Z) zR pj zR zR (fun w hw j u hu=>by
  rw[By,Nat.zero_add]
  rw[List.getElem?_map]at hu
  cases hx:C8.list[j]? with
  | none=>rw[hx]at hu;cases hu
  | some x=>
   rw[hx]at hu
   obtain rfl:=Option.some.inj hu
   exact NZ (ad:=⟨1,j,none⟩) hF.keep (hF.cell j x hx) w hw) ?_
 refine BL [_] zR px pm jf ⟨zR,zT⟩ zR ?_
 refine BU zR zR (fun _=>trivial) fun b0=>?_
 refine J zR (U (AM ?_))
 exact AU (Co zR zR) (AV (M:=[_]) ⟨b0,zR,zR⟩ fun _ h=>h)
theorem SI(T:List UInt32)(v:Value)(ls:List (List UInt8))(hT:RH K w0 3 T)(hTl:T.length=64)(hF:RH K w0 1 C8.list)(hk:Bn K w0 Rg 1 v ls)(hn:ls.flatten.length≤1099511627776)(hl:ls.length≤1099511627776):BH Tryz.prog K w0 153 [v] [] H (fun r M=>r=vS (K0 T ls.flatten)∧M=[]):=by
 refine BH.enter Tryz.func153 rfl rfl ?_
 refine V (J zR (U (V ?_)))
 refine AP (vs:=[]) (Hin:=[]) zR zR zT nV zR zR (dH hF) ?_
 rintro _ _ ⟨b0,rfl,rfl⟩
 refine⟨trivial,?_⟩
 refine J zR (U (AD (V (E zR (Bb hk zR DU zR (E zR (U (AL ?_))))))))
 have h0:DH T C8 (ls.take 0).flatten=(C8,[]):=N2 zS
 refine SX.heap (H':=AI b0 (.cells (MF (DH T C8 (ls.take 0).flatten).1 (DH T C8 (ls.take 0).flatten).2 ((ls.take 0).flatten.length:Nat)) 274)::H) ?_ (fun w hw=>by rw[h0];exact hw)
 refine SX.mono (Ay (α:=Nat) (fun i=>i≤ls.length) (fun i=>[(3,vP b0 0),(7,v),(8,vI ls.length),(9,vI i)]) (fun i=>AI b0 (.cells (MF (DH T C8 (ls.take i).flatten).1 (DH T C8 (ls.take i).flatten).2 ((ls.take i).flatten.length:Nat)) 274)::H) (fun i=>ls.length-i) (fun i D hp=>?_) 0 (Nat.zero_le _)) tL
 refine V (O zR Ao (U (AD ?_)))
 refine AG zR (fun hc1=>?_) (fun hc1=>?_)
 have hlt:i<ls.length:=by simpa using hc1
 obtain⟨s,hs⟩:=NA hlt
 have hts:=(D9 hs).2
 have hfl:(ls.take (i+1)).flatten=(ls.take i).flatten++s:=by rw[hts];simp
 have hle:(ls.take (i+1)).flatten.length≤1099511627776:=by
  have:ls.flatten=(ls.take (i+1)).flatten++(ls.drop (i+1)).flatten:=by rw[←List.flatten_append,List.take_append_drop]
  rw[this]at hn
  simp only[List.length_append]at hn
  omega
 rw[hfl,List.length_append]at hle
 refine AH (AF (AD (AL (V ?_))))
 refine PF i s hk zR DU Gn zR zR zR hs fun be off hcell=>?_
 refine BR zR EZ zR (fun w hw=>hcell _ w hw 0 _ zR) ?_
 refine J zR (U (V (E zR (E zR ?_))))
 refine AP (vs:=[_,_]) (Hin:=[_]) zR zR ⟨zR,zR,zT⟩ f5 zR zR (SZ T _ _ s _ b0 274 hT hTl (aH T C8 _) zO) ?_
 rintro _ _ ⟨rfl,rfl⟩
 refine⟨trivial,?_⟩
 refine U (AJ (E zR (AW zR zR (AB zR SM (AC 0 DT zR (E zR (BV zR Bu zR (O zR (BA zO zO) (AW zR zR ?_)))))))))
 refine AB zR SM (Am 0 zR zR zR zR La zR zR zR zT (AS (Ai (AF (AJ (O zR (BA zO zO) (E zR (AS ?_))))))))
 refine Ac (i+1) hlt zO tL (fun w hw=>by
  rw[hfl,QR T C8 (ls.take i).flatten s,List.length_append]
  exact hw)
 have hi:i=ls.length:=by simp at hc1;omega
 have ht:ls.take i=ls:=by rw[hi];exact List.take_length
 rw[ht]
 refine Al (Aw (A9 (Au (AF (V (E zR ?_))))))
 refine AP (vs:=[_]) (Hin:=[_]) zR zR ⟨zR,zT⟩ nk zR zR (ZQ T _ _ ls.flatten.length b0 274 hT hTl (TZ T C8 ls.flatten) hn) ?_
 rintro _ _ ⟨rfl,rfl⟩
 refine⟨trivial,?_⟩
 refine J zR (U (AM ?_))
 exact AU (Co zR zR) (AV (M:=[]) ⟨by unfold K0;rw[QR T C8 ls.flatten],zR⟩ fun _ h=>h.skip [_])
theorem ec(T:List UInt32)(s:List UInt8)(hT:RH K w0 3 T)(hTl:T.length=64)(hF:RH K w0 1 C8.list)(hn:s.length≤1099511627776):BH Tryz.prog K w0 194 [vS s] [] H (fun r M=>r=vS (K0 T s)∧M=[]):=by
 refine BH.enter Tryz.func194 rfl rfl ?_
 refine V (J zR (U (V (E zR ?_))))
 refine Bd [_] zR DU Gn OM ⟨zR,zT⟩ zR zR zR (by simp[Value.cells]) zR zR (fun _=>trivial) fun b0=>?_
 refine AP (vs:=[_]) (Hin:=[_]) zR zR ⟨zR,zT⟩ aG zR zR (CC (B:=[AI b0 (.cells #[vS s] 9)]) (Hin:=[]) fun K' w1 hk hB=>(SI T _ [s] (hT.keeps hk) hTl (hF.keeps hk) (Bn.lent (enc:=Rg) (sz:=1) (xs:=[s]) (fun _=>rfl) (Nat.le_refl 1) zR (hB _ (List.mem_cons_self ..))) (by simpa using hn) zS)) ?_
 rintro _ _ ⟨M',rfl,rfl,rfl⟩
 refine⟨trivial,?_⟩
 refine J zR (U (AM ?_))
 exact AU (Co zR zR) (AV (M:=[]) ⟨by simp,zR⟩ fun _ h=>h.skip [_])
end

/- Walks of HMAC and of what a key expands to (thirty-two bytes). Condition: texts of at most 2^39 bytes. -/
section
variable {K:Nat→Prop}{w0:World}{H:List AT}
structure GJ(K:Nat→Prop)(w0:World)(T:List UInt32):Prop where
 tab:RH K w0 3 T
 len:T.length=64
 first:RH K w0 1 C8.list
theorem GJ.keeps{T:List UInt32}{K':Nat→Prop}{w1:World}(h:GJ K w0 T)(hk:TY K w0 K' w1):GJ K' w1 T:=⟨h.tab.keeps hk,h.len,h.first.keeps hk⟩
theorem Ra(ls:List (List UInt8)):ls.flatMap Rg=ls.map vS:=by
 induction ls with
 | nil=>rfl
 | cons s r ih=>rw[List.flatMap_cons,ih];rfl
theorem W8(k:List UInt8)(n i:Nat):(k++List.replicate n 0).getD i 0=k.getD i 0:=by
 simp only[List.getD_eq_getElem?_getD]
 rcases Nat.lt_or_ge i k.length with h | h
 rw[List.getElem?_append_left h]
 rw[List.getElem?_append_right h,List.getElem?_eq_none h]
 rw[List.getElem?_replicate]
 split<;>rfl
theorem bH(T:List UInt32)(v:Value)(ls:List (List UInt8))(hT:GJ K w0 T)(hn:ls.flatten.length≤1099511627776)(hl:ls.length≤1099511627776):BH Tryz.prog K w0 153 [v] [Ci 9 1 v ls.length (ls.flatMap Rg)] H (fun r M=>r=vS (K0 T ls.flatten)∧M=[Ci 9 1 v ls.length (ls.flatMap Rg)]):=by
 intro w hw
 have h1:=CC (P:=Tryz.prog) (K:=K) (w0:=w0) (f:=153) (args:=[v]) (H:=H) (B:=[Ci 9 1 v ls.length (ls.flatMap Rg)]) (Hin:=[]) (post:=fun r M=>r=vS (K0 T ls.flatten)∧M=[]) (fun K' w1 hk hB=>SI T v ls (hT.keeps hk).tab hT.len (hT.keeps hk).first (bC (fun _=>rfl) (hB _ (List.mem_cons_self ..))) hn hl) w hw
 refine h1.mono ?_
 rintro e w' ⟨r,M,rfl,⟨M',rfl,hr,rfl⟩,hw'⟩
 exact⟨r,_,rfl,⟨hr,rfl⟩,hw'⟩
theorem cQ(T:List UInt32)(b:Nat)(ls:List (List UInt8))(hT:GJ K w0 T)(hn:ls.flatten.length≤1099511627776)(hl:ls.length≤1099511627776):BH Tryz.prog K w0 153 [.slice (some ⟨b,0,none⟩) ls.length ls.length] [AI b (.cells (Cg vS ls) 9)] H (fun r M=>r=vS (K0 T ls.flatten)∧M=[AI b (.cells (Cg vS ls) 9)]):=by
 intro w hw
 have h1:=CC (P:=Tryz.prog) (K:=K) (w0:=w0) (f:=153) (args:=[.slice (some ⟨b,0,none⟩) ls.length ls.length]) (H:=H) (B:=[AI b (.cells (Cg vS ls) 9)]) (Hin:=[]) (post:=fun r M=>r=vS (K0 T ls.flatten)∧M=[]) (fun K' w1 hk hB=>SI T _ ls (hT.keeps hk).tab hT.len (hT.keeps hk).first (Bn.lent (enc:=Rg) (sz:=1) (fun _=>rfl) (Nat.le_refl _) (by rw[Ra,UL];exact List.take_of_length_le zS) (hB _ (List.mem_cons_self ..))) hn hl) w hw
 refine h1.mono ?_
 rintro e w' ⟨r,M,rfl,⟨M',rfl,hr,rfl⟩,hw'⟩
 exact⟨r,_,rfl,⟨hr,rfl⟩,hw'⟩
theorem UP(T:List UInt32)(key:List UInt8)(c:UInt8)(hT:GJ K w0 T)(hn:key.length≤549755813888):BH Tryz.prog K w0 154 [vS key,Cw c] [] H (fun r M=>r=vS (E0 T key c)∧M=[]):=by
 refine BH.enter Tryz.func154 rfl rfl ?_
 refine V (J zR (U ?_))
 refine Wf (α:=Unit) (fun _=>True) (fun _=>[(0,vS (EP T key)),(1,Cw c)]) (fun _=>H) ?_ (fun x hx=>?_)
 refine V (E zR (BV zR Bu zR (O zR CD (U ?_))))
 refine AG zR (fun hc1=>?_) (fun hc1=>?_)
 refine AJ (E zR ?_)
 refine AP (vs:=[_]) (Hin:=[]) rfl rfl ⟨rfl,trivial⟩ nW rfl rfl (ec T key hT.tab hT.len hT.first zO) ?_
 rintro _ _ ⟨rfl,rfl⟩
 refine⟨trivial,?_⟩
 refine J zR (AS ?_)
 have hk:EP T key=K0 T key:=by unfold EP;rw[if_pos (by simp at hc1;omega)]
 exact Q6 () zT (by rw[hk];exact⟨zR,zR,zT⟩)
 refine AH ?_
 have hk:EP T key=key:=by unfold EP;rw[if_neg (by simp at hc1;omega)]
 exact Q6 () zT (by rw[hk];exact⟨zR,zR,zT⟩)
 
 have hkl:=Ti T key
 refine V (E zR (E zR (BV zR Bu zR (O zR (Cy zO zO) ?_))))
 refine AP (vs:=[_,_]) (Hin:=[]) zR zR ⟨zR,zR,zT⟩ N3 (by rw[show(64-(((EP T key).length:Nat):Int))=((64-(EP T key).length:Nat):Int) by omega];rfl) zR (Ld (64-(EP T key).length) zO) ?_
 rintro _ _ ⟨rfl,rfl⟩
 refine⟨trivial,?_⟩
 refine O zR (EY (by simp;omega)) (J zR (U (V ?_)))
 refine Ah zR ZW (fun _=>trivial) fun b0=>?_
 refine U (AD (V (E zR (U (AL (Hw 5 1 (SX.pick [1,0] 2 ?_)))))))
 refine SX.mono (Ay (α:=Nat×Value×Value) (fun x=>x.1≤64∧M8 b0 x.2.1) (fun x=>[(0,vS (EP T key++List.replicate (64-(EP T key).length) 0)),(1,Cw c),(5,vP b0 0),(18,vI x.1)]) (fun x=>AI b0 (.cells #[x.2.1,x.2.2] 172)::Ci 5 1 x.2.2 x.1 (((E0 T key c).take x.1).map fun b=>Cw b)::H) (fun x=>64-x.1) (fun x D hp=>?_) (0,.pointer none,.slice none 0 0) ⟨by decide,.inl zR⟩) tL
 obtain⟨i,p,v⟩:=x
 obtain⟨hp,hadr⟩:=hp
 simp only at hp hadr
 refine V (O zR Ao (U (AD ?_)))
 refine AG zR (fun hc2=>?_) (fun hc2=>?_)
 have hi:i<64:=by simp at hc2;omega
 refine AH (AF (AD (AL (V (E zR (J zR (U (AJ (E zR (E zR (FW i zR Bu zR zR zO (by simp;omega) (E zR (O zR Ov ?_)))))))))))))
 refine AP (vs:=[_,_]) (Hin:=[_,_]) zR zR ⟨zR,zR,zT⟩ VC zR zR (Mc 172 b0 p v i _ _ hadr Tk zO) ?_
 rintro _ _ ⟨rfl,v',rfl⟩
 refine⟨trivial,?_⟩
 refine AS (Ai (AF (AJ (O zR (BA zO zO) (E zR (AS ?_))))))
 refine Ac (i+1,vP b0 0,v') ⟨by simp only;omega,.inr zR⟩ (by simp only;omega) tL (fun w hw=>by
  have e1:(E0 T key c).take (i+1)=(E0 T key c).take i++[(EP T key++List.replicate (64-(EP T key).length) 0).getD i 0 ^^^ c]:=by
   rw[List.take_add_one,W8]
   simp[E0,hi]
  simp only
  rw[e1,List.map_append]
  exact hw)
 have hi:i=64:=by simp at hc2;omega
 subst hi
 have ht:(E0 T key c).take 64=E0 T key c:=List.take_of_length_le (by rw[Jy];omega)
 rw[ht]
 refine Al (Aw (A9 (Au (AF (V ?_)))))
 refine AP (vs:=[_]) (Hin:=[_,_]) zR zR ⟨zR,zT⟩ Mi zR zR (Jh 172 b0 p v 64 (E0 T key c) zO) ?_
 rintro _ _ ⟨rfl,rfl⟩
 refine⟨trivial,?_⟩
 refine J zR (U (AM ?_))
 exact AU (Co zR zR) (AV (M:=[]) ⟨zR,zR⟩ fun _ h=>h.skip [_,_])
theorem R7(T:List UInt32)(key:List UInt8)(ls:List (List UInt8))(bs:Nat)(hT:GJ K w0 T)(hn:key.length≤549755813888)(hls:ls.flatten.length≤549755813888)(hl:ls.length≤549755813888):BH Tryz.prog K w0 112 [vS key,.slice (some ⟨bs,0,none⟩) ls.length ls.length] [AI bs (.cells (Cg vS ls) 9)] H (fun r M=>r=vS (MV T key ls.flatten)∧M=[]):=by
 refine BH.enter Tryz.func112 rfl rfl ?_
 refine V (J zR (U (V (E zR ?_))))
 refine AP (vs:=[_,_]) (Hin:=[]) zR zR ⟨zR,zR,zT⟩ gA zR zR (UP T key 54 hT hn) ?_
 rintro _ _ ⟨rfl,rfl⟩
 refine⟨trivial,?_⟩
 refine Bd [_] zR DU Gn OM ⟨zR,zT⟩ zR zR zR (by simp[Value.cells]) zR zR (fun _=>trivial) fun b0=>?_
 refine E zR ?_
 refine SL.heap (H':=Ci 9 1 (.slice (some ⟨b0,0,none⟩) 1 1) 1 [vS (E0 T key 54)]::AI bs (.cells (Cg vS ls) 9)::H) ?_ (fun w hw=>Yj hw zR (Nat.le_refl 1) zD)
 refine TE 0 rfl (m:=ls.length) (news:=ls.map vS) DU Gn ie OM rfl zD rfl rfl rfl zS (AZ 1 rfl) (by intro u hu;obtain⟨x,_,rfl⟩:=List.mem_map.1 hu;rfl) zO zO (fun _=>trivial) fun v'=>?_
 have e1:Ci 9 1 v' (1+ls.length) ([vS (E0 T key 54)]++ls.map vS)=Ci 9 1 v' (E0 T key 54::ls).length ((E0 T key 54::ls).flatMap Rg):=by
  rw[Ra,List.length_cons,Nat.add_comm];rfl
 rw[e1]
 refine AP (vs:=[_]) (Hin:=[_]) zR zR ⟨zR,zT⟩ aG zR zR (bH T v' (E0 T key 54::ls) hT (by simp only[List.flatten_cons,List.length_append,Jy];omega) (by simp only[List.length_cons];omega)) ?_
 rintro _ _ ⟨rfl,rfl⟩
 refine⟨trivial,?_⟩
 refine J zR (U (V (E zR ?_)))
 refine AP (vs:=[_,_]) (Hin:=[]) zR zR ⟨zR,zR,zT⟩ gA zR zR (UP T key 92 hT hn) ?_
 rintro _ _ ⟨rfl,rfl⟩
 refine⟨trivial,?_⟩
 refine E zR ?_
 refine Bd [_,_] zR DU Gn OM ⟨zR,zR,zT⟩ zR zR zR (by simp[Value.cells]) zR zR (fun _=>trivial) fun b1=>?_
 refine AP (vs:=[_]) (Hin:=[_]) zR zR ⟨zR,zT⟩ aG zR zR (cQ T b1 [E0 T key 92,K0 T (E0 T key 54::ls).flatten] hT (by simp[Jy,Ht]) zS) ?_
 rintro _ _ ⟨rfl,rfl⟩
 refine⟨trivial,?_⟩
 refine J zR (U (AM ?_))
 exact AU (Co zR zR) (AV (M:=[]) ⟨by simp[MV],zR⟩ fun _ h=>h.skip [_,_,_])
theorem ZJ(a b:List UInt8)(ha:a.length≤549755813888):BH Tryz.prog K w0 221 [vS a,vS b] [] H (fun r M=>r=vB (decide (a=b))∧M=[]):=by
 refine BH.enter Tryz.func221 rfl rfl ?_
 refine V (J zR (U (V (J zR (U (AD (V (E zR (BV zR Bu zR (E zR (BV zR Bu zR (Oe zR zR zR (E zR (U (AL ?_)))))))))))))))
 refine SX.mono (Ay (α:=Nat×UInt8) (fun x=>x.1≤min a.length b.length∧(x.2=0↔∀j,j<x.1→a.getD j 0=b.getD j 0)) (fun x=>[(0,vS a),(1,vS b),(5,Cw x.2),(11,vI (min (a.length:Int) b.length)),(12,vI x.1)]) (fun x=>H) (fun x=>min a.length b.length-x.1) (fun x D hp=>?_) (0,0) ⟨Nat.zero_le _,by simp⟩) tL
 obtain⟨i,x⟩:=x
 obtain⟨hi,hx⟩:=hp
 simp only at hi hx
 refine V (O zR Ao (U (AD ?_)))
 refine AG zR (fun hc1=>?_) (fun hc1=>?_)
 have hlt:i<min a.length b.length:=by simp at hc1;omega
 refine AH (AF (AD (AL (V (E zR (J zR (U (Aj CJ [] (Pl.of [(true,0),(true,1),(true,2),(true,3),(true,4),(true,5),(true,6),(true,7),(true,8),(true,9)]) zK (E zR (E zR (E zR (FW i zR Bu zR zR zO zO (E zR ?_)))))))))))))
 refine E zR (FW i zR Bu zR zR zO zO (O zR Ov (O zR bf (J zR (AS (Ai (AF (AJ (O zR (BA zO zO) (E zR (AS ?_)))))))))))
 refine Ac (i+1,x ||| (a.getD i 0 ^^^ b.getD i 0)) ⟨hlt,?_⟩ (by simp only;omega) tL
 simp only
 rw[Xz,ea,hx]
 constructor
 rintro⟨h1,h2⟩ j hj
 rcases Nat.lt_or_ge j i with h | h
 exact h1 j h
 obtain rfl:j=i:=by omega
 exact h2
 intro h
 exact⟨fun j hj=>h j zO,h i zO⟩
 have hie:i=min a.length b.length:=by simp at hc1;omega
 refine Al (Aw (A9 (Au (AF (V (E zR ?_))))))
 refine O zR (Oo (b:=0)) ?_
 refine E zR ?_
 refine CU (c:=decide ((a.length:Int)=b.length)) 27 6 33 zR (fun hb k=>?_) (fun hb k=>?_) ?_
 refine E zR (BV zR Bu zR (E zR (BV zR Bu zR (O zR Bq (Ad zR zR zR ?_)))))
 exact k.mono tL
 refine AA zR (AA zR (AA zR (AA zR (AA zR (Ad zR zR zR ?_)))))
 exact k.mono tL
 refine J zR (U (AM ?_))
 refine AU (Co zR zR) (AV (M:=[]) ⟨?_,zR⟩ fun _ h=>h.skip [])
 congr 1
 rw[Bool.eq_iff_iff,Bool.and_eq_true,decide_eq_true_eq,decide_eq_true_eq,decide_eq_true_eq,hx]
 constructor
 rintro⟨h1,h2⟩
 have hl:a.length=b.length:=by omega
 refine List.ext_getElem hl fun j hj hj'=>?_
 have:=h1 j zO
 simpa[List.getD_eq_getElem?_getD,hj,hj']using this
 rintro rfl
 exact⟨fun _ _=>rfl,rfl⟩
theorem Ux(T:List UInt32)(key label:List UInt8)(bk bl:Nat)(hT:GJ K w0 T)(hn:key.length≤549755813888)(hl:label.length≤274877906944):iQ Tryz.prog K w0 211 [vP bk 0,vP bl 0] [AI bl (.cells #[vS label] 9),AI bk (.cells #[vS key] 9)] Rg (Sg T key label):=by
 intro lp J9 X T1 hy G h0
 refine BH.enter Tryz.func211 rfl rfl ?_
 refine V (J zR (U (V (J zR (U (AL ?_))))))
 refine SX.mono (Ay (α:=Nat×List AT) (fun x=>x.1≤255∧J9 ((Sg T key label).take x.1) x.2) (fun x=>[(0,vY lp),(1,vP bk 0),(2,vP bl 0),(4,vS (OQ T key label x.1)),(5,vI (x.1+1:Nat))]) (fun x=>AI bl (.cells #[vS label] 9)::AI bk (.cells #[vS key] 9)::(x.2++T1)) (fun x=>255-x.1) (fun x D hp=>?_) (0,G) ⟨by simp,h0⟩) tL
 obtain⟨i,G⟩:=x
 obtain⟨hi,hJ⟩:=hp
 simp only at hi hJ
 refine AD (V (E zR (O zR Gs (U ?_))))
 refine AG zR (fun hc1=>?_) (fun hc1=>?_)
 have hlt:i<255:=by simp at hc1;omega
 have hg:=YM T key label i hlt
 have hel:=ZF T key label i
 refine AH (AF (AD (AL (V (AC 1 EZ zR (E zR (AC 0 EZ zR (E zR (As zR zR (PH Ef CW) ?_)))))))))
 refine Bd [_] zR B1 Iv J7 ⟨zR,zT⟩ zR zR zR (by simp[Value.cells]) zR zR (fun _=>trivial) fun b0=>?_
 refine RB [_] zR B1 CW Bu zR zR (AZ 0 zR) ?_
 refine Bd [_,_,_] zR DU Gn OM ⟨zR,zR,zR,zT⟩ zR zR zR (by simp[Value.cells]) zR zR (fun _=>trivial) fun b1=>?_
 refine AP (vs:=[_,_]) (Hin:=[_]) zR zR ⟨zR,zR,zT⟩ Yu zR zR (R7 T key [OQ T key label i,label,[HO ((i+1:Nat):Int)]] _ hT hn (by simp;omega) zS) ?_
 rintro _ _ ⟨rfl,rfl⟩
 refine⟨trivial,?_⟩
 refine J zR (U (V (E zR (E zR ?_))))
 have e1:MV T key [OQ T key label i,label,[HO ((i+1:Nat):Int)]].flatten=OQ T key label (i+1):=by simp[OQ]
 rw[e1]
 refine HX (M2:=[_,_,_]) (G:=G) (T:=T1) (vs:=[_]) (ok:=fun G1=>J9 ((Sg T key label).take (i+1)) G1) (no:=X) zR zR ⟨zR,zT⟩ zR ?_ (fun bb G1 hG1=>⟨zT,?_⟩)
 intro M
 have:=hy _ _ _ (D9 hg).1 G hJ M
 rw[←(D9 hg).2]at this
 exact this
 refine B9 zR zR (U ?_)
 refine AG zR (fun hc2=>?_) (fun hc2=>?_)
 obtain rfl:bb=false:=by simpa using hc2
 refine AM (BM (Ab (DD (BM ?_))))
 exact AU (C7 zR) (AV (M:=G1) (.inr hG1) fun _ h=>h.skip [_,_,_])
 obtain rfl:bb=true:=by simpa using hc2
 refine AH (Ai (AF (AJ (E zR (O zR (BA zO zO) (J zR (AS ?_)))))))
 exact Ac (i+1,G1) ⟨hlt,hG1⟩ (by simp only;omega) tL (fun w hw=>hw.skip [_])
 refine Al (Aw (A9 (Au ?_)))
 have hle:i=255:=by simp at hc1;omega
 exact CQ (C7 zR) (AV (M:=G) (.inl (by rw[List.take_of_length_le (by rw[TL];omega)]at hJ;exact hJ)) fun _ h=>h.skip [_,_])
theorem Uu(key label:List UInt8):BH Tryz.prog K w0 188 [vS key,vS label] [] H (fun r M=>∃bk bl,r=.func (.func 211) #[] #[vP bk 0,vP bl 0]∧M=[AI bl (.cells #[vS label] 9),AI bk (.cells #[vS key] 9)]):=by
 refine BH.enter Tryz.func188 rfl rfl ?_
 refine V ?_
 refine BU zR zR (fun _=>trivial) fun b0=>?_
 refine BU zR zR (fun _=>trivial) fun b1=>?_
 refine J zR (U (V ?_))
 refine GD (fv:=#[]) (cv:=#[_,_]) zR zR zR ?_
 refine J zR (U (AM ?_))
 exact AU (Co zR zR) (AV (M:=[_,_]) ⟨b0,b1,zR,zR⟩ fun _ h=>h)
theorem Rk(T:List UInt32)(key label:List UInt8)(hT:GJ K w0 T)(hn:key.length≤549755813888)(hl:label.length≤274877906944):BH Tryz.prog K w0 149 [vS key,vS label,vI 32] [] H (fun r M=>r=.tuple #[vS (FU T key label),vI 0]∧M=[]):=by
 refine BH.enter Tryz.func149 rfl rfl ?_
 refine V ?_
 refine BU zR zR (fun _=>trivial) fun b0=>?_
 refine J zR (J zR (U (JL (AD (V (AC 0 DT zR (O zR Ao (E zR ?_))))))))
 refine C1 (c:=decide ((8160:Int)<32)) 12 3 15 zR (fun hb k=>?_) (fun hb k=>?_) ?_
 refine AA zR (AA zR (Ad zR zR zR ?_))
 exact k.mono tL
 refine AC 0 DT zR (O zR CD (Ad zR zR zR ?_))
 exact k.mono tL
 refine U ?_
 refine AG zR (fun hc1=>absurd hc1 zD) (fun hc1=>?_)
 refine AH (AF (V ?_))
 refine Ah zR ZW (fun _=>trivial) fun b1=>?_
 refine U (AD (JS (AF (AD (V (E zR (E zR ?_)))))))
 refine AP (vs:=[_,_]) (Hin:=[]) zR zR ⟨zR,zR,zT⟩ nF zR zR (Uu key label) ?_
 rintro _ _ ⟨bk,bl,rfl,rfl⟩
 refine⟨trivial,?_⟩
 refine U (Hw 5 1 (SX.pick [1,2,3,0,4] 5 (AL ?_)))
 refine OT (enc:=Rg) (Sg T key label) (fun pre G=>pre.length≤1∧∃p v,M8 b1 p∧G=AI b1 (.cells #[p,v] 172)::Ci 5 1 v pre.flatten.length (pre.flatten.map fun b=>Cw b)::AI b0 (.cells #[vI 32] 3)::H) (fun c G=>c=.exit 0∧∃p v,M8 b1 p∧G=AI b1 (.cells #[p,v] 172)::Ci 5 1 v 32 ((FU T key label).map fun b=>Cw b)::AI b0 (.cells #[vI 32] 3)::H) zR mz zR (fun _=>rfl) (Ux T key label bk bl hT hn hl) zR ⟨Nat.zero_le _,_,_,.inl zR,zR⟩ (fun pre x suf G hxs hJ r lp Rest=>?_) (fun G D hJ=>?_) (fun c G D hX=>?_)
 obtain⟨hpl,p,v,hadr,rfl⟩:=hJ
 have hx0:(Sg T key label)[0]? = some (FU T key label):=by rw[YM T key label 0 zD,iI]
 have he:(FU T key label).length=32:=FS ..
 refine AJ (J zR (AS (KL (AL (AD (AD (Aj CJ [2] (Pl.of [(true,1),(false,0),(true,2)]) zK (AC 0 DT zR ?_))))))))
 refine AP (vs:=[_]) (Hin:=[_,_]) zR zR ⟨zR,zT⟩ VE zR zR (Za 172 b1 p v _ _) ?_
 rintro _ _ ⟨rfl,rfl⟩
 refine⟨⟨⟨2,rfl⟩,trivial⟩,?_⟩
 refine O zR LN (U ?_)
 refine AG zR (fun hc2=>?_) (fun hc2=>?_)
 have hpre:pre=[FU T key label]:=by
  match pre,hpl with
  | [],_=>simp at hc2
  | [y],_=>rw[hxs]at hx0;simpa using hx0
 subst hpre
 refine Al (Aw (Ks ?_))
 refine MD (G:=AI b1 (.cells #[p,v] 172)::Ci 5 1 v 32 ((FU T key label).map fun b=>Cw b)::AI b0 (.cells #[vI 32] 3)::H) ⟨zR,p,v,hadr,zR⟩ (fun w hw=>?_)
 have e1:[FU T key label].flatten=FU T key label:=by simp
 rw[e1,he]at hw
 exact hw
 have hpre:pre=[]:=by
  match pre,hpl with
  | [],_=>rfl
  | [y],_=>
   rw[hxs]at hx0
   obtain rfl:y=FU T key label:=by simpa using hx0
   simp[he]at hc2
 subst hpre
 obtain rfl:x=FU T key label:=by rw[hxs]at hx0;simpa using hx0
 refine AH (AF (AJ (E zR ?_)))
 refine AP (vs:=[_,_]) (Hin:=[_,_]) zR zR ⟨zR,zR,zT⟩ S3 zR zR (Kz 172 b1 p v _ _ (FU T key label) hadr Tk (by simp[he])) ?_
 rintro _ _ ⟨rfl,v',rfl⟩
 refine⟨trivial,?_⟩
 refine AS (Ai ?_)
 refine HK (G:=AI b1 (.cells #[vP b1 0,v'] 172)::Ci 5 1 v' ([]++[FU T key label]).flatten.length (([]++[FU T key label]).flatten.map fun b=>Cw b)::AI b0 (.cells #[vI 32] 3)::H) ⟨by simp,_,v',.inr zR,zR⟩ (fun w hw=>?_)
 have e1:([]++[FU T key label]).flatten=FU T key label:=by simp
 rw[e1]
 simpa using hw
 exact absurd hJ.1 (by rw[TL];omega)
 obtain⟨rfl,p,v,hadr,rfl⟩:=hX
 have he:(FU T key label).length=32:=FS ..
 refine Al (Au (AF (AD (Aj CJ [2] (Pl.of [(true,1),(false,0),(true,2),(true,3),(true,4)]) zK (AC 0 DT zR ?_)))))
 refine AP (vs:=[_]) (Hin:=[_,_]) zR zR ⟨zR,zT⟩ Mi zR zR (Jh 172 b1 p v 32 (FU T key label) zO) ?_
 rintro _ _ ⟨rfl,rfl⟩
 refine⟨⟨⟨2,rfl⟩,trivial⟩,?_⟩
 refine NX 32 zR Bu zR zR zO zO (J zR (J zR (U (AM (EN ?_)))))
 exact AU (E8 zR zR zR) (AV (M:=[]) ⟨by rw[List.take_of_length_le zO],zR⟩ fun _ h=>h.skip [_,_,_])
end

/- Walks of a key's subkeys, and of texts filled to one size and back. Condition: none but the sizes stated. -/
section
variable {K:Nat→Prop}{w0:World}{H:List AT}
theorem ZY(T:List UInt32)(k:BC)(hT:GJ K w0 T):BH Tryz.prog K w0 108 [.agg (Ax k).toArray] [] H (fun r M=>r=(if Cs [k]=true then .tuple #[vS (IY T k IR),vS (IY T k IS),vI 0]else .tuple #[vS [],vS [],vI 40])∧M=[]):=by
 refine BH.enter Tryz.func108 rfl rfl ?_
 refine V ?_
 refine BU zR zR (fun _=>trivial) fun b0=>?_
 refine J zR (J zR (J zR (U (AD (V (Aa (Ax k) zR JA zR zR (AZ 0 zR) ?_))))))
 refine Bd [_] zR Jr Ej IT ⟨zR,zT⟩ zR zR zR (by simp[Value.cells,Ax]) zR zR (fun _=>trivial) fun b1=>?_
 refine AP (vs:=[_]) (Hin:=[_]) zR zR ⟨zR,zT⟩ ZU zR zR (CC (B:=[AI b1 (.cells (Ax k).toArray 138)]) (Hin:=[]) fun K' w1 hk hB=>OE _ [k] (Bn.lent (enc:=Ax) (sz:=2) (xs:=[k]) (fun _=>rfl) (Nat.le_refl 1) zR (hB _ (List.mem_cons_self ..))) zR zS) ?_
 rintro _ _ ⟨M',rfl,rfl,rfl⟩
 refine⟨trivial,?_⟩
 refine B9 zR zR (U ?_)
 refine AG zR (fun hc1=>?_) (fun hc1=>?_)
 have hr:Cs [k]=false:=by simpa using hc1
 refine V (J zR (J zR (J zR (U (AM (Ab ?_))))))
 exact AU (Vi zR zR zR zR) (AV (M:=[]) ⟨by rw[hr];rfl,zR⟩ fun _ h=>h.skip [_,_])
 have hr:Cs [k]=true:=by simpa using hc1
 have hkl:=UI hr
 refine AH (AF (V (AB zR FO (AC 1 Az zR (As zR zR (CN Bg CW) (AB zR FO (AC 1 Az zR ?_)))))))
 refine O zR (D4.shr32 (n:=8)) ?_
 refine As zR zR (CN Bg CW) (AB zR FO (AC 1 Az zR ?_))
 refine O zR (D4.shr32 (n:=16)) ?_
 refine As zR zR (CN Bg CW) (AB zR FO (AC 1 Az zR ?_))
 refine O zR (D4.shr32 (n:=24)) ?_
 refine As zR zR (CN Bg CW) ?_
 refine Bd [_,_,_,_] zR B1 Iv J7 ⟨zR,zR,zR,zR,zT⟩ zR zR zR (by simp[Value.cells]) zR zR (fun _=>trivial) fun b2=>?_
 refine RB [_,_,_,_] zR B1 CW Bu zR zR (AZ 0 zR) (J zR (U (V (AB zR Ou (AC 2 EZ zR (E zR ?_))))))
 refine O zR (EY (s:=IR) (t:=E3 k.gen) (by simp[E3,IR])) ?_
 refine AP (vs:=[_,_,_]) (Hin:=[]) zR zR ⟨zR,zR,zR,zT⟩ fy zR zR (Rk T k.secret (IR++E3 k.gen) hT zO (by simp[E3,IR])) ?_
 rintro _ _ ⟨rfl,rfl⟩
 refine⟨trivial,?_⟩
 refine E zR (Ap zR zR zR (Ap zR zR zR (J zR (J zR (U (V (AB zR Ou (AC 2 EZ zR (E zR ?_)))))))))
 refine O zR (EY (s:=IS) (t:=E3 k.gen) (by simp[E3,IS])) ?_
 refine AP (vs:=[_,_,_]) (Hin:=[]) zR zR ⟨zR,zR,zR,zT⟩ fy zR zR (Rk T k.secret (IS++E3 k.gen) hT zO (by simp[E3,IS])) ?_
 rintro _ _ ⟨rfl,rfl⟩
 refine⟨trivial,?_⟩
 refine E zR (Ap zR zR zR (Ap zR zR zR (J zR (J zR (U (V (E zR (E zR (J zR ?_)))))))))
 refine J zR (J zR (U (AM ?_)))
 exact AU (Vi zR zR zR zR) (AV (M:=[]) ⟨by rw[hr];rfl,zR⟩ fun _ h=>h.skip [_,_,_])
theorem dx(s:List UInt8)(hn:s.length≤9223372036854775807):BH Tryz.prog K w0 107 [vS s] [] H (fun r M=>r=(if 198<s.length then .tuple #[vS [],vI 50]else .tuple #[vS (Iw s),vI 0])∧M=[]):=by
 refine BH.enter Tryz.func107 rfl rfl ?_
 refine V (J zR (J zR (U (AD (V (E zR (BV zR Bu zR (O zR CD (U ?_)))))))))
 refine AG zR (fun hc1=>?_) (fun hc1=>?_)
 have h0:198<s.length:=by simp at hc1;omega
 refine V (J zR (J zR (U (AM (Ab ?_)))))
 exact AU (E8 zR zR zR) (AV (M:=[]) ⟨by rw[if_pos h0],zR⟩ fun _ h=>h.skip [])
 have h0:¬198<s.length:=by simp at hc1;omega
 have e1:(198-(s.length:Int))=((198-s.length:Nat):Int):=by omega
 refine AH (AF (AD (Aj CJ [] (BY [(true,0),(true,1),(true,2),(true,3),(true,4),(true,5),(true,6),(true,9),(true,11),(true,12),(true,13)] (.alt 7 (.alt 8 (Pl.of [(true,10),(false,14),(true,15),(true,16),(true,17)]) (.cons (false,14) (Pl.of [(false,8),(true,10),(true,15),(true,16),(true,17)]))) (.cons (false,14) (Pl.of [(false,7),(false,8),(true,10),(true,15),(true,16),(true,17)])))) zK (E zR (BV zR Bu zR ?_)))))
 refine O zR (iD (n:=8) zO zO) ?_
 refine As zR zR (PH Ef CW) (E zR (BV zR Bu zR (As zR zR (PH Ef CW) (E zR (E zR (BV zR Bu zR (O zR (Cy zO zO) ?_)))))))
 rw[e1]
 refine LF ?_ ?_
 refine Bd [_,_] zR B1 Iv J7 ⟨zR,zR,zT⟩ zR zR zR (by simp[Value.cells]) zR zR (fun _=>trivial) fun b0=>?_
 refine LF ?_ ?_
 refine RB [_,_] zR B1 CW Bu zR zR (AZ 0 zR) (O zR (EY (by simp;omega)) ?_)
 refine AP (vs:=[_,_]) (Hin:=[]) zR zR ⟨zR,zR,zT⟩ N3 zR zR (Ld (198-s.length) zO) ?_
 rintro _ _ ⟨rfl,rfl⟩
 refine⟨trivial,?_⟩
 refine O zR (EY (by simp;omega)) (J zR (J zR (U (AM ?_))))
 exact AU (E8 zR zR zR) (AV (M:=[]) ⟨by rw[if_neg h0];rfl,zR⟩ fun _ h=>h.skip [_])
 refine AP (vs:=[_,_]) (Hin:=[]) zR zR ⟨zR,zR,zT⟩ N3 zR zR (Ld (198-s.length) zO) ?_
 rintro _ _ ⟨rfl,rfl⟩
 refine⟨trivial,?_⟩
 refine RB [_,_] zR B1 CW Bu zR zR (AZ 0 zR) (O zR (EY (by simp;omega)) (O zR (EY (by simp;omega)) (J zR (J zR (U (AM ?_))))))
 exact AU (E8 zR zR zR) (AV (M:=[]) ⟨by rw[if_neg h0];rfl,zR⟩ fun _ h=>h.skip [_])
 refine AP (vs:=[_,_]) (Hin:=[]) zR zR ⟨zR,zR,zT⟩ N3 zR zR (Ld (198-s.length) zO) ?_
 rintro _ _ ⟨rfl,rfl⟩
 refine⟨trivial,?_⟩
 refine Bd [_,_] zR B1 Iv J7 ⟨zR,zR,zT⟩ zR zR zR (by simp[Value.cells]) zR zR (fun _=>trivial) fun b0=>?_
 refine RB [_,_] zR B1 CW Bu zR zR (AZ 0 zR) (O zR (EY (by simp;omega)) (O zR (EY (by simp;omega)) (J zR (J zR (U (AM ?_))))))
 exact AU (E8 zR zR zR) (AV (M:=[]) ⟨by rw[if_neg h0];rfl,zR⟩ fun _ h=>h.skip [_])
theorem Y7(b:List UInt8):BH Tryz.prog K w0 222 [vS b] [] H (fun r M=>r=.tuple #[vS (G7 b).1,vI (G7 b).2]∧M=[]):=by
 refine BH.enter Tryz.func222 rfl rfl ?_
 refine V (J zR (J zR (U (AD (V (E zR (BV zR Bu zR (O zR Bh (U ?_)))))))))
 refine AG zR (fun hc1=>?_) (fun hc1=>?_)
 have h0:b.length≠200:=by simp at hc1;omega
 have hu:G7 b=([],50):=by unfold G7;rw[if_pos h0]
 rw[hu]
 refine V (J zR (J zR (U (AM (Ab ?_)))))
 exact AU (E8 zR zR zR) (AV (M:=[]) ⟨zR,zR⟩ fun _ h=>h.skip [])
 have h0:b.length=200:=by simp at hc1;omega
 have e1:((b.getD 0 0).toNat:Int)*2^(min 8 64)=(((b.getD 0 0).toNat*256:Nat):Int):=by simp
 have hb0:=(b.getD 0 0).toNat_lt
 have hb1:=(b.getD 1 0).toNat_lt
 refine AH (AF (AD (Aj CJ [] (Pl.of [(true,0),(true,1),(true,2),(true,3),(true,4),(true,5),(true,6),(true,7),(true,8)]) zK (E zR (FW 0 zR Bu zR zR zO zO (As zR zR (Vk CW Ef) ?_))))))
 refine O zR (gh (n:=8) (by rw[e1];omega) (by rw[e1];omega)) ?_
 rw[e1]
 refine E zR (FW 1 zR Bu zR zR zO zO (As zR zR (Vk CW Ef) ?_))
 refine O zR (jK (a:=(b.getD 0 0).toNat*256) (b:=(b.getD 1 0).toNat) zO zO) ?_
 have e2:(b.getD 0 0).toNat*256 ||| (b.getD 1 0).toNat=H9 b:=by
  have:=Nat.shiftLeft_add_eq_or_of_lt (i:=8) (b:=(b.getD 1 0).toNat) zO (b.getD 0 0).toNat
  rw[Nat.shiftLeft_eq,show(2:Nat)^8=256 from rfl]at this
  unfold H9
  omega
 rw[e2]
 have hla:H9 b<65536:=by unfold H9;omega
 refine J zR (U (AD (V (E zR (O zR CD (U ?_))))))
 refine AG zR (fun hc2=>?_) (fun hc2=>?_)
 have h1:198<H9 b:=by simp at hc2;omega
 have hu:G7 b=([],50):=by unfold G7;rw[if_neg zO,if_pos h1]
 rw[hu]
 refine V (J zR (J zR (U (AM (Ab ?_)))))
 exact AU (E8 zR zR zR) (AV (M:=[]) ⟨zR,zR⟩ fun _ h=>h.skip [])
 have h1:¬198<H9 b:=by simp at hc2;omega
 refine AH (AF (V (J zR (U (AD (V (E zR (O zR (Cy zO zO) (E zR (U (AL ?_)))))))))))
 refine SX.mono (Ay (α:=Nat×UInt8) (fun x=>x.1≤198-H9 b∧(x.2=0↔∀j,j<x.1→b.getD (2+H9 b+j) 0=0)) (fun x=>[(0,vS b),(4,vI (H9 b)),(5,Cw x.2),(21,vI (198-(H9 b:Int))),(22,vI x.1)]) (fun x=>H) (fun x=>198-H9 b-x.1) (fun x D hp=>?_) (0,0) ⟨Nat.zero_le _,by simp⟩) tL
 obtain⟨i,x⟩:=x
 obtain⟨hi,hx⟩:=hp
 simp only at hi hx
 refine V (O zR Ao (U (AD ?_)))
 refine AG zR (fun hc3=>?_) (fun hc3=>?_)
 have hlt:i<198-H9 b:=by simp at hc3;omega
 refine AH (AF (AD (AL (V (E zR (J zR (U (AJ (E zR (E zR (E zR (O zR (BA zO zO) (E zR (O zR (BA zO zO) ?_))))))))))))))
 refine FW (2+H9 b+i) zR Bu zR zR zO zO (O zR bf (J zR (AS (Ai (AF (AJ (O zR (BA zO zO) (E zR (AS ?_)))))))))
 refine Ac (i+1,x ||| b.getD (2+H9 b+i) 0) ⟨hlt,?_⟩ (by simp only;omega) tL
 simp only
 rw[Xz,hx]
 constructor
 rintro⟨h1,h2⟩ j hj
 rcases Nat.lt_or_ge j i with h | h
 exact h1 j h
 obtain rfl:j=i:=by omega
 exact h2
 intro h
 exact⟨fun j hj=>h j zO,h i zO⟩
 have hie:i=198-H9 b:=by simp at hc3;omega
 subst hie
 refine Al (Aw (A9 (Au (AF (AD (V (E zR ?_)))))))
 refine O zR (ir (b:=0)) ?_
 refine U ?_
 refine AG zR (fun hc4=>?_) (fun hc4=>?_)
 have hu:G7 b=([],50):=by
  unfold G7
  rw[if_neg zO,if_neg h1,if_neg (fun hc=>by simp at hc4;exact hc4 (hx.2 hc))]
 rw[hu]
 refine V (J zR (J zR (U (AM (Ab ?_)))))
 exact AU (E8 zR zR zR) (AV (M:=[]) ⟨zR,zR⟩ fun _ h=>h.skip [])
 have hu:G7 b=((b.drop 2).take (H9 b),0):=by
  unfold G7
  rw[if_neg zO,if_neg h1,if_pos (show S5 b from hx.1 (by simpa using hc4))]
 rw[hu]
 refine AH (AF (V (E zR (E zR (O zR (BA zO zO) (U2 2 (2+H9 b) zR Bu zR zR zR zO zO zO zO (J zR (J zR (U (AM ?_))))))))))
 refine AU (E8 zR zR zR) (AV (M:=[]) ⟨?_,zR⟩ fun _ h=>h.skip [])
 rw[show 2+H9 b-2=H9 b by omega]
end

/- Walks of ChaCha20's words and of the state that a block begins with. Condition: texts of at most 2^39 bytes. -/
section
variable {K:Nat→Prop}{w0:World}{H:List AT}
def ny(x:UInt32):List Value:=[Z x]
theorem Zf{s:List UInt8}{j:Nat}(h:j<s.length / 4):(Bv s)[j]? = some (Ie s (4*j)):=by simp[Bv,h]
theorem bY(s:List UInt8)(hs:4≤s.length):BH Tryz.prog K w0 226 [vS s] [] H (fun r M=>r=Z (Ie s 0)∧M=[]):=by
 refine BH.enter Tryz.func226 rfl rfl ?_
 refine V (J zR (U (AD (Aj CJ [] (Pl.of [(true,0),(true,1),(true,2),(true,3),(true,4),(true,5),(true,6),(true,7),(true,8),(true,9),(true,10),(true,11),(true,12),(true,13),(true,14),(true,15),(true,16),(true,17),(true,18)]) zK (E zR (FW 0 zR Bu zR zR zO zO (As zR zR (DG CW Bg) (E zR (FW 1 zR Bu zR zR zO zO (As zR zR (DG CW Bg) ?_))))))))))
 refine O zR (D4.shl32 (n:=8)) ?_
 refine O zR DF (E zR (FW 2 zR Bu zR zR zO zO (As zR zR (DG CW Bg) ?_)))
 refine O zR (D4.shl32 (n:=16)) ?_
 refine O zR DF (E zR (FW 3 zR Bu zR zR zO zO (As zR zR (DG CW Bg) ?_)))
 refine O zR (D4.shl32 (n:=24)) ?_
 refine O zR DF (J zR (U (AM ?_)))
 exact AU (Co zR zR) (AV (M:=[]) ⟨zR,zR⟩ fun _ h=>h.skip [])
theorem Zq(ls:List (List UInt8))(bl bs:Nat)(hl:ls.length≤549755813888)(hls:∀s∈ls,s.length≤549755813888):iQ Tryz.prog K w0 225 [vP bl 0] [AI bl (.cells #[.slice (some ⟨bs,0,none⟩) ls.length ls.length] 22),AI bs (.cells (Cg vS ls) 9)] ny (ls.flatMap Bv):=by
 intro lp J9 X T1 hy G h0
 refine BH.enter Tryz.func225 rfl rfl ?_
 refine V (AC 0 Ns zR (L4 zR DU zR (E zR (U (AL ?_)))))
 refine SX.mono (Ay (α:=Nat×List AT) (fun x=>x.1≤ls.length∧J9 ((ls.take x.1).flatMap Bv) x.2) (fun x=>[(0,vY lp),(5,.slice (some ⟨bs,0,none⟩) ls.length ls.length),(6,vI ls.length),(7,vI x.1)]) (fun x=>AI bl (.cells #[.slice (some ⟨bs,0,none⟩) ls.length ls.length] 22)::AI bs (.cells (Cg vS ls) 9)::(x.2++T1)) (fun x=>ls.length-x.1) (fun x D hp=>?_) (0,G) ⟨Nat.zero_le _,h0⟩) tL
 obtain⟨i,G⟩:=x
 obtain⟨hi,hJ⟩:=hp
 simp only at hi hJ
 refine V (O zR Ao (U (AD ?_)))
 refine AG zR (fun hc1=>?_) (fun hc1=>?_)
 have hlt:i<ls.length:=by simpa using hc1
 obtain⟨s,hs⟩:=NA hlt
 have hsl:=hls s (List.mem_of_getElem? hs)
 have hsplit:=D9 hs
 refine AH (AF (AD (AL (V ?_))))
 refine nB (n:=i) zR DU Gn zR zR zO zO ?_
 refine BR zR EZ zR (CK 1 zR (D3 hs)) (J zR (U (AL ?_)))
 refine SX.mono (Ay (α:=Nat×List AT) (fun x=>x.1≤s.length / 4∧J9 ((ls.take i).flatMap Bv++(Bv s).take x.1) x.2) (fun x=>[(0,vY lp),(4,vS (s.drop (4*x.1))),(5,.slice (some ⟨bs,0,none⟩) ls.length ls.length),(6,vI ls.length),(7,vI i)]) (fun x=>AI bl (.cells #[.slice (some ⟨bs,0,none⟩) ls.length ls.length] 22)::AI bs (.cells (Cg vS ls) 9)::(x.2++T1)) (fun x=>s.length / 4-x.1) (fun x D hp=>?_) (0,G) ⟨Nat.zero_le _,by simpa using hJ⟩) tL
 obtain⟨j,G⟩:=x
 obtain⟨hj,hJ2⟩:=hp
 simp only at hj hJ2
 refine AD (V (E zR (BV zR Bu zR (O zR LN (U ?_)))))
 refine AG zR (fun hc2=>?_) (fun hc2=>?_)
 have hjlt:j<s.length / 4:=by simp at hc2;omega
 have hw:=Zf hjlt
 have hws:=D9 hw
 refine AH (AF (AD (AL (V (E zR (E zR ?_))))))
 refine AP (vs:=[_]) (Hin:=[]) zR zR ⟨zR,zT⟩ mr zR zR (bY (s.drop (4*j)) (by simp;omega)) ?_
 rintro _ _ ⟨rfl,rfl⟩
 refine⟨trivial,?_⟩
 rw[Zp,Nat.add_zero]
 refine HX (M2:=[_,_]) (G:=G) (T:=T1) (vs:=[_]) (ok:=fun G1=>J9 ((ls.take i).flatMap Bv++(Bv s).take (j+1)) G1) (no:=X) zR zR ⟨zR,zT⟩ zR ?_ (fun bb G1 hG1=>⟨zT,?_⟩)
 intro M
 have e1:ls.flatMap Bv=((ls.take i).flatMap Bv++(Bv s).take j)++Ie s (4*j)::((Bv s).drop (j+1)++(ls.drop (i+1)).flatMap Bv):=by
  have h1:ls.flatMap Bv=(ls.take i).flatMap Bv++(Bv s++(ls.drop (i+1)).flatMap Bv):=by
   rw[←List.flatMap_cons,←List.flatMap_append,←hsplit.1]
  have h2:Bv s++(ls.drop (i+1)).flatMap Bv=(Bv s).take j++Ie s (4*j)::((Bv s).drop (j+1)++(ls.drop (i+1)).flatMap Bv):=by
   rw[←List.cons_append,←List.append_assoc,←hws.1]
  rw[h1,h2,List.append_assoc]
 have:=hy _ _ _ e1 G hJ2 M
 rw[List.append_assoc,←hws.2]at this
 exact this
 refine B9 zR zR (U ?_)
 refine AG zR (fun hc3=>?_) (fun hc3=>?_)
 obtain rfl:bb=false:=by simpa using hc3
 refine AM (BM (Ab (DD (BM (BM (Ab (DD (BM ?_))))))))
 exact AU (C7 zR) (AV (M:=G1) (.inr hG1) fun _ h=>h.skip [_,_])
 obtain rfl:bb=true:=by simpa using hc3
 refine AH (Ai (AF (AJ (E zR (MA 4 zR Bu zR zR zO (by simp;omega) ?_)))))
 rw[List.drop_drop,show 4*j+4=4*(j+1) by omega]
 refine J zR (AS ?_)
 exact Ac (j+1,G1) ⟨hjlt,hG1⟩ (by simp only;omega) tL
 have hje:j=s.length / 4:=by simp at hc2;omega
 refine Al (Aw (A9 (Au (Ai (AF (AJ (O zR (BA zO zO) (E zR (AS ?_)))))))))
 refine Ac (i+1,G) ⟨hlt,?_⟩ (by simp only;omega) tL
 simp only
 rw[hsplit.2,List.flatMap_append,List.flatMap_cons,List.flatMap_nil,List.append_nil]
 have ht:(Bv s).take j=Bv s:=List.take_of_length_le (by rw[DR];omega)
 rw[ht]at hJ2
 exact hJ2
 have hle:i=ls.length:=by simp at hc1;omega
 refine Al (Aw (A9 (Au ?_)))
 exact CQ (C7 zR) (AV (M:=G) (.inl (by rw[hle,List.take_length]at hJ;exact hJ)) fun _ h=>h.skip [_,_])
theorem Yl(ls:List (List UInt8))(bs:Nat):BH Tryz.prog K w0 212 [.slice (some ⟨bs,0,none⟩) ls.length ls.length] [AI bs (.cells (Cg vS ls) 9)] H (fun r M=>∃bl,r=.func (.func 225) #[] #[vP bl 0]∧M=[AI bl (.cells #[.slice (some ⟨bs,0,none⟩) ls.length ls.length] 22),AI bs (.cells (Cg vS ls) 9)]):=by
 refine BH.enter Tryz.func212 rfl rfl ?_
 refine V ?_
 refine BU zR zR (fun _=>trivial) fun b0=>?_
 refine J zR (U (V ?_))
 refine GD (fv:=#[]) (cv:=#[_]) zR zR zR ?_
 refine J zR (U (AM ?_))
 exact AU (Co zR zR) (AV (M:=[_,_]) ⟨b0,zR,zR⟩ fun _ h=>h)
theorem ZP(key nonce:List UInt8)(counter:UInt32)(hk:key.length=32)(hn:nonce.length=12):BH Tryz.prog K w0 189 [vS key,Z counter,vS nonce] [] H (fun r M=>r=.agg (Cg Z (GR key counter nonce))∧M=[]):=by
 refine BH.enter Tryz.func189 rfl rfl ?_
 refine V ?_
 refine Ah zR aC (fun _=>trivial) fun b0=>?_
 refine U (JL (V ?_))
 refine Ah zR aC (fun _=>trivial) fun b1=>?_
 refine U (V ?_)
 refine Ah zR nD (fun _=>trivial) fun b2=>?_
 refine Am 0 zR zR zR zR La zR zR zR zT (U (V (E zR (As zR zR (CN Bg CW) (E zR ?_)))))
 refine O zR (D4.shr32 (n:=8)) ?_
 refine As zR zR (CN Bg CW) (E zR ?_)
 refine O zR (D4.shr32 (n:=16)) ?_
 refine As zR zR (CN Bg CW) (E zR ?_)
 refine O zR (D4.shr32 (n:=24)) ?_
 refine As zR zR (CN Bg CW) ?_
 refine Bd [_,_,_,_] zR B1 Iv J7 ⟨zR,zR,zR,zR,zT⟩ zR zR zR (by simp[Value.cells]) zR zR (fun _=>trivial) fun b3=>?_
 refine RB [_,_,_,_] zR B1 CW Bu zR zR (AZ 0 zR) (J zR (U (AD (JS (AF (AD (V (E zR (E zR (E zR ?_))))))))))
 refine Bd [_,_,_,_] zR DU Gn OM ⟨zR,zR,zR,zR,zT⟩ zR zR zR (by simp[Value.cells]) zR zR (fun _=>trivial) fun b4=>?_
 refine AP (vs:=[_]) (Hin:=[_]) zR zR ⟨zR,zT⟩ mI zR zR (Yl [Ix,key,E3 counter,nonce] b4) ?_
 rintro _ _ ⟨bl,rfl,rfl⟩
 refine⟨trivial,?_⟩
 refine U ?_
 have hbl:=K3 (counter:=counter) hk hn
 have hfm:[Ix,key,E3 counter,nonce].flatMap Bv=GR key counter nonce:=by simp[GR,List.flatMap_cons]
 refine AL ?_
 refine OT (enc:=ny) ([Ix,key,E3 counter,nonce].flatMap Bv) (fun pre G=>G=AI b3 (.cells (Cg Cw (E3 counter)) 5)::AI b2 (.cells #[vI pre.length] 3)::AI b1 (.cells (Cg Z (pre++List.replicate (16-pre.length) 0)) 265)::AI b0 (.cells (Cg Z (List.replicate 16 0)) 265)::H) (fun c G=>False) zR mA zR (fun _=>rfl) (Zq [Ix,key,E3 counter,nonce] bl b4 zS (by simp[hk,hn,Ix,E3])) zR zR (fun pre x suf G hxs hJ r lp Rest=>?_) (fun G D hJ=>?_) (fun c G D hX=>hX.elim)
 obtain rfl:=hJ
 have hlt:pre.length<16:=by
  rw[hfm]at hxs
  rw[hxs]at hbl
  simp at hbl
  omega
 refine AJ (J zR (AS (KL (AL (AD (V (AC 1 DT zR (O zR Bq (U ?_)))))))))
 refine AG zR (fun hc1=>absurd hc1 (by simp;omega)) (fun hc1=>?_)
 refine AH (AF (V (AC 1 DT zR (E zR ?_))))
 refine CO (n:=pre.length) zR N6 BQ zR zR zO zO ?_
 refine TM (f:=Z) 2 zR zR zR zR BQ zR zR (by simp;omega) zT ?_
 rw[Q3 pre 0 x 16 pre.length rfl hlt]
 refine U (AJ (AC 1 DT zR (O zR (BA zO zO) (Am 1 zR zR zR zR La zR zR zR zT (AS (Ai ?_))))))
 refine HK (G:=_::_::_::_::H) ?_ (fun _ h=>h)
 have e1:(pre++[x]).length=pre.length+1:=by simp
 rw[e1]
 rfl
 obtain rfl:=hJ
 rw[hfm,hbl]
 have e1:GR key counter nonce++List.replicate (16-16) 0=GR key counter nonce:=by simp
 rw[e1]
 refine Ai (AF (V ?_))
 refine Aa ((GR key counter nonce).map Z) zR dd (by simp[hbl]) zR (CG 2 zR (fun j u hu=>by simpa[Cg]using hu)) ?_
 refine Mg 3 zR zR zR zR je (by simp[hbl]) (by simp[Cg]) (L9 (fun _=>rfl) (GR key counter nonce)) zT ?_
 refine U (AM (EN ?_))
 exact AU (Dx zR (BG 3 ((GR key counter nonce).map Z) dd (by simp[hbl]) zR zR (by simp only[List.drop_zero];exact List.take_of_length_le (by simp[hbl])))) (AV (M:=[]) ⟨zR,zR⟩ fun _ h=>h.skip [_,_,_,_])
end

/- Walks of ChaCha20's quarter turns and rounds. Condition: none but the sizes stated. -/
section
variable {K:Nat→Prop}{w0:World}{H:List AT}
theorem iY:∀n:Fin 32,(BK (n.1:Int) &&& 31).toNat=n.1∧(32-(BK (n.1:Int) &&& 31)).toNat=32-n.1:=by decide
theorem YZ(x:UInt32)(n:Nat)(h1:n<32):S6 x (n:Int)=rl x n:=by
 obtain⟨e1,e2⟩:=iY ⟨n,h1⟩
 simp only at e1 e2
 unfold S6 rl
 rw[e1,e2]
theorem ig:∀i,Yo i<32 | 0=>(by decide:16<32) | _+1=>(by decide:8<32)
theorem gq:∀i,aP i<32 | 0=>(by decide:12<32) | _+1=>(by decide:7<32)
theorem QD(q:Q4):BH Tryz.prog K w0 213 [Z q.a,Z q.b,Z q.c,Z q.d] [] H (fun r M=>r=.agg (Cg Z q.quarter.list)∧M=[]):=by
 refine BH.enter Tryz.func213 rfl rfl ?_
 refine V ?_
 refine Ah zR P9 (fun _=>trivial) fun b0=>?_
 refine U (AD (V (Qk [vI 16,vI 12] zR Zh La dz zR ⟨zR,zR,zT⟩ zR zR (by simp[Value.cells]) (Qk [vI 8,vI 7] zR Zh La dz zR ⟨zR,zR,zT⟩ zR zR (by simp[Value.cells]) ?_))))
 refine BL (r:=#[vI 16,vI 12,vI 8,vI 7]) [_,_] zR pA pT pi ⟨zR,zR,zT⟩ zR ?_
 refine E zR (U (AL ?_))
 refine SX.mono (Ay (α:=Nat) (fun i=>i≤2) (fun i=>[(0,Z (q.steps i).a),(1,Z (q.steps i).b),(2,Z (q.steps i).c),(3,Z (q.steps i).d),(8,vP b0 0),(13,.agg #[vI 16,vI 12,vI 8,vI 7]),(14,vI i)]) (fun i=>AI b0 (.cells (Cg Z [0,0,0,0]) 288)::H) (fun i=>2-i) (fun i D hp=>?_) 0 zO) tL
 refine V (O zR Ao (U (AD ?_)))
 refine AG zR (fun hc1=>?_) (fun hc1=>?_)
 have hi:i<2:=by simp at hc1;omega
 refine AH (AF (AD (AL (V ?_))))
 refine Qd (i:=i) (c':=#[vI (Yo i:Int),vI (aP i:Int)]) rfl oX oF rfl rfl zO zO (by rcases(by omega:i=0∨i=1)with rfl | rfl<;>rfl) ?_
 refine Ah zR dz (fun _=>trivial) fun b1=>?_
 refine Am 0 zR zR zR zR pH zR zR zR zT (U (V (E zR (E zR (O zR BZ (J zR (U (V (E zR (E zR (O zR B5 ?_)))))))))))
 refine CO (n:=0) zR Zh La zR zR zO zO ?_
 refine AC 0 DT zR ?_
 refine AP (vs:=[_,_]) (Hin:=[]) zR zR ⟨zR,zR,zT⟩ ZS zR zR (GL _ (Yo i:Int)) ?_
 rintro _ _ ⟨rfl,rfl⟩
 refine⟨trivial,?_⟩
 rw[YZ _ _ (ig i)]
 refine J zR (U (V (E zR (E zR (O zR BZ (J zR (U (AJ (E zR (E zR (O zR B5 ?_)))))))))))
 refine CO (n:=1) zR Zh La zR zR zO zO ?_
 refine AC 0 DT zR ?_
 refine AP (vs:=[_,_]) (Hin:=[]) zR zR ⟨zR,zR,zT⟩ ZS zR zR (GL _ (aP i:Int)) ?_
 rintro _ _ ⟨rfl,rfl⟩
 refine⟨trivial,?_⟩
 rw[YZ _ _ (gq i)]
 refine J zR (AS (Ai (AF (AJ (O zR (BA zO zO) (E zR (AS ?_)))))))
 exact Ac (i+1) zO zO tL (fun w hw=>hw.skip [_])
 have hi:i=2:=by simp at hc1;omega
 subst hi
 refine Al (Aw (A9 (Au (AF (V (E zR (E zR (E zR (E zR ?_)))))))))
 refine Qk (q.quarter.list.map Z) rfl OJ BQ P9 rfl ⟨rfl,rfl,rfl,rfl,trivial⟩ rfl rfl (fun v hv=>by obtain⟨x,_,rfl⟩:=List.mem_map.1 hv;rfl) ?_
 refine Mg 0 zR zR zR zR Tw zR zR (L9 (fun _=>rfl) q.quarter.list) zT ?_
 refine U (AM ?_)
 exact AU (Dx zR (BG 0 (q.quarter.list.map Z) dX zR zR zR zR)) (AV (M:=[]) ⟨zR,zR⟩ fun _ h=>h.skip [_])
theorem Sj(ws:List UInt32)(step:Nat)(b:Nat)(e:TypeId)(hw:ws.length=16)(hs:step≤1):BH Tryz.prog K w0 190 [vP b 0,vI step] [AI b (.cells (Cg Z ws) e)] H (fun r M=>r=.tuple #[]∧M=[AI b (.cells (Cg Z (Sz ws step)) e)]):=by
 refine BH.enter Tryz.func190 rfl rfl ?_
 refine V (E zR (U (AL ?_)))
 refine SX.mono (Ay (α:=Nat) (fun i=>i≤4) (fun i=>[(0,vP b 0),(1,vI step),(10,vI i)]) (fun i=>AI b (.cells (Cg Z (Ct ws step i)) e)::H) (fun i=>4-i) (fun i D hp=>?_) 0 zO) tL
 have hwl:(Ct ws step i).length=16:=(I9 ws step i).trans hw
 refine V (O zR Ao (U (AD ?_)))
 refine AG zR (fun hc1=>?_) (fun hc1=>?_)
 have hi:i<4:=by simp at hc1;omega
 have h16:∀k,k<4→Gy step i k<16:=fun k hk=>by unfold Gy;omega
 refine AH (AF (AD (AL (V (E zR (J zR (U (V ?_))))))))
 refine Ah zR pO (fun _=>trivial) fun b0=>?_
 refine U (AD (V (E zR (U (AL ?_)))))
 refine SX.mono (Ay (α:=Nat) (fun k=>k≤4) (fun k=>[(0,vP b 0),(1,vI step),(4,vI i),(5,vP b0 0),(10,vI i),(13,vI k)]) (fun k=>AI b0 (.cells (Cg vI (((List.range k).map fun j=>((Gy step i j:Nat):Int))++List.replicate (4-k) 0)) 287)::AI b (.cells (Cg Z (Ct ws step i)) e)::H) (fun k=>4-k) (fun k D hp=>?_) 0 zO) tL
 refine V (O zR Ao (U (AD ?_)))
 refine AG zR (fun hc2=>?_) (fun hc2=>?_)
 have hk:k<4:=by simp at hc2;omega
 have hks:k*step≤3:=Nat.le_trans (Nat.mul_le_mul_left k hs) zO
 have hks2:((k:Int)*step)=((k*step:Nat):Int):=by simp
 refine AH (AF (AD (AL (V (E zR (J zR (U (AJ (E zR (E zR (O zR (JR zO zO) (E zR (E zR (E zR ?_))))))))))))))
 refine O zR (JR zO zO) (O zR (BA zO zO) (O zR (Tj zO zO) (O zR (BA zO zO) ?_)))
 refine CO (n:=k) zR Ta La zR zR zO zO ?_
 refine TM (f:=vI) 0 zR zR zR zR La zR zR (by simp;omega) zT ?_
 rw[Q3 _ _ _ 4 k zS hk]
 refine AS (Ai (AF (AJ (O zR (BA zO zO) (E zR (AS ?_))))))
 refine Ac (k+1) zO zO tL (fun w hw=>?_)
 have e1:(4*(k:Int)+((i:Int)+(k:Int)*step)%4)=((Gy step i k:Nat):Int):=by simp[Gy]
 simp only[List.range_succ,List.map_append,List.map_cons,List.map_nil]
 rw[e1]at hw
 exact hw
 have hk:k=4:=by simp at hc2;omega
 subst hk
 have hat:((List.range 4).map fun j=>((Gy step i j:Nat):Int))++List.replicate (4-4) 0=[((Gy step i 0:Nat):Int),((Gy step i 1:Nat):Int),((Gy step i 2:Nat):Int),((Gy step i 3:Nat):Int)]:=by rfl
 rw[hat]
 refine Al (Aw (A9 (Au (AF ?_))))
 generalize hq:(⟨(Ct ws step i).getD (Gy step i 0) 0,(Ct ws step i).getD (Gy step i 1) 0,(Ct ws step i).getD (Gy step i 2) 0,(Ct ws step i).getD (Gy step i 3) 0⟩:Q4)=q
 refine Wf (α:=Nat) (fun _=>True) (fun x=>[(0,vP b 0),(1,vI step),(5,vP b0 0),(7,vP x 0),(10,vI i)]) (fun x=>AI x (.cells (Cg Z q.quarter.list) 288)::AI b0 (.cells (Cg vI [((Gy step i 0:Nat):Int),((Gy step i 1:Nat):Int),((Gy step i 2:Nat):Int),((Gy step i 3:Nat):Int)]) 287)::AI b (.cells (Cg Z (Ct ws step i)) e)::H) ?_ (fun x hx=>?_)
 refine Aj CJ [0,1] (BY [(true,0),(true,1),(true,2),(true,3),(true,4),(true,5),(true,6),(true,7),(true,8),(true,9),(true,10),(true,11),(true,12),(true,13),(true,14),(true,15),(true,16),(true,17),(true,18),(true,19),(true,20),(true,21),(true,22),(true,23)] (.alt 24 (Pl.of [(false,25),(false,26)]) (.cons (false,25) (Pl.of [(false,24),(false,26)])))) zK (E zR ?_)
 refine CO (n:=0) zR Ta La zR zR zO zO ?_
 refine AC 0 DT zR (AW zR zR ?_)
 refine CO (n:=Gy step i 0) zR N6 BQ zR zR zR (h16 _ zO) ?_
 refine BR zR Az zR (CK 1 zR (D3 (IL 0 (by rw[hwl];exact h16 _ zO)))) (E zR ?_)
 refine CO (n:=1) zR Ta La zR zR zO zO ?_
 refine AC 0 DT zR (AW zR zR ?_)
 refine CO (n:=Gy step i 1) zR N6 BQ zR zR zR (h16 _ zO) ?_
 refine BR zR Az zR (CK 1 zR (D3 (IL 0 (by rw[hwl];exact h16 _ zO)))) (E zR ?_)
 refine CO (n:=2) zR Ta La zR zR zO zO ?_
 refine AC 0 DT zR (AW zR zR ?_)
 refine CO (n:=Gy step i 2) zR N6 BQ zR zR zR (h16 _ zO) ?_
 refine BR zR Az zR (CK 1 zR (D3 (IL 0 (by rw[hwl];exact h16 _ zO)))) (E zR ?_)
 refine CO (n:=3) zR Ta La zR zR zO zO ?_
 refine AC 0 DT zR (AW zR zR ?_)
 refine CO (n:=Gy step i 3) zR N6 BQ zR zR zR (h16 _ zO) ?_
 refine BR zR Az zR (CK 1 zR (D3 (IL 0 (by rw[hwl];exact h16 _ zO)))) ?_
 refine LF ?_ ?_
 refine AP (vs:=[_,_,_,_]) (Hin:=[]) zR zR ⟨zR,zR,zR,zR,zT⟩ fJ (by rw[←hq];rfl) zR (QD q) ?_
 rintro _ _ ⟨rfl,rfl⟩
 refine⟨⟨⟨0,rfl⟩,⟨1,rfl⟩,trivial⟩,?_⟩
 refine Ah zR P9 (fun _=>⟨⟨1,zR⟩,⟨2,zR⟩,zT⟩) fun b1=>?_
 refine Mg 0 zR zR zR zR Tw zR zR (L9 (fun _=>rfl) q.quarter.list) ⟨⟨1,zR⟩,⟨2,zR⟩,zT⟩ ?_
 refine AS ?_
 exact Q6 b1 zT tL
 refine Ah zR P9 (fun _=>⟨⟨1,zR⟩,⟨2,zR⟩,zT⟩) fun b1=>?_
 refine AP (vs:=[_,_,_,_]) (Hin:=[]) zR zR ⟨zR,zR,zR,zR,zT⟩ fJ (by rw[←hq];rfl) zR (QD q) ?_
 rintro _ _ ⟨rfl,rfl⟩
 refine⟨⟨⟨1,rfl⟩,⟨2,rfl⟩,trivial⟩,?_⟩
 refine Mg 0 zR zR zR zR Tw zR zR (L9 (fun _=>rfl) q.quarter.list) ⟨⟨1,zR⟩,⟨2,zR⟩,zT⟩ ?_
 refine AS ?_
 exact Q6 b1 zT tL
 
 refine V (Aa (q.quarter.list.map Z) zR dX zR zR (AZ 0 zR) (E zR (U (AL ?_))))
 refine SX.mono (Ay (α:=Nat) (fun k=>k≤4) (fun k=>[(0,vP b 0),(1,vI step),(5,vP b0 0),(10,vI i),(53,.agg (Cg Z q.quarter.list)),(54,vI k)]) (fun k=>AI x (.cells (Cg Z q.quarter.list) 288)::AI b0 (.cells (Cg vI [((Gy step i 0:Nat):Int),((Gy step i 1:Nat):Int),((Gy step i 2:Nat):Int),((Gy step i 3:Nat):Int)]) 287)::AI b (.cells (Cg Z (Rx (Ct ws step i) (Gy step i) q.quarter.list k)) e)::H) (fun k=>4-k) (fun k D hp=>?_) 0 zO) tL
 refine V (O zR Ao (U (AD ?_)))
 refine AG zR (fun hc3=>?_) (fun hc3=>?_)
 have hk:k<4:=by simp at hc3;omega
 have hix:[((Gy step i 0:Nat):Int),((Gy step i 1:Nat):Int),((Gy step i 2:Nat):Int),((Gy step i 3:Nat):Int)][k]? = some ((Gy step i k:Nat):Int):=by
  rcases(by omega:k=0∨k=1∨k=2∨k=3)with rfl | rfl | rfl | rfl<;>rfl
 have hsl:(Rx (Ct ws step i) (Gy step i) q.quarter.list k).length=16:=(OH ..).trans hwl
 refine AH (AF (AD (AL (V (E zR ?_)))))
 refine Mf (i:=k) zR OJ Az zR zR zO zO (D3 (IL 0 hk)) ?_
 refine J zR (J zR (U (Aj CJ [1] (BY [(true,0),(true,1),(true,2),(true,3),(true,4),(true,5),(true,6)] (.last 7 .nil)) zK (E zR (E zR ?_)))))
 refine CO (n:=k) zR Ta La zR zR zO zO ?_
 refine BR zR DT zR (CK 0 zR (D3 hix)) (E zR (AW zR zR ?_))
 refine CO (n:=Gy step i k) zR N6 BQ zR zR zR (h16 _ hk) ?_
 refine BE ?_
 refine TM (f:=Z) 2 zR zR zR zR BQ zR zR (by rw[hsl];exact h16 _ hk) zT ?_
 refine AS (Ai (AF (AJ (O zR (BA zO zO) (E zR (AS ?_))))))
 exact Ac (k+1) zO zO tL
 have hk:k=4:=by simp at hc3;omega
 subst hk
 refine Al (Aw (A9 (Au (Ai (AF (AJ (O zR (BA zO zO) (E zR (AS ?_)))))))))
 refine Ac (i+1) zO zO tL (fun w hw=>?_)
 have e1:Rx (Ct ws step i) (Gy step i) q.quarter.list 4=Ct ws step (i+1):=by rw[Ct,gt,hq]
 rw[e1]at hw
 exact hw.skip [_,_]
 have hi:i=4:=by simp at hc1;omega
 subst hi
 refine Al (Aw (A9 (Au ?_)))
 exact CQ (C7 zR) (AV (M:=[_]) ⟨zR,zR⟩ fun _ h=>h)
end

/- Walks of ChaCha20's block, and of a text under the stream. Condition: a key of 32 bytes, a nonce of 12, texts of at most 2^20 bytes. -/
section
variable {K:Nat→Prop}{w0:World}{H:List AT}
theorem gZ(W B:List UInt32)(i:Nat)(h1:i<W.length)(h2:i<B.length):(List.zipWith (·+·) W B).take (i+1)=(List.zipWith (·+·) W B).take i++[W.getD i 0+B.getD i 0]:=by
 rw[List.take_add_one,List.getElem?_eq_getElem (by simp;omega)]
 simp[List.getD_eq_getElem?_getD,h1,h2]
theorem bj(j:Nat):UInt32.ofNat j+1=UInt32.ofNat (j+1):=by
 apply UInt32.toNat_inj.1
 simp
theorem dD(key nonce s:List UInt8)(n:Nat)(h:n<s.length):(GI key nonce s).take (n+1)=(GI key nonce s).take n++[s.getD n 0 ^^^ M6 key nonce n]:=by
 rw[List.take_add_one,List.getElem?_eq_getElem (by rw[EG];exact h)]
 simp[GI]
theorem aB(key nonce:List UInt8)(counter:UInt32)(hk:key.length=32)(hn:nonce.length=12):BH Tryz.prog K w0 150 [vS key,Z counter,vS nonce] [] H (fun r M=>r=.tuple #[vS (Il key counter nonce),vI 0]∧M=[]):=by
 refine BH.enter Tryz.func150 rfl rfl ?_
 refine V (J zR (J zR (U (AD (V (E zR (BV zR Bu zR (O zR Bh (E zR ?_)))))))))
 refine C1 (c:=(!decide ((nonce.length:Int)=12))) 16 4 20 zR (fun hb k=>?_) (fun hb k=>?_) ?_
 refine AA zR (AA zR (AA zR (Ad zR zR zR ?_)))
 exact k.mono tL
 refine E zR (BV zR Bu zR (O zR Bh (Ad zR zR zR ?_)))
 exact k.mono tL
 refine U ?_
 refine AG zR (fun hc1=>absurd hc1 (by simp[hk,hn])) (fun hc1=>?_)
 refine AH (AF (V (E zR (E zR (E zR ?_)))))
 refine AP (vs:=[_,_,_]) (Hin:=[]) zR zR ⟨zR,zR,zR,zT⟩ nL zR zR (ZP key nonce counter hk hn) ?_
 rintro _ _ ⟨rfl,rfl⟩
 refine⟨trivial,?_⟩
 have hB:=K3 (counter:=counter) hk hn
 generalize hBe:GR key counter nonce=B at hB
 refine Ah zR aC (fun _=>trivial) fun b0=>?_
 refine Mg (c':=Cg Z B) 0 zR zR zR zR je (by rw[Qo];exact hB) zR (L9 (fun _=>rfl) B) zT ?_
 refine U (V ?_)
 refine Ah zR aC (fun _=>trivial) fun b1=>?_
 refine U (AD (Aj CJ [] (BY [(true,0),(true,1)] (.last 2 .nil)) zK (fM zR N6 BQ zR zD (fM zR N6 BQ zR zD (BE ?_)))))
 refine lm (f:=Z) (xs:=List.replicate 16 0) (ys:=B) 0 1 zR Bz BQ zR zR zR zR zR hB (fun _=>rfl) zT ?_
 refine U (AD (V (E zR (U (AL ?_)))))
 refine SX.mono (Ay (α:=Nat) (fun i=>i≤10) (fun i=>[(8,vP b0 0),(9,vP b1 0),(28,vI i)]) (fun i=>AI b1 (.cells (Cg Z (QQ B i)) 265)::AI b0 (.cells (Cg Z B) 265)::H) (fun i=>10-i) (fun i D hp=>?_) 0 zO) tL
 have htl:=(LC B i).trans hB
 refine V (O zR Ao (U (AD ?_)))
 refine AG zR (fun hc2=>?_) (fun hc2=>?_)
 have hi:i<10:=by simp at hc2;omega
 refine AH (AF (AD (AL (V ?_))))
 refine AP (vs:=[_,_]) (Hin:=[_]) zR zR ⟨zR,zR,zT⟩ f8 zR zR (Sj (QQ B i) 0 b1 265 htl zO) ?_
 rintro _ _ ⟨rfl,rfl⟩
 refine⟨trivial,?_⟩
 refine U (AJ ?_)
 refine AP (vs:=[_,_]) (Hin:=[_]) zR zR ⟨zR,zR,zT⟩ f8 zR zR (Sj (Sz (QQ B i) 0) 1 b1 265 ((I9 ..).trans htl) zO) ?_
 rintro _ _ ⟨rfl,rfl⟩
 refine⟨trivial,?_⟩
 refine AS (Ai (AF (AJ (O zR (BA zO zO) (E zR (AS ?_))))))
 exact Ac (i+1) zO zO tL
 have hi:i=10:=by simp at hc2;omega
 subst hi
 generalize hW:QQ B 10=W at htl
 refine Al (Aw (A9 (Au (AF (V (J zR (U (AD (V (Aa (W.map Z) zR dd (by simp[htl]) zR (AZ 0 zR) (E zR (U (AL (Hw 5 1 ?_))))))))))))))
 refine SX.mono (Ay (α:=Nat×Value) (fun x=>x.1≤16) (fun x=>[(8,vP b0 0),(10,x.2),(33,.agg (Cg Z W)),(34,vI x.1)]) (fun x=>Ci 5 1 x.2 (4*x.1) ((((List.zipWith (·+·) W B).take x.1).flatMap E3).map fun b=>Cw b)::AI b1 (.cells (Cg Z W) 265)::AI b0 (.cells (Cg Z B) 265)::H) (fun x=>16-x.1) (fun x D hp=>?_) (0,.slice none 0 0) zD) tL
 obtain⟨i,v⟩:=x
 simp only at hp
 refine V (O zR Ao (U (AD ?_)))
 refine AG zR (fun hc3=>?_) (fun hc3=>?_)
 have hi:i<16:=by simp at hc3;omega
 refine AH (AF (AD (AL (V (E zR ?_)))))
 refine Mf (i:=i) zR N6 Az zR zR zO zO (D3 (IL 0 zO)) ?_
 refine J zR (J zR (U (V (E zR (E zR ?_)))))
 refine CO (n:=i) zR N6 BQ zR zR zO zO ?_
 refine BR zR Az zR (CK 2 zR (D3 (IL 0 zO))) (O zR BZ (J zR (U (AJ (E zR (E zR (As zR zR (CN Bg CW) (E zR ?_))))))))
 refine O zR (D4.shr32 (n:=8)) ?_
 refine As zR zR (CN Bg CW) (E zR ?_)
 refine O zR (D4.shr32 (n:=16)) ?_
 refine As zR zR (CN Bg CW) (E zR ?_)
 refine O zR (D4.shr32 (n:=24)) ?_
 refine As zR zR (CN Bg CW) ?_
 refine Bd [_,_,_,_] zR B1 Iv J7 ⟨zR,zR,zR,zR,zT⟩ zR zR zR (by simp[Value.cells]) zR zR (fun _=>trivial) fun b2=>?_
 refine TE 1 rfl (m:=4) (news:=(E3 (W.getD i 0+B.getD i 0)).map fun b=>Cw b) B1 Iv Uy J7 rfl zD rfl rfl rfl rfl (AZ 0 rfl) (by intro u hu;obtain⟨x,_,rfl⟩:=List.mem_map.1 hu;rfl) zO zO (fun _=>trivial) fun v'=>?_
 refine J zR (AS (Ai (AF (AJ (O zR (BA zO zO) (E zR (AS ?_)))))))
 refine Ac (i+1,v') (by simp only;omega) (by simp only;omega) tL (fun w hw=>?_)
 simp only
 rw[gZ W B i zO zO,List.flatMap_append,List.map_append]
 simp only[List.flatMap_cons,List.flatMap_nil,List.append_nil]
 exact hw.skip [_]
 have hi:i=16:=by simp at hc3;omega
 subst hi
 have ht:(List.zipWith (·+·) W B).take 16=List.zipWith (·+·) W B:=List.take_of_length_le (by simp;omega)
 rw[ht]
 refine Al (Aw (A9 (Au (AF (V (E zR ?_))))))
 refine Wl (s:=(List.zipWith (·+·) W B).flatMap E3) 0 zR B1 CW Bu zR zR ?_
 refine J zR (J zR (U (AM ?_)))
 exact AU (E8 zR zR zR) (AV (M:=[]) ⟨by rw[Il,fC,hBe,hW],zR⟩ fun _ h=>h.skip [_,_,_])
theorem WR(key nonce s:List UInt8)(hk:key.length=32)(hn:nonce.length=12)(hs:s.length≤1048576):BH Tryz.prog K w0 109 [vS key,vS nonce,vS s] [] H (fun r M=>r=.tuple #[vS (GI key nonce s),vI 0]∧M=[]):=by
 refine BH.enter Tryz.func109 rfl rfl ?_
 refine V (J zR (J zR (U (AD (V (E zR (BV zR Bu zR (O zR Bh (E zR ?_)))))))))
 refine C1 (c:=(!decide ((nonce.length:Int)=12))) 17 4 21 zR (fun hb k=>?_) (fun hb k=>?_) ?_
 refine AA zR (AA zR (AA zR (Ad zR zR zR ?_)))
 exact k.mono tL
 refine E zR (BV zR Bu zR (O zR Bh (Ad zR zR zR ?_)))
 exact k.mono tL
 refine E zR ?_
 refine C1 (c:=decide ((1048576:Int)<s.length)) 22 4 26 zR (fun hb k=>?_) (fun hb k=>?_) ?_
 refine AA zR (AA zR (AA zR (Ad zR zR zR ?_)))
 exact k.mono tL
 refine E zR (BV zR Bu zR (O zR CD (Ad zR zR zR ?_)))
 exact k.mono tL
 refine U ?_
 refine AG zR (fun hc1=>absurd hc1 (by simp[hk,hn];omega)) (fun hc1=>?_)
 refine AH (AF (V ?_))
 refine Ah zR ZW (fun _=>trivial) fun b0=>?_
 refine U (AD (V (J zR (U (AL (Hw 5 1 (SX.pick [1,0] 2 ?_)))))))
 have hxl:=EG key nonce s
 refine SX.mono (Ay (α:=Nat×Value×Value) (fun x=>64*x.1<s.length+64∧M8 b0 x.2.1) (fun x=>[(0,vS key),(1,vS nonce),(2,vS (s.drop (64*x.1))),(8,vP b0 0),(9,Z (UInt32.ofNat x.1))]) (fun x=>AI b0 (.cells #[x.2.1,x.2.2] 172)::Ci 5 1 x.2.2 (min (64*x.1) s.length) (((GI key nonce s).take (min (64*x.1) s.length)).map fun b=>Cw b)::H) (fun x=>s.length+64-64*x.1) (fun x D hp=>?_) (0,.pointer none,.slice none 0 0) ⟨by simp,.inl zR⟩) ⟨zR,zR,zR,zR,zR,zT⟩
 obtain⟨j,p,v⟩:=x
 obtain⟨hj,hadr⟩:=hp
 simp only at hj hadr
 refine AD (V (E zR ?_))
 refine O zR (Jx (t:=[])) ?_
 refine U ?_
 refine AG zR (fun hc2=>?_) (fun hc2=>?_)
 have hjl:64*j<s.length:=by simp at hc2;omega
 have hmin:min (64*j) s.length=64*j:=by omega
 rw[hmin]
 refine AH (AF (AD (AL (V (E zR (E zR (E zR ?_)))))))
 refine AP (vs:=[_,_,_]) (Hin:=[]) zR zR ⟨zR,zR,zR,zT⟩ mE zR zR (aB key nonce (UInt32.ofNat j) hk hn) ?_
 rintro _ _ ⟨rfl,rfl⟩
 refine⟨trivial,?_⟩
 have hbl:=QF (counter:=UInt32.ofNat j) hk hn
 refine E zR (Ap zR zR zR (Ap zR zR zR (J zR (J zR (U (V (E zR (E zR (BV zR Bu zR ?_)))))))))
 refine E zR (BV zR Bu zR (Oe zR zR zR (NX (min (s.length-64*j) 64) zR Bu zR zR (by simp;omega) (by simp;omega) (J zR (U (AD (V (E zR (BV zR Bu zR (E zR (U (AL ?_))))))))))))
 have hpl:((s.drop (64*j)).take (min (s.length-64*j) 64)).length=min (s.length-64*j) 64:=by simp
 refine SX.mono (Ay (α:=Nat×Value×Value) (fun x=>x.1≤min (s.length-64*j) 64∧M8 b0 x.2.1) (fun x=>[(0,vS key),(1,vS nonce),(2,vS (s.drop (64*j))),(8,vP b0 0),(9,Z (UInt32.ofNat j)),(10,vS (Il key (UInt32.ofNat j) nonce)),(12,vS ((s.drop (64*j)).take (min (s.length-64*j) 64))),(46,vI ((s.drop (64*j)).take (min (s.length-64*j) 64)).length),(47,vI x.1)]) (fun x=>AI b0 (.cells #[x.2.1,x.2.2] 172)::Ci 5 1 x.2.2 (64*j+x.1) (((GI key nonce s).take (64*j+x.1)).map fun b=>Cw b)::H) (fun x=>64-x.1) (fun x D hp=>?_) (0,p,v) ⟨Nat.zero_le _,hadr⟩) tL
 obtain⟨i,p,v⟩:=x
 obtain⟨hi,hadr⟩:=hp
 simp only at hi hadr
 refine V (O zR Ao (U (AD ?_)))
 refine AG zR (fun hc3=>?_) (fun hc3=>?_)
 have hil:i<min (s.length-64*j) 64:=by simp only[hpl]at hc3;simpa using hc3
 refine AH (AF (AD (AL (V (E zR (J zR (U (Aj CJ [] (BY [(true,0),(true,1),(true,2),(true,3),(true,4),(true,5),(true,6)] (.last 7 .nil)) zK (E zR (E zR (FW i zR Bu zR zR zO zO (E zR (E zR ?_)))))))))))))
 refine FW i zR Bu zR zR zO zO (O zR Ov (BE ?_))
 have e1:((s.drop (64*j)).take (min (s.length-64*j) 64)).getD i 0=s.getD (64*j+i) 0:=by
  simp[List.getD_eq_getElem?_getD,hil,show 64*j+i<s.length by omega]
 have e2:(Il key (UInt32.ofNat j) nonce).getD i 0=M6 key nonce (64*j+i):=by
  rw[M6,show(64*j+i) / 64=j by omega,show(64*j+i)%64=i by omega]
 rw[e1,e2]
 refine AP (vs:=[_,_]) (Hin:=[_,_]) zR zR ⟨zR,zR,zT⟩ VC zR zR (Mc 172 b0 p v (64*j+i) _ _ hadr Tk zO) ?_
 rintro _ _ ⟨rfl,v',rfl⟩
 refine⟨trivial,?_⟩
 refine AS (Ai (AF (AJ (O zR (BA zO zO) (E zR (AS ?_))))))
 refine Ac (i+1,vP b0 0,v') ⟨by simp only;omega,.inr zR⟩ (by simp only;omega) tL (fun w hw=>?_)
 simp only
 rw[←Nat.add_assoc,dD key nonce s (64*j+i) zO,List.map_append]
 exact hw
 have hie:i=min (s.length-64*j) 64:=by simp only[hpl]at hc3;simp at hc3;omega
 refine Al (Aw (A9 (Au (AF (AJ (E zR (E zR (BV zR Bu zR (MA (min (s.length-64*j) 64) zR Bu zR zR (by rw[hpl]) (by simp;omega) ?_)))))))))
 rw[List.drop_drop]
 refine J zR (AS (Ai (AF (AJ (E zR ?_)))))
 refine O zR (BZ (b:=1)) ?_
 refine J zR (AS ?_)
 have e1:s.drop (64*j+min (s.length-64*j) 64)=s.drop (64*(j+1)):=by
  rcases Nat.lt_or_ge (s.length-64*j) 64 with h | h
  rw[List.drop_eq_nil_of_le zO,List.drop_eq_nil_of_le zO]
  rw[show 64*j+min (s.length-64*j) 64=64*(j+1) by omega]
 rw[e1,bj]
 refine Ac (j+1,p,v) ⟨by simp only;omega,hadr⟩ (by simp only;omega) tL (fun w hw=>?_)
 simp only
 rw[show min (64*(j+1)) s.length=64*j+i by omega]
 exact hw
 have hjl:s.length≤64*j:=by simp at hc2;omega
 have hmin:min (64*j) s.length=s.length:=by omega
 have ht:(GI key nonce s).take s.length=GI key nonce s:=List.take_of_length_le zO
 rw[hmin,ht]
 refine Al (Aw (A9 (Au (AF (V ?_)))))
 refine AP (vs:=[_]) (Hin:=[_,_]) zR zR ⟨zR,zT⟩ Mi zR zR (Jh 172 b0 p v s.length (GI key nonce s) zO) ?_
 rintro _ _ ⟨rfl,rfl⟩
 refine⟨trivial,?_⟩
 refine J zR (J zR (U (AM ?_)))
 exact AU (E8 zR zR zR) (AV (M:=[]) ⟨zR,zR⟩ fun _ h=>h.skip [_,_])
end

/- Walks of a head's bytes. No condition. -/
section
variable {K:Nat→Prop}{w0:World}{H:List AT}
theorem Np(b:Nat)(p v:Value)(e:TypeId)(n:UInt64)(w m:Nat)(xs:List UInt8)(hp:M8 b p)(hl:X5 e)(hw:w≤8)(hm:m≤1048576):BH Tryz.prog K w0 152 [vP b 0,Ag n,vI w] [AI b (.cells #[p,v] e),Ci 5 1 v m (xs.map fun b=>Cw b)] H (fun r M=>r=.tuple #[]∧∃p' v',M8 b p'∧M=[AI b (.cells #[p',v'] e),Ci 5 1 v' (m+w) ((xs++BS n w).map fun b=>Cw b)]):=by
 refine BH.enter Tryz.func152 rfl rfl ?_
 refine V (E zR (E zR (U (AL ?_))))
 refine SX.mono (Ay (α:=Nat×Value×Value) (fun x=>x.1≤w∧M8 b x.2.1) (fun x=>[(0,vP b 0),(1,Ag n),(7,vI w),(8,vI x.1)]) (fun x=>AI b (.cells #[x.2.1,x.2.2] e)::Ci 5 1 x.2.2 (m+x.1) ((xs++BS n x.1).map fun b=>Cw b)::H) (fun x=>w-x.1) (fun x D hp=>?_) (0,p,v) ⟨Nat.zero_le _,hp⟩ |>.heap (fun w h=>by simpa[BS]using h)) tL
 obtain⟨i,p,v⟩:=x
 obtain⟨hi,hadr⟩:=hp
 simp only at hi hadr
 refine V (O zR Ao (U (AD ?_)))
 refine AG zR (fun hc1=>?_) (fun hc1=>?_)
 have hlt:i<w:=by simpa using hc1
 refine AH (AF (AD (AL (V (E zR (J zR (U (Aj CJ [] (BY [(true,0),(true,1),(true,2),(true,3),(true,4),(true,5),(true,6),(true,7)] (.last 8 .nil)) zK (E zR (AW zR zR (AB zR Wv (E zR (E zR ?_)))))))))))))
 refine O zR (JR zO zO) ?_
 refine O zR (D4.shr64 (n:=(8*i))) ?_
 refine As zR zR (Fk CB CW) (BE ?_)
 refine AP (vs:=[_,_]) (Hin:=[_,_]) zR zR ⟨zR,zR,zT⟩ VC zR zR (Mc e b p v (m+i) _ _ hadr hl zO) ?_
 rintro _ _ ⟨rfl,v',rfl⟩
 refine⟨trivial,?_⟩
 refine AS (Ai (AF (AJ (O zR (BA zO zO) (E zR (AS ?_))))))
 refine Ac (i+1,vP b 0,v') ⟨hlt,.inr zR⟩ (by simp only;omega) tL (fun w hw=>?_)
 simp only
 rw[QC,←List.append_assoc,List.map_append (l₁:=xs++BS n i),←Nat.add_assoc]
 exact hw
 have hie:i=w:=by simp at hc1;omega
 subst hie
 refine Al (Aw (A9 (Au ?_)))
 exact CQ (C7 zR) (AV (M:=[_,_]) ⟨zR,p,v,hadr,zR⟩ fun _ h=>h)
theorem Ny(h:CL):BH Tryz.prog K w0 110 [.agg (Bs h).toArray] [] H (fun r M=>r=vS (Gh h)∧M=[]):=by
 refine BH.enter Tryz.func110 rfl rfl ?_
 refine V ?_
 refine BU zR zR (fun _=>trivial) fun b0=>?_
 refine J zR (U (V ?_))
 refine Ah zR lB (fun _=>trivial) fun b1=>?_
 refine U (V ?_)
 refine GD (fv:=#[_]) (cv:=#[]) zR zR zR ?_
 refine J zR (U (Hw 5 1 (SX.pick [1,0,2] 3 (V (E zR (AB zR Sa (AC 2 Az zR (As zR zR (CF Bg CB) ?_))))))))
 refine AP (vs:=[_,_]) (Hin:=[_,_]) zR zR ⟨zR,zR,zT⟩ VA zR zR (Np b1 (.pointer none) (.slice none 0 0) 228 h.boot.toUInt64 4 0 [] (.inl zR) ZG zO zO) ?_
 rintro _ _ ⟨rfl,p1,v1,ha1,rfl⟩
 refine⟨trivial,?_⟩
 refine U (V (E zR (AB zR Sb (AC 2 MU zR ?_))))
 refine AP (vs:=[_,_]) (Hin:=[_,_]) zR zR ⟨zR,zR,zT⟩ VA zR zR (Np b1 p1 v1 228 h.seq 8 4 _ ha1 ZG zO zO) ?_
 rintro _ _ ⟨rfl,p2,v2,ha2,rfl⟩
 refine⟨trivial,?_⟩
 refine U (V (AB zR Wv ?_))
 refine AP (vs:=[_]) (Hin:=[_,_]) zR zR ⟨zR,zT⟩ Mi zR zR (Jh 228 b1 p2 v2 12 (Gh h) zO) ?_
 rintro _ _ ⟨rfl,rfl⟩
 refine⟨trivial,?_⟩
 refine J zR (U (AM ?_))
 exact AU (Co zR zR) (AV (M:=[]) ⟨zR,zR⟩ fun _ h=>h.skip [_,_,_])
theorem UK(h:CL):BH Tryz.prog K w0 111 [.agg (Bs h).toArray] [] H (fun r M=>r=vS (NU h)∧M=[]):=by
 refine BH.enter Tryz.func111 rfl rfl ?_
 refine V ?_
 refine BU zR zR (fun _=>trivial) fun b0=>?_
 refine J zR (U (V ?_))
 refine Ah zR lB (fun _=>trivial) fun b1=>?_
 refine U (V ?_)
 refine GD (fv:=#[_]) (cv:=#[]) zR zR zR ?_
 refine J zR (U (Hw 5 1 (SX.pick [1,0,2] 3 (V (E zR (AB zR Wx (AC 2 Az zR (As zR zR (CF Bg CB) ?_))))))))
 refine AP (vs:=[_,_]) (Hin:=[_,_]) zR zR ⟨zR,zR,zT⟩ VA zR zR (Np b1 (.pointer none) (.slice none 0 0) 228 h.page.toUInt64 4 0 [] (.inl zR) ZG zO zO) ?_
 rintro _ _ ⟨rfl,p1,v1,ha1,rfl⟩
 refine⟨trivial,?_⟩
 refine U (V (E zR (AB zR OU (AC 2 Az zR (As zR zR (CF Bg CB) ?_)))))
 refine AP (vs:=[_,_]) (Hin:=[_,_]) zR zR ⟨zR,zR,zT⟩ VA zR zR (Np b1 p1 v1 228 h.gen.toUInt64 4 4 _ ha1 ZG zO zO) ?_
 rintro _ _ ⟨rfl,p2,v2,ha2,rfl⟩
 refine⟨trivial,?_⟩
 refine U (AD (Aj CJ [2] (Pl.of [(true,0),(true,2),(false,1),(false,3),(true,4),(true,5),(true,6)]) zK (AB zR Wv (Aa (Bs h) zR Dk zR zR (AZ 0 zR) ?_))))
 refine AP (vs:=[_]) (Hin:=[_,_]) zR zR ⟨zR,zT⟩ Mi zR zR (Jh 228 b1 p2 v2 8 (BS h.page.toUInt64 4++BS h.gen.toUInt64 4) zO) ?_
 rintro _ _ ⟨rfl,rfl⟩
 refine⟨⟨⟨2,rfl⟩,trivial⟩,?_⟩
 refine AP (vs:=[_]) (Hin:=[]) zR zR ⟨zR,zT⟩ ZE zR zR (Ny h) ?_
 rintro _ _ ⟨rfl,rfl⟩
 refine⟨⟨⟨2,rfl⟩,trivial⟩,?_⟩
 refine O zR (EY (by simp[A2,HP])) (O zR (EY (by simp[A2,HP])) (J zR (U (AM ?_))))
 exact AU (Co zR zR) (AV (M:=[]) ⟨zR,zR⟩ fun _ h=>h.skip [_,_,_])
end

/- Walks of the head of bytes. No condition. -/
section
variable {K:Nat→Prop}{w0:World}{H:List AT}
def jZ(p:Nat×UInt64):List Value:=[vI p.1,Ag p.2]
theorem kf{i:Nat}(h:i<5):i=0∨i=1∨i=2∨i=3∨i=4:=by omega
theorem W0(s:List UInt8)(b:Nat)(hs:s.length=24):iQ Tryz.prog K w0 235 [vP b 0] [AI b (.cells #[vS s] 9)] jZ (LD s):=by
 intro lp J9 X T1 hy G h0
 refine BH.enter Tryz.func235 rfl rfl ?_
 refine V (Qk [vI 4,vI 4,vI 4,vI 8,vI 4] zR iw La oN zR ⟨zR,zR,zR,zR,zR,zT⟩ zR zR (by simp[Value.cells]) (E zR (U (AL ?_))))
 refine SX.mono (Ay (α:=Nat×List AT) (fun x=>x.1≤5∧J9 ((LD s).take x.1) x.2) (fun x=>[(0,vY lp),(1,vP b 0),(7,.agg #[vI 4,vI 4,vI 4,vI 8,vI 4]),(8,vI x.1)]) (fun x=>AI b (.cells #[vS (s.drop (RV x.1))] 9)::(x.2++T1)) (fun x=>5-x.1) (fun x D hp=>?_) (0,G) ⟨Nat.zero_le _,h0⟩) tL
 obtain⟨i,G⟩:=x
 obtain⟨hi,hJ⟩:=hp
 simp only at hi hJ
 refine V (O zR Ao (U (AD ?_)))
 refine AG zR (fun hc1=>?_) (fun hc1=>?_)
 have hlt:i<5:=by simp at hc1;omega
 have hg:=SN s i hlt
 have hoff:RV i+MS i≤24:=by rcases kf hlt with rfl | rfl | rfl | rfl | rfl<;>decide
 have hw8:MS i≤8:=by rcases kf hlt with rfl | rfl | rfl | rfl | rfl<;>decide
 have hwid:(#[vI 4,vI 4,vI 4,vI 8,vI 4]:Array Value)[i]? = some (vI (MS i:Nat)):=by rcases kf hlt with rfl | rfl | rfl | rfl | rfl<;>rfl
 refine AH (AF (AD (AL (V (E zR ?_)))))
 refine Mf (i:=i) zR iw DT zR zR zO zO hwid ?_
 refine J zR (J zR (U (V (J zR (U (AD (V (E zR (E zR (U (AL ?_)))))))))))
 refine SX.mono (Ay (α:=Nat) (fun k=>k≤MS i) (fun k=>[(0,vY lp),(1,vP b 0),(3,vI i),(4,vI (MS i:Nat)),(5,Ag (L3 (s.drop (RV i)) k)),(7,.agg #[vI 4,vI 4,vI 4,vI 8,vI 4]),(8,vI i),(12,vI (MS i:Nat)),(13,vI k)]) (fun k=>AI b (.cells #[vS (s.drop (RV i))] 9)::(G++T1)) (fun k=>MS i-k) (fun k D hp=>?_) 0 (Nat.zero_le _)) tL
 refine V (O zR Ao (U (AD ?_)))
 refine AG zR (fun hc2=>?_) (fun hc2=>?_)
 have hk:k<MS i:=by simpa using hc2
 refine AH (AF (AD (AL (V (E zR (J zR (U (AJ (E zR (AC 0 EZ zR (E zR (FW k zR Bu zR zR zO (by simp;omega) (As zR zR (YI CW CB) (E zR ?_))))))))))))))
 refine O zR (JR zO zO) ?_
 refine O zR (D4.shl64 (n:=(8*k))) ?_
 refine O zR Xu (J zR (AS (Ai (AF (AJ (O zR (BA zO zO) (E zR (AS ?_))))))))
 exact Ac (k+1) hk zO tL
 have hk:k=MS i:=by simp at hc2;omega
 subst hk
 refine Al (Aw (A9 (Au (AF (AD (V (E zR (E zR (E zR ?_)))))))))
 refine HX (M2:=[_]) (G:=G) (T:=T1) (vs:=[_,_]) (ok:=fun G1=>J9 ((LD s).take (i+1)) G1) (no:=X) zR zR ⟨zR,zR,zT⟩ zR ?_ (fun bb G1 hG1=>⟨zT,?_⟩)
 intro M
 have:=hy _ _ _ (D9 hg).1 G hJ M
 rw[←(D9 hg).2]at this
 exact this
 refine B9 zR zR (U ?_)
 refine AG zR (fun hc3=>?_) (fun hc3=>?_)
 obtain rfl:bb=false:=by simpa using hc3
 refine AM (Ab (BM (Ab (DD (BM ?_)))))
 exact AU (C7 zR) (AV (M:=G1) (.inr hG1) fun _ h=>h.skip [_])
 obtain rfl:bb=true:=by simpa using hc3
 refine AH (AF (AJ (AC 0 EZ zR (E zR (MA (MS i) zR Bu zR zR zO (by simp;omega) ?_)))))
 rw[List.drop_drop]
 refine Am 0 zR zR zR zR Gn zR zR zR zT (AS (Ai (AF (AJ (O zR (BA zO zO) (E zR (AS ?_)))))))
 exact Ac (i+1,G1) ⟨hlt,hG1⟩ (by simp only;omega) tL
 have hle:i=5:=by simp at hc1;omega
 refine Al (Aw (A9 (Au ?_)))
 exact CQ (C7 zR) (AV (M:=G) (.inl (by rw[List.take_of_length_le (by rw[Pn];omega)]at hJ;exact hJ)) fun _ h=>h.skip [_])
theorem Vd(s:List UInt8):BH Tryz.prog K w0 233 [vS s] [] H (fun r M=>∃b,r=.func (.func 235) #[] #[vP b 0]∧M=[AI b (.cells #[vS s] 9)]):=by
 refine BH.enter Tryz.func233 rfl rfl ?_
 refine V ?_
 refine BU zR zR (fun _=>trivial) fun b0=>?_
 refine J zR (U (V ?_))
 refine GD (fv:=#[]) (cv:=#[_]) zR zR zR ?_
 refine J zR (U (AM ?_))
 exact AU (Co zR zR) (AV (M:=[_]) ⟨b0,zR,zR⟩ fun _ h=>h)
theorem cl(s:List UInt8):BH Tryz.prog K w0 220 [vS s] [] H (fun r M=>r=.tuple #[.agg (Bs (MT s).1).toArray,vB (MT s).2]∧M=[]):=by
 refine BH.enter Tryz.func220 rfl rfl ?_
 refine V ?_
 refine Ah zR K5 (fun _=>trivial) fun b0=>?_
 refine J zR (U (JL (V ?_)))
 refine Ah zR K5 (fun _=>trivial) fun b1=>?_
 refine U (AD (V (E zR (BV zR Bu zR (O zR Bh (U ?_))))))
 refine AG zR (fun hc1=>?_) (fun hc1=>?_)
 have hs:MT s=(DL,false):=by unfold MT;rw[if_neg (fun h=>by simp at hc1;omega)]
 rw[hs]
 refine V (Aa (Bs DL) zR Dk zR zR (AZ 0 zR) (Am 1 zR zR zR zR JI zR zR zR zT (J zR (U (AM (Ab (EN ?_)))))))
 exact AU (Dq zR (BG 1 (Bs DL) Dk zR zR zR zR) zR) (AV (M:=[]) ⟨zR,zR⟩ fun _ h=>h.skip [_,_])
 have hs:s.length=24:=by simp at hc1;omega
 refine AH (AF (AD (JS (AF (AD (V (E zR ?_)))))))
 refine AP (vs:=[_]) (Hin:=[]) zR zR ⟨zR,zT⟩ mh zR zR (Vd s) ?_
 rintro _ _ ⟨bi,rfl,rfl⟩
 refine⟨trivial,?_⟩
 refine U (AL ?_)
 refine OT (enc:=jZ) (LD s) (fun pre G=>pre.length≤3∧G=AI b1 (.cells (Bs (eo s pre.length)).toArray 143)::AI b0 (.cells (Bs DL).toArray 143)::H) (fun c G=>c=.exit 0∧G=AI b1 (.cells (Bs (OB s)).toArray 143)::AI b0 (.cells (Bs DL).toArray 143)::H) zR nj zR (fun _=>rfl) (W0 s bi hs) zR ⟨Nat.zero_le _,zR⟩ (fun pre x suf G hxs hJ r lp Rest=>?_) (fun G D hJ=>?_) (fun c G D hX=>?_)
 obtain⟨hpl,rfl⟩:=hJ
 have hget:(LD s)[pre.length]? = some x:=by rw[hxs];simp
 rw[SN s _ zO]at hget
 obtain rfl:=Option.some.inj hget
 have hpl2:(pre++[(pre.length,IW s pre.length)]).length=pre.length+1:=by simp
 have hJ2:∀G,G=AI b1 (.cells (Bs (eo s (pre.length+1))).toArray 143)::AI b0 (.cells (Bs DL).toArray 143)::H→pre.length≤2→(pre++[(pre.length,IW s pre.length)]).length≤3∧G=AI b1 (.cells (Bs (eo s (pre++[(pre.length,IW s pre.length)]).length)).toArray 143)::AI b0 (.cells (Bs DL).toArray 143)::H:=fun G hG h=>by rw[hpl2];exact⟨by omega,hG⟩
 clear hxs hpl2
 generalize pre.length=k at*
 refine V (J zR (U (AJ (J zR (AS (KL (AL (V (E zR (U (AL (V (O zR Bq (J zR (U ?_)))))))))))))))
 refine AG zR (fun hc2=>?_) (fun hc2=>?_)
 obtain rfl:k=0:=by simp at hc2;omega
 refine AJ (E zR (As zR zR (Cz CB Bg) (AB zR Wx (Am 0 zR zR zR zR BQ zR zR zR zT (AS (Ai (Ai ?_)))))))
 exact HK (hJ2 _ zR zO) (fun _ h=>h)
 have hk0:k≠0:=by simp at hc2;omega
 refine V (O zR Bq (J zR (U ?_)))
 refine AG zR (fun hc3=>?_) (fun hc3=>?_)
 obtain rfl:k=1:=by simp at hc3;omega
 refine AJ (E zR (As zR zR (Cz CB Bg) (AB zR OU (Am 0 zR zR zR zR BQ zR zR zR zT (AS (Ai (Ai ?_)))))))
 exact HK (hJ2 _ zR zO) (fun _ h=>h)
 have hk1:k≠1:=by simp at hc3;omega
 refine V (O zR Bq (J zR (U ?_)))
 refine AG zR (fun hc4=>?_) (fun hc4=>?_)
 obtain rfl:k=2:=by simp at hc4;omega
 refine AJ (E zR (As zR zR (Cz CB Bg) (AB zR Sa (Am 0 zR zR zR zR BQ zR zR zR zT (AS (Ai (Ai ?_)))))))
 exact HK (hJ2 _ zR zO) (fun _ h=>h)
 have hk2:k≠2:=by simp at hc4;omega
 refine V (O zR Bq (J zR (U ?_)))
 refine AG zR (fun hc5=>?_) (fun hc5=>?_)
 obtain rfl:k=3:=by simp at hc5;omega
 refine V (E zR (AB zR Sb (Am 0 zR zR zR zR jD zR zR zR zT (U (Al (Ks (Ks ?_)))))))
 exact MD (G:=_::_::H) ⟨zR,zR⟩ (fun _ h=>h)
 exact absurd hc5 (by simp;omega)
 exact absurd hJ.1 (by rw[Pn];omega)
 obtain⟨rfl,rfl⟩:=hX
 refine Al (Au (AF (AD (V (Aa (Bs (OB s)) zR Dk zR zR (AZ 0 zR) ?_)))))
 refine AP (vs:=[_]) (Hin:=[]) zR zR ⟨zR,zT⟩ fF zR zR (UK (OB s)) ?_
 rintro _ _ ⟨rfl,rfl⟩
 refine⟨trivial,?_⟩
 refine E zR (O zR Jx (U ?_))
 refine AG zR (fun hc7=>?_) (fun hc7=>?_)
 have hg:MT s=(DL,false):=by unfold MT;rw[if_neg (fun h=>by simp[h.2]at hc7)]
 rw[hg]
 refine V (BL [] zR TP To K5 zT zR (Am 1 zR zR zR zR JI zR zR zR zT (J zR (U (AM (Ab (EN ?_)))))))
 exact AU (Dq zR (BG 1 (Bs DL) Dk zR zR zR zR) zR) (AV (M:=[]) ⟨zR,zR⟩ fun _ h=>h.skip [_,_])
 have hg:MT s=(OB s,true):=by unfold MT;rw[if_pos ⟨hs,by simpa using hc7⟩]
 rw[hg]
 refine AH (AF (V (Aa (Bs (OB s)) zR Dk zR zR (AZ 0 zR) (Am 1 zR zR zR zR JI zR zR zR zT (J zR (U (AM (EN ?_))))))))
 exact AU (Dq zR (BG 1 (Bs (OB s)) Dk zR zR zR zR) zR) (AV (M:=[]) ⟨zR,zR⟩ fun _ h=>h.skip [_,_])
end

/- The walk of a sealed block. Condition: rings of at most 2^40 keys, texts of at most 2^39 bytes. -/
section
variable {K:Nat→Prop}{w0:World}{H:List AT}
theorem nl(s:List UInt8)(hn:s.length≤9223372036854775807):BH Tryz.prog K w0 107 [vS s] [] H (fun r M=>r=.tuple #[vS (NB s).1,vI (NB s).2]∧M=[]):=
 (dx s hn).mono fun v M h=>⟨by rw[h.1];unfold NB;split<;>rfl,h.2⟩
theorem bA(T:List UInt32)(k:BC)(hT:GJ K w0 T)(hr:Cs [k]=true):BH Tryz.prog K w0 108 [.agg (Ax k).toArray] [] H (fun r M=>r=.tuple #[vS (IY T k IR),vS (IY T k IS),vI 0]∧M=[]):=
 (ZY T k hT).mono fun v M h=>⟨by rw[h.1,if_pos hr],h.2⟩
theorem Sf(T:List UInt32)(v:Value)(l:List BC)(h:CL)(s:List UInt8)(hT:GJ K w0 T)(hk:Bn K w0 Ax 2 v l)(hv:v.cells=#[v])(hl:l.length≤1099511627776)(hn:s.length≤9223372036854775807):BH Tryz.prog K w0 76 [v,.agg (Bs h).toArray,vS s] [] H (fun r M=>r=.tuple #[vS (FV T l h s).1,vI (FV T l h s).2]∧M=[]):=by
 refine BH.enter Tryz.func76 rfl rfl ?_
 refine V ?_
 refine BU zR zR (fun _=>trivial) fun b0=>?_
 refine J zR (J zR (U (V (E zR (AB zR OU (AC 0 Az zR ?_))))))
 refine AP (vs:=[_,_]) (Hin:=[]) zR zR ⟨zR,zR,zT⟩ de zR zR (PW v l h.gen hk hv hl) ?_
 rintro _ _ ⟨rfl,rfl⟩
 refine⟨trivial,?_⟩
 generalize hf:Cf l h.gen=f
 refine E zR (Ap zR zR zR (Ap zR zR zR ?_))
 refine Ah zR IT (fun _=>trivial) fun b1=>?_
 refine Am 0 zR zR zR zR Ej zR zR zR zT (J zR (U (AD (V (E zR (O zR Bh (U ?_)))))))
 refine AG zR (fun hc1=>?_) (fun hc1=>?_)
 have he:f.2≠0:=by simpa using hc1
 have hs:FV T l h s=([],f.2):=by unfold FV;rw[hf,if_pos he]
 rw[hs]
 refine V (E zR (J zR (J zR (U (AM (Ab ?_))))))
 exact AU (E8 zR zR zR) (AV (M:=[]) ⟨zR,zR⟩ fun _ h=>h.skip [_,_])
 have he:f.2=0:=by simpa using hc1
 have hok:=QZ (l:=l) (g:=h.gen) (by rw[hf];exact he)
 rw[hf]at hok
 refine AH (AF (V (E zR ?_)))
 refine AP (vs:=[_]) (Hin:=[]) zR zR ⟨zR,zT⟩ nX zR zR (nl s hn) ?_
 rintro _ _ ⟨rfl,rfl⟩
 refine⟨trivial,?_⟩
 refine E zR (Ap zR zR zR (Ap zR zR zR (J zR (J zR (U (AD (V (E zR (O zR Bh (U ?_))))))))))
 refine AG zR (fun hc2=>?_) (fun hc2=>?_)
 have h1:198<s.length:=by
  unfold NB at hc2
  split at hc2
  assumption
  simp at hc2
 have hs:FV T l h s=([],50):=by unfold FV;rw[hf,if_neg (by simp[he]),if_pos h1]
 have hp:NB s=([],50):=by unfold NB;rw[if_pos h1]
 rw[hs,hp]
 refine V (E zR (J zR (J zR (U (AM (Ab ?_))))))
 exact AU (E8 zR zR zR) (AV (M:=[]) ⟨zR,zR⟩ fun _ h=>h.skip [_,_])
 have h1:¬198<s.length:=by
  intro h1
  unfold NB at hc2
  rw[if_pos h1]at hc2
  simp at hc2
 have hp:NB s=(Iw s,0):=by unfold NB;rw[if_neg h1]
 have hpl:(Iw s).length=200:=Ep zO
 have hbl:=Fv T f.1 h hpl
 have hsl1:=Jo T f.1 IR
 have hsl2:=Jo T f.1 IS
 have hs:FV T l h s=(H6 T f.1 h s,0):=by unfold FV;rw[hf,if_neg (by simp[he]),if_neg h1]
 rw[hs,hp]
 refine AH (AF (V (Aa (Ax f.1) zR JA zR zR (AZ 0 zR) ?_)))
 refine AP (vs:=[_]) (Hin:=[]) zR zR ⟨zR,zT⟩ f6 zR zR (bA T f.1 hT hok.2.2.2) ?_
 rintro _ _ ⟨rfl,rfl⟩
 refine⟨trivial,?_⟩
 refine E zR (Ap zR zR zR (Ap zR zR zR (Ap zR zR zR (J zR (J zR (J zR (U (V (E zR ?_)))))))))
 refine Aa (Bs h) zR Dk zR zR (AZ 1 zR) ?_
 refine AP (vs:=[_]) (Hin:=[]) zR zR ⟨zR,zT⟩ ZE zR zR (Ny h) ?_
 rintro _ _ ⟨rfl,rfl⟩
 refine⟨trivial,?_⟩
 refine E zR ?_
 refine AP (vs:=[_,_,_]) (Hin:=[]) zR zR ⟨zR,zR,zR,zT⟩ fb zR zR (WR (IY T f.1 IR) (Gh h) (Iw s) hsl1 (HP h) zO) ?_
 rintro _ _ ⟨rfl,rfl⟩
 refine⟨trivial,?_⟩
 refine E zR (Ap zR zR zR (Ap zR zR zR (J zR (J zR (U (V (Aa (Bs h) zR Dk zR zR (AZ 1 zR) ?_)))))))
 refine AP (vs:=[_]) (Hin:=[]) zR zR ⟨zR,zT⟩ fF zR zR (UK h) ?_
 rintro _ _ ⟨rfl,rfl⟩
 refine⟨trivial,?_⟩
 refine E zR (O zR (EY (by rw[GW,EG];omega)) (J zR (U (V (E zR (E zR (E zR ?_)))))))
 refine Bd [_] zR DU Gn OM ⟨zR,zT⟩ zR zR zR (by simp[Value.cells]) zR zR (fun _=>trivial) fun b2=>?_
 refine AP (vs:=[_,_]) (Hin:=[_]) zR zR ⟨zR,zR,zT⟩ Yu zR zR (R7 T (IY T f.1 IS) [JJ T f.1 h (Iw s)] b2 hT zO (by simp;omega) zS) ?_
 rintro _ _ ⟨rfl,rfl⟩
 refine⟨trivial,?_⟩
 refine O zR (EY (by rw[FS];have:=hbl;simp only[JJ]at this;omega)) ?_
 refine J zR (J zR (U (AM ?_)))
 exact AU (E8 zR zR zR) (AV (M:=[]) ⟨by simp[H6,JJ],zR⟩ fun _ h=>h.skip [_,_])
end

/- The walk of what a block is opened to. Condition: rings of at most 2^40 keys, texts of at most 2^39 bytes. -/
section
variable {K:Nat→Prop}{w0:World}{H:List AT}
theorem Qf{bb:List UInt8}(h:bb.length=256):((bb.drop 24).take (224-24)).length=200:=by simp[h]
theorem Y8(T:List UInt32)(v:Value)(l:List BC)(bb:List UInt8)(hT:GJ K w0 T)(hk:Bn K w0 Ax 2 v l)(hv:v.cells=#[v])(hl:l.length≤1099511627776)(hn:bb.length≤9223372036854775807):BH Tryz.prog K w0 202 [v,vS bb] [] H (fun r M=>r=.tuple #[.agg (Bs (Gt T l bb).1).toArray,vS (Gt T l bb).2.1,vI (Gt T l bb).2.2]∧M=[]):=by
 refine BH.enter Tryz.func202 rfl rfl ?_
 refine V ?_
 refine Ah zR K5 (fun _=>trivial) fun b0=>?_
 refine J zR (J zR (U (V (BL [] zR TP To K5 zT zR ?_))))
 refine Ah zR K5 (fun _=>trivial) fun b1=>?_
 refine Am 0 zR zR zR zR JI zR zR zR zT (U (AD (V (E zR ?_))))
 refine AP (vs:=[_]) (Hin:=[]) zR zR ⟨zR,zT⟩ ZU zR zR (OE v l hk hv hl) ?_
 rintro _ _ ⟨rfl,rfl⟩
 refine⟨trivial,?_⟩
 refine B9 zR zR (U ?_)
 refine AG zR (fun hc1=>?_) (fun hc1=>?_)
 have hr:Cs l=false:=by simpa using hc1
 have ho:Gt T l bb=(DL,[],40):=by unfold Gt;rw[if_pos hr]
 rw[ho]
 refine V (Aa (Bs DL) zR Dk zR zR (AZ 0 zR) (Am 1 zR zR zR zR JI zR zR zR zT (J zR (J zR (U (AM (Ab ?_)))))))
 exact AU (N9 zR (BG 1 (Bs DL) Dk zR zR zR zR) zR zR) (AV (M:=[]) ⟨zR,zR⟩ fun _ h=>h.skip [_,_])
 have hr:¬Cs l=false:=by simpa using hc1
 refine AH (AF (AD (V (E zR (BV zR Bu zR (O zR Bh (U ?_)))))))
 refine AG zR (fun hc2=>?_) (fun hc2=>?_)
 have hb:bb.length≠256:=by simp at hc2;omega
 have ho:Gt T l bb=(DL,[],61):=by unfold Gt;rw[if_neg hr,if_pos hb]
 rw[ho]
 refine V (Aa (Bs DL) zR Dk zR zR (AZ 0 zR) (Am 1 zR zR zR zR JI zR zR zR zT (J zR (J zR (U (AM (Ab ?_)))))))
 exact AU (N9 zR (BG 1 (Bs DL) Dk zR zR zR zR) zR zR) (AV (M:=[]) ⟨zR,zR⟩ fun _ h=>h.skip [_,_])
 have hb:bb.length=256:=by simp at hc2;omega
 have hb':¬bb.length≠256:=fun h=>h hb
 refine AH (AF (V (E zR (NX 24 zR Bu zR zR zO zO ?_))))
 refine AP (vs:=[_]) (Hin:=[]) zR zR ⟨zR,zT⟩ li zR zR (cl (bb.take 24)) ?_
 rintro _ _ ⟨rfl,rfl⟩
 refine⟨trivial,?_⟩
 generalize hg:MT (bb.take 24)=g
 refine E zR (Ap zR zR zR (Ap zR zR zR ?_))
 refine Ah zR K5 (fun _=>trivial) fun b2=>?_
 refine Am 0 zR zR zR zR JI zR zR zR zT (J zR (U (AD (V (E zR (B9 zR zR (U ?_)))))))
 refine AG zR (fun hc3=>?_) (fun hc3=>?_)
 have h3:g.2=false:=by simpa using hc3
 have ho:Gt T l bb=(DL,[],61):=by unfold Gt;rw[if_neg hr,if_neg hb',hg,if_pos h3]
 rw[ho]
 refine V (Aa (Bs DL) zR Dk zR zR (AZ 1 zR) (Am 2 zR zR zR zR JI zR zR zR zT (J zR (J zR (U (AM (Ab ?_)))))))
 exact AU (N9 zR (BG 2 (Bs DL) Dk zR zR zR zR) zR zR) (AV (M:=[]) ⟨zR,zR⟩ fun _ h=>h.skip [_,_,_])
 have h3:¬g.2=false:=by simpa using hc3
 refine AH (AF (V (E zR (AB zR OU (AC 0 Az zR ?_)))))
 refine AP (vs:=[_,_]) (Hin:=[]) zR zR ⟨zR,zR,zT⟩ de zR zR (PW v l g.1.gen hk hv hl) ?_
 rintro _ _ ⟨rfl,rfl⟩
 refine⟨trivial,?_⟩
 generalize hf:Cf l g.1.gen=f
 refine E zR (Ap zR zR zR (Ap zR zR zR ?_))
 refine Ah zR IT (fun _=>trivial) fun b3=>?_
 refine Am 0 zR zR zR zR Ej zR zR zR zT (J zR (U (AD (V (E zR (O zR Bh (U ?_)))))))
 refine AG zR (fun hc4=>?_) (fun hc4=>?_)
 have h4:f.2≠0:=by simpa using hc4
 have ho:Gt T l bb=(DL,[],f.2):=by unfold Gt;rw[if_neg hr,if_neg hb',hg,if_neg h3,hf,if_pos h4]
 rw[ho]
 refine V (Aa (Bs DL) zR Dk zR zR (AZ 2 zR) (E zR (Am 3 zR zR zR zR JI zR zR zR zT (J zR (J zR (U (AM (Ab ?_))))))))
 exact AU (N9 zR (BG 3 (Bs DL) Dk zR zR zR zR) zR zR) (AV (M:=[]) ⟨zR,zR⟩ fun _ h=>h.skip [_,_,_,_])
 have h4:f.2=0:=by simpa using hc4
 have h4':¬f.2≠0:=fun h=>h h4
 have hok:=QZ (l:=l) (g:=g.1.gen) (by rw[hf];exact h4)
 rw[hf]at hok
 have hsl1:=Jo T f.1 IR
 have hsl2:=Jo T f.1 IS
 refine AH (AF (V (Aa (Ax f.1) zR JA zR zR (AZ 0 zR) ?_)))
 refine AP (vs:=[_]) (Hin:=[]) zR zR ⟨zR,zT⟩ f6 zR zR (bA T f.1 hT hok.2.2.2) ?_
 rintro _ _ ⟨rfl,rfl⟩
 refine⟨trivial,?_⟩
 refine E zR (Ap zR zR zR (Ap zR zR zR (Ap zR zR zR (J zR (J zR (J zR (U (AD (V (E zR ?_))))))))))
 refine E zR (NX 224 zR Bu zR zR zO zO ?_)
 refine Bd [_] zR DU Gn OM ⟨zR,zT⟩ zR zR zR (by simp[Value.cells]) zR zR (fun _=>trivial) fun b4=>?_
 refine AP (vs:=[_,_]) (Hin:=[_]) zR zR ⟨zR,zR,zT⟩ Yu zR zR (R7 T (IY T f.1 IS) [bb.take 224] b4 hT zO (by simp;omega) zS) ?_
 rintro _ _ ⟨rfl,rfl⟩
 refine⟨trivial,?_⟩
 refine E zR ?_
 refine AP (vs:=[_]) (Hin:=[]) zR zR ⟨zR,zT⟩ dP zR zR (US bb zO) ?_
 rintro _ _ ⟨rfl,rfl⟩
 refine⟨trivial,?_⟩
 refine AP (vs:=[_,_]) (Hin:=[]) zR zR ⟨zR,zR,zT⟩ nn zR zR (ZJ _ _ (by rw[FS];omega)) ?_
 rintro _ _ ⟨rfl,rfl⟩
 refine⟨trivial,?_⟩
 have e5:MV T (IY T f.1 IS) [bb.take 224].flatten=MV T (IY T f.1 IS) (bb.take 224):=by simp
 rw[e5,show bb.length-32=224 by omega]
 refine B9 zR zR (U ?_)
 refine AG zR (fun hc5=>?_) (fun hc5=>?_)
 have h5:MV T (IY T f.1 IS) (bb.take 224)≠bb.drop 224:=by simpa using hc5
 have ho:Gt T l bb=(DL,[],61):=by unfold Gt;rw[if_neg hr,if_neg hb',hg,if_neg h3,hf,if_neg h4',if_pos h5]
 rw[ho]
 refine V (Aa (Bs DL) zR Dk zR zR (AZ 2 zR) (Am 3 zR zR zR zR JI zR zR zR zT (J zR (J zR (U (AM (Ab ?_)))))))
 exact AU (N9 zR (BG 3 (Bs DL) Dk zR zR zR zR) zR zR) (AV (M:=[]) ⟨zR,zR⟩ fun _ h=>h.skip [_,_,_,_])
 have h5:¬MV T (IY T f.1 IS) (bb.take 224)≠bb.drop 224:=by simpa using hc5
 refine AH (AF (AD (Aj CJ [1] (Pl.of [(true,0),(true,1),(true,3),(true,4),(false,2),(false,5),(true,6),(true,7),(true,8),(true,9),(true,10)]) zK (E zR (Aa (Bs g.1) zR Dk zR zR (AZ 0 zR) (E zR (U2 24 224 zR Bu zR zR zR zO zO zO zO ?_)))))))
 refine AP (vs:=[_]) (Hin:=[]) zR zR ⟨zR,zT⟩ ZE zR zR (Ny g.1) ?_
 rintro _ _ ⟨rfl,rfl⟩
 refine⟨⟨⟨1,rfl⟩,trivial⟩,?_⟩
 refine AP (vs:=[_,_,_]) (Hin:=[]) zR zR ⟨zR,zR,zR,zT⟩ fb zR zR (WR (IY T f.1 IR) (Gh g.1) _ hsl1 (HP g.1) (by rw[Qf hb];omega)) ?_
 rintro _ _ ⟨rfl,rfl⟩
 refine⟨⟨⟨1,rfl⟩,trivial⟩,?_⟩
 refine E zR (Ap zR zR zR (Ap zR zR zR (J zR (J zR (U (V (E zR ?_)))))))
 refine AP (vs:=[_]) (Hin:=[]) zR zR ⟨zR,zT⟩ lX zR zR (Y7 (GI (IY T f.1 IR) (Gh g.1) ((bb.drop 24).take (224-24)))) ?_
 rintro _ _ ⟨rfl,rfl⟩
 refine⟨trivial,?_⟩
 generalize hu:G7 (GI (IY T f.1 IR) (Gh g.1) ((bb.drop 24).take (224-24)))=u
 have hul:u.1.length≤200:=by
  rw[←hu]
  unfold G7
  split
  simp
  split
  simp
  split
  simp only[List.length_take,List.length_drop,EG,Qf hb];omega
  simp
 refine E zR (Ap zR zR zR (Ap zR zR zR (J zR (J zR (U (AD (V (E zR (Aa (Bs g.1) zR Dk zR zR (AZ 1 zR) (E zR ?_))))))))))
 refine AP (vs:=[_,_,_]) (Hin:=[]) zR zR ⟨zR,zR,zR,zT⟩ ip zR zR (Sf T v l g.1 u.1 hT hk hv hl zO) ?_
 rintro _ _ ⟨rfl,rfl⟩
 refine⟨trivial,?_⟩
 generalize hag:FV T l g.1 u.1=ag
 have ho:Gt T l bb=if u.2≠0∨ag.2≠0∨ag.1≠bb then(DL,[],61)else(g.1,u.1,0):=by
  unfold Gt
  rw[if_neg hr,if_neg hb',hg,if_neg h3,hf,if_neg h4',if_neg h5]
  simp only
  rw[hf,show G7 (GI (IY T f.1 IR) (Gh g.1) ((bb.drop 24).take 200))=u from hu,hag]
 refine E zR (Ap zR zR zR (Ap zR zR zR (J zR (J zR (U ?_)))))
 refine SX.mono (l':=[(1,_),(4,_),(7,_),(8,_),(11,_),(17,_),(18,_),(19,_)]) ?_ ⟨zR,zR,zR,zR,zR,zR,zR,zR,zT⟩
 refine V (E zR (O zR Bh (E zR ?_)))
 refine C1 (c:=(!decide (ag.2=0))) 88 3 91 zR (fun hb k=>?_) (fun hb k=>?_) ?_
 refine AA zR (AA zR (Ad zR zR zR ?_))
 exact k.mono tL
 refine E zR (O zR Bh (Ad zR zR zR ?_))
 exact k.mono tL
 refine E zR ?_
 refine C1 (c:=(!decide (ag.1=bb))) 92 4 96 zR (fun hb k=>?_) (fun hb k=>?_) ?_
 refine AA zR (AA zR (AA zR (Ad zR zR zR ?_)))
 exact k.mono tL
 refine E zR (E zR (O zR Jx (Ad zR zR zR ?_)))
 exact k.mono tL
 refine U ?_
 refine AG zR (fun hc6=>?_) (fun hc6=>?_)
 have h6:u.2≠0∨ag.2≠0∨ag.1≠bb:=by simpa[or_assoc]using hc6
 rw[if_pos h6]at ho
 rw[ho]
 refine V (Aa (Bs DL) zR Dk zR zR (AZ 2 zR) (Am 3 zR zR zR zR JI zR zR zR zT (J zR (J zR (U (AM (Ab ?_)))))))
 exact AU (N9 zR (BG 3 (Bs DL) Dk zR zR zR zR) zR zR) (AV (M:=[]) ⟨zR,zR⟩ fun _ h=>h.skip [_,_,_,_])
 have h6:¬(u.2≠0∨ag.2≠0∨ag.1≠bb):=by
  simp at hc6
  simp[hc6]
 rw[if_neg h6]at ho
 rw[ho]
 refine AH (AF (V (Aa (Bs g.1) zR Dk zR zR (AZ 1 zR) (E zR (Am 3 zR zR zR zR JI zR zR zR zT (J zR (J zR (U (AM ?_)))))))))
 exact AU (N9 zR (BG 3 (Bs g.1) Dk zR zR zR zR) zR zR) (AV (M:=[]) ⟨zR,zR⟩ fun _ h=>h.skip [_,_,_,_])
end

/- The sum's tables, as a row lists them; the world in which a row's witness stands. No condition beyond those stated. -/
section
open Go Go.ChangeShapes Go.WideShapes Go.ChangeAt Go.RowKit
def PR:List UInt32:=[1116352408,1899447441,3049323471,3921009573,961987163,1508970993,2453635748,2870763221,3624381080,310598401,607225278,1426881987,1925078388,2162078206,2614888103,3248222580,3835390401,4022224774,264347078,604807628,770255983,1249150122,1555081692,1996064986,2554220882,2821834349,2952996808,3210313671,3336571891,3584528711,113926993,338241895,666307205,773529912,1294757372,1396182291,1695183700,1986661051,2177026350,2456956037,2730485921,2820302411,3259730800,3345764771,3516065817,3600352804,4094571909,275423344,430227734,506948616,659060556,883997877,958139571,1322822218,1537002063,1747873779,1955562222,2024104815,2227730452,2361852424,2428436474,2756734187,3204031479,3329325298]
def Sq:List Int:=[1116352408,1899447441,3049323471,3921009573,961987163,1508970993,2453635748,2870763221,3624381080,310598401,607225278,1426881987,1925078388,2162078206,2614888103,3248222580,3835390401,4022224774,264347078,604807628,770255983,1249150122,1555081692,1996064986,2554220882,2821834349,2952996808,3210313671,3336571891,3584528711,113926993,338241895,666307205,773529912,1294757372,1396182291,1695183700,1986661051,2177026350,2456956037,2730485921,2820302411,3259730800,3345764771,3516065817,3600352804,4094571909,275423344,430227734,506948616,659060556,883997877,958139571,1322822218,1537002063,1747873779,1955562222,2024104815,2227730452,2361852424,2428436474,2756734187,3204031479,3329325298]
def Zz:List Int:=[1779033703,3144134277,1013904242,2773480762,1359893119,2600822924,528734635,1541459225]
section
variable {P:Program}{W:World}
theorem Uf{x:String×DataW Unit}{r:List (String×DataW Unit)}(h:laidMet P (x::r) W):laidMet P r W:=by
 obtain⟨ps,⟨g,t,cs,fuel,p,q,_,_,_,_,hs,rfl⟩,hn,hc⟩:=h
 exact⟨q,hs,(List.nodup_append.1 hn).2.1,fun b off hb=>hc b off (List.mem_append_right _ hb)⟩
theorem Yz{name:String}{g:Nat}{zs:List Int}{T:List UInt32}(hg:P.globalNamed name=some g)(h:Lib.TabIs P W name .u32 zs)(hl:T≠[])(hz:zs=T.map fun x=>(x.toNat:Int)):RH (· < W.heap.size) W g T:=by
 have hc:∀i x,T[i]? = some x→W.cell? ⟨g,i,none⟩=some (Z x):=by
  intro i x hx
  obtain⟨hi,rfl⟩:=List.getElem?_eq_some_iff.1 hx
  have:=h.cell hg i (by rw[hz];simpa using hi)
  rw[this,hz]
  simp[Z,List.getD_eq_getElem?_getD,hi]
 refine⟨?_,hc⟩
 obtain⟨x,r,rfl⟩:=List.exists_cons_of_ne_nil hl
 have h0:=hc 0 x rfl
 rcases Nat.lt_or_ge g W.heap.size with h | h
 exact h
 have:W.heap[g]? = none:=by simp[h]
 simp[World.cell?,this]at h0
end
theorem qf:ownKnob Tryz.prog.godebug=none:=zK
theorem hK:laidOutB Tryz.prog=true:=zK
theorem fI:Tryz.prog.globalNamed "sphragis/sha.first" = some 1:=zK
theorem gU:Tryz.prog.globalNamed "sphragis/sha.constants" = some 3:=zK
theorem kd:(Tryz.prog.globals[1]?).map (·.type)=some 272:=zK
theorem kC:(Tryz.prog.globals[3]?).map (·.type)=some 296:=zK
theorem T2:Tryz.prog.cellsOf 29=1:=zK
theorem dN:Tryz.prog.cellsOf 272=8:=zK
theorem Vn:Tryz.prog.cellsOf 296=64:=zK
theorem kM{W:World}(h:laidMetH Tryz.prog [("sphragis/sha.first", Rows.laid_sphragis_sha_first),("sphragis/sha.constants", Rows.laid_sphragis_sha_constants)] W):GJ (· < W.heap.size) W PR:=by
 have h0:laidMet Tryz.prog [("sphragis/sha.first", Lib.tabData .u32 Zz),("sphragis/sha.constants", Lib.tabData .u32 Sq)] W:=h
 refine⟨?_,rfl,?_⟩
 exact Yz gU (Lib.tabIs_of_head (rest:=[]) gU kC Tryz.underlying296 Tryz.underlying29 T2 Vn (Uf h0)) (by simp[PR]) zK
 exact Yz fI (Lib.tabIs_of_head fI kd Tryz.underlying272 Tryz.underlying29 T2 dN h0) (by simp[C8,LO.list]) zK
def jn(zs:List Int):Obj→Obj
 | .cells _ t frozen=>.cells (zs.map fun z=>Value.int .u32 z).toArray t frozen
 | o=>o
end

/- An argument that is a head, a number. No condition beyond those stated. -/
section
open Go Go.ChangeShapes Go.WideShapes Go.ChangeAt Go.RowKit Go.Deep Go.Lib Go.Joins
section
variable {G:Type}{enc:TypeId×Value→G}{P:Program}{W:World}
theorem iL{t:TypeId}{k:IntKind}{base:Nat}{v:Value}{d:DataW G}{p:List MemPlace}(ht:P.underlying t=some (.int k))(hval:Value.okWide P W .any base t v)(h:DataW.Trod enc P W 0 (fun _=>true) true t v d p):
  ∃z:Int,v=.int k z∧(Lit.int k z).wf=true:=by
 obtain⟨z,rfl⟩:=okWide_int ht hval
 obtain⟨n,hn⟩:=h
 obtain⟨z',e,_,w⟩:=DataW.trod_int ht hn
 simp[Value.cells]at e
 subst e
 exact⟨z,rfl,w⟩
end
end

/- The engine's rules for printed walks: each partial operation under the equation that says what it gives; rows of a call's own, typed. No condition beyond those stated. -/
section
variable {P:Program}{ro:Option Nat}{K:Nat→Prop}{w0:World}{N:Nat}{Q:Cc}{D:List Nat}{l l':Tm}{H H' Hs L:List AT}{ops:Array Oper}{items:G5}
variable {tk:Bool}{o:Oper}{t:Nat}{v:Value}{x y z:Operand}
/-! ### Plain words of printed functions -/
def wI(x:Int):Int:=IntKind.i64.wrap x
theorem BD{x:Int}(h1 : -9223372036854775808≤x)(h2:x≤9223372036854775807):wI x=x:=JG (k:=.i64) h1 h2
def Aq{α:Type}(l:List α)(i:Int):Option α:=if 0≤i then l[i.toNat]? else none
def JB{α:Type}(l:List α)(i j:Int):Option (List α):=if 0≤i∧i≤j∧j≤l.length then some ((l.drop i.toNat).take (j.toNat-i.toNat))else none
def Ek{α:Type}(l:List α)(i:Int)(a:α):Option (List α):=if 0≤i∧i<l.length then some (l.set i.toNat a)else none
def EH(s t:List UInt8):Option (List UInt8):=if s.length+t.length≤9223372036854775807 then some (s++t)else none
def CT{α:Type}(by_:Nat)(s t:List α):Option (List α):=if(s.length+t.length)*by_≤140737488355328∧s.length+t.length≤9223372036854775807 then some (s++t)else none
def QB(i:Int):Option Nat:=if 0≤i then some i.toNat else none
def RX(a b:Int):Option Int:=if b=0 then none else some (wI (a.tdiv b))
def Pd(a b:Int):Option Int:=if b=0 then none else some (a.tmod b)
def N1(a b:UInt64):Option UInt64:=if b=0 then none else some (a / b)
def TU(a b:UInt64):Option UInt64:=if b=0 then none else some (a%b)
def Ed(b:Bool)(c:Option Bool):Option Bool:=cond b c (some false)
def PJ(b:Bool)(c:Option Bool):Option Bool:=cond b (some true) c
def Be{α β:Type}(F:(α→Option β)→α→Option β):Nat→α→Option β
 | 0,_=>none
 | m+1,a=>F (Be F m) a
def ret{α β:Type}(e:α)(k:α→β):β:=k e
theorem bnd{α β:Type}{a:Option α}{f:α→Option β}{r:β}(h:a.bind f=some r):∃x,a=some x∧f x=some r:=Option.bind_eq_some_iff.1 h
theorem Bc{α β:Type}{e:α}{k:α→Option β}{r:β}(h:ret e k=some r):∃x,e=x∧k x=some r:=⟨e,rfl,h⟩
theorem cT{α:Type}{b:Bool}{x y:Option α}{r:α}(hb:b=true)(h:cond b x y=some r):x=some r:=by subst hb;exact h
theorem cF{α:Type}{b:Bool}{x y:Option α}{r:α}(hb:b=false)(h:cond b x y=some r):y=some r:=by subst hb;exact h
theorem Df{α:Type}{l:List α}{i:Int}{a:α}(h:Aq l i=some a):i=(i.toNat:Int)∧i.toNat<l.length∧l[i.toNat]? = some a:=by
 unfold Aq at h
 split at h
 rename_i h0
 obtain⟨hlt,_⟩:=List.getElem?_eq_some_iff.1 h
 exact⟨by omega,hlt,h⟩
 cases h
theorem NR{α:Type}{l u:List α}{i j:Int}(h:JB l i j=some u):i=(i.toNat:Int)∧j=(j.toNat:Int)∧i.toNat≤j.toNat∧j.toNat≤l.length∧u=(l.drop i.toNat).take (j.toNat-i.toNat):=by
 unfold JB at h
 split at h
 rename_i h0
 exact⟨by omega,by omega,by omega,by omega,(Option.some.inj h).symm⟩
 cases h
abbrev D7(x:UInt8):List Value:=[Cw x]
abbrev BI(x:UInt32):List Value:=[Z x]
abbrev eS(x:List UInt8):List Value:=[vS x]
abbrev eB(x:Bool):List Value:=[vB x]
/-! ### Operators -/
theorem A3{a b:Int}:D4 .add (vI a) (vI b) (vI (wI (a+b))):=fun P w ty x y=>⟨A6 ..,by simp[binOp,Op.intArith,wI]⟩
theorem Bp{a b:Int}:D4 .sub (vI a) (vI b) (vI (wI (a-b))):=fun P w ty x y=>⟨A6 ..,by simp[binOp,Op.intArith,wI]⟩
theorem Ja{a b:Int}:D4 .mul (vI a) (vI b) (vI (wI (a*b))):=fun P w ty x y=>⟨A6 ..,by simp[binOp,Op.intArith,wI]⟩
theorem Tz{a b c:Int}(h:RX a b=some c):D4 .quo (vI a) (vI b) (vI c):=fun P w ty x y=>⟨A6 ..,by
 unfold RX at h
 split at h
 cases h
 rename_i h0
 obtain rfl:=Option.some.inj h
 simp[binOp,Op.intDiv,h0,wI]⟩
theorem OW{a b c:Int}(h:Pd a b=some c):D4 .rem (vI a) (vI b) (vI c):=fun P w ty x y=>⟨A6 ..,by
 unfold Pd at h
 split at h
 cases h
 rename_i h0
 obtain rfl:=Option.some.inj h
 simp[binOp,Op.intDiv,h0]⟩
theorem QM{a:UInt32}{k:IntKind}{i:Int}{n:Nat}(h:QB i=some n):D4 .shl (Z a) (.int k i) (Z (Go.Proofs.YtkibffdipniemaaGreatDoor.shl32 a n)):=by
 unfold QB at h
 split at h
 obtain rfl:=Option.some.inj h
 have:i=(i.toNat:Int):=by omega
 rw[this]
 exact D4.shl32
 cases h
theorem Ue{a:UInt32}{k:IntKind}{i:Int}{n:Nat}(h:QB i=some n):D4 .shr (Z a) (.int k i) (Z (Go.Proofs.YtkibffdipniemaaGreatDoor.shr32 a n)):=by
 unfold QB at h
 split at h
 obtain rfl:=Option.some.inj h
 have:i=(i.toNat:Int):=by omega
 rw[this]
 exact D4.shr32
 cases h
theorem bB{a:UInt64}{k:IntKind}{i:Int}{n:Nat}(h:QB i=some n):D4 .shl (Ag a) (.int k i) (Ag (Go.Proofs.YtkibffdipniemaaGreatDoor.shl64 a n)):=by
 unfold QB at h
 split at h
 obtain rfl:=Option.some.inj h
 have:i=(i.toNat:Int):=by omega
 rw[this]
 exact D4.shl64
 cases h
theorem Nn{a b c:UInt64}(h:N1 a b=some c):D4 .quo (Ag a) (Ag b) (Ag c):=fun P w ty x y=>⟨A6 ..,by
 unfold N1 at h
 split at h
 cases h
 rename_i hb
 obtain rfl:=Option.some.inj h
 have h0:((b.toNat:Int))≠0:=by
  intro h
  have:b.toNat=0:=by omega
  exact hb (UInt64.toNat_inj.1 this)
 have h1:IntKind.u64.wrap (Int.tdiv (a.toNat:Int) (b.toNat:Int))=((a / b).toNat:Int):=by
  rw[Jn,Int.tdiv_eq_ediv_of_nonneg zO,UInt64.toNat_div]
  have h2:a.toNat / b.toNat≤a.toNat:=Nat.div_le_self _ _
  have:=a.toNat_lt
  rw[show((a.toNat:Int) / (b.toNat:Int))=((a.toNat / b.toNat:Nat):Int)from rfl]
  generalize a.toNat / b.toNat=q at h2 ⊢
  omega
 simp only[binOp,Op.intDiv,ne_eq,not_true_eq_false,if_false,h0,h1,Sem.run_pure]⟩
theorem Uk{a b c:UInt64}(h:TU a b=some c):D4 .rem (Ag a) (Ag b) (Ag c):=by
 unfold TU at h
 split at h
 cases h
 rename_i hb
 obtain rfl:=Option.some.inj h
 exact ef hb
theorem B4{s t u:List UInt8}(h:EH s t=some u):D4 .add (vS s) (vS t) (vS u):=by
 unfold EH at h
 split at h
 rename_i hl
 obtain rfl:=Option.some.inj h
 exact EY hl
 cases h
/-! ### Texts -/
theorem G9{s:List UInt8}{ty:TypeId}{k:IntKind}{i:Int}{c:UInt8}(hn:Aq s i=some c)(ho:At ops N l o t (.index ty x y))(hty:P.underlying ty=some .string)(hx:BT l x=some (vS s))(hy:BT l y=some (.int k i))
(h:SL P ro K w0 N ops Hs items Q D ((t,Cw c)::l) H):SL P ro K w0 N ops Hs (.cons (tk,o) items) Q D l H:=by
 obtain⟨h1,h2,h3⟩:=Df hn
 refine FW i.toNat ho hty hx hy h1 h2 ?_
 have:s.getD i.toNat 0=c:=by simp[List.getD_eq_getElem?_getD,h3]
 rw[this]
 exact h
theorem mf{s u:List UInt8}{ty:TypeId}{k k':IntKind}{i j:Int}(hn:JB s i j=some u)(ho:At ops N l o t (.slice ty x (some y) (some z) none))(hty:P.underlying ty=some .string)(hx:BT l x=some (vS s))(hy:BT l y=some (.int k i))(hz:BT l z=some (.int k' j))
(h:SL P ro K w0 N ops Hs items Q D ((t,vS u)::l) H):SL P ro K w0 N ops Hs (.cons (tk,o) items) Q D l H:=by
 obtain⟨h1,h2,h3,h4,rfl⟩:=NR hn
 exact U2 i.toNat j.toNat ho hty hx hy hz h1 h2 h3 h4 h
theorem bZ{s u:List UInt8}{ty:TypeId}{k:IntKind}{i:Int}(hn:JB s i (s.length:Int)=some u)(ho:At ops N l o t (.slice ty x (some y) none none))(hty:P.underlying ty=some .string)(hx:BT l x=some (vS s))(hy:BT l y=some (.int k i))
(h:SL P ro K w0 N ops Hs items Q D ((t,vS u)::l) H):SL P ro K w0 N ops Hs (.cons (tk,o) items) Q D l H:=by
 obtain⟨h1,h2,h3,h4,rfl⟩:=NR hn
 refine MA i.toNat ho hty hx hy h1 zO ?_
 rw[List.take_of_length_le zS]at h
 exact h
theorem bO{s u:List UInt8}{ty:TypeId}{k:IntKind}{j:Int}(hn:JB s 0 j=some u)(ho:At ops N l o t (.slice ty x none (some z) none))(hty:P.underlying ty=some .string)(hx:BT l x=some (vS s))(hz:BT l z=some (.int k j))
(h:SL P ro K w0 N ops Hs items Q D ((t,vS u)::l) H):SL P ro K w0 N ops Hs (.cons (tk,o) items) Q D l H:=by
 obtain⟨h1,h2,h3,h4,rfl⟩:=NR hn
 exact NX j.toNat ho hty hx hz h2 h4 (by simpa using h)
/-! ### Slices in kept memory -/
theorem CP{α:Type}{enc:α→List Value}{sz:Nat}{xs:List α}{k:IntKind}{i:Int}{ty e:TypeId}{x0:α}(hn:Aq xs i=some x0)(hk:Bn K w0 enc sz v xs)(ho:At ops N l o t (.indexAddr ty x y))(hty:P.underlying ty=some (.slice e))(hsz:CY P e=some sz)(hx:BT l x=some v)(hy:BT l y=some (.int k i))
(h:∀b off,(∀L w,FD K w0 L w→∀j u,(enc x0)[j]? = some u→w.cell? ⟨b,off+j,none⟩=some u)→SL P ro K w0 N ops Hs items Q D ((t,vP b off)::l) H):SL P ro K w0 N ops Hs (.cons (tk,o) items) Q D l H:=by
 obtain⟨h1,h2,h3⟩:=Df hn
 exact PF i.toNat x0 hk ho hty hsz hx hy h1 h3 h
theorem Ck{b off j:Nat}{u:Value}{cs:List Value}(hc:∀L w,FD K w0 L w→∀j u,cs[j]? = some u→w.cell? ⟨b,off+j,none⟩=some u)(hj:cs[j]? = some u):∀w,FD K w0 L w→w.cell? ⟨b,off+j,none⟩=some u:=fun w hw=>hc L w hw j u hj
theorem Cj{b off:Nat}{cs:List Value}(hc:∀L w,FD K w0 L w→∀j u,cs[j]? = some u→w.cell? ⟨b,off+j,none⟩=some u):∀w,FD K w0 L w→∀j u,cs[j]? = some u→w.cell? (Addr.add ⟨b,off,none⟩ j)=some u:=
 fun w hw j u hu=>by rw[By];exact hc L w hw j u hu
theorem lE{α:Type}{enc:α→List Value}{sz:Nat}{xs us:List α}{k:IntKind}{j:Int}{ty e:TypeId}(hn:JB xs 0 j=some us)(hk:Bn K w0 enc sz v xs)(ho:At ops N l o t (.slice ty x none (some z) none))(hty:P.underlying ty=some (.slice e))(hsz:CY P e=some sz)(hx:BT l x=some v)(hz:BT l z=some (.int k j))
(h:∀v',Bn K w0 enc sz v' us→SL P ro K w0 N ops Hs items Q D ((t,v')::l) H):SL P ro K w0 N ops Hs (.cons (tk,o) items) Q D l H:=by
 obtain⟨h1,h2,h3,h4,rfl⟩:=NR hn
 exact ml j.toNat hk ho hty hsz hx hz h2 h4 (fun v' hv'=>h v' (by simpa using hv'))
/-! ### Rows of a call's own, typed, never frozen -/
def AE{α:Type}(e:TypeId)(sz:Nat)(v:Value)(enc:α→List Value)(xs:List α):AT:=
 ⟨fun b=>v.ownBlock=some b,fun w=>w.ownsRow 0 e sz v xs.length (xs.flatMap enc),fun w w' h hw=>by
  refine⟨hw.1,?_⟩
  rcases hw.2 with hn | ⟨g,cap,cur,rfl,hb,hgg,rest⟩
  exact .inl hn
  exact .inr ⟨g,cap,cur,rfl,hb,by rw[h g rfl];exact hgg,rest⟩⟩
section rows
variable {α:Type}{enc:α→List Value}{sz:Nat}{xs us:List α}{e ty:TypeId}
theorem Hg(hl:∀x,(enc x).length=sz):∀ys:List α,(ys.flatMap enc).length=ys.length*sz
 | []=>by simp
 | y::ys=>by rw[List.flatMap_cons,List.length_append,Hg hl ys,hl,List.length_cons,Nat.add_mul,Nat.one_mul,Nat.add_comm]
theorem BJ.nilT{w:World}(e:TypeId)(sz:Nat)(enc:α→List Value)(h:BJ K w0 H w):BJ K w0 (AE e sz (.slice none 0 0) enc []::H) w:=by
 refine h.cons (n:=w.heap.size) (Nat.le_refl _) (fun d hd b hb=>(h.foot d hd b hb).1) h.kltw (World.ownsRow_nil ..) ?_
 intro b hb
 simp[AE,Value.ownBlock]at hb
theorem Bx(e:TypeId)(sz:Nat)(enc:α→List Value)(h:SL P ro K w0 N ops Hs items Q D l (AE e sz (.slice none 0 0) enc []::H)):SL P ro K w0 N ops Hs items Q D l H:=
 fun a w ha hw hs=>h a w ha (hw.nilT e sz enc) hs
theorem cB{w:World}{g n cap:Nat}{c:α}{i j:Nat}{u:Value}(hl:∀x,(enc x).length=sz)(h:(AE e sz v enc xs).holds w)(hv:v=.slice (some ⟨g,0,none⟩) n cap)(hi:xs[i]? = some c)(hj:(enc c)[j]? = some u):w.cell? ⟨g,i*sz+j,none⟩=some u:=by
 have hrow:w.ownsRow 0 e sz v xs.length (xs.flatMap enc):=h
 have hF:=World.ownsRowF_of hrow
 have:=hF.cells (g:=g) (by rw[hv];rfl) (i*sz+j) u (Mj hl xs i c j u hi hj)
 rw[By]at this
 simpa using this
theorem BW{g n cap:Nat}{c:α}{i:Int}{u:Value}(k j:Nat)(hl:∀x,(enc x).length=sz)(hk:L[k]? = some (AE e sz v enc xs))(hv:v=.slice (some ⟨g,0,none⟩) n cap)(hi:Aq xs i=some c)(hj:(enc c)[j]? = some u):∀w,FD K w0 L w→w.cell? ⟨g,i.toNat*sz+j,none⟩=some u:=
 fun _w hw=>cB hl (hw.holds _ (List.mem_of_getElem? hk)) hv (Df hi).2.2 hj
theorem CE{g n cap:Nat}{c:α}{i:Int}(k:Nat)(hl:∀x,(enc x).length=sz)(hk:L[k]? = some (AE e sz v enc xs))(hv:v=.slice (some ⟨g,0,none⟩) n cap)(hi:Aq xs i=some c):∀w,FD K w0 L w→∀j u,(enc c)[j]? = some u→w.cell? (Addr.add ⟨g,i.toNat*sz,none⟩ j)=some u:=
 fun w hw j u hu=>by rw[By];exact BW k j hl hk hv hi hu w hw
theorem DC(k:Nat)(ho:At ops N l o t (.call { callee:=.builtin .len,args:=#[x],argTypes:=#[ty] }))(hty:P.underlying ty=some (.slice e))(hx:BT l x=some v)
{e':TypeId}(hk:(bif tk then Hs else H)[k]? = some (AE e' sz v enc xs))(h:SL P ro K w0 N ops Hs items Q D ((t,vI xs.length)::l) H):SL P ro K w0 N ops Hs (.cons (tk,o) items) Q D l H:=
 SL.val ho rfl (fun a w ha hsw=>by
  have hrow:w.ownsRow 0 e' sz v xs.length (xs.flatMap enc):=hsw.holds _ (List.mem_of_getElem? hk)
  simp only[execOp,ho.op,resolve,invoke,builtin,Builtin.len_]
  rcases hrow.2 with⟨rfl,hn⟩ | ⟨g,cap,cur,rfl,_⟩
  simp[ha.eval hx,Ar hty,goInt,hn]
  simp[ha.eval hx,Ar hty,goInt]) h
theorem BF(k:Nat){kk:IntKind}{i:Int}{c:α}(hn:Aq xs i=some c)(ho:At ops N l o t (.indexAddr ty x y))(hty:P.underlying ty=some (.slice e))(hsz:CY P e=some sz)(hx:BT l x=some v)(hy:BT l y=some (.int kk i))
(hk:H[k]? = some (AE e sz v enc xs))
(h:∀g m cap,v=.slice (some ⟨g,0,none⟩) m cap→SL P ro K w0 N ops Hs items Q D ((t,vP g (i.toNat*sz))::l) H):SL P ro K w0 N ops Hs (.cons (tk,o) items) Q D l H:=by
 intro a w ha hw hs
 have hrow:w.ownsRow 0 e sz v xs.length (xs.flatMap enc):=hw.holds _ (List.mem_append_left _ (List.mem_of_getElem? hk))
 obtain⟨h1,h2,h3⟩:=Df hn
 rcases hrow.2 with⟨_,h0⟩ | ⟨g,cap,cur,hv,_⟩
 omega
 exact(Zj (n:=i.toNat) ho hty hsz (hx.trans (by rw[hv])) hy h1 h2 (by simpa using h g xs.length cap hv)) a w ha hw hs
theorem Sm(hl:∀x,(enc x).length=sz):∀(xs:List α) (i:Nat) (a:α),i<xs.length→(xs.set i a).flatMap enc=(xs.flatMap enc).take (i*sz)++enc a++(xs.flatMap enc).drop (i*sz+sz)
 | [],i,a,h=>by simp at h
 | b::r,0,a,_=>by
  have hb:=hl b
  simp only[List.set_cons_zero,List.flatMap_cons,Nat.zero_mul,List.take_zero,List.nil_append,Nat.zero_add]
  rw[List.drop_append_of_le_length zO,List.drop_of_length_le zO,List.nil_append]
 | b::r,i+1,a,h=>by
  have hb:=hl b
  have ih:=Sm hl r i a (by simpa using h)
  simp only[List.set_cons_succ,List.flatMap_cons]
  rw[ih]
  have e1:(i+1)*sz=(enc b).length+i*sz:=by rw[hb,Nat.add_mul];omega
  have e2:(i+1)*sz+sz=(enc b).length+(i*sz+sz):=by rw[hb,Nat.add_mul];omega
  rw[e2,e1,List.take_length_add_append,List.drop_length_add_append]
  simp
theorem Cd(k:Nat){g m cap:Nat}{i:Int}{u:Value}{a:α}(hn:Ek xs i a=some us)(hl:∀x,(enc x).length=sz)(ho:At0 ops l o (.store ty x y))(hx:BT l x=some (vP g (i.toNat*sz)))(hy:BT l y=some u)(hu:u.cells.toList=enc a)(hk:H[k]? = some (AE e sz v enc xs))(hv:v=.slice (some ⟨g,0,none⟩) m cap)
(hsz:CY P ty=some sz)(h1:∀c∈enc a,c.oneCell'=true)(hs:ED Hs (H.set k (AE e sz v enc us)))(h:SL P ro K w0 N ops Hs items Q D l (H.set k (AE e sz v enc us))):SL P ro K w0 N ops Hs (.cons (false,o) items) Q D l H:=by
 unfold Ek at hn
 split at hn
 rename_i hi
 obtain rfl:=Option.some.inj hn
 refine Tt ho zR (fun a' w ha hw=>?_) hs h
 have hrow:w.ownsRow 0 e sz v xs.length (xs.flatMap enc):=hw.holds _ (List.mem_append_left _ (List.mem_of_getElem? hk))
 have hlt:i.toNat<xs.length:=by omega
 rcases hrow.2 with⟨hv',h0⟩ | ⟨g',cap',cur,hv',hb,hg,hnc,hcm,hcs,htk⟩
 rw[hv']at hv;cases hv
 obtain⟨rfl,rfl,rfl⟩:g'=g∧xs.length=m∧cap'=cap:=by rw[hv']at hv;simpa using hv
 have hucz:u.cells.size=sz:=by rw[←Array.length_toList,hu,hl]
 have hle:i.toNat*sz+sz≤xs.length*sz:=by
  have:=Nat.mul_le_mul_right sz (show i.toNat+1≤xs.length by omega)
  rw[Nat.add_mul,Nat.one_mul]at this
  exact this
 have hle2:xs.length*sz≤cap'*sz:=Nat.mul_le_mul_right _ hnc
 obtain⟨w',hrun,hw'⟩:=KR (P:=P) u.cells.toList (i.toNat*sz) 0 cur w hg (by rw[Array.length_toList,hucz];omega) (by rw[hu];exact h1)
 refine⟨w',?_,?_⟩
 simp[execOp,ho.op,Instr.storeAt,Instr.sureAddr,ha.eval hx,ha.eval hy,storeVar,CA hsz,hucz]
 rw[hrun]
 rfl
 rw[hw']
 obtain⟨hlt2,_⟩:=Array.getElem?_eq_some_iff.1 hg
 refine hw.turnAt (c:=AE e sz v enc xs) k hk rfl rfl rfl zS (fun b hb hne=>World.putObj_heap_other (fun e=>hne (by subst e;rw[hv'];rfl))) ⟨Hg hl _,.inr ⟨g',cap',_,by rw[hv',List.length_set],Nat.zero_le _,World.putObj_heap_same hlt2,by simpa using hnc,hcm,by rw[SH,hcs],?_⟩⟩ (fun b hb=>⟨.inl hb,?_⟩)
 have hcl:(enc a).length=sz:=hl a
 rw[JV _ _ _ (by rw[hu,hcl];omega),Sm hl xs i.toNat a hlt,hu,hcl,←htk,List.length_set,Nat.add_zero]
 have e1:(cur.toList.take (i.toNat*sz)).length=i.toNat*sz:=by simp;omega
 rw[List.take_take,Nat.min_eq_left zO]
 have e2:(cur.toList.take (i.toNat*sz)++enc a).length=i.toNat*sz+sz:=by rw[List.length_append,e1,hcl]
 rw[List.take_append,e2,List.take_of_length_le zO]
 congr 1
 rw[List.drop_take]
 have:b=g':=by
  have hb':v.ownBlock=some b:=hb
  rw[hv']at hb'
  simpa[Value.ownBlock]using hb'.symm
 subst this
 simpa using hlt2
 cases hn
theorem B7{by_ m c:Nat}{zv:Value}{new:List α}{ad:Addr}(k:Nat)(hn:CT by_ xs new=some us)(hl:∀x,(enc x).length=sz)(ho:At ops N l o t (.call { callee:=.builtin .append,args:=#[x,y],argTypes:=#[ty,ty] }))
(hty:P.underlying ty=some (.slice e))(hsz:CY P e=some sz)(hby:Ng P e=some by_)(hze:Dl P e=some zv)(hzs:zv.cells.size=sz)(hsz0:0<sz)
(hx:BT l x=some v)(hy:BT l y=some (.slice (some ad) m c))(hm:m=new.length)(hk:H[k]? = some (AE e sz v enc xs))
(hnews:∀w,FD K w0 H w→∀j u,(new.flatMap enc)[j]? = some u→w.cell? (ad.add j)=some u)(h1:∀a,∀u∈enc a,u.oneCell'=true)
(hs:∀v',ED Hs (H.set k (AE e sz v' enc us)))
(h:∀v',SL P ro K w0 N ops Hs items Q D ((t,v')::l) (H.set k (AE e sz v' enc us))):SL P ro K w0 N ops Hs (.cons (false,o) items) Q D l H:=by
 unfold CT at hn
 split at hn
 rename_i hb
 obtain rfl:=Option.some.inj hn
 subst hm
 have hfl:=Hg hl
 refine Fu (fun v'=>v') (fun v'=>H.set k (AE e sz v' enc (xs++new))) ho zR (fun a w ha hw=>?_) hs h
 obtain⟨ii,hii,e1,e2,e3⟩:=Nb hsz hby hze
 have hrow:w.ownsRow 0 e sz v xs.length (xs.flatMap enc):=hw.holds _ (List.mem_append_left _ (List.mem_of_getElem? hk))
 obtain⟨v',w',hr,hr2,hr3,_,hr4⟩:=run_append_own_at (P:=P) w 0 ty o.type e ii zv sz by_ hty hii e3 e1 e2 hzs hsz0 v xs.length _ hrow ad new.length c (new.flatMap enc) (hfl new) (hnews w hw.dropMarks.s) (fun u hu=>by
  obtain⟨a,_,ha⟩:=List.mem_flatMap.1 hu
  exact h1 a u ha) (by simp only[maxLen];omega) hb.1 (Nat.zero_le _)
 refine⟨v',w',?_,hw.turnAt (c:=AE e sz v enc xs) k hk hr3.os hr3.tape hr3.output hr3.size (fun b hb hne=>hr3.block b hb (fun e=>hne e.symm)) (show w'.ownsRow 0 e sz v' (xs++new).length ((xs++new).flatMap enc) by rw[List.flatMap_append,List.length_append];exact hr2) ?_⟩
 unfold execOp
 simp only[ho.op,resolve,invoke,builtin,Sem.run_bind,Sem.run_pure,Result.andThen_ok,List.map_toArray,List.map_cons,List.map_nil,ha.eval hx,ha.eval hy,hr]
 intro b hb
 refine⟨?_,(hr2.lt b hb).2⟩
 have hb':v'.ownBlock=some b:=hb
 rcases hr4 with h4 | h4
 exact .inl (by rw[h4]at hb';exact hb')
 rw[h4]at hb'
 right
 simp at hb'
 omega
 cases hn
theorem BJ.ownT{w:World}{b:Nat}{c:Array Value}(xs:List α)(h:BJ K w0 (AI b (.cells c e)::H) w)(hc:c.toList=xs.flatMap enc)(hl:∀x,(enc x).length=sz)(hm:xs.length≤9223372036854775807):BJ K w0 (AE e sz (.slice (some ⟨b,0,none⟩) xs.length xs.length) enc xs::H) w:=by
 have hfl:=Hg hl
 have hcs:c.size=xs.length*sz:=by rw[←Array.length_toList,hc,hfl]
 refine h.turn rfl rfl rfl (Nat.le_refl _) (fun _ _ _=>rfl) ⟨hfl xs,.inr ⟨b,xs.length,c,rfl,Nat.zero_le _,h.holds _ (List.mem_cons_self ..),Nat.le_refl _,by simp only[maxLen];omega,hcs,by rw[hc,←hfl];exact List.take_length⟩⟩ (fun k hk=>?_)
 have hkb:k=b:=by simp[AE,Value.ownBlock]at hk;exact hk.symm
 subst hkb
 exact⟨.inl rfl,(h.foot _ (List.mem_cons_self ..) k rfl).1⟩
theorem Bi{b:Nat}{c:Array Value}(enc:α→List Value)(sz:Nat)(xs:List α)(hc:c.toList=xs.flatMap enc)(hl:∀x,(enc x).length=sz)(hm:Nat.ble xs.length 1000000=true)
(h:SL P ro K w0 N ops Hs items Q D l (AE e sz (.slice (some ⟨b,0,none⟩) xs.length xs.length) enc xs::H)):SL P ro K w0 N ops Hs items Q D l (AI b (.cells c e)::H):=
 fun a w ha hw hs=>h a w ha (hw.ownT xs hc hl (by have:=Nat.le_of_ble_eq_true hm;omega)) hs
theorem ZX{by_ n:Nat}{zv:Value}{k k':IntKind}(enc:α→List Value)(ho:At ops N l o t (.makeSlice ty x y))(hty:P.underlying ty=some (.slice e))(hsz:CY P e=some sz)(hby:Ng P e=some by_)(hze:Dl P e=some zv)(_hzs:zv.cells.size=sz)
(hx:BT l x=some (.int k 0))(hy:BT l y=some (.int k' (n:Int)))(hb:Nat.ble (by_*n) 281474976710656=true)(h63:Nat.ble n 9223372036854775807=true)
(hs:∀v',ED Hs (AE e sz v' enc []::H))(h:∀v',SL P ro K w0 N ops Hs items Q D ((t,v')::l) (AE e sz v' enc []::H)):SL P ro K w0 N ops Hs (.cons (false,o) items) Q D l H:=
 Fu (fun b=>.slice (some ⟨b,0,none⟩) 0 n) (fun b=>AE e sz (.slice (some ⟨b,0,none⟩) 0 n) enc []::H) ho rfl (fun a w ha hw=>by
  obtain⟨ii,hii,e1,e2,e3⟩:=Nb hsz hby hze
  have hbn:=Nat.le_of_ble_eq_true hb
  have h63n:=Nat.le_of_ble_eq_true h63
  have hb':(ii.bytes:Int)*(n:Int)≤281474976710656:=by rw[e2,←Int.natCast_mul];omega
  have hr:=run_make (P:=P) w ty e ii zv hty hii e3 k k' 0 n zO zO hb' zO
  rw[e1]at hr
  simp only[Int.toNat_natCast]at hr
  refine⟨w.heap.size,w.alloc (.cells (madeCells zv.cells (n*sz)) e),?_,?_⟩
  unfold execOp
  simp only[ho.op,ha.eval hx,ha.eval hy,Sem.run_bind,hr,Result.andThen_ok,Sem.run_pure]
  rfl
  have h2:=hw.alloc (.cells (madeCells zv.cells (n*sz)) e)
  refine h2.turn rfl rfl rfl (Nat.le_refl _) (fun _ _ _=>rfl) ⟨by simp,.inr ⟨w.heap.size,n,_,rfl,Nat.zero_le _,h2.holds _ (List.mem_cons_self ..),Nat.zero_le _,by simp only[maxLen];omega,?_,by simp⟩⟩ (fun k hk=>?_)
  simp[madeCells]
  have hkb:k=w.heap.size:=by simp[AE,Value.ownBlock]at hk;exact hk.symm
  subst hkb
  exact⟨.inl rfl,(h2.foot _ (List.mem_cons_self ..) _ rfl).1⟩) (fun b=>hs _) (fun b=>h _)
theorem Br{K':Nat→Prop}{w1:World}(hl:∀x,(enc x).length=sz)(h:(AE e sz v enc xs).holds w1∧∀k,(AE e sz v enc xs).foot k→K' k):Bn K' w1 enc sz v xs:=by
 have hrow:w1.ownsRow 0 e sz v xs.length (xs.flatMap enc):=h.1
 refine⟨hl,?_⟩
 rcases hrow.2 with⟨rfl,h0⟩ | ⟨g,cap,cur,rfl,_,hg,hc,_⟩
 exact .inl ⟨_,rfl,List.length_eq_zero_iff.1 h0⟩
 refine .inr ⟨g,0,cap,rfl,hc,fun j u hu=>⟨h.2 g rfl,?_⟩⟩
 have:=(World.ownsRowF_of hrow).cells (g:=g) rfl j u hu
 rw[By]at this
 exact this
theorem ob:∀s:List UInt8,s.flatMap D7=s.map fun b=>Cw b
 | []=>rfl
 | b::r=>by rw[List.flatMap_cons,ob r];rfl
theorem HE{src dst:TypeId}{s:List UInt8}(k:Nat)(ho:At ops N l o t (.convert src dst x))(hs:P.underlying src=some (.slice e))(he:P.underlying e=some (.int .u8))(hd:P.underlying dst=some .string)(hx:BT l x=some v)
(hk:(bif tk then Hs else H)[k]? = some (AE e 1 v D7 s))
(h:SL P ro K w0 N ops Hs items Q D ((t,vS s)::l) H):SL P ro K w0 N ops Hs (.cons (tk,o) items) Q D l H:=
 SL.val ho rfl (fun a w ha hsw=>by
  have hrow:w.ownsRow 0 e 1 v s.length (s.flatMap D7):=hsw.holds _ (List.mem_of_getElem? hk)
  rw[ob]at hrow
  rcases hrow.2 with⟨rfl,h0⟩ | ⟨g,cap,cur,rfl,_⟩
  have:s=[]:=List.length_eq_zero_iff.1 h0
  subst this
  have h0:(convert src dst (.slice none 0 0)).run P w=.ok (vS []) w:=by
   rw[run_convert_bytes_string w src dst e none 0 0 hs he hd]
   simp[Conv.bytesToString]
   rfl
  simp[execOp,ho.op,ha.eval hx,h0]
  simp[execOp,ho.op,ha.eval hx,Wd hs he hd rfl ((World.ownsRowF_of hrow).cells rfl)]) h
theorem Ba{b n cap:Nat}(k:Nat)(_hl:∀x,(enc x).length=sz)(hk:L[k]? = some (AE e sz (.slice (some ⟨b,0,none⟩) n cap) enc xs)):∀w,FD K w0 L w→∀j u,(xs.flatMap enc)[j]? = some u→w.cell? (Addr.add ⟨b,0,none⟩ j)=some u:=by
 intro w hw j u hu
 have hrow:w.ownsRow 0 e sz (.slice (some ⟨b,0,none⟩) n cap) xs.length (xs.flatMap enc):=hw.holds _ (List.mem_of_getElem? hk)
 exact(World.ownsRowF_of hrow).cells (g:=b) rfl j u hu
theorem RK{w:World}(t ty e:TypeId)(i:TypeInfo)(ht:P.underlying t=some (.slice e))(hi:P.info? e=some i)
(v:Value)(n:Nat)(xs:List Value)(hown:w.ownsRow 0 e sz v n xs):(Builtin.append_ #[t,t] ty #[v,.slice none 0 0]).run P w=.ok v w:=by
 rcases hown.2 with⟨rfl,rfl⟩ | ⟨g,cap,cur,rfl,_,_,hnc,_⟩
 simp[Builtin.append_,Ar ht,sizeOf,typeInfo,hi,Builtin.lenOf,Builtin.firstCells]
 simp[Builtin.append_,Ar ht,sizeOf,typeInfo,hi,Builtin.lenOf,Builtin.firstCells,hnc,storeCells]
theorem cA{by_:Nat}{zv:Value}(k:Nat)(ho:At ops N l o t (.call { callee:=.builtin .append,args:=#[x,y],argTypes:=#[ty,ty] }))
(hty:P.underlying ty=some (.slice e))(hsz:CY P e=some sz)(hby:Ng P e=some by_)(hze:Dl P e=some zv)
(hx:BT l x=some v)(hy:BT l y=some (.slice none 0 0))(hk:H[k]? = some (AE e sz v enc xs))(hs:ED Hs H)
(h:SL P ro K w0 N ops Hs items Q D ((t,v)::l) H):SL P ro K w0 N ops Hs (.cons (false,o) items) Q D l H:=
 Fu (fun _:Unit=>v) (fun _=>H) ho rfl (fun a w ha hw=>by
  obtain⟨ii,hii,e1,e2,e3⟩:=Nb hsz hby hze
  have hrow:w.ownsRow 0 e sz v xs.length (xs.flatMap enc):=hw.holds _ (List.mem_append_left _ (List.mem_of_getElem? hk))
  have hr:=RK (P:=P) ty o.type e ii hty hii v xs.length _ hrow
  refine⟨(),w,?_,hw⟩
  unfold execOp
  simp only[ho.op,resolve,invoke,builtin,Sem.run_bind,Sem.run_pure,Result.andThen_ok,List.map_toArray,List.map_cons,List.map_nil,ha.eval hx,ha.eval hy,hr]) (fun _=>hs) (fun _=>h)
theorem Xs{c:AT}{k:Nat}(hk:H[k]? = some c):H.set k c=H:=by
 obtain⟨hl,hg⟩:=List.getElem?_eq_some_iff.1 hk
 rw[←hg];exact List.set_getElem_self hl
theorem XY{by_:Nat}(hn:CT by_ xs []=some us):us=xs:=by
 unfold CT at hn
 split at hn
 simpa using hn.symm
 cases hn
theorem SS{by_:Nat}{zv u:Value}{new:List α}(k:Nat)(hn:CT by_ xs new=some us)(hu:Bn K w0 enc sz u new)(hl:∀x,(enc x).length=sz)(ho:At ops N l o t (.call { callee:=.builtin .append,args:=#[x,y],argTypes:=#[ty,ty] }))
(hty:P.underlying ty=some (.slice e))(hsz:CY P e=some sz)(hby:Ng P e=some by_)(hze:Dl P e=some zv)(hzs:zv.cells.size=sz)(hsz0:0<sz)
(hx:BT l x=some v)(hy:BT l y=some u)(hk:H[k]? = some (AE e sz v enc xs))(h1:∀a,∀u∈enc a,u.oneCell'=true)
(hs:∀v',ED Hs (H.set k (AE e sz v' enc us)))
(h:∀v',SL P ro K w0 N ops Hs items Q D ((t,v')::l) (H.set k (AE e sz v' enc us))):SL P ro K w0 N ops Hs (.cons (false,o) items) Q D l H:=by
 rcases hu.at_ with⟨a0,rfl,rfl⟩ | ⟨b,off,cap,rfl,_,hc⟩
 cases a0 with
 | some ad=>exact B7 k hn hl ho hty hsz hby hze hzs hsz0 hx hy rfl hk (fun w hw j u hj=>by simp at hj) h1 hs h
 | none=>
  obtain rfl:=XY hn
  have h2:=hs v
  have h3:=h v
  rw[Xs hk]at h2 h3
  exact cA k ho hty hsz hby hze hx hy hk h2 h3
 refine B7 k hn hl ho hty hsz hby hze hzs hsz0 hx hy zR hk (fun w hw j u hj=>?_) h1 hs h
 obtain⟨hb,hcell⟩:=hc j u hj
 rw[By]
 exact NZ (L:=H) hb hcell w hw
theorem cP{by_:Nat}{zv u:Value}{new:List α}(k k2:Nat)(hn:CT by_ xs new=some us)(hl:∀x,(enc x).length=sz)(ho:At ops N l o t (.call { callee:=.builtin .append,args:=#[x,y],argTypes:=#[ty,ty] }))
(hty:P.underlying ty=some (.slice e))(hsz:CY P e=some sz)(hby:Ng P e=some by_)(hze:Dl P e=some zv)(hzs:zv.cells.size=sz)(hsz0:0<sz)
(hx:BT l x=some v)(hy:BT l y=some u)(hk:H[k]? = some (AE e sz v enc xs))(hk2:H[k2]? = some (AE e sz u enc new))(h1:∀a,∀u∈enc a,u.oneCell'=true)
(hs:∀v',ED Hs (H.set k (AE e sz v' enc us)))
(h:∀v',SL P ro K w0 N ops Hs items Q D ((t,v')::l) (H.set k (AE e sz v' enc us))):SL P ro K w0 N ops Hs (.cons (false,o) items) Q D l H:=by
 intro a w ha hw hs0
 have hrow:w.ownsRow 0 e sz u new.length (new.flatMap enc):=hw.holds _ (List.mem_append_left _ (List.mem_of_getElem? hk2))
 rcases hrow.2 with⟨rfl,h0⟩ | ⟨g,cap,cur,rfl,_⟩
 have:new=[]:=List.length_eq_zero_iff.1 h0
 subst this
 obtain rfl:=XY hn
 have h2:=hs v
 have h3:=h v
 rw[Xs hk]at h2 h3
 exact cA k ho hty hsz hby hze hx hy hk h2 h3 a w ha hw hs0
 exact B7 k hn hl ho hty hsz hby hze hzs hsz0 hx hy zR hk (Ba k2 hl hk2) h1 hs h a w ha hw hs0
theorem Bn.nil(hl:∀x,(enc x).length=sz):Bn K w0 enc sz (.slice none 0 0) []:=⟨hl,.inl ⟨_,rfl,rfl⟩⟩
end rows
theorem Ak{u:Value}(ho:At ops N l o t (.assign x))(hx:BT l x=some v)(hu:v=u)(h:SL P ro K w0 N ops Hs items Q D ((t,u)::l) H):SL P ro K w0 N ops Hs (.cons (tk,o) items) Q D l H:=
 fe ho (by rw[hx,hu]) h
theorem A4{c:Code}(l':Tm)(H':List AT)(h:SX P ro K w0 N c Q D l' H')(e1:Pi l' l)(e2:H=H':=by rfl):SX P ro K w0 N c Q D l H:=by
 subst e2;exact h.mono e1
def midD{α:Type}(K:Nat→Prop)(w0:World)(N:Nat)(p:α→Prop)(I:α→Tm)(G:α→List AT)(Q:Cc):Cc
 | .normal,a,w=>∃x D,p x∧Kk N D (I x) a∧BJ K w0 (G x++[BB D]) w
 | e,a,w=>Q e a w
theorem A1{α:Type}(p:α→Prop)(I:α→Tm)(G:α→List AT){c y:Code}(h:SX P ro K w0 N c (midD K w0 N p I G Q) D l H)(h2:∀x D,p x→SX P ro K w0 N y Q D (I x) (G x)):SX P ro K w0 N (.seq c y) Q D l H:=by
 intro a w ha hw
 refine wpIn_seq (wpIn_mono (h a w ha hw) ?_)
 intro e a w q
 cases e with
 | normal=>
  obtain⟨x,D',hx,ha,hw⟩:=q
  exact h2 x D' hx a w ha hw
 | _=>exact q
theorem Av{α:Type}{p:α→Prop}{I:α→Tm}{G:α→List AT}(x:α)(hp:p x)(hl:Pi (I x) l)(hH:∀w,BJ K w0 (H++[BB D]) w→BJ K w0 (G x++[BB D]) w):
  SQ K w0 N (Go.Proofs.YtkibffdipniemaaGreatDoor.midD K w0 N p I G Q) .normal D l H:=fun _a w ha hw=>⟨x,D,hp,ha.mono hl,hH w hw⟩
theorem ER{α:Type}{p:α→Prop}{I:α→Tm}{G:α→List AT}(h:SQ K w0 N Q .ret D l H):SQ K w0 N (Go.Proofs.YtkibffdipniemaaGreatDoor.midD K w0 N p I G Q) .ret D l H:=h
theorem D1(t n tt:Nat){b y:Bool}{C:Option Bool}(hy:Ed b C=some y)(hb:look l t=some (.bool b))
(ht:b=true→C=some y→SL P ro K w0 N ops Hs (items.drop n) Q D ((tt,.bool y)::(t,.bool true)::K6 t l) H→SL P ro K w0 N ops Hs items Q D ((t,.bool true)::K6 t l) H)
(hf:b=false→SL P ro K w0 N ops Hs (items.drop n) Q D ((tt,.bool false)::(t,.bool false)::K6 t l) H→SL P ro K w0 N ops Hs items Q D ((t,.bool false)::K6 t l) H)
(h:SL P ro K w0 N ops Hs (items.drop n) Q D ((tt,.bool y)::l) H):SL P ro K w0 N ops Hs items Q D l H:=by
 refine Om t hb (fun e=>?_) (fun e=>?_)
 subst e;exact Kn (ht rfl hy (h.join hb))
 subst e
 obtain rfl:false=y:=Option.some.inj hy
 exact Kn (hf zR (h.join hb))
theorem Ma(t n tt:Nat){b y:Bool}{C:Option Bool}(hy:PJ b C=some y)(hb:look l t=some (.bool b))
(ht:b=true→SL P ro K w0 N ops Hs (items.drop n) Q D ((tt,.bool true)::(t,.bool true)::K6 t l) H→SL P ro K w0 N ops Hs items Q D ((t,.bool true)::K6 t l) H)
(hf:b=false→C=some y→SL P ro K w0 N ops Hs (items.drop n) Q D ((tt,.bool y)::(t,.bool false)::K6 t l) H→SL P ro K w0 N ops Hs items Q D ((t,.bool false)::K6 t l) H)
(h:SL P ro K w0 N ops Hs (items.drop n) Q D ((tt,.bool y)::l) H):SL P ro K w0 N ops Hs items Q D l H:=by
 refine Om t hb (fun e=>?_) (fun e=>?_)
 subst e
 obtain rfl:true=y:=Option.some.inj hy
 exact Kn (ht zR (h.join hb))
 subst e;exact Kn (hf rfl hy (h.join hb))
/-! ### Flat structs, field by field -/
theorem Hf{xs ys:Array Value}:FG [] xs ys=some true:=rfl
theorem CI{i:Nat}{d:TypeDesc}{r:List (Nat×TypeDesc)}{xs ys:Array Value}{u v:Value}{p q:Bool}(hx:xs[i]? = some u)(hy:ys[i]? = some v)(he:SG d u v=some p)(hr:FG r xs ys=some q):FG ((i,d)::r) xs ys=some (p&&q):=by
 simp[FG,hx,hy,he,hr]
theorem Ww{k:IntKind}{a b:Int}:SG (.int k) (.int k a) (.int k b)=some (decide (a=b)):=by
 simp only[SG,if_true]
 congr 1
theorem JK{a b:UInt32}:SG (.int .u32) (Z a) (Z b)=some (decide (a=b)):=by
 rw[Ww];congr 1;rw[Bool.eq_iff_iff,decide_eq_true_eq,decide_eq_true_eq,←UInt32.toNat_inj];omega
theorem mU{a b:UInt64}:SG (.int .u64) (Ag a) (Ag b)=some (decide (a=b)):=by
 rw[Ww];congr 1;rw[Bool.eq_iff_iff,decide_eq_true_eq,decide_eq_true_eq,←UInt64.toNat_inj];omega
theorem R3{a b:List UInt8}:SG .string (vS a) (vS b)=some (decide (a=b)):=by
 simp only[SG,Ry];congr 1;rw[Bool.eq_iff_iff];simp
theorem No{src dst:TypeId}{d:TypeDesc}{k:IntKind}{n:Int}(hs:P.underlying src=some d)(hd:P.underlying dst=some (.int .i64)):Cv P src dst (.int k n) (vI (wI n)):=Cv.int hs hd rfl
/-! ### Arrays and tables -/
theorem LM{α:Type}{b m:Nat}{xs:List α}{k:IntKind}{i:Int}{c:α}{ty e:TypeId}(hn:Aq xs i=some c)(ho:At ops N l o t (.indexAddr ty x y))(hty:P.underlying ty=some (.array m e))(hsz:CY P e=some 1)(hx:BT l x=some (vP b 0))(hy:BT l y=some (.int k i))
(hln:xs.length=m)(h:SL P ro K w0 N ops Hs items Q D ((t,vP b i.toNat)::l) H):SL P ro K w0 N ops Hs (.cons (tk,o) items) Q D l H:=by
 obtain⟨h1,h2,h3⟩:=Df hn
 exact CO ho hty hsz hx hy h1 zO h
structure LA(K:Nat→Prop)(w0:World)(g:Nat)(n:Nat)(T:List UInt32):Prop where
 tab:RH K w0 g T
 len:T.length=n
theorem LA.keeps{g n:Nat}{T:List UInt32}{K':Nat→Prop}{w1:World}(h:LA K w0 g n T)(hk:TY K w0 K' w1):LA K' w1 g n T:=⟨h.tab.keeps hk,h.len⟩
theorem nc{g n:Nat}{T:List UInt32}{i:Int}{c:UInt32}(h:LA K w0 g n T)(hn:Aq T i=some c):∀w,FD K w0 L w→w.cell? ⟨g,i.toNat,none⟩=some (Z c):=
 NZ (ad:=⟨g,i.toNat,none⟩) h.tab.keep (h.tab.cell _ _ (Df hn).2.2)
end

/- The reference's table of the sum beside the program's, as rows list them; the world of the witnesses. No condition beyond those stated. -/
section
open Go Go.ChangeShapes Go.WideShapes Go.ChangeAt Go.RowKit
theorem an:PR.length=64:=by decide
theorem nt:Tryz.prog.globalNamed "sphragis/sphragisref02.table" = some 2:=zK
theorem oc:(Tryz.prog.globals[2]?).map (·.type)=some 296:=zK
theorem hE{W:World}(h:laidMetH Tryz.prog [("sphragis/sphragisref02.table", Rows.laid_sphragis_sphragisref02_table),("sphragis/sha.first", Rows.laid_sphragis_sha_first),("sphragis/sha.constants", Rows.laid_sphragis_sha_constants)] W):GJ (· < W.heap.size) W PR∧LA (· < W.heap.size) W 2 64 PR:=by
 have h0:laidMet Tryz.prog [("sphragis/sphragisref02.table", Lib.tabData .u32 Sq),("sphragis/sha.first", Lib.tabData .u32 Zz),("sphragis/sha.constants", Lib.tabData .u32 Sq)] W:=h
 refine⟨kM (Uf h0),Yz nt (Lib.tabIs_of_head nt oc Tryz.underlying296 Tryz.underlying29 T2 Vn h0) (by simp[PR]) zK,an⟩
noncomputable def Yr(os:Os):World:=
 { World.holding Tryz.prog os ⟨#[],#[],[]⟩with heap:=(((World.holding Tryz.prog os ⟨#[],#[],[]⟩).heap.modify 1 (jn Zz)).modify 3 (jn Sq)).modify 2 (jn Sq) }
end

/- Plain laws of the words that printed functions use. No program in sight. No condition beyond those stated. -/
section
theorem Cq{α β:Type}{F:(α→Option β)→α→Option β}(I:Nat→α)(N:Nat){z:Option β}(hs:∀i,i<N→∀k,F k (I i)=k (I (i+1)))(he:∀k,F k (I N)=z){m:Nat}(hm:N<m):Be F m (I 0)=z:=by
 have key:∀d i m,i+d=N→d<m→Be F m (I i)=z:=by
  intro d
  induction d with
  | zero=>
   intro i m hi hm
   obtain rfl:i=N:=by omega
   obtain⟨m,rfl⟩:∃k,m=k+1:=⟨m-1,by omega⟩
   exact he _
  | succ d ih=>
   intro i m hi hm
   obtain⟨m,rfl⟩:∃k,m=k+1:=⟨m-1,by omega⟩
   show F (Be F m) (I i)=z
   rw[hs i zO]
   exact ih (i+1) m zO zO
 exact key N 0 m zO hm
theorem iA{α β:Type}{F:(α→Option β)→α→Option β}(I:Nat→α)(Z9:Nat→Option β)(N:Nat)(hs:∀i,i<N→∀k,k (I (i+1))=Z9 (i+1)→F k (I i)=Z9 i)(he:∀k,F k (I N)=Z9 N){m:Nat}(hm:N<m):Be F m (I 0)=Z9 0:=by
 have key:∀d i m,i+d=N→d<m→Be F m (I i)=Z9 i:=by
  intro d
  induction d with
  | zero=>
   intro i m hi hm
   obtain rfl:i=N:=by omega
   obtain⟨m,rfl⟩:∃k,m=k+1:=⟨m-1,by omega⟩
   exact he _
  | succ d ih=>
   intro i m hi hm
   obtain⟨m,rfl⟩:∃k,m=k+1:=⟨m-1,by omega⟩
   show F (Be F m) (I i)=Z9 i
   exact hs i zO _ (ih (i+1) m zO zO)
 exact key N 0 m zO hm
theorem gl{α β:Type}{F:(α→Option β)→α→Option β}(I:Nat→α)(p:Nat→Prop)(N:Nat){z:Option β}(hs:∀i,i<N→p i→∀k,(p (i+1)→k (I (i+1))=z)→F k (I i)=z)(he:p N→∀k,F k (I N)=z)(h0:p 0){m:Nat}(hm:N<m):Be F m (I 0)=z:=by
 have key:∀d i m,i+d=N→d<m→p i→Be F m (I i)=z:=by
  intro d
  induction d with
  | zero=>
   intro i m hi hm hp
   obtain rfl:i=N:=by omega
   obtain⟨m,rfl⟩:∃k,m=k+1:=⟨m-1,by omega⟩
   exact he hp _
  | succ d ih=>
   intro i m hi hm hp
   obtain⟨m,rfl⟩:∃k,m=k+1:=⟨m-1,by omega⟩
   show F (Be F m) (I i)=z
   exact hs i zO hp _ (ih (i+1) m zO zO)
 exact key N 0 m zO hm h0
theorem JY{α:Type}{l:List α}{i:Nat}:Aq l (i:Int)=l[i]? := by simp[Aq]
theorem DK{α:Type}{l:List α}{i:Int}{k:Nat}(h:i=(k:Int)):Aq l i=l[k]? := by rw[h,JY]
theorem B3{α:Type}{l:List α}{i:Int}{k:Nat}(d:α)(h:i=(k:Int))(hk:k<l.length):Aq l i=some (l.getD k d):=by rw[DK h,IL d hk]
theorem HC{α:Type}{l:List α}{i:Int}{k:Nat}{a:α}(h:i=(k:Int))(hk:k<l.length):Ek l i a=some (l.set k a):=by
 subst h
 unfold Ek
 rw[if_pos zO]
 simp
theorem Nc{α:Type}{l:List α}{i j:Int}{p q:Nat}(hi:i=(p:Int))(hj:j=(q:Int))(h1:p≤q)(h2:q≤l.length):JB l i j=some ((l.drop p).take (q-p)):=by
 subst hi;subst hj
 unfold JB
 rw[if_pos zO]
 simp
theorem B8{α:Type}{b:Nat}{s t:List α}(h:(s.length+t.length)*b≤140737488355328)(h2:s.length+t.length≤9223372036854775807):CT b s t=some (s++t):=if_pos ⟨h,h2⟩
theorem CM{s t:List UInt8}(h:s.length+t.length≤9223372036854775807):EH s t=some (s++t):=if_pos h
theorem Si{i:Nat}:QB (i:Int)=some i:=by simp[QB]
theorem S4{a b:Nat}(hb:b≠0):Pd (a:Int) (b:Int)=some ((a%b:Nat):Int):=by
 unfold Pd
 rw[if_neg zO,Int.tmod_eq_emod_of_nonneg zO]
 rfl
theorem c7{a b:Nat}(hb:b≠0)(ha:a≤9223372036854775807):RX (a:Int) (b:Int)=some ((a / b:Nat):Int):=by
 unfold RX
 have h1:a / b≤a:=Nat.div_le_self _ _
 rw[if_neg zO,Int.tdiv_eq_ediv_of_nonneg zO,show((a:Int) / (b:Int))=((a / b:Nat):Int)from rfl]
 generalize a / b=q at h1 ⊢
 rw[BD zO zO]
theorem Y{α β:Type}{a:α}{f:α→Option β}:(some a).bind f=f a:=by simp
theorem A7{α β:Type}{e:α}{k:α→β}:ret e k=k e:=by simp[ret]
theorem Ua{α β:Type}{F:(α→Option β)→α→Option β}{m:Nat}{a:α}:Be F (m+1) a=F (Be F m) a:=by rw[Be]
theorem TC{α:Type}{l:List α}{k:Nat}(d:α)(h:k<l.length):l.getD k d=l[k]:=by simp[List.getD,h]
end

/- The engine's maps: a map of the call's own as a list of keys and elements; look-ups, stores, removals, ranges. No condition beyond those stated. -/
section
open Go Go.MapKept Go.ChangeMaps
variable {P:Program}{ro:Option Nat}{K:Nat→Prop}{w0:World}{N:Nat}{Q:Cc}{D:List Nat}{l l':Tm}{H H' Hs L:List AT}{ops:Array Oper}{items:G5}
variable {tk:Bool}{o:Oper}{t:Nat}{v:Value}{x y z:Operand}
theorem XQ{α β:Type}(f:α→β){l:List α}(h:(l.map f).Nodup):l.Nodup:=(List.pairwise_map.1 h).imp fun hne e=>hne (congrArg f e)
theorem O1{α:Type}:∀ {l l':List α},l.Nodup→(∀a∈l,a∈l')→l.length≤l'.length
 | [],_,_,_=>by simp
 | a::r,l',hn,hs=>by
  obtain⟨h1,h2⟩:=List.nodup_cons.1 hn
  obtain⟨p,q,rfl⟩:=List.append_of_mem (hs a (List.mem_cons_self ..))
  have:=O1 (l':=p++q) h2 (fun b hb=>by
   have hb':=hs b (List.mem_cons_of_mem _ hb)
   simp only[List.mem_append,List.mem_cons]at hb' ⊢
   rcases hb' with h | rfl | h
   exact .inl h
   exact absurd hb h1
   exact .inr h)
  simp at this ⊢
  omega
section dE
variable {κ α:Type}[DecidableEq κ]
/-! ### Plain maps: no key twice -/
def Cm(m:List (κ×α))(k:κ):Option α:=(m.find? fun p=>decide (p.1=k)).map (·.2)
def GK(m:List (κ×α))(k:κ):List (κ×α):=m.filter fun p=>decide (p.1≠k)
def Ii(m:List (κ×α))(k:κ)(a:α):List (κ×α):=(k,a)::GK m k
theorem Ru{m:List (κ×α)}{k:κ}(h:∀p∈m,p.1≠k):Cm m k=none:=by
 unfold Cm
 rw[List.find?_eq_none.2 (fun p hp=>by simpa using h p hp)]
 rfl
theorem Oy{m:List (κ×α)}(hn:(m.map (·.1)).Nodup){p:κ×α}(hp:p∈m):Cm m p.1=some p.2:=by
 induction m with
 | nil=>cases hp
 | cons q r ih=>
  simp only[List.map_cons,List.nodup_cons]at hn
  unfold Cm
  rcases List.mem_cons.1 hp with rfl | hp
  simp
  have hne:q.1≠p.1:=fun e=>hn.1 (by rw[e];exact List.mem_map_of_mem hp)
  rw[List.find?_cons_of_neg (by simpa using hne)]
  exact ih hn.2 hp
theorem Q7{m:List (κ×α)}{k:κ}(h:∀p∈m,p.1≠k):GK m k=m:=List.filter_eq_self.2 (fun p hp=>by simpa using h p hp)
theorem UX{m:List (κ×α)}(hn:(m.map (·.1)).Nodup){p:κ×α}(hp:p∈m):m.Perm (p::GK m p.1):=by
 induction m with
 | nil=>cases hp
 | cons q r ih=>
  simp only[List.map_cons,List.nodup_cons]at hn
  rcases List.mem_cons.1 hp with rfl | hp
  have h1:GK (p::r) p.1=r:=by
   unfold GK
   rw[List.filter_cons_of_neg zS]
   exact Q7 fun q hq e=>hn.1 (by rw[←e];exact List.mem_map_of_mem hq)
  rw[h1]
  have hne:q.1≠p.1:=fun e=>hn.1 (by rw[e];exact List.mem_map_of_mem hp)
  have h1:GK (q::r) p.1=q::GK r p.1:=by
   unfold GK
   rw[List.filter_cons_of_pos (by simpa using hne)]
  rw[h1]
  exact((ih hn.2 hp).cons q).trans (List.Perm.swap _ _ _)
theorem P6{m:List (κ×α)}{k:κ}(hn:(m.map (·.1)).Nodup):((GK m k).map (·.1)).Nodup:=hn.sublist (List.Sublist.map _ (List.filter_sublist ..))
theorem Ul{m:List (κ×α)}{k:κ}{a:α}(hn:(m.map (·.1)).Nodup):((Ii m k a).map (·.1)).Nodup:=by
 simp only[Ii,List.map_cons,List.nodup_cons]
 refine⟨fun h=>?_,P6 hn⟩
 obtain⟨q,hq,e⟩:=List.mem_map.1 h
 have:=(List.mem_filter.1 hq).2
 simp[e]at this
theorem RA{m:List (κ×α)}{k j:κ}{a:α}:Cm (Ii m k a) j=if k=j then some a else Cm m j:=by
 unfold Ii Cm
 by_cases h:k=j
 rw[if_pos h,List.find?_cons_of_pos (by simpa using h)];rfl
 rw[if_neg h,List.find?_cons_of_neg (by simpa using h)]
 congr 1
 unfold GK
 rw[List.find?_filter]
 congr 1
 funext p
 by_cases hj:p.1=j
 simp[hj,Ne.symm h]
 simp[hj]
theorem iW{m:List (κ×α)}{k j:κ}:Cm (GK m k) j=if k=j then none else Cm m j:=by
 by_cases h:k=j
 subst h
 rw[if_pos rfl]
 exact Ru fun p hp=>by simpa using(List.mem_filter.1 hp).2
 rw[if_neg h]
 unfold Cm GK
 congr 1
 rw[List.find?_filter]
 congr 1
 funext p
 by_cases hj:p.1=j
 simp[hj,Ne.symm h]
 simp[hj]
end dE
structure Of(P:Program)(k:TypeId){κ α:Type}(ek:κ→Value)(ev:α→Value):Prop where
 keyed:Go.Maps.Keyed P k
 lit:∀x,∃l,keyOf P k (ek x)=some l
 dk:∃f:Value→Option κ,∀x,f (ek x)=some x
 dv:∃f:Value→Option α,∀x,f (ev x)=some x
theorem Of.inj{k:TypeId}{κ α:Type}{ek:κ→Value}{ev:α→Value}(E9:Of P k ek ev){x y:κ}(h:ek x=ek y):x=y:=by
 obtain⟨f,hf⟩:=E9.dk
 have:=hf x
 rw[h,hf y]at this
 exact(Option.some.inj this).symm
theorem cW{k:TypeId}(hk:P.underlying k=some (.int .u32))(a:UInt32):∃l,keyOf P k (Z a)=some l:=
 ⟨_,Maps.keyOf_int_mk hk (by have:=a.toNat_lt;simp[Lit.wf,IntKind.min,IntKind.max,IntKind.signed,IntKind.bits];omega)⟩
theorem Wi{k:TypeId}(hk:P.underlying k=some (.int .u32)):Of P k Z vS:=
 ⟨Maps.int_keyed hk,cW hk,⟨fun v=>match v with | .int _ a=>some (UInt32.ofNat a.toNat) | _=>none,fun x=>by simp⟩,⟨fun v=>match v with | .string b=>some b.data.toList | _=>none,fun x=>rfl⟩⟩
theorem NM{k:TypeId}(hk:P.underlying k=some (.int .u32)):Of P k Z vB:=
 ⟨Maps.int_keyed hk,cW hk,⟨fun v=>match v with | .int _ a=>some (UInt32.ofNat a.toNat) | _=>none,fun x=>by simp⟩,⟨fun v=>match v with | .bool b=>some b | _=>none,fun x=>rfl⟩⟩
section maps
variable {κ α:Type}{ek:κ→Value}{ev:α→Value}{m:List (κ×α)}{k:TypeId}{b:Nat}
def Lx(ek:κ→Value)(ev:α→Value)(m:List (κ×α))(es:Array MapEntry)(clock:Nat):Prop:=
 Stamped es clock∧es.size≤maxLen∧(es.toList.map fun e=>(e.key,e.val)).Perm (m.map fun p=>(ek p.1,ev p.2))
def A0(b:Nat)(ek:κ→Value)(ev:α→Value)(m:List (κ×α)):AT:=
 ⟨(·=b),fun w=>∃es clock,w.heap[b]? = some (.map es clock)∧Lx ek ev m es clock,fun w w' h ⟨es,c,h1,h2⟩=>⟨es,c,by rw[h _ rfl];exact h1,h2⟩⟩
theorem Lx.mem{es:Array MapEntry}{clock:Nat}(h:Lx ek ev m es clock){e:MapEntry}(he:e∈es.toList):∃p∈m,e.key=ek p.1∧e.val=ev p.2:=by
 have:=h.2.2.mem_iff.1 (List.mem_map_of_mem (f:=fun e:MapEntry=>(e.key,e.val)) he)
 obtain⟨p,hp,e1⟩:=List.mem_map.1 this
 simp only[Prod.mk.injEq]at e1
 exact⟨p,hp,e1.1.symm,e1.2.symm⟩
theorem Lx.nodup{es:Array MapEntry}{clock:Nat}(h:Lx ek ev m es clock):(m.map (·.1)).Nodup:=by
 have h1:(es.toList.map (·.key)).Nodup:=h.1.2.2
 have h2:(es.toList.map (·.key)).Perm (m.map fun p=>ek p.1):=by
  have:=h.2.2.map (·.1)
  simpa[List.map_map,Function.comp_def]using this
 have h3:(m.map fun p=>ek p.1).Nodup:=h2.nodup_iff.1 h1
 have h4:(m.map fun p=>ek p.1)=(m.map (·.1)).map ek:=by simp
 rw[h4]at h3
 exact XQ _ h3
theorem Lx.keys{es:Array MapEntry}{clock:Nat}(E9:Of P k ek ev)(h:Lx ek ev m es clock):∀e∈es.toList,∃l,keyOf P k e.key=some l:=fun e he=>by
 obtain⟨p,_,e1,_⟩:=h.mem he
 rw[e1]
 exact E9.lit _
theorem Lx.size_eq{es:Array MapEntry}{clock:Nat}(h:Lx ek ev m es clock):es.size=m.length:=by
 have:=h.2.2.length_eq
 simpa using this
variable [DecidableEq κ]
theorem Lx.look{es:Array MapEntry}{clock:Nat}{w:World}(E9:Of P k ek ev)(h:Lx ek ev m es clock)(hb:w.heap[b]? = some (.map es clock)){ty e:TypeId}(ht:P.underlying ty=some (.map k e)){zv:α}(hz:Dl P e=some (ev zv))(key:κ)(c:Bool):
  (Instr.lookup ty (.map (some b)) (ek key) c).run P w=.ok (if c then .tuple #[ev ((Cm m key).getD zv),.bool (Cm m key).isSome]else ev ((Cm m key).getD zv)) w:=by
 obtain⟨lx,hl⟩:=E9.lit key
 rcases E9.keyed.find w hl es.toList (h.keys E9)with⟨h1,h2⟩ | ⟨j,e0,h1,h2,h3⟩
 have hg:Cm m key=none:=Ru fun p hp e=>by
  have:=h.2.2.mem_iff.2 (List.mem_map_of_mem (f:=fun p:κ×α=>(ek p.1,ev p.2)) hp)
  obtain⟨e',he',e1⟩:=List.mem_map.1 this
  simp only[Prod.mk.injEq]at e1
  exact h2 e' he' (by rw[e1.1,e])
 simp[Instr.lookup,Ar ht,MapKept.run_getObj_map hb,E9.keyed.check w _ hl,h1,Ms hz,Result.andThen,hg]
 obtain⟨p,hp,e1,e2⟩:=h.mem (List.mem_of_getElem? h2)
 have hk:p.1=key:=E9.inj (by rw[←e1,h3])
 have hg:=Oy h.nodup hp
 rw[hk]at hg
 simp[Instr.lookup,Ar ht,MapKept.run_getObj_map hb,E9.keyed.check w _ hl,h1,Result.andThen,hg,←e2]
theorem Lx.upd{es:Array MapEntry}{clock:Nat}{w:World}(E9:Of P k ek ev)(h:Lx ek ev m es clock)(hb:w.heap[b]? = some (.map es clock)){ty e:TypeId}(ht:P.underlying ty=some (.map k e))(key:κ)(a:α)(hroom:m.length<9223372036854775807):
  ∃es' clock',(Instr.mapUpdate ty (.map (some b)) (ek key) (ev a)).run P w=.ok () (setBlock w b (.map es' clock'))∧Lx ek ev (Ii m key a) es' clock':=by
 obtain⟨lx,hl⟩:=E9.lit key
 have hsz:=h.size_eq
 rcases E9.keyed.find w hl es.toList (h.keys E9)with⟨h1,h2⟩ | ⟨j,e0,h1,h2,h3⟩
 have hno:∀p∈m,p.1≠key:=fun p hp e=>by
  have:=h.2.2.mem_iff.2 (List.mem_map_of_mem (f:=fun p:κ×α=>(ek p.1,ev p.2)) hp)
  obtain⟨e',he',e1⟩:=List.mem_map.1 this
  simp only[Prod.mk.injEq]at e1
  exact h2 e' he' (by rw[e1.1,e])
 refine⟨es.push ⟨ek key,ev a,clock⟩,clock+1,?_,stamped_push h.1 h2,by simp only[maxLen,Array.size_push];omega,?_⟩
 simp[Instr.mapUpdate,Ar ht,MapKept.run_getObj_map hb,E9.keyed.check w false hl,h1,MapKept.run_setObj_map _ hb,Result.andThen,setBlock]
 unfold Ii
 rw[Q7 hno,Array.toList_push,List.map_append,List.map_cons]
 exact(List.perm_append_singleton _ _).trans (h.2.2.cons _)
 have hj:es[j]? = some e0:=by simpa using h2
 have hjl:j<es.toList.length:=(List.getElem?_eq_some_iff.1 h2).1
 obtain⟨p,hp,e1,e2⟩:=h.mem (List.mem_of_getElem? h2)
 have hk:p.1=key:=E9.inj (by rw[←e1,h3])
 have hkeyf:∀e',es[j]? = some e'→({ e' with key:=ek key,val:=ev a }:MapEntry).key=e'.key:=fun e' he'=>by rw[hj]at he';cases he';exact h3.symm
 have hlist:(es.modify j (fun e'=>{ e' with key:=ek key,val:=ev a })).toList=es.toList.set j { e0 with key:=ek key,val:=ev a }:=by rw[Array.toList_modify,modify_eq_set _ _ _ _ h2]
 refine⟨es.modify j (fun e'=>{ e' with key:=ek key,val:=ev a }),clock,?_,stamped_modify h.1 _ _ (fun _ _=>rfl) (fun e' _ he'=>hkeyf e' he'),by simpa using h.2.1,?_⟩
 simp[Instr.mapUpdate,Ar ht,MapKept.run_getObj_map hb,E9.keyed.check w false hl,h1,hj,h3,E9.keyed.stays w hl,MapKept.run_setObj_map _ hb,Result.andThen,setBlock]
 rw[hlist]
 unfold Ii
 have hspl:=UX h.nodup hp
 rw[hk]at hspl
 have p1:es.toList=es.toList.take j++e0::es.toList.drop (j+1):=(D9 h2).1
 have p2:es.toList.set j { e0 with key:=ek key,val:=ev a }=es.toList.take j++{ e0 with key:=ek key,val:=ev a }::es.toList.drop (j+1):=by
  rw[List.set_eq_take_append_cons_drop,if_pos hjl]
 rw[p2]
 have q1:((es.toList.take j++es.toList.drop (j+1)).map fun e=>(e.key,e.val)).Perm ((GK m key).map fun p=>(ek p.1,ev p.2)):=by
  have h5:=h.2.2
  rw[p1]at h5
  have h6:=(List.perm_middle (l₁:=es.toList.take j) (a:=e0) (l₂:=es.toList.drop (j+1))).symm.map (fun e:MapEntry=>(e.key,e.val))
  have h7:=(h6.trans h5).trans (hspl.map fun p=>(ek p.1,ev p.2))
  simp only[List.map_cons,e1,e2]at h7
  exact h7.cons_inv
 have h8:=(List.perm_middle (l₁:=es.toList.take j) (a:=({ e0 with key:=ek key,val:=ev a }:MapEntry)) (l₂:=es.toList.drop (j+1))).map (fun e:MapEntry=>(e.key,e.val))
 exact h8.trans (q1.cons _)
theorem Lx.drop{es:Array MapEntry}{clock:Nat}{w:World}(E9:Of P k ek ev)(h:Lx ek ev m es clock)(hb:w.heap[b]? = some (.map es clock)){t2 e rt:TypeId}(ht:P.underlying t2=some (.map k e))(key:κ):
  ∃es',(Builtin.delete_ #[t2,k] rt #[.map (some b),ek key]).run P w=.ok (.tuple #[]) (setBlock w b (.map es' clock))∧Lx ek ev (GK m key) es' clock:=by
 obtain⟨lx,hl⟩:=E9.lit key
 rcases E9.keyed.find w hl es.toList (h.keys E9)with⟨h1,h2⟩ | ⟨j,e0,h1,h2,h3⟩
 have hno:∀p∈m,p.1≠key:=fun p hp e=>by
  have:=h.2.2.mem_iff.2 (List.mem_map_of_mem (f:=fun p:κ×α=>(ek p.1,ev p.2)) hp)
  obtain⟨e',he',e1⟩:=List.mem_map.1 this
  simp only[Prod.mk.injEq]at e1
  exact h2 e' he' (by rw[e1.1,e])
 refine⟨es,?_,by rw[Q7 hno];exact h⟩
 simp[Builtin.delete_,Ar ht,MapKept.run_getObj_map hb,E9.keyed.check w _ hl,h1,MapKept.run_setObj_map _ hb,Result.andThen,setBlock]
 have hjl:j<es.toList.length:=(List.getElem?_eq_some_iff.1 h2).1
 have hjs:j<es.size:=by simpa using hjl
 obtain⟨p,hp,e1,e2⟩:=h.mem (List.mem_of_getElem? h2)
 have hk:p.1=key:=E9.inj (by rw[←e1,h3])
 have hsub:(es.eraseIdxIfInBounds j).toList=es.toList.eraseIdx j:=by
  unfold Array.eraseIdxIfInBounds
  rw[dif_pos hjs]
  simp
 refine⟨es.eraseIdxIfInBounds j,?_,stamped_erase h.1 j,Nat.le_trans (MapFrom.size_erase es j) h.2.1,?_⟩
 simp[Builtin.delete_,Ar ht,MapKept.run_getObj_map hb,E9.keyed.check w _ hl,h1,MapKept.run_setObj_map _ hb,Result.andThen,setBlock]
 rw[hsub,List.eraseIdx_eq_take_drop_succ]
 have hspl:=UX h.nodup hp
 rw[hk]at hspl
 have p1:es.toList=es.toList.take j++e0::es.toList.drop (j+1):=(D9 h2).1
 have h5:=h.2.2
 rw[p1]at h5
 have h6:=(List.perm_middle (l₁:=es.toList.take j) (a:=e0) (l₂:=es.toList.drop (j+1))).symm.map (fun e:MapEntry=>(e.key,e.val))
 have h7:=(h6.trans h5).trans (hspl.map fun p=>(ek p.1,ev p.2))
 simp only[List.map_cons,e1,e2]at h7
 exact h7.cons_inv
omit [DecidableEq κ]
/-! ### At the operation -/
theorem Lz(w:World)(b:Nat)(o:Obj):setBlock w b o=w.putObj b o:=rfl
theorem VB{ty:TypeId}(ek:κ→Value)(ev:α→Value)(ho:At ops N l o t (.makeMap ty none))(hs:∀b,ED Hs (A0 b ek ev []::H))
(h:∀b,SL P ro K w0 N ops Hs items Q D ((t,.map (some b))::l) (A0 b ek ev []::H)):SL P ro K w0 N ops Hs (.cons (false,o) items) Q D l H:=
 Fu (fun b=>.map (some b)) (fun b=>A0 b ek ev []::H) ho rfl (fun a w ha hw=>by
  refine⟨w.heap.size,w.alloc (.map #[] 0),?_,?_⟩
  simp[execOp,ho.op,Instr.makeMap]
  have h2:=hw.alloc (.map #[] 0)
  refine h2.turn rfl rfl rfl (Nat.le_refl _) (fun _ _ _=>rfl) ⟨#[],0,h2.holds _ (List.mem_cons_self ..),stamped_empty 0,by simp,by simp⟩ (fun j hj=>?_)
  exact⟨.inl hj,(h2.foot _ (List.mem_cons_self ..) j hj).1⟩) hs h
variable [DecidableEq κ]
theorem ZI{ty e:TypeId}{key:κ}{zv:α}(i:Nat)(E9:Of P k ek ev)(ho:At ops N l o t (.lookup ty x y false))(ht:P.underlying ty=some (.map k e))(hz:Dl P e=some (ev zv))(hx:BT l x=some (.map (some b)))(hy:BT l y=some (ek key))
(hi:(bif tk then Hs else H)[i]? = some (A0 b ek ev m))(h:SL P ro K w0 N ops Hs items Q D ((t,ev ((Cm m key).getD zv))::l) H):SL P ro K w0 N ops Hs (.cons (tk,o) items) Q D l H:=
 SL.val ho rfl (fun a w ha hsw=>by
  obtain⟨es,clock,hb,hr⟩:=hsw.holds _ (List.mem_of_getElem? hi)
  have:=hr.look E9 hb ht hz key false
  simp[execOp,ho.op,ha.eval hx,ha.eval hy,this]) h
theorem XV{ty e:TypeId}{key:κ}{zv:α}(i:Nat)(E9:Of P k ek ev)(ho:At ops N l o t (.lookup ty x y true))(ht:P.underlying ty=some (.map k e))(hz:Dl P e=some (ev zv))(hx:BT l x=some (.map (some b)))(hy:BT l y=some (ek key))
(hi:(bif tk then Hs else H)[i]? = some (A0 b ek ev m))(h:SL P ro K w0 N ops Hs items Q D ((t,.tuple #[ev ((Cm m key).getD zv),.bool (Cm m key).isSome])::l) H):SL P ro K w0 N ops Hs (.cons (tk,o) items) Q D l H:=
 SL.val ho rfl (fun a w ha hsw=>by
  obtain⟨es,clock,hb,hr⟩:=hsw.holds _ (List.mem_of_getElem? hi)
  have:=hr.look E9 hb ht hz key true
  simp[execOp,ho.op,ha.eval hx,ha.eval hy,this]) h
theorem ma{ty e:TypeId}{key:κ}{a:α}{z:Operand}(i:Nat)(E9:Of P k ek ev)(ho:At0 ops l o (.mapUpdate ty x y z))(ht:P.underlying ty=some (.map k e))(hx:BT l x=some (.map (some b)))(hy:BT l y=some (ek key))(hz:BT l z=some (ev a))
(hi:H[i]? = some (A0 b ek ev m))(hroom:m.length<9223372036854775807)(hs:ED Hs (H.set i (A0 b ek ev (Ii m key a))))(h:SL P ro K w0 N ops Hs items Q D l (H.set i (A0 b ek ev (Ii m key a)))):SL P ro K w0 N ops Hs (.cons (false,o) items) Q D l H:=
 Tt ho rfl (fun a' w ha hw=>by
  obtain⟨es,clock,hb,hr⟩:=hw.holds _ (List.mem_append_left _ (List.mem_of_getElem? hi))
  obtain⟨es',clock',hrun,hr'⟩:=hr.upd E9 hb ht key a hroom
  obtain⟨hlt,_⟩:=Array.getElem?_eq_some_iff.1 hb
  refine⟨_,by simp[execOp,ho.op,ha.eval hx,ha.eval hy,ha.eval hz,hrun];rfl,?_⟩
  refine hw.turnAt (c:=A0 b ek ev m) i hi rfl rfl rfl (by simp[Lz]) (fun j hj hne=>World.putObj_heap_other (fun e=>hne (by rw[e];rfl))) ⟨es',clock',World.putObj_heap_same hlt,hr'⟩ (fun j hj=>⟨.inl hj,?_⟩)
  obtain rfl:j=b:=hj
  simpa[Lz]using hlt) hs h
theorem mT{ty k' e:TypeId}{key:κ}(i:Nat)(E9:Of P k ek ev)(hd:o.dst=none)(hop:o.op=.call { callee:=.builtin .delete,args:=#[x,y],argTypes:=#[ty,k'] })(hwt:RF ops l o=some true)(hk:k'=k)(ht:P.underlying ty=some (.map k e))(hx:BT l x=some (.map (some b)))(hy:BT l y=some (ek key))
(hi:H[i]? = some (A0 b ek ev m))(hs:ED Hs (H.set i (A0 b ek ev (GK m key))))(h:SL P ro K w0 N ops Hs items Q D l (H.set i (A0 b ek ev (GK m key)))):SL P ro K w0 N ops Hs (.cons (false,o) items) Q D l H:=by
 subst hk
 intro a w ha hw hs0
 have hw1:=Fd hwt ha.vals
 simp only[PL,hw1,if_true]
 obtain⟨es,clock,hb,hr⟩:=hw.holds _ (List.mem_append_left _ (List.mem_of_getElem? hi))
 obtain⟨es',hrun,hr'⟩:=hr.drop (rt:=o.type) E9 hb ht key
 obtain⟨hlt,_⟩:=Array.getElem?_eq_some_iff.1 hb
 have hw':BJ K w0 (H.set i (A0 b ek ev (GK m key))++[BB D]) (setBlock w b (.map es' clock)):=by
  refine hw.turnAt (c:=A0 b ek ev m) i hi rfl rfl rfl (by simp[Lz]) (fun j hj hne=>World.putObj_heap_other (fun e=>hne (by rw[e];rfl))) ⟨es',clock,World.putObj_heap_same hlt,hr'⟩ (fun j hj=>⟨.inl hj,?_⟩)
  obtain rfl:j=b:=hj
  simpa[Lz]using hlt
 refine LX (by rw[hop];exact Gr rfl) (v:=.tuple #[]) (w':=setBlock w b (.map es' clock)) ?_ ⟨hs.hs hw',?_⟩
 unfold execOp
 simp only[hop,resolve,invoke,builtin,Sem.run_bind,Sem.run_pure,Result.andThen_ok,List.map_toArray,List.map_cons,List.map_nil,ha.vals.eval hx,ha.vals.eval hy,hrun]
 rw[hd]
 exact h _ _ ha hw' (hs.hs hw')
omit [DecidableEq κ]
theorem i8{ty e:TypeId}(i:Nat)(ho:At ops N l o t (.call { callee:=.builtin .len,args:=#[x],argTypes:=#[ty] }))(ht:P.underlying ty=some (.map k e))(hx:BT l x=some (.map (some b)))
(hi:(bif tk then Hs else H)[i]? = some (A0 b ek ev m))(h:SL P ro K w0 N ops Hs items Q D ((t,vI m.length)::l) H):SL P ro K w0 N ops Hs (.cons (tk,o) items) Q D l H:=
 SL.val ho rfl (fun a w ha hsw=>by
  obtain⟨es,clock,hb,hr⟩:=hsw.holds _ (List.mem_of_getElem? hi)
  have hsz:=hr.size_eq
  simp only[execOp,ho.op,resolve,invoke,builtin,Builtin.len_]
  simp[ha.eval hx,Ar ht,MapKept.run_getObj_map hb,goInt,hsz]) h
/-! ### Ranges -/
end maps
end

/- The engine: slices in cells, rows of any length made, stores into maps, in "= some" form; the devices' structures. No condition beyond those stated. -/
section
open Go Go.MapKept Go.ChangeMaps
variable {P:Program}{ro:Option Nat}{K:Nat→Prop}{w0:World}{N:Nat}{Q:Cc}{D:List Nat}{l l':Tm}{H H' Hs L:List AT}{ops:Array Oper}{items:G5}
variable {tk:Bool}{o:Oper}{t:Nat}{v:Value}{x y z:Operand}
/-! ### Slices' values in cells -/
theorem B6{α:Type}{e:TypeId}{sz:Nat}{enc:α→List Value}{xs:List α}(i:Nat)(hi:H[i]? = some (AE e sz v enc xs))(h:v.cells=#[v]→v.oneCell'=true→SL P ro K w0 N ops Hs items Q D l H):SL P ro K w0 N ops Hs items Q D l H:=by
 intro a w ha hw hs
 have hrow:w.ownsRow 0 e sz v xs.length (xs.flatMap enc):=hw.holds _ (List.mem_append_left _ (List.mem_of_getElem? hi))
 rcases hrow.2 with⟨rfl,_⟩ | ⟨g,cap,cur,rfl,_⟩
 exact h rfl rfl a w ha hw hs
 exact h rfl rfl a w ha hw hs
theorem DW{b off:Nat}{c:Array Value}{e ty:TypeId}(i:Nat)(ho:At0 ops l o (.store ty x y))(hx:BT l x=some (vP b off))(hy:BT l y=some v)(hi:H[i]? = some (AI b (.cells c e)))
(hn:CY P ty=some 1)(hv:v.cells=#[v])(h1:v.oneCell'=true)(hle:Nat.ble (off+1) c.size=true)
(hs:ED Hs (H.set i (AI b (.cells (Dr c off [v]) e))))(h:SL P ro K w0 N ops Hs items Q D l (H.set i (AI b (.cells (Dr c off [v]) e)))):SL P ro K w0 N ops Hs (.cons (false,o) items) Q D l H:=
 Am i ho hx hy hi hn (by rw[hv];rfl) (by rw[hv];simp[h1]) hle (by rw[hv];exact hs) (by rw[hv];exact h)
/-! ### Makes of any length -/
def Ur{α:Type}(by_:Nat)(n:Int)(a:α):Option (List α):=if 0≤n∧by_*n.toNat≤281474976710656∧n≤9223372036854775807 then some (List.replicate n.toNat a)else none
theorem iZ{α:Type}{by_:Nat}{n:Int}{a:α}{xs:List α}(h:Ur by_ n a=some xs):n=(n.toNat:Int)∧by_*n.toNat≤281474976710656∧n.toNat≤9223372036854775807∧xs=List.replicate n.toNat a:=by
 unfold Ur at h
 split at h
 rename_i hc
 exact⟨by omega,hc.2.1,by omega,(Option.some.inj h).symm⟩
 cases h
theorem iC{α:Type}{enc:α→List Value}{a:α}{zv:Value}(hz:zv.cells.toList=enc a)(h1:(enc a).length=1)(n:Nat):(madeCells zv.cells (n*1)).toList=(List.replicate n a).flatMap enc:=by
 obtain⟨u,hu⟩:=List.length_eq_one_iff.1 h1
 have hs:zv.cells=#[u]:=by apply Array.ext';rw[hz,hu]
 rw[hs]
 have hrep:(List.replicate n a).flatMap enc=List.replicate n u:=by
  induction n with
  | zero=>rfl
  | succ k ih=>rw[List.replicate_succ,List.flatMap_cons,ih,hu,List.replicate_succ];rfl
 rw[hrep]
 apply List.ext_getElem
 simp[madeCells]
 intro i h2 h3
 simp[madeCells,Nat.mod_one]
theorem Z8{α:Type}{e ty:TypeId}{by_:Nat}{zv:Value}{n:Int}{a:α}{xs:List α}(hn:Ur by_ n a=some xs)(enc:α→List Value)(ho:At ops N l o t (.makeSlice ty x x))(hty:P.underlying ty=some (.slice e))(hsz:CY P e=some 1)(hby:Ng P e=some by_)(hze:Dl P e=some zv)
(hx:BT l x=some (vI n))(hza:zv.cells.toList=enc a)(h1:(enc a).length=1)(hzs:zv.cells.size=1)
(hs:∀v',ED Hs (AE e 1 v' enc xs::H))(h:∀v',SL P ro K w0 N ops Hs items Q D ((t,v')::l) (AE e 1 v' enc xs::H)):SL P ro K w0 N ops Hs (.cons (false,o) items) Q D l H:=by
 obtain⟨h0,hb,h63,rfl⟩:=iZ hn
 generalize n.toNat=m at h0 hb h63 hs h
 subst h0
 refine Fu (fun b=>.slice (some ⟨b,0,none⟩) m m) (fun b=>AE e 1 (.slice (some ⟨b,0,none⟩) m m) enc (List.replicate m a)::H) ho zR (fun a' w ha hw=>?_) (fun b=>hs _) (fun b=>h _)
 obtain⟨ii,hii,e1,e2,e3⟩:=Nb hsz hby hze
 have hb':(ii.bytes:Int)*(m:Int)≤281474976710656:=by rw[e2,←Int.natCast_mul];omega
 have hr:=run_make (P:=P) w ty e ii zv hty hii e3 .i64 .i64 m m zO zO hb' zO
 rw[e1]at hr
 simp only[Int.toNat_natCast]at hr
 refine⟨w.heap.size,w.alloc (.cells (madeCells zv.cells (m*1)) e),?_,?_⟩
 unfold execOp
 simp only[ho.op,ha.eval hx,Sem.run_bind,hr,Result.andThen_ok,Sem.run_pure]
 have h2:=hw.alloc (.cells (madeCells zv.cells (m*1)) e)
 have hlen:((List.replicate m a).flatMap enc).length=m*1:=by simp[h1]
 refine h2.turn rfl rfl rfl (Nat.le_refl _) (fun _ _ _=>rfl) ⟨by simp[h1],.inr ⟨w.heap.size,m,_,by simp,Nat.zero_le _,h2.holds _ (List.mem_cons_self ..),by simp,by simp only[maxLen];omega,?_,?_⟩⟩ (fun k hk=>?_)
 simp[madeCells]
 rw[iC hza h1]
 rw[List.take_of_length_le (by simp[h1])]
 have hkb:k=w.heap.size:=by simp[AE,Value.ownBlock]at hk;exact hk.symm
 subst hkb
 exact⟨.inl rfl,(h2.foot _ (List.mem_cons_self ..) _ rfl).1⟩
/-! ### Stores into maps -/
def Nx{κ α:Type}[DecidableEq κ](m:List (κ×α))(k:κ)(a:α):Option (List (κ×α)):=if m.length<9223372036854775807 then some (Ii m k a)else none
theorem cR{κ α:Type}[DecidableEq κ]{m us:List (κ×α)}{k:κ}{a:α}(h:Nx m k a=some us):m.length<9223372036854775807∧us=Ii m k a:=by
 unfold Nx at h
 split at h
 exact⟨by assumption,(Option.some.inj h).symm⟩
 cases h
theorem WW{κ α:Type}[DecidableEq κ]{ek:κ→Value}{ev:α→Value}{m us:List (κ×α)}{k:TypeId}{b:Nat}{ty e:TypeId}{key:κ}{a:α}(i:Nat)(hn:Nx m key a=some us)(E9:Of P k ek ev)(ho:At0 ops l o (.mapUpdate ty x y z))(ht:P.underlying ty=some (.map k e))(hx:BT l x=some (.map (some b)))(hy:BT l y=some (ek key))(hz:BT l z=some (ev a))
(hi:H[i]? = some (A0 b ek ev m))(hs:ED Hs (H.set i (A0 b ek ev us)))(h:SL P ro K w0 N ops Hs items Q D l (H.set i (A0 b ek ev us))):SL P ro K w0 N ops Hs (.cons (false,o) items) Q D l H:=by
 obtain⟨hr,rfl⟩:=cR hn
 exact ma i E9 ho ht hx hy hz hi hr hs h
/-! ### The devices -/
structure rI where
 cnt:UInt64
 tag:List UInt8
 boots:UInt32
deriving DecidableEq
structure rL where
 act:Int
 page:UInt32
 num:Int
 txt:List UInt8
 lv:Value
 fates:List Int
structure A8 where
 off:Bool
 isCut:Bool
 lasts:Int
 counts:Int
 blocks:List (List UInt8)
 pend:List (UInt32×List UInt8)
 bad:List (UInt32×Bool)
 rcnt:UInt64
 rtag:List UInt8
 rboots:UInt32
structure BP where
 blk:List (List UInt8)
 pnd:List (List UInt8)
 bads:List Bool
 rcnt:UInt64
 rtag:List UInt8
 rboots:UInt32
 left:Int
 off:Bool
end
end Go.Proofs.YtkibffdipniemaaGreatDoor
