/- The texts T0, C0, C1, A0, D0, D1, D2, D3, B0, B1, D4, E0, E1, G0, G1, G2, H0, H1, I0, I1, R1, R2, X0, R3, V0, S14, S15, S16, S17, S18, S19, R4, one behind the other: walks of the program, and plain laws of what it computes. Conditions: as each theorem says. -/
import Derived.Test.YtjkhnhichalenaaGreatDoorXB1
import Derived.Test.YtjkhnhichalenaaGreatDoorChecked
import Derived.Maps.Range
import Derived.JoinedOf
import Derived.SliceStrings
import Derived.Deep.Slices
import Derived.HandedShaped

set_option linter.unusedVariables false
set_option linter.unusedSimpArgs false
set_option maxHeartbeats 4000000
set_option maxRecDepth 100000
namespace Go.Proofs.YtjkhnhichalenaaGreatDoor
open Go
section
abbrev zC:=Td Tryz.prog
set_option maxRecDepth 100000
theorem DG:Tryz.prog.follows .mixedOrders=true:=zK
theorem K8:Nn Tryz.prog 114=some 2:=zK
theorem FZ:Nn Tryz.prog 164=some 3:=zK
theorem NI:Nn Tryz.prog 167=some 5:=zK
theorem DD:Nn Tryz.prog 188=some 2:=zK
theorem Ro:Nn Tryz.prog 190=some 3:=zK
theorem Io:Nn Tryz.prog 200=some 5:=zK
theorem Wz:Nn Tryz.prog 238=some 8:=zK
theorem pi:Nn Tryz.prog 260=some 4:=zK
theorem Tf:Nn Tryz.prog 263=some 4:=zK
theorem ZY:Nn Tryz.prog 329=some 2:=zK
theorem HG:Nn Tryz.prog 35=some 4:=zK
theorem d6:Nn Tryz.prog 359=some 16:=zK
theorem pj:Nn Tryz.prog 366=some 8:=zK
theorem pm:Nn Tryz.prog 368=some 10:=zK
theorem d7:Nn Tryz.prog 389=some 4:=zK
theorem jz:Nn Tryz.prog 400=some 64:=zK
theorem pn:Nn Tryz.prog 405=some 2:=zK
theorem j0:Nn Tryz.prog 43=some 3:=zK
theorem pQ:Nn Tryz.prog 50=some 4:=zK
theorem UK:Nn Tryz.prog 83=some 5:=zK
theorem eE:PN Tryz.prog 114=some 24:=zK
theorem Ze:PN Tryz.prog 167=some 64:=zK
theorem pq:PN Tryz.prog 188=some 24:=zK
theorem kD:PN Tryz.prog 190=some 40:=zK
theorem QE:PN Tryz.prog 33=some 4:=zK
theorem W7:PN Tryz.prog 35=some 32:=zK
theorem sJ:PN Tryz.prog 37=some 24:=zK
theorem sK:PN Tryz.prog 4=some 1:=zK
theorem VE:PN Tryz.prog 5=some 1:=zK
theorem sL:PN Tryz.prog 83=some 40:=zK
theorem kE:PN Tryz.prog 9=some 16:=zK
theorem kL:AM Tryz.prog 10=true:=zK
theorem Z1:AM Tryz.prog 100=true:=zK
theorem Z2:AM Tryz.prog 101=true:=zK
theorem ms:AM Tryz.prog 102=true:=zK
theorem mu:AM Tryz.prog 103=true:=zK
theorem Z3:AM Tryz.prog 105=true:=zK
theorem f7:AM Tryz.prog 106=true:=zK
theorem f8:AM Tryz.prog 107=true:=zK
theorem f9:AM Tryz.prog 108=true:=zK
theorem gA:AM Tryz.prog 109=true:=zK
theorem mw:AM Tryz.prog 110=true:=zK
theorem mz:AM Tryz.prog 111=true:=zK
theorem m0:AM Tryz.prog 112=true:=zK
theorem gB:AM Tryz.prog 113=true:=zK
theorem nA:AM Tryz.prog 114=true:=zK
theorem nB:AM Tryz.prog 115=true:=zK
theorem gC:AM Tryz.prog 116=true:=zK
theorem nC:AM Tryz.prog 117=true:=zK
theorem kM:AM Tryz.prog 12=true:=zK
theorem nD:AM Tryz.prog 124=true:=zK
theorem nE:AM Tryz.prog 125=true:=zK
theorem UU:AM Tryz.prog 126=true:=zK
theorem nF:AM Tryz.prog 127=true:=zK
theorem nG:AM Tryz.prog 128=true:=zK
theorem gD:AM Tryz.prog 129=true:=zK
theorem kN:AM Tryz.prog 13=true:=zK
theorem gE:AM Tryz.prog 130=true:=zK
theorem nH:AM Tryz.prog 131=true:=zK
theorem gF:AM Tryz.prog 132=true:=zK
theorem nI:AM Tryz.prog 133=true:=zK
theorem gG:AM Tryz.prog 134=true:=zK
theorem nJ:AM Tryz.prog 135=true:=zK
theorem gH:AM Tryz.prog 136=true:=zK
theorem nK:AM Tryz.prog 137=true:=zK
theorem nL:AM Tryz.prog 138=true:=zK
theorem gI:AM Tryz.prog 139=true:=zK
theorem XQ:AM Tryz.prog 14=true:=zK
theorem WZ:AM Tryz.prog 140=true:=zK
theorem gJ:AM Tryz.prog 141=true:=zK
theorem gK:AM Tryz.prog 142=true:=zK
theorem nM:AM Tryz.prog 143=true:=zK
theorem pw:AM Tryz.prog 15=true:=zK
theorem nN:AM Tryz.prog 153=true:=zK
theorem nO:AM Tryz.prog 154=true:=zK
theorem nP:AM Tryz.prog 155=true:=zK
theorem Wa:AM Tryz.prog 156=true:=zK
theorem nQ:AM Tryz.prog 157=true:=zK
theorem nR:AM Tryz.prog 158=true:=zK
theorem nS:AM Tryz.prog 159=true:=zK
theorem eN:AM Tryz.prog 16=true:=zK
theorem nT:AM Tryz.prog 160=true:=zK
theorem nU:AM Tryz.prog 161=true:=zK
theorem nV:AM Tryz.prog 162=true:=zK
theorem nW:AM Tryz.prog 163=true:=zK
theorem nX:AM Tryz.prog 164=true:=zK
theorem nY:AM Tryz.prog 165=true:=zK
theorem nZ:AM Tryz.prog 166=true:=zK
theorem na:AM Tryz.prog 167=true:=zK
theorem nb:AM Tryz.prog 168=true:=zK
theorem Z4:AM Tryz.prog 169=true:=zK
theorem px:AM Tryz.prog 17=true:=zK
theorem nc:AM Tryz.prog 170=true:=zK
theorem Wb:AM Tryz.prog 171=true:=zK
theorem ne:AM Tryz.prog 172=true:=zK
theorem nf:AM Tryz.prog 176=true:=zK
theorem ng:AM Tryz.prog 177=true:=zK
theorem Z5:AM Tryz.prog 178=true:=zK
theorem nh:AM Tryz.prog 179=true:=zK
theorem py:AM Tryz.prog 18=true:=zK
theorem ni:AM Tryz.prog 180=true:=zK
theorem nj:AM Tryz.prog 186=true:=zK
theorem pz:AM Tryz.prog 19=true:=zK
theorem nk:AM Tryz.prog 195=true:=zK
theorem nl:AM Tryz.prog 196=true:=zK
theorem nm:AM Tryz.prog 197=true:=zK
theorem nn:AM Tryz.prog 198=true:=zK
theorem np:AM Tryz.prog 199=true:=zK
theorem kO:AM Tryz.prog 20=true:=zK
theorem nq:AM Tryz.prog 200=true:=zK
theorem gL:AM Tryz.prog 201=true:=zK
theorem nr:AM Tryz.prog 202=true:=zK
theorem gM:AM Tryz.prog 203=true:=zK
theorem nt:AM Tryz.prog 204=true:=zK
theorem nu:AM Tryz.prog 205=true:=zK
theorem MY:AM Tryz.prog 206=true:=zK
theorem gN:AM Tryz.prog 207=true:=zK
theorem nw:AM Tryz.prog 208=true:=zK
theorem ny:AM Tryz.prog 209=true:=zK
theorem nz:AM Tryz.prog 210=true:=zK
theorem n6:AM Tryz.prog 211=true:=zK
theorem n7:AM Tryz.prog 212=true:=zK
theorem n8:AM Tryz.prog 213=true:=zK
theorem n9:AM Tryz.prog 214=true:=zK
theorem gO:AM Tryz.prog 215=true:=zK
theorem oA:AM Tryz.prog 216=true:=zK
theorem MZ:AM Tryz.prog 217=true:=zK
theorem oB:AM Tryz.prog 218=true:=zK
theorem oC:AM Tryz.prog 219=true:=zK
theorem gP:AM Tryz.prog 220=true:=zK
theorem gQ:AM Tryz.prog 221=true:=zK
theorem oD:AM Tryz.prog 222=true:=zK
theorem Z6:AM Tryz.prog 223=true:=zK
theorem oE:AM Tryz.prog 224=true:=zK
theorem oF:AM Tryz.prog 232=true:=zK
theorem gR:AM Tryz.prog 233=true:=zK
theorem oG:AM Tryz.prog 234=true:=zK
theorem Z7:AM Tryz.prog 235=true:=zK
theorem gS:AM Tryz.prog 236=true:=zK
theorem oH:AM Tryz.prog 237=true:=zK
theorem Wc:AM Tryz.prog 238=true:=zK
theorem Wd:AM Tryz.prog 239=true:=zK
theorem Z8:AM Tryz.prog 240=true:=zK
theorem gT:AM Tryz.prog 241=true:=zK
theorem gU:AM Tryz.prog 242=true:=zK
theorem oI:AM Tryz.prog 243=true:=zK
theorem oJ:AM Tryz.prog 244=true:=zK
theorem oK:AM Tryz.prog 245=true:=zK
theorem p9:AM Tryz.prog 25=true:=zK
theorem oL:AM Tryz.prog 254=true:=zK
theorem gV:AM Tryz.prog 255=true:=zK
theorem oM:AM Tryz.prog 256=true:=zK
theorem oN:AM Tryz.prog 257=true:=zK
theorem oO:AM Tryz.prog 258=true:=zK
theorem gW:AM Tryz.prog 259=true:=zK
theorem qA:AM Tryz.prog 26=true:=zK
theorem aA:AM Tryz.prog 260=true:=zK
theorem oP:AM Tryz.prog 261=true:=zK
theorem qB:AM Tryz.prog 27=true:=zK
theorem oQ:AM Tryz.prog 271=true:=zK
theorem oR:AM Tryz.prog 272=true:=zK
theorem gX:AM Tryz.prog 273=true:=zK
theorem oS:AM Tryz.prog 274=true:=zK
theorem gY:AM Tryz.prog 275=true:=zK
theorem oT:AM Tryz.prog 276=true:=zK
theorem oU:AM Tryz.prog 277=true:=zK
theorem oV:AM Tryz.prog 278=true:=zK
theorem kP:AM Tryz.prog 28=true:=zK
theorem oW:AM Tryz.prog 285=true:=zK
theorem Sy:AM Tryz.prog 286=true:=zK
theorem oX:AM Tryz.prog 287=true:=zK
theorem oY:AM Tryz.prog 288=true:=zK
theorem oZ:AM Tryz.prog 289=true:=zK
theorem qC:AM Tryz.prog 29=true:=zK
theorem gZ:AM Tryz.prog 290=true:=zK
theorem VI:AM Tryz.prog 30=true:=zK
theorem oa:AM Tryz.prog 302=true:=zK
theorem ob:AM Tryz.prog 303=true:=zK
theorem ga:AM Tryz.prog 304=true:=zK
theorem gb:AM Tryz.prog 305=true:=zK
theorem oc:AM Tryz.prog 306=true:=zK
theorem od:AM Tryz.prog 307=true:=zK
theorem oe:AM Tryz.prog 309=true:=zK
theorem qD:AM Tryz.prog 31=true:=zK
theorem PY:AM Tryz.prog 310=true:=zK
theorem Nd:AM Tryz.prog 311=true:=zK
theorem og:AM Tryz.prog 316=true:=zK
theorem oh:AM Tryz.prog 317=true:=zK
theorem aB:AM Tryz.prog 318=true:=zK
theorem ol:AM Tryz.prog 319=true:=zK
theorem qE:AM Tryz.prog 32=true:=zK
theorem Nf:AM Tryz.prog 320=true:=zK
theorem om:AM Tryz.prog 321=true:=zK
theorem gc:AM Tryz.prog 322=true:=zK
theorem gd:AM Tryz.prog 323=true:=zK
theorem We:AM Tryz.prog 325=true:=zK
theorem kQ:AM Tryz.prog 33=true:=zK
theorem kR:AM Tryz.prog 34=true:=zK
theorem eO:AM Tryz.prog 35=true:=zK
theorem qF:AM Tryz.prog 36=true:=zK
theorem qG:AM Tryz.prog 37=true:=zK
theorem R9:AM Tryz.prog 39=true:=zK
theorem qH:AM Tryz.prog 40=true:=zK
theorem kS:AM Tryz.prog 41=true:=zK
theorem kT:AM Tryz.prog 42=true:=zK
theorem kU:AM Tryz.prog 43=true:=zK
theorem qI:AM Tryz.prog 44=true:=zK
theorem kV:AM Tryz.prog 45=true:=zK
theorem qJ:AM Tryz.prog 46=true:=zK
theorem qK:AM Tryz.prog 47=true:=zK
theorem qL:AM Tryz.prog 48=true:=zK
theorem qM:AM Tryz.prog 49=true:=zK
theorem qN:AM Tryz.prog 50=true:=zK
theorem qO:AM Tryz.prog 51=true:=zK
theorem qP:AM Tryz.prog 52=true:=zK
theorem qQ:AM Tryz.prog 53=true:=zK
theorem qR:AM Tryz.prog 54=true:=zK
theorem kW:AM Tryz.prog 56=true:=zK
theorem kX:AM Tryz.prog 58=true:=zK
theorem SA:AM Tryz.prog 59=true:=zK
theorem sM:AM Tryz.prog 6=true:=zK
theorem aC:AM Tryz.prog 60=true:=zK
theorem Po:AM Tryz.prog 61=true:=zK
theorem eP:AM Tryz.prog 62=true:=zK
theorem qS:AM Tryz.prog 63=true:=zK
theorem qT:AM Tryz.prog 64=true:=zK
theorem qU:AM Tryz.prog 65=true:=zK
theorem kY:AM Tryz.prog 66=true:=zK
theorem kZ:AM Tryz.prog 67=true:=zK
theorem ka:AM Tryz.prog 68=true:=zK
theorem eQ:AM Tryz.prog 69=true:=zK
theorem pR:AM Tryz.prog 7=true:=zK
theorem aD:AM Tryz.prog 70=true:=zK
theorem kb:AM Tryz.prog 71=true:=zK
theorem qV:AM Tryz.prog 72=true:=zK
theorem qW:AM Tryz.prog 73=true:=zK
theorem qX:AM Tryz.prog 74=true:=zK
theorem qY:AM Tryz.prog 75=true:=zK
theorem eR:AM Tryz.prog 76=true:=zK
theorem XR:AM Tryz.prog 77=true:=zK
theorem qZ:AM Tryz.prog 78=true:=zK
theorem kc:AM Tryz.prog 79=true:=zK
theorem pS:AM Tryz.prog 8=true:=zK
theorem qa:AM Tryz.prog 83=true:=zK
theorem eT:AM Tryz.prog 85=true:=zK
theorem qb:AM Tryz.prog 86=true:=zK
theorem qc:AM Tryz.prog 87=true:=zK
theorem aE:AM Tryz.prog 88=true:=zK
theorem kd:AM Tryz.prog 89=true:=zK
theorem pT:AM Tryz.prog 9=true:=zK
theorem qe:AM Tryz.prog 90=true:=zK
theorem qf:AM Tryz.prog 91=true:=zK
theorem qg:AM Tryz.prog 92=true:=zK
theorem qh:AM Tryz.prog 93=true:=zK
theorem ke:AM Tryz.prog 94=true:=zK
theorem kf:AM Tryz.prog 95=true:=zK
theorem aF:AM Tryz.prog 96=true:=zK
theorem eU:AM Tryz.prog 97=true:=zK
theorem eV:AM Tryz.prog 98=true:=zK
theorem eW:AM Tryz.prog 99=true:=zK
theorem tB:Tryz.prog.cellsOf 5=1:=zK
theorem ee:cf Tryz.prog 164=some [(0,.int .u32),(1,.int .u32),(2,.int .i64)]:=zK
theorem qj:cf Tryz.prog 188=some [(0,.int .u32),(1,.string)]:=zK
theorem pV:cf Tryz.prog 35=some [(0,.int .u64),(1,.int .u32),(2,.int .u32),(3,.string)]:=zK
theorem sN:cf Tryz.prog 43=some [(0,.int .u64),(1,.string),(2,.int .u32)]:=zK
theorem Uf:fo Tryz.prog 100 0=some 0:=zK
theorem QL:fo Tryz.prog 100 1=some 4:=zK
theorem SJ:fo Tryz.prog 100 2=some 5:=zK
theorem LU:fo Tryz.prog 100 4=some 7:=zK
theorem QM:fo Tryz.prog 107 0=some 0:=zK
theorem QN:fo Tryz.prog 107 1=some 1:=zK
theorem cm:fo Tryz.prog 107 2=some 2:=zK
theorem LV:fo Tryz.prog 107 3=some 3:=zK
theorem Ug:fo Tryz.prog 107 4=some 6:=zK
theorem cn:fo Tryz.prog 107 5=some 7:=zK
theorem FW:fo Tryz.prog 114 0=some 0:=zK
theorem QO:fo Tryz.prog 114 1=some 1:=zK
theorem KK:fo Tryz.prog 122 0=some 0:=zK
theorem ko:fo Tryz.prog 122 1=some 1:=zK
theorem Uh:fo Tryz.prog 122 2=some 2:=zK
theorem kp:fo Tryz.prog 122 3=some 3:=zK
theorem Ui:fo Tryz.prog 136 0=some 0:=zK
theorem Ic:fo Tryz.prog 136 1=some 1:=zK
theorem O4:fo Tryz.prog 153 0=some 0:=zK
theorem kq:fo Tryz.prog 153 1=some 1:=zK
theorem Xe:fo Tryz.prog 153 2=some 2:=zK
theorem kr:fo Tryz.prog 153 3=some 3:=zK
theorem Xf:fo Tryz.prog 153 4=some 4:=zK
theorem SK:fo Tryz.prog 153 5=some 5:=zK
theorem JM:fo Tryz.prog 164 0=some 0:=zK
theorem JN:fo Tryz.prog 164 1=some 1:=zK
theorem GN:fo Tryz.prog 164 2=some 2:=zK
theorem QP:fo Tryz.prog 167 0=some 0:=zK
theorem SM:fo Tryz.prog 167 1=some 3:=zK
theorem KL:fo Tryz.prog 167 2=some 4:=zK
theorem cq:fo Tryz.prog 181 0=some 0:=zK
theorem kt:fo Tryz.prog 181 1=some 1:=zK
theorem ku:fo Tryz.prog 181 2=some 2:=zK
theorem kw:fo Tryz.prog 181 3=some 3:=zK
theorem Xg:fo Tryz.prog 181 4=some 4:=zK
theorem Uj:fo Tryz.prog 181 5=some 5:=zK
theorem FX:fo Tryz.prog 188 0=some 0:=zK
theorem Mw:fo Tryz.prog 188 1=some 1:=zK
theorem kx:fo Tryz.prog 190 0=some 0:=zK
theorem KM:fo Tryz.prog 190 1=some 1:=zK
theorem ky:fo Tryz.prog 196 0=some 0:=zK
theorem Xh:fo Tryz.prog 196 1=some 1:=zK
theorem SN:fo Tryz.prog 196 2=some 2:=zK
theorem LW:fo Tryz.prog 200 0=some 0:=zK
theorem Uk:fo Tryz.prog 200 1=some 1:=zK
theorem Ul:fo Tryz.prog 200 2=some 2:=zK
theorem QQ:fo Tryz.prog 200 3=some 3:=zK
theorem cr:fo Tryz.prog 212 0=some 0:=zK
theorem kz:fo Tryz.prog 212 1=some 1:=zK
theorem Xi:fo Tryz.prog 212 2=some 2:=zK
theorem ct:fo Tryz.prog 212 3=some 3:=zK
theorem Xj:fo Tryz.prog 212 4=some 4:=zK
theorem QR:fo Tryz.prog 238 0=some 0:=zK
theorem JO:fo Tryz.prog 238 1=some 1:=zK
theorem KN:fo Tryz.prog 238 2=some 4:=zK
theorem Fu:fo Tryz.prog 238 3=some 5:=zK
theorem Mx:fo Tryz.prog 238 4=some 6:=zK
theorem cu:fo Tryz.prog 263 0=some 0:=zK
theorem Um:fo Tryz.prog 263 1=some 1:=zK
theorem Xk:fo Tryz.prog 263 2=some 2:=zK
theorem Xl:fo Tryz.prog 263 3=some 3:=zK
theorem SO:fo Tryz.prog 310 0=some 0:=zK
theorem Xm:fo Tryz.prog 335 0=some 0:=zK
theorem Pc:fo Tryz.prog 35 0=some 0:=zK
theorem Lt:fo Tryz.prog 35 1=some 1:=zK
theorem Lu:fo Tryz.prog 35 2=some 2:=zK
theorem OS:fo Tryz.prog 35 3=some 3:=zK
theorem Xn:fo Tryz.prog 368 0=some 0:=zK
theorem LX:fo Tryz.prog 368 1=some 8:=zK
theorem Un:fo Tryz.prog 368 2=some 9:=zK
theorem Pd:fo Tryz.prog 43 0=some 0:=zK
theorem aP:fo Tryz.prog 43 1=some 1:=zK
theorem Pe:fo Tryz.prog 43 2=some 2:=zK
theorem gk:fo Tryz.prog 50 0=some 0:=zK
theorem gl:fo Tryz.prog 50 1=some 1:=zK
theorem aQ:fo Tryz.prog 50 2=some 2:=zK
theorem aR:fo Tryz.prog 50 3=some 3:=zK
theorem Pf:fo Tryz.prog 78 0=some 0:=zK
theorem Qx:fo Tryz.prog 78 1=some 1:=zK
theorem Nj:fo Tryz.prog 80 0=some 0:=zK
theorem Wh:fo Tryz.prog 80 1=some 2:=zK
theorem oo:fo Tryz.prog 80 2=some 3:=zK
theorem Wi:fo Tryz.prog 83 0=some 0:=zK
theorem aS:fo Tryz.prog 83 1=some 1:=zK
theorem aT:fo Tryz.prog 91 0=some 0:=zK
theorem aU:fo Tryz.prog 91 1=some 1:=zK
theorem oq:fo Tryz.prog 91 2=some 2:=zK
theorem Pg:fo Tryz.prog 94 0=some 0:=zK
theorem OT:fo Tryz.prog 94 1=some 3:=zK
theorem S2:fo Tryz.prog 94 2=some 4:=zK
theorem gm:fo Tryz.prog 94 4=some 6:=zK
theorem aV:fo Tryz.prog 94 5=some 7:=zK
theorem gn:fo Tryz.prog 96 0=some 0:=zK
theorem gp:fo Tryz.prog 96 1=some 1:=zK
theorem aW:fo Tryz.prog 96 2=some 2:=zK
theorem gq:fo Tryz.prog 96 3=some 3:=zK
theorem Q1:liesAt Tryz.prog Tryz.prog.depth 136 (2 / Tryz.prog.cellsOf 136) 0 136 1=true:=zK
theorem k6:liesAt Tryz.prog Tryz.prog.depth 310 (2 / Tryz.prog.cellsOf 310) 0 136 1=true:=zK
theorem ah:liesAt Tryz.prog Tryz.prog.depth 335 (2 / Tryz.prog.cellsOf 335) 0 136 1=true:=zK
theorem qq:Ld Tryz.prog 100=true:=zK
theorem qr:Ld Tryz.prog 107=true:=zK
theorem Xy:Ld Tryz.prog 114=true:=zK
theorem qs:Ld Tryz.prog 122=true:=zK
theorem qt:Ld Tryz.prog 153=true:=zK
theorem Q6:Ld Tryz.prog 164=true:=zK
theorem ak:Ld Tryz.prog 167=true:=zK
theorem qu:Ld Tryz.prog 181=true:=zK
theorem OB:Ld Tryz.prog 188=true:=zK
theorem lH:Ld Tryz.prog 190=true:=zK
theorem qv:Ld Tryz.prog 196=true:=zK
theorem Tz:Ld Tryz.prog 200=true:=zK
theorem qw:Ld Tryz.prog 212=true:=zK
theorem e9:Ld Tryz.prog 238=true:=zK
theorem lI:Ld Tryz.prog 263=true:=zK
theorem al:Ld Tryz.prog 329=true:=zK
theorem qz:Ld Tryz.prog 330=true:=zK
theorem dE:Ld Tryz.prog 35=true:=zK
theorem q8:Ld Tryz.prog 368=true:=zK
theorem q9:Ld Tryz.prog 389=true:=zK
theorem rA:Ld Tryz.prog 406=true:=zK
theorem sR:Ld Tryz.prog 43=true:=zK
theorem sS:Ld Tryz.prog 50=true:=zK
theorem sT:Ld Tryz.prog 76=true:=zK
theorem sU:Ld Tryz.prog 80=true:=zK
theorem sV:Ld Tryz.prog 83=true:=zK
theorem sW:Ld Tryz.prog 91=true:=zK
theorem sX:Ld Tryz.prog 94=true:=zK
theorem rB:Lc Tryz.prog 100=some [(0,4),(4,1),(5,1),(6,1),(7,3)]:=zK
theorem rC:Lc Tryz.prog 107=some [(0,1),(1,1),(2,1),(3,3),(6,1),(7,1)]:=zK
theorem Xz:Lc Tryz.prog 114=some [(0,1),(1,1)]:=zK
theorem rD:Lc Tryz.prog 122=some [(0,1),(1,1),(2,1),(3,1),(4,1)]:=zK
theorem rE:Lc Tryz.prog 153=some [(0,1),(1,1),(2,1),(3,1),(4,1),(5,1)]:=zK
theorem Q7:Lc Tryz.prog 164=some [(0,1),(1,1),(2,1)]:=zK
theorem am:Lc Tryz.prog 167=some [(0,3),(3,1),(4,1)]:=zK
theorem rF:Lc Tryz.prog 181=some [(0,1),(1,1),(2,1),(3,1),(4,1),(5,1)]:=zK
theorem OC:Lc Tryz.prog 188=some [(0,1),(1,1)]:=zK
theorem lJ:Lc Tryz.prog 190=some [(0,1),(1,2)]:=zK
theorem rG:Lc Tryz.prog 196=some [(0,1),(1,1),(2,1)]:=zK
theorem T0:Lc Tryz.prog 200=some [(0,1),(1,1),(2,1),(3,2)]:=zK
theorem rH:Lc Tryz.prog 212=some [(0,1),(1,1),(2,1),(3,1),(4,1),(5,1)]:=zK
theorem fA:Lc Tryz.prog 238=some [(0,1),(1,3),(4,1),(5,1),(6,2)]:=zK
theorem lK:Lc Tryz.prog 263=some [(0,1),(1,1),(2,1),(3,1)]:=zK
theorem an:Lc Tryz.prog 329=some [(0,1),(1,1)]:=zK
theorem rI:Lc Tryz.prog 330=some [(0,2),(2,2),(4,2),(6,2)]:=zK
theorem dF:Lc Tryz.prog 35=some [(0,1),(1,1),(2,1),(3,1)]:=zK
theorem rJ:Lc Tryz.prog 368=some [(0,8),(8,1),(9,1)]:=zK
theorem rK:Lc Tryz.prog 389=some [(0,1),(1,1),(2,1),(3,1)]:=zK
theorem rL:Lc Tryz.prog 406=some [(0,2),(2,2)]:=zK
theorem sY:Lc Tryz.prog 43=some [(0,1),(1,1),(2,1)]:=zK
theorem sZ:Lc Tryz.prog 50=some [(0,1),(1,1),(2,1),(3,1)]:=zK
theorem sa:Lc Tryz.prog 76=some [(0,1),(1,1),(2,1),(3,1)]:=zK
theorem sb:Lc Tryz.prog 80=some [(0,2),(2,1),(3,1)]:=zK
theorem sd:Lc Tryz.prog 83=some [(0,1),(1,4)]:=zK
theorem se:Lc Tryz.prog 91=some [(0,1),(1,1),(2,1)]:=zK
theorem sf:Lc Tryz.prog 94=some [(0,3),(3,1),(4,1),(5,1),(6,1),(7,1)]:=zK
theorem Vb:JQ Tryz.prog 105=true:=zK
theorem P0:JQ Tryz.prog 112=true:=zK
theorem NY:JQ Tryz.prog 117=true:=zK
theorem fO:JQ Tryz.prog 120=true:=zK
theorem rN:JQ Tryz.prog 123=true:=zK
theorem fP:JQ Tryz.prog 134=true:=zK
theorem T5:JQ Tryz.prog 165=true:=zK
theorem lW:JQ Tryz.prog 183=true:=zK
theorem bB:JQ Tryz.prog 191=true:=zK
theorem rO:JQ Tryz.prog 194=true:=zK
theorem LE:JQ Tryz.prog 236=true:=zK
theorem hG:JQ Tryz.prog 24=true:=zK
theorem NC:JQ Tryz.prog 25=true:=zK
theorem bC:JQ Tryz.prog 268=true:=zK
theorem QT:JQ Tryz.prog 29=true:=zK
theorem FJ:JQ Tryz.prog 3=true:=zK
theorem G7:JQ Tryz.prog 32=true:=zK
theorem A7:JQ Tryz.prog 33=true:=zK
theorem PF:JQ Tryz.prog 362=true:=zK
theorem FY:JQ Tryz.prog 37=true:=zK
theorem U1:JQ Tryz.prog 4=true:=zK
theorem OJ:JQ Tryz.prog 40=true:=zK
theorem si:JQ Tryz.prog 48=true:=zK
theorem X7:JQ Tryz.prog 64=true:=zK
theorem lX:JQ Tryz.prog 69=true:=zK
theorem ZG:JQ Tryz.prog 74=true:=zK
theorem QU:JQ Tryz.prog 88=true:=zK
theorem sj:JQ Tryz.prog 89=true:=zK
theorem Fx:JQ Tryz.prog 9=true:=zK
theorem Sd:JQ Tryz.prog 92=true:=zK
theorem dP:JQ Tryz.prog 97=true:=zK
theorem hI:JQ Tryz.prog 98=true:=zK
theorem rP:DH Tryz.prog 105=some 1:=zK
theorem fS:DH Tryz.prog 112=some 1:=zK
theorem E5:DH Tryz.prog 114=some 2:=zK
theorem fT:DH Tryz.prog 120=some 1:=zK
theorem rQ:DH Tryz.prog 134=some 1:=zK
theorem fU:DH Tryz.prog 136=some 2:=zK
theorem Sf:DH Tryz.prog 164=some 3:=zK
theorem bH:DH Tryz.prog 165=some 1:=zK
theorem If:DH Tryz.prog 167=some 5:=zK
theorem rR:DH Tryz.prog 183=some 1:=zK
theorem EX:DH Tryz.prog 188=some 2:=zK
theorem KV:DH Tryz.prog 190=some 3:=zK
theorem M3:DH Tryz.prog 200=some 5:=zK
theorem rS:DH Tryz.prog 236=some 1:=zK
theorem rT:DH Tryz.prog 238=some 8:=zK
theorem rU:DH Tryz.prog 263=some 4:=zK
theorem rV:DH Tryz.prog 268=some 1:=zK
theorem dW:DH Tryz.prog 29=some 1:=zK
theorem PI:DH Tryz.prog 3=some 1:=zK
theorem hQ:DH Tryz.prog 32=some 1:=zK
theorem bI:DH Tryz.prog 329=some 2:=zK
theorem Bk:DH Tryz.prog 33=some 1:=zK
theorem Dh:DH Tryz.prog 35=some 4:=zK
theorem lj:DH Tryz.prog 359=some 16:=zK
theorem rW:DH Tryz.prog 368=some 10:=zK
theorem JR:DH Tryz.prog 37=some 1:=zK
theorem Vf:DH Tryz.prog 389=some 4:=zK
theorem Re:DH Tryz.prog 4=some 1:=zK
theorem lk:DH Tryz.prog 40=some 1:=zK
theorem rX:DH Tryz.prog 400=some 64:=zK
theorem rY:DH Tryz.prog 405=some 2:=zK
theorem pY:DH Tryz.prog 43=some 3:=zK
theorem Jg:DH Tryz.prog 5=some 1:=zK
theorem sm:DH Tryz.prog 50=some 4:=zK
theorem ll:DH Tryz.prog 74=some 1:=zK
theorem YC:DH Tryz.prog 83=some 5:=zK
theorem lm:DH Tryz.prog 88=some 1:=zK
theorem GD:DH Tryz.prog 9=some 1:=zK
theorem sn:DH Tryz.prog 91=some 3:=zK
theorem Si:Tryz.prog.underlying 105=some (.slice 4):=zK
theorem Cb:Tryz.prog.underlying 112=some (.slice 5):=zK
theorem rZ:Tryz.prog.underlying 117=some (.pointer 153):=zK
theorem CU:Tryz.prog.underlying 120=some (.slice 33):=zK
theorem PJ:Tryz.prog.underlying 130=some (.int .u64):=zK
theorem YE:Tryz.prog.underlying 134=some (.pointer 136):=zK
theorem OD:Tryz.prog.underlying 165=some (.slice 167):=zK
theorem ln:Tryz.prog.underlying 176=some (.pointer 5):=zK
theorem lo:Tryz.prog.underlying 183=some (.map 9 188):=zK
theorem sp:Tryz.prog.underlying 2=some (.int .i64):=zK
theorem lq:Tryz.prog.underlying 208=some (.map 33 190):=zK
theorem lw:Tryz.prog.underlying 225=some (.unsafePointer):=zK
theorem su:Tryz.prog.underlying 23=some (.pointer 80):=zK
theorem I8:Tryz.prog.underlying 236=some (.slice 188):=zK
theorem hY:Tryz.prog.underlying 24=some (.pointer 94):=zK
theorem U3:Tryz.prog.underlying 25=some (.pointer 100):=zK
theorem OE:Tryz.prog.underlying 260=some (.array 4 37):=zK
theorem Vg:Tryz.prog.underlying 268=some (.slice 37):=zK
theorem I9:Tryz.prog.underlying 3=some (.int .i64):=zK
theorem DL:Tryz.prog.underlying 32=some (.int .u64):=zK
theorem Sj:Tryz.prog.underlying 329=some (.array 2 33):=zK
theorem CP:Tryz.prog.underlying 33=some (.int .u32):=zK
theorem bM:Tryz.prog.underlying 330=some (.array 4 329):=zK
theorem P2:Tryz.prog.underlying 359=some (.array 16 33):=zK
theorem ra:Tryz.prog.underlying 362=some (.pointer 368):=zK
theorem lz:Tryz.prog.underlying 365=some (.array 8 33):=zK
theorem PK:Tryz.prog.underlying 366=some (.array 8 33):=zK
theorem C3:Tryz.prog.underlying 37=some (.slice 35):=zK
theorem Vh:Tryz.prog.underlying 388=some (.array 4 3):=zK
theorem P3:Tryz.prog.underlying 389=some (.array 4 33):=zK
theorem Db:Tryz.prog.underlying 40=some (.slice 9):=zK
theorem RH:Tryz.prog.underlying 400=some (.array 64 33):=zK
theorem bN:Tryz.prog.underlying 405=some (.array 2 3):=zK
theorem rf:Tryz.prog.underlying 406=some (.array 2 405):=zK
theorem DI:Tryz.prog.underlying 5=some (.int .u8):=zK
theorem GY:Tryz.prog.underlying 69=some (.slice 114):=zK
theorem RV:Tryz.prog.underlying 74=some (.slice 83):=zK
theorem KW:Tryz.prog.underlying 88=some (.slice 190):=zK
theorem hZ:Tryz.prog.underlying 89=some (.map 33 33):=zK
theorem Ch:Tryz.prog.underlying 9=some (.string):=zK
theorem iA:Tryz.prog.underlying 92=some (.pointer 181):=zK
theorem da:Tryz.prog.underlying 97=some (.map 33 9):=zK
theorem iB:Tryz.prog.underlying 98=some (.map 33 4):=zK
theorem rj:EC Tryz.prog 100=some (.agg #[.bool false,.bool false,.int .i64 0,.int .i64 0,zN,.map none,.map none,.int .u64 0,.string ⟨⟨[]⟩⟩,.int .u32 0]):=zK
theorem rk:EC Tryz.prog 107=some (.agg #[zN,zN,zN,.int .u64 0,.string ⟨⟨[]⟩⟩,.int .u32 0,.int .i64 0,.bool false]):=zK
theorem Ji:EC Tryz.prog 114=some (.agg #[.int .u32 0,.string ⟨⟨[]⟩⟩]):=zK
theorem rm:EC Tryz.prog 120=some zN:=zK
theorem rn:EC Tryz.prog 122=some (.agg #[.pointer none,zN,zN,zN,.bool false]):=zK
theorem YL:EC Tryz.prog 136=some (.agg #[.pointer none,zN]):=zK
theorem rq:EC Tryz.prog 153=some (.agg #[.pointer none,zN,.int .u32 0,.int .u32 0,.int .u64 0,zN]):=zK
theorem MC:EC Tryz.prog 164=some (.agg #[.int .u32 0,.int .u32 0,.int .i64 0]):=zK
theorem Ii:EC Tryz.prog 167=some (.agg #[.int .u32 0,.int .u32 0,.int .i64 0,zN,zN]):=zK
theorem rr:EC Tryz.prog 181=some (.agg #[.pointer none,zN,.int .u32 0,.int .u32 0,.int .u64 0,.map none]):=zK
theorem rz:EC Tryz.prog 183=some (.map none):=zK
theorem FE:EC Tryz.prog 188=some (.agg #[.int .u32 0,.string ⟨⟨[]⟩⟩]):=zK
theorem PM:EC Tryz.prog 190=some (.agg #[.string ⟨⟨[]⟩⟩,.int .u32 0,.string ⟨⟨[]⟩⟩]):=zK
theorem r5:EC Tryz.prog 196=some (.agg #[.nilFunc,zN,.int .i64 0]):=zK
theorem LG:EC Tryz.prog 200=some (.agg #[.int .u64 0,.int .u32 0,.int .u32 0,.int .u32 0,.string ⟨⟨[]⟩⟩]):=zK
theorem r6:EC Tryz.prog 212=some (.agg #[.pointer none,zN,zN,zN,.int .i64 0,zN]):=zK
theorem bT:EC Tryz.prog 238=some (.agg #[.int .i64 0,.int .u32 0,.int .u32 0,.int .i64 0,zN,zN,.int .u32 0,.string ⟨⟨[]⟩⟩]):=zK
theorem r7:EC Tryz.prog 260=some (.agg #[zN,zN,zN,zN]):=zK
theorem ff:EC Tryz.prog 263=some (.agg #[.int .u32 0,.int .u32 0,.int .u32 0,.int .u64 0]):=zK
theorem pb:EC Tryz.prog 29=some (.int .i64 0):=zK
theorem pP:EC Tryz.prog 3=some (.int .i64 0):=zK
theorem r8:EC Tryz.prog 310=some (.agg #[.pointer none,zN]):=zK
theorem Sk:EC Tryz.prog 329=some (.agg #[.int .u32 0,.int .u32 0]):=zK
theorem H8:EC Tryz.prog 33=some (.int .u32 0):=zK
theorem r9:EC Tryz.prog 330=some (.agg #[.int .u32 0,.int .u32 0,.int .u32 0,.int .u32 0,.int .u32 0,.int .u32 0,.int .u32 0,.int .u32 0]):=zK
theorem mN:EC Tryz.prog 335=some (.agg #[.pointer none,zN]):=zK
theorem HH:EC Tryz.prog 35=some (.agg #[.int .u64 0,.int .u32 0,.int .u32 0,.string ⟨⟨[]⟩⟩]):=zK
theorem bU:EC Tryz.prog 359=some (.agg #[.int .u32 0,.int .u32 0,.int .u32 0,.int .u32 0,.int .u32 0,.int .u32 0,.int .u32 0,.int .u32 0,.int .u32 0,.int .u32 0,.int .u32 0,.int .u32 0,.int .u32 0,.int .u32 0,.int .u32 0,.int .u32 0]):=zK
theorem sA:EC Tryz.prog 365=some (.agg #[.int .u32 0,.int .u32 0,.int .u32 0,.int .u32 0,.int .u32 0,.int .u32 0,.int .u32 0,.int .u32 0]):=zK
theorem mO:EC Tryz.prog 368=some (.agg #[.int .u32 0,.int .u32 0,.int .u32 0,.int .u32 0,.int .u32 0,.int .u32 0,.int .u32 0,.int .u32 0,.string ⟨⟨[]⟩⟩,.int .i64 0]):=zK
theorem dm:EC Tryz.prog 37=some zN:=zK
theorem sB:EC Tryz.prog 388=some (.agg #[.int .i64 0,.int .i64 0,.int .i64 0,.int .i64 0]):=zK
theorem Sl:EC Tryz.prog 389=some (.agg #[.int .u32 0,.int .u32 0,.int .u32 0,.int .u32 0]):=zK
theorem jZ:EC Tryz.prog 4=some (.bool false):=zK
theorem mP:EC Tryz.prog 400=some (.agg #[.int .u32 0,.int .u32 0,.int .u32 0,.int .u32 0,.int .u32 0,.int .u32 0,.int .u32 0,.int .u32 0,.int .u32 0,.int .u32 0,.int .u32 0,.int .u32 0,.int .u32 0,.int .u32 0,.int .u32 0,.int .u32 0,.int .u32 0,.int .u32 0,.int .u32 0,.int .u32 0,.int .u32 0,.int .u32 0,.int .u32 0,.int .u32 0,.int .u32 0,.int .u32 0,.int .u32 0,.int .u32 0,.int .u32 0,.int .u32 0,.int .u32 0,.int .u32 0,.int .u32 0,.int .u32 0,.int .u32 0,.int .u32 0,.int .u32 0,.int .u32 0,.int .u32 0,.int .u32 0,.int .u32 0,.int .u32 0,.int .u32 0,.int .u32 0,.int .u32 0,.int .u32 0,.int .u32 0,.int .u32 0,.int .u32 0,.int .u32 0,.int .u32 0,.int .u32 0,.int .u32 0,.int .u32 0,.int .u32 0,.int .u32 0,.int .u32 0,.int .u32 0,.int .u32 0,.int .u32 0,.int .u32 0,.int .u32 0,.int .u32 0,.int .u32 0]):=zK
theorem fg:EC Tryz.prog 405=some (.agg #[.int .i64 0,.int .i64 0]):=zK
theorem sC:EC Tryz.prog 406=some (.agg #[.int .i64 0,.int .i64 0,.int .i64 0,.int .i64 0]):=zK
theorem mQ:EC Tryz.prog 43=some (.agg #[.int .u64 0,.string ⟨⟨[]⟩⟩,.int .u32 0]):=zK
theorem KY:EC Tryz.prog 5=some (.int .u8 0):=zK
theorem pc:EC Tryz.prog 50=some (.agg #[.int .u32 0,.int .u32 0,.int .u32 0,.int .u32 0]):=zK
theorem sw:EC Tryz.prog 76=some (.agg #[.pointer none,zN,.bool false,.bool false]):=zK
theorem sx:EC Tryz.prog 80=some (.agg #[zN,.bool false,.pointer none,.bool false]):=zK
theorem ZO:EC Tryz.prog 83=some (.agg #[.int .i64 0,.int .u64 0,.int .u32 0,.int .u32 0,.string ⟨⟨[]⟩⟩]):=zK
theorem RJ:EC Tryz.prog 9=some (.string ⟨⟨[]⟩⟩):=zK
theorem sy:EC Tryz.prog 91=some (.agg #[zN,zN,.map none]):=zK
theorem tA:EC Tryz.prog 94=some (.agg #[zN,zN,.map none,.pointer none,.pointer none,zN,.int .u32 0,.bool false]):=zK
end

section
variable {K:Nat→Prop}{w0:World}{H:List AY}
def ki(p:UInt32×Bool):List Value:=[AA p.1,vB p.2]
theorem TB(v:Value):zC K w0 87 [v] [] H (fun r M=>∃b,r=.func (.func 124) #[] #[vP b 0]∧M=[AK b (.cells v.cells 69)]):=by
 refine Td.enter Tryz.func87 rfl rfl ?_
 refine Y ?_
 refine Bc E E zU fun b0=>?_
 refine U E (V (Y ?_))
 refine G8 (fv:=#[]) (cv:=#[_]) E E E ?_
 refine U E (V (AL ?_))
 exact Ag (Cl E E) (Af (M:=[_]) ⟨b0,E,E⟩ fun _ h=>h)
theorem TD(v:Value)(ks:List BP)(b:Nat)(hk:B9 K w0 AZ 2 v ks)(hv:v.cells=#[v])(hn:ks.length≤1099511627776):jw Tryz.prog K w0 124 [vP b 0] [AK b (.cells v.cells 69)] ki (LD ks):=by
 intro lp J9 X T hy G h0
 rw[hv]
 refine Td.enter Tryz.func124 rfl rfl ?_
 refine Y (U E (V (Y (AG 0 lX E (B2 hk E GY E (J E (V (AQ ?_))))))))
 refine SX.mono (BG (α:=Nat×List AY) (fun x=>x.1≤ks.length∧J9 ((LD ks).take x.1) x.2) (fun x=>[(0,vY lp),(3,AA (KS ks x.1)),(6,v),(7,vI ks.length),(8,vI x.1)]) (fun x=>AK b (.cells #[v] 69)::(x.2++T)) (fun x=>ks.length-x.1) (fun x D hp=>?_) (0,G) ⟨Nat.zero_le _,h0⟩) tL
 obtain⟨i,G⟩:=x
 obtain⟨hi,hJ⟩:=hp
 simp only at hi hJ
 refine Y (Z E BA (V (AH ?_)))
 refine Ax E (fun hc=>?_) (fun hc=>?_)
 have hlt:i<ks.length:=by simpa using hc
 obtain⟨key,hkey⟩:=O5 hlt
 have hg:=Tt ks i hlt
 rw[KO hkey]at hg
 refine AJ (AI (AH (AQ (Y ?_))))
 refine Qa i key hk E GY E5 E E E hkey fun be off hcell=>?_
 refine As (AZ key) E K8 E E (VK (hcell _)) ?_
 refine Am E Ji zU fun b0=>?_
 refine A8 0 E E E E E5 E E E zT (V (AH (Y (J E (AF E FW (AG 0 A7 E (AF E FW (AG 0 A7 E (J E ?_)))))))))
 refine Z E (Sm (b:=KS ks i)) ?_
 refine J E ?_
 refine Cj (c:=decide ((key.secret.length:Int)=32)) 19 5 24 E (fun hb k=>?_) (fun hb k=>?_) ?_
 refine AF E QO (AG 0 Fx E (By E Ch E (Z E Bg (Ai E E E ?_))))
 exact k.mono tL
 refine AD E (AD E (AD E (AD E (Ai E E E ?_))))
 exact k.mono tL
 refine HU (M2:=[_,_]) (G:=G) (T:=T) (vs:=[_,_]) (ok:=fun G1=>J9 ((LD ks).take (i+1)) G1) (no:=X) E E ⟨E,E,zT⟩ E ?_ (fun bb G1 hG1=>⟨zT,?_⟩)
 intro M
 have:=hy _ _ _ (E1 hg).1 G hJ M
 rw[←(E1 hg).2]at this
 have e:OA ks i=(decide (KS ks i<key.gen)&&decide ((key.secret.length:Int)=32)):=by unfold OA;rw[KO hkey]
 rw[e]at this
 exact this
 refine CY E E (V ?_)
 refine Ax E (fun hc=>?_) (fun hc=>?_)
 obtain rfl:bb=false:=by simpa using hc
 refine AL (Ac (BC (Ac (EE (BC ?_)))))
 exact Ag (Dg E) (Af (M:=G1) (.inr hG1) fun _ h=>h.skip [_,_])
 obtain rfl:bb=true:=by simpa using hc
 refine AJ (AI (AS (AF E FW (AG 0 A7 E (U E (Aa (An (AI (AS (Z E (Be zO zO) (J E (Aa ?_))))))))))))
 refine Av (i+1,G1) ⟨hlt,hG1⟩ (by simp only;omega) ⟨E,by rw[KS,KO hkey];rfl,E,E,E,zT⟩ (fun w h=>h.skip [_])
 refine Ay (A6 (Ba (A9 ?_)))
 have hle:i=ks.length:=by simp at hc;omega
 exact DE (Dg E) (Af (M:=G) (.inl (by rw[List.take_of_length_le (by rw[Pu];omega)]at hJ;exact hJ)) fun _ h=>h.skip [_])
theorem Pn(v:Value)(ks:List BP)(hk:B9 K w0 AZ 2 v ks)(hv:v.cells=#[v])(hn:ks.length≤1099511627776):zC K w0 62 [v] [] H (fun r M=>r=vB (DU ks)∧M=[]):=by
 refine Td.enter Tryz.func62 rfl rfl ?_
 refine Y (U E (V (Kd (Y (J E (B2 hk E GY E (Z E JA ?_)))))))
 refine Am E jZ zU fun b0=>?_
 refine A8 0 E E E E Re E E E zT (V (AH (Kc (AI (AH (Y (J E (BS 0 qc (TB v) E ?_))))))))
 rintro _ _ ⟨b1,rfl,rfl⟩
 refine V (AQ ?_)
 refine Ss (enc:=ki) (LD ks) (fun pre G=>pre.all (·.2)=true∧G=AK b0 (.cells #[vB (decide ((ks.length:Int)≤16))] 4)::H) (fun c G=>c=.exit 0∧(LD ks).all (·.2)=false∧G=AK b0 (.cells #[vB false] 4)::H) E nD E zV (TD v ks b1 hk hv hn) E ⟨E,E⟩ (fun pre x suf G hxs hJ r lp Rest=>?_) (fun G D hJ=>?_) (fun c G D hX=>?_)
 obtain⟨hpre,rfl⟩:=hJ
 refine AS (U E (Aa (Kb (AQ (Y (J E (CY E E (V ?_))))))))
 refine Ax E (fun hc=>?_) (fun hc=>?_)
 refine Y (A8 0 E E E E Re E E E zT (V (Ay (HV ?_))))
 exact Nm ⟨E,by rw[hxs];simp at hc;simp[hc],E⟩ (fun _ h=>h)
 refine AJ (An ?_)
 exact IE ⟨by simp at hc;simp[hpre,hc],E⟩ (fun _ h=>h)
 obtain⟨hall,rfl⟩:=hJ
 refine An (AI (Y (AG 0 U1 E (U E (V (AL (EM ?_)))))))
 exact Ag (Cl E E) (Af (M:=[]) ⟨by simp only[DU,hall];simp;try omega,E⟩ fun _ h=>h.skip [_])
 obtain⟨rfl,hall,rfl⟩:=hX
 refine Ay (A9 (AI (Y (AG 0 U1 E (U E (V (AL (EM ?_))))))))
 exact Ag (Cl E E) (Af (M:=[]) ⟨by simp only[DU,hall];simp;try omega,E⟩ fun _ h=>h.skip [_])
end

section
variable {K:Nat→Prop}{w0:World}{H:List AY}
theorem WI(k:BP)(g:UInt32)(b:Nat):zC K w0 154 [.agg (AZ k).toArray,vP b 0] [AK b (.cells #[AA g] 33)] H (fun r M=>r=vB (decide (g≤k.gen))∧M=[AK b (.cells #[AA g] 33)]):=by
 refine Td.enter Tryz.func154 rfl rfl ?_
 refine Y ?_
 refine Bc E E zU fun b0=>?_
 refine U E (V (Y (AF E FW (AG 0 A7 E (AG 1 A7 E (Z E HN (U E (V (AL ?_)))))))))
 exact Ag (Cl E E) (Af (M:=[_]) ⟨E,E⟩ fun _ h=>h.skip [_])
theorem VF(v:Value)(ks:List BP)(g:FuncId)(cap:List Value)(B:List AY)(φ:BP→Bool)(hk:B9 K w0 AZ 2 v ks)(hn:ks.length≤1099511627776)(hcal:AM Tryz.prog g=true)
(hf:∀(H:List AY) (k:BP),zC K w0 g (.agg (AZ k).toArray::cap) B H (fun r M=>r=vB (φ k)∧M=B)):
  zC K w0 153 [v,.func (.func g) #[] cap.toArray] B H (fun r M=>r=vI (if ks.findIdx φ<ks.length then(ks.findIdx φ:Int)else -1)∧M=B):=by
 refine Td.enter Tryz.func153 rfl rfl ?_
 refine Y (U E (V (AH (Y (J E (B2 hk E GY E (J E (V (AQ ?_)))))))))
 refine SX.mono (BG (α:=Nat) (fun i=>i≤ks.length∧∀j y,j<i→ks[j]? = some y→φ y=false) (fun i=>[(0,v),(1,.func (.func g) #[] cap.toArray),(7,vI ks.length),(8,vI i)]) (fun i=>B++H) (fun i=>ks.length-i) (fun i D hp=>?_) 0 ⟨Nat.zero_le _,fun j y hj=>absurd hj (Nat.not_lt_zero _)⟩) tL
 obtain⟨hi,hb⟩:=hp
 refine Y (Z E BA (V (AH ?_)))
 refine Ax E (fun hc=>?_) (fun hc=>?_)
 have hlt:i<ks.length:=by simpa using hc
 obtain⟨key,hkey⟩:=O5 hlt
 refine AJ (AI (AH (AQ (Y (J E (U E (V (Y (J E (J E (J E ?_)))))))))))
 refine Qa i key hk E GY E5 E E E hkey fun be off hcell=>?_
 refine As (AZ key) E K8 E E (VK (hcell _)) ?_
 refine Bd (vs:=[_]) (Hin:=B) E E ⟨E,zT⟩ hcal E E (hf _ key) ?_
 rintro _ M ⟨rfl,hM⟩
 rw[hM]
 refine⟨trivial,?_⟩
 refine V ?_
 refine Ax E (fun hc2=>?_) (fun hc2=>?_)
 refine Y (J E (U E (V (AL (BC (Ac (EE (BC (Ac ?_)))))))))
 exact Ag (Cl E E) (Af (M:=B) ⟨by rw[Vx hkey hc2 hb];simp[hlt],E⟩ fun _ h=>h)
 refine AJ (An (AI (AS (Z E (Be zO zO) (J E (Aa ?_))))))
 refine Av (i+1) ⟨hlt,fun j y hj hy=>?_⟩ zO ⟨E,E,E,E,zT⟩
 rcases Nat.lt_or_ge j i with h | h
 exact hb j y h hy
 obtain rfl:j=i:=zO
 rw[hkey]at hy
 cases hy
 exact hc2
 refine Ay (A6 (Ba (A9 (AI (Y (U E (V (AL ?_))))))))
 have hle:i=ks.length:=by simp at hc;omega
 exact Ag (Cl rfl rfl) (Af (M:=B) ⟨by rw[cb (fun j y hy=>hb j y (by obtain⟨h,_⟩:=List.getElem?_eq_some_iff.1 hy;omega) hy)];simp,rfl⟩ fun _ h=>h)
theorem YR(v:Value)(ks:List BP)(g:UInt32)(hk:B9 K w0 AZ 2 v ks)(hn:ks.length≤1099511627776):zC K w0 125 [v,AA g] [] H (fun r M=>r=.tuple #[vI (Lw g ks),vB (RF g ks)]∧M=[]):=by
 refine Td.enter Tryz.func125 rfl rfl ?_
 refine Y ?_
 refine Bc E E zU fun b0=>?_
 refine U E (U E (V (Y (J E ?_))))
 refine G8 (fv:=#[]) (cv:=#[_]) E E E ?_
 refine AP 1 nN (VF v ks 154 [vP b0 0] [_] (fun k=>decide (g≤k.gen)) hk hn nO (fun H k=>WI k g b0)) E ?_
 change SL _ _ _ _ _ _ _ _ _ _ ((9,vI (if Lw g ks<ks.length then(Lw g ks:Int)else -1))::_) _
 generalize hpl:Lw g ks=pl
 refine U E (V (AH (Y (J E (Z E BA (V ?_))))))
 refine Ax E (fun hc=>?_) (fun hc=>?_)
 refine Y ?_
 have hnl:¬pl<ks.length:=by intro h;simp[h]at hc;omega
 have hpe:pl=ks.length:=by have:=fB g ks;omega
 refine J E (B2 hk E GY E (U E (U E (V (AL (Ac ?_))))))
 exact Ag (ER E E E) (Af (M:=[]) ⟨by simp[RF,hpl,hpe],E⟩ fun _ h=>h.skip [_])
 have hlt:pl<ks.length:=by
  rcases Nat.lt_or_ge pl ks.length with h | h
  exact h
  simp[Nat.not_lt.2 h]at hc
 rw[if_pos hlt]
 obtain⟨key,hkey⟩:=O5 hlt
 refine AJ (AI (AH (Aw DG [0] (C4 [(true,0),(true,1),(true,2),(true,3),(true,4),(true,5),(true,6),(true,7),(true,8),(true,9)]) zK (J E (J E (J E ?_))))))
 refine Qa pl key hk E GY E5 E E E hkey fun be off hcell=>?_
 refine AF E FW ?_
 refine Bv E A7 E (fun w hw=>hcell _ w hw 0 _ E) ?_
 refine AG 0 A7 E (Z E ND (U E (U E (V (AL ?_)))))
 exact Ag (ER E E E) (Af (M:=[]) ⟨by simp[RF,hpl,hkey],E⟩ fun _ h=>h.skip [_])
theorem UO(v:Value)(ks:List BP)(g:UInt32)(hk:B9 K w0 AZ 2 v ks)(hv:v.cells=#[v])(hn:ks.length≤1099511627776):zC K w0 89 [v,AA g] [] H (fun r M=>r=.tuple #[.agg (AZ (DP ks g).1).toArray,vI (DP ks g).2]∧M=[]):=by
 refine Td.enter Tryz.func89 rfl rfl ?_
 refine Y ?_
 refine Am E Ji zU fun b0=>?_
 refine U E (V (AH (Y (J E (AP 0 eP (Pn v ks hk hv hn) E (CY E E (V ?_)))))))
 refine Ax E (fun hc=>?_) (fun hc=>?_)
 have hf:DP ks g=(GX,40):=by unfold DP;rw[if_pos (by simpa using hc)]
 rw[hf]
 refine Y (CB [] E Xz Xy Ji zT E (A8 0 E E E E E5 E E E zT (U E (V (AL (Ac ?_))))))
 exact Ag (D7 E (CC 0 (AZ GX) K8 E E E E) E) (Af (M:=[]) ⟨E,E⟩ fun _ h=>h.skip [_])
 have hr:DU ks=true:=by simpa using hc
 refine AJ (AI (Y (J E (J E (AP 0 nE (YR v ks g hk hn) E (J E (Ae E E E (Ae E E E (U E (U E (V (AH (Y ?_)))))))))))))
 refine J E (CY E E (V ?_))
 refine Ax E (fun hc=>?_) (fun hc=>?_)
 have hf:DP ks g=(GX,41):=by
  have:RF g ks=false:=by simpa using hc
  unfold RF at this
  unfold DP
  rw[hr]
  cases h:ks[Lw g ks]? with
  | none=>simp
  | some k=>rw[h]at this;simp at this;simp[this]
 rw[hf]
 refine Y (CB [] E Xz Xy Ji zT E (A8 0 E E E E E5 E E E zT (U E (V (AL (Ac ?_))))))
 exact Ag (D7 E (CC 0 (AZ GX) K8 E E E E) E) (Af (M:=[]) ⟨E,E⟩ fun _ h=>h.skip [_])
 have hth:RF g ks=true:=by simpa using hc
 obtain⟨key,hkey,hg⟩:∃key,ks[Lw g ks]? = some key∧key.gen=g:=by
  unfold RF at hth
  cases h:ks[Lw g ks]? with
  | none=>rw[h]at hth;cases hth
  | some k=>rw[h]at hth;exact⟨k,rfl,by simpa using hth⟩
 have hf:DP ks g=(key,0):=by
  unfold DP
  rw[hr]
  simp[hkey,hg]
 rw[hf]
 refine AJ (AI (Y (J E (J E ?_))))
 refine Qa (Lw g ks) key hk E GY E5 E E E hkey fun be off hcell=>?_
 refine As (AZ key) E K8 E E (VK (hcell _)) (A8 0 E E E E E5 E E E zT (U E (V (AL ?_))))
 exact Ag (D7 E (CC 0 (AZ key) K8 E E E E) E) (Af (M:=[]) ⟨E,E⟩ fun _ h=>h.skip [_])
end

section
variable {K:Nat→Prop}{w0:World}{H:List AY}
theorem cO(b:List UInt8)(hb:b.length≤9223372036854775807):zC K w0 160 [vS b] [] H (fun v M=>v=vS (b.drop (b.length-32))∧M=[]):=by
 refine Td.enter Tryz.func160 rfl rfl ?_
 refine AH (AS (U E (Aa (AI (AH (AS (J E (J E (By E Ch E (Z E (Dz zO zO) (bu E E E (Oh (b.length-32) E Ch E E zO zO (U E (Aa (AI (AL ?_))))))))))))))))
 exact Ag (Cl E E) (Af (M:=[]) ⟨E,E⟩ fun _ h=>h.skip [])
def Uz(x:UInt32)(k:Int):UInt32:=shl32 x (Cn k &&& 31).toNat ||| shr32 x (32-(Cn k &&& 31)).toNat
theorem HI(x:UInt32)(k:Int):zC K w0 318 [AA x,vI k] [] H (fun v M=>v=AA (Uz x k)∧M=[]):=by
 refine Td.enter Tryz.func318 rfl rfl ?_
 refine AH (AS (U E (Aa (AI (AH (AS (J E (BF E E (Es I9 PJ) ?_))))))))
 refine Z E (Of (b:=31)) ?_
 refine U E (Aa (AI (AH (AS (J E (J E (Z E FO.shl32 (J E (J E ?_)))))))))
 refine Z E (Tc (a:=32)) ?_
 refine Z E FO.shr32 (Z E Er (U E (Aa (AI (AL ?_)))))
 exact Ag (Cl E E) (Af (M:=[]) ⟨E,E⟩ fun _ h=>h.skip [])
end

section
variable {K:Nat→Prop}{w0:World}{H:List AY}
theorem jQ:∀n:Fin 32,0<n.1→(Cn (-(n.1:Int)) &&& 31).toNat=32-n.1∧(32-(Cn (-(n.1:Int)) &&& 31)).toNat=n.1:=by decide
theorem jF(x:UInt32)(n:Nat)(h0:0<n)(h1:n<32):Uz x (-(n:Int))=Jw x n:=by
 obtain⟨e1,e2⟩:=jQ ⟨n,h1⟩ h0
 simp only at e1 e2
 unfold Uz Jw
 rw[e1,e2,UInt32.or_comm]
theorem GU(x:UInt32)(n:Nat)(h0:0<n)(h1:n<32):zC K w0 320 [AA x,vI n] [] H (fun r M=>r=AA (Jw x n)∧M=[]):=by
 refine Td.enter Tryz.func320 rfl rfl ?_
 refine Y (U E (V (Y (J E (J E (jk E E zO zO (AP 0 aB (HI x (-(n:Int))) E (U E (V (AL ?_))))))))))
 exact Ag (Cl E E) (Af (M:=[]) ⟨by rw[jF x n h0 h1],E⟩ fun _ h=>h.skip [])
theorem YZ(s:List UInt8)(hs:s.length=64):zC K w0 319 [vS s] [] H (fun r M=>r=.agg (DM AA (Dx s))∧M=[]):=by
 refine Td.enter Tryz.func319 rfl rfl ?_
 refine Y ?_
 refine Am E mP zU fun b0=>?_
 refine V (Y ?_)
 refine Am E mP zU fun b1=>?_
 refine V (AH (Y (J E (V (AQ ?_)))))
 refine SX.mono (BG (α:=Nat) (fun i=>i≤64) (fun i=>[(0,vS s),(2,vP b0 0),(3,vP b1 0),(8,vI i)]) (fun i=>AK b1 (.cells (DM AA (E0 s i++List.replicate (64-i) 0)) 400)::AK b0 (.cells (DM AA (List.replicate 64 0)) 400)::H) (fun i=>64-i) (fun i D hp=>?_) 0 zO) tL
 have hlen:=Ly s i
 refine Y (Z E BA (V (AH ?_)))
 refine Ax E (fun hc1=>?_) (fun hc1=>?_)
 have hi:i<64:=by simp at hc1;omega
 refine AJ (AI (AH (AQ (Y (J E (U E (V (AH (Y (J E (Z E BA (V ?_))))))))))))
 refine Ax E (fun hc2=>?_) (fun hc2=>?_)
 have h16:i<16:=by simp at hc2;omega
 refine Y (J E (Z E (OZ zO zO) (U E (V (AH (Aw DG [] (CM [(true,0),(true,1),(true,2),(true,3),(true,4),(true,5),(true,6),(true,7),(true,8),(true,9),(true,10),(true,11),(true,12),(true,13),(true,14),(true,15),(true,16),(true,17),(true,18),(true,19),(true,20),(true,21),(true,22),(true,23),(true,24),(true,25),(true,26)] (.last 27 .nil)) zK (J E (J E (J E (Ka (4*i) E Ch E E zO zO ?_))))))))))
 refine BF E E (FG DI CP) ?_
 refine Z E (FO.shl32 (n:=24)) ?_
 refine J E (J E (Z E (Be zO zO) (Ka ((4*i)+1) E Ch E E zO zO (BF E E (FG DI CP) ?_))))
 refine Z E (FO.shl32 (n:=16)) ?_
 refine Z E Er (J E (J E (Z E (Be zO zO) (Ka ((4*i)+2) E Ch E E zO zO (BF E E (FG DI CP) ?_)))))
 refine Z E (FO.shl32 (n:=8)) ?_
 refine Z E Er (J E (J E (Z E (Be zO zO) (Ka ((4*i)+3) E Ch E E zO zO (BF E E (FG DI CP) (Z E Er ?_))))))
 refine C7 (n:=i) E RH Bk E E zO zO ?_
 refine Bh ?_
 refine UH (f:=AA) 0 E E E E Bk E E zQ zT ?_
 rw[Sz _ _ _ 64 i hlen hi]
 refine V (Ay (A6 (A9 (AI (AS (Z E (Be zO zO) (J E (Aa ?_))))))))
 refine Av (i+1) zO zO ⟨E,E,E,E,zT⟩ (fun w h=>by
  have e:Q2 s (E0 s i)=iH s (4*i):=by unfold Q2;rw[hlen,if_pos h16]
  rw[E0,e]
  exact h)
 have h16:16≤i:=by simp at hc2;omega
 refine AJ (AI (AH (Aw DG [0] (C4 [(true,0),(true,1),(true,2),(true,3),(true,4),(true,5),(true,6),(true,7),(true,8),(true,9)]) zK (J E (Z E (Dz zO zO) ?_)))))
 refine C7 (n:=(i-15)) E RH Bk E E zO zO ?_
 refine Bv E A7 E (Ct 0 E (UM 0 zO)) (J E (Z E (Dz zO zO) ?_))
 refine C7 (n:=(i-2)) E RH Bk E E zO zO ?_
 refine Bv E A7 E (Ct 0 E (UM 0 zO)) (U E (U E (V (Aw DG [0] (CM [(true,0),(true,1),(true,2),(true,3),(true,4),(true,5),(true,6),(true,7),(true,8),(true,9),(true,10),(true,12),(true,15),(true,16),(true,19),(true,21),(true,24),(true,25),(false,11),(false,13),(true,14),(true,17),(true,18),(false,20),(false,22),(true,23),(true,26),(true,27),(true,28)] (.last 29 .nil)) zK (J E (J E (Z E (Dz zO zO) ?_)))))))
 refine C7 (n:=(i-16)) E RH Bk E E zO zO ?_
 refine Bv E A7 E (Ct 0 E (UM 0 zO)) (J E (Z E (Dz zO zO) ?_))
 refine C7 (n:=(i-7)) E RH Bk E E zO zO ?_
 refine Bv E A7 E (Ct 0 E (UM 0 zO)) (Z E B1 (J E (J E (J E ?_))))
 refine Z E (FO.shr32 (n:=3)) ?_
 refine J E (J E (J E ?_))
 refine Z E (FO.shr32 (n:=10)) ?_
 refine BU 0 Nf (GU _ 7 zO zO) E ⟨⟨0,E⟩,zT⟩ (BU 0 Nf (GU _ 18 zO zO) E ⟨⟨0,E⟩,zT⟩ (Z E Ci (Z E Ci (Z E B1 (BU 0 Nf (GU _ 17 zO zO) E ⟨⟨0,E⟩,zT⟩ (BU 0 Nf (GU _ 19 zO zO) E ⟨⟨0,E⟩,zT⟩ (Z E Ci ?_)))))))
 refine Z E Ci (Z E B1 ?_)
 refine C7 (n:=i) E RH Bk E E zO zO ?_
 refine Bh ?_
 refine UH (f:=AA) 0 E E E E Bk E E zQ zT ?_
 rw[Sz _ _ _ 64 i hlen hi]
 refine Aa (An (AI (AS (Z E (Be zO zO) (J E (Aa ?_))))))
 refine Av (i+1) zO zO ⟨E,E,E,E,zT⟩ (fun w h=>by
  have e:Q2 s (E0 s i)=(E0 s i).getD (i-16) 0+(E0 s i).getD (i-7) 0+lg ((E0 s i).getD (i-15) 0)+lh ((E0 s i).getD (i-2) 0):=by unfold Q2;rw[hlen,if_neg zO]
  rw[E0,e]
  exact h)
 have hi:i=64:=by simp at hc1;omega
 subst hi
 refine Ay (A6 (Ba (A9 (AI (Y ?_)))))
 refine As ((Dx s).map AA) E jz (by simp[Dx,hlen]) E (Cp 0 E (fun j u hu=>by simpa[DM,Dx]using hu)) ?_
 refine OL 1 E E E E rX (by simp[Dx,hlen]) (by simp[DM]) (No zV (Dx s)) zT ?_
 refine V (AL ?_)
 exact Ag (Ie E (CC 1 ((Dx s).map AA) jz (by simp[Dx,hlen]) E E (by simp only[List.drop_zero];exact List.take_of_length_le (by simp[Dx,hlen])))) (Af (M:=[]) ⟨E,E⟩ fun _ h=>h.skip [_,_])
end

section
variable {K:Nat→Prop}{w0:World}{H:List AY}
theorem Zy(T h:List UInt32)(tl:List Value)(s:List UInt8)(b:Nat)(e:TypeId)(hT:S8 K w0 3 T)(hTl:T.length=64)(hh:h.length=8)(hs:s.length=64):zC K w0 305 [vP b 0,vS s] [AK b (.cells (NA AA h tl) e)] H (fun r M=>r=.tuple #[]∧M=[AK b (.cells (NA AA (Qz T h s) tl) e)]):=by
 refine Td.enter Tryz.func305 rfl rfl ?_
 refine AH (Aw DG [0] (C4 [(true,0),(true,1),(true,2),(true,3),(true,4),(true,5),(true,6),(true,7),(true,8),(true,9),(true,10),(true,11),(true,12),(true,13),(true,14),(true,15),(true,16),(true,17),(true,18),(true,19),(true,20),(true,21),(true,22),(true,23),(true,24),(true,25),(true,26),(true,27),(true,28),(true,29),(true,30),(true,31),(true,32),(true,33),(true,34),(true,35),(true,36),(true,37),(true,38),(true,39)]) zK (J E (AT E E ?_)))
 refine C7 (n:=0) E PK Bk E E zO zO ?_
 refine Bv E A7 E (Ct 0 E (JS 0 zO)) (J E (AT E E ?_))
 refine C7 (n:=1) E PK Bk E E zO zO ?_
 refine Bv E A7 E (Ct 0 E (JS 0 zO)) (J E (AT E E ?_))
 refine C7 (n:=2) E PK Bk E E zO zO ?_
 refine Bv E A7 E (Ct 0 E (JS 0 zO)) (J E (AT E E ?_))
 refine C7 (n:=3) E PK Bk E E zO zO ?_
 refine Bv E A7 E (Ct 0 E (JS 0 zO)) (J E (AT E E ?_))
 refine C7 (n:=4) E PK Bk E E zO zO ?_
 refine Bv E A7 E (Ct 0 E (JS 0 zO)) (J E (AT E E ?_))
 refine C7 (n:=5) E PK Bk E E zO zO ?_
 refine Bv E A7 E (Ct 0 E (JS 0 zO)) (J E (AT E E ?_))
 refine C7 (n:=6) E PK Bk E E zO zO ?_
 refine Bv E A7 E (Ct 0 E (JS 0 zO)) (J E (AT E E ?_))
 refine C7 (n:=7) E PK Bk E E zO zO ?_
 refine Bv E A7 E (Ct 0 E (JS 0 zO)) (U E (U E (U E (U E (U E (U E (U E ?_)))))))
 refine U E (V (AH (Y (J E (AP 0 ol (YZ s hs) E (J E (V (AQ ?_))))))))
 refine SX.mono (BG (α:=Nat) (fun i=>i≤64) (fun i=>[(0,vP b 0),(4,AA (GO T (Dx s) h i).a),(5,AA (GO T (Dx s) h i).b),(6,AA (GO T (Dx s) h i).c),(7,AA (GO T (Dx s) h i).d),(8,AA (GO T (Dx s) h i).e),(9,AA (GO T (Dx s) h i).f),(10,AA (GO T (Dx s) h i).g),(11,AA (GO T (Dx s) h i).i),(51,.agg (DM AA (Dx s))),(52,vI i)]) (fun i=>AK b (.cells (NA AA h tl) e)::H) (fun i=>64-i) (fun i D hp=>?_) 0 zO) tL
 refine Y (Z E BA (V (AH ?_)))
 refine Ax E (fun hc1=>?_) (fun hc1=>?_)
 have hi:i<64:=by simp at hc1;omega
 have hw:(Dx s)[i]? = some ((Dx s).getD i 0):=by
  rw[List.getD_eq_getElem?_getD,List.getElem?_eq_getElem (by rw[Dx,Ly];exact hi)]
  rfl
 refine AJ (AI (AH (AQ (Y (J E ?_)))))
 refine PS (i:=i) E RH A7 E E zO zO (Et hw) ?_
 refine U E (U E (V (AH (Aw DG [] (C4 [(true,0),(true,1),(true,3),(true,6),(true,10),(true,11),(true,12),(true,13),(true,14),(true,15),(true,16),(true,17),(true,19),(true,20),(true,21),(true,23),(false,2),(false,4),(true,5),(false,7),(true,8),(true,9),(true,18),(true,22),(true,24),(true,25)]) zK (J E (J E (J E (J E (J E ?_)))))))))
 refine J E (Z E Gh (J E (Ym E E (J E (Z E Gh (Z E Ci (J E ?_)))))))
 refine C7 (b:=3) (n:=i) E RH Bk E E zO zO ?_
 refine Bv E A7 E (hT.load zO) (J E (AP 0 Nf (GU _ 6 zO zO) E (AP 0 Nf (GU _ 11 zO zO) E (Z E Ci (AP 0 Nf (GU _ 25 zO zO) E (Z E Ci (Z E B1 ?_)))))))
 refine Z E B1 (Z E B1 (Z E B1 (U E (V (Y (J E (AP 0 Nf (GU _ 2 zO zO) E (J E (AP 0 Nf (GU _ 13 zO zO) E ?_)))))))))
 refine Z E Ci (J E (AP 0 Nf (GU _ 22 zO zO) E (Z E Ci (J E (J E (Z E Gh (J E ?_)))))))
 refine J E (Z E Gh (Z E Ci (J E (J E (Z E Gh (Z E Ci (Z E B1 ?_)))))))
 refine U E (V (AS (J E (J E (J E (J E (J E (Z E B1 (J E ?_)))))))))
 refine J E (J E (J E (J E (Z E B1 (U E (U E (U E ?_)))))))
 refine U E (U E (U E (U E (U E (Aa (An (AI (AS (Z E (Be zO zO) (J E (Aa ?_)))))))))))
 exact Av (i+1) zO zO ⟨E,E,E,E,E,E,E,E,E,E,E,zT⟩
 have hi:i=64:=by simp at hc1;omega
 subst hi
 generalize hfin:GO T (Dx s) h 64=fin
 refine Ay (A6 (Ba (A9 (AI (Y (J E (J E (J E (J E (J E (J E (J E (J E ?_)))))))))))))
 refine UF (fin.list.map AA) rfl lz Bk sA rfl ⟨rfl,rfl,rfl,rfl,rfl,rfl,rfl,rfl,trivial⟩ rfl rfl (fun v hv=>by obtain⟨x,_,rfl⟩:=List.mem_map.1 hv;rfl) ?_
 refine J E ?_
 have hfl:fin.list.length=h.length:=by rw[hh];rfl
 refine V (AQ ?_)
 refine SX.mono (BG (α:=Nat) (fun i=>i≤8) (fun i=>[(0,vP b 0),(122,.agg (DM AA fin.list)),(123,vI i)]) (fun i=>AK b (.cells (NA AA (RU h fin.list i) tl) e)::H) (fun i=>8-i) (fun i D hp=>?_) 0 zO) tL
 refine Y (Z E BA (V (AH ?_)))
 refine Ax E (fun hc2=>?_) (fun hc2=>?_)
 have hi:i<8:=by simp at hc2;omega
 have hml:=Us h _ hfl i
 have hw:fin.list[i]? = some (fin.list.getD i 0):=by
  rw[List.getD_eq_getElem?_getD,List.getElem?_eq_getElem zO]
  rfl
 refine AJ (AI (AH (AQ (Y (J E ?_)))))
 refine PS (i:=i) E lz A7 E E zO zO (Et hw) ?_
 refine U E (U E (V (Aw DG [0] (CM [(true,0),(true,1),(true,2),(true,3),(true,4),(true,5),(true,6),(true,7),(true,8)] (.last 9 .nil)) zK (J E (J E (AT E E ?_))))))
 refine C7 (n:=i) E PK Bk E E zO zO ?_
 refine Bv E A7 E (Ct 0 E (JS 0 zO)) ?_
 rw[Y5 h _ hfl i zO]
 refine J E (Z E B1 (AT E E ?_))
 refine C7 (n:=i) E PK Bk E E zO zO ?_
 refine Bh ?_
 refine mi (f:=AA) 0 E E E E Bk E E zO zT ?_
 rw[Y6 h _ hfl i zO]
 refine Aa (An (AI (AS (Z E (Be zO zO) (J E (Aa ?_))))))
 exact Av (i+1) zO zO ⟨E,E,E,zT⟩
 have hi:i=8:=by simp at hc2;omega
 subst hi
 refine Ay (A6 (Ba (A9 ?_)))
 have hfull:=Xw h _ hfl
 rw[hh]at hfull
 rw[hfull,←hfin]
 exact DE (Dg E) (Af (M:=[_]) ⟨E,E⟩ fun _ h=>h)
theorem Vv(T:List UInt32)(h:M6)(rest s:List UInt8)(n:Int)(b:Nat)(e:TypeId)(hT:S8 K w0 3 T)(hTl:T.length=64)(hs:s.length=64):zC K w0 305 [vP b 0,vS s] [AK b (.cells (Ny h rest n) e)] H (fun r M=>r=.tuple #[]∧M=[AK b (.cells (Ny (Tu T h s) rest n) e)]):=by
 have h1:=Zy (K:=K) (w0:=w0) (H:=H) T h.list [vS rest,vI n] s b e hT hTl rfl hs
 rw[←Qf (TX (T:=T) (s:=s) (show h.list.length=8 from rfl))]at h1
 exact h1
end

section
variable {K:Nat→Prop}{w0:World}{H:List AY}
def cX(p:Nat×List UInt8):List Value:=[vI p.1,vS p.2]
theorem au(s:List UInt8)(b:Nat)(hn:s.length≤1099511627776):jw Tryz.prog K w0 321 [vP b 0] [AK b (.cells #[vS s] 9)] cX (OV s):=by
 intro lp J9 X T hy G h0
 refine Td.enter Tryz.func321 rfl rfl ?_
 refine Y (U E (V (AQ ?_)))
 refine SX.mono (BG (α:=Nat×List AY) (fun x=>x.1≤s.length / 64∧J9 ((OV s).take x.1) x.2) (fun x=>[(0,vY lp),(1,vP b 0),(3,vI (64*(x.1+1):Nat))]) (fun x=>AK b (.cells #[vS s] 9)::(x.2++T)) (fun x=>s.length / 64-x.1) (fun x D hp=>?_) (0,G) ⟨Nat.zero_le _,h0⟩) tL
 obtain⟨i,G⟩:=x
 obtain⟨hi,hJ⟩:=hp
 simp only at hi hJ
 refine AH (Y (J E (AG 0 Fx E (By E Ch E (Z E JA (V ?_))))))
 refine Ax E (fun hc1=>?_) (fun hc1=>?_)
 have hlt:i<s.length / 64:=by simp at hc1;omega
 have hg:=V8 s i hlt
 refine AJ (AI (AH (AQ (Y (J E (J E (AG 0 Fx E (J E (Z E (Dz zO zO) (J E (ft (64*i) (64*(i+1)) E Ch E E E zO zO zO zO ?_)))))))))))
 have ht:64*(i+1)-64*i=64:=zO
 rw[ht]
 refine HU (M2:=[_]) (G:=G) (T:=T) (vs:=[_,_]) (ok:=fun G1=>J9 ((OV s).take (i+1)) G1) (no:=X) E E ⟨E,E,zT⟩ E ?_ (fun bb G1 hG1=>⟨zT,?_⟩)
 intro M
 have:=hy _ _ _ (E1 hg).1 G hJ M
 rw[←(E1 hg).2]at this
 exact this
 refine CY E E (V ?_)
 refine Ax E (fun hc2=>?_) (fun hc2=>?_)
 obtain rfl:bb=false:=by simpa using hc2
 refine AL (BC (Ac (EE (BC ?_))))
 exact Ag (Dg E) (Af (M:=G1) (.inr hG1) fun _ h=>h.skip [_])
 obtain rfl:bb=true:=by simpa using hc2
 refine AJ (An (AI (AS (J E (Z E (Be zO zO) (U E (Aa ?_)))))))
 refine Av (i+1,G1) ⟨hlt,hG1⟩ (by simp only;omega) ⟨E,E,?_,zT⟩
 have e:((64*(i+1):Nat):Int)+64=((64*(i+1+1):Nat):Int):=zO
 simp only[look,Nat.beq,Cz]
 rw[←e]
 refine Ay (A6 (Ba (A9 ?_)))
 have hle:i=s.length / 64:=by simp at hc1;omega
 exact DE (Dg E) (Af (M:=G) (.inl (by rw[List.take_of_length_le (by rw[O9];omega)]at hJ;exact hJ)) fun _ h=>h.skip [_])
theorem Zz(s:List UInt8):zC K w0 306 [vS s] [] H (fun r M=>∃b,r=.func (.func 321) #[] #[vP b 0]∧M=[AK b (.cells #[vS s] 9)]):=by
 refine Td.enter Tryz.func306 rfl rfl ?_
 refine Y ?_
 refine Bc E E zU fun b0=>?_
 refine U E (V (Y ?_))
 refine G8 (fv:=#[]) (cv:=#[_]) E E E ?_
 refine U E (V (AL ?_))
 exact Ag (Cl E E) (Af (M:=[_]) ⟨b0,E,E⟩ fun _ h=>h)
theorem Zx(h:M6)(tl:List Value)(b:Nat)(e:TypeId):zC K w0 307 [vP b 0] [AK b (.cells (NA AA h.list tl) e)] H (fun r M=>r=vS (h.list.flatMap Gk)∧M=[AK b (.cells (NA AA h.list tl) e)]):=by
 refine Td.enter Tryz.func307 rfl rfl ?_
 refine Y (U E (V (Y (U E (V (AH (Y (J E (J E (V (AQ (In 5 1 ?_))))))))))))
 refine SX.mono (BG (α:=Nat×Value) (fun x=>x.1≤8) (fun x=>[(3,x.2),(6,vP b 0),(7,vI x.1)]) (fun x=>DO 5 1 x.2 (4*x.1) (((h.list.take x.1).flatMap Gk).map fun b=>EB b)::AK b (.cells (NA AA h.list tl) e)::H) (fun x=>8-x.1) (fun x D hp=>?_) (0,zN) zD) tL
 obtain⟨i,v⟩:=x
 simp only at hp
 refine Y (Z E BA (V (AH ?_)))
 refine Ax E (fun hc1=>?_) (fun hc1=>?_)
 have hlt:i<8:=by simp at hc1;omega
 refine AJ (AI (AH (AQ (Y (AT E E ?_)))))
 refine C7 (n:=i) E PK Bk E E zO zO ?_
 refine Bv E A7 E (Ct 1 E (JS 0 hlt)) (U E (V (AS (J E (J E ?_)))))
 refine Z E (FO.shr32 (n:=24)) ?_
 refine BF E E (C5 CP DI) (J E ?_)
 refine Z E (FO.shr32 (n:=16)) ?_
 refine BF E E (C5 CP DI) (J E ?_)
 refine Z E (FO.shr32 (n:=8)) ?_
 refine BF E E (C5 CP DI) (J E (BF E E (C5 CP DI) ?_))
 refine CD [_,_,_,_] E Cb Jg KY ⟨E,E,E,E,zT⟩ E E E zX E E zU fun b0=>?_
 refine UE 1 rfl (m:=4) (news:=(Gk (h.list.getD i 0)).map fun b=>EB b) Cb Jg VE KY rfl zD rfl rfl rfl rfl (Aj 0 rfl) (by intro u hu;obtain⟨x,_,rfl⟩:=List.mem_map.1 hu;rfl) zO zO zU fun v'=>?_
 refine U E (Aa (An (AI (AS (Z E (Be zO zO) (J E (Aa ?_)))))))
 refine Av (i+1,v') (by simp only;omega) (by simp only;omega) ⟨E,E,E,zT⟩ (fun w hw=>by
  have e1:h.list.take (i+1)=h.list.take i++[h.list.getD i 0]:=by
   rw[List.take_add_one,List.getD_eq_getElem?_getD,List.getElem?_eq_getElem (show i<h.list.length from hlt)]
   rfl
  simp only
  rw[e1,List.flatMap_append,List.map_append]
  simp only[List.flatMap_cons,List.flatMap_nil,List.append_nil]
  exact hw.skip [_])
 have hi:i=8:=by simp at hc1;omega
 subst hi
 refine Ay (A6 (Ba (A9 (AI (Y (J E ?_))))))
 refine Wq (s:=h.list.flatMap Gk) 0 E Cb DI Ch E E ?_
 refine U E (V (AL ?_))
 exact Ag (Cl E E) (Af (M:=[_]) ⟨E,E⟩ fun _ h=>h.skip [_])
end

section
variable {K:Nat→Prop}{w0:World}{H:List AY}
theorem UR(T:List UInt32)(h:M6)(rest s:List UInt8)(n:Int)(b:Nat)(e:TypeId)(hT:S8 K w0 3 T)(hTl:T.length=64)(hr:rest.length<64)(hn:s.length≤1099511627776):zC K w0 275 [vP b 0,vS s] [AK b (.cells (Ny h rest n) e)] H (fun r M=>r=.tuple #[]∧M=[AK b (.cells (Ny (D5 T h (rest++s)).1 (D5 T h (rest++s)).2 n) e)]):=by
 refine Td.enter Tryz.func275 rfl rfl ?_
 refine Y ?_
 refine Bc E E zU fun b0=>?_
 refine Bc E E zU fun b1=>?_
 refine V (Kd ?_)
 refine Ww (α:=M6×List UInt8×List UInt8) (fun x=>D5 T x.1 (x.2.1++x.2.2)=D5 T h (rest++s)∧x.2.1.length<64∧(x.2.1≠[]→(x.2.1++x.2.2).length<64)∧x.2.2.length≤s.length) (fun x=>[(2,vP b0 0),(3,vP b1 0)]) (fun x=>AK b1 (.cells #[vS x.2.2] 9)::AK b0 (.cells #[vP b 0] 362)::AK b (.cells (Ny x.1 x.2.1 n) e)::H) ?_ (fun x hx=>?_)
 refine AH (Aw DG [0,1,2] (C4 [(true,0),(true,1),(true,2),(true,3),(true,4),(true,5),(true,6),(true,7),(true,8),(true,9),(true,10),(true,11),(true,12),(true,13),(true,14),(true,15)]) zK (AG 1 PF E (AT E E (AF E LX (AG 2 Fx E ?_)))))
 refine Z E (Rg (t:=[])) ?_
 refine J E ?_
 refine Cj (c:=decide ((64:Int)≤(rest.length:Int)+s.length)) 13 10 23 E (fun hb k=>?_) (fun hb k=>?_) ?_
 refine AG 1 PF E (AT E E (AF E LX (AG 2 Fx E (By E Ch E (AG 0 Fx E (By E Ch E (Z E (Be zO zO) ?_)))))))
 refine Z E LH (Ai E E E ?_)
 exact k.mono tL
 refine AD E (AD E (AD E (AD E (AD E (AD E (AD E (AD E ?_)))))))
 refine AD E (Ai E E E ?_)
 exact k.mono tL
 refine V ?_
 refine Ax E (fun hc1=>?_) (fun hc1=>?_)
 have hne:rest≠[]∧64≤rest.length+s.length:=by simp at hc1;exact⟨hc1.1,by omega⟩
 refine Y (AG 1 PF E (AT E E (AF E LX (AG 2 Fx E (By E Ch E (Z E (Dz zO zO) (U E (V (AH (Aw DG [0,1,2] (CM [(true,0),(true,1),(true,2),(true,3),(true,4),(true,5),(true,6),(true,7),(true,8),(true,9),(true,10)] (.last 11 .nil)) zK ?_))))))))))
 refine AG 1 PF E (AT E E (AF E Xn (AG 1 PF E (AT E E (AF E LX (AG 2 Fx E (AG 0 Fx E ?_)))))))
 refine J E (Rm (64-rest.length) E Ch E E zO zO (Z E (FQ zQ) (Bh (SL.pick [2,0,1] 3 (AP 1 gb (Vv T h rest (rest++s.take (64-rest.length)) n b e hT hTl zQ) E (SL.pick [1,2,0] 3 (V (Aw DG [0,1] (CM [(true,0),(true,1),(true,2),(true,3),(true,4),(true,5),(false,6)] (.last 7 .nil)) zK (AG 1 PF E ?_)))))))))
 refine AG 0 Fx E (J E (Oh (64-rest.length) E Ch E E zO zO (AT E E (AF E LX (A8 2 E E E E GD E E E ⟨⟨0,E⟩,⟨1,E⟩,zT⟩ (Bh (A8 0 E E E E GD E E E zT (Aa ?_))))))))
 refine Sr (Tu T h (rest++s.take (64-rest.length)),[],s.drop (64-rest.length)) ⟨?_,by simp,fun h=>absurd E h,by simp⟩ tL
 have e1:rest++s=(rest++s.take (64-rest.length))++s.drop (64-rest.length):=by rw[List.append_assoc,List.take_append_drop]
 have e2:=UJ (T:=T) (h:=h) (p:=rest++s.take (64-rest.length)) (s:=s.drop (64-rest.length)) zQ
 rw[e1,e2]
 rfl
 refine AJ ?_
 refine Sr (h,rest,s) ⟨E,hr,fun hne=>?_,Nat.le_refl _⟩ tL
 simp at hc1
 have:=hc1 hne
 simp
 omega
 
 obtain⟨h1,r1,s1⟩:=x
 obtain⟨hx1,hx2,hx3,hx4⟩:=hx
 simp only at hx1 hx2 hx3 hx4
 refine AH (Y (AG 1 PF E (AT E E (AF E LX (AG 2 Fx E ?_)))))
 refine Z E (Rg (t:=[])) ?_
 refine V ?_
 refine Ax E (fun hc2=>?_) (fun hc2=>?_)
 have hsh:=hx3 (by simpa using hc2)
 rw[Pj hsh]at hx1
 rw[←hx1]
 refine AH (Aw DG [0,1,2] (CM [(true,0),(true,1),(true,2),(true,3),(true,4),(true,5),(true,6),(true,7)] (.last 8 .nil)) zK (AG 1 PF E (AT E E (AF E LX (AG 2 Fx E (AG 0 Fx E (Z E (FQ zQ) (AT E E ?_))))))))
 refine AF E LX (Bh (A8 2 E E E E GD E E E zT (V (AL (Ac (EM ?_))))))
 exact Ag (Dg E) (Af (M:=[_]) ⟨E,E⟩ fun _ h=>h.skip [_,_])
 have hr1:r1=[]:=by simpa using hc2
 subst hr1
 rw[List.nil_append,LI]at hx1
 rw[←hx1]
 refine AJ (AI (Y ?_))
 refine Am E pP zU fun b2=>?_
 refine A8 0 E E E E PI E E E zT (V (AH (Kc (AI (AH (Y (AG 1 Fx E (BS 0 oc (Zz s1) E ?_))))))))
 rintro _ _ ⟨bi,rfl,rfl⟩
 refine V (AQ ?_)
 refine Ss (enc:=cX) (OV s1) (fun pre G=>G=AK b2 (.cells #[vI (64*pre.length:Nat)] 3)::AK b1 (.cells #[vS s1] 9)::AK b0 (.cells #[vP b 0] 362)::AK b (.cells (Ny (GT T h1 s1 pre.length) [] n) e)::H) (fun c G=>c=.exit 0∧G=AK b2 (.cells #[vI (64*(s1.length / 64):Nat)] 3)::AK b1 (.cells #[vS s1] 9)::AK b0 (.cells #[vP b 0] 362)::AK b (.cells (Ny (GT T h1 s1 (s1.length / 64)) [] n) e)::H) E om E zV (au s1 bi zO) E E (fun pre x suf G hxs hJ r lp Rest=>?_) (fun G D hJ=>?_) (fun c G D hX=>?_)
 obtain rfl:=hJ
 have hget:(OV s1)[pre.length]? = some x:=by rw[hxs];simp
 have hlt:pre.length<s1.length / 64:=by
  have:=O9 s1
  rw[hxs]at this
  simp at this
  omega
 rw[V8 s1 _ hlt]at hget
 obtain rfl:=zI hget
 refine Y (U E (V (AS (U E (Aa (Kb (AQ (Y (AG 2 PF E (AT E E (AF E Xn (J E (SL.pick [3,0,1,2] 4 (AP 1 gb (Vv T (GT T h1 s1 pre.length) [] _ n b e hT hTl zQ) E ?_))))))))))))))
 refine SL.pick [1,2,3,0] 4 (V (Y (J E (A8 0 E E E E PI E E E zT (V (Y (AG 1 Fx E (By E Ch E (J E (Z E (Dz zO zO) (Z E BA (V ?_))))))))))))
 refine Ax E (fun hc3=>?_) (fun hc3=>?_)
 refine Ay (HV ?_)
 have e1:pre.length+1=s1.length / 64:=by simp at hc3;omega
 exact Nm (G:=_::_::_::_::H) (by rw[←e1];exact⟨E,E⟩) (fun _ h=>h)
 refine AJ (An ?_)
 exact IE (G:=_::_::_::_::H) (by rw[show(pre++[(64*(pre.length+1),(s1.drop (64*pre.length)).take 64)]).length=pre.length+1 by simp];rfl) (fun _ h=>h)
 obtain rfl:=hJ
 rw[O9]
 refine An (AI (Aw DG [0,1,2] (CM [(true,0),(true,1),(true,2),(true,3),(true,4),(true,5)] (.last 6 .nil)) zK (AG 2 PF E (AG 1 Fx E (AG 0 FJ E (Oh (64*(s1.length / 64)) E Ch E E zO zO (AT E E (AF E LX (Bh (A8 3 E E E E GD E E E zT (Aa (fx ?_))))))))))))
 exact DE (Dg E) (Af (M:=[_]) ⟨E,E⟩ fun _ h=>h.skip [_,_,_])
 obtain⟨rfl,rfl⟩:=hX
 refine Ay (A9 (AI (Aw DG [0,1,2] (CM [(true,0),(true,1),(true,2),(true,3),(true,4),(true,5)] (.last 6 .nil)) zK (AG 2 PF E (AG 1 Fx E (AG 0 FJ E (Oh (64*(s1.length / 64)) E Ch E E zO zO (AT E E (AF E LX (Bh (A8 3 E E E E GD E E E zT (Aa (fx ?_)))))))))))))
 exact DE (Dg E) (Af (M:=[_]) ⟨E,E⟩ fun _ h=>h.skip [_,_,_])
end

section
variable {K:Nat→Prop}{w0:World}{H:List AY}
def Y1(e:TypeId):Prop:=liesAt Tryz.prog Tryz.prog.depth e (2 / Tryz.prog.cellsOf e) 0 136 1=true
theorem sP(v:Value)(w:World):(callFunc 122 [v].toArray).run Tryz.prog w=.ok (.value v) w:=by
 rw[run_callFunc_extern (e:=Extern.AbiNoEscape.same) Tryz.func122 zK zK zK zK]
 rfl
theorem YO(e:TypeId)(b:Nat)(v:Value)(hl:Y1 e):zC K w0 85 [vP b 0] [AK b (.cells #[.pointer none,v] e)] H (fun r M=>r=.tuple #[]∧M=[AK b (.cells #[vP b 0,v] e)]):=by
 refine Td.enter Tryz.func85 rfl rfl ?_
 refine Y (J E (AT E E (AF E Ui (AG 0 fP E (EL E YE E E (V (QD E (AS (J E (J E ?_))))))))))
 refine mj 0 E YE lw fU E E E E ?_
 refine jf E (vs:=[_]) ⟨E,zT⟩ (sP _) ?_
 refine mV 0 E lw YE fU E E hl (AT E E (AF E Ui (A8 0 E E E E rQ E E E zT (Aa ?_))))
 exact DE (Dg E) (Af (M:=[_]) ⟨E,E⟩ fun _ h=>h)
theorem YP(e:TypeId)(b:Nat)(v:Value):zC K w0 85 [vP b 0] [AK b (.cells #[vP b 0,v] e)] H (fun r M=>r=.tuple #[]∧M=[AK b (.cells #[vP b 0,v] e)]):=by
 refine Td.enter Tryz.func85 rfl rfl ?_
 refine Y (J E (AT E E (AF E Ui (AG 0 fP E (EL E YE E E (V (C0 E (Y (J E (AT E E ?_))))))))))
 refine AF E Ui (AG 0 fP E (J E (jj E YE fU E E (V (C0 E (AJ ?_))))))
 exact DE (Dg E) (Af (M:=[_]) ⟨E,E⟩ fun _ h=>h)
def Oj(b:Nat)(p:Value):Prop:=p=.pointer none∨p=vP b 0
theorem Qj(e:TypeId)(b:Nat)(p v:Value)(hp:Oj b p)(hl:Y1 e):zC K w0 85 [vP b 0] [AK b (.cells #[p,v] e)] H (fun r M=>r=.tuple #[]∧M=[AK b (.cells #[vP b 0,v] e)]):=by
 rcases hp with rfl | rfl
 exact YO e b v hl
 exact YP e b v
theorem OM(e:TypeId)(b:Nat)(p v:Value)(n:Nat)(xs:List Value)(c:UInt8)(hp:Oj b p)(hl:Y1 e)(hn:n+1≤140737488355328):
  zC K w0 238 [vP b 0,EB c] [AK b (.cells #[p,v] e),DO 5 1 v n xs] H
   (fun r M=>r=.nilIface∧∃v',M=[AK b (.cells #[vP b 0,v'] e),DO 5 1 v' (n+1) (xs++[EB c])]):=by
 refine Td.enter Tryz.func238 rfl rfl ?_
 refine Y (U E (V (Y (J E (AP 1 eT (Qj e b p v hp hl) E (V (Y (J E (J E (AT E E (AF E Ic (AG 0 P0 E ?_))))))))))))
 refine J E ?_
 refine CD [EB c] E Cb Jg KY ⟨E,zT⟩ E E E zX E E zU fun b1=>?_
 refine UE 2 E (news:=[EB c]) Cb Jg VE KY E zD E E E E (Aj 0 E) (by simp[Value.oneCell']) zO zO zU fun v'=>?_
 refine AT E E (AF E Ic ?_)
 refine bn (fun w hw=>X5 (hw.holds _ (List.mem_append_left _ (List.mem_of_getElem? (i:=2) E)))) fun hsh=>?_
 have hc1:v'.cells=#[v']:=by rcases hsh with⟨rfl,_⟩ | ⟨g,cap,rfl,_⟩<;>rfl
 have ho1:v'.oneCell'=true:=by rcases hsh with⟨rfl,_⟩ | ⟨g,cap,rfl,_⟩<;>rfl
 refine A8 1 E E E E fS (by rw[hc1];rfl) (by rw[hc1];simp[ho1]) E zT ?_
 rw[hc1]
 refine V (Y (U E (V (AL ?_))))
 exact Ag (Cl E E) (Af (M:=[_,_]) ⟨E,v',E⟩ fun _ h=>h.skip [_])
theorem Gm(e:TypeId)(b:Nat)(p v:Value)(n:Nat)(xs:List Value)(s:List UInt8)(hp:Oj b p)(hl:Y1 e)(hn:n+s.length≤140737488355328):
  zC K w0 59 [vP b 0,vS s] [AK b (.cells #[p,v] e),DO 5 1 v n xs] H
   (fun r M=>r=.tuple #[vI s.length,.nilIface]∧∃v',M=[AK b (.cells #[vP b 0,v'] e),DO 5 1 v' (n+s.length) (xs++s.map fun b=>EB b)]):=by
 refine Td.enter Tryz.func59 rfl rfl ?_
 refine Y (U E (U E (V (Y (J E (AP 1 eT (Qj e b p v hp hl) E (V (Y (J E (J E (AT E E (AF E Ic ?_))))))))))))
 refine AG 0 P0 E (J E ?_)
 refine je 1 E Cb Ch Jg VE KY E E E hn zU fun v'=>?_
 refine AT E E (AF E Ic ?_)
 refine bn (fun w hw=>X5 (hw.holds _ (List.mem_append_left _ (List.mem_of_getElem? (i:=1) E)))) fun hsh=>?_
 have hc1:v'.cells=#[v']:=by rcases hsh with⟨rfl,_⟩ | ⟨g,cap,rfl,_⟩<;>rfl
 have ho1:v'.oneCell'=true:=by rcases hsh with⟨rfl,_⟩ | ⟨g,cap,rfl,_⟩<;>rfl
 refine A8 0 E E E E fS (by rw[hc1];rfl) (by rw[hc1];simp[ho1]) E zT ?_
 rw[hc1]
 refine V (Y (J E (By E Ch E (U E (U E (V (AL ?_)))))))
 exact Ag (ER E E E) (Af (M:=[_,_]) ⟨E,v',E⟩ fun _ h=>h)
theorem Zg(e:TypeId)(b:Nat)(p v:Value)(n:Nat)(xs:List Value):
  zC K w0 60 [vP b 0] [AK b (.cells #[p,v] e),DO 5 1 v n xs] H
   (fun r M=>r=vI n∧M=[AK b (.cells #[p,v] e),DO 5 1 v n xs]):=by
 refine Td.enter Tryz.func60 rfl rfl ?_
 refine Y (U E (V (Y (J E (AT E E (AF E Ic (AG 0 P0 E (bq 1 E Cb E E (U E (V (AL ?_)))))))))))
 exact Ag (Cl E E) (Af (M:=[_,_]) ⟨E,E⟩ fun _ h=>h)
theorem JU(e:TypeId)(b:Nat)(p v:Value)(n:Nat)(s:List UInt8)(hn:n≤140737488355328):
  zC K w0 61 [vP b 0] [AK b (.cells #[p,v] e),DO 5 1 v n (s.map fun b=>EB b)] H
   (fun r M=>r=vS s∧M=[AK b (.cells #[p,v] e),DO 5 1 v n (s.map fun b=>EB b)]):=by
 refine Td.enter Tryz.func61 rfl rfl ?_
 refine Y (U E (V (AH (Aw DG [0,1] (C4 [(true,0),(true,1),(true,2),(true,3),(true,5),(true,6),(true,7),(true,8),(true,9),(false,4),(false,10),(true,11)]) zK (J E (AT E E (AF E Ic (AG 0 P0 E (J E (AT E E ?_))))))))))
 refine AF E Ic (AG 0 P0 E (bq 1 E Cb E E ?_))
 refine js 1 E ln E E ⟨⟨0,E⟩,⟨1,E⟩,zT⟩ fun q hq=>?_
 refine jt 1 E ln tB E E hq E zO ⟨⟨0,E⟩,⟨1,E⟩,zT⟩ (U E (V (AL ?_)))
 exact Ag (Cl E E) (Af (M:=[_,_]) ⟨E,E⟩ fun _ h=>h)
end

section
variable {K:Nat→Prop}{w0:World}{H:List AY}
theorem bD{y:UInt64}(h:y.toNat<4294967296):shr64 y 32=0:=by
 apply UInt64.toNat_inj.1
 have h1:y.toNat / 4294967296=0:=Nat.div_eq_of_lt h
 simp[shr64,h1]
theorem j7(n:Nat)(h:n<9223372036854775808):decide ((9223372036854775807:UInt64)<Cn n)=false:=by
 rw[decide_eq_false_iff_not,UInt64.lt_iff_toNat_lt]
 have h1:(9223372036854775807:UInt64).toNat=9223372036854775807:=by decide
 have h2:(Cn n).toNat=n:=by simp only[Cn,UInt64.toNat_ofNat'];omega
 omega
theorem ZZ{y:UInt64}(h:y.toNat<4294967296):y &&& 4294967295=y:=by
 apply UInt64.toNat_inj.1
 rw[UInt64.toNat_and]
 exact Nat.and_two_pow_sub_one_of_lt_two_pow (n:=32) h
theorem kG(y:UInt64)(hy:y.toNat<4294967296):zC K w0 83 [AV 1,AV y] [] H (fun r M=>r=.tuple #[AV 0,AV y]∧M=[]):=by
 refine Td.enter Tryz.func83 rfl rfl ?_
 refine Y (U E (U E (V (Y (J E ?_)))))
 refine Z E (Of (b:=4294967295)) ?_
 refine U E (V (Y (J E ?_)))
 refine Z E (FO.shr64 (n:=32)) ?_
 refine U E (V (Y (J E ?_)))
 refine Z E (Of (b:=4294967295)) ?_
 refine U E (V (Y (J E ?_)))
 refine Z E (FO.shr64 (n:=32)) ?_
 refine U E (V (Y (J E (J E (Z E Lz (U E (V (Y (J E (J E (Z E Lz ?_)))))))))))
 refine J E ?_
 refine Z E (FO.shr64 (n:=32)) ?_
 refine Z E Hw (U E (V (Y (J E ?_))))
 refine Z E (Of (b:=4294967295)) ?_
 refine U E (V (Y (J E ?_)))
 refine Z E (FO.shr64 (n:=32)) ?_
 refine U E (V (Y (J E (J E (J E (Z E Lz (Z E Hw (U E (V (Y (J E ?_)))))))))))
 refine J E (Z E Lz (J E (Z E Hw (J E ?_))))
 refine Z E (FO.shr64 (n:=32)) ?_
 refine Z E Hw (U E (V (Y (J E (J E (Z E Lz (U E (V (AL ?_)))))))))
 have h1:shr64 y 32=0:=bD hy
 have h2:y &&& 4294967295=y:=ZZ hy
 have h3:shr64 (1:UInt64) 32=0:=by decide
 have h4:(1:UInt64) &&& 4294967295=1:=by decide
 have h5:shr64 (0:UInt64) 32=0:=by decide
 have h6:(0:UInt64) &&& 4294967295=0:=by decide
 refine Ag (ER E E E) (Af (M:=[]) ⟨?_,E⟩ fun _ h=>h.skip [])
 simp[h1,h2,h3,h4,h5,h6]
theorem kF(y:UInt64)(hy:y.toNat<4294967296):zC K w0 56 [AV 1,AV y] [] H (fun r M=>r=.tuple #[AV 0,AV y]∧M=[]):=by
 refine Td.enter Tryz.func56 rfl rfl ?_
 refine Y (U E (U E (V (AH ?_))))
 refine Ax E (fun hc1=>absurd hc1 zD) (fun hc1=>?_)
 refine AJ (AI (Y (J E (J E (AP 0 qa (kG y hy) E (J E (Ae E E E (Ae E E E (U E (U E (V (Y ?_))))))))))))
 refine J E (J E (U E (U E (V (AL ?_)))))
 exact Ag (ER E E E) (Af (M:=[]) ⟨E,E⟩ fun _ h=>h.skip [])
theorem kI(b n:Nat)(hn:n≤281474976710656):zC K w0 86 [vP b 0,vI n] [AK b (.cells #[vP b 0,zN] 136)] H (fun r M=>r=.tuple #[]∧∃v,M=[AK b (.cells #[vP b 0,v] 136),DO 5 1 v 0 []]):=by
 refine Td.enter Tryz.func86 rfl rfl ?_
 refine AH (Aw DG [0] (C4 [(true,0),(true,1),(true,2),(true,3),(true,4),(true,5),(true,6),(true,7),(true,9),(true,10),(true,11),(true,12),(true,13),(false,8),(true,14),(true,15)]) zK (J E (AT E E (AF E Ic (AG 0 P0 E (bj E Cb E (Z E (OZ zO zO) (J E ?_))))))))
 refine Z E (Be zO zO) (J E (AT E E (AF E Ic (AG 0 P0 E (ID E Cb E ?_)))))
 refine md (n:=n) (fn:=Tryz.f123) E E zO hn Cb (fun w r w' hr=>by rw[run_callFunc_extern (e:=Extern.BytealgMakeNoZero.makeNoZero #[3] #[112]) Tryz.func123 zK zK zK zK];rw[show(Extern.BytealgMakeNoZero.makeNoZero #[3] #[112] #[vI n]).run Tryz.prog w=.ok r w' from hr];rfl) (fun _ _=>⟨⟨1,E⟩,zT⟩) fun b1 cs hcs hcm=>?_
 refine bw 0 E Cb Jg E E E zO (U E (V (Y (J E (J E (AT E E (AF E Ic (AG 1 P0 E (mU E Cb Jg E E (V (AS ?_)))))))))))
 refine J E (J E (AT E E (AF E Ic (A8 1 E E E E fS E E E zT (Aa ?_)))))
 refine SQ.heap (H':=DO 5 1 (.slice (some ⟨b1,0,none⟩) 0 cs.size) 0 []::AK b (.cells #[vP b 0,.slice (some ⟨b1,0,none⟩) 0 cs.size] 136)::H) ?_ fun w hw=>ba hw zS zO
 exact DE (Dg E) (Af (M:=[_,_]) ⟨E,_,E⟩ fun _ h=>h.perm (List.Perm.swap _ _ _))
theorem cE(b n:Nat)(p:Value)(hp:Oj b p)(h0:0<n)(hn:n≤281474976710656):zC K w0 58 [vP b 0,vI n] [AK b (.cells #[p,zN] 136)] H (fun r M=>r=.tuple #[]∧∃v,M=[AK b (.cells #[vP b 0,v] 136),DO 5 1 v 0 []]):=by
 refine Td.enter Tryz.func58 rfl rfl ?_
 refine Y (J E (AP 1 eT (Qj 136 b p (.slice none 0 0) hp Q1) E (V (AH (Y (J E (Z E BA (V ?_))))))))
 refine Ax E (fun hc1=>absurd hc1 zS) (fun hc1=>?_)
 refine AJ (AI (AH (Aw DG [0] (C4 [(true,0),(true,1),(true,2),(true,3),(true,4),(true,5),(true,6),(true,7),(true,8),(true,9),(true,10),(true,11),(true,12)]) zK (J E (AT E E (AF E Ic (AG 0 P0 E (bj E Cb E (J E (AT E E ?_))))))))))
 refine AF E Ic (AG 0 P0 E (ID E Cb E (Z E (Dz zO zO) (J E (Z E BA (V ?_))))))
 refine Ax E (fun hc2=>?_) (fun hc2=>absurd hc2 zQ)
 refine AS (J E (J E (BS 1 qb (kI b n hn) E ?_)))
 rintro _ _ ⟨rfl,v,rfl⟩
 refine Aa ?_
 exact DE (Dg E) (Af (M:=[_,_]) ⟨E,v,E⟩ fun _ h=>h)
theorem NJ(n:Nat)(hn:n≤8192):zC K w0 39 [vS [0],vI n] [] H (fun r M=>r=vS (List.replicate n 0)∧M=[]):=by
 refine Td.enter Tryz.func39 rfl rfl ?_
 refine Y (U E (V (AH (Y (J E (V (AQ (Y (Z E Bg (U E (V ?_)))))))))))
 refine Ax E (fun hc1=>?_) (fun hc1=>?_)
 refine Y (U E (V (AL (BC (Ac ?_)))))
 exact Ag (Cl E E) (Af (M:=[]) ⟨by have h0:n=0:=(by simpa using hc1);subst h0;rfl,E⟩ fun _ h=>h.skip [])
 have h0:n≠0:=by intro h;subst h;simp at hc1
 refine Y (Z E Bg (U E (V ?_)))
 refine Ax E (fun hc2=>?_) (fun hc2=>?_)
 refine Y (J E (U E (V (AL (BC (Ac ?_))))))
 exact Ag (Cl E E) (Af (M:=[]) ⟨by have h1:n=1:=(by simp at hc2;omega);subst h1;rfl,E⟩ fun _ h=>h.skip [])
 refine AJ (An (AI (AH (Y (J E (Z E BA (V ?_)))))))
 refine Ax E (fun hc3=>absurd hc3 zS) (fun hc3=>?_)
 refine AJ (AI (Y (J E (By E Ch E (BF E E (Es I9 PJ) (J E (BF E E (Es I9 PJ) (AP 0 kW (kF (Cn n) (by simp[Cn];omega)) E (J E (Ae E E E ?_))))))))))
 refine Ae E E E (U E (U E (V (AH (Y (J E ?_))))))
 refine Z E (NE (b:=0)) ?_
 refine J E ?_
 refine E3 (c:=false) 31 3 34 E (fun hb k=>?_) (fun hb k=>?_) ?_
 refine AD E (AD E (Ai E E E ?_))
 exact k.mono tL
 refine J E ?_
 refine Z E (NE (b:=9223372036854775807)) ?_
 rw[j7 n zO]
 refine Ai E E E ?_
 exact k.mono tL
 refine V ?_
 refine Ax E (fun hc4=>absurd hc4 zD) (fun hc4=>?_)
 refine AJ (AI (Y (J E ?_)))
 have hto:((Cn n).toNat:Int)=n:=by simp only[Cn,UInt64.toNat_ofNat'];omega
 refine BF E E (fh (n:=((Cn n).toNat:Int)) PJ I9 zO zO) ?_
 rw[hto]
 refine U E (V (AH (Y (J E (By E Ch E (Z E Bg (V ?_)))))))
 refine Ax E (fun hc5=>absurd hc5 zD) (fun hc5=>?_)
 refine AJ (AI (AH (Y (J E (Ka 0 E Ch E E zD zD (V (AQ (AH (Y ?_)))))))))
 refine Z E (Rf (b:=32)) ?_
 refine U E (V ?_)
 refine Ax E (fun hc6=>absurd hc6 zD) (fun hc6=>?_)
 refine Y ?_
 refine Z E (Rf (b:=45)) ?_
 refine U E (V ?_)
 refine Ax E (fun hc7=>absurd hc7 zD) (fun hc7=>?_)
 refine Y ?_
 refine Z E (Rf (b:=48)) ?_
 refine U E (V ?_)
 refine Ax E (fun hc8=>absurd hc8 zD) (fun hc8=>?_)
 refine Y ?_
 refine Z E (Rf (b:=61)) ?_
 refine U E (V ?_)
 refine Ax E (fun hc9=>absurd hc9 zD) (fun hc9=>?_)
 refine AS ?_
 refine Z E (Rf (b:=9)) ?_
 refine U E (V ?_)
 refine Ax E (fun hc10=>absurd hc10 zD) (fun hc10=>?_)
 refine AJ (An (AI (Y (J E (U E (V (AH (Y (J E (Z E Cq (V ?_)))))))))))
 refine Ax E (fun hc11=>absurd hc11 zQ) (fun hc11=>?_)
 refine AJ (AI (Y ?_))
 refine Am E YL zU fun b0=>?_
 refine V (Y (J E (BS 1 kX (cE b0 n _ (.inl E) zO zO) E ?_)))
 rintro _ _ ⟨rfl,v1,rfl⟩
 refine V (Y (J E (BS 2 SA (Gm 136 b0 _ v1 0 [] [0] (.inr E) Q1 zS) E ?_)))
 rintro _ _ ⟨rfl,v2,rfl⟩
 refine V (AH (AQ ?_))
 refine SX.mono (BG (α:=Nat×Value) (fun x=>1≤x.1∧x.1≤n) (fun x=>[(0,vS [0]),(7,vI n),(8,vI n),(9,vP b0 0)]) (fun x=>AK b0 (.cells #[vP b0 0,x.2] 136)::DO 5 1 x.2 x.1 ((List.replicate x.1 0).map fun b=>EB b)::H) (fun x=>n-x.1) (fun x D hp=>?_) (1,v2) ⟨Nat.le_refl _,by simp only;omega⟩) tL
 obtain⟨m,v⟩:=x
 obtain⟨h1,h2⟩:=hp
 simp only at h1 h2
 refine AH (Y (AP 2 aC (Zg 136 b0 (vP b0 0) v m _) E (J E (Z E BA (V ?_)))))
 refine Ax E (fun hc12=>?_) (fun hc12=>?_)
 refine AJ (AI (AQ (Y (J E (AP 2 aC (Zg 136 b0 (vP b0 0) v m _) E (Z E (Dz zO zO) (AP 2 aC (Zg 136 b0 (vP b0 0) v m _) E (J E (iL E E E E (U E (V (AS (AP 2 Po (JU 136 b0 (vP b0 0) v m (List.replicate m 0) zO) E ?_)))))))))))))
 refine J E (Rm (min (n-m) m) E Ch E E zO zQ (BS 2 SA (Gm 136 b0 _ v m _ ((List.replicate m 0).take (min (n-m) m)) (.inr E) Q1 zQ) E ?_))
 rintro _ _ ⟨rfl,v',rfl⟩
 refine Aa (An ?_)
 exact Av (m+min (n-m) m,v') ⟨by simp only;omega,by simp only;omega⟩ (by simp at hc12;simp only;omega) ⟨E,E,E,E,zT⟩ (fun w h=>by
  have e:(List.replicate m 0).map (fun b=>EB b)++((List.replicate m 0).take (min (n-m) m)).map (fun b=>EB b)=(List.replicate (m+min (n-m) m) 0).map fun b=>EB b:=by
   rw[←List.map_append,List.take_replicate,List.replicate_append_replicate];congr 2;omega
  have e2:((List.replicate m (0:UInt8)).take (min (n-m) m)).length=min (n-m) m:=by simp
  rw[e,e2]at h
  exact h)
 refine Ay (A6 (Ba (A9 (AI (Y (AP 2 Po (JU 136 b0 (vP b0 0) v m (List.replicate m 0) zO) E (U E (V (AL ?_)))))))))
 exact Ag (Cl E E) (Af (M:=[]) ⟨by have h3:m=n:=(by simp at hc12;omega);subst h3;rfl,E⟩ fun _ h=>h.skip [_,_])
end

section
variable {K:Nat→Prop}{w0:World}{H:List AY}
theorem eC(n:UInt64)(i:Nat)(h:i<8):(Rp n).take (i+1)=(Rp n).take i++[(shr64 n (56-8*i)).toUInt8]:=by
 have:i=0∨i=1∨i=2∨i=3∨i=4∨i=5∨i=6∨i=7:=zO
 rcases this with rfl | rfl | rfl | rfl | rfl | rfl | rfl | rfl<;>rfl
theorem VA(T:List UInt32)(h:M6)(s:List UInt8):(D5 T h s).2.length=s.length%64:=by
 rw[LI]
 simp
 omega
theorem Zw(T:List UInt32)(h:M6)(rest:List UInt8)(n:Nat)(b:Nat)(e:TypeId)(hT:S8 K w0 3 T)(hTl:T.length=64)(hr:rest.length=n%64)(hn:n≤1099511627776):zC K w0 276 [vP b 0] [AK b (.cells (Ny h rest n) e)] H (fun r M=>r=vS ((D5 T h (rest++LF n)).1.list.flatMap Gk)∧M=[AK b (.cells (Ny h rest n) e)]):=by
 refine Td.enter Tryz.func276 rfl rfl ?_
 refine Y (U E (V (AH (Y (J E (EL E ra E E (V ?_)))))))
 refine Ax E (fun hc1=>absurd hc1 zS) (fun hc1=>?_)
 refine AJ (AI (Y (J E (AT E E ?_))))
 refine As (Ny h rest n).toList E pm E E (Cp 0 E (fun j u hu=>by simpa using hu)) ?_
 refine Am E mO zU fun b0=>?_
 refine OL (c':=Ny h rest n) 0 E E E E rW E E (List.all_eq_true.1 (show(Ny h rest n).toList.all (·.oneCell')=true from E)) zT ?_
 refine V (Y (J E (AT E E (AF E Un (AG 1 FJ E (BF E E (Es I9 DL) ?_))))))
 refine Z E (Lz (b:=8)) ?_
 refine U E (V (Y (J E (AT E E (AF E Un (AG 1 FJ E (Z E (U7 zO zO) (Z E (Dz zO zO) (Z E (U7 zO zO) ?_)))))))))
 refine U E (V (Y (U E (V (AH (Y (U E (V (AQ (In 5 1 ?_))))))))))
 refine SX.mono (BG (α:=Nat×Value) (fun x=>x.1≤8) (fun x=>[(3,vP b0 0),(4,AV (Cn n*8)),(5,vI (LY n)),(6,x.2),(7,vI (56-8*(x.1:Int)))]) (fun x=>DO 5 1 x.2 x.1 (((Rp (Cn n*8)).take x.1).map fun b=>EB b)::AK b0 (.cells (Ny h rest n) 368)::AK b (.cells (Ny h rest n) e)::H) (fun x=>8-x.1) (fun x D hp=>?_) (0,zN) zD) ⟨E,E,?_,E,E,zT⟩
 rotate_left
 have e1:((119-(n:Int)%64)%64)=(LY n:Int):=by unfold LY;omega
 rw[←e1]
 rfl
 obtain⟨i,v⟩:=x
 simp only at hp
 refine AH (Y (J E (Z E LH (V ?_))))
 refine Ax E (fun hc2=>?_) (fun hc2=>?_)
 have hi:i<8:=by simp at hc2;omega
 have e1:(56-8*(i:Int))=((56-8*i:Nat):Int):=zO
 refine AJ (AI (AH (AQ (AS (J E (J E (J E ?_)))))))
 refine fm E E (congrArg (fun z=>some (vI z)) e1) (FO.shr64 (n:=56-8*i)) ?_
 refine BF E E (FF DL DI) ?_
 refine CD [_] E Cb Jg KY ⟨E,zT⟩ E E E zX E E zU fun b1=>?_
 refine UE 1 E (m:=1) (news:=[EB (shr64 (Cn n*8) (56-8*i)).toUInt8]) Cb Jg VE KY E zD E E E E (Aj 0 E) (by simp[Value.oneCell']) zO zO zU fun v'=>?_
 refine U E (Aa (An (AI (AS (J E (Z E (Dz zO zO) (U E (Aa ?_))))))))
 refine Av (i+1,v') (by simp only;omega) (by simp only;omega) ⟨E,E,E,E,?_,zT⟩ (fun w hw=>by
  simp only
  rw[eC _ _ hi,List.map_append]
  exact hw.skip [_])
 have e2:(56-8*((i+1:Nat):Int))=56-8*(i:Int)-8:=zO
 simp only[e2]
 rfl
 have hi:i=8:=by simp at hc2;omega
 subst hi
 refine Ay (A6 (Ba (A9 (AI (AH (Aw DG [0] (CM [(true,0),(true,3),(true,4),(false,1),(true,2),(true,5)] (.last 6 .nil)) zK (J E (J E ?_))))))))
 refine Wq (s:=Rp (Cn n*8)) 0 E Cb DI Ch E E ?_
 refine BU 0 R9 (NJ (LY n) (by unfold LY;omega)) E ⟨⟨0,E⟩,zT⟩ (Z E (FQ (by simp[LY];omega)) (Z E (FQ (by simp[LY,Rp];omega)) (Bh (SL.pick [1] 2 (AP 1 gY (UR T h rest (LF n) n b0 368 hT hTl zO (by simp[LF,LY,Rp];omega)) E (V (Y (AF E Xn (AP 1 od (Zx (D5 T h (rest++LF n)).1 [vS (D5 T h (rest++LF n)).2,vI n] b0 368) E (U E (V (AL ?_))))))))))))
 exact Ag (Cl E E) (Af (M:=[_]) ⟨E,E⟩ fun _ h=>h.skip [_])
theorem eK(hF:S8 K w0 1 Dl.list):zC K w0 274 [] [] H (fun r M=>∃b,r=vP b 0∧M=[AK b (.cells (Ny Dl [] 0) 368)]):=by
 refine Td.enter Tryz.func274 rfl rfl ?_
 refine Y (U E (V (Y ?_)))
 refine As (ad:=⟨1,0,none⟩) (Dl.list.map AA) E pj E E (fun w hw j u hu=>by
  rw[Cf,Nat.zero_add]
  rw[List.getElem?_map]at hu
  cases hx:Dl.list[j]? with
  | none=>rw[hx]at hu;cases hu
  | some x=>
   rw[hx]at hu
   obtain rfl:=zI hu
   exact Or (ad:=⟨1,j,none⟩) hF.keep (hF.cell j x hx) w hw) ?_
 refine CB [_] E rJ q8 mO ⟨E,zT⟩ E ?_
 refine Bc E E zU fun b0=>?_
 refine U E (V (AL ?_))
 exact Ag (Cl E E) (Af (M:=[_]) ⟨b0,E,E⟩ fun _ h=>h)
theorem Tj(T:List UInt32)(v:Value)(ls:List (List UInt8))(hT:S8 K w0 3 T)(hTl:T.length=64)(hF:S8 K w0 1 Dl.list)(hk:B9 K w0 TU 1 v ls)(hn:ls.flatten.length≤1099511627776)(hl:ls.length≤1099511627776):zC K w0 240 [v] [] H (fun r M=>r=vS (M1 T ls.flatten)∧M=[]):=by
 refine Td.enter Tryz.func240 rfl rfl ?_
 refine Y (U E (V (Y (BS 0 oS (eK hF) E ?_))))
 rintro _ _ ⟨b0,rfl,rfl⟩
 refine U E (V (AH (Y (J E (B2 hk E Db E (J E (V (AQ ?_))))))))
 have h0:D5 T Dl (ls.take 0).flatten=(Dl,[]):=Pj zS
 refine SX.heap (H':=AK b0 (.cells (Ny (D5 T Dl (ls.take 0).flatten).1 (D5 T Dl (ls.take 0).flatten).2 ((ls.take 0).flatten.length:Nat)) 368)::H) ?_ (fun w hw=>by rw[h0];exact hw)
 refine SX.mono (BG (α:=Nat) (fun i=>i≤ls.length) (fun i=>[(3,vP b0 0),(7,v),(8,vI ls.length),(9,vI i)]) (fun i=>AK b0 (.cells (Ny (D5 T Dl (ls.take i).flatten).1 (D5 T Dl (ls.take i).flatten).2 ((ls.take i).flatten.length:Nat)) 368)::H) (fun i=>ls.length-i) (fun i D hp=>?_) 0 (Nat.zero_le _)) tL
 refine Y (Z E BA (V (AH ?_)))
 refine Ax E (fun hc1=>?_) (fun hc1=>?_)
 have hlt:i<ls.length:=by simpa using hc1
 obtain⟨s,hs⟩:=O5 hlt
 have hts:=(E1 hs).2
 have hfl:(ls.take (i+1)).flatten=(ls.take i).flatten++s:=by rw[hts];simp
 have hle:(ls.take (i+1)).flatten.length≤1099511627776:=by
  have:ls.flatten=(ls.take (i+1)).flatten++(ls.drop (i+1)).flatten:=by rw[←List.flatten_append,List.take_append_drop]
  rw[this]at hn
  simp only[List.length_append]at hn
  omega
 rw[hfl,List.length_append]at hle
 refine AJ (AI (AH (AQ (Y ?_))))
 refine Qa i s hk E Db GD E E E hs fun be off hcell=>?_
 refine Bv E Fx E (fun w hw=>hcell _ w hw 0 _ E) ?_
 refine U E (V (Y (J E (J E (AP 1 gY (UR T _ _ s _ b0 368 hT hTl (ZX T Dl _) zO) E (V (AS (J E (AT E E (AF E Un (AG 0 FJ E ?_)))))))))))
 refine J E (By E Ch E (Z E (Be zO zO) (AT E E (AF E Un (A8 0 E E E E PI E E E zT (Aa (An (AI (AS (Z E (Be zO zO) (J E (Aa ?_))))))))))))
 refine Av (i+1) hlt zO tL (fun w hw=>by
  rw[hfl,Rn T Dl (ls.take i).flatten s,List.length_append]
  exact hw)
 have hi:i=ls.length:=by simp at hc1;omega
 have ht:ls.take i=ls:=by rw[hi];exact List.take_length
 rw[ht]
 refine Ay (A6 (Ba (A9 (AI (Y (J E (AP 1 oT (Zw T _ _ ls.flatten.length b0 368 hT hTl (VA T Dl ls.flatten) hn) E (U E (V (AL ?_))))))))))
 exact Ag (Cl E E) (Af (M:=[]) ⟨by unfold M1;rw[Rn T Dl ls.flatten],E⟩ fun _ h=>h.skip [_])
theorem eL(T:List UInt32)(s:List UInt8)(hT:S8 K w0 3 T)(hTl:T.length=64)(hF:S8 K w0 1 Dl.list)(hn:s.length≤1099511627776):zC K w0 277 [vS s] [] H (fun r M=>r=vS (M1 T s)∧M=[]):=by
 refine Td.enter Tryz.func277 rfl rfl ?_
 refine Y (U E (V (Y (J E ?_))))
 refine CD [_] E Db GD RJ ⟨E,zT⟩ E E E zX E E zU fun b0=>?_
 refine Bd (vs:=[_]) (Hin:=[_]) E E ⟨E,zT⟩ Z8 E E (Cm (B:=[AK b0 (.cells #[vS s] 9)]) (Hin:=[]) fun K' w1 hk hB=>(Tj T _ [s] (hT.keeps hk) hTl (hF.keeps hk) (B9.lent (enc:=TU) (sz:=1) (xs:=[s]) zV (Nat.le_refl 1) E (hB _ (List.mem_cons_self ..))) (by simpa using hn) zS)) ?_
 rintro _ _ ⟨M',rfl,rfl,rfl⟩
 refine⟨trivial,?_⟩
 refine U E (V (AL ?_))
 exact Ag (Cl E E) (Af (M:=[]) ⟨by simp,E⟩ fun _ h=>h.skip [_])
end

section
variable {K:Nat→Prop}{w0:World}{H:List AY}
structure GF(K:Nat→Prop)(w0:World)(T:List UInt32):Prop where
 tab:S8 K w0 3 T
 len:T.length=64
 first:S8 K w0 1 Dl.list
theorem GF.keeps{T:List UInt32}{K':Nat→Prop}{w1:World}(h:GF K w0 T)(hk:Wl K w0 K' w1):GF K' w1 T:=⟨h.tab.keeps hk,h.len,h.first.keeps hk⟩
theorem TW(ls:List (List UInt8)):ls.flatMap TU=ls.map vS:=by
 induction ls with
 | nil=>rfl
 | cons s r ih=>rw[List.flatMap_cons,ih];rfl
theorem Yc(k:List UInt8)(n i:Nat):(k++List.replicate n 0).getD i 0=k.getD i 0:=by
 simp only[List.getD_eq_getElem?_getD]
 rcases Nat.lt_or_ge i k.length with h | h
 rw[List.getElem?_append_left h]
 rw[List.getElem?_append_right h,List.getElem?_eq_none h]
 rw[List.getElem?_replicate]
 split<;>rfl
theorem cQ(T:List UInt32)(v:Value)(ls:List (List UInt8))(hT:GF K w0 T)(hn:ls.flatten.length≤1099511627776)(hl:ls.length≤1099511627776):zC K w0 240 [v] [DO 9 1 v ls.length (ls.flatMap TU)] H (fun r M=>r=vS (M1 T ls.flatten)∧M=[DO 9 1 v ls.length (ls.flatMap TU)]):=by
 intro w hw
 have h1:=Cm (P:=Tryz.prog) (K:=K) (w0:=w0) (f:=240) (args:=[v]) (H:=H) (B:=[DO 9 1 v ls.length (ls.flatMap TU)]) (Hin:=[]) (post:=fun r M=>r=vS (M1 T ls.flatten)∧M=[]) (fun K' w1 hk hB=>Tj T v ls (hT.keeps hk).tab hT.len (hT.keeps hk).first (cB zV (hB _ (List.mem_cons_self ..))) hn hl) w hw
 refine h1.mono ?_
 rintro e w' ⟨r,M,rfl,⟨M',rfl,hr,rfl⟩,hw'⟩
 exact⟨r,_,rfl,⟨hr,rfl⟩,hw'⟩
theorem cP(T:List UInt32)(b:Nat)(ls:List (List UInt8))(hT:GF K w0 T)(hn:ls.flatten.length≤1099511627776)(hl:ls.length≤1099511627776):zC K w0 240 [.slice (some ⟨b,0,none⟩) ls.length ls.length] [AK b (.cells (DM vS ls) 9)] H (fun r M=>r=vS (M1 T ls.flatten)∧M=[AK b (.cells (DM vS ls) 9)]):=by
 intro w hw
 have h1:=Cm (P:=Tryz.prog) (K:=K) (w0:=w0) (f:=240) (args:=[.slice (some ⟨b,0,none⟩) ls.length ls.length]) (H:=H) (B:=[AK b (.cells (DM vS ls) 9)]) (Hin:=[]) (post:=fun r M=>r=vS (M1 T ls.flatten)∧M=[]) (fun K' w1 hk hB=>Tj T _ ls (hT.keeps hk).tab hT.len (hT.keeps hk).first (B9.lent (enc:=TU) (sz:=1) zV (Nat.le_refl _) (by rw[TW,Vq];exact List.take_of_length_le zS) (hB _ (List.mem_cons_self ..))) hn hl) w hw
 refine h1.mono ?_
 rintro e w' ⟨r,M,rfl,⟨M',rfl,hr,rfl⟩,hw'⟩
 exact⟨r,_,rfl,⟨hr,rfl⟩,hw'⟩
theorem Vu(T:List UInt32)(key:List UInt8)(c:UInt8)(hT:GF K w0 T)(hn:key.length≤549755813888):zC K w0 241 [vS key,EB c] [] H (fun r M=>r=vS (Fw T key c)∧M=[]):=by
 refine Td.enter Tryz.func241 rfl rfl ?_
 refine Y (U E (V ?_))
 refine Ww (α:=Unit) (fun _=>True) (fun _=>[(0,vS (FI T key)),(1,EB c)]) (fun _=>H) ?_ (fun x hx=>?_)
 refine Y (J E (By E Ch E (Z E Cq (V ?_))))
 refine Ax E (fun hc1=>?_) (fun hc1=>?_)
 refine AS (J rfl (AP 0 oU (eL T key hT.tab hT.len hT.first zO) rfl (U rfl (Aa ?_))))
 have hk:FI T key=M1 T key:=by unfold FI;rw[if_pos (by simp at hc1;omega)]
 exact Sr () zT (by rw[hk];exact⟨E,E,zT⟩)
 refine AJ ?_
 have hk:FI T key=key:=by unfold FI;rw[if_neg (by simp at hc1;omega)]
 exact Sr () zT (by rw[hk];exact⟨E,E,zT⟩)
 
 have hkl:=VP T key
 refine Y (J E (J E (By E Ch E (Z E (Dz zO zO) ?_))))
 refine Bd (vs:=[_,_]) (Hin:=[]) E E ⟨E,E,zT⟩ R9 (by rw[show(64-(((FI T key).length:Nat):Int))=((64-(FI T key).length:Nat):Int) by omega];rfl) E (NJ (64-(FI T key).length) zO) ?_
 rintro _ _ ⟨rfl,rfl⟩
 refine⟨trivial,?_⟩
 refine Z E (FQ zQ) (U E (V (Y ?_)))
 refine Am E YL zU fun b0=>?_
 refine V (AH (Y (J E (V (AQ (In 5 1 (SX.pick [1,0] 2 ?_)))))))
 refine SX.mono (BG (α:=Nat×Value×Value) (fun x=>x.1≤64∧Oj b0 x.2.1) (fun x=>[(0,vS (FI T key++List.replicate (64-(FI T key).length) 0)),(1,EB c),(5,vP b0 0),(18,vI x.1)]) (fun x=>AK b0 (.cells #[x.2.1,x.2.2] 136)::DO 5 1 x.2.2 x.1 (((Fw T key c).take x.1).map fun b=>EB b)::H) (fun x=>64-x.1) (fun x D hp=>?_) (0,.pointer none,zN) ⟨by decide,.inl E⟩) tL
 obtain⟨i,p,v⟩:=x
 obtain⟨hp,hadr⟩:=hp
 simp only at hp hadr
 refine Y (Z E BA (V (AH ?_)))
 refine Ax E (fun hc2=>?_) (fun hc2=>?_)
 have hi:i<64:=by simp at hc2;omega
 refine AJ (AI (AH (AQ (Y (J E (U E (V (AS (J E (J E (Ka i E Ch E E zO zQ (J E (Z E So (BS 2 Wc (OM 136 b0 p v i _ _ hadr Q1 zO) E ?_))))))))))))))
 rintro _ _ ⟨rfl,v',rfl⟩
 refine Aa (An (AI (AS (Z E (Be zO zO) (J E (Aa ?_))))))
 refine Av (i+1,vP b0 0,v') ⟨by simp only;omega,.inr E⟩ (by simp only;omega) tL (fun w hw=>by
  have e1:(Fw T key c).take (i+1)=(Fw T key c).take i++[(FI T key++List.replicate (64-(FI T key).length) 0).getD i 0 ^^^ c]:=by
   rw[List.take_add_one,Yc]
   simp[Fw,hi]
  simp only
  rw[e1,List.map_append]
  exact hw)
 have hi:i=64:=by simp at hc2;omega
 subst hi
 have ht:(Fw T key c).take 64=Fw T key c:=List.take_of_length_le (by rw[LZ];omega)
 rw[ht]
 refine Ay (A6 (Ba (A9 (AI (Y (AP 2 Po (JU 136 b0 p v 64 (Fw T key c) zO) E (U E (V (AL ?_)))))))))
 exact Ag (Cl E E) (Af (M:=[]) ⟨E,E⟩ fun _ h=>h.skip [_,_])
theorem W9(T:List UInt32)(key:List UInt8)(ls:List (List UInt8))(bs:Nat)(hT:GF K w0 T)(hn:key.length≤549755813888)(hls:ls.flatten.length≤549755813888)(hl:ls.length≤549755813888):zC K w0 203 [vS key,.slice (some ⟨bs,0,none⟩) ls.length ls.length] [AK bs (.cells (DM vS ls) 9)] H (fun r M=>r=vS (RT T key ls.flatten)∧M=[]):=by
 refine Td.enter Tryz.func203 rfl rfl ?_
 refine Y (U E (V (Y (J E (AP 0 gT (Vu T key 54 hT hn) E ?_)))))
 refine CD [_] E Db GD RJ ⟨E,zT⟩ E E E zX E E zU fun b0=>?_
 refine J E ?_
 refine SL.heap (H':=DO 9 1 (.slice (some ⟨b0,0,none⟩) 1 1) 1 [vS (Fw T key 54)]::AK bs (.cells (DM vS ls) 9)::H) ?_ (fun w hw=>ZP hw E (Nat.le_refl 1) zD)
 refine UE 0 rfl (m:=ls.length) (news:=ls.map vS) Db GD kE RJ rfl zD rfl rfl rfl zS (Aj 1 rfl) (by intro u hu;obtain⟨x,_,rfl⟩:=List.mem_map.1 hu;rfl) zO zO zU fun v'=>?_
 have e1:DO 9 1 v' (1+ls.length) ([vS (Fw T key 54)]++ls.map vS)=DO 9 1 v' (Fw T key 54::ls).length ((Fw T key 54::ls).flatMap TU):=by
  rw[TW,List.length_cons,Nat.add_comm];rfl
 rw[e1]
 refine AP 1 Z8 (cQ T v' (Fw T key 54::ls) hT (by simp only[List.flatten_cons,List.length_append,LZ];omega) (by simp only[List.length_cons];omega)) E (U E (V (Y (J E (AP 0 gT (Vu T key 92 hT hn) E (J E ?_))))))
 refine CD [_,_] E Db GD RJ ⟨E,E,zT⟩ E E E zX E E zU fun b1=>?_
 refine AP 1 Z8 (cP T b1 [Fw T key 92,M1 T (Fw T key 54::ls).flatten] hT (by simp[LZ,I7]) zS) E (U E (V (AL ?_)))
 exact Ag (Cl E E) (Af (M:=[]) ⟨by simp[RT],E⟩ fun _ h=>h.skip [_,_,_])
theorem WU(T:List UInt32)(key label:List UInt8)(bk bl:Nat)(hT:GF K w0 T)(hn:key.length≤549755813888)(hl:label.length≤274877906944):jw Tryz.prog K w0 302 [vP bk 0,vP bl 0] [AK bl (.cells #[vS label] 9),AK bk (.cells #[vS key] 9)] TU (UY T key label):=by
 intro lp J9 X T1 hy G h0
 refine Td.enter Tryz.func302 rfl rfl ?_
 refine Y (U E (V (Y (U E (V (AQ ?_))))))
 refine SX.mono (BG (α:=Nat×List AY) (fun x=>x.1≤255∧J9 ((UY T key label).take x.1) x.2) (fun x=>[(0,vY lp),(1,vP bk 0),(2,vP bl 0),(4,vS (QK T key label x.1)),(5,vI (x.1+1:Nat))]) (fun x=>AK bl (.cells #[vS label] 9)::AK bk (.cells #[vS key] 9)::(x.2++T1)) (fun x=>255-x.1) (fun x D hp=>?_) (0,G) ⟨by simp,h0⟩) tL
 obtain⟨i,G⟩:=x
 obtain⟨hi,hJ⟩:=hp
 simp only at hi hJ
 refine AH (Y (J E (Z E JA (V ?_))))
 refine Ax E (fun hc1=>?_) (fun hc1=>?_)
 have hlt:i<255:=by simp at hc1;omega
 have hg:=Ys T key label i hlt
 have hel:=aL T key label i
 refine AJ (AI (AH (AQ (Y (AG 1 Fx E (J E (AG 0 Fx E (J E (BF E E (QW I9 DI) ?_)))))))))
 refine CD [_] E Cb Jg KY ⟨E,zT⟩ E E E zX E E zU fun b0=>?_
 refine Sp [_] E Cb DI Ch E E (Aj 0 E) ?_
 refine CD [_,_,_] E Db GD RJ ⟨E,E,E,zT⟩ E E E zX E E zU fun b1=>?_
 refine AP 1 gM (W9 T key [QK T key label i,label,[Ig ((i+1:Nat):Int)]] _ hT hn zQ zS) E (U E (V (Y (J E (J E ?_)))))
 have e1:RT T key [QK T key label i,label,[Ig ((i+1:Nat):Int)]].flatten=QK T key label (i+1):=by simp[QK]
 rw[e1]
 refine HU (M2:=[_,_,_]) (G:=G) (T:=T1) (vs:=[_]) (ok:=fun G1=>J9 ((UY T key label).take (i+1)) G1) (no:=X) E E ⟨E,zT⟩ E ?_ (fun bb G1 hG1=>⟨zT,?_⟩)
 intro M
 have:=hy _ _ _ (E1 hg).1 G hJ M
 rw[←(E1 hg).2]at this
 exact this
 refine CY E E (V ?_)
 refine Ax E (fun hc2=>?_) (fun hc2=>?_)
 obtain rfl:bb=false:=by simpa using hc2
 refine AL (BC (Ac (EE (BC ?_))))
 exact Ag (Dg E) (Af (M:=G1) (.inr hG1) fun _ h=>h.skip [_,_,_])
 obtain rfl:bb=true:=by simpa using hc2
 refine AJ (An (AI (AS (J E (Z E (Be zO zO) (U E (Aa ?_)))))))
 exact Av (i+1,G1) ⟨hlt,hG1⟩ (by simp only;omega) tL (fun w hw=>hw.skip [_])
 refine Ay (A6 (Ba (A9 ?_)))
 have hle:i=255:=by simp at hc1;omega
 exact DE (Dg E) (Af (M:=G) (.inl (by rw[List.take_of_length_le (by rw[UZ];omega)]at hJ;exact hJ)) fun _ h=>h.skip [_,_])
theorem WJ(key label:List UInt8):zC K w0 271 [vS key,vS label] [] H (fun r M=>∃bk bl,r=.func (.func 302) #[] #[vP bk 0,vP bl 0]∧M=[AK bl (.cells #[vS label] 9),AK bk (.cells #[vS key] 9)]):=by
 refine Td.enter Tryz.func271 rfl rfl ?_
 refine Y ?_
 refine Bc E E zU fun b0=>?_
 refine Bc E E zU fun b1=>?_
 refine U E (V (Y ?_))
 refine G8 (fv:=#[]) (cv:=#[_,_]) E E E ?_
 refine U E (V (AL ?_))
 exact Ag (Cl E E) (Af (M:=[_,_]) ⟨b0,b1,E,E⟩ fun _ h=>h)
theorem TK(T:List UInt32)(key label:List UInt8)(hT:GF K w0 T)(hn:key.length≤549755813888)(hl:label.length≤274877906944):zC K w0 236 [vS key,vS label,vI 32] [] H (fun r M=>r=.tuple #[vS (GR T key label),vI 0]∧M=[]):=by
 refine Td.enter Tryz.func236 rfl rfl ?_
 refine Y ?_
 refine Bc E E zU fun b0=>?_
 refine U E (U E (V (Kd (AH (Y (AG 0 FJ E (Z E BA (J E ?_))))))))
 refine E3 (c:=decide ((8160:Int)<32)) 12 3 15 E (fun hb k=>?_) (fun hb k=>?_) ?_
 refine AD E (AD E (Ai E E E ?_))
 exact k.mono tL
 refine AG 0 FJ E (Z E Cq (Ai E E E ?_))
 exact k.mono tL
 refine V ?_
 refine Ax E (fun hc1=>absurd hc1 zD) (fun hc1=>?_)
 refine AJ (AI (Y ?_))
 refine Am E YL zU fun b1=>?_
 refine V (AH (Kc (AI (AH (Y (J E (J E (BS 0 oQ (WJ key label) E ?_))))))))
 rintro _ _ ⟨bk,bl,rfl,rfl⟩
 refine V (In 5 1 (SX.pick [1,2,3,0,4] 5 (AQ ?_)))
 refine Ss (enc:=TU) (UY T key label) (fun pre G=>pre.length≤1∧∃p v,Oj b1 p∧G=AK b1 (.cells #[p,v] 136)::DO 5 1 v pre.flatten.length (pre.flatten.map fun b=>EB b)::AK b0 (.cells #[vI 32] 3)::H) (fun c G=>c=.exit 0∧∃p v,Oj b1 p∧G=AK b1 (.cells #[p,v] 136)::DO 5 1 v 32 ((GR T key label).map fun b=>EB b)::AK b0 (.cells #[vI 32] 3)::H) E oa E zV (WU T key label bk bl hT hn hl) E ⟨Nat.zero_le _,_,_,.inl E,E⟩ (fun pre x suf G hxs hJ r lp Rest=>?_) (fun G D hJ=>?_) (fun c G D hX=>?_)
 obtain⟨hpl,p,v,hadr,rfl⟩:=hJ
 have hx0:(UY T key label)[0]? = some (GR T key label):=by rw[Ys T key label 0 zD,ig]
 have he:(GR T key label).length=32:=Hu ..
 refine AS (U E (Aa (Kb (AQ (AH (AH (Aw DG [2] (C4 [(true,1),(false,0),(true,2)]) zK (AG 0 FJ E (BU 2 aC (Zg 136 b1 p v _ _) E ⟨⟨2,E⟩,zT⟩ (Z E LH (V ?_)))))))))))
 refine Ax E (fun hc2=>?_) (fun hc2=>?_)
 have hpre:pre=[GR T key label]:=by
  match pre,hpl with
  | [],_=>simp at hc2
  | [y],_=>rw[hxs]at hx0;simpa using hx0
 subst hpre
 refine Ay (A6 (HV ?_))
 refine Nm (G:=AK b1 (.cells #[p,v] 136)::DO 5 1 v 32 ((GR T key label).map fun b=>EB b)::AK b0 (.cells #[vI 32] 3)::H) ⟨E,p,v,hadr,E⟩ (fun w hw=>?_)
 have e1:[GR T key label].flatten=GR T key label:=by simp
 rw[e1,he]at hw
 exact hw
 have hpre:pre=[]:=by
  match pre,hpl with
  | [],_=>rfl
  | [y],_=>
   rw[hxs]at hx0
   obtain rfl:y=GR T key label:=by simpa using hx0
   simp[he]at hc2
 subst hpre
 obtain rfl:x=GR T key label:=by rw[hxs]at hx0;simpa using hx0
 refine AJ (AI (AS (J E (BS 2 SA (Gm 136 b1 p v _ _ (GR T key label) hadr Q1 (by simp[he])) E ?_))))
 rintro _ _ ⟨rfl,v',rfl⟩
 refine Aa (An ?_)
 refine IE (G:=AK b1 (.cells #[vP b1 0,v'] 136)::DO 5 1 v' ([]++[GR T key label]).flatten.length (([]++[GR T key label]).flatten.map fun b=>EB b)::AK b0 (.cells #[vI 32] 3)::H) ⟨by simp,_,v',.inr E,E⟩ (fun w hw=>?_)
 have e1:([]++[GR T key label]).flatten=GR T key label:=by simp
 rw[e1]
 simpa using hw
 exact absurd hJ.1 (by rw[UZ];omega)
 obtain⟨rfl,p,v,hadr,rfl⟩:=hX
 have he:(GR T key label).length=32:=Hu ..
 refine Ay (A9 (AI (AH (Aw DG [2] (C4 [(true,1),(false,0),(true,2),(true,3),(true,4)]) zK (AG 0 FJ E (BU 2 Po (JU 136 b1 p v 32 (GR T key label) zO) E ⟨⟨2,E⟩,zT⟩ (Rm 32 E Ch E E zO zO (U E (U E (V (AL (EM ?_))))))))))))
 exact Ag (ER E E E) (Af (M:=[]) ⟨by rw[List.take_of_length_le zO],E⟩ fun _ h=>h.skip [_,_,_])
end

section
variable {K:Nat→Prop}{w0:World}{H:List AY}
theorem Zl(T:List UInt32)(k:BP)(hT:GF K w0 T):zC K w0 199 [.agg (AZ k).toArray] [] H (fun r M=>r=(if DU [k]=true then .tuple #[vS (PH T k NZ),vS (PH T k N1),vI 0]else .tuple #[vS [],vS [],vI 40])∧M=[]):=by
 refine Td.enter Tryz.func199 rfl rfl ?_
 refine Y ?_
 refine Bc E E zU fun b0=>?_
 refine U E (U E (U E (V (AH (Y (As (AZ k) E K8 E E (Aj 0 E) ?_))))))
 refine CD [_] E GY E5 Ji ⟨E,zT⟩ E E E (by simp[Value.cells,AZ]) E E zU fun b1=>?_
 refine Bd (vs:=[_]) (Hin:=[_]) E E ⟨E,zT⟩ eP E E (Cm (B:=[AK b1 (.cells (AZ k).toArray 114)]) (Hin:=[]) fun K' w1 hk hB=>Pn _ [k] (B9.lent (enc:=AZ) (sz:=2) (xs:=[k]) zV (Nat.le_refl 1) E (hB _ (List.mem_cons_self ..))) E zS) ?_
 rintro _ _ ⟨M',rfl,rfl,rfl⟩
 refine⟨trivial,?_⟩
 refine CY E E (V ?_)
 refine Ax E (fun hc1=>?_) (fun hc1=>?_)
 have hr:DU [k]=false:=by simpa using hc1
 refine Y (U E (U E (U E (V (AL (Ac ?_))))))
 exact Ag (X3 E E E E) (Af (M:=[]) ⟨by rw[hr];rfl,E⟩ fun _ h=>h.skip [_,_])
 have hr:DU [k]=true:=by simpa using hc1
 have hkl:=WA hr
 refine AJ (AI (Y (AF E FW (AG 1 A7 E (BF E E (C5 CP DI) (AF E FW (AG 1 A7 E ?_)))))))
 refine Z E (FO.shr32 (n:=8)) ?_
 refine BF E E (C5 CP DI) (AF E FW (AG 1 A7 E ?_))
 refine Z E (FO.shr32 (n:=16)) ?_
 refine BF E E (C5 CP DI) (AF E FW (AG 1 A7 E ?_))
 refine Z E (FO.shr32 (n:=24)) ?_
 refine BF E E (C5 CP DI) ?_
 refine CD [_,_,_,_] E Cb Jg KY ⟨E,E,E,E,zT⟩ E E E zX E E zU fun b2=>?_
 refine Sp [_,_,_,_] E Cb DI Ch E E (Aj 0 E) (U E (V (Y (AF E QO (AG 2 Fx E (J E ?_))))))
 refine Z E (FQ (s:=NZ) (t:=Fv k.gen) (by simp[Fv,NZ])) ?_
 refine AP 0 gS (TK T k.secret (NZ++Fv k.gen) hT zO (by simp[Fv,NZ])) E (J E (Ae E E E (Ae E E E (U E (U E (V (Y (AF E QO (AG 2 Fx E ?_)))))))))
 refine J E ?_
 refine Z E (FQ (s:=N1) (t:=Fv k.gen) (by simp[Fv,N1])) ?_
 refine AP 0 gS (TK T k.secret (N1++Fv k.gen) hT zO (by simp[Fv,N1])) E (J E (Ae E E E (Ae E E E (U E (U E (V (Y (J E (J E ?_)))))))))
 refine U E (U E (U E (V (AL ?_))))
 exact Ag (X3 E E E E) (Af (M:=[]) ⟨by rw[hr];rfl,E⟩ fun _ h=>h.skip [_,_,_])
theorem eH(s:List UInt8)(hn:s.length≤9223372036854775807):zC K w0 198 [vS s] [] H (fun r M=>r=(if 198<s.length then .tuple #[vS [],vI 50]else .tuple #[vS (KQ s),vI 0])∧M=[]):=by
 refine Td.enter Tryz.func198 rfl rfl ?_
 refine Y (U E (U E (V (AH (Y (J E (By E Ch E (Z E Cq (V ?_)))))))))
 refine Ax E (fun hc1=>?_) (fun hc1=>?_)
 have h0:198<s.length:=by simp at hc1;omega
 refine Y (U E (U E (V (AL (Ac ?_)))))
 exact Ag (ER E E E) (Af (M:=[]) ⟨by rw[if_pos h0],E⟩ fun _ h=>h.skip [])
 have h0:¬198<s.length:=by simp at hc1;omega
 have e1:(198-(s.length:Int))=((198-s.length:Nat):Int):=zO
 refine AJ (AI (AH (Aw DG [] (CM [(true,0),(true,1),(true,2),(true,3),(true,4),(true,5),(true,6),(true,9),(true,11),(true,12),(true,13)] (.alt 7 (.alt 8 (C4 [(true,10),(false,14),(true,15),(true,16),(true,17)]) (.cons (false,14) (C4 [(false,8),(true,10),(true,15),(true,16),(true,17)]))) (.cons (false,14) (C4 [(false,7),(false,8),(true,10),(true,15),(true,16),(true,17)])))) zK (J E (By E Ch E ?_)))))
 refine Z E (iJ (n:=8) zO zO) ?_
 refine BF E E (QW I9 DI) (J E (By E Ch E (BF E E (QW I9 DI) (J E (J E (By E Ch E (Z E (Dz zO zO) ?_)))))))
 rw[e1]
 refine Qd ?_ ?_
 refine CD [_,_] E Cb Jg KY ⟨E,E,zT⟩ E E E zX E E zU fun b0=>?_
 refine Qd ?_ ?_
 refine Sp [_,_] E Cb DI Ch E E (Aj 0 E) (Z E (FQ zQ) (AP 0 R9 (NJ (198-s.length) zO) E (Z E (FQ zQ) (U E (U E (V (AL ?_)))))))
 exact Ag (ER E E E) (Af (M:=[]) ⟨by rw[if_neg h0];rfl,E⟩ fun _ h=>h.skip [_])
 refine AP 0 R9 (NJ (198-s.length) zO) E (Sp [_,_] E Cb DI Ch E E (Aj 0 E) (Z E (FQ zQ) (Z E (FQ zQ) (U E (U E (V (AL ?_)))))))
 exact Ag (ER E E E) (Af (M:=[]) ⟨by rw[if_neg h0];rfl,E⟩ fun _ h=>h.skip [_])
 refine AP 0 R9 (NJ (198-s.length) zO) E ?_
 refine CD [_,_] E Cb Jg KY ⟨E,E,zT⟩ E E E zX E E zU fun b0=>?_
 refine Sp [_,_] E Cb DI Ch E E (Aj 0 E) (Z E (FQ zQ) (Z E (FQ zQ) (U E (U E (V (AL ?_))))))
 exact Ag (ER E E E) (Af (M:=[]) ⟨by rw[if_neg h0];rfl,E⟩ fun _ h=>h.skip [_])
end

section
variable {K:Nat→Prop}{w0:World}{H:List AY}
def pU(x:UInt32):List Value:=[AA x]
theorem bS{s:List UInt8}{j:Nat}(h:j<s.length / 4):(CX s)[j]? = some (Jx s (4*j)):=by simp[CX,h]
theorem cG(s:List UInt8)(hs:4≤s.length):zC K w0 317 [vS s] [] H (fun r M=>r=AA (Jx s 0)∧M=[]):=by
 refine Td.enter Tryz.func317 rfl rfl ?_
 refine Y (U E (V (AH (Aw DG [] (C4 [(true,0),(true,1),(true,2),(true,3),(true,4),(true,5),(true,6),(true,7),(true,8),(true,9),(true,10),(true,11),(true,12),(true,13),(true,14),(true,15),(true,16),(true,17),(true,18)]) zK (J E (Ka 0 E Ch E E zO zO (BF E E (FG DI CP) (J E (Ka 1 E Ch E E zO zO (BF E E (FG DI CP) ?_))))))))))
 refine Z E (FO.shl32 (n:=8)) ?_
 refine Z E Er (J E (Ka 2 E Ch E E zO zO (BF E E (FG DI CP) ?_)))
 refine Z E (FO.shl32 (n:=16)) ?_
 refine Z E Er (J E (Ka 3 E Ch E E zO zO (BF E E (FG DI CP) ?_)))
 refine Z E (FO.shl32 (n:=24)) ?_
 refine Z E Er (U E (V (AL ?_)))
 exact Ag (Cl E E) (Af (M:=[]) ⟨E,E⟩ fun _ h=>h.skip [])
theorem ar(ls:List (List UInt8))(bl bs:Nat)(hl:ls.length≤549755813888)(hls:∀s∈ls,s.length≤549755813888):jw Tryz.prog K w0 316 [vP bl 0] [AK bl (.cells #[.slice (some ⟨bs,0,none⟩) ls.length ls.length] 40),AK bs (.cells (DM vS ls) 9)] pU (ls.flatMap CX):=by
 intro lp J9 X T1 hy G h0
 refine Td.enter Tryz.func316 rfl rfl ?_
 refine Y (AG 0 OJ E (ID E Db E (J E (V (AQ ?_)))))
 refine SX.mono (BG (α:=Nat×List AY) (fun x=>x.1≤ls.length∧J9 ((ls.take x.1).flatMap CX) x.2) (fun x=>[(0,vY lp),(5,.slice (some ⟨bs,0,none⟩) ls.length ls.length),(6,vI ls.length),(7,vI x.1)]) (fun x=>AK bl (.cells #[.slice (some ⟨bs,0,none⟩) ls.length ls.length] 40)::AK bs (.cells (DM vS ls) 9)::(x.2++T1)) (fun x=>ls.length-x.1) (fun x D hp=>?_) (0,G) ⟨Nat.zero_le _,h0⟩) tL
 obtain⟨i,G⟩:=x
 obtain⟨hi,hJ⟩:=hp
 simp only at hi hJ
 refine Y (Z E BA (V (AH ?_)))
 refine Ax E (fun hc1=>?_) (fun hc1=>?_)
 have hlt:i<ls.length:=by simpa using hc1
 obtain⟨s,hs⟩:=O5 hlt
 have hsl:=hls s (List.mem_of_getElem? hs)
 have hsplit:=E1 hs
 refine AJ (AI (AH (AQ (Y ?_))))
 refine mW (n:=i) E Db GD E E zO zO ?_
 refine Bv E Fx E (Ct 1 E (Et hs)) (U E (V (AQ ?_)))
 refine SX.mono (BG (α:=Nat×List AY) (fun x=>x.1≤s.length / 4∧J9 ((ls.take i).flatMap CX++(CX s).take x.1) x.2) (fun x=>[(0,vY lp),(4,vS (s.drop (4*x.1))),(5,.slice (some ⟨bs,0,none⟩) ls.length ls.length),(6,vI ls.length),(7,vI i)]) (fun x=>AK bl (.cells #[.slice (some ⟨bs,0,none⟩) ls.length ls.length] 40)::AK bs (.cells (DM vS ls) 9)::(x.2++T1)) (fun x=>s.length / 4-x.1) (fun x D hp=>?_) (0,G) ⟨Nat.zero_le _,by simpa using hJ⟩) tL
 obtain⟨j,G⟩:=x
 obtain⟨hj,hJ2⟩:=hp
 simp only at hj hJ2
 refine AH (Y (J E (By E Ch E (Z E LH (V ?_)))))
 refine Ax E (fun hc2=>?_) (fun hc2=>?_)
 have hjlt:j<s.length / 4:=by simp at hc2;omega
 have hw:=bS hjlt
 have hws:=E1 hw
 refine AJ (AI (AH (AQ (Y (J E (J E (AP 0 oh (cG (s.drop (4*j)) zQ) E ?_)))))))
 rw[bR,Nat.add_zero]
 refine HU (M2:=[_,_]) (G:=G) (T:=T1) (vs:=[_]) (ok:=fun G1=>J9 ((ls.take i).flatMap CX++(CX s).take (j+1)) G1) (no:=X) E E ⟨E,zT⟩ E ?_ (fun bb G1 hG1=>⟨zT,?_⟩)
 intro M
 have e1:ls.flatMap CX=((ls.take i).flatMap CX++(CX s).take j)++Jx s (4*j)::((CX s).drop (j+1)++(ls.drop (i+1)).flatMap CX):=by
  have h1:ls.flatMap CX=(ls.take i).flatMap CX++(CX s++(ls.drop (i+1)).flatMap CX):=by
   rw[←List.flatMap_cons,←List.flatMap_append,←hsplit.1]
  have h2:CX s++(ls.drop (i+1)).flatMap CX=(CX s).take j++Jx s (4*j)::((CX s).drop (j+1)++(ls.drop (i+1)).flatMap CX):=by
   rw[←List.cons_append,←List.append_assoc,←hws.1]
  rw[h1,h2,List.append_assoc]
 have:=hy _ _ _ e1 G hJ2 M
 rw[List.append_assoc,←hws.2]at this
 exact this
 refine CY E E (V ?_)
 refine Ax E (fun hc3=>?_) (fun hc3=>?_)
 obtain rfl:bb=false:=by simpa using hc3
 refine AL (BC (Ac (EE (BC (BC (Ac (EE (BC ?_))))))))
 exact Ag (Dg E) (Af (M:=G1) (.inr hG1) fun _ h=>h.skip [_,_])
 obtain rfl:bb=true:=by simpa using hc3
 refine AJ (An (AI (AS (J E (Oh 4 E Ch E E zO zQ ?_)))))
 rw[List.drop_drop,show 4*j+4=4*(j+1) by omega]
 refine U E (Aa ?_)
 exact Av (j+1,G1) ⟨hjlt,hG1⟩ (by simp only;omega) tL
 have hje:j=s.length / 4:=by simp at hc2;omega
 refine Ay (A6 (Ba (A9 (An (AI (AS (Z E (Be zO zO) (J E (Aa ?_)))))))))
 refine Av (i+1,G) ⟨hlt,?_⟩ (by simp only;omega) tL
 simp only
 rw[hsplit.2,List.flatMap_append,List.flatMap_cons,List.flatMap_nil,List.append_nil]
 have ht:(CX s).take j=CX s:=List.take_of_length_le (by rw[EA];omega)
 rw[ht]at hJ2
 exact hJ2
 have hle:i=ls.length:=by simp at hc1;omega
 refine Ay (A6 (Ba (A9 ?_)))
 exact DE (Dg E) (Af (M:=G) (.inl (by rw[hle,List.take_length]at hJ;exact hJ)) fun _ h=>h.skip [_,_])
theorem Zj(ls:List (List UInt8))(bs:Nat):zC K w0 303 [.slice (some ⟨bs,0,none⟩) ls.length ls.length] [AK bs (.cells (DM vS ls) 9)] H (fun r M=>∃bl,r=.func (.func 316) #[] #[vP bl 0]∧M=[AK bl (.cells #[.slice (some ⟨bs,0,none⟩) ls.length ls.length] 40),AK bs (.cells (DM vS ls) 9)]):=by
 refine Td.enter Tryz.func303 rfl rfl ?_
 refine Y ?_
 refine Bc E E zU fun b0=>?_
 refine U E (V (Y ?_))
 refine G8 (fv:=#[]) (cv:=#[_]) E E E ?_
 refine U E (V (AL ?_))
 exact Ag (Cl E E) (Af (M:=[_,_]) ⟨b0,E,E⟩ fun _ h=>h)
theorem Zi(key nonce:List UInt8)(counter:UInt32)(hk:key.length=32)(hn:nonce.length=12):zC K w0 272 [vS key,AA counter,vS nonce] [] H (fun r M=>r=.agg (DM AA (HW key counter nonce))∧M=[]):=by
 refine Td.enter Tryz.func272 rfl rfl ?_
 refine Y ?_
 refine Am E bU zU fun b0=>?_
 refine V (Kd (Y ?_))
 refine Am E bU zU fun b1=>?_
 refine V (Y ?_)
 refine Am E pP zU fun b2=>?_
 refine A8 0 E E E E PI E E E zT (V (Y (J E (BF E E (C5 CP DI) (J E ?_)))))
 refine Z E (FO.shr32 (n:=8)) ?_
 refine BF E E (C5 CP DI) (J E ?_)
 refine Z E (FO.shr32 (n:=16)) ?_
 refine BF E E (C5 CP DI) (J E ?_)
 refine Z E (FO.shr32 (n:=24)) ?_
 refine BF E E (C5 CP DI) ?_
 refine CD [_,_,_,_] E Cb Jg KY ⟨E,E,E,E,zT⟩ E E E zX E E zU fun b3=>?_
 refine Sp [_,_,_,_] E Cb DI Ch E E (Aj 0 E) (U E (V (AH (Kc (AI (AH (Y (J E (J E (J E ?_))))))))))
 refine CD [_,_,_,_] E Db GD RJ ⟨E,E,E,E,zT⟩ E E E zX E E zU fun b4=>?_
 refine BS 1 ob (Zj [J2,key,Fv counter,nonce] b4) E ?_
 rintro _ _ ⟨bl,rfl,rfl⟩
 refine V ?_
 have hbl:=MU (counter:=counter) hk hn
 have hfm:[J2,key,Fv counter,nonce].flatMap CX=HW key counter nonce:=by simp[HW,List.flatMap_cons]
 refine AQ ?_
 refine Ss (enc:=pU) ([J2,key,Fv counter,nonce].flatMap CX) (fun pre G=>G=AK b3 (.cells (DM EB (Fv counter)) 5)::AK b2 (.cells #[vI pre.length] 3)::AK b1 (.cells (DM AA (pre++List.replicate (16-pre.length) 0)) 359)::AK b0 (.cells (DM AA (List.replicate 16 0)) 359)::H) (fun c G=>False) E og E zV (ar [J2,key,Fv counter,nonce] bl b4 zS (by simp[hk,hn,J2,Fv])) E E (fun pre x suf G hxs hJ r lp Rest=>?_) (fun G D hJ=>?_) (fun c G D hX=>hX.elim)
 obtain rfl:=hJ
 have hlt:pre.length<16:=by
  rw[hfm]at hxs
  rw[hxs]at hbl
  simp at hbl
  omega
 refine AS (U E (Aa (Kb (AQ (AH (Y (AG 1 FJ E (Z E Bg (V ?_)))))))))
 refine Ax E (fun hc1=>absurd hc1 zQ) (fun hc1=>?_)
 refine AJ (AI (Y (AG 1 FJ E (J E ?_))))
 refine C7 (n:=pre.length) E P2 Bk E E zO zO ?_
 refine UH (f:=AA) 2 E E E E Bk E E zQ zT ?_
 rw[Sz pre 0 x 16 pre.length rfl hlt]
 refine V (AS (AG 1 FJ E (Z E (Be zO zO) (A8 1 E E E E PI E E E zT (Aa (An ?_))))))
 refine IE (G:=_::_::_::_::H) ?_ (fun _ h=>h)
 have e1:(pre++[x]).length=pre.length+1:=by simp
 rw[e1]
 rfl
 obtain rfl:=hJ
 rw[hfm,hbl]
 have e1:HW key counter nonce++List.replicate (16-16) 0=HW key counter nonce:=by simp
 rw[e1]
 refine An (AI (Y ?_))
 refine As ((HW key counter nonce).map AA) E d6 (by simp[hbl]) E (Cp 2 E (fun j u hu=>by simpa[DM]using hu)) ?_
 refine OL 3 E E E E lj (by simp[hbl]) (by simp[DM]) (No zV (HW key counter nonce)) zT ?_
 refine V (AL (EM ?_))
 exact Ag (Ie E (CC 3 ((HW key counter nonce).map AA) d6 (by simp[hbl]) E E (by simp only[List.drop_zero];exact List.take_of_length_le (by simp[hbl])))) (Af (M:=[]) ⟨E,E⟩ fun _ h=>h.skip [_,_,_,_])
end

section
variable {K:Nat→Prop}{w0:World}{H:List AY}
theorem iw:∀n:Fin 32,(Cn (n.1:Int) &&& 31).toNat=n.1∧(32-(Cn (n.1:Int) &&& 31)).toNat=32-n.1:=by decide
theorem ZE(x:UInt32)(n:Nat)(h1:n<32):Uz x (n:Int)=rl x n:=by
 obtain⟨e1,e2⟩:=iw ⟨n,h1⟩
 simp only at e1 e2
 unfold Uz rl
 rw[e1,e2]
theorem jO:∀i,bK i<32 | 0=>(by decide:16<32) | _+1=>(by decide:8<32)
theorem jP:∀i,bL i<32 | 0=>(by decide:12<32) | _+1=>(by decide:7<32)
theorem Rr(q:Q4):zC K w0 304 [AA q.a,AA q.b,AA q.c,AA q.d] [] H (fun r M=>r=.agg (DM AA q.quarter.list)∧M=[]):=by
 refine Td.enter Tryz.func304 rfl rfl ?_
 refine Y ?_
 refine Am E Sl zU fun b0=>?_
 refine V (AH (Y (UF [vI 16,vI 12] E bN PI fg E ⟨E,E,zT⟩ E E zX (UF [vI 8,vI 7] E bN PI fg E ⟨E,E,zT⟩ E E zX ?_))))
 refine CB (r:=#[vI 16,vI 12,vI 8,vI 7]) [_,_] E rL rA sC ⟨E,E,zT⟩ E ?_
 refine J E (V (AQ ?_))
 refine SX.mono (BG (α:=Nat) (fun i=>i≤2) (fun i=>[(0,AA (q.steps i).a),(1,AA (q.steps i).b),(2,AA (q.steps i).c),(3,AA (q.steps i).d),(8,vP b0 0),(13,.agg #[vI 16,vI 12,vI 8,vI 7]),(14,vI i)]) (fun i=>AK b0 (.cells (DM AA [0,0,0,0]) 389)::H) (fun i=>2-i) (fun i D hp=>?_) 0 zO) tL
 refine Y (Z E BA (V (AH ?_)))
 refine Ax E (fun hc1=>?_) (fun hc1=>?_)
 have hi:i<2:=by simp at hc1;omega
 refine AJ (AI (AH (AQ (Y ?_))))
 refine Rl (i:=i) (c':=#[vI (bK i:Int),vI (bL i:Int)]) rfl rf pn rfl rfl zO zO (by rcases(by omega:i=0∨i=1)with rfl | rfl<;>rfl) ?_
 refine Am E fg zU fun b1=>?_
 refine A8 0 E E E E rY E E E zT (V (Y (J E (J E (Z E B1 (U E (V (Y (J E (J E (Z E Ci ?_)))))))))))
 refine C7 (n:=0) E bN PI E E zO zO ?_
 refine AG 0 FJ E (AP 0 aB (HI _ (bK i:Int)) E ?_)
 rw[ZE _ _ (jO i)]
 refine U E (V (Y (J E (J E (Z E B1 (U E (V (AS (J E (J E (Z E Ci ?_)))))))))))
 refine C7 (n:=1) E bN PI E E zO zO ?_
 refine AG 0 FJ E (AP 0 aB (HI _ (bL i:Int)) E ?_)
 rw[ZE _ _ (jP i)]
 refine U E (Aa (An (AI (AS (Z E (Be zO zO) (J E (Aa ?_)))))))
 exact Av (i+1) zO zO tL (fun w hw=>hw.skip [_])
 have hi:i=2:=by simp at hc1;omega
 subst hi
 refine Ay (A6 (Ba (A9 (AI (Y (J E (J E (J E (J E ?_)))))))))
 refine UF (q.quarter.list.map AA) rfl P3 Bk Sl rfl ⟨rfl,rfl,rfl,rfl,trivial⟩ rfl rfl (fun v hv=>by obtain⟨x,_,rfl⟩:=List.mem_map.1 hv;rfl) ?_
 refine OL 0 E E E E Vf E E (No zV q.quarter.list) zT ?_
 refine V (AL ?_)
 exact Ag (Ie E (CC 0 (q.quarter.list.map AA) d7 E E E E)) (Af (M:=[]) ⟨E,E⟩ fun _ h=>h.skip [_])
theorem UN(ws:List UInt32)(step:Nat)(b:Nat)(e:TypeId)(hw:ws.length=16)(hs:step≤1):zC K w0 273 [vP b 0,vI step] [AK b (.cells (DM AA ws) e)] H (fun r M=>r=.tuple #[]∧M=[AK b (.cells (DM AA (U0 ws step)) e)]):=by
 refine Td.enter Tryz.func273 rfl rfl ?_
 refine Y (J E (V (AQ ?_)))
 refine SX.mono (BG (α:=Nat) (fun i=>i≤4) (fun i=>[(0,vP b 0),(1,vI step),(10,vI i)]) (fun i=>AK b (.cells (DM AA (DZ ws step i)) e)::H) (fun i=>4-i) (fun i D hp=>?_) 0 zO) tL
 have hwl:(DZ ws step i).length=16:=(KT ws step i).trans hw
 refine Y (Z E BA (V (AH ?_)))
 refine Ax E (fun hc1=>?_) (fun hc1=>?_)
 have hi:i<4:=by simp at hc1;omega
 have h16:∀k,k<4→H6 step i k<16:=fun k hk=>by unfold H6;omega
 refine AJ (AI (AH (AQ (Y (J E (U E (V (Y ?_))))))))
 refine Am E sB zU fun b0=>?_
 refine V (AH (Y (J E (V (AQ ?_)))))
 refine SX.mono (BG (α:=Nat) (fun k=>k≤4) (fun k=>[(0,vP b 0),(1,vI step),(4,vI i),(5,vP b0 0),(10,vI i),(13,vI k)]) (fun k=>AK b0 (.cells (DM vI (((List.range k).map fun j=>((H6 step i j:Nat):Int))++List.replicate (4-k) 0)) 388)::AK b (.cells (DM AA (DZ ws step i)) e)::H) (fun k=>4-k) (fun k D hp=>?_) 0 zO) tL
 refine Y (Z E BA (V (AH ?_)))
 refine Ax E (fun hc2=>?_) (fun hc2=>?_)
 have hk:k<4:=by simp at hc2;omega
 have hks:k*step≤3:=Nat.le_trans (Nat.mul_le_mul_left k hs) zO
 have hks2:((k:Int)*step)=((k*step:Nat):Int):=by simp
 refine AJ (AI (AH (AQ (Y (J E (U E (V (AS (J E (J E (Z E (OZ zO zO) (J E (J E (J E ?_))))))))))))))
 refine Z E (OZ zO zO) (Z E (Be zO zO) (Z E (U7 zO zO) (Z E (Be zO zO) ?_)))
 refine C7 (n:=k) E Vh PI E E zO zO ?_
 refine UH (f:=vI) 0 E E E E PI E E zQ zT ?_
 rw[Sz _ _ _ 4 k zS hk]
 refine Aa (An (AI (AS (Z E (Be zO zO) (J E (Aa ?_))))))
 refine Av (k+1) zO zO tL (fun w hw=>?_)
 have e1:(4*(k:Int)+((i:Int)+(k:Int)*step)%4)=((H6 step i k:Nat):Int):=by simp[H6]
 simp only[List.range_succ,List.map_append,List.map_cons,List.map_nil]
 rw[e1]at hw
 exact hw
 have hk:k=4:=by simp at hc2;omega
 subst hk
 have hat:((List.range 4).map fun j=>((H6 step i j:Nat):Int))++List.replicate (4-4) 0=[((H6 step i 0:Nat):Int),((H6 step i 1:Nat):Int),((H6 step i 2:Nat):Int),((H6 step i 3:Nat):Int)]:=by rfl
 rw[hat]
 refine Ay (A6 (Ba (A9 (AI ?_))))
 generalize hq:(⟨(DZ ws step i).getD (H6 step i 0) 0,(DZ ws step i).getD (H6 step i 1) 0,(DZ ws step i).getD (H6 step i 2) 0,(DZ ws step i).getD (H6 step i 3) 0⟩:Q4)=q
 refine Ww (α:=Nat) (fun _=>True) (fun x=>[(0,vP b 0),(1,vI step),(5,vP b0 0),(7,vP x 0),(10,vI i)]) (fun x=>AK x (.cells (DM AA q.quarter.list) 389)::AK b0 (.cells (DM vI [((H6 step i 0:Nat):Int),((H6 step i 1:Nat):Int),((H6 step i 2:Nat):Int),((H6 step i 3:Nat):Int)]) 388)::AK b (.cells (DM AA (DZ ws step i)) e)::H) ?_ (fun x hx=>?_)
 refine Aw DG [0,1] (CM [(true,0),(true,1),(true,2),(true,3),(true,4),(true,5),(true,6),(true,7),(true,8),(true,9),(true,10),(true,11),(true,12),(true,13),(true,14),(true,15),(true,16),(true,17),(true,18),(true,19),(true,20),(true,21),(true,22),(true,23)] (.alt 24 (C4 [(false,25),(false,26)]) (.cons (false,25) (C4 [(false,24),(false,26)])))) zK (J E ?_)
 refine C7 (n:=0) E Vh PI E E zO zO ?_
 refine AG 0 FJ E (AT E E ?_)
 refine C7 (n:=H6 step i 0) E P2 Bk E E E (h16 _ zO) ?_
 refine Bv E A7 E (Ct 1 E (Et (Jc 0 (by rw[hwl];exact h16 _ zO)))) (J E ?_)
 refine C7 (n:=1) E Vh PI E E zO zO ?_
 refine AG 0 FJ E (AT E E ?_)
 refine C7 (n:=H6 step i 1) E P2 Bk E E E (h16 _ zO) ?_
 refine Bv E A7 E (Ct 1 E (Et (Jc 0 (by rw[hwl];exact h16 _ zO)))) (J E ?_)
 refine C7 (n:=2) E Vh PI E E zO zO ?_
 refine AG 0 FJ E (AT E E ?_)
 refine C7 (n:=H6 step i 2) E P2 Bk E E E (h16 _ zO) ?_
 refine Bv E A7 E (Ct 1 E (Et (Jc 0 (by rw[hwl];exact h16 _ zO)))) (J E ?_)
 refine C7 (n:=3) E Vh PI E E zO zO ?_
 refine AG 0 FJ E (AT E E ?_)
 refine C7 (n:=H6 step i 3) E P2 Bk E E E (h16 _ zO) ?_
 refine Bv E A7 E (Ct 1 E (Et (Jc 0 (by rw[hwl];exact h16 _ zO)))) ?_
 refine Qd ?_ ?_
 refine Bd (vs:=[_,_,_,_]) (Hin:=[]) E E ⟨E,E,E,E,zT⟩ ga (by rw[←hq];rfl) E (Rr q) ?_
 rintro _ _ ⟨rfl,rfl⟩
 refine⟨⟨⟨0,rfl⟩,⟨1,rfl⟩,trivial⟩,?_⟩
 refine Am E Sl (fun _=>⟨⟨1,E⟩,⟨2,E⟩,zT⟩) fun b1=>?_
 refine OL 0 E E E E Vf E E (No zV q.quarter.list) ⟨⟨1,E⟩,⟨2,E⟩,zT⟩ ?_
 refine Aa ?_
 exact Sr b1 zT tL
 refine Am E Sl (fun _=>⟨⟨1,E⟩,⟨2,E⟩,zT⟩) fun b1=>?_
 refine Bd (vs:=[_,_,_,_]) (Hin:=[]) E E ⟨E,E,E,E,zT⟩ ga (by rw[←hq];rfl) E (Rr q) ?_
 rintro _ _ ⟨rfl,rfl⟩
 refine⟨⟨⟨1,rfl⟩,⟨2,rfl⟩,trivial⟩,?_⟩
 refine OL 0 E E E E Vf E E (No zV q.quarter.list) ⟨⟨1,E⟩,⟨2,E⟩,zT⟩ ?_
 refine Aa ?_
 exact Sr b1 zT tL
 
 refine Y (As (q.quarter.list.map AA) E d7 E E (Aj 0 E) (J E (V (AQ ?_))))
 refine SX.mono (BG (α:=Nat) (fun k=>k≤4) (fun k=>[(0,vP b 0),(1,vI step),(5,vP b0 0),(10,vI i),(53,.agg (DM AA q.quarter.list)),(54,vI k)]) (fun k=>AK x (.cells (DM AA q.quarter.list) 389)::AK b0 (.cells (DM vI [((H6 step i 0:Nat):Int),((H6 step i 1:Nat):Int),((H6 step i 2:Nat):Int),((H6 step i 3:Nat):Int)]) 388)::AK b (.cells (DM AA (T7 (DZ ws step i) (H6 step i) q.quarter.list k)) e)::H) (fun k=>4-k) (fun k D hp=>?_) 0 zO) tL
 refine Y (Z E BA (V (AH ?_)))
 refine Ax E (fun hc3=>?_) (fun hc3=>?_)
 have hk:k<4:=by simp at hc3;omega
 have hix:[((H6 step i 0:Nat):Int),((H6 step i 1:Nat):Int),((H6 step i 2:Nat):Int),((H6 step i 3:Nat):Int)][k]? = some ((H6 step i k:Nat):Int):=by
  rcases(by omega:k=0∨k=1∨k=2∨k=3)with rfl | rfl | rfl | rfl<;>rfl
 have hsl:(T7 (DZ ws step i) (H6 step i) q.quarter.list k).length=16:=(P1 ..).trans hwl
 refine AJ (AI (AH (AQ (Y (J E ?_)))))
 refine PS (i:=k) E P3 A7 E E zO zO (Et (Jc 0 hk)) ?_
 refine U E (U E (V (Aw DG [1] (CM [(true,0),(true,1),(true,2),(true,3),(true,4),(true,5),(true,6)] (.last 7 .nil)) zK (J E (J E ?_)))))
 refine C7 (n:=k) E Vh PI E E zO zO ?_
 refine Bv E FJ E (Ct 0 E (Et hix)) (J E (AT E E ?_))
 refine C7 (n:=H6 step i k) E P2 Bk E E E (h16 _ hk) ?_
 refine Bh ?_
 refine UH (f:=AA) 2 E E E E Bk E E (by rw[hsl];exact h16 _ hk) zT ?_
 refine Aa (An (AI (AS (Z E (Be zO zO) (J E (Aa ?_))))))
 exact Av (k+1) zO zO tL
 have hk:k=4:=by simp at hc3;omega
 subst hk
 refine Ay (A6 (Ba (A9 (An (AI (AS (Z E (Be zO zO) (J E (Aa ?_)))))))))
 refine Av (i+1) zO zO tL (fun w hw=>?_)
 have e1:T7 (DZ ws step i) (H6 step i) q.quarter.list 4=DZ ws step (i+1):=by rw[DZ,jE,hq]
 rw[e1]at hw
 exact hw.skip [_,_]
 have hi:i=4:=by simp at hc1;omega
 subst hi
 refine Ay (A6 (Ba (A9 ?_)))
 exact DE (Dg E) (Af (M:=[_]) ⟨E,E⟩ fun _ h=>h)
end

section
variable {K:Nat→Prop}{w0:World}{H:List AY}
theorem jb(W B:List UInt32)(i:Nat)(h1:i<W.length)(h2:i<B.length):(List.zipWith (·+·) W B).take (i+1)=(List.zipWith (·+·) W B).take i++[W.getD i 0+B.getD i 0]:=by
 rw[List.take_add_one,List.getElem?_eq_getElem zQ]
 simp[List.getD_eq_getElem?_getD,h1,h2]
theorem c9(j:Nat):UInt32.ofNat j+1=UInt32.ofNat (j+1):=by
 apply UInt32.toNat_inj.1
 simp
theorem fc(key nonce s:List UInt8)(n:Nat)(h:n<s.length):(Ih key nonce s).take (n+1)=(Ih key nonce s).take n++[s.getD n 0 ^^^ PG key nonce n]:=by
 rw[List.take_add_one,List.getElem?_eq_getElem (by rw[Fl];exact h)]
 simp[Ih]
theorem Zh(key nonce:List UInt8)(counter:UInt32)(hk:key.length=32)(hn:nonce.length=12):zC K w0 237 [vS key,AA counter,vS nonce] [] H (fun r M=>r=.tuple #[vS (Jk key counter nonce),vI 0]∧M=[]):=by
 refine Td.enter Tryz.func237 rfl rfl ?_
 refine Y (U E (U E (V (AH (Y (J E (By E Ch E (Z E BO (J E ?_)))))))))
 refine E3 (c:=(!decide ((nonce.length:Int)=12))) 16 4 20 E (fun hb k=>?_) (fun hb k=>?_) ?_
 refine AD E (AD E (AD E (Ai E E E ?_)))
 exact k.mono tL
 refine J E (By E Ch E (Z E BO (Ai E E E ?_)))
 exact k.mono tL
 refine V ?_
 refine Ax E (fun hc1=>absurd hc1 (by simp[hk,hn])) (fun hc1=>?_)
 refine AJ (AI (Y (J E (J E (J E (AP 0 oR (Zi key nonce counter hk hn) E ?_))))))
 have hB:=MU (counter:=counter) hk hn
 generalize hBe:HW key counter nonce=B at hB
 refine Am E bU zU fun b0=>?_
 refine OL (c':=DM AA B) 0 E E E E lj (by rw[Sv];exact hB) E (No zV B) zT ?_
 refine V (Y ?_)
 refine Am E bU zU fun b1=>?_
 refine V (AH (Aw DG [] (CM [(true,0),(true,1)] (.last 2 .nil)) zK (fr E P2 Bk E zD (fr E P2 Bk E zD (Bh ?_)))))
 refine mT (f:=AA) (xs:=List.replicate 16 0) (ys:=B) 0 1 E CU Bk E E E E E hB zV zT ?_
 refine V (AH (Y (J E (V (AQ ?_)))))
 refine SX.mono (BG (α:=Nat) (fun i=>i≤10) (fun i=>[(8,vP b0 0),(9,vP b1 0),(28,vI i)]) (fun i=>AK b1 (.cells (DM AA (Sg B i)) 359)::AK b0 (.cells (DM AA B) 359)::H) (fun i=>10-i) (fun i D hp=>?_) 0 zO) tL
 have htl:=(M4 B i).trans hB
 refine Y (Z E BA (V (AH ?_)))
 refine Ax E (fun hc2=>?_) (fun hc2=>?_)
 have hi:i<10:=by simp at hc2;omega
 refine AJ (AI (AH (AQ (Y (AP 1 gX (UN (Sg B i) 0 b1 359 htl zO) E (V (AS (AP 1 gX (UN (U0 (Sg B i) 0) 1 b1 359 ((KT ..).trans htl) zO) E (Aa (An (AI (AS (Z E (Be zO zO) (J E (Aa ?_)))))))))))))))
 exact Av (i+1) zO zO tL
 have hi:i=10:=by simp at hc2;omega
 subst hi
 generalize hW:Sg B 10=W at htl
 refine Ay (A6 (Ba (A9 (AI (Y (U E (V (AH (Y (As (W.map AA) E d6 (by simp[htl]) E (Aj 0 E) (J E (V (AQ (In 5 1 ?_))))))))))))))
 refine SX.mono (BG (α:=Nat×Value) (fun x=>x.1≤16) (fun x=>[(8,vP b0 0),(10,x.2),(33,.agg (DM AA W)),(34,vI x.1)]) (fun x=>DO 5 1 x.2 (4*x.1) ((((List.zipWith (·+·) W B).take x.1).flatMap Fv).map fun b=>EB b)::AK b1 (.cells (DM AA W) 359)::AK b0 (.cells (DM AA B) 359)::H) (fun x=>16-x.1) (fun x D hp=>?_) (0,zN) zD) tL
 obtain⟨i,v⟩:=x
 simp only at hp
 refine Y (Z E BA (V (AH ?_)))
 refine Ax E (fun hc3=>?_) (fun hc3=>?_)
 have hi:i<16:=by simp at hc3;omega
 refine AJ (AI (AH (AQ (Y (J E ?_)))))
 refine PS (i:=i) E P2 A7 E E zO zO (Et (Jc 0 zO)) ?_
 refine U E (U E (V (Y (J E (J E ?_)))))
 refine C7 (n:=i) E P2 Bk E E zO zO ?_
 refine Bv E A7 E (Ct 2 E (Et (Jc 0 zO))) (Z E B1 (U E (V (AS (J E (J E (BF E E (C5 CP DI) (J E ?_))))))))
 refine Z E (FO.shr32 (n:=8)) ?_
 refine BF E E (C5 CP DI) (J E ?_)
 refine Z E (FO.shr32 (n:=16)) ?_
 refine BF E E (C5 CP DI) (J E ?_)
 refine Z E (FO.shr32 (n:=24)) ?_
 refine BF E E (C5 CP DI) ?_
 refine CD [_,_,_,_] E Cb Jg KY ⟨E,E,E,E,zT⟩ E E E zX E E zU fun b2=>?_
 refine UE 1 rfl (m:=4) (news:=(Fv (W.getD i 0+B.getD i 0)).map fun b=>EB b) Cb Jg VE KY rfl zD rfl rfl rfl rfl (Aj 0 rfl) (by intro u hu;obtain⟨x,_,rfl⟩:=List.mem_map.1 hu;rfl) zO zO zU fun v'=>?_
 refine U E (Aa (An (AI (AS (Z E (Be zO zO) (J E (Aa ?_)))))))
 refine Av (i+1,v') (by simp only;omega) (by simp only;omega) tL (fun w hw=>?_)
 simp only
 rw[jb W B i zO zO,List.flatMap_append,List.map_append]
 simp only[List.flatMap_cons,List.flatMap_nil,List.append_nil]
 exact hw.skip [_]
 have hi:i=16:=by simp at hc3;omega
 subst hi
 have ht:(List.zipWith (·+·) W B).take 16=List.zipWith (·+·) W B:=List.take_of_length_le zQ
 rw[ht]
 refine Ay (A6 (Ba (A9 (AI (Y (J E ?_))))))
 refine Wq (s:=(List.zipWith (·+·) W B).flatMap Fv) 0 E Cb DI Ch E E ?_
 refine U E (U E (V (AL ?_)))
 exact Ag (ER E E E) (Af (M:=[]) ⟨by rw[Jk,hC,hBe,hW],E⟩ fun _ h=>h.skip [_,_,_])
theorem eF(key nonce s:List UInt8)(hk:key.length=32)(hn:nonce.length=12)(hs:s.length≤1048576):zC K w0 200 [vS key,vS nonce,vS s] [] H (fun r M=>r=.tuple #[vS (Ih key nonce s),vI 0]∧M=[]):=by
 refine Td.enter Tryz.func200 rfl rfl ?_
 refine Y (U E (U E (V (AH (Y (J E (By E Ch E (Z E BO (J E ?_)))))))))
 refine E3 (c:=(!decide ((nonce.length:Int)=12))) 17 4 21 E (fun hb k=>?_) (fun hb k=>?_) ?_
 refine AD E (AD E (AD E (Ai E E E ?_)))
 exact k.mono tL
 refine J E (By E Ch E (Z E BO (Ai E E E ?_)))
 exact k.mono tL
 refine J E ?_
 refine E3 (c:=decide ((1048576:Int)<s.length)) 22 4 26 E (fun hb k=>?_) (fun hb k=>?_) ?_
 refine AD E (AD E (AD E (Ai E E E ?_)))
 exact k.mono tL
 refine J E (By E Ch E (Z E Cq (Ai E E E ?_)))
 exact k.mono tL
 refine V ?_
 refine Ax E (fun hc1=>absurd hc1 (by simp[hk,hn];omega)) (fun hc1=>?_)
 refine AJ (AI (Y ?_))
 refine Am E YL zU fun b0=>?_
 refine V (AH (Y (U E (V (AQ (In 5 1 (SX.pick [1,0] 2 ?_)))))))
 have hxl:=Fl key nonce s
 refine SX.mono (BG (α:=Nat×Value×Value) (fun x=>64*x.1<s.length+64∧Oj b0 x.2.1) (fun x=>[(0,vS key),(1,vS nonce),(2,vS (s.drop (64*x.1))),(8,vP b0 0),(9,AA (UInt32.ofNat x.1))]) (fun x=>AK b0 (.cells #[x.2.1,x.2.2] 136)::DO 5 1 x.2.2 (min (64*x.1) s.length) (((Ih key nonce s).take (min (64*x.1) s.length)).map fun b=>EB b)::H) (fun x=>s.length+64-64*x.1) (fun x D hp=>?_) (0,.pointer none,zN) ⟨by simp,.inl E⟩) ⟨E,E,E,E,E,zT⟩
 obtain⟨j,p,v⟩:=x
 obtain⟨hj,hadr⟩:=hp
 simp only at hj hadr
 refine AH (Y (J E ?_))
 refine Z E (Rg (t:=[])) ?_
 refine V ?_
 refine Ax E (fun hc2=>?_) (fun hc2=>?_)
 have hjl:64*j<s.length:=by simp at hc2;omega
 have hmin:min (64*j) s.length=64*j:=zO
 rw[hmin]
 refine AJ (AI (AH (AQ (Y (J E (J E (J E (AP 0 oH (Zh key nonce (UInt32.ofNat j) hk hn) E ?_))))))))
 have hbl:=Rq (counter:=UInt32.ofNat j) hk hn
 refine J E (Ae E E E (Ae E E E (U E (U E (V (Y (J E (J E (By E Ch E ?_)))))))))
 refine J E (By E Ch E (Ws E E E (Rm (min (s.length-64*j) 64) E Ch E E zQ zQ (U E (V (AH (Y (J E (By E Ch E (J E (V (AQ ?_))))))))))))
 have hpl:((s.drop (64*j)).take (min (s.length-64*j) 64)).length=min (s.length-64*j) 64:=by simp
 refine SX.mono (BG (α:=Nat×Value×Value) (fun x=>x.1≤min (s.length-64*j) 64∧Oj b0 x.2.1) (fun x=>[(0,vS key),(1,vS nonce),(2,vS (s.drop (64*j))),(8,vP b0 0),(9,AA (UInt32.ofNat j)),(10,vS (Jk key (UInt32.ofNat j) nonce)),(12,vS ((s.drop (64*j)).take (min (s.length-64*j) 64))),(46,vI ((s.drop (64*j)).take (min (s.length-64*j) 64)).length),(47,vI x.1)]) (fun x=>AK b0 (.cells #[x.2.1,x.2.2] 136)::DO 5 1 x.2.2 (64*j+x.1) (((Ih key nonce s).take (64*j+x.1)).map fun b=>EB b)::H) (fun x=>64-x.1) (fun x D hp=>?_) (0,p,v) ⟨Nat.zero_le _,hadr⟩) tL
 obtain⟨i,p,v⟩:=x
 obtain⟨hi,hadr⟩:=hp
 simp only at hi hadr
 refine Y (Z E BA (V (AH ?_)))
 refine Ax E (fun hc3=>?_) (fun hc3=>?_)
 have hil:i<min (s.length-64*j) 64:=by simp only[hpl]at hc3;simpa using hc3
 refine AJ (AI (AH (AQ (Y (J E (U E (V (Aw DG [] (CM [(true,0),(true,1),(true,2),(true,3),(true,4),(true,5),(true,6)] (.last 7 .nil)) zK (J E (J E (Ka i E Ch E E zO zO (J E (J E ?_)))))))))))))
 refine Ka i E Ch E E zO zO (Z E So (Bh ?_))
 have e1:((s.drop (64*j)).take (min (s.length-64*j) 64)).getD i 0=s.getD (64*j+i) 0:=by
  simp[List.getD_eq_getElem?_getD,hil,show 64*j+i<s.length by omega]
 have e2:(Jk key (UInt32.ofNat j) nonce).getD i 0=PG key nonce (64*j+i):=by
  rw[PG,show(64*j+i) / 64=j by omega,show(64*j+i)%64=i by omega]
 rw[e1,e2]
 refine BS 2 Wc (OM 136 b0 p v (64*j+i) _ _ hadr Q1 zO) E ?_
 rintro _ _ ⟨rfl,v',rfl⟩
 refine Aa (An (AI (AS (Z E (Be zO zO) (J E (Aa ?_))))))
 refine Av (i+1,vP b0 0,v') ⟨by simp only;omega,.inr E⟩ (by simp only;omega) tL (fun w hw=>?_)
 simp only
 rw[←Nat.add_assoc,fc key nonce s (64*j+i) zO,List.map_append]
 exact hw
 have hie:i=min (s.length-64*j) 64:=by simp only[hpl]at hc3;simp at hc3;omega
 refine Ay (A6 (Ba (A9 (AI (AS (J E (J E (By E Ch E (Oh (min (s.length-64*j) 64) E Ch E E (by rw[hpl]) zQ ?_)))))))))
 rw[List.drop_drop]
 refine U E (Aa (An (AI (AS (J E ?_)))))
 refine Z E (B1 (b:=1)) ?_
 refine U E (Aa ?_)
 have e1:s.drop (64*j+min (s.length-64*j) 64)=s.drop (64*(j+1)):=by
  rcases Nat.lt_or_ge (s.length-64*j) 64 with h | h
  rw[List.drop_eq_nil_of_le zO,List.drop_eq_nil_of_le zO]
  rw[show 64*j+min (s.length-64*j) 64=64*(j+1) by omega]
 rw[e1,c9]
 refine Av (j+1,p,v) ⟨by simp only;omega,hadr⟩ (by simp only;omega) tL (fun w hw=>?_)
 simp only
 rw[show min (64*(j+1)) s.length=64*j+i by omega]
 exact hw
 have hjl:s.length≤64*j:=by simp at hc2;omega
 have hmin:min (64*j) s.length=s.length:=zO
 have ht:(Ih key nonce s).take s.length=Ih key nonce s:=List.take_of_length_le zO
 rw[hmin,ht]
 refine Ay (A6 (Ba (A9 (AI (Y (AP 2 Po (JU 136 b0 p v s.length (Ih key nonce s) zO) E (U E (U E (V (AL ?_))))))))))
 exact Ag (ER E E E) (Af (M:=[]) ⟨E,E⟩ fun _ h=>h.skip [_,_])
end

section
variable {K:Nat→Prop}{w0:World}{H:List AY}
theorem PX(b:Nat)(p v:Value)(e:TypeId)(n:UInt64)(w m:Nat)(xs:List UInt8)(hp:Oj b p)(hl:Y1 e)(hw:w≤8)(hm:m≤1048576):zC K w0 239 [vP b 0,AV n,vI w] [AK b (.cells #[p,v] e),DO 5 1 v m (xs.map fun b=>EB b)] H (fun r M=>r=.tuple #[]∧∃p' v',Oj b p'∧M=[AK b (.cells #[p',v'] e),DO 5 1 v' (m+w) ((xs++CZ n w).map fun b=>EB b)]):=by
 refine Td.enter Tryz.func239 rfl rfl ?_
 refine Y (J E (J E (V (AQ ?_))))
 refine SX.mono (BG (α:=Nat×Value×Value) (fun x=>x.1≤w∧Oj b x.2.1) (fun x=>[(0,vP b 0),(1,AV n),(7,vI w),(8,vI x.1)]) (fun x=>AK b (.cells #[x.2.1,x.2.2] e)::DO 5 1 x.2.2 (m+x.1) ((xs++CZ n x.1).map fun b=>EB b)::H) (fun x=>w-x.1) (fun x D hp=>?_) (0,p,v) ⟨Nat.zero_le _,hp⟩ |>.heap (fun w h=>by simpa[CZ]using h)) tL
 obtain⟨i,p,v⟩:=x
 obtain⟨hi,hadr⟩:=hp
 simp only at hi hadr
 refine Y (Z E BA (V (AH ?_)))
 refine Ax E (fun hc1=>?_) (fun hc1=>?_)
 have hlt:i<w:=by simpa using hc1
 refine AJ (AI (AH (AQ (Y (J E (U E (V (Aw DG [] (CM [(true,0),(true,1),(true,2),(true,3),(true,4),(true,5),(true,6),(true,7)] (.last 8 .nil)) zK (J E (AT E E (AF E Xm (J E (J E ?_)))))))))))))
 refine Z E (OZ zO zO) ?_
 refine Z E (FO.shr64 (n:=(8*i))) ?_
 refine BF E E (FF DL DI) (Bh (BS 2 Wc (OM e b p v (m+i) _ _ hadr hl zO) E ?_))
 rintro _ _ ⟨rfl,v',rfl⟩
 refine Aa (An (AI (AS (Z E (Be zO zO) (J E (Aa ?_))))))
 refine Av (i+1,vP b 0,v') ⟨hlt,.inr E⟩ (by simp only;omega) tL (fun w hw=>?_)
 simp only
 rw[SU,←List.append_assoc,List.map_append (l₁:=xs++CZ n i),←Nat.add_assoc]
 exact hw
 have hie:i=w:=by simp at hc1;omega
 subst hie
 refine Ay (A6 (Ba (A9 ?_)))
 exact DE (Dg E) (Af (M:=[_,_]) ⟨E,p,v,hadr,E⟩ fun _ h=>h)
theorem TT(h:DC):zC K w0 201 [.agg (J1 h).toArray] [] H (fun r M=>r=vS (Kz h)∧M=[]):=by
 refine Td.enter Tryz.func201 rfl rfl ?_
 refine Y ?_
 refine Bc E E zU fun b0=>?_
 refine U E (V (Y ?_))
 refine Am E mN zU fun b1=>?_
 refine V (Y ?_)
 refine G8 (fv:=#[_]) (cv:=#[]) E E E ?_
 refine U E (V (In 5 1 (SX.pick [1,0,2] 3 (Y (J E (AF E Xk (AG 2 A7 E (BF E E (Cs CP DL) (BS 2 Wd (PX b1 (.pointer none) (.slice none 0 0) 335 h.boot.toUInt64 4 0 [] (.inl E) ah zO zO) E ?_)))))))))
 rintro _ _ ⟨rfl,p1,v1,ha1,rfl⟩
 refine V (Y (J E (AF E Xl (AG 2 G7 E (BS 2 Wd (PX b1 p1 v1 335 h.seq 8 4 _ ha1 ah zO zO) E ?_)))))
 rintro _ _ ⟨rfl,p2,v2,ha2,rfl⟩
 refine V (Y (AF E Xm (AP 2 Po (JU 335 b1 p2 v2 12 (Kz h) zO) E (U E (V (AL ?_))))))
 exact Ag (Cl E E) (Af (M:=[]) ⟨E,E⟩ fun _ h=>h.skip [_,_,_])
theorem cN(h:DC):zC K w0 202 [.agg (J1 h).toArray] [] H (fun r M=>r=vS (PB h)∧M=[]):=by
 refine Td.enter Tryz.func202 rfl rfl ?_
 refine Y ?_
 refine Bc E E zU fun b0=>?_
 refine U E (V (Y ?_))
 refine Am E mN zU fun b1=>?_
 refine V (Y ?_)
 refine G8 (fv:=#[_]) (cv:=#[]) E E E ?_
 refine U E (V (In 5 1 (SX.pick [1,0,2] 3 (Y (J E (AF E cu (AG 2 A7 E (BF E E (Cs CP DL) (BS 2 Wd (PX b1 (.pointer none) (.slice none 0 0) 335 h.page.toUInt64 4 0 [] (.inl E) ah zO zO) E ?_)))))))))
 rintro _ _ ⟨rfl,p1,v1,ha1,rfl⟩
 refine V (Y (J E (AF E Um (AG 2 A7 E (BF E E (Cs CP DL) (BS 2 Wd (PX b1 p1 v1 335 h.gen.toUInt64 4 4 _ ha1 ah zO zO) E ?_))))))
 rintro _ _ ⟨rfl,p2,v2,ha2,rfl⟩
 refine V (AH (Aw DG [2] (C4 [(true,0),(true,2),(false,1),(false,3),(true,4),(true,5),(true,6)]) zK (AF E Xm (As (J1 h) E Tf E E (Aj 0 E) (BU 2 Po (JU 335 b1 p2 v2 8 (CZ h.page.toUInt64 4++CZ h.gen.toUInt64 4) zO) E ⟨⟨2,E⟩,zT⟩ (BU 0 gL (TT h) E ⟨⟨2,E⟩,zT⟩ (Z E (FQ (by simp[B6,KP])) (Z E (FQ (by simp[B6,KP])) (U E (V (AL ?_)))))))))))
 exact Ag (Cl E E) (Af (M:=[]) ⟨E,E⟩ fun _ h=>h.skip [_,_,_])
end

section
variable {K:Nat→Prop}{w0:World}{H:List AY}
end

section
variable {K:Nat→Prop}{w0:World}{H:List AY}
theorem mr(s:List UInt8)(hn:s.length≤9223372036854775807):zC K w0 198 [vS s] [] H (fun r M=>r=.tuple #[vS (O8 s).1,vI (O8 s).2]∧M=[]):=
 (eH s hn).mono fun v M h=>⟨by rw[h.1];unfold O8;split<;>rfl,h.2⟩
theorem kK(T:List UInt32)(k:BP)(hT:GF K w0 T)(hr:DU [k]=true):zC K w0 199 [.agg (AZ k).toArray] [] H (fun r M=>r=.tuple #[vS (PH T k NZ),vS (PH T k N1),vI 0]∧M=[]):=
 (Zl T k hT).mono fun v M h=>⟨by rw[h.1,if_pos hr],h.2⟩
theorem Zv(T:List UInt32)(v:Value)(l:List BP)(h:DC)(s:List UInt8)(hT:GF K w0 T)(hk:B9 K w0 AZ 2 v l)(hv:v.cells=#[v])(hl:l.length≤1099511627776)(hn:s.length≤9223372036854775807):zC K w0 158 [v,.agg (J1 h).toArray,vS s] [] H (fun r M=>r=.tuple #[vS (HM T l h s).1,vI (HM T l h s).2]∧M=[]):=by
 refine Td.enter Tryz.func158 rfl rfl ?_
 refine Y ?_
 refine Bc E E zU fun b0=>?_
 refine U E (U E (V (Y (J E (AF E Um (AG 0 A7 E (AP 0 kd (UO v l h.gen hk hv hl) E ?_)))))))
 generalize hf:DP l h.gen=f
 refine J E (Ae E E E (Ae E E E ?_))
 refine Am E Ji zU fun b1=>?_
 refine A8 0 E E E E E5 E E E zT (U E (V (AH (Y (J E (Z E BO (V ?_)))))))
 refine Ax E (fun hc1=>?_) (fun hc1=>?_)
 have he:f.2≠0:=by simpa using hc1
 have hs:HM T l h s=([],f.2):=by unfold HM;rw[hf,if_pos he]
 rw[hs]
 refine Y (J E (U E (U E (V (AL (Ac ?_))))))
 exact Ag (ER E E E) (Af (M:=[]) ⟨E,E⟩ fun _ h=>h.skip [_,_])
 have he:f.2=0:=by simpa using hc1
 have hok:=Ub (l:=l) (g:=h.gen) (by rw[hf];exact he)
 rw[hf]at hok
 refine AJ (AI (Y (J E (AP 0 nn (mr s hn) E (J E (Ae E E E (Ae E E E (U E (U E (V (AH (Y (J E ?_)))))))))))))
 refine Z E BO (V ?_)
 refine Ax E (fun hc2=>?_) (fun hc2=>?_)
 have h1:198<s.length:=by
  unfold O8 at hc2
  split at hc2
  assumption
  simp at hc2
 have hs:HM T l h s=([],50):=by unfold HM;rw[hf,if_neg (by simp[he]),if_pos h1]
 have hp:O8 s=([],50):=by unfold O8;rw[if_pos h1]
 rw[hs,hp]
 refine Y (J E (U E (U E (V (AL (Ac ?_))))))
 exact Ag (ER E E E) (Af (M:=[]) ⟨E,E⟩ fun _ h=>h.skip [_,_])
 have h1:¬198<s.length:=by
  intro h1
  unfold O8 at hc2
  rw[if_pos h1]at hc2
  simp at hc2
 have hp:O8 s=(KQ s,0):=by unfold O8;rw[if_neg h1]
 have hpl:(KQ s).length=200:=Fj zO
 have hbl:=Gl T f.1 h hpl
 have hsl1:=OY T f.1 NZ
 have hsl2:=OY T f.1 N1
 have hs:HM T l h s=(HX T f.1 h s,0):=by unfold HM;rw[hf,if_neg (by simp[he]),if_neg h1]
 rw[hs,hp]
 refine AJ (AI (Y (As (AZ f.1) E K8 E E (Aj 0 E) (AP 0 np (kK T f.1 hT hok.2.2.2) E (J E (Ae E E E (Ae E E E (Ae E E E (U E (U E ?_))))))))))
 refine U E (V (Y (J E (As (J1 h) E Tf E E (Aj 1 E) (AP 0 gL (TT h) E (J E (AP 0 nq (eF (PH T f.1 NZ) (Kz h) (KQ s) hsl1 (KP h) zO) E (J E (Ae E E E ?_)))))))))
 refine Ae E E E (U E (U E (V (Y (As (J1 h) E Tf E E (Aj 1 E) (AP 0 nr (cN h) E (J E (Z E (FQ (by rw[Hv,Fl];omega)) (U E (V (Y ?_)))))))))))
 refine J E (J E (J E ?_))
 refine CD [_] E Db GD RJ ⟨E,zT⟩ E E E zX E E zU fun b2=>?_
 refine AP 1 gM (W9 T (PH T f.1 N1) [Kf T f.1 h (KQ s)] b2 hT zO zQ zS) E ?_
 refine Z E (FQ (by rw[Hu];have:=hbl;simp only[Kf]at this;omega)) ?_
 refine U E (U E (V (AL ?_)))
 exact Ag (ER E E E) (Af (M:=[]) ⟨by simp[HX,Kf],E⟩ fun _ h=>h.skip [_,_])
end

section
variable {K:Nat→Prop}{w0:World}{H:List AY}
end

section
open Go Go.ChangeShapes Go.WideShapes Go.ChangeAt Go.RowKit
def Qp:List UInt32:=[1116352408,1899447441,3049323471,3921009573,961987163,1508970993,2453635748,2870763221,3624381080,310598401,607225278,1426881987,1925078388,2162078206,2614888103,3248222580,3835390401,4022224774,264347078,604807628,770255983,1249150122,1555081692,1996064986,2554220882,2821834349,2952996808,3210313671,3336571891,3584528711,113926993,338241895,666307205,773529912,1294757372,1396182291,1695183700,1986661051,2177026350,2456956037,2730485921,2820302411,3259730800,3345764771,3516065817,3600352804,4094571909,275423344,430227734,506948616,659060556,883997877,958139571,1322822218,1537002063,1747873779,1955562222,2024104815,2227730452,2361852424,2428436474,2756734187,3204031479,3329325298]
def UV:List Int:=[1116352408,1899447441,3049323471,3921009573,961987163,1508970993,2453635748,2870763221,3624381080,310598401,607225278,1426881987,1925078388,2162078206,2614888103,3248222580,3835390401,4022224774,264347078,604807628,770255983,1249150122,1555081692,1996064986,2554220882,2821834349,2952996808,3210313671,3336571891,3584528711,113926993,338241895,666307205,773529912,1294757372,1396182291,1695183700,1986661051,2177026350,2456956037,2730485921,2820302411,3259730800,3345764771,3516065817,3600352804,4094571909,275423344,430227734,506948616,659060556,883997877,958139571,1322822218,1537002063,1747873779,1955562222,2024104815,2227730452,2361852424,2428436474,2756734187,3204031479,3329325298]
def aO:List Int:=[1779033703,3144134277,1013904242,2773480762,1359893119,2600822924,528734635,1541459225]
section
variable {P:Program}{W:World}
theorem V0{x:String×DataW Unit}{r:List (String×DataW Unit)}(h:laidMet P (x::r) W):laidMet P r W:=by
 obtain⟨ps,⟨g,t,cs,fuel,p,q,_,_,_,_,hs,rfl⟩,hn,hc⟩:=h
 exact⟨q,hs,(List.nodup_append.1 hn).2.1,fun b off hb=>hc b off (List.mem_append_right _ hb)⟩
theorem bJ{name:String}{g:Nat}{zs:List Int}{T:List UInt32}(hg:P.globalNamed name=some g)(h:Lib.TabIs P W name .u32 zs)(hl:T≠[])(hz:zs=T.map fun x=>(x.toNat:Int)):S8 (· < W.heap.size) W g T:=by
 have hc:∀i x,T[i]? = some x→W.cell? ⟨g,i,none⟩=some (AA x):=by
  intro i x hx
  obtain⟨hi,rfl⟩:=List.getElem?_eq_some_iff.1 hx
  have:=h.cell hg i (by rw[hz];simpa using hi)
  rw[this,hz]
  simp[AA,List.getD_eq_getElem?_getD,hi]
 refine⟨?_,hc⟩
 obtain⟨x,r,rfl⟩:=List.exists_cons_of_ne_nil hl
 have h0:=hc 0 x rfl
 rcases Nat.lt_or_ge g W.heap.size with h | h
 exact h
 have:W.heap[g]? = none:=by simp[h]
 simp[World.cell?,this]at h0
end
theorem sQ:ownKnob Tryz.prog.godebug=none:=zK
theorem ir:laidOutB Tryz.prog=true:=zK
theorem gt:Tryz.prog.globalNamed "sphragis/sha.first" = some 1:=zK
theorem gr:Tryz.prog.globalNamed "sphragis/sha.constants" = some 3:=zK
theorem k4:(Tryz.prog.globals[1]?).map (·.type)=some 366:=zK
theorem k0:(Tryz.prog.globals[3]?).map (·.type)=some 400:=zK
theorem VJ:Tryz.prog.cellsOf 33=1:=zK
theorem eY:Tryz.prog.cellsOf 366=8:=zK
theorem XT:Tryz.prog.cellsOf 400=64:=zK
theorem lZ{W:World}(h:laidMetH Tryz.prog [("sphragis/sha.first", Rows.laid_sphragis_sha_first),("sphragis/sha.constants", Rows.laid_sphragis_sha_constants)] W):GF (· < W.heap.size) W Qp:=by
 have h0:laidMet Tryz.prog [("sphragis/sha.first", Lib.tabData .u32 aO),("sphragis/sha.constants", Lib.tabData .u32 UV)] W:=h
 refine⟨?_,rfl,?_⟩
 exact bJ gr (Lib.tabIs_of_head (rest:=[]) gr k0 Tryz.underlying400 Tryz.underlying33 VJ XT (V0 h0)) (by simp[Qp]) zK
 exact bJ gt (Lib.tabIs_of_head gt k4 Tryz.underlying366 Tryz.underlying33 VJ eY h0) (by simp[Dl,M6.list]) zK
def k5(zs:List Int):Obj→Obj
 | .cells _ t frozen=>.cells (zs.map fun z=>Value.int .u32 z).toArray t frozen
 | o=>o
end

section
open Go Go.ChangeShapes Go.WideShapes Go.ChangeAt Go.RowKit Go.Deep Go.Lib Go.Joins
section
variable {G:Type}{enc:TypeId×Value→G}{P:Program}{W:World}
end
end

section
variable {P:Program}{ro:Option Nat}{K:Nat→Prop}{w0:World}{N:Nat}{Q:DJ}{D:List Nat}{l l':Tm}{H H' Hs L:List AY}{ops:Array Oper}{items:Hx}
variable {tk:Bool}{o:Oper}{t:Nat}{v:Value}{x y z:Operand}
def wI(x:Int):Int:=IntKind.i64.wrap x
theorem Cw{x:Int}(h1 : -9223372036854775808≤x)(h2:x≤9223372036854775807):wI x=x:=Nz (k:=.i64) h1 h2
def BE{α:Type}(l:List α)(i:Int):Option α:=if 0≤i then l[i.toNat]? else none
def Im{α:Type}(l:List α)(i j:Int):Option (List α):=if 0≤i∧i≤j∧j≤l.length then some ((l.drop i.toNat).take (j.toNat-i.toNat))else none
def Nx{α:Type}(l:List α)(i:Int)(a:α):Option (List α):=if 0≤i∧i<l.length then some (l.set i.toNat a)else none
def ED(s t:List UInt8):Option (List UInt8):=if s.length+t.length≤9223372036854775807 then some (s++t)else none
def DK{α:Type}(by_:Nat)(s t:List α):Option (List α):=if(s.length+t.length)*by_≤140737488355328∧s.length+t.length≤9223372036854775807 then some (s++t)else none
def QV(i:Int):Option Nat:=if 0≤i then some i.toNat else none
def Uv(a b:Int):Option Int:=if b=0 then none else some (wI (a.tdiv b))
def Ta(a b:Int):Option Int:=if b=0 then none else some (a.tmod b)
def RA(a b:UInt64):Option UInt64:=if b=0 then none else some (a / b)
def VU(a b:UInt64):Option UInt64:=if b=0 then none else some (a%b)
def Ij(b:Bool)(c:Option Bool):Option Bool:=cond b c (some false)
def WR(b:Bool)(c:Option Bool):Option Bool:=cond b (some true) c
def CO{α β:Type}(F:(α→Option β)→α→Option β):Nat→α→Option β
 | 0,_=>none
 | m+1,a=>F (CO F m) a
def ret{α β:Type}(e:α)(k:α→β):β:=k e
theorem Ek{α β:Type}{a:Option α}{f:α→Option β}{r:β}(h:a.bind f=some r):∃x,a=some x∧f x=some r:=Option.bind_eq_some_iff.1 h
theorem Bz{α β:Type}{e:α}{k:α→Option β}{r:β}(h:ret e k=some r):∃x,e=x∧k x=some r:=⟨e,rfl,h⟩
theorem cT{α:Type}{b:Bool}{x y:Option α}{r:α}(hb:b=true)(h:cond b x y=some r):x=some r:=by subst hb;exact h
theorem cF{α:Type}{b:Bool}{x y:Option α}{r:α}(hb:b=false)(h:cond b x y=some r):y=some r:=by subst hb;exact h
theorem En{α:Type}{l:List α}{i:Int}{a:α}(h:BE l i=some a):i=(i.toNat:Int)∧i.toNat<l.length∧l[i.toNat]? = some a:=by
 unfold BE at h
 split at h
 rename_i h0
 obtain⟨hlt,_⟩:=List.getElem?_eq_some_iff.1 h
 exact⟨by omega,hlt,h⟩
 cases h
theorem Na{α:Type}{l u:List α}{i j:Int}(h:Im l i j=some u):i=(i.toNat:Int)∧j=(j.toNat:Int)∧i.toNat≤j.toNat∧j.toNat≤l.length∧u=(l.drop i.toNat).take (j.toNat-i.toNat):=by
 unfold Im at h
 split at h
 rename_i h0
 exact⟨by omega,by omega,by omega,by omega,(zI h).symm⟩
 cases h
abbrev FS(x:UInt8):List Value:=[EB x]
abbrev BQ(x:UInt32):List Value:=[AA x]
abbrev eS(x:List UInt8):List Value:=[vS x]
abbrev eB(x:Bool):List Value:=[vB x]
theorem Bf{a b:Int}:FO .add (vI a) (vI b) (vI (wI (a+b))):=fun P w ty x y=>⟨BX ..,by simp[binOp,Op.intArith,wI]⟩
theorem Dm{a b:Int}:FO .sub (vI a) (vI b) (vI (wI (a-b))):=fun P w ty x y=>⟨BX ..,by simp[binOp,Op.intArith,wI]⟩
theorem ME{a b:Int}:FO .mul (vI a) (vI b) (vI (wI (a*b))):=fun P w ty x y=>⟨BX ..,by simp[binOp,Op.intArith,wI]⟩
theorem U6{a b c:Int}(h:Uv a b=some c):FO .quo (vI a) (vI b) (vI c):=fun P w ty x y=>⟨BX ..,by
 unfold Uv at h
 split at h
 cases h
 rename_i h0
 obtain rfl:=zI h
 simp[binOp,Op.intDiv,h0,wI]⟩
theorem Sn{a b c:Int}(h:Ta a b=some c):FO .rem (vI a) (vI b) (vI c):=fun P w ty x y=>⟨BX ..,by
 unfold Ta at h
 split at h
 cases h
 rename_i h0
 obtain rfl:=zI h
 simp[binOp,Op.intDiv,h0]⟩
theorem Rh{a:UInt32}{k:IntKind}{i:Int}{n:Nat}(h:QV i=some n):FO .shl (AA a) (.int k i) (AA (Go.Proofs.YtjkhnhichalenaaGreatDoor.shl32 a n)):=by
 unfold QV at h
 split at h
 obtain rfl:=zI h
 have:i=(i.toNat:Int):=zO
 rw[this]
 exact FO.shl32
 cases h
theorem Vn{a:UInt32}{k:IntKind}{i:Int}{n:Nat}(h:QV i=some n):FO .shr (AA a) (.int k i) (AA (Go.Proofs.YtjkhnhichalenaaGreatDoor.shr32 a n)):=by
 unfold QV at h
 split at h
 obtain rfl:=zI h
 have:i=(i.toNat:Int):=zO
 rw[this]
 exact FO.shr32
 cases h
theorem bY{a:UInt64}{k:IntKind}{i:Int}{n:Nat}(h:QV i=some n):FO .shr (AV a) (.int k i) (AV (Go.Proofs.YtjkhnhichalenaaGreatDoor.shr64 a n)):=by
 unfold QV at h
 split at h
 obtain rfl:=zI h
 have:i=(i.toNat:Int):=zO
 rw[this]
 exact FO.shr64
 cases h
theorem bX{a:UInt64}{k:IntKind}{i:Int}{n:Nat}(h:QV i=some n):FO .shl (AV a) (.int k i) (AV (Go.Proofs.YtjkhnhichalenaaGreatDoor.shl64 a n)):=by
 unfold QV at h
 split at h
 obtain rfl:=zI h
 have:i=(i.toNat:Int):=zO
 rw[this]
 exact FO.shl64
 cases h
theorem PP{a b c:UInt64}(h:RA a b=some c):FO .quo (AV a) (AV b) (AV c):=fun P w ty x y=>⟨BX ..,by
 unfold RA at h
 split at h
 cases h
 rename_i hb
 obtain rfl:=zI h
 have h0:((b.toNat:Int))≠0:=by
  intro h
  have:b.toNat=0:=zO
  exact hb (UInt64.toNat_inj.1 this)
 have h1:IntKind.u64.wrap (Int.tdiv (a.toNat:Int) (b.toNat:Int))=((a / b).toNat:Int):=by
  rw[MR,Int.tdiv_eq_ediv_of_nonneg zO,UInt64.toNat_div]
  have h2:a.toNat / b.toNat≤a.toNat:=Nat.div_le_self _ _
  have:=a.toNat_lt
  rw[show((a.toNat:Int) / (b.toNat:Int))=((a.toNat / b.toNat:Nat):Int)from rfl]
  generalize a.toNat / b.toNat=q at h2 ⊢
  omega
 simp only[binOp,Op.intDiv,ne_eq,not_true_eq_false,if_false,h0,h1,Sem.run_pure]⟩
theorem PQ{a b c:UInt64}(h:VU a b=some c):FO .rem (AV a) (AV b) (AV c):=by
 unfold VU at h
 split at h
 cases h
 rename_i hb
 obtain rfl:=zI h
 exact dn hb
theorem CQ{s t u:List UInt8}(h:ED s t=some u):FO .add (vS s) (vS t) (vS u):=by
 unfold ED at h
 split at h
 rename_i hl
 obtain rfl:=zI h
 exact FQ hl
 cases h
theorem KZ{s:List UInt8}{ty:TypeId}{k:IntKind}{i:Int}{c:UInt8}(hn:BE s i=some c)(ho:At ops N l o t (.index ty x y))(hty:P.underlying ty=some .string)(hx:Bj l x=some (vS s))(hy:Bj l y=some (.int k i))
(h:SL P ro K w0 N ops Hs items Q D ((t,EB c)::l) H):SL P ro K w0 N ops Hs (.cons (tk,o) items) Q D l H:=by
 obtain⟨h1,h2,h3⟩:=En hn
 refine Ka i.toNat ho hty hx hy h1 h2 ?_
 have:s.getD i.toNat 0=c:=by simp[List.getD_eq_getElem?_getD,h3]
 rw[this]
 exact h
theorem mh{s u:List UInt8}{ty:TypeId}{k k':IntKind}{i j:Int}(hn:Im s i j=some u)(ho:At ops N l o t (.slice ty x (some y) (some z) none))(hty:P.underlying ty=some .string)(hx:Bj l x=some (vS s))(hy:Bj l y=some (.int k i))(hz:Bj l z=some (.int k' j))
(h:SL P ro K w0 N ops Hs items Q D ((t,vS u)::l) H):SL P ro K w0 N ops Hs (.cons (tk,o) items) Q D l H:=by
 obtain⟨h1,h2,h3,h4,rfl⟩:=Na hn
 exact ft i.toNat j.toNat ho hty hx hy hz h1 h2 h3 h4 h
theorem jp{s u:List UInt8}{ty:TypeId}{k:IntKind}{i:Int}(hn:Im s i (s.length:Int)=some u)(ho:At ops N l o t (.slice ty x (some y) none none))(hty:P.underlying ty=some .string)(hx:Bj l x=some (vS s))(hy:Bj l y=some (.int k i))
(h:SL P ro K w0 N ops Hs items Q D ((t,vS u)::l) H):SL P ro K w0 N ops Hs (.cons (tk,o) items) Q D l H:=by
 obtain⟨h1,h2,h3,h4,rfl⟩:=Na hn
 refine Oh i.toNat ho hty hx hy h1 zO ?_
 rw[List.take_of_length_le zS]at h
 exact h
theorem jo{s u:List UInt8}{ty:TypeId}{k:IntKind}{j:Int}(hn:Im s 0 j=some u)(ho:At ops N l o t (.slice ty x none (some z) none))(hty:P.underlying ty=some .string)(hx:Bj l x=some (vS s))(hz:Bj l z=some (.int k j))
(h:SL P ro K w0 N ops Hs items Q D ((t,vS u)::l) H):SL P ro K w0 N ops Hs (.cons (tk,o) items) Q D l H:=by
 obtain⟨h1,h2,h3,h4,rfl⟩:=Na hn
 exact Rm j.toNat ho hty hx hz h2 h4 (by simpa using h)
theorem C9{α:Type}{enc:α→List Value}{sz:Nat}{xs:List α}{k:IntKind}{i:Int}{ty e:TypeId}{x0:α}(hn:BE xs i=some x0)(hk:B9 K w0 enc sz v xs)(ho:At ops N l o t (.indexAddr ty x y))(hty:P.underlying ty=some (.slice e))(hsz:DH P e=some sz)(hx:Bj l x=some v)(hy:Bj l y=some (.int k i))
(h:∀b off,(∀L w,GQ K w0 L w→∀j u,(enc x0)[j]? = some u→w.cell? ⟨b,off+j,none⟩=some u)→SL P ro K w0 N ops Hs items Q D ((t,vP b off)::l) H):SL P ro K w0 N ops Hs (.cons (tk,o) items) Q D l H:=by
 obtain⟨h1,h2,h3⟩:=En hn
 exact Qa i.toNat x0 hk ho hty hsz hx hy h1 h3 h
theorem DQ{b off j:Nat}{u:Value}{cs:List Value}(hc:∀L w,GQ K w0 L w→∀j u,cs[j]? = some u→w.cell? ⟨b,off+j,none⟩=some u)(hj:cs[j]? = some u):∀w,GQ K w0 L w→w.cell? ⟨b,off+j,none⟩=some u:=fun w hw=>hc L w hw j u hj
theorem DS{b off:Nat}{cs:List Value}(hc:∀L w,GQ K w0 L w→∀j u,cs[j]? = some u→w.cell? ⟨b,off+j,none⟩=some u):∀w,GQ K w0 L w→∀j u,cs[j]? = some u→w.cell? (Addr.add ⟨b,off,none⟩ j)=some u:=
 fun w hw j u hu=>by rw[Cf];exact hc L w hw j u hu
def AC{α:Type}(e:TypeId)(sz:Nat)(v:Value)(enc:α→List Value)(xs:List α):AY:=
 ⟨fun b=>v.ownBlock=some b,fun w=>w.ownsRow 0 e sz v xs.length (xs.flatMap enc),fun w w' h hw=>by
  refine⟨hw.1,?_⟩
  rcases hw.2 with hn | ⟨g,cap,cur,rfl,hb,hgg,rest⟩
  exact .inl hn
  exact .inr ⟨g,cap,cur,rfl,hb,by rw[h g rfl];exact hgg,rest⟩⟩
section rows
variable {α:Type}{enc:α→List Value}{sz:Nat}{xs us:List α}{e ty:TypeId}
theorem I3(hl:∀x,(enc x).length=sz):∀ys:List α,(ys.flatMap enc).length=ys.length*sz
 | []=>by simp
 | y::ys=>by rw[List.flatMap_cons,List.length_append,I3 hl ys,hl,List.length_cons,Nat.add_mul,Nat.one_mul,Nat.add_comm]
theorem BW.nilT{w:World}(e:TypeId)(sz:Nat)(enc:α→List Value)(h:BW K w0 H w):BW K w0 (AC e sz zN enc []::H) w:=by
 refine h.cons (n:=w.heap.size) (Nat.le_refl _) (fun d hd b hb=>(h.foot d hd b hb).1) h.kltw (World.ownsRow_nil ..) ?_
 intro b hb
 simp[AC,Value.ownBlock]at hb
theorem B8(e:TypeId)(sz:Nat)(enc:α→List Value)(h:SL P ro K w0 N ops Hs items Q D l (AC e sz zN enc []::H)):SL P ro K w0 N ops Hs items Q D l H:=
 fun a w ha hw hs=>h a w ha (hw.nilT e sz enc) hs
theorem dO{w:World}{g n cap i j:Nat}{c:α}{u:Value}(hl:∀x,(enc x).length=sz)(h:(AC e sz v enc xs).holds w)(hv:v=.slice (some ⟨g,0,none⟩) n cap)(hi:xs[i]? = some c)(hj:(enc c)[j]? = some u):w.cell? ⟨g,i*sz+j,none⟩=some u:=by
 have hrow:w.ownsRow 0 e sz v xs.length (xs.flatMap enc):=h
 have hF:=World.ownsRowF_of hrow
 have:=hF.cells (g:=g) (by rw[hv];rfl) (i*sz+j) u (Qv hl xs i c j u hi hj)
 rw[Cf]at this
 simpa using this
theorem CA{g n cap:Nat}{c:α}{i:Int}{u:Value}(k j:Nat)(hl:∀x,(enc x).length=sz)(hk:L[k]? = some (AC e sz v enc xs))(hv:v=.slice (some ⟨g,0,none⟩) n cap)(hi:BE xs i=some c)(hj:(enc c)[j]? = some u):∀w,GQ K w0 L w→w.cell? ⟨g,i.toNat*sz+j,none⟩=some u:=
 fun _w hw=>dO hl (hw.holds _ (List.mem_of_getElem? hk)) hv (En hi).2.2 hj
theorem MK{g n cap:Nat}{c:α}{i:Int}(k:Nat)(hl:∀x,(enc x).length=sz)(hk:L[k]? = some (AC e sz v enc xs))(hv:v=.slice (some ⟨g,0,none⟩) n cap)(hi:BE xs i=some c):∀w,GQ K w0 L w→∀j u,(enc c)[j]? = some u→w.cell? (Addr.add ⟨g,i.toNat*sz,none⟩ j)=some u:=
 fun w hw j u hu=>by rw[Cf];exact CA k j hl hk hv hi hu w hw
theorem DW(k:Nat)(ho:At ops N l o t (.call { callee:=.builtin .len,args:=#[x],argTypes:=#[ty] }))(hty:P.underlying ty=some (.slice e))(hx:Bj l x=some v)
{e':TypeId}(hk:(bif tk then Hs else H)[k]? = some (AC e' sz v enc xs))(h:SL P ro K w0 N ops Hs items Q D ((t,vI xs.length)::l) H):SL P ro K w0 N ops Hs (.cons (tk,o) items) Q D l H:=
 SL.val ho rfl (fun a w ha hsw=>by
  have hrow:w.ownsRow 0 e' sz v xs.length (xs.flatMap enc):=hsw.holds _ (List.mem_of_getElem? hk)
  simp only[execOp,ho.op,resolve,invoke,builtin,Builtin.len_]
  rcases hrow.2 with⟨rfl,hn⟩ | ⟨g,cap,cur,rfl,_⟩
  simp[ha.eval hx,Aq hty,goInt,hn]
  simp[ha.eval hx,Aq hty,goInt]) h
theorem CI(k:Nat){kk:IntKind}{i:Int}{c:α}(hn:BE xs i=some c)(ho:At ops N l o t (.indexAddr ty x y))(hty:P.underlying ty=some (.slice e))(hsz:DH P e=some sz)(hx:Bj l x=some v)(hy:Bj l y=some (.int kk i))
(hk:H[k]? = some (AC e sz v enc xs))
(h:∀g m cap,v=.slice (some ⟨g,0,none⟩) m cap→SL P ro K w0 N ops Hs items Q D ((t,vP g (i.toNat*sz))::l) H):SL P ro K w0 N ops Hs (.cons (tk,o) items) Q D l H:=by
 intro a w ha hw hs
 have hrow:w.ownsRow 0 e sz v xs.length (xs.flatMap enc):=hw.holds _ (List.mem_append_left _ (List.mem_of_getElem? hk))
 obtain⟨h1,h2,h3⟩:=En hn
 rcases hrow.2 with⟨_,h0⟩ | ⟨g,cap,cur,hv,_⟩
 omega
 exact(dw (n:=i.toNat) ho hty hsz (hx.trans (by rw[hv])) hy h1 h2 (by simpa using h g xs.length cap hv)) a w ha hw hs
theorem Ud(hl:∀x,(enc x).length=sz):∀(xs:List α) (i:Nat) (a:α),i<xs.length→(xs.set i a).flatMap enc=(xs.flatMap enc).take (i*sz)++enc a++(xs.flatMap enc).drop (i*sz+sz)
 | [],i,a,h=>by simp at h
 | b::r,0,a,_=>by
  have hb:=hl b
  simp only[List.set_cons_zero,List.flatMap_cons,Nat.zero_mul,List.take_zero,List.nil_append,Nat.zero_add]
  rw[List.drop_append_of_le_length zO,List.drop_of_length_le zO,List.nil_append]
 | b::r,i+1,a,h=>by
  have hb:=hl b
  have ih:=Ud hl r i a (by simpa using h)
  simp only[List.set_cons_succ,List.flatMap_cons]
  rw[ih]
  have e1:(i+1)*sz=(enc b).length+i*sz:=by rw[hb,Nat.add_mul];omega
  have e2:(i+1)*sz+sz=(enc b).length+(i*sz+sz):=by rw[hb,Nat.add_mul];omega
  rw[e2,e1,List.take_length_add_append,List.drop_length_add_append]
  simp
theorem GE(k:Nat){g m cap:Nat}{i:Int}{u:Value}{a:α}(hn:Nx xs i a=some us)(hl:∀x,(enc x).length=sz)(ho:At0 ops l o (.store ty x y))(hx:Bj l x=some (vP g (i.toNat*sz)))(hy:Bj l y=some u)(hu:u.cells.toList=enc a)(hk:H[k]? = some (AC e sz v enc xs))(hv:v=.slice (some ⟨g,0,none⟩) m cap)
(hsz:DH P ty=some sz)(h1:∀c∈enc a,c.oneCell'=true)(hs:EN Hs (H.set k (AC e sz v enc us)))(h:SL P ro K w0 N ops Hs items Q D l (H.set k (AC e sz v enc us))):SL P ro K w0 N ops Hs (.cons (false,o) items) Q D l H:=by
 unfold Nx at hn
 split at hn
 rename_i hi
 obtain rfl:=zI hn
 refine U9 ho E (fun a' w ha hw=>?_) hs h
 have hrow:w.ownsRow 0 e sz v xs.length (xs.flatMap enc):=hw.holds _ (List.mem_append_left _ (List.mem_of_getElem? hk))
 have hlt:i.toNat<xs.length:=zO
 rcases hrow.2 with⟨hv',h0⟩ | ⟨g',cap',cur,hv',hb,hg,hnc,hcm,hcs,htk⟩
 rw[hv']at hv;cases hv
 obtain⟨rfl,rfl,rfl⟩:g'=g∧xs.length=m∧cap'=cap:=by rw[hv']at hv;simpa using hv
 have hucz:u.cells.size=sz:=by rw[←Array.length_toList,hu,hl]
 have hle:i.toNat*sz+sz≤xs.length*sz:=by
  have:=Nat.mul_le_mul_right sz (show i.toNat+1≤xs.length by omega)
  rw[Nat.add_mul,Nat.one_mul]at this
  exact this
 have hle2:xs.length*sz≤cap'*sz:=Nat.mul_le_mul_right _ hnc
 obtain⟨w',hrun,hw'⟩:=Lx (P:=P) u.cells.toList (i.toNat*sz) 0 cur w hg (by rw[Array.length_toList,hucz];omega) (by rw[hu];exact h1)
 refine⟨w',?_,?_⟩
 simp[execOp,ho.op,Instr.storeAt,Instr.sureAddr,ha.eval hx,ha.eval hy,storeVar,Ce hsz,hucz]
 rw[hrun]
 rfl
 rw[hw']
 obtain⟨hlt2,_⟩:=Array.getElem?_eq_some_iff.1 hg
 refine hw.turnAt (c:=AC e sz v enc xs) k hk rfl rfl rfl zS (fun b hb hne=>World.putObj_heap_other (fun e=>hne (by subst e;rw[hv'];rfl))) ⟨I3 hl _,.inr ⟨g',cap',_,by rw[hv',List.length_set],Nat.zero_le _,World.putObj_heap_same hlt2,by simpa using hnc,hcm,by rw[T6,hcs],?_⟩⟩ (fun b hb=>⟨.inl hb,?_⟩)
 have hcl:(enc a).length=sz:=hl a
 rw[K0 _ _ _ (by rw[hu,hcl];omega),Ud hl xs i.toNat a hlt,hu,hcl,←htk,List.length_set,Nat.add_zero]
 have e1:(cur.toList.take (i.toNat*sz)).length=i.toNat*sz:=by simp;omega
 rw[List.take_take,Nat.min_eq_left zO]
 have e2:(cur.toList.take (i.toNat*sz)++enc a).length=i.toNat*sz+sz:=by rw[List.length_append,e1,hcl]
 rw[List.take_append,e2,List.take_of_length_le zO]
 congr 1
 rw[List.drop_take]
 have:b=g':=by
  have hb':v.ownBlock=some b:=hb
  rw[hv']at hb'
  simpa[Value.ownBlock]using hb'.symm
 subst this
 simpa using hlt2
 cases hn
theorem Cr{by_ m c:Nat}{zv:Value}{new:List α}{ad:Addr}(k:Nat)(hn:DK by_ xs new=some us)(hl:∀x,(enc x).length=sz)(ho:At ops N l o t (.call { callee:=.builtin .append,args:=#[x,y],argTypes:=#[ty,ty] }))
(hty:P.underlying ty=some (.slice e))(hsz:DH P e=some sz)(hby:PN P e=some by_)(hze:EC P e=some zv)(hzs:zv.cells.size=sz)(hsz0:0<sz)
(hx:Bj l x=some v)(hy:Bj l y=some (.slice (some ad) m c))(hm:m=new.length)(hk:H[k]? = some (AC e sz v enc xs))
(hnews:∀w,GQ K w0 H w→∀j u,(new.flatMap enc)[j]? = some u→w.cell? (ad.add j)=some u)(h1:∀a,∀u∈enc a,u.oneCell'=true)
(hs:∀v',EN Hs (H.set k (AC e sz v' enc us)))
(h:∀v',SL P ro K w0 N ops Hs items Q D ((t,v')::l) (H.set k (AC e sz v' enc us))):SL P ro K w0 N ops Hs (.cons (false,o) items) Q D l H:=by
 unfold DK at hn
 split at hn
 rename_i hb
 obtain rfl:=zI hn
 subst hm
 have hfl:=I3 hl
 refine Gj (fun v'=>v') (fun v'=>H.set k (AC e sz v' enc (xs++new))) ho E (fun a w ha hw=>?_) hs h
 obtain⟨ii,hii,e1,e2,e3⟩:=O6 hsz hby hze
 have hrow:w.ownsRow 0 e sz v xs.length (xs.flatMap enc):=hw.holds _ (List.mem_append_left _ (List.mem_of_getElem? hk))
 obtain⟨v',w',hr,hr2,hr3,_,hr4⟩:=run_append_own_at (P:=P) w 0 ty o.type e ii zv sz by_ hty hii e3 e1 e2 hzs hsz0 v xs.length _ hrow ad new.length c (new.flatMap enc) (hfl new) (hnews w hw.dropMarks.s) (fun u hu=>by
  obtain⟨a,_,ha⟩:=List.mem_flatMap.1 hu
  exact h1 a u ha) (by simp only[maxLen];omega) hb.1 (Nat.zero_le _)
 refine⟨v',w',?_,hw.turnAt (c:=AC e sz v enc xs) k hk hr3.os hr3.tape hr3.output hr3.size (fun b hb hne=>hr3.block b hb (fun e=>hne e.symm)) (show w'.ownsRow 0 e sz v' (xs++new).length ((xs++new).flatMap enc) by rw[List.flatMap_append,List.length_append];exact hr2) ?_⟩
 unfold execOp
 simp only[ho.op,resolve,invoke,builtin,Sem.run_bind,Sem.run_pure,Result.andThen_ok,List.map_toArray,List.map_cons,List.map_nil,ha.eval hx,ha.eval hy,hr]
 intro b hb
 refine⟨?_,(hr2.lt b hb).2⟩
 have hb':v'.ownBlock=some b:=hb
 rcases hr4 with h4 | h4
 exact .inl (by rw[h4]at hb';exact hb')
 rw[h4]at hb'
 right
 simp at hb'
 omega
 cases hn
theorem BW.ownT{w:World}{b:Nat}{c:Array Value}(xs:List α)(h:BW K w0 (AK b (.cells c e)::H) w)(hc:c.toList=xs.flatMap enc)(hl:∀x,(enc x).length=sz)(hm:xs.length≤9223372036854775807):BW K w0 (AC e sz (.slice (some ⟨b,0,none⟩) xs.length xs.length) enc xs::H) w:=by
 have hfl:=I3 hl
 have hcs:c.size=xs.length*sz:=by rw[←Array.length_toList,hc,hfl]
 refine h.turn rfl rfl rfl (Nat.le_refl _) (fun _ _ _=>rfl) ⟨hfl xs,.inr ⟨b,xs.length,c,rfl,Nat.zero_le _,h.holds _ (List.mem_cons_self ..),Nat.le_refl _,by simp only[maxLen];omega,hcs,by rw[hc,←hfl];exact List.take_length⟩⟩ (fun k hk=>?_)
 have hkb:k=b:=by simp[AC,Value.ownBlock]at hk;exact hk.symm
 subst hkb
 exact⟨.inl rfl,(h.foot _ (List.mem_cons_self ..) k rfl).1⟩
theorem CF{b:Nat}{c:Array Value}(enc:α→List Value)(sz:Nat)(xs:List α)(hc:c.toList=xs.flatMap enc)(hl:∀x,(enc x).length=sz)(hm:Nat.ble xs.length 1000000=true)
(h:SL P ro K w0 N ops Hs items Q D l (AC e sz (.slice (some ⟨b,0,none⟩) xs.length xs.length) enc xs::H)):SL P ro K w0 N ops Hs items Q D l (AK b (.cells c e)::H):=
 fun a w ha hw hs=>h a w ha (hw.ownT xs hc hl (by have:=Nat.le_of_ble_eq_true hm;omega)) hs
theorem fq{by_ n:Nat}{zv:Value}{k k':IntKind}(enc:α→List Value)(ho:At ops N l o t (.makeSlice ty x y))(hty:P.underlying ty=some (.slice e))(hsz:DH P e=some sz)(hby:PN P e=some by_)(hze:EC P e=some zv)(_hzs:zv.cells.size=sz)
(hx:Bj l x=some (.int k 0))(hy:Bj l y=some (.int k' (n:Int)))(hb:Nat.ble (by_*n) 281474976710656=true)(h63:Nat.ble n 9223372036854775807=true)
(hs:∀v',EN Hs (AC e sz v' enc []::H))(h:∀v',SL P ro K w0 N ops Hs items Q D ((t,v')::l) (AC e sz v' enc []::H)):SL P ro K w0 N ops Hs (.cons (false,o) items) Q D l H:=
 Gj (fun b=>.slice (some ⟨b,0,none⟩) 0 n) (fun b=>AC e sz (.slice (some ⟨b,0,none⟩) 0 n) enc []::H) ho rfl (fun a w ha hw=>by
  obtain⟨ii,hii,e1,e2,e3⟩:=O6 hsz hby hze
  have hbn:=Nat.le_of_ble_eq_true hb
  have h63n:=Nat.le_of_ble_eq_true h63
  have hb':(ii.bytes:Int)*(n:Int)≤281474976710656:=by rw[e2,←Int.natCast_mul];omega
  have hr:=run_make (P:=P) w ty e ii zv hty hii e3 k k' 0 n zO zO hb' zO
  rw[e1]at hr
  simp only[Int.toNat_natCast]at hr
  refine⟨w.heap.size,w.alloc (.cells (madeCells zv.cells (n*sz)) e),?_,?_⟩
  unfold execOp
  simp only[ho.op,ha.eval hx,ha.eval hy,Sem.run_bind,hr,Result.andThen_ok,Sem.run_pure]
  rfl
  have h2:=hw.alloc (.cells (madeCells zv.cells (n*sz)) e)
  refine h2.turn rfl rfl rfl (Nat.le_refl _) (fun _ _ _=>rfl) ⟨by simp,.inr ⟨w.heap.size,n,_,rfl,Nat.zero_le _,h2.holds _ (List.mem_cons_self ..),Nat.zero_le _,by simp only[maxLen];omega,?_,by simp⟩⟩ (fun k hk=>?_)
  simp[madeCells]
  have hkb:k=w.heap.size:=by simp[AC,Value.ownBlock]at hk;exact hk.symm
  subst hkb
  exact⟨.inl rfl,(h2.foot _ (List.mem_cons_self ..) _ rfl).1⟩) (fun b=>hs _) (fun b=>h _)
theorem CT{K':Nat→Prop}{w1:World}(hl:∀x,(enc x).length=sz)(h:(AC e sz v enc xs).holds w1∧∀k,(AC e sz v enc xs).foot k→K' k):B9 K' w1 enc sz v xs:=by
 have hrow:w1.ownsRow 0 e sz v xs.length (xs.flatMap enc):=h.1
 refine⟨hl,?_⟩
 rcases hrow.2 with⟨rfl,h0⟩ | ⟨g,cap,cur,rfl,_,hg,hc,_⟩
 exact .inl ⟨_,rfl,List.length_eq_zero_iff.1 h0⟩
 refine .inr ⟨g,0,cap,rfl,hc,fun j u hu=>⟨h.2 g rfl,?_⟩⟩
 have:=(World.ownsRowF_of hrow).cells (g:=g) rfl j u hu
 rw[Cf]at this
 exact this
theorem sO:∀s:List UInt8,s.flatMap FS=s.map fun b=>EB b
 | []=>rfl
 | b::r=>by rw[List.flatMap_cons,sO r];rfl
theorem Gi{src dst:TypeId}{s:List UInt8}(k:Nat)(ho:At ops N l o t (.convert src dst x))(hs:P.underlying src=some (.slice e))(he:P.underlying e=some (.int .u8))(hd:P.underlying dst=some .string)(hx:Bj l x=some v)
(hk:(bif tk then Hs else H)[k]? = some (AC e 1 v FS s))
(h:SL P ro K w0 N ops Hs items Q D ((t,vS s)::l) H):SL P ro K w0 N ops Hs (.cons (tk,o) items) Q D l H:=
 SL.val ho rfl (fun a w ha hsw=>by
  have hrow:w.ownsRow 0 e 1 v s.length (s.flatMap FS):=hsw.holds _ (List.mem_of_getElem? hk)
  rw[sO]at hrow
  rcases hrow.2 with⟨rfl,h0⟩ | ⟨g,cap,cur,rfl,_⟩
  have:s=[]:=List.length_eq_zero_iff.1 h0
  subst this
  have h0:(convert src dst (.slice none 0 0)).run P w=.ok (vS []) w:=by
   rw[run_convert_bytes_string w src dst e none 0 0 hs he hd]
   simp[Conv.bytesToString]
   rfl
  simp[execOp,ho.op,ha.eval hx,h0]
  simp[execOp,ho.op,ha.eval hx,X6 hs he hd rfl ((World.ownsRowF_of hrow).cells rfl)]) h
theorem CH{b n cap:Nat}(k:Nat)(_hl:∀x,(enc x).length=sz)(hk:L[k]? = some (AC e sz (.slice (some ⟨b,0,none⟩) n cap) enc xs)):∀w,GQ K w0 L w→∀j u,(xs.flatMap enc)[j]? = some u→w.cell? (Addr.add ⟨b,0,none⟩ j)=some u:=by
 intro w hw j u hu
 have hrow:w.ownsRow 0 e sz (.slice (some ⟨b,0,none⟩) n cap) xs.length (xs.flatMap enc):=hw.holds _ (List.mem_of_getElem? hk)
 exact(World.ownsRowF_of hrow).cells (g:=b) rfl j u hu
theorem TE{w:World}(t ty e:TypeId)(i:TypeInfo)(ht:P.underlying t=some (.slice e))(hi:P.info? e=some i)
(v:Value)(n:Nat)(xs:List Value)(hown:w.ownsRow 0 e sz v n xs):(Builtin.append_ #[t,t] ty #[v,zN]).run P w=.ok v w:=by
 rcases hown.2 with⟨rfl,rfl⟩ | ⟨g,cap,cur,rfl,_,_,hnc,_⟩
 simp[Builtin.append_,Aq ht,sizeOf,typeInfo,hi,Builtin.lenOf,Builtin.firstCells]
 simp[Builtin.append_,Aq ht,sizeOf,typeInfo,hi,Builtin.lenOf,Builtin.firstCells,hnc,storeCells]
theorem bh{by_:Nat}{zv:Value}(k:Nat)(ho:At ops N l o t (.call { callee:=.builtin .append,args:=#[x,y],argTypes:=#[ty,ty] }))
(hty:P.underlying ty=some (.slice e))(hsz:DH P e=some sz)(hby:PN P e=some by_)(hze:EC P e=some zv)
(hx:Bj l x=some v)(hy:Bj l y=some zN)(hk:H[k]? = some (AC e sz v enc xs))(hs:EN Hs H)
(h:SL P ro K w0 N ops Hs items Q D ((t,v)::l) H):SL P ro K w0 N ops Hs (.cons (false,o) items) Q D l H:=
 Gj (fun _:Unit=>v) (fun _=>H) ho rfl (fun a w ha hw=>by
  obtain⟨ii,hii,e1,e2,e3⟩:=O6 hsz hby hze
  have hrow:w.ownsRow 0 e sz v xs.length (xs.flatMap enc):=hw.holds _ (List.mem_append_left _ (List.mem_of_getElem? hk))
  have hr:=TE (P:=P) ty o.type e ii hty hii v xs.length _ hrow
  refine⟨(),w,?_,hw⟩
  unfold execOp
  simp only[ho.op,resolve,invoke,builtin,Sem.run_bind,Sem.run_pure,Result.andThen_ok,List.map_toArray,List.map_cons,List.map_nil,ha.eval hx,ha.eval hy,hr]) (fun _=>hs) (fun _=>h)
theorem ZI{c:AY}{k:Nat}(hk:H[k]? = some c):H.set k c=H:=by
 obtain⟨hl,hg⟩:=List.getElem?_eq_some_iff.1 hk
 rw[←hg];exact List.set_getElem_self hl
theorem Yo{by_:Nat}(hn:DK by_ xs []=some us):us=xs:=by
 unfold DK at hn
 split at hn
 simpa using hn.symm
 cases hn
theorem Rj{by_:Nat}{zv u:Value}{new:List α}(k:Nat)(hn:DK by_ xs new=some us)(hu:B9 K w0 enc sz u new)(hl:∀x,(enc x).length=sz)(ho:At ops N l o t (.call { callee:=.builtin .append,args:=#[x,y],argTypes:=#[ty,ty] }))
(hty:P.underlying ty=some (.slice e))(hsz:DH P e=some sz)(hby:PN P e=some by_)(hze:EC P e=some zv)(hzs:zv.cells.size=sz)(hsz0:0<sz)
(hx:Bj l x=some v)(hy:Bj l y=some u)(hk:H[k]? = some (AC e sz v enc xs))(h1:∀a,∀u∈enc a,u.oneCell'=true)
(hs:∀v',EN Hs (H.set k (AC e sz v' enc us)))
(h:∀v',SL P ro K w0 N ops Hs items Q D ((t,v')::l) (H.set k (AC e sz v' enc us))):SL P ro K w0 N ops Hs (.cons (false,o) items) Q D l H:=by
 rcases hu.at_ with⟨a0,rfl,rfl⟩ | ⟨b,off,cap,rfl,_,hc⟩
 cases a0 with
 | some ad=>exact Cr k hn hl ho hty hsz hby hze hzs hsz0 hx hy rfl hk (fun w hw j u hj=>by simp at hj) h1 hs h
 | none=>
  obtain rfl:=Yo hn
  have h2:=hs v
  have h3:=h v
  rw[ZI hk]at h2 h3
  exact bh k ho hty hsz hby hze hx hy hk h2 h3
 refine Cr k hn hl ho hty hsz hby hze hzs hsz0 hx hy E hk (fun w hw j u hj=>?_) h1 hs h
 obtain⟨hb,hcell⟩:=hc j u hj
 rw[Cf]
 exact Or (L:=H) hb hcell w hw
theorem jd{by_:Nat}{zv u:Value}{new:List α}(k k2:Nat)(hn:DK by_ xs new=some us)(hl:∀x,(enc x).length=sz)(ho:At ops N l o t (.call { callee:=.builtin .append,args:=#[x,y],argTypes:=#[ty,ty] }))
(hty:P.underlying ty=some (.slice e))(hsz:DH P e=some sz)(hby:PN P e=some by_)(hze:EC P e=some zv)(hzs:zv.cells.size=sz)(hsz0:0<sz)
(hx:Bj l x=some v)(hy:Bj l y=some u)(hk:H[k]? = some (AC e sz v enc xs))(hk2:H[k2]? = some (AC e sz u enc new))(h1:∀a,∀u∈enc a,u.oneCell'=true)
(hs:∀v',EN Hs (H.set k (AC e sz v' enc us)))
(h:∀v',SL P ro K w0 N ops Hs items Q D ((t,v')::l) (H.set k (AC e sz v' enc us))):SL P ro K w0 N ops Hs (.cons (false,o) items) Q D l H:=by
 intro a w ha hw hs0
 have hrow:w.ownsRow 0 e sz u new.length (new.flatMap enc):=hw.holds _ (List.mem_append_left _ (List.mem_of_getElem? hk2))
 rcases hrow.2 with⟨rfl,h0⟩ | ⟨g,cap,cur,rfl,_⟩
 have:new=[]:=List.length_eq_zero_iff.1 h0
 subst this
 obtain rfl:=Yo hn
 have h2:=hs v
 have h3:=h v
 rw[ZI hk]at h2 h3
 exact bh k ho hty hsz hby hze hx hy hk h2 h3 a w ha hw hs0
 exact Cr k hn hl ho hty hsz hby hze hzs hsz0 hx hy E hk (CH k2 hl hk2) h1 hs h a w ha hw hs0
theorem B9.nil(hl:∀x,(enc x).length=sz):B9 K w0 enc sz zN []:=⟨hl,.inl ⟨_,rfl,rfl⟩⟩
end rows
theorem Ak{u:Value}(ho:At ops N l o t (.assign x))(hx:Bj l x=some v)(hu:v=u)(h:SL P ro K w0 N ops Hs items Q D ((t,u)::l) H):SL P ro K w0 N ops Hs (.cons (tk,o) items) Q D l H:=
 fj ho (by rw[hx,hu]) h
theorem dy{c:Code}(l':Tm)(H':List AY)(h:SX P ro K w0 N c Q D l' H')(e1:RL l' l)(e2:H=H':=by rfl):SX P ro K w0 N c Q D l H:=by
 subst e2;exact h.mono e1
def midD{α:Type}(K:Nat→Prop)(w0:World)(N:Nat)(p:α→Prop)(I:α→Tm)(G:α→List AY)(Q:DJ):DJ
 | .normal,a,w=>∃x D,p x∧MI N D (I x) a∧BW K w0 (G x++[BT D]) w
 | e,a,w=>Q e a w
theorem BB{α:Type}(p:α→Prop)(I:α→Tm)(G:α→List AY){c y:Code}(h:SX P ro K w0 N c (midD K w0 N p I G Q) D l H)(h2:∀x D,p x→SX P ro K w0 N y Q D (I x) (G x)):SX P ro K w0 N (.seq c y) Q D l H:=by
 intro a w ha hw
 refine wpIn_seq (wpIn_mono (h a w ha hw) ?_)
 intro e a w q
 cases e with
 | normal=>
  obtain⟨x,D',hx,ha,hw⟩:=q
  exact h2 x D' hx a w ha hw
 | _=>exact q
theorem Ap{α:Type}{p:α→Prop}{I:α→Tm}{G:α→List AY}(x:α)(hp:p x)(hl:RL (I x) l)(hH:∀w,BW K w0 (H++[BT D]) w→BW K w0 (G x++[BT D]) w):
  SQ K w0 N (Go.Proofs.YtjkhnhichalenaaGreatDoor.midD K w0 N p I G Q) .normal D l H:=fun _a w ha hw=>⟨x,D,hp,ha.mono hl,hH w hw⟩
theorem iN{α:Type}{p:α→Prop}{I:α→Tm}{G:α→List AY}{i:Nat}(h:SQ K w0 N Q (.exit i) D l H):SQ K w0 N (Go.Proofs.YtjkhnhichalenaaGreatDoor.midD K w0 N p I G Q) (.exit i) D l H:=h
theorem GZ{α:Type}{p:α→Prop}{I:α→Tm}{G:α→List AY}(h:SQ K w0 N Q .ret D l H):SQ K w0 N (Go.Proofs.YtjkhnhichalenaaGreatDoor.midD K w0 N p I G Q) .ret D l H:=h
theorem FR(t n tt:Nat){b y:Bool}{C:Option Bool}(hy:Ij b C=some y)(hb:look l t=some (.bool b))
(ht:b=true→C=some y→SL P ro K w0 N ops Hs (items.drop n) Q D ((tt,.bool y)::(t,.bool true)::Ma t l) H→SL P ro K w0 N ops Hs items Q D ((t,.bool true)::Ma t l) H)
(hf:b=false→SL P ro K w0 N ops Hs (items.drop n) Q D ((tt,.bool false)::(t,.bool false)::Ma t l) H→SL P ro K w0 N ops Hs items Q D ((t,.bool false)::Ma t l) H)
(h:SL P ro K w0 N ops Hs (items.drop n) Q D ((tt,.bool y)::l) H):SL P ro K w0 N ops Hs items Q D l H:=by
 refine QC t hb (fun e=>?_) (fun e=>?_)
 subst e;exact MG (ht rfl hy (h.join hb))
 subst e
 obtain rfl:false=y:=zI hy
 exact MG (hf E (h.join hb))
theorem Qc(t n tt:Nat){b y:Bool}{C:Option Bool}(hy:WR b C=some y)(hb:look l t=some (.bool b))
(ht:b=true→SL P ro K w0 N ops Hs (items.drop n) Q D ((tt,.bool true)::(t,.bool true)::Ma t l) H→SL P ro K w0 N ops Hs items Q D ((t,.bool true)::Ma t l) H)
(hf:b=false→C=some y→SL P ro K w0 N ops Hs (items.drop n) Q D ((tt,.bool y)::(t,.bool false)::Ma t l) H→SL P ro K w0 N ops Hs items Q D ((t,.bool false)::Ma t l) H)
(h:SL P ro K w0 N ops Hs (items.drop n) Q D ((tt,.bool y)::l) H):SL P ro K w0 N ops Hs items Q D l H:=by
 refine QC t hb (fun e=>?_) (fun e=>?_)
 subst e
 obtain rfl:true=y:=zI hy
 exact MG (ht E (h.join hb))
 subst e;exact MG (hf rfl hy (h.join hb))
theorem I2{xs ys:Array Value}:GC [] xs ys=some true:=rfl
theorem Cd{i:Nat}{d:TypeDesc}{r:List (Nat×TypeDesc)}{xs ys:Array Value}{u v:Value}{p q:Bool}(hx:xs[i]? = some u)(hy:ys[i]? = some v)(he:To d u v=some p)(hr:GC r xs ys=some q):GC ((i,d)::r) xs ys=some (p&&q):=by
 simp[GC,hx,hy,he,hr]
theorem XX{k:IntKind}{a b:Int}:To (.int k) (.int k a) (.int k b)=some (decide (a=b)):=by
 simp only[To,if_true]
 congr 1
theorem Jl{a b:UInt32}:To (.int .u32) (AA a) (AA b)=some (decide (a=b)):=by
 rw[XX];congr 1;rw[Bool.eq_iff_iff,decide_eq_true_eq,decide_eq_true_eq,←UInt32.toNat_inj];omega
theorem aK{a b:UInt64}:To (.int .u64) (AV a) (AV b)=some (decide (a=b)):=by
 rw[XX];congr 1;rw[Bool.eq_iff_iff,decide_eq_true_eq,decide_eq_true_eq,←UInt64.toNat_inj];omega
theorem SE{a b:List UInt8}:To .string (vS a) (vS b)=some (decide (a=b)):=by
 simp only[To,T8];congr 1;rw[Bool.eq_iff_iff];simp
theorem mR{src dst:TypeId}{d:TypeDesc}{k:IntKind}{n:Int}(hs:P.underlying src=some d)(hd:P.underlying dst=some (.int .i64)):Cv P src dst (.int k n) (vI (wI n)):=Cv.int hs hd rfl
theorem MT{α:Type}{b m:Nat}{xs:List α}{k:IntKind}{i:Int}{c:α}{ty e:TypeId}(hn:BE xs i=some c)(ho:At ops N l o t (.indexAddr ty x y))(hty:P.underlying ty=some (.array m e))(hsz:DH P e=some 1)(hx:Bj l x=some (vP b 0))(hy:Bj l y=some (.int k i))
(hln:xs.length=m)(h:SL P ro K w0 N ops Hs items Q D ((t,vP b i.toNat)::l) H):SL P ro K w0 N ops Hs (.cons (tk,o) items) Q D l H:=by
 obtain⟨h1,h2,h3⟩:=En hn
 exact C7 ho hty hsz hx hy h1 zO h
structure JB(K:Nat→Prop)(w0:World)(g:Nat)(n:Nat)(T:List UInt32):Prop where
 tab:S8 K w0 g T
 len:T.length=n
theorem JB.keeps{g n:Nat}{T:List UInt32}{K':Nat→Prop}{w1:World}(h:JB K w0 g n T)(hk:Wl K w0 K' w1):JB K' w1 g n T:=⟨h.tab.keeps hk,h.len⟩
theorem pH{g n:Nat}{T:List UInt32}{i:Int}{c:UInt32}(h:JB K w0 g n T)(hn:BE T i=some c):∀w,GQ K w0 L w→w.cell? ⟨g,i.toNat,none⟩=some (AA c):=
 Or (ad:=⟨g,i.toNat,none⟩) h.tab.keep (h.tab.cell _ _ (En hn).2.2)
end

section
open Go Go.ChangeShapes Go.WideShapes Go.ChangeAt Go.RowKit
theorem cV:Qp.length=64:=by decide
theorem pW:Tryz.prog.globalNamed "sphragis/sphragisref02.table" = some 2:=zK
theorem qk:(Tryz.prog.globals[2]?).map (·.type)=some 400:=zK
theorem jL{W:World}(h:laidMetH Tryz.prog [("sphragis/sphragisref02.table", Rows.laid_sphragis_sphragisref02_table),("sphragis/sha.first", Rows.laid_sphragis_sha_first),("sphragis/sha.constants", Rows.laid_sphragis_sha_constants)] W):GF (· < W.heap.size) W Qp∧JB (· < W.heap.size) W 2 64 Qp:=by
 have h0:laidMet Tryz.prog [("sphragis/sphragisref02.table", Lib.tabData .u32 UV),("sphragis/sha.first", Lib.tabData .u32 aO),("sphragis/sha.constants", Lib.tabData .u32 UV)] W:=h
 refine⟨lZ (V0 h0),bJ pW (Lib.tabIs_of_head pW qk Tryz.underlying400 Tryz.underlying33 VJ XT h0) (by simp[Qp]) zK,cV⟩
noncomputable def ae(os:Os):World:=
 { World.holding Tryz.prog os ⟨#[],#[],[]⟩with heap:=(((World.holding Tryz.prog os ⟨#[],#[],[]⟩).heap.modify 1 (k5 aO)).modify 3 (k5 UV)).modify 2 (k5 UV) }
end

section
theorem Ec{α β:Type}{F:(α→Option β)→α→Option β}(I:Nat→α)(N:Nat){z:Option β}(hs:∀i,i<N→∀k,F k (I i)=k (I (i+1)))(he:∀k,F k (I N)=z){m:Nat}(hm:N<m):CO F m (I 0)=z:=by
 have key:∀d i m,i+d=N→d<m→CO F m (I i)=z:=by
  intro d
  induction d with
  | zero=>
   intro i m hi hm
   obtain rfl:i=N:=zO
   obtain⟨m,rfl⟩:∃k,m=k+1:=⟨m-1,by omega⟩
   exact he _
  | succ d ih=>
   intro i m hi hm
   obtain⟨m,rfl⟩:∃k,m=k+1:=⟨m-1,by omega⟩
   show F (CO F m) (I i)=z
   rw[hs i zO]
   exact ih (i+1) m zO zO
 exact key N 0 m zO hm
theorem iz{α β:Type}{F:(α→Option β)→α→Option β}(I:Nat→α)(Z9:Nat→Option β)(N:Nat)(hs:∀i,i<N→∀k,k (I (i+1))=Z9 (i+1)→F k (I i)=Z9 i)(he:∀k,F k (I N)=Z9 N){m:Nat}(hm:N<m):CO F m (I 0)=Z9 0:=by
 have key:∀d i m,i+d=N→d<m→CO F m (I i)=Z9 i:=by
  intro d
  induction d with
  | zero=>
   intro i m hi hm
   obtain rfl:i=N:=zO
   obtain⟨m,rfl⟩:∃k,m=k+1:=⟨m-1,by omega⟩
   exact he _
  | succ d ih=>
   intro i m hi hm
   obtain⟨m,rfl⟩:∃k,m=k+1:=⟨m-1,by omega⟩
   show F (CO F m) (I i)=Z9 i
   exact hs i zO _ (ih (i+1) m zO zO)
 exact key N 0 m zO hm
theorem i0{α β:Type}{F:(α→Option β)→α→Option β}(I:Nat→α)(p:Nat→Prop)(N:Nat){z:Option β}(hs:∀i,i<N→p i→∀k,(p (i+1)→k (I (i+1))=z)→F k (I i)=z)(he:p N→∀k,F k (I N)=z)(h0:p 0){m:Nat}(hm:N<m):CO F m (I 0)=z:=by
 have key:∀d i m,i+d=N→d<m→p i→CO F m (I i)=z:=by
  intro d
  induction d with
  | zero=>
   intro i m hi hm hp
   obtain rfl:i=N:=zO
   obtain⟨m,rfl⟩:∃k,m=k+1:=⟨m-1,by omega⟩
   exact he hp _
  | succ d ih=>
   intro i m hi hm hp
   obtain⟨m,rfl⟩:∃k,m=k+1:=⟨m-1,by omega⟩
   show F (CO F m) (I i)=z
   exact hs i zO hp _ (ih (i+1) m zO zO)
 exact key N 0 m zO hm h0
theorem Ez{α:Type}{l:List α}{i:Nat}:BE l (i:Int)=l[i]? := by simp[BE]
theorem O7{α:Type}{l:List α}{i:Int}{k:Nat}(h:i=(k:Int)):BE l i=l[k]? := by rw[h,Ez]
theorem C2{α:Type}{l:List α}{i:Int}{k:Nat}(d:α)(h:i=(k:Int))(hk:k<l.length):BE l i=some (l.getD k d):=by rw[O7 h,Jc d hk]
theorem Lf{α:Type}{l:List α}{i:Int}{k:Nat}{a:α}(h:i=(k:Int))(hk:k<l.length):Nx l i a=some (l.set k a):=by
 subst h
 unfold Nx
 rw[if_pos zO]
 simp
theorem dU{α:Type}{l:List α}{i j:Int}{p q:Nat}(hi:i=(p:Int))(hj:j=(q:Int))(h1:p≤q)(h2:q≤l.length):Im l i j=some ((l.drop p).take (q-p)):=by
 subst hi;subst hj
 unfold Im
 rw[if_pos zO]
 simp
theorem DX{α:Type}{b:Nat}{s t:List α}(h:(s.length+t.length)*b≤140737488355328)(h2:s.length+t.length≤9223372036854775807):DK b s t=some (s++t):=if_pos ⟨h,h2⟩
theorem Ee{s t:List UInt8}(h:s.length+t.length≤9223372036854775807):ED s t=some (s++t):=if_pos h
theorem U2{i:Nat}:QV (i:Int)=some i:=by simp[QV]
theorem Ux{a b:Nat}(hb:b≠0):Ta (a:Int) (b:Int)=some ((a%b:Nat):Int):=by
 unfold Ta
 rw[if_neg zO,Int.tmod_eq_emod_of_nonneg zO]
 rfl
theorem dL{a b:Nat}(hb:b≠0)(ha:a≤9223372036854775807):Uv (a:Int) (b:Int)=some ((a / b:Nat):Int):=by
 unfold Uv
 have h1:a / b≤a:=Nat.div_le_self _ _
 rw[if_neg zO,Int.tdiv_eq_ediv_of_nonneg zO,show((a:Int) / (b:Int))=((a / b:Nat):Int)from rfl]
 generalize a / b=q at h1 ⊢
 rw[Cw zO zO]
theorem AB{α β:Type}{a:α}{f:α→Option β}:(some a).bind f=f a:=by simp
theorem Bw{α β:Type}{e:α}{k:α→β}:ret e k=k e:=by simp[ret]
theorem V4{α β:Type}{F:(α→Option β)→α→Option β}{m:Nat}{a:α}:CO F (m+1) a=F (CO F m) a:=by rw[CO]
end

section
open Go Go.MapKept Go.ChangeMaps
variable {P:Program}{ro:Option Nat}{K:Nat→Prop}{w0:World}{N:Nat}{Q:DJ}{D:List Nat}{l l':Tm}{H H' Hs L:List AY}{ops:Array Oper}{items:Hx}
variable {tk:Bool}{o:Oper}{t:Nat}{v:Value}{x y z:Operand}
theorem Px{α β:Type}(f:α→β){l:List α}(h:(l.map f).Nodup):l.Nodup:=(List.pairwise_map.1 h).imp fun hne e=>hne (congrArg f e)
theorem Q3{α:Type}:∀ {l l':List α},l.Nodup→(∀a∈l,a∈l')→l.length≤l'.length
  | [],_,_,_=>by simp
  | a::r,l',hn,hs=>by
    obtain⟨h1,h2⟩:=List.nodup_cons.1 hn
    obtain⟨p,q,rfl⟩:=List.append_of_mem (hs a (List.mem_cons_self ..))
    have:=Q3 (l':=p++q) h2 (fun b hb=>by
      have hb':=hs b (List.mem_cons_of_mem _ hb)
      simp only[List.mem_append,List.mem_cons]at hb' ⊢
      rcases hb' with h | rfl | h
      exact .inl h
      exact absurd hb h1
      exact .inr h)
    simp at this ⊢
    omega
section fD
variable {κ α:Type}[DecidableEq κ]
def C8(m:List (κ×α))(k:κ):Option α:=(m.find? fun p=>decide (p.1=k)).map (·.2)
def G6(m:List (κ×α))(k:κ):List (κ×α):=m.filter fun p=>decide (p.1≠k)
def MP(m:List (κ×α))(k:κ)(a:α):List (κ×α):=(k,a)::G6 m k
theorem Xv{m:List (κ×α)}{k:κ}(h:∀p∈m,p.1≠k):C8 m k=none:=by
  unfold C8
  rw[List.find?_eq_none.2 (fun p hp=>by simpa using h p hp)]
  rfl
theorem Tw{m:List (κ×α)}(hn:(m.map (·.1)).Nodup){p:κ×α}(hp:p∈m):C8 m p.1=some p.2:=by
  induction m with
  | nil=>cases hp
  | cons q r ih=>
    simp only[List.map_cons,List.nodup_cons]at hn
    unfold C8
    rcases List.mem_cons.1 hp with rfl | hp
    simp
    have hne:q.1≠p.1:=fun e=>hn.1 (by rw[e];exact List.mem_map_of_mem hp)
    rw[List.find?_cons_of_neg (by simpa using hne)]
    exact ih hn.2 hp
theorem S4{m:List (κ×α)}{k:κ}(h:∀p∈m,p.1≠k):G6 m k=m:=List.filter_eq_self.2 (fun p hp=>by simpa using h p hp)
theorem V5{m:List (κ×α)}(hn:(m.map (·.1)).Nodup){p:κ×α}(hp:p∈m):m.Perm (p::G6 m p.1):=by
  induction m with
  | nil=>cases hp
  | cons q r ih=>
    simp only[List.map_cons,List.nodup_cons]at hn
    rcases List.mem_cons.1 hp with rfl | hp
    have h1:G6 (p::r) p.1=r:=by
      unfold G6
      rw[List.filter_cons_of_neg zS]
      exact S4 fun q hq e=>hn.1 (by rw[←e];exact List.mem_map_of_mem hq)
    rw[h1]
    have hne:q.1≠p.1:=fun e=>hn.1 (by rw[e];exact List.mem_map_of_mem hp)
    have h1:G6 (q::r) p.1=q::G6 r p.1:=by
      unfold G6
      rw[List.filter_cons_of_pos (by simpa using hne)]
    rw[h1]
    exact((ih hn.2 hp).cons q).trans (List.Perm.swap _ _ _)
theorem c8{m:List (κ×α)}{k:κ}(hn:(m.map (·.1)).Nodup):((G6 m k).map (·.1)).Nodup:=hn.sublist (List.Sublist.map _ (List.filter_sublist ..))
theorem Y4{m:List (κ×α)}{k j:κ}{a:α}:C8 (MP m k a) j=if k=j then some a else C8 m j:=by
  unfold MP C8
  by_cases h:k=j
  rw[if_pos h,List.find?_cons_of_pos (by simpa using h)];rfl
  rw[if_neg h,List.find?_cons_of_neg (by simpa using h)]
  congr 1
  unfold G6
  rw[List.find?_filter]
  congr 1
  funext p
  by_cases hj:p.1=j
  simp[hj,Ne.symm h]
  simp[hj]
end fD
structure M9(P:Program)(k:TypeId){κ α:Type}(ek:κ→Value)(ev:α→Value):Prop where
  keyed:Go.Maps.Keyed P k
  lit:∀x,∃l,keyOf P k (ek x)=some l
  dk:∃f:Value→Option κ,∀x,f (ek x)=some x
  dv:∃f:Value→Option α,∀x,f (ev x)=some x
theorem M9.inj{k:TypeId}{κ α:Type}{ek:κ→Value}{ev:α→Value}(E9:M9 P k ek ev){x y:κ}(h:ek x=ek y):x=y:=by
  obtain⟨f,hf⟩:=E9.dk
  have:=hf x
  rw[h,hf y]at this
  exact(zI this).symm
theorem U4{k:TypeId}(hk:P.underlying k=some (.int .u32))(a:UInt32):∃l,keyOf P k (AA a)=some l:=
  ⟨_,Maps.keyOf_int_mk hk (by have:=a.toNat_lt;simp[Lit.wf,IntKind.min,IntKind.max,IntKind.signed,IntKind.bits];omega)⟩
theorem QY{k:TypeId}(hk:P.underlying k=some (.int .u32)):M9 P k AA vS:=
  ⟨Maps.int_keyed hk,U4 hk,⟨fun v=>match v with | .int _ a=>some (UInt32.ofNat a.toNat) | _=>none,fun x=>by simp⟩,⟨fun v=>match v with | .string b=>some b.data.toList | _=>none,fun x=>rfl⟩⟩
theorem QX{k:TypeId}(hk:P.underlying k=some (.int .u32)):M9 P k AA vB:=
  ⟨Maps.int_keyed hk,U4 hk,⟨fun v=>match v with | .int _ a=>some (UInt32.ofNat a.toNat) | _=>none,fun x=>by simp⟩,⟨fun v=>match v with | .bool b=>some b | _=>none,fun x=>rfl⟩⟩
section maps
variable {κ α:Type}{ek:κ→Value}{ev:α→Value}{m:List (κ×α)}{k:TypeId}{b:Nat}
def MS(ek:κ→Value)(ev:α→Value)(m:List (κ×α))(es:Array MapEntry)(clock:Nat):Prop:=
  Stamped es clock∧es.size≤maxLen∧(es.toList.map fun e=>(e.key,e.val)).Perm (m.map fun p=>(ek p.1,ev p.2))
def Ab(b:Nat)(ek:κ→Value)(ev:α→Value)(m:List (κ×α)):AY:=
  ⟨(·=b),fun w=>∃es clock,w.heap[b]? = some (.map es clock)∧MS ek ev m es clock,fun w w' h ⟨es,c,h1,h2⟩=>⟨es,c,by rw[h _ rfl];exact h1,h2⟩⟩
theorem MS.mem{es:Array MapEntry}{clock:Nat}(h:MS ek ev m es clock){e:MapEntry}(he:e∈es.toList):∃p∈m,e.key=ek p.1∧e.val=ev p.2:=by
  have:=h.2.2.mem_iff.1 (List.mem_map_of_mem (f:=fun e:MapEntry=>(e.key,e.val)) he)
  obtain⟨p,hp,e1⟩:=List.mem_map.1 this
  simp only[Prod.mk.injEq]at e1
  exact⟨p,hp,e1.1.symm,e1.2.symm⟩
theorem MS.nodup{es:Array MapEntry}{clock:Nat}(h:MS ek ev m es clock):(m.map (·.1)).Nodup:=by
  have h1:(es.toList.map (·.key)).Nodup:=h.1.2.2
  have h2:(es.toList.map (·.key)).Perm (m.map fun p=>ek p.1):=by
    have:=h.2.2.map (·.1)
    simpa[List.map_map,Function.comp_def]using this
  have h3:(m.map fun p=>ek p.1).Nodup:=h2.nodup_iff.1 h1
  have h4:(m.map fun p=>ek p.1)=(m.map (·.1)).map ek:=by simp
  rw[h4]at h3
  exact Px _ h3
theorem MS.keys{es:Array MapEntry}{clock:Nat}(E9:M9 P k ek ev)(h:MS ek ev m es clock):∀e∈es.toList,∃l,keyOf P k e.key=some l:=fun e he=>by
  obtain⟨p,_,e1,_⟩:=h.mem he
  rw[e1]
  exact E9.lit _
theorem MS.size_eq{es:Array MapEntry}{clock:Nat}(h:MS ek ev m es clock):es.size=m.length:=by
  have:=h.2.2.length_eq
  simpa using this
variable [DecidableEq κ]
theorem MS.look{es:Array MapEntry}{clock:Nat}{w:World}(E9:M9 P k ek ev)(h:MS ek ev m es clock)(hb:w.heap[b]? = some (.map es clock)){ty e:TypeId}(ht:P.underlying ty=some (.map k e)){zv:α}(hz:EC P e=some (ev zv))(key:κ)(c:Bool):
    (Instr.lookup ty (.map (some b)) (ek key) c).run P w=.ok (if c then .tuple #[ev ((C8 m key).getD zv),.bool (C8 m key).isSome]else ev ((C8 m key).getD zv)) w:=by
  obtain⟨lx,hl⟩:=E9.lit key
  rcases E9.keyed.find w hl es.toList (h.keys E9)with⟨h1,h2⟩ | ⟨j,e0,h1,h2,h3⟩
  have hg:C8 m key=none:=Xv fun p hp e=>by
    have:=h.2.2.mem_iff.2 (List.mem_map_of_mem (f:=fun p:κ×α=>(ek p.1,ev p.2)) hp)
    obtain⟨e',he',e1⟩:=List.mem_map.1 this
    simp only[Prod.mk.injEq]at e1
    exact h2 e' he' (by rw[e1.1,e])
  simp[Instr.lookup,Aq ht,MapKept.run_getObj_map hb,E9.keyed.check w _ hl,h1,NX hz,Result.andThen,hg]
  obtain⟨p,hp,e1,e2⟩:=h.mem (List.mem_of_getElem? h2)
  have hk:p.1=key:=E9.inj (by rw[←e1,h3])
  have hg:=Tw h.nodup hp
  rw[hk]at hg
  simp[Instr.lookup,Aq ht,MapKept.run_getObj_map hb,E9.keyed.check w _ hl,h1,Result.andThen,hg,←e2]
theorem MS.upd{es:Array MapEntry}{clock:Nat}{w:World}(E9:M9 P k ek ev)(h:MS ek ev m es clock)(hb:w.heap[b]? = some (.map es clock)){ty e:TypeId}(ht:P.underlying ty=some (.map k e))(key:κ)(a:α)(hroom:m.length<9223372036854775807):
    ∃es' clock',(Instr.mapUpdate ty (.map (some b)) (ek key) (ev a)).run P w=.ok () (setBlock w b (.map es' clock'))∧MS ek ev (MP m key a) es' clock':=by
  obtain⟨lx,hl⟩:=E9.lit key
  have hsz:=h.size_eq
  rcases E9.keyed.find w hl es.toList (h.keys E9)with⟨h1,h2⟩ | ⟨j,e0,h1,h2,h3⟩
  have hno:∀p∈m,p.1≠key:=fun p hp e=>by
    have:=h.2.2.mem_iff.2 (List.mem_map_of_mem (f:=fun p:κ×α=>(ek p.1,ev p.2)) hp)
    obtain⟨e',he',e1⟩:=List.mem_map.1 this
    simp only[Prod.mk.injEq]at e1
    exact h2 e' he' (by rw[e1.1,e])
  refine⟨es.push ⟨ek key,ev a,clock⟩,clock+1,?_,stamped_push h.1 h2,by simp only[maxLen,Array.size_push];omega,?_⟩
  simp[Instr.mapUpdate,Aq ht,MapKept.run_getObj_map hb,E9.keyed.check w false hl,h1,MapKept.run_setObj_map _ hb,Result.andThen,setBlock]
  unfold MP
  rw[S4 hno,Array.toList_push,List.map_append,List.map_cons]
  exact(List.perm_append_singleton _ _).trans (h.2.2.cons _)
  have hj:es[j]? = some e0:=by simpa using h2
  have hjl:j<es.toList.length:=(List.getElem?_eq_some_iff.1 h2).1
  obtain⟨p,hp,e1,e2⟩:=h.mem (List.mem_of_getElem? h2)
  have hk:p.1=key:=E9.inj (by rw[←e1,h3])
  have hkeyf:∀e',es[j]? = some e'→({ e' with key:=ek key,val:=ev a }:MapEntry).key=e'.key:=fun e' he'=>by rw[hj]at he';cases he';exact h3.symm
  have hlist:(es.modify j (fun e'=>{ e' with key:=ek key,val:=ev a })).toList=es.toList.set j { e0 with key:=ek key,val:=ev a }:=by rw[Array.toList_modify,modify_eq_set _ _ _ _ h2]
  refine⟨es.modify j (fun e'=>{ e' with key:=ek key,val:=ev a }),clock,?_,stamped_modify h.1 _ _ (fun _ _=>rfl) (fun e' _ he'=>hkeyf e' he'),by simpa using h.2.1,?_⟩
  simp[Instr.mapUpdate,Aq ht,MapKept.run_getObj_map hb,E9.keyed.check w false hl,h1,hj,h3,E9.keyed.stays w hl,MapKept.run_setObj_map _ hb,Result.andThen,setBlock]
  rw[hlist]
  unfold MP
  have hspl:=V5 h.nodup hp
  rw[hk]at hspl
  have p1:es.toList=es.toList.take j++e0::es.toList.drop (j+1):=(E1 h2).1
  have p2:es.toList.set j { e0 with key:=ek key,val:=ev a }=es.toList.take j++{ e0 with key:=ek key,val:=ev a }::es.toList.drop (j+1):=by
    rw[List.set_eq_take_append_cons_drop,if_pos hjl]
  rw[p2]
  have q1:((es.toList.take j++es.toList.drop (j+1)).map fun e=>(e.key,e.val)).Perm ((G6 m key).map fun p=>(ek p.1,ev p.2)):=by
    have h5:=h.2.2
    rw[p1]at h5
    have h6:=(List.perm_middle (l₁:=es.toList.take j) (a:=e0) (l₂:=es.toList.drop (j+1))).symm.map (fun e:MapEntry=>(e.key,e.val))
    have h7:=(h6.trans h5).trans (hspl.map fun p=>(ek p.1,ev p.2))
    simp only[List.map_cons,e1,e2]at h7
    exact h7.cons_inv
  have h8:=(List.perm_middle (l₁:=es.toList.take j) (a:=({ e0 with key:=ek key,val:=ev a }:MapEntry)) (l₂:=es.toList.drop (j+1))).map (fun e:MapEntry=>(e.key,e.val))
  exact h8.trans (q1.cons _)
theorem MS.drop{es:Array MapEntry}{clock:Nat}{w:World}(E9:M9 P k ek ev)(h:MS ek ev m es clock)(hb:w.heap[b]? = some (.map es clock)){t2 e rt:TypeId}(ht:P.underlying t2=some (.map k e))(key:κ):
    ∃es',(Builtin.delete_ #[t2,k] rt #[.map (some b),ek key]).run P w=.ok (.tuple #[]) (setBlock w b (.map es' clock))∧MS ek ev (G6 m key) es' clock:=by
  obtain⟨lx,hl⟩:=E9.lit key
  rcases E9.keyed.find w hl es.toList (h.keys E9)with⟨h1,h2⟩ | ⟨j,e0,h1,h2,h3⟩
  have hno:∀p∈m,p.1≠key:=fun p hp e=>by
    have:=h.2.2.mem_iff.2 (List.mem_map_of_mem (f:=fun p:κ×α=>(ek p.1,ev p.2)) hp)
    obtain⟨e',he',e1⟩:=List.mem_map.1 this
    simp only[Prod.mk.injEq]at e1
    exact h2 e' he' (by rw[e1.1,e])
  refine⟨es,?_,by rw[S4 hno];exact h⟩
  simp[Builtin.delete_,Aq ht,MapKept.run_getObj_map hb,E9.keyed.check w _ hl,h1,MapKept.run_setObj_map _ hb,Result.andThen,setBlock]
  have hjl:j<es.toList.length:=(List.getElem?_eq_some_iff.1 h2).1
  have hjs:j<es.size:=by simpa using hjl
  obtain⟨p,hp,e1,e2⟩:=h.mem (List.mem_of_getElem? h2)
  have hk:p.1=key:=E9.inj (by rw[←e1,h3])
  have hsub:(es.eraseIdxIfInBounds j).toList=es.toList.eraseIdx j:=by
    unfold Array.eraseIdxIfInBounds
    rw[dif_pos hjs]
    simp
  refine⟨es.eraseIdxIfInBounds j,?_,stamped_erase h.1 j,Nat.le_trans (MapFrom.size_erase es j) h.2.1,?_⟩
  simp[Builtin.delete_,Aq ht,MapKept.run_getObj_map hb,E9.keyed.check w _ hl,h1,MapKept.run_setObj_map _ hb,Result.andThen,setBlock]
  rw[hsub,List.eraseIdx_eq_take_drop_succ]
  have hspl:=V5 h.nodup hp
  rw[hk]at hspl
  have p1:es.toList=es.toList.take j++e0::es.toList.drop (j+1):=(E1 h2).1
  have h5:=h.2.2
  rw[p1]at h5
  have h6:=(List.perm_middle (l₁:=es.toList.take j) (a:=e0) (l₂:=es.toList.drop (j+1))).symm.map (fun e:MapEntry=>(e.key,e.val))
  have h7:=(h6.trans h5).trans (hspl.map fun p=>(ek p.1,ev p.2))
  simp only[List.map_cons,e1,e2]at h7
  exact h7.cons_inv
omit [DecidableEq κ]
theorem Fk(w:World)(b:Nat)(o:Obj):setBlock w b o=w.putObj b o:=rfl
theorem Sq{ty:TypeId}(ek:κ→Value)(ev:α→Value)(ho:At ops N l o t (.makeMap ty none))(hs:∀b,EN Hs (Ab b ek ev []::H))
(h:∀b,SL P ro K w0 N ops Hs items Q D ((t,.map (some b))::l) (Ab b ek ev []::H)):SL P ro K w0 N ops Hs (.cons (false,o) items) Q D l H:=
  Gj (fun b=>.map (some b)) (fun b=>Ab b ek ev []::H) ho rfl (fun a w ha hw=>by
    refine⟨w.heap.size,w.alloc (.map #[] 0),?_,?_⟩
    simp[execOp,ho.op,Instr.makeMap]
    have h2:=hw.alloc (.map #[] 0)
    refine h2.turn rfl rfl rfl (Nat.le_refl _) (fun _ _ _=>rfl) ⟨#[],0,h2.holds _ (List.mem_cons_self ..),stamped_empty 0,by simp,by simp⟩ (fun j hj=>?_)
    exact⟨.inl hj,(h2.foot _ (List.mem_cons_self ..) j hj).1⟩) hs h
variable [DecidableEq κ]
theorem WW{ty e:TypeId}{key:κ}{zv:α}(i:Nat)(E9:M9 P k ek ev)(ho:At ops N l o t (.lookup ty x y false))(ht:P.underlying ty=some (.map k e))(hz:EC P e=some (ev zv))(hx:Bj l x=some (.map (some b)))(hy:Bj l y=some (ek key))
(hi:(bif tk then Hs else H)[i]? = some (Ab b ek ev m))(h:SL P ro K w0 N ops Hs items Q D ((t,ev ((C8 m key).getD zv))::l) H):SL P ro K w0 N ops Hs (.cons (tk,o) items) Q D l H:=
  SL.val ho rfl (fun a w ha hsw=>by
    obtain⟨es,clock,hb,hr⟩:=hsw.holds _ (List.mem_of_getElem? hi)
    have:=hr.look E9 hb ht hz key false
    simp[execOp,ho.op,ha.eval hx,ha.eval hy,this]) h
theorem U8{ty e:TypeId}{key:κ}{zv:α}(i:Nat)(E9:M9 P k ek ev)(ho:At ops N l o t (.lookup ty x y true))(ht:P.underlying ty=some (.map k e))(hz:EC P e=some (ev zv))(hx:Bj l x=some (.map (some b)))(hy:Bj l y=some (ek key))
(hi:(bif tk then Hs else H)[i]? = some (Ab b ek ev m))(h:SL P ro K w0 N ops Hs items Q D ((t,.tuple #[ev ((C8 m key).getD zv),.bool (C8 m key).isSome])::l) H):SL P ro K w0 N ops Hs (.cons (tk,o) items) Q D l H:=
  SL.val ho rfl (fun a w ha hsw=>by
    obtain⟨es,clock,hb,hr⟩:=hsw.holds _ (List.mem_of_getElem? hi)
    have:=hr.look E9 hb ht hz key true
    simp[execOp,ho.op,ha.eval hx,ha.eval hy,this]) h
theorem mf{ty e:TypeId}{key:κ}{a:α}{z:Operand}(i:Nat)(E9:M9 P k ek ev)(ho:At0 ops l o (.mapUpdate ty x y z))(ht:P.underlying ty=some (.map k e))(hx:Bj l x=some (.map (some b)))(hy:Bj l y=some (ek key))(hz:Bj l z=some (ev a))
(hi:H[i]? = some (Ab b ek ev m))(hroom:m.length<9223372036854775807)(hs:EN Hs (H.set i (Ab b ek ev (MP m key a))))(h:SL P ro K w0 N ops Hs items Q D l (H.set i (Ab b ek ev (MP m key a)))):SL P ro K w0 N ops Hs (.cons (false,o) items) Q D l H:=
  U9 ho rfl (fun a' w ha hw=>by
    obtain⟨es,clock,hb,hr⟩:=hw.holds _ (List.mem_append_left _ (List.mem_of_getElem? hi))
    obtain⟨es',clock',hrun,hr'⟩:=hr.upd E9 hb ht key a hroom
    obtain⟨hlt,_⟩:=Array.getElem?_eq_some_iff.1 hb
    refine⟨_,by simp[execOp,ho.op,ha.eval hx,ha.eval hy,ha.eval hz,hrun];rfl,?_⟩
    refine hw.turnAt (c:=Ab b ek ev m) i hi rfl rfl rfl (by simp[Fk]) (fun j hj hne=>World.putObj_heap_other (fun e=>hne (by rw[e];rfl))) ⟨es',clock',World.putObj_heap_same hlt,hr'⟩ (fun j hj=>⟨.inl hj,?_⟩)
    obtain rfl:j=b:=hj
    simpa[Fk]using hlt) hs h
theorem mY{ty k' e:TypeId}{key:κ}(i:Nat)(E9:M9 P k ek ev)(hd:o.dst=none)(hop:o.op=.call { callee:=.builtin .delete,args:=#[x,y],argTypes:=#[ty,k'] })(hwt:RI ops l o=some true)(hk:k'=k)(ht:P.underlying ty=some (.map k e))(hx:Bj l x=some (.map (some b)))(hy:Bj l y=some (ek key))
(hi:H[i]? = some (Ab b ek ev m))(hs:EN Hs (H.set i (Ab b ek ev (G6 m key))))(h:SL P ro K w0 N ops Hs items Q D l (H.set i (Ab b ek ev (G6 m key)))):SL P ro K w0 N ops Hs (.cons (false,o) items) Q D l H:=by
  subst hk
  intro a w ha hw hs0
  have hw1:=FL hwt ha.vals
  simp only[PL,hw1,if_true]
  obtain⟨es,clock,hb,hr⟩:=hw.holds _ (List.mem_append_left _ (List.mem_of_getElem? hi))
  obtain⟨es',hrun,hr'⟩:=hr.drop (rt:=o.type) E9 hb ht key
  obtain⟨hlt,_⟩:=Array.getElem?_eq_some_iff.1 hb
  have hw':BW K w0 (H.set i (Ab b ek ev (G6 m key))++[BT D]) (setBlock w b (.map es' clock)):=by
    refine hw.turnAt (c:=Ab b ek ev m) i hi rfl rfl rfl (by simp[Fk]) (fun j hj hne=>World.putObj_heap_other (fun e=>hne (by rw[e];rfl))) ⟨es',clock,World.putObj_heap_same hlt,hr'⟩ (fun j hj=>⟨.inl hj,?_⟩)
    obtain rfl:j=b:=hj
    simpa[Fk]using hlt
  refine Jd (by rw[hop];exact FK rfl) (v:=.tuple #[]) (w':=setBlock w b (.map es' clock)) ?_ ⟨hs.hs hw',?_⟩
  unfold execOp
  simp only[hop,resolve,invoke,builtin,Sem.run_bind,Sem.run_pure,Result.andThen_ok,List.map_toArray,List.map_cons,List.map_nil,ha.vals.eval hx,ha.vals.eval hy,hrun]
  rw[hd]
  exact h _ _ ha hw' (hs.hs hw')
omit [DecidableEq κ]
theorem mX{ty e:TypeId}(i:Nat)(hd:o.dst=none)(hop:o.op=.call { callee:=.builtin .clear,args:=#[x],argTypes:=#[ty] })(hwt:RI ops l o=some true)(ht:P.underlying ty=some (.map k e))(hx:Bj l x=some (.map (some b)))
(hi:H[i]? = some (Ab b ek ev m))(hs:EN Hs (H.set i (Ab b ek ev [])))(h:SL P ro K w0 N ops Hs items Q D l (H.set i (Ab b ek ev []))):SL P ro K w0 N ops Hs (.cons (false,o) items) Q D l H:=by
  intro a w ha hw hs0
  have hw1:=FL hwt ha.vals
  simp only[PL,hw1,if_true]
  obtain⟨es,clock,hb,hr⟩:=hw.holds _ (List.mem_append_left _ (List.mem_of_getElem? hi))
  obtain⟨hlt,_⟩:=Array.getElem?_eq_some_iff.1 hb
  have hw':BW K w0 (H.set i (Ab b ek ev [])++[BT D]) (setBlock w b (.map #[] clock)):=by
    refine hw.turnAt (c:=Ab b ek ev m) i hi rfl rfl rfl (by simp[Fk]) (fun j hj hne=>World.putObj_heap_other (fun e=>hne (by rw[e];rfl))) ⟨#[],clock,World.putObj_heap_same hlt,stamped_empty clock,by simp,by simp⟩ (fun j hj=>⟨.inl hj,?_⟩)
    obtain rfl:j=b:=hj
    simpa[Fk]using hlt
  refine Jd (by rw[hop];exact FK rfl) (v:=.tuple #[]) (w':=setBlock w b (.map #[] clock)) ?_ ⟨hs.hs hw',?_⟩
  unfold execOp
  simp only[hop,resolve,invoke,builtin,Sem.run_bind,Sem.run_pure,Result.andThen_ok,List.map_toArray,List.map_cons,List.map_nil,ha.vals.eval hx]
  simp[Builtin.clear_,Aq ht,MapKept.run_getObj_map hb,MapKept.run_setObj_map _ hb,Result.andThen,setBlock]
  rw[hd]
  exact h _ _ ha hw' (hs.hs hw')
def NV(b it:Nat)(ek:κ→Value)(ev:α→Value)(m done:List (κ×α)):AY:=
  ⟨fun j=>j=b∨j=it,fun w=>∃es clock seen,w.heap[b]? = some (.map es clock)∧MS ek ev m es clock∧w.heap[it]? = some (.mapIter (some b) clock seen clock)∧
    ∃ord:List MapEntry,seen.toList=ord.map MapEntry.born∧(∀e∈ord,e∈es.toList)∧(ord.map MapEntry.born).Nodup∧(ord.map fun e=>(e.key,e.val))=done.map fun p=>(ek p.1,ev p.2),
   fun w w' h ⟨es,c,s,h1,h2,h3,h4⟩=>⟨es,c,s,by rw[h _ (.inl rfl)];exact h1,h2,by rw[h _ (.inr rfl)];exact h3,h4⟩⟩
theorem me{ty e:TypeId}(i:Nat)(ho:At ops N l o t (.range ty x))(ht:P.underlying ty=some (.map k e))(hx:Bj l x=some (.map (some b)))(hi:H[i]? = some (Ab b ek ev m))
(hs:∀it,EN Hs (H.set i (NV b it ek ev m [])))(h:∀it,SL P ro K w0 N ops Hs items Q D ((t,vP it 0)::l) (H.set i (NV b it ek ev m []))):SL P ro K w0 N ops Hs (.cons (false,o) items) Q D l H:=
  Gj (fun it=>vP it 0) (fun it=>H.set i (NV b it ek ev m [])) ho rfl (fun a w ha hw=>by
    obtain⟨es,clock,hb,hr⟩:=hw.holds _ (List.mem_append_left _ (List.mem_of_getElem? hi))
    obtain⟨hlt,_⟩:=Array.getElem?_eq_some_iff.1 hb
    refine⟨w.heap.size,w.alloc (.mapIter (some b) clock #[] clock),?_,?_⟩
    simp[execOp,ho.op,Instr.range,ha.eval hx,Aq ht,MapKept.run_getObj_map hb]
    refine hw.turnAt (c:=Ab b ek ev m) i hi rfl rfl rfl zS (fun j hj _=>Pv w _ j hj) ⟨es,clock,#[],(Pv w _ b hlt).trans hb,hr,?_,[],by simp,by simp,by simp,by simp⟩ (fun j hj=>?_)
    show(w.heap.push _)[w.heap.size]? = _
    simp
    rcases hj with rfl | rfl
    exact⟨.inl rfl,by simp;omega⟩
    exact⟨.inr (Nat.le_refl _),by simp⟩) hs h
theorem mc{it:Nat}{done:List (κ×α)}(i:Nat)(E9:M9 P k ek ev)(ho:At ops N l o t (.next x false))(hx:Bj l x=some (vP it 0))(hi:H[i]? = some (NV b it ek ev m done))(hs0:EN Hs H)
(hA:done.Perm m→SL P ro K w0 N ops Hs items Q D ((t,.tuple #[.bool false])::l) H)
(hB:∀p,p∈m→done.length<m.length→EN Hs (H.set i (NV b it ek ev m (done++[p])))∧SL P ro K w0 N ops Hs items Q D ((t,.tuple #[.bool true,ek p.1,ev p.2])::l) (H.set i (NV b it ek ev m (done++[p])))):
    SL P ro K w0 N ops Hs (.cons (false,o) items) Q D l H:=by
  intro a w ha hw hsw
  have hw1:=FL ho.wt ha.vals
  simp only[PL,hw1,if_true]
  obtain⟨es,clock,seen,hb,hr,hit,ord,ho1,ho2,ho3,ho4⟩:=hw.holds _ (List.mem_append_left _ (List.mem_of_getElem? hi))
  obtain⟨hlt,_⟩:=Array.getElem?_eq_some_iff.1 hb
  obtain⟨hlt2,_⟩:=Array.getElem?_eq_some_iff.1 hit
  have hlen:ord.length=done.length:=by simpa using congrArg List.length ho4
  have hsz:=hr.size_eq
  have hnd:ord.Nodup:=Px _ ho3
  rcases run_next_at (P:=P) w o.type it b clock clock seen es clock hit hb hr.1.1 (Nat.le_refl _)with⟨h0,hrun⟩ | ⟨e,he,w1,hal,hrun⟩
  
  have hall:∀e∈es.toList,e∈ord:=fun e he=>by
    have:leftOf es seen=#[]:=Array.eq_empty_of_size_eq_zero h0
    unfold leftOf at this
    have h1:=Array.filter_eq_empty_iff.1 this e (by simpa using he)
    have h2:e.born∈seen.toList:=by simpa using h1
    rw[ho1]at h2
    obtain⟨e',he',eb⟩:=List.mem_map.1 h2
    have h3:=ho2 e' he'
    have:e'=e:=by
      have hn:=hr.1.2.1
      obtain⟨p,hp,e1⟩:=List.getElem_of_mem h3
      obtain⟨q,hq,e2⟩:=List.getElem_of_mem he
      have:=(List.getElem_inj (h₀:=by simpa using hp) (h₁:=by simpa using hq) hn).1 (by simp[e1,e2,eb])
      subst this
      rw[←e1,←e2]
    rw[←this];exact he'
  have hperm:ord.Perm es.toList:=by
    have hen:es.toList.Nodup:=Px _ hr.1.2.1
    exact(List.perm_ext_iff_of_nodup hnd hen).2 fun e=>⟨ho2 e,hall e⟩
  have hdm:done.Perm m:=by
    have h1:(done.map fun p=>(ek p.1,ev p.2)).Perm (m.map fun p=>(ek p.1,ev p.2)):=by
      rw[←ho4]
      exact(hperm.map _).trans hr.2.2
    obtain⟨fk,hfk⟩:=E9.dk
    obtain⟨fv,hfv⟩:=E9.dv
    have h2:=h1.filterMap fun q:Value×Value=>(fk q.1).bind fun a=>(fv q.2).map fun b=>(a,b)
    have h3:∀l:List (κ×α),(l.map fun p=>(ek p.1,ev p.2)).filterMap (fun q:Value×Value=>(fk q.1).bind fun a=>(fv q.2).map fun b=>(a,b))=l:=by
      intro l
      induction l with
      | nil=>rfl
      | cons p r ih=>simp[hfk,hfv,ih]
    rwa [h3,h3]at h2
  refine Jd (by rw[ho.op];exact FK rfl) (v:=.tuple #[.bool false]) (w':=w) ?_ ⟨hs0.hs hw,hA hdm _ w (by rw[ho.dst];exact ha.put (HY ho.lt) _) hw (hs0.hs hw)⟩
  simp[execOp,ho.op,ha.vals.eval hx,hrun]
  
  have hel:e∈es.toList:=by
    unfold leftOf at he
    simp at he ⊢
    exact he.1
  have hens:e.born∉ord.map (·.born):=by
    unfold leftOf at he
    rw[←ho1]
    simp at he ⊢
    exact he.2
  obtain⟨p,hp,e1,e2⟩:=hr.mem hel
  have hlt3:done.length<m.length:=by
    have hnd2:(ord++[e]).Nodup:=by
      refine List.nodup_append.2 ⟨hnd,by simp,?_⟩
      intro x hx y hy
      simp only[List.mem_singleton]at hy
      subst hy
      intro exy
      exact hens (by rw[←exy];exact List.mem_map_of_mem hx)
    have hsub:(ord++[e])⊆es.toList:=by
      intro x hx
      rcases List.mem_append.1 hx with hx | hx
      exact ho2 x hx
      simp only[List.mem_singleton]at hx
      subst hx;exact hel
    have:=Q3 hnd2 (fun a ha=>hsub ha)
    simp at this
    omega
  obtain⟨hsub,hcont⟩:=hB p hp hlt3
  have hhw1:w1.os=w.os∧w1.tape=w.tape∧w1.output=w.output∧w1.heap=w.heap:=by rcases hal with rfl | rfl<;>exact⟨rfl,rfl,rfl,rfl⟩
  have hne:it≠b:=fun e=>by rw[e,hb]at hit;cases hit
  have hw':BW K w0 (H.set i (NV b it ek ev m (done++[p]))++[BT D]) (setBlock w1 it (.mapIter (some b) clock (seen.push e.born) clock)):=by
    refine hw.turnAt (c:=NV b it ek ev m done) i hi hhw1.1 hhw1.2.1 hhw1.2.2.1 (by simp[Fk,hhw1.2.2.2]) (fun j hj hnf=>?_) ⟨es,clock,seen.push e.born,?_,hr,World.putObj_heap_same (by rw[hhw1.2.2.2];exact hlt2),ord++[e],by simp[ho1],?_,?_,by simp[ho4,e1,e2]⟩ (fun j hj=>⟨.inl hj,?_⟩)
    exact(World.putObj_heap_other (fun e=>hnf (.inr e))).trans (by rw[hhw1.2.2.2])
    exact(World.putObj_heap_other (fun e=>hne e.symm)).trans (by rw[hhw1.2.2.2];exact hb)
    intro x hx
    rcases List.mem_append.1 hx with hx | hx
    exact ho2 x hx
    simp only[List.mem_singleton]at hx
    subst hx;exact hel
    rw[List.map_append]
    refine List.nodup_append.2 ⟨ho3,by simp,?_⟩
    intro x hx y hy
    simp only[List.map_cons,List.map_nil,List.mem_singleton]at hy
    subst hy
    intro exy
    exact hens (by rw[←exy];exact hx)
    rcases hj with rfl | rfl
    simpa[Fk,hhw1.2.2.2]using hlt
    simpa[Fk,hhw1.2.2.2]using hlt2
  refine Jd (by rw[ho.op];exact FK rfl) (v:=.tuple #[.bool true,ek p.1,ev p.2]) (w':=setBlock w1 it (.mapIter (some b) clock (seen.push e.born) clock)) ?_ ⟨hsub.hs hw',hcont _ _ (by rw[ho.dst];exact ha.put (HY ho.lt) _) hw' (hsub.hs hw')⟩
  simp[execOp,ho.op,ha.vals.eval hx,hrun,e1,e2]
theorem mZ{it:Nat}{done:List (κ×α)}{p:κ×α}(i:Nat)(ho:At ops N l o t (.entry x))(hx:Bj l x=some (vP it 0))(hi:(bif tk then Hs else H)[i]? = some (NV b it ek ev m (done++[p])))
(h:SL P ro K w0 N ops Hs items Q D ((t,.tuple #[ek p.1,ev p.2])::l) H):SL P ro K w0 N ops Hs (.cons (tk,o) items) Q D l H:=
  SL.val ho rfl (fun a w ha hsw=>by
    obtain⟨es,clock,seen,hb,hr,hit,ord,ho1,ho2,ho3,ho4⟩:=hsw.holds _ (List.mem_of_getElem? hi)
    have hne:ord≠[]:=fun e=>by rw[e]at ho4;simp at ho4
    obtain⟨ord',e,rfl⟩:∃o' e,ord=o'++[e]:=⟨_,_,(List.dropLast_concat_getLast hne).symm⟩
    simp only[List.map_append,List.map_cons,List.map_nil]at ho4 ho1
    have h4:=List.append_inj' ho4 rfl
    simp only[List.cons.injEq,Prod.mk.injEq,and_true]at h4
    have hse:seen=(ord'.map (·.born)).toArray.push e.born:=by
      apply Array.ext'
      simp[ho1]
    rw[hse]at hit
    have:=run_entry_at (P:=P) w it b clock _ es clock e hit hb (ho2 e zS) hr.1.2.1
    simp[execOp,ho.op,ha.eval hx,this,h4.2.1,h4.2.2]) h
theorem BW.itOff{w:World}{M:List AY}{it:Nat}{done:List (κ×α)}(i:Nat)(h:BW K w0 (H++M) w)(hi:H[i]? = some (NV b it ek ev m done)):BW K w0 (H.set i (Ab b ek ev m)++M) w:=by
  obtain⟨es,clock,seen,hb,hr,_⟩:=h.holds _ (List.mem_append_left _ (List.mem_of_getElem? hi))
  exact h.turnAt (c:=NV b it ek ev m done) i hi rfl rfl rfl (Nat.le_refl _) (fun _ _ _=>rfl) ⟨es,clock,hb,hr⟩ (fun j hj=>⟨.inl (.inl hj),(h.foot _ (List.mem_append_left _ (List.mem_of_getElem? hi)) j (.inl hj)).1⟩)
theorem iO{c:Code}{it:Nat}{done:List (κ×α)}(i:Nat)(hi:H[i]? = some (NV b it ek ev m done))(h:SX P ro K w0 N c Q D l (H.set i (Ab b ek ev m))):SX P ro K w0 N c Q D l H:=
  fun a w ha hw=>h a w ha (hw.itOff i hi)
end maps
end

section
open Go Go.MapKept Go.ChangeMaps
variable {P:Program}{ro:Option Nat}{K:Nat→Prop}{w0:World}{N:Nat}{Q:DJ}{D:List Nat}{l l':Tm}{H H' Hs L:List AY}{ops:Array Oper}{items:Hx}
variable {tk:Bool}{o:Oper}{t:Nat}{v:Value}{x y z:Operand}
theorem C1{α:Type}{e:TypeId}{sz:Nat}{enc:α→List Value}{xs:List α}(i:Nat)(hi:H[i]? = some (AC e sz v enc xs))(h:v.cells=#[v]→v.oneCell'=true→SL P ro K w0 N ops Hs items Q D l H):SL P ro K w0 N ops Hs items Q D l H:=by
 intro a w ha hw hs
 have hrow:w.ownsRow 0 e sz v xs.length (xs.flatMap enc):=hw.holds _ (List.mem_append_left _ (List.mem_of_getElem? hi))
 rcases hrow.2 with⟨rfl,_⟩ | ⟨g,cap,cur,rfl,_⟩
 exact h rfl rfl a w ha hw hs
 exact h rfl rfl a w ha hw hs
theorem QB{α:Type}{sz:Nat}{enc:α→List Value}{xs:List α}(hk:B9 K w0 enc sz v xs)(h:v.cells=#[v]→v.oneCell'=true→SL P ro K w0 N ops Hs items Q D l H):SL P ro K w0 N ops Hs items Q D l H:=by
 rcases hk.at_ with⟨_,rfl,_⟩ | ⟨b,off,cap,rfl,_⟩
 exact h rfl rfl
 exact h rfl rfl
theorem Wo{ty:TypeId}(hv:v.cells=#[v])(ho:At ops N l o t (.box ty x))(hx:Bj l x=some v)(hs:∀b,EN Hs (AK b (.cells #[v] ty)::H))
(h:∀b,SL P ro K w0 N ops Hs items Q D ((t,vP b 0)::l) (AK b (.cells #[v] ty)::H)):SL P ro K w0 N ops Hs (.cons (false,o) items) Q D l H:=
 Bc ho hx (by rw[hv];exact hs) (by rw[hv];exact h)
theorem Du{b off:Nat}{c:Array Value}{e ty:TypeId}(i:Nat)(ho:At0 ops l o (.store ty x y))(hx:Bj l x=some (vP b off))(hy:Bj l y=some v)(hi:H[i]? = some (AK b (.cells c e)))
(hn:DH P ty=some 1)(hv:v.cells=#[v])(h1:v.oneCell'=true)(hle:Nat.ble (off+1) c.size=true)
(hs:EN Hs (H.set i (AK b (.cells (Ej c off [v]) e))))(h:SL P ro K w0 N ops Hs items Q D l (H.set i (AK b (.cells (Ej c off [v]) e)))):SL P ro K w0 N ops Hs (.cons (false,o) items) Q D l H:=
 A8 i ho hx hy hi hn (by rw[hv];rfl) (by rw[hv];simp[h1]) hle (by rw[hv];exact hs) (by rw[hv];exact h)
def ep{α:Type}(by_:Nat)(n:Int)(a:α):Option (List α):=if 0≤n∧by_*n.toNat≤281474976710656∧n≤9223372036854775807 then some (List.replicate n.toNat a)else none
theorem i4{α:Type}{by_:Nat}{n:Int}{a:α}{xs:List α}(h:ep by_ n a=some xs):n=(n.toNat:Int)∧by_*n.toNat≤281474976710656∧n.toNat≤9223372036854775807∧xs=List.replicate n.toNat a:=by
 unfold ep at h
 split at h
 rename_i hc
 exact⟨by omega,hc.2.1,by omega,(zI h).symm⟩
 cases h
theorem i3{α:Type}{enc:α→List Value}{a:α}{zv:Value}(hz:zv.cells.toList=enc a)(h1:(enc a).length=1)(n:Nat):(madeCells zv.cells (n*1)).toList=(List.replicate n a).flatMap enc:=by
 obtain⟨u,hu⟩:=List.length_eq_one_iff.1 h1
 have hs:zv.cells=#[u]:=by apply Array.ext';rw[hz,hu]
 rw[hs]
 have hrep:(List.replicate n a).flatMap enc=List.replicate n u:=by
  induction n with
  | zero=>rfl
  | succ k ih=>rw[List.replicate_succ,List.flatMap_cons,ih,hu,List.replicate_succ];rfl
 rw[hrep]
 apply List.ext_getElem
 simp[madeCells]
 intro i h2 h3
 simp[madeCells,Nat.mod_one]
theorem ZS{α:Type}{e ty:TypeId}{by_:Nat}{zv:Value}{n:Int}{a:α}{xs:List α}(hn:ep by_ n a=some xs)(enc:α→List Value)(ho:At ops N l o t (.makeSlice ty x x))(hty:P.underlying ty=some (.slice e))(hsz:DH P e=some 1)(hby:PN P e=some by_)(hze:EC P e=some zv)
(hx:Bj l x=some (vI n))(hza:zv.cells.toList=enc a)(h1:(enc a).length=1)(hzs:zv.cells.size=1)
(hs:∀v',EN Hs (AC e 1 v' enc xs::H))(h:∀v',SL P ro K w0 N ops Hs items Q D ((t,v')::l) (AC e 1 v' enc xs::H)):SL P ro K w0 N ops Hs (.cons (false,o) items) Q D l H:=by
 obtain⟨h0,hb,h63,rfl⟩:=i4 hn
 generalize n.toNat=m at h0 hb h63 hs h
 subst h0
 refine Gj (fun b=>.slice (some ⟨b,0,none⟩) m m) (fun b=>AC e 1 (.slice (some ⟨b,0,none⟩) m m) enc (List.replicate m a)::H) ho E (fun a' w ha hw=>?_) (fun b=>hs _) (fun b=>h _)
 obtain⟨ii,hii,e1,e2,e3⟩:=O6 hsz hby hze
 have hb':(ii.bytes:Int)*(m:Int)≤281474976710656:=by rw[e2,←Int.natCast_mul];omega
 have hr:=run_make (P:=P) w ty e ii zv hty hii e3 .i64 .i64 m m zO zO hb' zO
 rw[e1]at hr
 simp only[Int.toNat_natCast]at hr
 refine⟨w.heap.size,w.alloc (.cells (madeCells zv.cells (m*1)) e),?_,?_⟩
 unfold execOp
 simp only[ho.op,ha.eval hx,Sem.run_bind,hr,Result.andThen_ok,Sem.run_pure]
 have h2:=hw.alloc (.cells (madeCells zv.cells (m*1)) e)
 have hlen:((List.replicate m a).flatMap enc).length=m*1:=by simp[h1]
 refine h2.turn rfl rfl rfl (Nat.le_refl _) (fun _ _ _=>rfl) ⟨by simp[h1],.inr ⟨w.heap.size,m,_,by simp,Nat.zero_le _,h2.holds _ (List.mem_cons_self ..),by simp,by simp only[maxLen];omega,?_,?_⟩⟩ (fun k hk=>?_)
 simp[madeCells]
 rw[i3 hza h1]
 rw[List.take_of_length_le (by simp[h1])]
 have hkb:k=w.heap.size:=by simp[AC,Value.ownBlock]at hk;exact hk.symm
 subst hkb
 exact⟨.inl rfl,(h2.foot _ (List.mem_cons_self ..) _ rfl).1⟩
def My{κ α:Type}[DecidableEq κ](m:List (κ×α))(k:κ)(a:α):Option (List (κ×α)):=if m.length<9223372036854775807 then some (MP m k a)else none
theorem V6{κ α:Type}[DecidableEq κ]{m us:List (κ×α)}{k:κ}{a:α}(h:My m k a=some us):m.length<9223372036854775807∧us=MP m k a:=by
 unfold My at h
 split at h
 exact⟨by assumption,(zI h).symm⟩
 cases h
theorem QA{κ α:Type}[DecidableEq κ]{ek:κ→Value}{ev:α→Value}{m us:List (κ×α)}{k:TypeId}{b:Nat}{ty e:TypeId}{key:κ}{a:α}(i:Nat)(hn:My m key a=some us)(E9:M9 P k ek ev)(ho:At0 ops l o (.mapUpdate ty x y z))(ht:P.underlying ty=some (.map k e))(hx:Bj l x=some (.map (some b)))(hy:Bj l y=some (ek key))(hz:Bj l z=some (ev a))
(hi:H[i]? = some (Ab b ek ev m))(hs:EN Hs (H.set i (Ab b ek ev us)))(h:SL P ro K w0 N ops Hs items Q D l (H.set i (Ab b ek ev us))):SL P ro K w0 N ops Hs (.cons (false,o) items) Q D l H:=by
 obtain⟨hr,rfl⟩:=V6 hn
 exact mf i E9 ho ht hx hy hz hi hr hs h
structure bc where
 cnt:UInt64
 tag:List UInt8
 boots:UInt32
deriving DecidableEq
def gf(r:bc):List Value:=[AV r.cnt,vS r.tag,AA r.boots]
structure tP where
 act:Int
 page:UInt32
 num:Int
 txt:List UInt8
 lv:Value
 fates:List Int
structure Ah where
 off:Bool
 isCut:Bool
 lasts:Int
 counts:Int
 blocks:List (List UInt8)
 pend:List (UInt32×List UInt8)
 bad:List (UInt32×Bool)
 rcnt:UInt64
 rtag:List UInt8
 rboots:UInt32
structure A5 where
 blk:List (List UInt8)
 pnd:List (List UInt8)
 bads:List Bool
 rcnt:UInt64
 rtag:List UInt8
 rboots:UInt32
 left:Int
 off:Bool
end

section
variable {P:Program}{ro:Option Nat}{K:Nat→Prop}{w0:World}{N:Nat}{Q:DJ}{D:List Nat}{l l':Tm}{H H' Hs L:List AY}{ops:Array Oper}{items:Hx}
variable {tk:Bool}{o:Oper}{t:Nat}{v:Value}{x y z:Operand}
theorem Wu{b off n c sz:Nat}{k:IntKind}{j:Int}{ty e:TypeId}(q:Nat)(ho:At ops N l o t (.slice ty x (some z) none none))(hty:P.underlying ty=some (.slice e))(hsz:DH P e=some sz)(hx:Bj l x=some (.slice (some ⟨b,off,none⟩) n c))(hz:Bj l z=some (.int k j))
(hj:j=(q:Int))(hq:q≤n)(hqc:q<c)(h:SL P ro K w0 N ops Hs items Q D ((t,.slice (some ⟨b,off+q*sz,none⟩) (n-q) (c-q))::l) H):SL P ro K w0 N ops Hs (.cons (tk,o) items) Q D l H:=
 SL.val ho rfl (fun a w ha _=>by
  subst hj
  simp only[execOp,ho.op,Instr.sliceAt,Instr.slice,Option.map]
  simp[ha.eval hx,ha.eval hz,Aq hty,Ce hsz,Instr.sliceBounds,Instr.sliceBound,asIntOf,hq,Cf];omega) h
theorem fp{b off dl dc sl sc:Nat}{c:Array Value}{e ty ty':TypeId}{ad:Addr}(i:Nat)(news:List Value)(ho:At ops N l o t (.call { callee:=.builtin .copy,args:=#[x,y],argTypes:=#[ty,ty'] }))(hty:P.underlying ty=some (.slice e))(hsz:DH P e=some 1)
(hx:Bj l x=some (.slice (some ⟨b,off,none⟩) dl dc))(hy:Bj l y=some (.slice (some ad) sl sc))(hi:H[i]? = some (AK b (.cells c e)))
(hn:news.length=Nat.min sl dl)(hnews:∀w,GQ K w0 H w→∀j u,news[j]? = some u→w.cell? (ad.add j)=some u)(h1:∀u∈news,u.oneCell'=true)(hle:off+news.length≤c.size)
(hs:EN Hs (H.set i (AK b (.cells (Ej c off news) e))))(h:SL P ro K w0 N ops Hs items Q D ((t,vI news.length)::l) (H.set i (AK b (.cells (Ej c off news) e)))):SL P ro K w0 N ops Hs (.cons (false,o) items) Q D l H:=
 Gj (fun _:Unit=>vI news.length) (fun _=>H.set i (AK b (.cells (Ej c off news) e))) ho rfl (fun a w ha hw=>by
  have hb:w.heap[b]? = some (.cells c e (0,0)):=hw.holds _ (List.mem_append_left _ (List.mem_of_getElem? hi))
  obtain⟨w',hrun,hw'⟩:=Lx (P:=P) news off 0 c w hb (by simpa using hle) h1
  have hl:=run_loadCells_list (P:=P) w ad news (hnews w hw.dropMarks.s)
  have hs1:=Ce (w:=w) hsz
  refine⟨(),w',?_,?_⟩
  unfold execOp
  simp only[ho.op,resolve,Sem.run_bind,Sem.run_pure,Result.andThen_ok,invoke]
  simp only[List.map_toArray,List.map_cons,List.map_nil,ha.eval hx,ha.eval hy]
  simp[builtin,Builtin.copy_,Aq hty,Builtin.lenOf,Builtin.firstCells,hs1,←hn,hl,hrun,goInt]
  rw[hw']
  exact hw.putAt i hi) (fun _=>hs) (fun _=>h)
theorem iM{α:Type}{b n:Nat}{c:Array Value}{e:TypeId}(enc:α→List Value)(sz:Nat)(xs:List α)(hn:xs.length=n)(hc:c.toList=xs.flatMap enc)(hl:∀x,(enc x).length=sz)(hm:n≤1000000)
(h:SL P ro K w0 N ops Hs items Q D l (AC e sz (.slice (some ⟨b,0,none⟩) n n) enc xs::H)):SL P ro K w0 N ops Hs items Q D l (AK b (.cells c e)::H):=by
 subst hn
 exact CF enc sz xs hc hl (Nat.ble_eq_true_of_le hm) h
end

section
variable {P:Program}{ro:Option Nat}{K:Nat→Prop}{w0:World}{N:Nat}{Q:DJ}{D:List Nat}{l l':Tm}{H H' Hs L:List AY}{ops:Array Oper}{items:Hx}
def N0(P:Program)(K:Nat→Prop)(w0:World)(f:FuncId)(cap:List Value)(Hit G0:List AY){α:Type}(enc:α→List Value)(xs:List α):Prop:=
 ∀(lp:Nat) (J9:List α→List AY→Prop) (X:List AY→Prop) (T:List AY) (rc:AY),
  (∀pre x suf,xs=pre++x::suf→∀G,J9 pre G→∀M,jy P K w0 lp (enc x) (G++M) fun b G'=>∃G1,G'=G1++M∧(if b then J9 (pre++[x]) G1 else X G1))→
  J9 [] (rc::G0)→Td P K w0 f (vY lp::cap) (Hit++(rc::G0)) T fun _ M=>J9 xs M∨X M
theorem MH{α:Type}{g:Operand}{ps:Array Tmp}{assign body:Code}{f:FuncId}{cap:List Value}{Hit:List AY}{enc:α→List Value}(xs:List α){G0:List AY}
(J9:List α→List AY→Prop)(X:Code→List AY→Prop)
(hg:Bj l g=some (.func (.func f) #[] cap.toArray))(hf:AM P f=true)(hps:ps.toList.all (fun p=>Nat.blt p N)=true)(hlen:∀x,(enc x).length=ps.size)
(hseq:N0 P K w0 f cap Hit G0 enc xs)(hH:H=Hit++G0)(h0:J9 [] G0)
(hbody:∀pre x suf G,xs=pre++x::suf→J9 pre G→∀r lp Rest,SX P (some lp) K w0 N assign (bgn P lp body (fL K w0 J9 X pre x (Tl r lp Rest .busy))) [] (Q5 ps.toList (enc x) l) (G++Tl r lp Rest .ready))
(hdone:∀G D,J9 xs G→SQ K w0 N Q .normal D l G)
(hstop:∀c G D,X c G→SX P none K w0 N c Q D l G):SX P none K w0 N (.rangeFunc g ps assign body) Q D l H:=by
 intro a w ha hw
 subst hH
 refine wpIn_rangeFunc fun fn _=>?_
 let r:Loop:={ state:=.ready,pending:=none,fn:=fn,tmps:=a.tmps,params:=ps,assign:=assign,body:=body,defers:=w.heap.size }
 refine⟨w.heap.size+1,[{ target:=.collected w.heap.size,args:=#[] }],(w.alloc (.deferred (some []))).alloc (.loop r),{ target:=.fn (.func f) cap.toArray,args:=#[vY (w.heap.size+1)] },(w.alloc (.deferred (some []))).alloc (.loop r),
  f,(vY (w.heap.size+1)::cap).toArray,(w.alloc (.deferred (some []))).alloc (.loop r),?_,?_,fun _ _=>NH _ _,?_,fun hd=>by simp[Oa]at hd,?_⟩
 rw[MF];exact run_enterLoop_outer fn a.tmps ps assign body
 have hev:=ha.vals.eval hg
 simp[resolve,hev,Deferred.ofValue]
 rfl
 simp[invoke,Le hf]
 
 generalize hlp:w.heap.size+1=lp
 have hw1:BW K w0 ((Hit++(Tl r lp [] .ready++G0))++[BT (w.heap.size::D)]) ((w.alloc (.deferred (some []))).alloc (.loop r)):=by
  have h1:=(hw.alloc (.deferred (some []))).alloc (.loop r)
  rw[World.size_alloc,hlp]at h1
  
  have hm:BW K w0 (BT (w.heap.size::D)::AK lp (.loop r)::(Hit++G0)) ((w.alloc (.deferred (some []))).alloc (.loop r)):=by
   have hp:(AK lp (.loop r)::AK w.heap.size (.deferred (some []))::(Hit++G0++[BT D])).Perm (AK w.heap.size (.deferred (some []))::BT D::AK lp (.loop r)::(Hit++G0)):=by
    refine(List.Perm.swap _ _ _).trans (List.Perm.cons _ ?_)
    refine(List.Perm.cons _ (List.perm_append_comm (l₁:=Hit++G0) (l₂:=[BT D]))).trans ?_
    exact List.Perm.swap _ _ _
   have h2:=h1.perm hp
   have hpw:=List.pairwise_cons.1 h2.disj
   have hpw2:=List.pairwise_cons.1 hpw.2
   have hmk:=h2.holds (BT D) zS
   have hnew:=h2.holds (AK w.heap.size (.deferred (some []))) (List.mem_cons_self ..)
   refine⟨h2.os,h2.tape,h2.output,h2.size,h2.klt,h2.keep,?_,?_,?_⟩
   intro c hc
   rcases List.mem_cons.1 hc with rfl | hc
   refine⟨List.nodup_cons.2 ⟨fun hin=>hpw.1 (BT D) zS _ rfl hin,hmk.1⟩,fun b hb=>?_⟩
   rcases List.mem_cons.1 hb with rfl | hb
   exact hnew
   exact hmk.2 b hb
   exact h2.holds c (by simp only[List.mem_cons]at hc ⊢;exact .inr (.inr hc))
   intro c hc b hb
   rcases List.mem_cons.1 hc with rfl | hc
   rcases List.mem_cons.1 hb with rfl | hb
   exact h2.foot (AK w.heap.size (.deferred (some []))) (List.mem_cons_self ..) _ rfl
   exact h2.foot (BT D) zS b hb
   exact h2.foot c (by simp only[List.mem_cons]at hc ⊢;exact .inr (.inr hc)) b hb
   refine List.pairwise_cons.2 ⟨fun c hc b hb hb'=>?_,hpw2.2⟩
   rcases List.mem_cons.1 hb with rfl | hb
   exact hpw.1 c (List.mem_cons_of_mem _ hc) _ rfl hb'
   exact hpw2.1 c hc b hb hb'
  refine hm.perm ?_
  have e:Tl r lp [] .ready=[AK lp (.loop r)]:=rfl
  rw[e]
  refine(List.perm_append_comm (l₁:=[BT (w.heap.size::D)])).trans (List.Perm.append_right _ ?_)
  simpa using(List.perm_middle (l₁:=Hit) (a:=AK lp (.loop r)) (l₂:=G0)).symm
 have hN:∀p∈ps.toList,p<a.tmps.size:=fun p hp=>by
  rw[ha.size]
  exact HY (List.all_eq_true.1 hps p hp)
 let D':=w.heap.size::D
 have hcon:=hseq lp (fun pre Gx=>∃G,J9 pre G∧Gx=Tl r lp [] .ready++G) (fun Gx=>∃c G,X c G∧Gx=AK lp (.loop { r with state:=.done,pending:=some c })::G) [BT D'] (AK lp (.loop { r with state:=.ready,pending:=none })) ?_ ⟨G0,h0,rfl⟩
 refine P7 none ((hcon _ hw1).mono ?_)
 rintro e w' ⟨v,M,rfl,hM,hw'⟩
 have hD:MI N D' l { tmps:=a.tmps,defers:=[{ target:=.collected w.heap.size,args:=#[] }]++a.defers }:=⟨ha.size,by simp[ha.defers,D',Y3],ha.vals⟩
 rcases hM with⟨G,hJ,rfl⟩ | ⟨c,G,hX,rfl⟩
 have hl:w'.heap[lp]? = some (.loop { r with state:=.ready,pending:=none }):=hw'.holds (AK lp _) (by simp[Tl])
 refine⟨_,_,run_endLoop hl zS,?_⟩
 refine hdone G D' hJ _ _ hD ?_
 have h3:=(show BW K w0 (AK lp (.loop { r with state:=.ready,pending:=none })::(G++[BT D'])) w' from hw').put (o':=.loop { r with state:=.exhausted,pending:=none })
 exact h3.sublist (List.sublist_cons_self _ _)
 have hl:w'.heap[lp]? = some (.loop { r with state:=.done,pending:=some c }):=hw'.holds (AK lp _) zS
 refine⟨_,_,run_endLoop hl zS,?_⟩
 refine hstop c G D' hX _ _ hD ?_
 have h3:=(show BW K w0 (AK lp (.loop { r with state:=.done,pending:=some c })::(G++[BT D'])) w' from hw').put (o':=.loop { r with state:=.exhausted,pending:=some c })
 exact h3.sublist (List.sublist_cons_self _ _)
 
 rintro pre x suf hxs Gx ⟨G,hJ,rfl⟩ M w₁ hw₁
 have hl:w₁.heap[lp]? = some (.loop { r with state:=.ready,pending:=none }):=hw₁.holds (AK lp _) (by simp[Tl])
 refine⟨_,_,_,_,run_yield hl (by simp[hlen];rfl),?_⟩
 refine roundIn_of_wpIn trivial ?_
 have hw₂:BW K w0 ((G++Tl r lp M .ready)++[BT []]) w₁:=by
  refine BW.marks0 (hw₁.perm ?_)
  show(AK lp _::(G++M)).Perm (G++AK lp _::M)
  exact List.perm_middle.symm
 have hzip:((ps.zip (enc x).toArray).foldl (fun tmps (t,a)=>tmps.setIfInBounds t a) a.tmps)=((ps.toList.zip (enc x)).foldl (fun tm (t,a)=>tm.setIfInBounds t a) a.tmps):=by
  rw[←Array.foldl_toList,Array.toList_zip]
 have hb:=hbody pre x suf G hxs hJ r lp M { tmps:=(ps.zip (enc x).toArray).foldl (fun tmps (t,a)=>tmps.setIfInBounds t a) a.tmps,defers:=[] } w₁
  ⟨by rw[hzip,JP];exact ha.size,rfl,by rw[hzip];exact QS ps.toList (enc x) l a.tmps hN ha.vals⟩ hw₂
 refine wpIn_mono hb ?_
 intro e a' w' q
 cases e with
 | normal=>
  obtain⟨w₃,hbr,hbody'⟩:=q
  refine⟨w₃,hbr,wpIn_mono hbody' ?_⟩
  have fin:∀(jump:Option Code) (G':List AY) (w₄:World),BW K w0 (G'++Tl r lp M .busy) w₄→
    (Instr.endRound lp jump).run P w₄=.ok (.bool jump.isNone) (w₄.putObj lp (.loop { r with state:=if jump.isNone then .ready else .done,pending:=jump }))∧
    BW K w0 ((AK lp (.loop { r with state:=if jump.isNone then .ready else .done,pending:=jump })::G')++M) (w₄.putObj lp (.loop { r with state:=if jump.isNone then .ready else .done,pending:=jump })):=by
   intro jump G' w₄ h4
   have hl4:w₄.heap[lp]? = some (.loop { r with state:=.busy,pending:=none }):=h4.holds (AK lp _) (by simp[Tl])
   refine⟨run_endRound (r:={ r with state:=.busy,pending:=none }) jump hl4,?_⟩
   have h5:BW K w0 (AK lp (.loop { r with state:=.busy,pending:=none })::(G'++M)) w₄:=h4.perm List.perm_middle
   exact h5.put
  intro e₂ a₂ w₄ q₂
  cases e₂ with
  | normal=>
   obtain⟨G',hJ',h4⟩:=q₂
   obtain⟨hrun,h5⟩:=fin none G' w₄ h4
   exact⟨_,_,hrun,_,_,rfl,⟨_,rfl,by simp only[Option.isNone_none,if_true];exact⟨G',hJ',rfl⟩⟩,h5⟩
  | ret=>
   obtain⟨G',hX',h4⟩:=q₂
   obtain⟨hrun,h5⟩:=fin (some .ret) G' w₄ h4
   exact⟨_,_,hrun,_,_,rfl,⟨_,rfl,by simp only[Option.isNone_some,Bool.false_eq_true,if_false];exact⟨_,G',hX',rfl⟩⟩,h5⟩
  | exit id=>
   obtain⟨G',hX',h4⟩:=q₂
   obtain⟨hrun,h5⟩:=fin (some (.exit id)) G' w₄ h4
   exact⟨_,_,hrun,_,_,rfl,⟨_,rfl,by simp only[Option.isNone_some,Bool.false_eq_true,if_false];exact⟨_,G',hX',rfl⟩⟩,h5⟩
  | goto _=>exact q₂.elim
  | panic _=>exact q₂.elim
  | outgrown=>exact q₂.elim
 | exit _=>exact q.elim
 | goto _=>exact q.elim
 | ret=>exact q.elim
 | panic _=>exact q.elim
 | outgrown=>exact q.elim
def Uw{α σ R:Type}(body:(σ→Option R)→α→σ→Option R)(fin:σ→Option R):List α→σ→Option R
 | [],s=>fin s
 | x::r,s=>body (Uw body fin r) x s
theorem Wj{α:Type}{xs pre suf suf':List α}{x:α}(h:xs=pre++x::suf)(h':xs=(pre++[x])++suf'):suf'=suf:=by
 rw[h,List.append_assoc]at h'
 simpa using(List.append_cancel_left h').symm
end

section
variable {P:Program}{ro:Option Nat}{K:Nat→Prop}{w0:World}{N:Nat}{Q:DJ}{D:List Nat}{l l':Tm}{H H' Hs L:List AY}{ops:Array Oper}{items:Hx}
variable {tk:Bool}{o:Oper}{t:Nat}{v:Value}{x y z:Operand}
def tR(j:Int)(n:Nat):Option Unit:=if j<(n:Int)then some ()else none
theorem Wp{ty e:TypeId}{sz:Nat}(ho:At ops N l o t (.buildSlice ty 0 #[]))(hty:P.underlying ty=some (.slice e))(hsz:DH P e=some sz)(hs:∀b,EN Hs (AK b (.cells #[] e)::H))
(h:∀b,SL P ro K w0 N ops Hs items Q D ((t,.slice (some ⟨b,0,none⟩) 0 0)::l) (AK b (.cells #[] e)::H)):SL P ro K w0 N ops Hs (.cons (false,o) items) Q D l H:=
 Gj (fun b=>.slice (some ⟨b,0,none⟩) 0 0) (fun b=>AK b (.cells #[] e)::H) ho rfl (fun a w ha hw=>by
  refine⟨w.heap.size,w.alloc (.cells #[] e),?_,by exact hw.alloc _⟩
  unfold execOp
  simp only[ho.op,Instr.buildSlice,Sem.run_bind,Aq hty,Result.andThen_ok,Ce hsz,Nat.zero_mul,if_neg (show ¬(0>2^24) by omega),if_true,Sem.run_pure,show(Array.range 0)=(#[]:Array Nat)from rfl,List.map_toArray,List.map_nil,Array.map_empty,Instr.fill,newRow,run_newObj]
  rfl) hs h
def VM(pl:List (Nat×Nat)):Array Value→List (Nat×Array Value)→Option (Array Value)
 | c,[]=>some c
 | c,(i,u)::r=>
  match pl[i]? with
  | none=>none
  | some (off,size)=>bif Nat.beq u.size size&&Nat.ble (off+u.size) c.size then VM pl (Ej c off u.toList) r else none
theorem cY(pl:List (Nat×Nat)):∀(is:List Nat) (vs:List Value) (c:Array Value),Pr pl c (is.zip vs)=VM pl c (is.zip (vs.map Value.cells))
 | [],vs,c=>by simp[Pr,VM]
 | i::is,[],c=>by simp[Pr,VM]
 | i::is,v::vs,c=>by
  simp only[List.zip_cons_cons,List.map_cons,Pr,VM]
  cases hi:pl[i]? with
  | none=>rfl
  | some p=>
   obtain⟨off,size⟩:=p
   simp only[cY pl is vs]
theorem Rk{ty:TypeId}{parts:Array (Nat×Operand)}{pl:List (Nat×Nat)}{zv:Value}{r:Array Value}(vs:List Value)(css:List (Array Value))(hc:vs.map Value.cells=css)(ho:At ops N l o t (.build ty parts))(hp:Lc P ty=some pl)(hk:Ld P ty=true)(hz:EC P ty=some zv)
(hv:Yb l (parts.toList.map (·.2)) vs)(hf:VM pl zv.cells ((parts.toList.map (·.1)).zip css)=some r)(h:SL P ro K w0 N ops Hs items Q D ((t,.agg r)::l) H):SL P ro K w0 N ops Hs (.cons (tk,o) items) Q D l H:=
 CB vs ho hp hk hz hv (by rw[cY,hc];exact hf) h
def ZU(P:Program)(K:Nat→Prop)(w0:World)(f:FuncId)(cap:List Value)(Hit G0:List AY){α:Type}(enc:α→List Value)(xs:List α):Prop:=
 ∀(lp:Nat) (J9:List α→List AY→Prop) (X:List AY→Prop) (T:List AY) (rc:AY),(∀pre G,J9 pre G→pre=[])→
  (∀pre x suf,xs=pre++x::suf→∀G,J9 pre G→∀M,jy P K w0 lp (enc x) (G++M) fun b G'=>∃G1,G'=G1++M∧(if b then J9 (pre++[x]) G1 else X G1))→
  J9 [] (rc::G0)→Td P K w0 f (vY lp::cap) (Hit++(rc::G0)) T fun _ M=>J9 xs M∨X M
theorem ZT{α:Type}{g:Operand}{ps:Array Tmp}{assign body:Code}{f:FuncId}{cap:List Value}{Hit:List AY}{enc:α→List Value}(xs:List α){G0:List AY}
(J9:List α→List AY→Prop)(X:Code→List AY→Prop)
(hg:Bj l g=some (.func (.func f) #[] cap.toArray))(hf:AM P f=true)(hps:ps.toList.all (fun p=>Nat.blt p N)=true)(hlen:∀x,(enc x).length=ps.size)
(hseq:ZU P K w0 f cap Hit G0 enc xs)(hH:H=Hit++G0)(h0:J9 [] G0)(hJ1:∀pre G,J9 pre G→pre=[])
(hbody:∀pre x suf G,xs=pre++x::suf→J9 pre G→∀r lp Rest,SX P (some lp) K w0 N assign (bgn P lp body (fL K w0 J9 X pre x (Tl r lp Rest .busy))) [] (Q5 ps.toList (enc x) l) (G++Tl r lp Rest .ready))
(hdone:∀G D,J9 xs G→SQ K w0 N Q .normal D l G)
(hstop:∀c G D,X c G→SX P none K w0 N c Q D l G):SX P none K w0 N (.rangeFunc g ps assign body) Q D l H:=by
 intro a w ha hw
 subst hH
 refine wpIn_rangeFunc fun fn _=>?_
 let r:Loop:={ state:=.ready,pending:=none,fn:=fn,tmps:=a.tmps,params:=ps,assign:=assign,body:=body,defers:=w.heap.size }
 refine⟨w.heap.size+1,[{ target:=.collected w.heap.size,args:=#[] }],(w.alloc (.deferred (some []))).alloc (.loop r),{ target:=.fn (.func f) cap.toArray,args:=#[vY (w.heap.size+1)] },(w.alloc (.deferred (some []))).alloc (.loop r),
  f,(vY (w.heap.size+1)::cap).toArray,(w.alloc (.deferred (some []))).alloc (.loop r),?_,?_,fun _ _=>NH _ _,?_,fun hd=>by simp[Oa]at hd,?_⟩
 rw[MF];exact run_enterLoop_outer fn a.tmps ps assign body
 have hev:=ha.vals.eval hg
 simp[resolve,hev,Deferred.ofValue]
 rfl
 simp[invoke,Le hf]
 
 generalize hlp:w.heap.size+1=lp
 have hw1:BW K w0 ((Hit++(Tl r lp [] .ready++G0))++[BT (w.heap.size::D)]) ((w.alloc (.deferred (some []))).alloc (.loop r)):=by
  have h1:=(hw.alloc (.deferred (some []))).alloc (.loop r)
  rw[World.size_alloc,hlp]at h1
  
  have hm:BW K w0 (BT (w.heap.size::D)::AK lp (.loop r)::(Hit++G0)) ((w.alloc (.deferred (some []))).alloc (.loop r)):=by
   have hp:(AK lp (.loop r)::AK w.heap.size (.deferred (some []))::(Hit++G0++[BT D])).Perm (AK w.heap.size (.deferred (some []))::BT D::AK lp (.loop r)::(Hit++G0)):=by
    refine(List.Perm.swap _ _ _).trans (List.Perm.cons _ ?_)
    refine(List.Perm.cons _ (List.perm_append_comm (l₁:=Hit++G0) (l₂:=[BT D]))).trans ?_
    exact List.Perm.swap _ _ _
   have h2:=h1.perm hp
   have hpw:=List.pairwise_cons.1 h2.disj
   have hpw2:=List.pairwise_cons.1 hpw.2
   have hmk:=h2.holds (BT D) zS
   have hnew:=h2.holds (AK w.heap.size (.deferred (some []))) (List.mem_cons_self ..)
   refine⟨h2.os,h2.tape,h2.output,h2.size,h2.klt,h2.keep,?_,?_,?_⟩
   intro c hc
   rcases List.mem_cons.1 hc with rfl | hc
   refine⟨List.nodup_cons.2 ⟨fun hin=>hpw.1 (BT D) zS _ rfl hin,hmk.1⟩,fun b hb=>?_⟩
   rcases List.mem_cons.1 hb with rfl | hb
   exact hnew
   exact hmk.2 b hb
   exact h2.holds c (by simp only[List.mem_cons]at hc ⊢;exact .inr (.inr hc))
   intro c hc b hb
   rcases List.mem_cons.1 hc with rfl | hc
   rcases List.mem_cons.1 hb with rfl | hb
   exact h2.foot (AK w.heap.size (.deferred (some []))) (List.mem_cons_self ..) _ rfl
   exact h2.foot (BT D) zS b hb
   exact h2.foot c (by simp only[List.mem_cons]at hc ⊢;exact .inr (.inr hc)) b hb
   refine List.pairwise_cons.2 ⟨fun c hc b hb hb'=>?_,hpw2.2⟩
   rcases List.mem_cons.1 hb with rfl | hb
   exact hpw.1 c (List.mem_cons_of_mem _ hc) _ rfl hb'
   exact hpw2.1 c hc b hb hb'
  refine hm.perm ?_
  have e:Tl r lp [] .ready=[AK lp (.loop r)]:=rfl
  rw[e]
  refine(List.perm_append_comm (l₁:=[BT (w.heap.size::D)])).trans (List.Perm.append_right _ ?_)
  simpa using(List.perm_middle (l₁:=Hit) (a:=AK lp (.loop r)) (l₂:=G0)).symm
 have hN:∀p∈ps.toList,p<a.tmps.size:=fun p hp=>by
  rw[ha.size]
  exact HY (List.all_eq_true.1 hps p hp)
 let D':=w.heap.size::D
 have hcon:=hseq lp (fun pre Gx=>∃G,J9 pre G∧Gx=Tl r lp [] .ready++G) (fun Gx=>∃c G,X c G∧Gx=AK lp (.loop { r with state:=.done,pending:=some c })::G) [BT D'] (AK lp (.loop { r with state:=.ready,pending:=none })) (fun pre _ h=>hJ1 pre _ h.choose_spec.1) ?_ ⟨G0,h0,rfl⟩
 refine P7 none ((hcon _ hw1).mono ?_)
 rintro e w' ⟨v,M,rfl,hM,hw'⟩
 have hD:MI N D' l { tmps:=a.tmps,defers:=[{ target:=.collected w.heap.size,args:=#[] }]++a.defers }:=⟨ha.size,by simp[ha.defers,D',Y3],ha.vals⟩
 rcases hM with⟨G,hJ,rfl⟩ | ⟨c,G,hX,rfl⟩
 have hl:w'.heap[lp]? = some (.loop { r with state:=.ready,pending:=none }):=hw'.holds (AK lp _) (by simp[Tl])
 refine⟨_,_,run_endLoop hl zS,?_⟩
 refine hdone G D' hJ _ _ hD ?_
 have h3:=(show BW K w0 (AK lp (.loop { r with state:=.ready,pending:=none })::(G++[BT D'])) w' from hw').put (o':=.loop { r with state:=.exhausted,pending:=none })
 exact h3.sublist (List.sublist_cons_self _ _)
 have hl:w'.heap[lp]? = some (.loop { r with state:=.done,pending:=some c }):=hw'.holds (AK lp _) zS
 refine⟨_,_,run_endLoop hl zS,?_⟩
 refine hstop c G D' hX _ _ hD ?_
 have h3:=(show BW K w0 (AK lp (.loop { r with state:=.done,pending:=some c })::(G++[BT D'])) w' from hw').put (o':=.loop { r with state:=.exhausted,pending:=some c })
 exact h3.sublist (List.sublist_cons_self _ _)
 
 rintro pre x suf hxs Gx ⟨G,hJ,rfl⟩ M w₁ hw₁
 have hl:w₁.heap[lp]? = some (.loop { r with state:=.ready,pending:=none }):=hw₁.holds (AK lp _) (by simp[Tl])
 refine⟨_,_,_,_,run_yield hl (by simp[hlen];rfl),?_⟩
 refine roundIn_of_wpIn trivial ?_
 have hw₂:BW K w0 ((G++Tl r lp M .ready)++[BT []]) w₁:=by
  refine BW.marks0 (hw₁.perm ?_)
  show(AK lp _::(G++M)).Perm (G++AK lp _::M)
  exact List.perm_middle.symm
 have hzip:((ps.zip (enc x).toArray).foldl (fun tmps (t,a)=>tmps.setIfInBounds t a) a.tmps)=((ps.toList.zip (enc x)).foldl (fun tm (t,a)=>tm.setIfInBounds t a) a.tmps):=by
  rw[←Array.foldl_toList,Array.toList_zip]
 have hb:=hbody pre x suf G hxs hJ r lp M { tmps:=(ps.zip (enc x).toArray).foldl (fun tmps (t,a)=>tmps.setIfInBounds t a) a.tmps,defers:=[] } w₁
  ⟨by rw[hzip,JP];exact ha.size,rfl,by rw[hzip];exact QS ps.toList (enc x) l a.tmps hN ha.vals⟩ hw₂
 refine wpIn_mono hb ?_
 intro e a' w' q
 cases e with
 | normal=>
  obtain⟨w₃,hbr,hbody'⟩:=q
  refine⟨w₃,hbr,wpIn_mono hbody' ?_⟩
  have fin:∀(jump:Option Code) (G':List AY) (w₄:World),BW K w0 (G'++Tl r lp M .busy) w₄→
    (Instr.endRound lp jump).run P w₄=.ok (.bool jump.isNone) (w₄.putObj lp (.loop { r with state:=if jump.isNone then .ready else .done,pending:=jump }))∧
    BW K w0 ((AK lp (.loop { r with state:=if jump.isNone then .ready else .done,pending:=jump })::G')++M) (w₄.putObj lp (.loop { r with state:=if jump.isNone then .ready else .done,pending:=jump })):=by
   intro jump G' w₄ h4
   have hl4:w₄.heap[lp]? = some (.loop { r with state:=.busy,pending:=none }):=h4.holds (AK lp _) (by simp[Tl])
   refine⟨run_endRound (r:={ r with state:=.busy,pending:=none }) jump hl4,?_⟩
   have h5:BW K w0 (AK lp (.loop { r with state:=.busy,pending:=none })::(G'++M)) w₄:=h4.perm List.perm_middle
   exact h5.put
  intro e₂ a₂ w₄ q₂
  cases e₂ with
  | normal=>
   obtain⟨G',hJ',h4⟩:=q₂
   obtain⟨hrun,h5⟩:=fin none G' w₄ h4
   exact⟨_,_,hrun,_,_,rfl,⟨_,rfl,by simp only[Option.isNone_none,if_true];exact⟨G',hJ',rfl⟩⟩,h5⟩
  | ret=>
   obtain⟨G',hX',h4⟩:=q₂
   obtain⟨hrun,h5⟩:=fin (some .ret) G' w₄ h4
   exact⟨_,_,hrun,_,_,rfl,⟨_,rfl,by simp only[Option.isNone_some,Bool.false_eq_true,if_false];exact⟨_,G',hX',rfl⟩⟩,h5⟩
  | exit id=>
   obtain⟨G',hX',h4⟩:=q₂
   obtain⟨hrun,h5⟩:=fin (some (.exit id)) G' w₄ h4
   exact⟨_,_,hrun,_,_,rfl,⟨_,rfl,by simp only[Option.isNone_some,Bool.false_eq_true,if_false];exact⟨_,G',hX',rfl⟩⟩,h5⟩
  | goto _=>exact q₂.elim
  | panic _=>exact q₂.elim
  | outgrown=>exact q₂.elim
 | exit _=>exact q.elim
 | goto _=>exact q.elim
 | ret=>exact q.elim
 | panic _=>exact q.elim
 | outgrown=>exact q.elim
end

section
structure BV where
 page:UInt32
 tag:List UInt8
deriving DecidableEq
def B0(r:BV):List Value:=[AA r.page,vS r.tag]
structure Az where
 ring:List BP
 gen:UInt32
 boot:UInt32
 seals:UInt64
 taken:List (UInt32×Bool)
structure Bb where
 ring:List BP
 gen:UInt32
 boot:UInt32
 num:UInt64
 taken:List Bool
end

section
open Go Go.ChangeShapes Go.WideShapes Go.ChangeAt Go.RowKit Go.Deep Go.Lib Go.Joins
section
variable {G:Type}{enc:TypeId×Value→G}{P:Program}{W:World}
end
end
end Go.Proofs.YtjkhnhichalenaaGreatDoor
