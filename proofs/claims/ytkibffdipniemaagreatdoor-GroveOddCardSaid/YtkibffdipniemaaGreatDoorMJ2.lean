/- The texts T0, C0, C1, A0, D0, D1, D2, D3, B0, B1, D4, E0, E1, G0, G1, G2, H0, H1, I0, I1, R1, R2, X0, R3, V0, S14, S15, S16, S17, one behind the other: walks of the program, and plain laws of what it computes. Conditions: as each theorem says. -/
import Derived.Test.YtkibffdipniemaaGreatDoorMJ1
import Derived.Test.YtkibffdipniemaaGreatDoorChecked
import Derived.Maps.Range

set_option linter.unusedVariables false
set_option linter.unusedSimpArgs false
set_option maxHeartbeats 4000000
set_option maxRecDepth 100000
namespace Go.Proofs.YtkibffdipniemaaGreatDoor
open Go
section
abbrev zC:=UJ Tryz.prog
set_option maxRecDepth 100000
theorem Ca:Tryz.prog.follows .mixedOrders=true:=zK
theorem Ju:PA Tryz.prog 138=some 2:=zK
theorem C6:PA Tryz.prog 143=some 4:=zK
theorem FE:PA Tryz.prog 148=some 8:=zK
theorem sS:PA Tryz.prog 159=some 4:=zK
theorem cj:PA Tryz.prog 251=some 2:=zK
theorem n8:PA Tryz.prog 255=some 4:=zK
theorem ij:PA Tryz.prog 265=some 16:=zK
theorem sR:PA Tryz.prog 272=some 8:=zK
theorem t9:PA Tryz.prog 274=some 10:=zK
theorem iN:PA Tryz.prog 288=some 4:=zK
theorem mS:PA Tryz.prog 296=some 64:=zK
theorem sn:PA Tryz.prog 298=some 2:=zK
theorem Cf:PA Tryz.prog 31=some 2:=zK
theorem Eg:PA Tryz.prog 54=some 3:=zK
theorem MK:PA Tryz.prog 57=some 5:=zK
theorem i6:PA Tryz.prog 72=some 3:=zK
theorem Eo:PA Tryz.prog 79=some 4:=zK
theorem oK:PD Tryz.prog 138=some 24:=zK
theorem TP:PD Tryz.prog 29=some 4:=zK
theorem en:PD Tryz.prog 31=some 24:=zK
theorem uS:PD Tryz.prog 35=some 24:=zK
theorem uQ:PD Tryz.prog 4=some 1:=zK
theorem Vs:PD Tryz.prog 5=some 1:=zK
theorem fB:PD Tryz.prog 57=some 64:=zK
theorem jm:PD Tryz.prog 72=some 40:=zK
theorem Oq:PD Tryz.prog 79=some 32:=zK
theorem pF:PD Tryz.prog 9=some 16:=zK
theorem oa:AS Tryz.prog 100=true:=zK
theorem U8:AS Tryz.prog 101=true:=zK
theorem W5:AS Tryz.prog 102=true:=zK
theorem OK:AS Tryz.prog 103=true:=zK
theorem dW:AS Tryz.prog 104=true:=zK
theorem qI:AS Tryz.prog 105=true:=zK
theorem dD:AS Tryz.prog 106=true:=zK
theorem pf:AS Tryz.prog 107=true:=zK
theorem jO:AS Tryz.prog 108=true:=zK
theorem js:AS Tryz.prog 109=true:=zK
theorem rK:AS Tryz.prog 11=true:=zK
theorem bK:AS Tryz.prog 110=true:=zK
theorem j0:AS Tryz.prog 111=true:=zK
theorem dV:AS Tryz.prog 112=true:=zK
theorem pP:AS Tryz.prog 113=true:=zK
theorem qE:AS Tryz.prog 114=true:=zK
theorem pG:AS Tryz.prog 115=true:=zK
theorem dU:AS Tryz.prog 116=true:=zK
theorem bu:AS Tryz.prog 117=true:=zK
theorem pV:AS Tryz.prog 118=true:=zK
theorem bX:AS Tryz.prog 119=true:=zK
theorem oP:AS Tryz.prog 12=true:=zK
theorem oZ:AS Tryz.prog 120=true:=zK
theorem pY:AS Tryz.prog 121=true:=zK
theorem jP:AS Tryz.prog 122=true:=zK
theorem jZ:AS Tryz.prog 123=true:=zK
theorem XI:AS Tryz.prog 124=true:=zK
theorem oz:AS Tryz.prog 125=true:=zK
theorem rB:AS Tryz.prog 126=true:=zK
theorem ot:AS Tryz.prog 127=true:=zK
theorem qg:AS Tryz.prog 128=true:=zK
theorem qY:AS Tryz.prog 129=true:=zK
theorem mY:AS Tryz.prog 13=true:=zK
theorem bR:AS Tryz.prog 130=true:=zK
theorem pg:AS Tryz.prog 131=true:=zK
theorem pA:AS Tryz.prog 132=true:=zK
theorem q9:AS Tryz.prog 133=true:=zK
theorem jK:AS Tryz.prog 134=true:=zK
theorem pI:AS Tryz.prog 135=true:=zK
theorem pz:AS Tryz.prog 136=true:=zK
theorem og:AS Tryz.prog 137=true:=zK
theorem qH:AS Tryz.prog 138=true:=zK
theorem dA:AS Tryz.prog 139=true:=zK
theorem tN:AS Tryz.prog 14=true:=zK
theorem Ub:AS Tryz.prog 140=true:=zK
theorem pH:AS Tryz.prog 142=true:=zK
theorem bF:AS Tryz.prog 144=true:=zK
theorem qh:AS Tryz.prog 145=true:=zK
theorem p9:AS Tryz.prog 146=true:=zK
theorem qc:AS Tryz.prog 147=true:=zK
theorem qj:AS Tryz.prog 148=true:=zK
theorem ji:AS Tryz.prog 149=true:=zK
theorem nM:AS Tryz.prog 15=true:=zK
theorem ob:AS Tryz.prog 150=true:=zK
theorem XD:AS Tryz.prog 151=true:=zK
theorem W9:AS Tryz.prog 152=true:=zK
theorem bM:AS Tryz.prog 153=true:=zK
theorem jS:AS Tryz.prog 154=true:=zK
theorem i7:AS Tryz.prog 155=true:=zK
theorem i8:AS Tryz.prog 156=true:=zK
theorem qm:AS Tryz.prog 157=true:=zK
theorem j8:AS Tryz.prog 158=true:=zK
theorem dC:AS Tryz.prog 159=true:=zK
theorem ta:AS Tryz.prog 16=true:=zK
theorem pE:AS Tryz.prog 160=true:=zK
theorem oX:AS Tryz.prog 161=true:=zK
theorem Ie:AS Tryz.prog 162=true:=zK
theorem ju:AS Tryz.prog 163=true:=zK
theorem pn:AS Tryz.prog 164=true:=zK
theorem jM:AS Tryz.prog 165=true:=zK
theorem pX:AS Tryz.prog 166=true:=zK
theorem pC:AS Tryz.prog 167=true:=zK
theorem cD:AS Tryz.prog 168=true:=zK
theorem qR:AS Tryz.prog 169=true:=zK
theorem mg:AS Tryz.prog 17=true:=zK
theorem MW:AS Tryz.prog 170=true:=zK
theorem jV:AS Tryz.prog 171=true:=zK
theorem qb:AS Tryz.prog 172=true:=zK
theorem qr:AS Tryz.prog 173=true:=zK
theorem pp:AS Tryz.prog 174=true:=zK
theorem pv:AS Tryz.prog 175=true:=zK
theorem Q1:AS Tryz.prog 176=true:=zK
theorem jg:AS Tryz.prog 177=true:=zK
theorem Mg:AS Tryz.prog 178=true:=zK
theorem pq:AS Tryz.prog 179=true:=zK
theorem oN:AS Tryz.prog 18=true:=zK
theorem i9:AS Tryz.prog 180=true:=zK
theorem pB:AS Tryz.prog 181=true:=zK
theorem cz:AS Tryz.prog 182=true:=zK
theorem oq:AS Tryz.prog 183=true:=zK
theorem qs:AS Tryz.prog 184=true:=zK
theorem pN:AS Tryz.prog 187=true:=zK
theorem pL:AS Tryz.prog 188=true:=zK
theorem qq:AS Tryz.prog 189=true:=zK
theorem t0:AS Tryz.prog 19=true:=zK
theorem jN:AS Tryz.prog 190=true:=zK
theorem oW:AS Tryz.prog 191=true:=zK
theorem ja:AS Tryz.prog 192=true:=zK
theorem qJ:AS Tryz.prog 193=true:=zK
theorem pb:AS Tryz.prog 194=true:=zK
theorem qo:AS Tryz.prog 195=true:=zK
theorem Sp:AS Tryz.prog 196=true:=zK
theorem pr:AS Tryz.prog 197=true:=zK
theorem om:AS Tryz.prog 198=true:=zK
theorem qA:AS Tryz.prog 199=true:=zK
theorem jr:AS Tryz.prog 200=true:=zK
theorem qB:AS Tryz.prog 201=true:=zK
theorem q8:AS Tryz.prog 202=true:=zK
theorem dX:AS Tryz.prog 203=true:=zK
theorem qX:AS Tryz.prog 204=true:=zK
theorem qO:AS Tryz.prog 205=true:=zK
theorem cN:AS Tryz.prog 206=true:=zK
theorem qa:AS Tryz.prog 207=true:=zK
theorem jW:AS Tryz.prog 208=true:=zK
theorem qC:AS Tryz.prog 209=true:=zK
theorem m0:AS Tryz.prog 21=true:=zK
theorem pO:AS Tryz.prog 210=true:=zK
theorem oh:AS Tryz.prog 211=true:=zK
theorem qS:AS Tryz.prog 212=true:=zK
theorem jh:AS Tryz.prog 213=true:=zK
theorem jp:AS Tryz.prog 214=true:=zK
theorem pD:AS Tryz.prog 215=true:=zK
theorem ol:AS Tryz.prog 216=true:=zK
theorem qU:AS Tryz.prog 217=true:=zK
theorem PU:AS Tryz.prog 218=true:=zK
theorem NW:AS Tryz.prog 219=true:=zK
theorem sV:AS Tryz.prog 22=true:=zK
theorem o9:AS Tryz.prog 220=true:=zK
theorem qu:AS Tryz.prog 221=true:=zK
theorem pU:AS Tryz.prog 222=true:=zK
theorem XC:AS Tryz.prog 223=true:=zK
theorem ov:AS Tryz.prog 224=true:=zK
theorem pS:AS Tryz.prog 225=true:=zK
theorem qQ:AS Tryz.prog 226=true:=zK
theorem cE:AS Tryz.prog 227=true:=zK
theorem pW:AS Tryz.prog 228=true:=zK
theorem Nc:AS Tryz.prog 229=true:=zK
theorem uA:AS Tryz.prog 23=true:=zK
theorem pj:AS Tryz.prog 230=true:=zK
theorem j7:AS Tryz.prog 231=true:=zK
theorem jJ:AS Tryz.prog 232=true:=zK
theorem ph:AS Tryz.prog 233=true:=zK
theorem XJ:AS Tryz.prog 234=true:=zK
theorem qL:AS Tryz.prog 235=true:=zK
theorem oR:AS Tryz.prog 25=true:=zK
theorem rf:AS Tryz.prog 26=true:=zK
theorem sM:AS Tryz.prog 34=true:=zK
theorem r7:AS Tryz.prog 40=true:=zK
theorem rg:AS Tryz.prog 41=true:=zK
theorem rZ:AS Tryz.prog 42=true:=zK
theorem lM:AS Tryz.prog 43=true:=zK
theorem tT:AS Tryz.prog 44=true:=zK
theorem se:AS Tryz.prog 45=true:=zK
theorem sa:AS Tryz.prog 46=true:=zK
theorem tP:AS Tryz.prog 47=true:=zK
theorem nl:AS Tryz.prog 48=true:=zK
theorem tK:AS Tryz.prog 49=true:=zK
theorem cg:AS Tryz.prog 50=true:=zK
theorem sw:AS Tryz.prog 51=true:=zK
theorem sm:AS Tryz.prog 52=true:=zK
theorem iz:AS Tryz.prog 53=true:=zK
theorem gW:AS Tryz.prog 54=true:=zK
theorem tc:AS Tryz.prog 55=true:=zK
theorem oQ:AS Tryz.prog 56=true:=zK
theorem tG:AS Tryz.prog 57=true:=zK
theorem sG:AS Tryz.prog 58=true:=zK
theorem tI:AS Tryz.prog 59=true:=zK
theorem rQ:AS Tryz.prog 60=true:=zK
theorem tw:AS Tryz.prog 61=true:=zK
theorem Xy:AS Tryz.prog 62=true:=zK
theorem mK:AS Tryz.prog 63=true:=zK
theorem nU:AS Tryz.prog 64=true:=zK
theorem tH:AS Tryz.prog 66=true:=zK
theorem nY:AS Tryz.prog 67=true:=zK
theorem mQ:AS Tryz.prog 68=true:=zK
theorem mw:AS Tryz.prog 69=true:=zK
theorem Ps:AS Tryz.prog 70=true:=zK
theorem sD:AS Tryz.prog 71=true:=zK
theorem hE:AS Tryz.prog 72=true:=zK
theorem ie:AS Tryz.prog 73=true:=zK
theorem sd:AS Tryz.prog 74=true:=zK
theorem lw:AS Tryz.prog 75=true:=zK
theorem nA:AS Tryz.prog 76=true:=zK
theorem sf:AS Tryz.prog 77=true:=zK
theorem gT:AS Tryz.prog 78=true:=zK
theorem tX:AS Tryz.prog 79=true:=zK
theorem sW:AS Tryz.prog 80=true:=zK
theorem tZ:AS Tryz.prog 81=true:=zK
theorem tu:AS Tryz.prog 82=true:=zK
theorem tq:AS Tryz.prog 83=true:=zK
theorem mj:AS Tryz.prog 84=true:=zK
theorem mE:AS Tryz.prog 85=true:=zK
theorem tQ:AS Tryz.prog 86=true:=zK
theorem sH:AS Tryz.prog 87=true:=zK
theorem sq:AS Tryz.prog 88=true:=zK
theorem nG:AS Tryz.prog 89=true:=zK
theorem tM:AS Tryz.prog 90=true:=zK
theorem sK:AS Tryz.prog 91=true:=zK
theorem sp:AS Tryz.prog 92=true:=zK
theorem bh:AS Tryz.prog 93=true:=zK
theorem sA:AS Tryz.prog 94=true:=zK
theorem sF:AS Tryz.prog 95=true:=zK
theorem rO:AS Tryz.prog 96=true:=zK
theorem iQ:AS Tryz.prog 97=true:=zK
theorem lU:AS Tryz.prog 98=true:=zK
theorem ug:Tryz.prog.cellsOf 5=1:=zK
theorem aG:iM Tryz.prog 31=some [(0,.int .u32),(1,.string)]:=zK
theorem nO:iM Tryz.prog 54=some [(0,.int .u32),(1,.int .u32),(2,.int .i64)]:=zK
theorem ub:iM Tryz.prog 79=some [(0,.int .u64),(1,.int .u32),(2,.int .u32),(3,.string)]:=zK
theorem nK:fo Tryz.prog 106 0=some 0:=zK
theorem Yr:fo Tryz.prog 106 1=some 1:=zK
theorem QZ:fo Tryz.prog 106 2=some 2:=zK
theorem nw:fo Tryz.prog 110 0=some 0:=zK
theorem SK:fo Tryz.prog 110 1=some 1:=zK
theorem Ye:fo Tryz.prog 110 2=some 2:=zK
theorem XS:fo Tryz.prog 110 3=some 3:=zK
theorem QF:fo Tryz.prog 110 4=some 4:=zK
theorem nh:fo Tryz.prog 115 0=some 0:=zK
theorem VB:fo Tryz.prog 115 2=some 2:=zK
theorem R3:fo Tryz.prog 115 4=some 4:=zK
theorem UZ:fo Tryz.prog 115 5=some 5:=zK
theorem Yn:fo Tryz.prog 125 0=some 0:=zK
theorem d9:fo Tryz.prog 125 1=some 1:=zK
theorem X3:fo Tryz.prog 125 2=some 2:=zK
theorem gC:fo Tryz.prog 125 3=some 3:=zK
theorem nq:fo Tryz.prog 128 1=some 1:=zK
theorem fW:fo Tryz.prog 130 0=some 0:=zK
theorem UL:fo Tryz.prog 130 1=some 4:=zK
theorem eI:fo Tryz.prog 130 2=some 5:=zK
theorem lP:fo Tryz.prog 130 3=some 6:=zK
theorem nL:fo Tryz.prog 130 4=some 7:=zK
theorem Ry:fo Tryz.prog 132 0=some 0:=zK
theorem Sj:fo Tryz.prog 132 1=some 1:=zK
theorem YM:fo Tryz.prog 132 2=some 2:=zK
theorem U6:fo Tryz.prog 132 4=some 6:=zK
theorem Yo:fo Tryz.prog 132 5=some 7:=zK
theorem Ga:fo Tryz.prog 138 0=some 0:=zK
theorem QW:fo Tryz.prog 138 1=some 1:=zK
theorem U7:fo Tryz.prog 143 0=some 0:=zK
theorem Oo:fo Tryz.prog 143 1=some 1:=zK
theorem Uc:fo Tryz.prog 143 2=some 2:=zK
theorem VK:fo Tryz.prog 143 3=some 3:=zK
theorem Oh:fo Tryz.prog 148 0=some 0:=zK
theorem GW:fo Tryz.prog 148 1=some 1:=zK
theorem Fk:fo Tryz.prog 148 2=some 4:=zK
theorem Dg:fo Tryz.prog 148 3=some 5:=zK
theorem E4:fo Tryz.prog 148 4=some 6:=zK
theorem Ug:fo Tryz.prog 172 0=some 0:=zK
theorem Iz:fo Tryz.prog 172 1=some 1:=zK
theorem Rz:fo Tryz.prog 194 0=some 0:=zK
theorem Yx:fo Tryz.prog 194 1=some 1:=zK
theorem X4:fo Tryz.prog 228 0=some 0:=zK
theorem Sd:fo Tryz.prog 243 0=some 0:=zK
theorem fD:fo Tryz.prog 255 0=some 0:=zK
theorem eO:fo Tryz.prog 255 1=some 1:=zK
theorem Yv:fo Tryz.prog 255 2=some 2:=zK
theorem ZL:fo Tryz.prog 255 3=some 3:=zK
theorem Xp:fo Tryz.prog 274 0=some 0:=zK
theorem LI:fo Tryz.prog 274 1=some 8:=zK
theorem VD:fo Tryz.prog 274 2=some 9:=zK
theorem MY:fo Tryz.prog 31 0=some 0:=zK
theorem Ld:fo Tryz.prog 31 1=some 1:=zK
theorem Ha:fo Tryz.prog 54 0=some 0:=zK
theorem HY:fo Tryz.prog 54 1=some 1:=zK
theorem EX:fo Tryz.prog 54 2=some 2:=zK
theorem OD:fo Tryz.prog 57 0=some 0:=zK
theorem S9:fo Tryz.prog 57 1=some 3:=zK
theorem JT:fo Tryz.prog 57 2=some 4:=zK
theorem j5:fo Tryz.prog 69 0=some 0:=zK
theorem jC:fo Tryz.prog 69 1=some 1:=zK
theorem qT:fo Tryz.prog 69 2=some 2:=zK
theorem px:fo Tryz.prog 69 3=some 3:=zK
theorem bw:fo Tryz.prog 69 4=some 4:=zK
theorem UU:fo Tryz.prog 69 5=some 5:=zK
theorem dE:fo Tryz.prog 72 0=some 0:=zK
theorem XE:fo Tryz.prog 72 1=some 1:=zK
theorem Nb:fo Tryz.prog 79 0=some 0:=zK
theorem Ig:fo Tryz.prog 79 1=some 1:=zK
theorem Ii:fo Tryz.prog 79 2=some 2:=zK
theorem Qo:fo Tryz.prog 79 3=some 3:=zK
theorem cK:fo Tryz.prog 96 0=some 0:=zK
theorem kA:fo Tryz.prog 96 1=some 1:=zK
theorem pi:fo Tryz.prog 96 2=some 2:=zK
theorem py:fo Tryz.prog 96 3=some 3:=zK
theorem W8:fo Tryz.prog 96 4=some 4:=zK
theorem XK:fo Tryz.prog 96 5=some 5:=zK
theorem qD:fo Tryz.prog 99 0=some 0:=zK
theorem Qw:fo Tryz.prog 99 1=some 1:=zK
theorem Ud:fo Tryz.prog 99 2=some 2:=zK
theorem cU:fo Tryz.prog 99 3=some 3:=zK
theorem VT:liesAt Tryz.prog Tryz.prog.depth 172 (2 / Tryz.prog.cellsOf 172) 0 172 1=true:=zK
theorem dJ:liesAt Tryz.prog Tryz.prog.depth 228 (2 / Tryz.prog.cellsOf 228) 0 172 1=true:=zK
theorem nF:liesAt Tryz.prog Tryz.prog.depth 243 (2 / Tryz.prog.cellsOf 243) 0 172 1=true:=zK
theorem nQ:My Tryz.prog 106=true:=zK
theorem sj:My Tryz.prog 110=true:=zK
theorem rM:My Tryz.prog 115=true:=zK
theorem r5:My Tryz.prog 128=true:=zK
theorem r6:My Tryz.prog 130=true:=zK
theorem rh:My Tryz.prog 132=true:=zK
theorem YI:My Tryz.prog 138=true:=zK
theorem LE:My Tryz.prog 143=true:=zK
theorem Ph:My Tryz.prog 148=true:=zK
theorem sL:My Tryz.prog 194=true:=zK
theorem cn:My Tryz.prog 251=true:=zK
theorem sx:My Tryz.prog 252=true:=zK
theorem sb:My Tryz.prog 255=true:=zK
theorem rS:My Tryz.prog 274=true:=zK
theorem rX:My Tryz.prog 288=true:=zK
theorem tB:My Tryz.prog 299=true:=zK
theorem LU:My Tryz.prog 31=true:=zK
theorem QE:My Tryz.prog 54=true:=zK
theorem Zs:My Tryz.prog 57=true:=zK
theorem uK:My Tryz.prog 69=true:=zK
theorem oV:My Tryz.prog 72=true:=zK
theorem Si:My Tryz.prog 79=true:=zK
theorem uX:My Tryz.prog 96=true:=zK
theorem uM:My Tryz.prog 99=true:=zK
theorem mn:Mx Tryz.prog 106=some [(0,1),(1,1),(2,1)]:=zK
theorem rq:Mx Tryz.prog 110=some [(0,1),(1,1),(2,1),(3,1),(4,1)]:=zK
theorem rV:Mx Tryz.prog 115=some [(0,1),(1,1),(2,1),(3,1),(4,1),(5,1)]:=zK
theorem td:Mx Tryz.prog 128=some [(0,1),(1,1),(2,1)]:=zK
theorem sg:Mx Tryz.prog 130=some [(0,4),(4,1),(5,1),(6,1),(7,3)]:=zK
theorem ra:Mx Tryz.prog 132=some [(0,1),(1,1),(2,1),(3,3),(6,1),(7,1)]:=zK
theorem Yb:Mx Tryz.prog 138=some [(0,1),(1,1)]:=zK
theorem LD:Mx Tryz.prog 143=some [(0,1),(1,1),(2,1),(3,1)]:=zK
theorem Pu:Mx Tryz.prog 148=some [(0,1),(1,3),(4,1),(5,1),(6,2)]:=zK
theorem r9:Mx Tryz.prog 194=some [(0,1),(1,1)]:=zK
theorem cd:Mx Tryz.prog 251=some [(0,1),(1,1)]:=zK
theorem rd:Mx Tryz.prog 252=some [(0,2),(2,2),(4,2),(6,2)]:=zK
theorem te:Mx Tryz.prog 255=some [(0,1),(1,1),(2,1),(3,1)]:=zK
theorem uB:Mx Tryz.prog 274=some [(0,8),(8,1),(9,1)]:=zK
theorem sy:Mx Tryz.prog 288=some [(0,1),(1,1),(2,1),(3,1)]:=zK
theorem tz:Mx Tryz.prog 299=some [(0,2),(2,2)]:=zK
theorem LR:Mx Tryz.prog 31=some [(0,1),(1,1)]:=zK
theorem P0:Mx Tryz.prog 54=some [(0,1),(1,1),(2,1)]:=zK
theorem aq:Mx Tryz.prog 57=some [(0,3),(3,1),(4,1)]:=zK
theorem ua:Mx Tryz.prog 69=some [(0,1),(1,1),(2,1),(3,1),(4,1),(5,1)]:=zK
theorem lm:Mx Tryz.prog 72=some [(0,1),(1,2)]:=zK
theorem R4:Mx Tryz.prog 79=some [(0,1),(1,1),(2,1),(3,1)]:=zK
theorem uf:Mx Tryz.prog 96=some [(0,1),(1,1),(2,1),(3,1),(4,1),(5,1)]:=zK
theorem uW:Mx Tryz.prog 99=some [(0,1),(1,1),(2,1),(3,1)]:=zK
theorem cB:KI Tryz.prog 104=true:=zK
theorem nD:KI Tryz.prog 113=true:=zK
theorem mm:KI Tryz.prog 116=true:=zK
theorem oE:KI Tryz.prog 126=true:=zK
theorem Po:KI Tryz.prog 141=true:=zK
theorem Hi:KI Tryz.prog 146=true:=zK
theorem iU:KI Tryz.prog 170=true:=zK
theorem Mn:KI Tryz.prog 192=true:=zK
theorem dN:KI Tryz.prog 200=true:=zK
theorem RW:KI Tryz.prog 22=true:=zK
theorem aw:KI Tryz.prog 24=true:=zK
theorem oA:KI Tryz.prog 25=true:=zK
theorem rI:KI Tryz.prog 26=true:=zK
theorem PC:KI Tryz.prog 268=true:=zK
theorem A6:KI Tryz.prog 29=true:=zK
theorem D3:KI Tryz.prog 3=true:=zK
theorem Rq:KI Tryz.prog 32=true:=zK
theorem uI:KI Tryz.prog 34=true:=zK
theorem FF:KI Tryz.prog 35=true:=zK
theorem LH:KI Tryz.prog 36=true:=zK
theorem Ww:KI Tryz.prog 4=true:=zK
theorem uc:KI Tryz.prog 46=true:=zK
theorem M1:KI Tryz.prog 48=true:=zK
theorem uh:KI Tryz.prog 5=true:=zK
theorem Tp:KI Tryz.prog 55=true:=zK
theorem rJ:KI Tryz.prog 65=true:=zK
theorem eZ:KI Tryz.prog 66=true:=zK
theorem X9:KI Tryz.prog 67=true:=zK
theorem FX:KI Tryz.prog 9=true:=zK
theorem fk:KI Tryz.prog 94=true:=zK
theorem U1:KI Tryz.prog 97=true:=zK
theorem sI:C3 Tryz.prog 113=some 1:=zK
theorem tJ:C3 Tryz.prog 116=some 1:=zK
theorem Fb:C3 Tryz.prog 138=some 2:=zK
theorem iI:C3 Tryz.prog 141=some 1:=zK
theorem Ef:C3 Tryz.prog 143=some 4:=zK
theorem bj:C3 Tryz.prog 146=some 1:=zK
theorem HD:C3 Tryz.prog 148=some 8:=zK
theorem tx:C3 Tryz.prog 170=some 1:=zK
theorem gl:C3 Tryz.prog 172=some 2:=zK
theorem tO:C3 Tryz.prog 200=some 1:=zK
theorem nb:C3 Tryz.prog 22=some 1:=zK
theorem dQ:C3 Tryz.prog 251=some 2:=zK
theorem rY:C3 Tryz.prog 255=some 4:=zK
theorem mU:C3 Tryz.prog 265=some 16:=zK
theorem sk:C3 Tryz.prog 274=some 10:=zK
theorem Vd:C3 Tryz.prog 288=some 4:=zK
theorem Bk:C3 Tryz.prog 29=some 1:=zK
theorem rz:C3 Tryz.prog 296=some 64:=zK
theorem sC:C3 Tryz.prog 298=some 2:=zK
theorem Mw:C3 Tryz.prog 3=some 1:=zK
theorem DH:C3 Tryz.prog 31=some 2:=zK
theorem aR:C3 Tryz.prog 32=some 1:=zK
theorem K8:C3 Tryz.prog 35=some 1:=zK
theorem jT:C3 Tryz.prog 36=some 1:=zK
theorem TO:C3 Tryz.prog 4=some 1:=zK
theorem nW:C3 Tryz.prog 48=some 1:=zK
theorem KH:C3 Tryz.prog 5=some 1:=zK
theorem N7:C3 Tryz.prog 54=some 3:=zK
theorem f5:C3 Tryz.prog 55=some 1:=zK
theorem Ia:C3 Tryz.prog 57=some 5:=zK
theorem ud:C3 Tryz.prog 67=some 1:=zK
theorem Mz:C3 Tryz.prog 72=some 3:=zK
theorem B2:C3 Tryz.prog 79=some 4:=zK
theorem Ix:C3 Tryz.prog 9=some 1:=zK
theorem uH:C3 Tryz.prog 97=some 1:=zK
theorem CU:Tryz.prog.underlying 113=some (.slice 29):=zK
theorem mI:Tryz.prog.underlying 116=some (.map 9 31):=zK
theorem mA:Tryz.prog.underlying 126=some (.map 29 9):=zK
theorem CM:Tryz.prog.underlying 141=some (.slice 5):=zK
theorem Ep:Tryz.prog.underlying 146=some (.slice 31):=zK
theorem N4:Tryz.prog.underlying 159=some (.array 4 35):=zK
theorem Is:Tryz.prog.underlying 166=some (.int .u64):=zK
theorem YN:Tryz.prog.underlying 170=some (.pointer 172):=zK
theorem ue:Tryz.prog.underlying 2=some (.int .i64):=zK
theorem Vb:Tryz.prog.underlying 200=some (.slice 35):=zK
theorem oO:Tryz.prog.underlying 218=some (.pointer 5):=zK
theorem FY:Tryz.prog.underlying 22=some (.slice 9):=zK
theorem YX:Tryz.prog.underlying 24=some (.pointer 96):=zK
theorem jF:Tryz.prog.underlying 25=some (.pointer 130):=zK
theorem R2:Tryz.prog.underlying 251=some (.array 2 29):=zK
theorem cr:Tryz.prog.underlying 252=some (.array 4 251):=zK
theorem oD:Tryz.prog.underlying 257=some (.unsafePointer):=zK
theorem uD:Tryz.prog.underlying 26=some (.pointer 69):=zK
theorem Pz:Tryz.prog.underlying 265=some (.array 16 29):=zK
theorem rT:Tryz.prog.underlying 268=some (.pointer 274):=zK
theorem mc:Tryz.prog.underlying 271=some (.array 8 29):=zK
theorem PG:Tryz.prog.underlying 272=some (.array 8 29):=zK
theorem V4:Tryz.prog.underlying 287=some (.array 4 3):=zK
theorem Pg:Tryz.prog.underlying 288=some (.array 4 29):=zK
theorem Bv:Tryz.prog.underlying 29=some (.int .u32):=zK
theorem Qs:Tryz.prog.underlying 296=some (.array 64 29):=zK
theorem bo:Tryz.prog.underlying 298=some (.array 2 3):=zK
theorem tj:Tryz.prog.underlying 299=some (.array 2 298):=zK
theorem FW:Tryz.prog.underlying 3=some (.int .i64):=zK
theorem mL:Tryz.prog.underlying 308=some (.array 5 3):=zK
theorem Bt:Tryz.prog.underlying 35=some (.slice 79):=zK
theorem He:Tryz.prog.underlying 36=some (.slice 72):=zK
theorem CQ:Tryz.prog.underlying 48=some (.int .u64):=zK
theorem Cl:Tryz.prog.underlying 5=some (.int .u8):=zK
theorem OB:Tryz.prog.underlying 55=some (.slice 57):=zK
theorem K7:Tryz.prog.underlying 66=some (.slice 138):=zK
theorem UK:Tryz.prog.underlying 67=some (.slice 4):=zK
theorem Bj:Tryz.prog.underlying 9=some (.string):=zK
theorem f9:Tryz.prog.underlying 94=some (.map 29 4):=zK
theorem lT:ES Tryz.prog 106=some (.agg #[.nilFunc,zN,.int .i64 0]):=zK
theorem rj:ES Tryz.prog 110=some (.agg #[.pointer none,zN,zN,.int .i64 0,.int .i64 0]):=zK
theorem sB:ES Tryz.prog 113=some zN:=zK
theorem tY:ES Tryz.prog 115=some (.agg #[.pointer none,zN,zN,zN,.int .i64 0,zN]):=zK
theorem tn:ES Tryz.prog 116=some (.map none):=zK
theorem ti:ES Tryz.prog 128=some (.agg #[.int .u64 0,.string ⟨⟨[]⟩⟩,.int .u32 0]):=zK
theorem tU:ES Tryz.prog 130=some (.agg #[.bool false,.bool false,.int .i64 0,.int .i64 0,zN,.map none,.map none,.int .u64 0,.string ⟨⟨[]⟩⟩,.int .u32 0]):=zK
theorem uC:ES Tryz.prog 132=some (.agg #[zN,zN,zN,.int .u64 0,.string ⟨⟨[]⟩⟩,.int .u32 0,.int .i64 0,.bool false]):=zK
theorem JA:ES Tryz.prog 138=some (.agg #[.int .u32 0,.string ⟨⟨[]⟩⟩]):=zK
theorem FB:ES Tryz.prog 143=some (.agg #[.int .u32 0,.int .u32 0,.int .u32 0,.int .u64 0]):=zK
theorem Gk:ES Tryz.prog 148=some (.agg #[.int .i64 0,.int .u32 0,.int .u32 0,.int .i64 0,zN,zN,.int .u32 0,.string ⟨⟨[]⟩⟩]):=zK
theorem rP:ES Tryz.prog 159=some (.agg #[zN,zN,zN,zN]):=zK
theorem cZ:ES Tryz.prog 172=some (.agg #[.pointer none,zN]):=zK
theorem rR:ES Tryz.prog 194=some (.agg #[.string ⟨⟨[]⟩⟩,.bool false]):=zK
theorem oS:ES Tryz.prog 228=some (.agg #[.pointer none,zN]):=zK
theorem sP:ES Tryz.prog 243=some (.agg #[.pointer none,zN]):=zK
theorem SS:ES Tryz.prog 251=some (.agg #[.int .u32 0,.int .u32 0]):=zK
theorem tp:ES Tryz.prog 252=some (.agg #[.int .u32 0,.int .u32 0,.int .u32 0,.int .u32 0,.int .u32 0,.int .u32 0,.int .u32 0,.int .u32 0]):=zK
theorem lk:ES Tryz.prog 255=some (.agg #[.int .u32 0,.int .u32 0,.int .u32 0,.int .u32 0]):=zK
theorem bW:ES Tryz.prog 265=some (.agg #[.int .u32 0,.int .u32 0,.int .u32 0,.int .u32 0,.int .u32 0,.int .u32 0,.int .u32 0,.int .u32 0,.int .u32 0,.int .u32 0,.int .u32 0,.int .u32 0,.int .u32 0,.int .u32 0,.int .u32 0,.int .u32 0]):=zK
theorem tW:ES Tryz.prog 271=some (.agg #[.int .u32 0,.int .u32 0,.int .u32 0,.int .u32 0,.int .u32 0,.int .u32 0,.int .u32 0,.int .u32 0]):=zK
theorem nC:ES Tryz.prog 274=some (.agg #[.int .u32 0,.int .u32 0,.int .u32 0,.int .u32 0,.int .u32 0,.int .u32 0,.int .u32 0,.int .u32 0,.string ⟨⟨[]⟩⟩,.int .i64 0]):=zK
theorem tD:ES Tryz.prog 287=some (.agg #[.int .i64 0,.int .i64 0,.int .i64 0,.int .i64 0]):=zK
theorem R6:ES Tryz.prog 288=some (.agg #[.int .u32 0,.int .u32 0,.int .u32 0,.int .u32 0]):=zK
theorem L9:ES Tryz.prog 29=some (.int .u32 0):=zK
theorem lQ:ES Tryz.prog 296=some (.agg #[.int .u32 0,.int .u32 0,.int .u32 0,.int .u32 0,.int .u32 0,.int .u32 0,.int .u32 0,.int .u32 0,.int .u32 0,.int .u32 0,.int .u32 0,.int .u32 0,.int .u32 0,.int .u32 0,.int .u32 0,.int .u32 0,.int .u32 0,.int .u32 0,.int .u32 0,.int .u32 0,.int .u32 0,.int .u32 0,.int .u32 0,.int .u32 0,.int .u32 0,.int .u32 0,.int .u32 0,.int .u32 0,.int .u32 0,.int .u32 0,.int .u32 0,.int .u32 0,.int .u32 0,.int .u32 0,.int .u32 0,.int .u32 0,.int .u32 0,.int .u32 0,.int .u32 0,.int .u32 0,.int .u32 0,.int .u32 0,.int .u32 0,.int .u32 0,.int .u32 0,.int .u32 0,.int .u32 0,.int .u32 0,.int .u32 0,.int .u32 0,.int .u32 0,.int .u32 0,.int .u32 0,.int .u32 0,.int .u32 0,.int .u32 0,.int .u32 0,.int .u32 0,.int .u32 0,.int .u32 0,.int .u32 0,.int .u32 0,.int .u32 0,.int .u32 0]):=zK
theorem iR:ES Tryz.prog 298=some (.agg #[.int .i64 0,.int .i64 0]):=zK
theorem tf:ES Tryz.prog 299=some (.agg #[.int .i64 0,.int .i64 0,.int .i64 0,.int .i64 0]):=zK
theorem pK:ES Tryz.prog 3=some (.int .i64 0):=zK
theorem rN:ES Tryz.prog 308=some (.agg #[.int .i64 0,.int .i64 0,.int .i64 0,.int .i64 0,.int .i64 0]):=zK
theorem Dc:ES Tryz.prog 31=some (.agg #[.int .u32 0,.string ⟨⟨[]⟩⟩]):=zK
theorem ln:ES Tryz.prog 35=some zN:=zK
theorem gH:ES Tryz.prog 4=some (.bool false):=zK
theorem LA:ES Tryz.prog 5=some (.int .u8 0):=zK
theorem J8:ES Tryz.prog 54=some (.agg #[.int .u32 0,.int .u32 0,.int .i64 0]):=zK
theorem I4:ES Tryz.prog 57=some (.agg #[.int .u32 0,.int .u32 0,.int .i64 0,zN,zN]):=zK
theorem uN:ES Tryz.prog 69=some (.agg #[.pointer none,zN,.int .u32 0,.int .u32 0,.int .u64 0,zN]):=zK
theorem RU:ES Tryz.prog 72=some (.agg #[.string ⟨⟨[]⟩⟩,.int .u32 0,.string ⟨⟨[]⟩⟩]):=zK
theorem EJ:ES Tryz.prog 79=some (.agg #[.int .u64 0,.int .u32 0,.int .u32 0,.string ⟨⟨[]⟩⟩]):=zK
theorem TN:ES Tryz.prog 9=some (.string ⟨⟨[]⟩⟩):=zK
theorem uZ:ES Tryz.prog 96=some (.agg #[.pointer none,zN,.int .u32 0,.int .u32 0,.int .u64 0,.map none]):=zK
theorem uT:ES Tryz.prog 97=some (.pointer none):=zK
theorem uF:ES Tryz.prog 99=some (.agg #[.pointer none,zN,zN,.int .i64 0]):=zK
end

section
variable {K:Nat→Prop}{w0:World}{H:List AV}
def lW(p:UInt32×Bool):List Value:=[AA p.1,vB p.2]
theorem TG(v:Value):zC K w0 146 [v] [] H (fun r M=>∃b,r=.func (.func 187) #[] #[vP b 0]∧M=[AN b (.cells v.cells 66)]):=by
 refine UJ.enter Tryz.func146 rfl rfl ?_
 refine Z ?_
 refine Bd E E zU fun b0=>?_
 refine O E (Y (Z ?_))
 refine Hb (fv:=#[]) (cv:=#[_]) E E E ?_
 refine O E (Y (AL ?_))
 exact AX (De E E) (AY (M:=[_]) ⟨b0,E,E⟩ fun _ h=>h)
theorem TJ(v:Value)(ks:List BT)(b:Nat)(hk:CJ K w0 A7 2 v ks)(hv:v.cells=#[v])(hn:ks.length≤1099511627776):kc Tryz.prog K w0 187 [vP b 0] [AN b (.cells v.cells 66)] lW (LC ks):=by
 intro lp J9 X T hy G h0
 rw[hv]
 refine UJ.enter Tryz.func187 rfl rfl ?_
 refine Z (O E (Y (Z (AF 0 eZ E (B1 hk E K7 E (J E (Y (AM ?_))))))))
 refine SX.mono (A5 (α:=Nat×List AV) (fun x=>x.1≤ks.length∧J9 ((LC ks).take x.1) x.2) (fun x=>[(0,vY lp),(3,AA (KO ks x.1)),(6,v),(7,vI ks.length),(8,vI x.1)]) (fun x=>AN b (.cells #[v] 66)::(x.2++T)) (fun x=>ks.length-x.1) (fun x D hp=>?_) (0,G) ⟨Nat.zero_le _,h0⟩) tL
 obtain⟨i,G⟩:=x
 obtain⟨hi,hJ⟩:=hp
 simp only at hi hJ
 refine Z (V E Aw (Y (AE ?_)))
 refine As E (fun hc=>?_) (fun hc=>?_)
 have hlt:i<ks.length:=by simpa using hc
 obtain⟨key,hkey⟩:=Og hlt
 have hg:=Tw ks i hlt
 rw[KQ hkey]at hg
 refine AI (AG (AE (AM (Z ?_))))
 refine Q0 i key hk E K7 Fb E E E hkey fun be off hcell=>?_
 refine Ab (A7 key) E Ju E E (Vh (hcell _)) ?_
 refine Ag E JA zU fun b0=>?_
 refine Aj 0 E E E E Fb E E E zT (Y (AE (Z (J E (AD E Ga (AF 0 A6 E (AD E Ga (AF 0 A6 E (J E ?_)))))))))
 refine V E (lB (b:=KO ks i)) ?_
 refine J E ?_
 refine Cw (c:=decide ((key.secret.length:Int)=32)) 19 5 24 E (fun hb k=>?_) (fun hb k=>?_) ?_
 refine AD E QW (AF 0 FX E (BS E Bj E (V E CH (Ae E E E ?_))))
 exact k.mono tL
 refine AB E (AB E (AB E (AB E (Ae E E E ?_))))
 exact k.mono tL
 refine JJ (M2:=[_,_]) (G:=G) (T:=T) (vs:=[_,_]) (ok:=fun G1=>J9 ((LC ks).take (i+1)) G1) (no:=X) E E ⟨E,E,zT⟩ E ?_ (fun bb G1 hG1=>⟨zT,?_⟩)
 intro M
 have:=hy _ _ _ (E7 hg).1 G hJ M
 rw[←(E7 hg).2]at this
 have e:Nz ks i=(decide (KO ks i<key.gen)&&decide ((key.secret.length:Int)=32)):=by unfold Nz;rw[KQ hkey]
 rw[e]at this
 exact this
 refine CN E E (Y ?_)
 refine As E (fun hc=>?_) (fun hc=>?_)
 obtain rfl:bb=false:=by simpa using hc
 refine AL (Aa (BX (Aa (Dj (BX ?_)))))
 exact AX (DU E) (AY (M:=G1) (.inr hG1) fun _ h=>h.skip [_,_])
 obtain rfl:bb=true:=by simpa using hc
 refine AI (AG (AK (AD E Ga (AF 0 A6 E (O E (AU (An (AG (AK (V E (BU zO zO) (J E (AU ?_))))))))))))
 refine Ai (i+1,G1) ⟨hlt,hG1⟩ (by simp only;omega) ⟨E,by rw[KO,KQ hkey];rfl,E,E,E,zT⟩ (fun w h=>h.skip [_])
 refine Ax (A3 (BL (Az ?_)))
 have hle:i=ks.length:=by simp at hc;omega
 exact Cr (DU E) (AY (M:=G) (.inl (by rw[List.take_of_length_le (by rw[Pn];omega)]at hJ;exact hJ)) fun _ h=>h.skip [_])
theorem Pr(v:Value)(ks:List BT)(hk:CJ K w0 A7 2 v ks)(hv:v.cells=#[v])(hn:ks.length≤1099511627776):zC K w0 104 [v] [] H (fun r M=>r=vB (DW ks)∧M=[]):=by
 refine UJ.enter Tryz.func104 rfl rfl ?_
 refine Z (O E (Y (K6 (Z (J E (B1 hk E K7 E (V E IK ?_)))))))
 refine Ag E gH zU fun b0=>?_
 refine Aj 0 E E E E TO E E E zT (Y (AE (Kn (AG (AE (Z (J E (Bp 0 p9 (TG v) E ?_))))))))
 rintro _ _ ⟨b1,rfl,rfl⟩
 refine Y (AM ?_)
 refine QM (enc:=lW) (LC ks) (fun pre G=>pre.all (·.2)=true∧G=AN b0 (.cells #[vB (decide ((ks.length:Int)≤16))] 4)::H) (fun c G=>c=.exit 0∧(LC ks).all (·.2)=false∧G=AN b0 (.cells #[vB false] 4)::H) E pN E zV (TJ v ks b1 hk hv hn) E ⟨E,E⟩ (fun pre x suf G hxs hJ r lp Rest=>?_) (fun G D hJ=>?_) (fun c G D hX=>?_)
 obtain⟨hpre,rfl⟩:=hJ
 refine AK (O E (AU (Lo (AM (Z (J E (CN E E (Y ?_))))))))
 refine As E (fun hc=>?_) (fun hc=>?_)
 refine Z (Aj 0 E E E E TO E E E zT (Y (Ax (MS ?_))))
 exact Nv ⟨E,by rw[hxs];simp at hc;simp[hc],E⟩ (fun _ h=>h)
 refine AI (An ?_)
 exact Iq ⟨by simp at hc;simp[hpre,hc],E⟩ (fun _ h=>h)
 obtain⟨hall,rfl⟩:=hJ
 refine An (AG (Z (AF 0 Ww E (O E (Y (AL (FN ?_)))))))
 exact AX (De E E) (AY (M:=[]) ⟨by simp only[DW,hall];simp;try omega,E⟩ fun _ h=>h.skip [_])
 obtain⟨rfl,hall,rfl⟩:=hX
 refine Ax (Az (AG (Z (AF 0 Ww E (O E (Y (AL (FN ?_))))))))
 exact AX (De E E) (AY (M:=[]) ⟨by simp only[DW,hall];simp;try omega,E⟩ fun _ h=>h.skip [_])
end

section
variable {K:Nat→Prop}{w0:World}{H:List AV}
theorem Wt(k:BT)(g:UInt32)(b:Nat):zC K w0 148 [.agg (A7 k).toArray,vP b 0] [AN b (.cells #[AA g] 29)] H (fun r M=>r=vB (decide (g≤k.gen))∧M=[AN b (.cells #[AA g] 29)]):=by
 refine UJ.enter Tryz.func148 rfl rfl ?_
 refine Z ?_
 refine Bd E E zU fun b0=>?_
 refine O E (Y (Z (AD E Ga (AF 0 A6 E (AF 1 A6 E (V E Gy (O E (Y (AL ?_)))))))))
 exact AX (De E E) (AY (M:=[_]) ⟨E,E⟩ fun _ h=>h.skip [_])
theorem Vj(v:Value)(ks:List BT)(g:FuncId)(cap:List Value)(B:List AV)(φ:BT→Bool)(hk:CJ K w0 A7 2 v ks)(hn:ks.length≤1099511627776)(hcal:AS Tryz.prog g=true)
(hf:∀(H:List AV) (k:BT),zC K w0 g (.agg (A7 k).toArray::cap) B H (fun r M=>r=vB (φ k)∧M=B)):
  zC K w0 147 [v,.func (.func g) #[] cap.toArray] B H (fun r M=>r=vI (if ks.findIdx φ<ks.length then(ks.findIdx φ:Int)else -1)∧M=B):=by
 refine UJ.enter Tryz.func147 rfl rfl ?_
 refine Z (O E (Y (AE (Z (J E (B1 hk E K7 E (J E (Y (AM ?_)))))))))
 refine SX.mono (A5 (α:=Nat) (fun i=>i≤ks.length∧∀j y,j<i→ks[j]? = some y→φ y=false) (fun i=>[(0,v),(1,.func (.func g) #[] cap.toArray),(7,vI ks.length),(8,vI i)]) (fun i=>B++H) (fun i=>ks.length-i) (fun i D hp=>?_) 0 ⟨Nat.zero_le _,fun j y hj=>absurd hj (Nat.not_lt_zero _)⟩) tL
 obtain⟨hi,hb⟩:=hp
 refine Z (V E Aw (Y (AE ?_)))
 refine As E (fun hc=>?_) (fun hc=>?_)
 have hlt:i<ks.length:=by simpa using hc
 obtain⟨key,hkey⟩:=Og hlt
 refine AI (AG (AE (AM (Z (J E (O E (Y (Z (J E (J E (J E ?_)))))))))))
 refine Q0 i key hk E K7 Fb E E E hkey fun be off hcell=>?_
 refine Ab (A7 key) E Ju E E (Vh (hcell _)) ?_
 refine Bm (vs:=[_]) (Hin:=B) E E ⟨E,zT⟩ hcal E E (hf _ key) ?_
 rintro _ M ⟨rfl,hM⟩
 rw[hM]
 refine⟨trivial,?_⟩
 refine Y ?_
 refine As E (fun hc2=>?_) (fun hc2=>?_)
 refine Z (J E (O E (Y (AL (BX (Aa (Dj (BX (Aa ?_)))))))))
 exact AX (De E E) (AY (M:=B) ⟨by rw[WL hkey hc2 hb];simp[hlt],E⟩ fun _ h=>h)
 refine AI (An (AG (AK (V E (BU zO zO) (J E (AU ?_))))))
 refine Ai (i+1) ⟨hlt,fun j y hj hy=>?_⟩ zO ⟨E,E,E,E,zT⟩
 rcases Nat.lt_or_ge j i with h | h
 exact hb j y h hy
 obtain rfl:j=i:=zO
 rw[hkey]at hy
 cases hy
 exact hc2
 refine Ax (A3 (BL (Az (AG (Z (O E (Y (AL ?_))))))))
 have hle:i=ks.length:=by simp at hc;omega
 exact AX (De rfl rfl) (AY (M:=B) ⟨by rw[gB (fun j y hy=>hb j y (by obtain⟨h,_⟩:=List.getElem?_eq_some_iff.1 hy;omega) hy)];simp,rfl⟩ fun _ h=>h)
theorem Zm(v:Value)(ks:List BT)(g:UInt32)(hk:CJ K w0 A7 2 v ks)(hn:ks.length≤1099511627776):zC K w0 105 [v,AA g] [] H (fun r M=>r=.tuple #[vI (Lm g ks),vB (RH g ks)]∧M=[]):=by
 refine UJ.enter Tryz.func105 rfl rfl ?_
 refine Z ?_
 refine Bd E E zU fun b0=>?_
 refine O E (O E (Y (Z (J E ?_))))
 refine Hb (fv:=#[]) (cv:=#[_]) E E E ?_
 refine AQ 1 qc (Vj v ks 148 [vP b0 0] [_] (fun k=>decide (g≤k.gen)) hk hn qj (fun H k=>Wt k g b0)) E ?_
 change SL _ _ _ _ _ _ _ _ _ _ ((9,vI (if Lm g ks<ks.length then(Lm g ks:Int)else -1))::_) _
 generalize hpl:Lm g ks=pl
 refine O E (Y (AE (Z (J E (V E Aw (Y ?_))))))
 refine As E (fun hc=>?_) (fun hc=>?_)
 refine Z ?_
 have hnl:¬pl<ks.length:=by intro h;simp[h]at hc;omega
 have hpe:pl=ks.length:=by have:=gZ g ks;omega
 refine J E (B1 hk E K7 E (O E (O E (Y (AL (Aa ?_))))))
 exact AX (HN E E E) (AY (M:=[]) ⟨by simp[RH,hpl,hpe],E⟩ fun _ h=>h.skip [_])
 have hlt:pl<ks.length:=by
  rcases Nat.lt_or_ge pl ks.length with h | h
  exact h
  simp[Nat.not_lt.2 h]at hc
 rw[if_pos hlt]
 obtain⟨key,hkey⟩:=Og hlt
 refine AI (AG (AE (Ak Ca [0] (Pl.of [(true,0),(true,1),(true,2),(true,3),(true,4),(true,5),(true,6),(true,7),(true,8),(true,9)]) zK (J E (J E (J E ?_))))))
 refine Q0 pl key hk E K7 Fb E E E hkey fun be off hcell=>?_
 refine AD E Ga ?_
 refine Bh E A6 E (fun w hw=>hcell _ w hw 0 _ E) ?_
 refine AF 0 A6 E (V E OZ (O E (O E (Y (AL ?_)))))
 exact AX (HN E E E) (AY (M:=[]) ⟨by simp[RH,hpl,hkey],E⟩ fun _ h=>h.skip [_])
theorem RI(v:Value)(ks:List BT)(g:UInt32)(hk:CJ K w0 A7 2 v ks)(hv:v.cells=#[v])(hn:ks.length≤1099511627776):zC K w0 72 [v,AA g] [] H (fun r M=>r=.tuple #[.agg (A7 (C0 ks g).1).toArray,vI (C0 ks g).2]∧M=[]):=by
 refine UJ.enter Tryz.func72 rfl rfl ?_
 refine Z ?_
 refine Ag E JA zU fun b0=>?_
 refine O E (Y (AE (Z (J E (AQ 0 dW (Pr v ks hk hv hn) E (CN E E (Y ?_)))))))
 refine As E (fun hc=>?_) (fun hc=>?_)
 have hf:C0 ks g=(Gq,40):=by unfold C0;rw[if_pos (by simpa using hc)]
 rw[hf]
 refine Z (BK [] E Yb YI JA zT E (Aj 0 E E E E Fb E E E zT (O E (Y (AL (Aa ?_))))))
 exact AX (DR E (BC 0 (A7 Gq) Ju E E E E) E) (AY (M:=[]) ⟨E,E⟩ fun _ h=>h.skip [_])
 have hr:DW ks=true:=by simpa using hc
 refine AI (AG (Z (J E (J E (AQ 0 qI (Zm v ks g hk hn) E (J E (Al E E E (Al E E E (O E (O E (Y (AE (Z ?_)))))))))))))
 refine J E (CN E E (Y ?_))
 refine As E (fun hc=>?_) (fun hc=>?_)
 have hf:C0 ks g=(Gq,41):=by
  have:RH g ks=false:=by simpa using hc
  unfold RH at this
  unfold C0
  rw[hr]
  cases h:ks[Lm g ks]? with
  | none=>simp
  | some k=>rw[h]at this;simp at this;simp[this]
 rw[hf]
 refine Z (BK [] E Yb YI JA zT E (Aj 0 E E E E Fb E E E zT (O E (Y (AL (Aa ?_))))))
 exact AX (DR E (BC 0 (A7 Gq) Ju E E E E) E) (AY (M:=[]) ⟨E,E⟩ fun _ h=>h.skip [_])
 have hth:RH g ks=true:=by simpa using hc
 obtain⟨key,hkey,hg⟩:∃key,ks[Lm g ks]? = some key∧key.gen=g:=by
  unfold RH at hth
  cases h:ks[Lm g ks]? with
  | none=>rw[h]at hth;cases hth
  | some k=>rw[h]at hth;exact⟨k,rfl,by simpa using hth⟩
 have hf:C0 ks g=(key,0):=by
  unfold C0
  rw[hr]
  simp[hkey,hg]
 rw[hf]
 refine AI (AG (Z (J E (J E ?_))))
 refine Q0 (Lm g ks) key hk E K7 Fb E E E hkey fun be off hcell=>?_
 refine Ab (A7 key) E Ju E E (Vh (hcell _)) (Aj 0 E E E E Fb E E E zT (O E (Y (AL ?_))))
 exact AX (DR E (BC 0 (A7 key) Ju E E E E) E) (AY (M:=[]) ⟨E,E⟩ fun _ h=>h.skip [_])
end

section
variable {K:Nat→Prop}{w0:World}{H:List AV}
theorem WU(b:List UInt8)(hb:b.length≤9223372036854775807):zC K w0 78 [vS b] [] H (fun v M=>v=vS (b.drop (b.length-32))∧M=[]):=by
 refine UJ.enter Tryz.func78 rfl rfl ?_
 refine AE (AK (O E (AU (AG (AE (AK (J E (J E (BS E Bj E (V E (Dh zO zO) (dp E E E (Ns (b.length-32) E Bj E E zO zO (O E (AU (AG (AL ?_))))))))))))))))
 exact AX (De E E) (AY (M:=[]) ⟨E,E⟩ fun _ h=>h.skip [])
def UX(x:UInt32)(k:Int):UInt32:=shl32 x (BW k &&& 31).toNat ||| shr32 x (32-(BW k &&& 31)).toNat
theorem Hh(x:UInt32)(k:Int):zC K w0 227 [AA x,vI k] [] H (fun v M=>v=AA (UX x k)∧M=[]):=by
 refine UJ.enter Tryz.func227 rfl rfl ?_
 refine AE (AK (O E (AU (AG (AE (AK (J E (Au E E (Df FW Is) ?_))))))))
 refine V E (Qv (b:=31)) ?_
 refine O E (AU (AG (AE (AK (J E (J E (V E E0.shl32 (J E (J E ?_)))))))))
 refine V E (UC (a:=32)) ?_
 refine V E E0.shr32 (V E DZ (O E (AU (AG (AL ?_)))))
 exact AX (De E E) (AY (M:=[]) ⟨E,E⟩ fun _ h=>h.skip [])
end

section
variable {K:Nat→Prop}{w0:World}{H:List AV}
theorem lG:∀n:Fin 32,0<n.1→(BW (-(n.1:Int)) &&& 31).toNat=32-n.1∧(32-(BW (-(n.1:Int)) &&& 31)).toNat=n.1:=by decide
theorem ke(x:UInt32)(n:Nat)(h0:0<n)(h1:n<32):UX x (-(n:Int))=J2 x n:=by
 obtain⟨e1,e2⟩:=lG ⟨n,h1⟩ h0
 simp only at e1 e2
 unfold UX J2
 rw[e1,e2,UInt32.or_comm]
theorem Gr(x:UInt32)(n:Nat)(h0:0<n)(h1:n<32):zC K w0 229 [AA x,vI n] [] H (fun r M=>r=AA (J2 x n)∧M=[]):=by
 refine UJ.enter Tryz.func229 rfl rfl ?_
 refine Z (O E (Y (Z (J E (J E (oB E E zO zO (AQ 0 cE (Hh x (-(n:Int))) E (O E (Y (AL ?_))))))))))
 exact AX (De E E) (AY (M:=[]) ⟨by rw[ke x n h0 h1],E⟩ fun _ h=>h.skip [])
theorem Zo(s:List UInt8)(hs:s.length=64):zC K w0 228 [vS s] [] H (fun r M=>r=.agg (DB AA (Dx s))∧M=[]):=by
 refine UJ.enter Tryz.func228 rfl rfl ?_
 refine Z ?_
 refine Ag E lQ zU fun b0=>?_
 refine Y (Z ?_)
 refine Ag E lQ zU fun b1=>?_
 refine Y (AE (Z (J E (Y (AM ?_)))))
 refine SX.mono (A5 (α:=Nat) (fun i=>i≤64) (fun i=>[(0,vS s),(2,vP b0 0),(3,vP b1 0),(8,vI i)]) (fun i=>AN b1 (.cells (DB AA (E6 s i++List.replicate (64-i) 0)) 296)::AN b0 (.cells (DB AA (List.replicate 64 0)) 296)::H) (fun i=>64-i) (fun i D hp=>?_) 0 zO) tL
 have hlen:=Lv s i
 refine Z (V E Aw (Y (AE ?_)))
 refine As E (fun hc1=>?_) (fun hc1=>?_)
 have hi:i<64:=by simp at hc1;omega
 refine AI (AG (AE (AM (Z (J E (O E (Y (AE (Z (J E (V E Aw (Y ?_))))))))))))
 refine As E (fun hc2=>?_) (fun hc2=>?_)
 have h16:i<16:=by simp at hc2;omega
 refine Z (J E (V E (Ky zO zO) (O E (Y (AE (Ak Ca [] (Bo [(true,0),(true,1),(true,2),(true,3),(true,4),(true,5),(true,6),(true,7),(true,8),(true,9),(true,10),(true,11),(true,12),(true,13),(true,14),(true,15),(true,16),(true,17),(true,18),(true,19),(true,20),(true,21),(true,22),(true,23),(true,24),(true,25),(true,26)] (.last 27 .nil)) zK (J E (J E (J E (Gj (4*i) E Bj E E zO zO ?_))))))))))
 refine Au E E (DN Cl Bv) ?_
 refine V E (E0.shl32 (n:=24)) ?_
 refine J E (J E (V E (BU zO zO) (Gj ((4*i)+1) E Bj E E zO zO (Au E E (DN Cl Bv) ?_))))
 refine V E (E0.shl32 (n:=16)) ?_
 refine V E DZ (J E (J E (V E (BU zO zO) (Gj ((4*i)+2) E Bj E E zO zO (Au E E (DN Cl Bv) ?_)))))
 refine V E (E0.shl32 (n:=8)) ?_
 refine V E DZ (J E (J E (V E (BU zO zO) (Gj ((4*i)+3) E Bj E E zO zO (Au E E (DN Cl Bv) (V E DZ ?_))))))
 refine Cq (n:=i) E Qs Bk E E zO zO ?_
 refine BN ?_
 refine Ua (f:=AA) 0 E E E E Bk E E zQ zT ?_
 rw[S6 _ _ _ 64 i hlen hi]
 refine Y (Ax (A3 (Az (AG (AK (V E (BU zO zO) (J E (AU ?_))))))))
 refine Ai (i+1) zO zO ⟨E,E,E,E,zT⟩ (fun w h=>by
  have e:Qy s (E6 s i)=jH s (4*i):=by unfold Qy;rw[hlen,if_pos h16]
  rw[E6,e]
  exact h)
 have h16:16≤i:=by simp at hc2;omega
 refine AI (AG (AE (Ak Ca [0] (Pl.of [(true,0),(true,1),(true,2),(true,3),(true,4),(true,5),(true,6),(true,7),(true,8),(true,9)]) zK (J E (V E (Dh zO zO) ?_)))))
 refine Cq (n:=(i-15)) E Qs Bk E E zO zO ?_
 refine Bh E A6 E (Ch 0 E (Ur 0 zO)) (J E (V E (Dh zO zO) ?_))
 refine Cq (n:=(i-2)) E Qs Bk E E zO zO ?_
 refine Bh E A6 E (Ch 0 E (Ur 0 zO)) (O E (O E (Y (Ak Ca [0] (Bo [(true,0),(true,1),(true,2),(true,3),(true,4),(true,5),(true,6),(true,7),(true,8),(true,9),(true,10),(true,12),(true,15),(true,16),(true,19),(true,21),(true,24),(true,25),(false,11),(false,13),(true,14),(true,17),(true,18),(false,20),(false,22),(true,23),(true,26),(true,27),(true,28)] (.last 29 .nil)) zK (J E (J E (V E (Dh zO zO) ?_)))))))
 refine Cq (n:=(i-16)) E Qs Bk E E zO zO ?_
 refine Bh E A6 E (Ch 0 E (Ur 0 zO)) (J E (V E (Dh zO zO) ?_))
 refine Cq (n:=(i-7)) E Qs Bk E E zO zO ?_
 refine Bh E A6 E (Ch 0 E (Ur 0 zO)) (V E Bx (J E (J E (J E ?_))))
 refine V E (E0.shr32 (n:=3)) ?_
 refine J E (J E (J E ?_))
 refine V E (E0.shr32 (n:=10)) ?_
 refine BO 0 Nc (Gr _ 7 zO zO) E ⟨⟨0,E⟩,zT⟩ (BO 0 Nc (Gr _ 18 zO zO) E ⟨⟨0,E⟩,zT⟩ (V E CX (V E CX (V E Bx (BO 0 Nc (Gr _ 17 zO zO) E ⟨⟨0,E⟩,zT⟩ (BO 0 Nc (Gr _ 19 zO zO) E ⟨⟨0,E⟩,zT⟩ (V E CX ?_)))))))
 refine V E CX (V E Bx ?_)
 refine Cq (n:=i) E Qs Bk E E zO zO ?_
 refine BN ?_
 refine Ua (f:=AA) 0 E E E E Bk E E zQ zT ?_
 rw[S6 _ _ _ 64 i hlen hi]
 refine AU (An (AG (AK (V E (BU zO zO) (J E (AU ?_))))))
 refine Ai (i+1) zO zO ⟨E,E,E,E,zT⟩ (fun w h=>by
  have e:Qy s (E6 s i)=(E6 s i).getD (i-16) 0+(E6 s i).getD (i-7) 0+nj ((E6 s i).getD (i-15) 0)+mJ ((E6 s i).getD (i-2) 0):=by unfold Qy;rw[hlen,if_neg zO]
  rw[E6,e]
  exact h)
 have hi:i=64:=by simp at hc1;omega
 subst hi
 refine Ax (A3 (BL (Az (AG (Z ?_)))))
 refine Ab ((Dx s).map AA) E mS (by simp[Dx,hlen]) E (Cd 0 E (fun j u hu=>by simpa[DB,Dx]using hu)) ?_
 refine OO 1 E E E E rz (by simp[Dx,hlen]) (by simp[DB]) (Nh zV (Dx s)) zT ?_
 refine Y (AL ?_)
 exact AX (FD E (BC 1 ((Dx s).map AA) mS (by simp[Dx,hlen]) E E (by simp only[List.drop_zero];exact List.take_of_length_le (by simp[Dx,hlen])))) (AY (M:=[]) ⟨E,E⟩ fun _ h=>h.skip [_,_])
end

section
variable {K:Nat→Prop}{w0:World}{H:List AV}
theorem cw(T h:List UInt32)(tl:List Value)(s:List UInt8)(b:Nat)(e:TypeId)(hT:TI K w0 3 T)(hTl:T.length=64)(hh:h.length=8)(hs:s.length=64):zC K w0 214 [vP b 0,vS s] [AN b (.cells (M3 AA h tl) e)] H (fun r M=>r=.tuple #[]∧M=[AN b (.cells (M3 AA (Qk T h s) tl) e)]):=by
 refine UJ.enter Tryz.func214 rfl rfl ?_
 refine AE (Ak Ca [0] (Pl.of [(true,0),(true,1),(true,2),(true,3),(true,4),(true,5),(true,6),(true,7),(true,8),(true,9),(true,10),(true,11),(true,12),(true,13),(true,14),(true,15),(true,16),(true,17),(true,18),(true,19),(true,20),(true,21),(true,22),(true,23),(true,24),(true,25),(true,26),(true,27),(true,28),(true,29),(true,30),(true,31),(true,32),(true,33),(true,34),(true,35),(true,36),(true,37),(true,38),(true,39)]) zK (J E (AW E E ?_)))
 refine Cq (n:=0) E PG Bk E E zO zO ?_
 refine Bh E A6 E (Ch 0 E (Jh 0 zO)) (J E (AW E E ?_))
 refine Cq (n:=1) E PG Bk E E zO zO ?_
 refine Bh E A6 E (Ch 0 E (Jh 0 zO)) (J E (AW E E ?_))
 refine Cq (n:=2) E PG Bk E E zO zO ?_
 refine Bh E A6 E (Ch 0 E (Jh 0 zO)) (J E (AW E E ?_))
 refine Cq (n:=3) E PG Bk E E zO zO ?_
 refine Bh E A6 E (Ch 0 E (Jh 0 zO)) (J E (AW E E ?_))
 refine Cq (n:=4) E PG Bk E E zO zO ?_
 refine Bh E A6 E (Ch 0 E (Jh 0 zO)) (J E (AW E E ?_))
 refine Cq (n:=5) E PG Bk E E zO zO ?_
 refine Bh E A6 E (Ch 0 E (Jh 0 zO)) (J E (AW E E ?_))
 refine Cq (n:=6) E PG Bk E E zO zO ?_
 refine Bh E A6 E (Ch 0 E (Jh 0 zO)) (J E (AW E E ?_))
 refine Cq (n:=7) E PG Bk E E zO zO ?_
 refine Bh E A6 E (Ch 0 E (Jh 0 zO)) (O E (O E (O E (O E (O E (O E (O E ?_)))))))
 refine O E (Y (AE (Z (J E (AQ 0 pW (Zo s hs) E (J E (Y (AM ?_))))))))
 refine SX.mono (A5 (α:=Nat) (fun i=>i≤64) (fun i=>[(0,vP b 0),(4,AA (GV T (Dx s) h i).a),(5,AA (GV T (Dx s) h i).b),(6,AA (GV T (Dx s) h i).c),(7,AA (GV T (Dx s) h i).d),(8,AA (GV T (Dx s) h i).e),(9,AA (GV T (Dx s) h i).f),(10,AA (GV T (Dx s) h i).g),(11,AA (GV T (Dx s) h i).i),(51,.agg (DB AA (Dx s))),(52,vI i)]) (fun i=>AN b (.cells (M3 AA h tl) e)::H) (fun i=>64-i) (fun i D hp=>?_) 0 zO) tL
 refine Z (V E Aw (Y (AE ?_)))
 refine As E (fun hc1=>?_) (fun hc1=>?_)
 have hi:i<64:=by simp at hc1;omega
 have hw:(Dx s)[i]? = some ((Dx s).getD i 0):=by
  rw[List.getD_eq_getElem?_getD,List.getElem?_eq_getElem (by rw[Dx,Lv];exact hi)]
  rfl
 refine AI (AG (AE (AM (Z (J E ?_)))))
 refine OL (i:=i) E Qs A6 E E zO zO (Ez hw) ?_
 refine O E (O E (Y (AE (Ak Ca [] (Pl.of [(true,0),(true,1),(true,3),(true,6),(true,10),(true,11),(true,12),(true,13),(true,14),(true,15),(true,16),(true,17),(true,19),(true,20),(true,21),(true,23),(false,2),(false,4),(true,5),(false,7),(true,8),(true,9),(true,18),(true,22),(true,24),(true,25)]) zK (J E (J E (J E (J E (J E ?_)))))))))
 refine J E (V E HX (J E (az E E (J E (V E HX (V E CX (J E ?_)))))))
 refine Cq (b:=3) (n:=i) E Qs Bk E E zO zO ?_
 refine Bh E A6 E (hT.load zO) (J E (AQ 0 Nc (Gr _ 6 zO zO) E (AQ 0 Nc (Gr _ 11 zO zO) E (V E CX (AQ 0 Nc (Gr _ 25 zO zO) E (V E CX (V E Bx ?_)))))))
 refine V E Bx (V E Bx (V E Bx (O E (Y (Z (J E (AQ 0 Nc (Gr _ 2 zO zO) E (J E (AQ 0 Nc (Gr _ 13 zO zO) E ?_)))))))))
 refine V E CX (J E (AQ 0 Nc (Gr _ 22 zO zO) E (V E CX (J E (J E (V E HX (J E ?_)))))))
 refine J E (V E HX (V E CX (J E (J E (V E HX (V E CX (V E Bx ?_)))))))
 refine O E (Y (AK (J E (J E (J E (J E (J E (V E Bx (J E ?_)))))))))
 refine J E (J E (J E (J E (V E Bx (O E (O E (O E ?_)))))))
 refine O E (O E (O E (O E (O E (AU (An (AG (AK (V E (BU zO zO) (J E (AU ?_)))))))))))
 exact Ai (i+1) zO zO ⟨E,E,E,E,E,E,E,E,E,E,E,zT⟩
 have hi:i=64:=by simp at hc1;omega
 subst hi
 generalize hfin:GV T (Dx s) h 64=fin
 refine Ax (A3 (BL (Az (AG (Z (J E (J E (J E (J E (J E (J E (J E (J E ?_)))))))))))))
 refine SC (fin.list.map AA) rfl mc Bk tW rfl ⟨rfl,rfl,rfl,rfl,rfl,rfl,rfl,rfl,trivial⟩ rfl rfl (fun v hv=>by obtain⟨x,_,rfl⟩:=List.mem_map.1 hv;rfl) ?_
 refine J E ?_
 have hfl:fin.list.length=h.length:=by rw[hh];rfl
 refine Y (AM ?_)
 refine SX.mono (A5 (α:=Nat) (fun i=>i≤8) (fun i=>[(0,vP b 0),(122,.agg (DB AA fin.list)),(123,vI i)]) (fun i=>AN b (.cells (M3 AA (RQ h fin.list i) tl) e)::H) (fun i=>8-i) (fun i D hp=>?_) 0 zO) tL
 refine Z (V E Aw (Y (AE ?_)))
 refine As E (fun hc2=>?_) (fun hc2=>?_)
 have hi:i<8:=by simp at hc2;omega
 have hml:=Ue h _ hfl i
 have hw:fin.list[i]? = some (fin.list.getD i 0):=by
  rw[List.getD_eq_getElem?_getD,List.getElem?_eq_getElem zO]
  rfl
 refine AI (AG (AE (AM (Z (J E ?_)))))
 refine OL (i:=i) E mc A6 E E zO zO (Ez hw) ?_
 refine O E (O E (Y (Ak Ca [0] (Bo [(true,0),(true,1),(true,2),(true,3),(true,4),(true,5),(true,6),(true,7),(true,8)] (.last 9 .nil)) zK (J E (J E (AW E E ?_))))))
 refine Cq (n:=i) E PG Bk E E zO zO ?_
 refine Bh E A6 E (Ch 0 E (Jh 0 zO)) ?_
 rw[Zx h _ hfl i zO]
 refine J E (V E Bx (AW E E ?_))
 refine Cq (n:=i) E PG Bk E E zO zO ?_
 refine BN ?_
 refine qM (f:=AA) 0 E E E E Bk E E zO zT ?_
 rw[ah h _ hfl i zO]
 refine AU (An (AG (AK (V E (BU zO zO) (J E (AU ?_))))))
 exact Ai (i+1) zO zO ⟨E,E,E,zT⟩
 have hi:i=8:=by simp at hc2;omega
 subst hi
 refine Ax (A3 (BL (Az ?_)))
 have hfull:=YW h _ hfl
 rw[hh]at hfull
 rw[hfull,←hfin]
 exact Cr (DU E) (AY (M:=[_]) ⟨E,E⟩ fun _ h=>h)
theorem Wd(T:List UInt32)(h:Mv)(rest s:List UInt8)(n:Int)(b:Nat)(e:TypeId)(hT:TI K w0 3 T)(hTl:T.length=64)(hs:s.length=64):zC K w0 214 [vP b 0,vS s] [AN b (.cells (Nr h rest n) e)] H (fun r M=>r=.tuple #[]∧M=[AN b (.cells (Nr (UB T h s) rest n) e)]):=by
 have h1:=cw (K:=K) (w0:=w0) (H:=H) T h.list [vS rest,vI n] s b e hT hTl rfl hs
 rw[←Qh (Tf (T:=T) (s:=s) (show h.list.length=8 from rfl))]at h1
 exact h1
end

section
variable {K:Nat→Prop}{w0:World}{H:List AV}
def fM(p:Nat×List UInt8):List Value:=[vI p.1,vS p.2]
theorem cH(s:List UInt8)(b:Nat)(hn:s.length≤1099511627776):kc Tryz.prog K w0 230 [vP b 0] [AN b (.cells #[vS s] 9)] fM (OI s):=by
 intro lp J9 X T hy G h0
 refine UJ.enter Tryz.func230 rfl rfl ?_
 refine Z (O E (Y (AM ?_)))
 refine SX.mono (A5 (α:=Nat×List AV) (fun x=>x.1≤s.length / 64∧J9 ((OI s).take x.1) x.2) (fun x=>[(0,vY lp),(1,vP b 0),(3,vI (64*(x.1+1):Nat))]) (fun x=>AN b (.cells #[vS s] 9)::(x.2++T)) (fun x=>s.length / 64-x.1) (fun x D hp=>?_) (0,G) ⟨Nat.zero_le _,h0⟩) tL
 obtain⟨i,G⟩:=x
 obtain⟨hi,hJ⟩:=hp
 simp only at hi hJ
 refine AE (Z (J E (AF 0 FX E (BS E Bj E (V E IK (Y ?_))))))
 refine As E (fun hc1=>?_) (fun hc1=>?_)
 have hlt:i<s.length / 64:=by simp at hc1;omega
 have hg:=WP s i hlt
 refine AI (AG (AE (AM (Z (J E (J E (AF 0 FX E (J E (V E (Dh zO zO) (J E (XB (64*i) (64*(i+1)) E Bj E E E zO zO zO zO ?_)))))))))))
 have ht:64*(i+1)-64*i=64:=zO
 rw[ht]
 refine JJ (M2:=[_]) (G:=G) (T:=T) (vs:=[_,_]) (ok:=fun G1=>J9 ((OI s).take (i+1)) G1) (no:=X) E E ⟨E,E,zT⟩ E ?_ (fun bb G1 hG1=>⟨zT,?_⟩)
 intro M
 have:=hy _ _ _ (E7 hg).1 G hJ M
 rw[←(E7 hg).2]at this
 exact this
 refine CN E E (Y ?_)
 refine As E (fun hc2=>?_) (fun hc2=>?_)
 obtain rfl:bb=false:=by simpa using hc2
 refine AL (BX (Aa (Dj (BX ?_))))
 exact AX (DU E) (AY (M:=G1) (.inr hG1) fun _ h=>h.skip [_])
 obtain rfl:bb=true:=by simpa using hc2
 refine AI (An (AG (AK (J E (V E (BU zO zO) (O E (AU ?_)))))))
 refine Ai (i+1,G1) ⟨hlt,hG1⟩ (by simp only;omega) ⟨E,E,?_,zT⟩
 have e:((64*(i+1):Nat):Int)+64=((64*(i+1+1):Nat):Int):=zO
 simp only[look,Nat.beq,Be]
 rw[←e]
 refine Ax (A3 (BL (Az ?_)))
 have hle:i=s.length / 64:=by simp at hc1;omega
 exact Cr (DU E) (AY (M:=G) (.inl (by rw[List.take_of_length_le (by rw[Ot];omega)]at hJ;exact hJ)) fun _ h=>h.skip [_])
theorem bJ(s:List UInt8):zC K w0 215 [vS s] [] H (fun r M=>∃b,r=.func (.func 230) #[] #[vP b 0]∧M=[AN b (.cells #[vS s] 9)]):=by
 refine UJ.enter Tryz.func215 rfl rfl ?_
 refine Z ?_
 refine Bd E E zU fun b0=>?_
 refine O E (Y (Z ?_))
 refine Hb (fv:=#[]) (cv:=#[_]) E E E ?_
 refine O E (Y (AL ?_))
 exact AX (De E E) (AY (M:=[_]) ⟨b0,E,E⟩ fun _ h=>h)
theorem cC(h:Mv)(tl:List Value)(b:Nat)(e:TypeId):zC K w0 216 [vP b 0] [AN b (.cells (M3 AA h.list tl) e)] H (fun r M=>r=vS (h.list.flatMap HS)∧M=[AN b (.cells (M3 AA h.list tl) e)]):=by
 refine UJ.enter Tryz.func216 rfl rfl ?_
 refine Z (O E (Y (Z (O E (Y (AE (Z (J E (J E (Y (AM (JG 5 1 ?_))))))))))))
 refine SX.mono (A5 (α:=Nat×Value) (fun x=>x.1≤8) (fun x=>[(3,x.2),(6,vP b 0),(7,vI x.1)]) (fun x=>DF 5 1 x.2 (4*x.1) (((h.list.take x.1).flatMap HS).map fun b=>Dn b)::AN b (.cells (M3 AA h.list tl) e)::H) (fun x=>8-x.1) (fun x D hp=>?_) (0,zN) zD) tL
 obtain⟨i,v⟩:=x
 simp only at hp
 refine Z (V E Aw (Y (AE ?_)))
 refine As E (fun hc1=>?_) (fun hc1=>?_)
 have hlt:i<8:=by simp at hc1;omega
 refine AI (AG (AE (AM (Z (AW E E ?_)))))
 refine Cq (n:=i) E PG Bk E E zO zO ?_
 refine Bh E A6 E (Ch 1 E (Jh 0 hlt)) (O E (Y (AK (J E (J E ?_)))))
 refine V E (E0.shr32 (n:=24)) ?_
 refine Au E E (Cs Bv Cl) (J E ?_)
 refine V E (E0.shr32 (n:=16)) ?_
 refine Au E E (Cs Bv Cl) (J E ?_)
 refine V E (E0.shr32 (n:=8)) ?_
 refine Au E E (Cs Bv Cl) (J E (Au E E (Cs Bv Cl) ?_))
 refine Bz [_,_,_,_] E CM KH LA ⟨E,E,E,E,zT⟩ E E E zX E E zU fun b0=>?_
 refine U3 1 rfl (m:=4) (news:=(HS (h.list.getD i 0)).map fun b=>Dn b) CM KH Vs LA rfl zD rfl rfl rfl rfl (AZ 0 rfl) (by intro u hu;obtain⟨x,_,rfl⟩:=List.mem_map.1 hu;rfl) zO zO zU fun v'=>?_
 refine O E (AU (An (AG (AK (V E (BU zO zO) (J E (AU ?_)))))))
 refine Ai (i+1,v') (by simp only;omega) (by simp only;omega) ⟨E,E,E,zT⟩ (fun w hw=>by
  have e1:h.list.take (i+1)=h.list.take i++[h.list.getD i 0]:=by
   rw[List.take_add_one,List.getD_eq_getElem?_getD,List.getElem?_eq_getElem (show i<h.list.length from hlt)]
   rfl
  simp only
  rw[e1,List.flatMap_append,List.map_append]
  simp only[List.flatMap_cons,List.flatMap_nil,List.append_nil]
  exact hw.skip [_])
 have hi:i=8:=by simp at hc1;omega
 subst hi
 refine Ax (A3 (BL (Az (AG (Z (J E ?_))))))
 refine ZU (s:=h.list.flatMap HS) 0 E CM Cl Bj E E ?_
 refine O E (Y (AL ?_))
 exact AX (De E E) (AY (M:=[_]) ⟨E,E⟩ fun _ h=>h.skip [_])
end

section
variable {K:Nat→Prop}{w0:World}{H:List AV}
theorem VI(T:List UInt32)(h:Mv)(rest s:List UInt8)(n:Int)(b:Nat)(e:TypeId)(hT:TI K w0 3 T)(hTl:T.length=64)(hr:rest.length<64)(hn:s.length≤1099511627776):zC K w0 192 [vP b 0,vS s] [AN b (.cells (Nr h rest n) e)] H (fun r M=>r=.tuple #[]∧M=[AN b (.cells (Nr (D4 T h (rest++s)).1 (D4 T h (rest++s)).2 n) e)]):=by
 refine UJ.enter Tryz.func192 rfl rfl ?_
 refine Z ?_
 refine Bd E E zU fun b0=>?_
 refine Bd E E zU fun b1=>?_
 refine Y (K6 ?_)
 refine YJ (α:=Mv×List UInt8×List UInt8) (fun x=>D4 T x.1 (x.2.1++x.2.2)=D4 T h (rest++s)∧x.2.1.length<64∧(x.2.1≠[]→(x.2.1++x.2.2).length<64)∧x.2.2.length≤s.length) (fun x=>[(2,vP b0 0),(3,vP b1 0)]) (fun x=>AN b1 (.cells #[vS x.2.2] 9)::AN b0 (.cells #[vP b 0] 268)::AN b (.cells (Nr x.1 x.2.1 n) e)::H) ?_ (fun x hx=>?_)
 refine AE (Ak Ca [0,1,2] (Pl.of [(true,0),(true,1),(true,2),(true,3),(true,4),(true,5),(true,6),(true,7),(true,8),(true,9),(true,10),(true,11),(true,12),(true,13),(true,14),(true,15)]) zK (AF 1 PC E (AW E E (AD E LI (AF 2 FX E ?_)))))
 refine V E (Ij (t:=[])) ?_
 refine J E ?_
 refine Cw (c:=decide ((64:Int)≤(rest.length:Int)+s.length)) 13 10 23 E (fun hb k=>?_) (fun hb k=>?_) ?_
 refine AF 1 PC E (AW E E (AD E LI (AF 2 FX E (BS E Bj E (AF 0 FX E (BS E Bj E (V E (BU zO zO) ?_)))))))
 refine V E Iy (Ae E E E ?_)
 exact k.mono tL
 refine AB E (AB E (AB E (AB E (AB E (AB E (AB E (AB E ?_)))))))
 refine AB E (Ae E E E ?_)
 exact k.mono tL
 refine Y ?_
 refine As E (fun hc1=>?_) (fun hc1=>?_)
 have hne:rest≠[]∧64≤rest.length+s.length:=by simp at hc1;exact⟨hc1.1,by omega⟩
 refine Z (AF 1 PC E (AW E E (AD E LI (AF 2 FX E (BS E Bj E (V E (Dh zO zO) (O E (Y (AE (Ak Ca [0,1,2] (Bo [(true,0),(true,1),(true,2),(true,3),(true,4),(true,5),(true,6),(true,7),(true,8),(true,9),(true,10)] (.last 11 .nil)) zK ?_))))))))))
 refine AF 1 PC E (AW E E (AD E Xp (AF 1 PC E (AW E E (AD E LI (AF 2 FX E (AF 0 FX E ?_)))))))
 refine J E (O5 (64-rest.length) E Bj E E zO zO (V E (Fl zQ) (BN (SL.pick [2,0,1] 3 (AQ 1 jp (Wd T h rest (rest++s.take (64-rest.length)) n b e hT hTl zQ) E (SL.pick [1,2,0] 3 (Y (Ak Ca [0,1] (Bo [(true,0),(true,1),(true,2),(true,3),(true,4),(true,5),(false,6)] (.last 7 .nil)) zK (AF 1 PC E ?_)))))))))
 refine AF 0 FX E (J E (Ns (64-rest.length) E Bj E E zO zO (AW E E (AD E LI (Aj 2 E E E E Ix E E E ⟨⟨0,E⟩,⟨1,E⟩,zT⟩ (BN (Aj 0 E E E E Ix E E E zT (AU ?_))))))))
 refine Sq (UB T h (rest++s.take (64-rest.length)),[],s.drop (64-rest.length)) ⟨?_,by simp,fun h=>absurd E h,by simp⟩ tL
 have e1:rest++s=(rest++s.take (64-rest.length))++s.drop (64-rest.length):=by rw[List.append_assoc,List.take_append_drop]
 have e2:=U0 (T:=T) (h:=h) (p:=rest++s.take (64-rest.length)) (s:=s.drop (64-rest.length)) zQ
 rw[e1,e2]
 rfl
 refine AI ?_
 refine Sq (h,rest,s) ⟨E,hr,fun hne=>?_,Nat.le_refl _⟩ tL
 simp at hc1
 have:=hc1 hne
 simp
 omega
 
 obtain⟨h1,r1,s1⟩:=x
 obtain⟨hx1,hx2,hx3,hx4⟩:=hx
 simp only at hx1 hx2 hx3 hx4
 refine AE (Z (AF 1 PC E (AW E E (AD E LI (AF 2 FX E ?_)))))
 refine V E (Ij (t:=[])) ?_
 refine Y ?_
 refine As E (fun hc2=>?_) (fun hc2=>?_)
 have hsh:=hx3 (by simpa using hc2)
 rw[Pb hsh]at hx1
 rw[←hx1]
 refine AE (Ak Ca [0,1,2] (Bo [(true,0),(true,1),(true,2),(true,3),(true,4),(true,5),(true,6),(true,7)] (.last 8 .nil)) zK (AF 1 PC E (AW E E (AD E LI (AF 2 FX E (AF 0 FX E (V E (Fl zQ) (AW E E ?_))))))))
 refine AD E LI (BN (Aj 2 E E E E Ix E E E zT (Y (AL (Aa (FN ?_))))))
 exact AX (DU E) (AY (M:=[_]) ⟨E,E⟩ fun _ h=>h.skip [_,_])
 have hr1:r1=[]:=by simpa using hc2
 subst hr1
 rw[List.nil_append,LK]at hx1
 rw[←hx1]
 refine AI (AG (Z ?_))
 refine Ag E pK zU fun b2=>?_
 refine Aj 0 E E E E Mw E E E zT (Y (AE (Kn (AG (AE (Z (AF 1 FX E (Bp 0 pD (bJ s1) E ?_))))))))
 rintro _ _ ⟨bi,rfl,rfl⟩
 refine Y (AM ?_)
 refine QM (enc:=fM) (OI s1) (fun pre G=>G=AN b2 (.cells #[vI (64*pre.length:Nat)] 3)::AN b1 (.cells #[vS s1] 9)::AN b0 (.cells #[vP b 0] 268)::AN b (.cells (Nr (Gn T h1 s1 pre.length) [] n) e)::H) (fun c G=>c=.exit 0∧G=AN b2 (.cells #[vI (64*(s1.length / 64):Nat)] 3)::AN b1 (.cells #[vS s1] 9)::AN b0 (.cells #[vP b 0] 268)::AN b (.cells (Nr (Gn T h1 s1 (s1.length / 64)) [] n) e)::H) E pj E zV (cH s1 bi zO) E E (fun pre x suf G hxs hJ r lp Rest=>?_) (fun G D hJ=>?_) (fun c G D hX=>?_)
 obtain rfl:=hJ
 have hget:(OI s1)[pre.length]? = some x:=by rw[hxs];simp
 have hlt:pre.length<s1.length / 64:=by
  have:=Ot s1
  rw[hxs]at this
  simp at this
  omega
 rw[WP s1 _ hlt]at hget
 obtain rfl:=zI hget
 refine Z (O E (Y (AK (O E (AU (Lo (AM (Z (AF 2 PC E (AW E E (AD E Xp (J E (SL.pick [3,0,1,2] 4 (AQ 1 jp (Wd T (Gn T h1 s1 pre.length) [] _ n b e hT hTl zQ) E ?_))))))))))))))
 refine SL.pick [1,2,3,0] 4 (Y (Z (J E (Aj 0 E E E E Mw E E E zT (Y (Z (AF 1 FX E (BS E Bj E (J E (V E (Dh zO zO) (V E Aw (Y ?_))))))))))))
 refine As E (fun hc3=>?_) (fun hc3=>?_)
 refine Ax (MS ?_)
 have e1:pre.length+1=s1.length / 64:=by simp at hc3;omega
 exact Nv (G:=_::_::_::_::H) (by rw[←e1];exact⟨E,E⟩) (fun _ h=>h)
 refine AI (An ?_)
 exact Iq (G:=_::_::_::_::H) (by rw[show(pre++[(64*(pre.length+1),(s1.drop (64*pre.length)).take 64)]).length=pre.length+1 by simp];rfl) (fun _ h=>h)
 obtain rfl:=hJ
 rw[Ot]
 refine An (AG (Ak Ca [0,1,2] (Bo [(true,0),(true,1),(true,2),(true,3),(true,4),(true,5)] (.last 6 .nil)) zK (AF 2 PC E (AF 1 FX E (AF 0 D3 E (Ns (64*(s1.length / 64)) E Bj E E zO zO (AW E E (AD E LI (BN (Aj 3 E E E E Ix E E E zT (AU (jE ?_))))))))))))
 exact Cr (DU E) (AY (M:=[_]) ⟨E,E⟩ fun _ h=>h.skip [_,_,_])
 obtain⟨rfl,rfl⟩:=hX
 refine Ax (Az (AG (Ak Ca [0,1,2] (Bo [(true,0),(true,1),(true,2),(true,3),(true,4),(true,5)] (.last 6 .nil)) zK (AF 2 PC E (AF 1 FX E (AF 0 D3 E (Ns (64*(s1.length / 64)) E Bj E E zO zO (AW E E (AD E LI (BN (Aj 3 E E E E Ix E E E zT (AU (jE ?_)))))))))))))
 exact Cr (DU E) (AY (M:=[_]) ⟨E,E⟩ fun _ h=>h.skip [_,_,_])
end

section
variable {K:Nat→Prop}{w0:World}{H:List AV}
def Zy(e:TypeId):Prop:=liesAt Tryz.prog Tryz.prog.depth e (2 / Tryz.prog.cellsOf e) 0 172 1=true
theorem uE(v:Value)(w:World):(callFunc 185 [v].toArray).run Tryz.prog w=.ok (.value v) w:=by
 rw[run_callFunc_extern (e:=Extern.AbiNoEscape.same) Tryz.func185 zK zK zK zK]
 rfl
theorem Zk(e:TypeId)(b:Nat)(v:Value)(hl:Zy e):zC K w0 144 [vP b 0] [AN b (.cells #[.pointer none,v] e)] H (fun r M=>r=.tuple #[]∧M=[AN b (.cells #[vP b 0,v] e)]):=by
 refine UJ.enter Tryz.func144 rfl rfl ?_
 refine Z (J E (AW E E (AD E Ug (AF 0 iU E (HW E YN E E (Y (S7 E (AK (J E (J E ?_))))))))))
 refine ou 0 E YN oD gl E E E E ?_
 refine nJ E (vs:=[_]) ⟨E,zT⟩ (uE _) ?_
 refine ox 0 E oD YN gl E E hl (AW E E (AD E Ug (Aj 0 E E E E tx E E E zT (AU ?_))))
 exact Cr (DU E) (AY (M:=[_]) ⟨E,E⟩ fun _ h=>h)
theorem Zd(e:TypeId)(b:Nat)(v:Value):zC K w0 144 [vP b 0] [AN b (.cells #[vP b 0,v] e)] H (fun r M=>r=.tuple #[]∧M=[AN b (.cells #[vP b 0,v] e)]):=by
 refine UJ.enter Tryz.func144 rfl rfl ?_
 refine Z (J E (AW E E (AD E Ug (AF 0 iU E (HW E YN E E (Y (E5 E (Z (J E (AW E E ?_))))))))))
 refine AD E Ug (AF 0 iU E (J E (mP E YN gl E E (Y (E5 E (AI ?_))))))
 exact Cr (DU E) (AY (M:=[_]) ⟨E,E⟩ fun _ h=>h)
def PH(b:Nat)(p:Value):Prop:=p=.pointer none∨p=vP b 0
theorem Qn(e:TypeId)(b:Nat)(p v:Value)(hp:PH b p)(hl:Zy e):zC K w0 144 [vP b 0] [AN b (.cells #[p,v] e)] H (fun r M=>r=.tuple #[]∧M=[AN b (.cells #[vP b 0,v] e)]):=by
 rcases hp with rfl | rfl
 exact Zk e b v hl
 exact Zd e b v
theorem OM(e:TypeId)(b:Nat)(p v:Value)(n:Nat)(xs:List Value)(c:UInt8)(hp:PH b p)(hl:Zy e)(hn:n+1≤140737488355328):
  zC K w0 151 [vP b 0,Dn c] [AN b (.cells #[p,v] e),DF 5 1 v n xs] H
   (fun r M=>r=.nilIface∧∃v',M=[AN b (.cells #[vP b 0,v'] e),DF 5 1 v' (n+1) (xs++[Dn c])]):=by
 refine UJ.enter Tryz.func151 rfl rfl ?_
 refine Z (O E (Y (Z (J E (AQ 1 bF (Qn e b p v hp hl) E (Y (Z (J E (J E (AW E E (AD E Iz (AF 0 Po E ?_))))))))))))
 refine J E ?_
 refine Bz [Dn c] E CM KH LA ⟨E,zT⟩ E E E zX E E zU fun b1=>?_
 refine U3 2 E (news:=[Dn c]) CM KH Vs LA E zD E E E E (AZ 0 E) (by simp[Value.oneCell']) zO zO zU fun v'=>?_
 refine AW E E (AD E Iz ?_)
 refine eA (fun w hw=>ZG (hw.holds _ (List.mem_append_left _ (List.mem_of_getElem? (i:=2) E)))) fun hsh=>?_
 have hc1:v'.cells=#[v']:=by rcases hsh with⟨rfl,_⟩ | ⟨g,cap,rfl,_⟩<;>rfl
 have ho1:v'.oneCell'=true:=by rcases hsh with⟨rfl,_⟩ | ⟨g,cap,rfl,_⟩<;>rfl
 refine Aj 1 E E E E iI (by rw[hc1];rfl) (by rw[hc1];simp[ho1]) E zT ?_
 rw[hc1]
 refine Y (Z (O E (Y (AL ?_))))
 exact AX (De E E) (AY (M:=[_,_]) ⟨E,v',E⟩ fun _ h=>h.skip [_])
theorem Mc(e:TypeId)(b:Nat)(p v:Value)(n:Nat)(xs:List Value)(s:List UInt8)(hp:PH b p)(hl:Zy e)(hn:n+s.length≤140737488355328):
  zC K w0 101 [vP b 0,vS s] [AN b (.cells #[p,v] e),DF 5 1 v n xs] H
   (fun r M=>r=.tuple #[vI s.length,.nilIface]∧∃v',M=[AN b (.cells #[vP b 0,v'] e),DF 5 1 v' (n+s.length) (xs++s.map fun b=>Dn b)]):=by
 refine UJ.enter Tryz.func101 rfl rfl ?_
 refine Z (O E (O E (Y (Z (J E (AQ 1 bF (Qn e b p v hp hl) E (Y (Z (J E (J E (AW E E (AD E Iz ?_))))))))))))
 refine AF 0 Po E (J E ?_)
 refine mH 1 E CM Bj KH Vs LA E E E hn zU fun v'=>?_
 refine AW E E (AD E Iz ?_)
 refine eA (fun w hw=>ZG (hw.holds _ (List.mem_append_left _ (List.mem_of_getElem? (i:=1) E)))) fun hsh=>?_
 have hc1:v'.cells=#[v']:=by rcases hsh with⟨rfl,_⟩ | ⟨g,cap,rfl,_⟩<;>rfl
 have ho1:v'.oneCell'=true:=by rcases hsh with⟨rfl,_⟩ | ⟨g,cap,rfl,_⟩<;>rfl
 refine Aj 0 E E E E iI (by rw[hc1];rfl) (by rw[hc1];simp[ho1]) E zT ?_
 rw[hc1]
 refine Y (Z (J E (BS E Bj E (O E (O E (Y (AL ?_)))))))
 exact AX (HN E E E) (AY (M:=[_,_]) ⟨E,v',E⟩ fun _ h=>h)
theorem cf(e:TypeId)(b:Nat)(p v:Value)(n:Nat)(xs:List Value):
  zC K w0 102 [vP b 0] [AN b (.cells #[p,v] e),DF 5 1 v n xs] H
   (fun r M=>r=vI n∧M=[AN b (.cells #[p,v] e),DF 5 1 v n xs]):=by
 refine UJ.enter Tryz.func102 rfl rfl ?_
 refine Z (O E (Y (Z (J E (AW E E (AD E Iz (AF 0 Po E (fR 1 E CM E E (O E (Y (AL ?_)))))))))))
 exact AX (De E E) (AY (M:=[_,_]) ⟨E,E⟩ fun _ h=>h)
theorem Ku(e:TypeId)(b:Nat)(p v:Value)(n:Nat)(s:List UInt8)(hn:n≤140737488355328):
  zC K w0 103 [vP b 0] [AN b (.cells #[p,v] e),DF 5 1 v n (s.map fun b=>Dn b)] H
   (fun r M=>r=vS s∧M=[AN b (.cells #[p,v] e),DF 5 1 v n (s.map fun b=>Dn b)]):=by
 refine UJ.enter Tryz.func103 rfl rfl ?_
 refine Z (O E (Y (AE (Ak Ca [0,1] (Pl.of [(true,0),(true,1),(true,2),(true,3),(true,5),(true,6),(true,7),(true,8),(true,9),(false,4),(false,10),(true,11)]) zK (J E (AW E E (AD E Iz (AF 0 Po E (J E (AW E E ?_))))))))))
 refine AD E Iz (AF 0 Po E (fR 1 E CM E E ?_))
 refine ni 1 E oO E E ⟨⟨0,E⟩,⟨1,E⟩,zT⟩ fun q hq=>?_
 refine lY 1 E oO ug E E hq E zO ⟨⟨0,E⟩,⟨1,E⟩,zT⟩ (O E (Y (AL ?_)))
 exact AX (De E E) (AY (M:=[_,_]) ⟨E,E⟩ fun _ h=>h)
end

section
variable {K:Nat→Prop}{w0:World}{H:List AV}
theorem bP{y:UInt64}(h:y.toNat<4294967296):shr64 y 32=0:=by
 apply UInt64.toNat_inj.1
 have h1:y.toNat / 4294967296=0:=Nat.div_eq_of_lt h
 simp[shr64,h1]
theorem np(n:Nat)(h:n<9223372036854775808):decide ((9223372036854775807:UInt64)<BW n)=false:=by
 rw[decide_eq_false_iff_not,UInt64.lt_iff_toNat_lt]
 have h1:(9223372036854775807:UInt64).toNat=9223372036854775807:=by decide
 have h2:(BW n).toNat=n:=by simp only[BW,UInt64.toNat_ofNat'];omega
 omega
theorem bY{y:UInt64}(h:y.toNat<4294967296):y &&& 4294967295=y:=by
 apply UInt64.toNat_inj.1
 rw[UInt64.toNat_and]
 exact Nat.and_two_pow_sub_one_of_lt_two_pow (n:=32) h
theorem nu(y:UInt64)(hy:y.toNat<4294967296):zC K w0 142 [Ap 1,Ap y] [] H (fun r M=>r=.tuple #[Ap 0,Ap y]∧M=[]):=by
 refine UJ.enter Tryz.func142 rfl rfl ?_
 refine Z (O E (O E (Y (Z (J E ?_)))))
 refine V E (Qv (b:=4294967295)) ?_
 refine O E (Y (Z (J E ?_)))
 refine V E (E0.shr64 (n:=32)) ?_
 refine O E (Y (Z (J E ?_)))
 refine V E (Qv (b:=4294967295)) ?_
 refine O E (Y (Z (J E ?_)))
 refine V E (E0.shr64 (n:=32)) ?_
 refine O E (Y (Z (J E (J E (V E JS (O E (Y (Z (J E (J E (V E JS ?_)))))))))))
 refine J E ?_
 refine V E (E0.shr64 (n:=32)) ?_
 refine V E IW (O E (Y (Z (J E ?_))))
 refine V E (Qv (b:=4294967295)) ?_
 refine O E (Y (Z (J E ?_)))
 refine V E (E0.shr64 (n:=32)) ?_
 refine O E (Y (Z (J E (J E (J E (V E JS (V E IW (O E (Y (Z (J E ?_)))))))))))
 refine J E (V E JS (J E (V E IW (J E ?_))))
 refine V E (E0.shr64 (n:=32)) ?_
 refine V E IW (O E (Y (Z (J E (J E (V E JS (O E (Y (AL ?_)))))))))
 have h1:shr64 y 32=0:=bP hy
 have h2:y &&& 4294967295=y:=bY hy
 have h3:shr64 (1:UInt64) 32=0:=by decide
 have h4:(1:UInt64) &&& 4294967295=1:=by decide
 have h5:shr64 (0:UInt64) 32=0:=by decide
 have h6:(0:UInt64) &&& 4294967295=0:=by decide
 refine AX (HN E E E) (AY (M:=[]) ⟨?_,E⟩ fun _ h=>h.skip [])
 simp[h1,h2,h3,h4,h5,h6]
theorem li(y:UInt64)(hy:y.toNat<4294967296):zC K w0 98 [Ap 1,Ap y] [] H (fun r M=>r=.tuple #[Ap 0,Ap y]∧M=[]):=by
 refine UJ.enter Tryz.func98 rfl rfl ?_
 refine Z (O E (O E (Y (AE ?_))))
 refine As E (fun hc1=>absurd hc1 zD) (fun hc1=>?_)
 refine AI (AG (Z (J E (J E (AQ 0 pH (nu y hy) E (J E (Al E E E (Al E E E (O E (O E (Y (Z ?_))))))))))))
 refine J E (J E (O E (O E (Y (AL ?_)))))
 exact AX (HN E E E) (AY (M:=[]) ⟨E,E⟩ fun _ h=>h.skip [])
theorem mh(b n:Nat)(hn:n≤281474976710656):zC K w0 145 [vP b 0,vI n] [AN b (.cells #[vP b 0,zN] 172)] H (fun r M=>r=.tuple #[]∧∃v,M=[AN b (.cells #[vP b 0,v] 172),DF 5 1 v 0 []]):=by
 refine UJ.enter Tryz.func145 rfl rfl ?_
 refine AE (Ak Ca [0] (Pl.of [(true,0),(true,1),(true,2),(true,3),(true,4),(true,5),(true,6),(true,7),(true,9),(true,10),(true,11),(true,12),(true,13),(false,8),(true,14),(true,15)]) zK (J E (AW E E (AD E Iz (AF 0 Po E (eL E CM E (V E (Ky zO zO) (J E ?_))))))))
 refine V E (BU zO zO) (J E (AW E E (AD E Iz (AF 0 Po E (Nl E CM E ?_)))))
 refine oy (n:=n) (fn:=Tryz.f186) E E zO hn CM (fun w r w' hr=>by rw[run_callFunc_extern (e:=Extern.BytealgMakeNoZero.makeNoZero #[3] #[141]) Tryz.func186 zK zK zK zK];rw[show(Extern.BytealgMakeNoZero.makeNoZero #[3] #[141] #[vI n]).run Tryz.prog w=.ok r w' from hr];rfl) (fun _ _=>⟨⟨1,E⟩,zT⟩) fun b1 cs hcs hcm=>?_
 refine Y5 0 E CM KH E E E zO (O E (Y (Z (J E (J E (AW E E (AD E Iz (AF 1 Po E (oY E CM KH E E (Y (AK ?_)))))))))))
 refine J E (J E (AW E E (AD E Iz (Aj 1 E E E E iI E E E zT (AU ?_)))))
 refine SQ.heap (H':=DF 5 1 (.slice (some ⟨b1,0,none⟩) 0 cs.size) 0 []::AN b (.cells #[vP b 0,.slice (some ⟨b1,0,none⟩) 0 cs.size] 172)::H) ?_ fun w hw=>eF hw zS zO
 exact Cr (DU E) (AY (M:=[_,_]) ⟨E,_,E⟩ fun _ h=>h.perm (List.Perm.swap _ _ _))
theorem nI(b n:Nat)(p:Value)(hp:PH b p)(h0:0<n)(hn:n≤281474976710656):zC K w0 100 [vP b 0,vI n] [AN b (.cells #[p,zN] 172)] H (fun r M=>r=.tuple #[]∧∃v,M=[AN b (.cells #[vP b 0,v] 172),DF 5 1 v 0 []]):=by
 refine UJ.enter Tryz.func100 rfl rfl ?_
 refine Z (J E (AQ 1 bF (Qn 172 b p (.slice none 0 0) hp VT) E (Y (AE (Z (J E (V E Aw (Y ?_))))))))
 refine As E (fun hc1=>absurd hc1 zS) (fun hc1=>?_)
 refine AI (AG (AE (Ak Ca [0] (Pl.of [(true,0),(true,1),(true,2),(true,3),(true,4),(true,5),(true,6),(true,7),(true,8),(true,9),(true,10),(true,11),(true,12)]) zK (J E (AW E E (AD E Iz (AF 0 Po E (eL E CM E (J E (AW E E ?_))))))))))
 refine AD E Iz (AF 0 Po E (Nl E CM E (V E (Dh zO zO) (J E (V E Aw (Y ?_))))))
 refine As E (fun hc2=>?_) (fun hc2=>absurd hc2 zQ)
 refine AK (J E (J E (Bp 1 qh (mh b n hn) E ?_)))
 rintro _ _ ⟨rfl,v,rfl⟩
 refine AU ?_
 exact Cr (DU E) (AY (M:=[_,_]) ⟨E,v,E⟩ fun _ h=>h)
theorem NA(n:Nat)(hn:n≤8192):zC K w0 70 [vS [0],vI n] [] H (fun r M=>r=vS (List.replicate n 0)∧M=[]):=by
 refine UJ.enter Tryz.func70 rfl rfl ?_
 refine Z (O E (Y (AE (Z (J E (Y (AM (Z (V E CH (O E (Y ?_)))))))))))
 refine As E (fun hc1=>?_) (fun hc1=>?_)
 refine Z (O E (Y (AL (BX (Aa ?_)))))
 exact AX (De E E) (AY (M:=[]) ⟨by have h0:n=0:=(by simpa using hc1);subst h0;rfl,E⟩ fun _ h=>h.skip [])
 have h0:n≠0:=by intro h;subst h;simp at hc1
 refine Z (V E CH (O E (Y ?_)))
 refine As E (fun hc2=>?_) (fun hc2=>?_)
 refine Z (J E (O E (Y (AL (BX (Aa ?_))))))
 exact AX (De E E) (AY (M:=[]) ⟨by have h1:n=1:=(by simp at hc2;omega);subst h1;rfl,E⟩ fun _ h=>h.skip [])
 refine AI (An (AG (AE (Z (J E (V E Aw (Y ?_)))))))
 refine As E (fun hc3=>absurd hc3 zS) (fun hc3=>?_)
 refine AI (AG (Z (J E (BS E Bj E (Au E E (Df FW Is) (J E (Au E E (Df FW Is) (AQ 0 lU (li (BW n) (by simp[BW];omega)) E (J E (Al E E E ?_))))))))))
 refine Al E E E (O E (O E (Y (AE (Z (J E ?_))))))
 refine V E (Oc (b:=0)) ?_
 refine J E ?_
 refine DL (c:=false) 31 3 34 E (fun hb k=>?_) (fun hb k=>?_) ?_
 refine AB E (AB E (Ae E E E ?_))
 exact k.mono tL
 refine J E ?_
 refine V E (Oc (b:=9223372036854775807)) ?_
 rw[np n zO]
 refine Ae E E E ?_
 exact k.mono tL
 refine Y ?_
 refine As E (fun hc4=>absurd hc4 zD) (fun hc4=>?_)
 refine AI (AG (Z (J E ?_)))
 have hto:((BW n).toNat:Int)=n:=by simp only[BW,UInt64.toNat_ofNat'];omega
 refine Au E E (jk (n:=((BW n).toNat:Int)) Is FW zO zO) ?_
 rw[hto]
 refine O E (Y (AE (Z (J E (BS E Bj E (V E CH (Y ?_)))))))
 refine As E (fun hc5=>absurd hc5 zD) (fun hc5=>?_)
 refine AI (AG (AE (Z (J E (Gj 0 E Bj E E zD zD (Y (AM (AE (Z ?_)))))))))
 refine V E (Nf (b:=32)) ?_
 refine O E (Y ?_)
 refine As E (fun hc6=>absurd hc6 zD) (fun hc6=>?_)
 refine Z ?_
 refine V E (Nf (b:=45)) ?_
 refine O E (Y ?_)
 refine As E (fun hc7=>absurd hc7 zD) (fun hc7=>?_)
 refine Z ?_
 refine V E (Nf (b:=48)) ?_
 refine O E (Y ?_)
 refine As E (fun hc8=>absurd hc8 zD) (fun hc8=>?_)
 refine Z ?_
 refine V E (Nf (b:=61)) ?_
 refine O E (Y ?_)
 refine As E (fun hc9=>absurd hc9 zD) (fun hc9=>?_)
 refine AK ?_
 refine V E (Nf (b:=9)) ?_
 refine O E (Y ?_)
 refine As E (fun hc10=>absurd hc10 zD) (fun hc10=>?_)
 refine AI (An (AG (Z (J E (O E (Y (AE (Z (J E (V E CY (Y ?_)))))))))))
 refine As E (fun hc11=>absurd hc11 zQ) (fun hc11=>?_)
 refine AI (AG (Z ?_))
 refine Ag E cZ zU fun b0=>?_
 refine Y (Z (J E (Bp 1 oa (nI b0 n _ (.inl E) zO zO) E ?_)))
 rintro _ _ ⟨rfl,v1,rfl⟩
 refine Y (Z (J E (Bp 2 U8 (Mc 172 b0 _ v1 0 [] [0] (.inr E) VT zS) E ?_)))
 rintro _ _ ⟨rfl,v2,rfl⟩
 refine Y (AE (AM ?_))
 refine SX.mono (A5 (α:=Nat×Value) (fun x=>1≤x.1∧x.1≤n) (fun x=>[(0,vS [0]),(7,vI n),(8,vI n),(9,vP b0 0)]) (fun x=>AN b0 (.cells #[vP b0 0,x.2] 172)::DF 5 1 x.2 x.1 ((List.replicate x.1 0).map fun b=>Dn b)::H) (fun x=>n-x.1) (fun x D hp=>?_) (1,v2) ⟨Nat.le_refl _,by simp only;omega⟩) tL
 obtain⟨m,v⟩:=x
 obtain⟨h1,h2⟩:=hp
 simp only at h1 h2
 refine AE (Z (AQ 2 W5 (cf 172 b0 (vP b0 0) v m _) E (J E (V E Aw (Y ?_)))))
 refine As E (fun hc12=>?_) (fun hc12=>?_)
 refine AI (AG (AM (Z (J E (AQ 2 W5 (cf 172 b0 (vP b0 0) v m _) E (V E (Dh zO zO) (AQ 2 W5 (cf 172 b0 (vP b0 0) v m _) E (J E (kI E E E E (O E (Y (AK (AQ 2 OK (Ku 172 b0 (vP b0 0) v m (List.replicate m 0) zO) E ?_)))))))))))))
 refine J E (O5 (min (n-m) m) E Bj E E zO zQ (Bp 2 U8 (Mc 172 b0 _ v m _ ((List.replicate m 0).take (min (n-m) m)) (.inr E) VT zQ) E ?_))
 rintro _ _ ⟨rfl,v',rfl⟩
 refine AU (An ?_)
 exact Ai (m+min (n-m) m,v') ⟨by simp only;omega,by simp only;omega⟩ (by simp at hc12;simp only;omega) ⟨E,E,E,E,zT⟩ (fun w h=>by
  have e:(List.replicate m 0).map (fun b=>Dn b)++((List.replicate m 0).take (min (n-m) m)).map (fun b=>Dn b)=(List.replicate (m+min (n-m) m) 0).map fun b=>Dn b:=by
   rw[←List.map_append,List.take_replicate,List.replicate_append_replicate];congr 2;omega
  have e2:((List.replicate m (0:UInt8)).take (min (n-m) m)).length=min (n-m) m:=by simp
  rw[e,e2]at h
  exact h)
 refine Ax (A3 (BL (Az (AG (Z (AQ 2 OK (Ku 172 b0 (vP b0 0) v m (List.replicate m 0) zO) E (O E (Y (AL ?_)))))))))
 exact AX (De E E) (AY (M:=[]) ⟨by have h3:m=n:=(by simp at hc12;omega);subst h3;rfl,E⟩ fun _ h=>h.skip [_,_])
end

section
variable {K:Nat→Prop}{w0:World}{H:List AV}
theorem gu(n:UInt64)(i:Nat)(h:i<8):(SP n).take (i+1)=(SP n).take i++[(shr64 n (56-8*i)).toUInt8]:=by
 have:i=0∨i=1∨i=2∨i=3∨i=4∨i=5∨i=6∨i=7:=zO
 rcases this with rfl | rfl | rfl | rfl | rfl | rfl | rfl | rfl<;>rfl
theorem V3(T:List UInt32)(h:Mv)(s:List UInt8):(D4 T h s).2.length=s.length%64:=by
 rw[LK]
 simp
 omega
theorem c6(T:List UInt32)(h:Mv)(rest:List UInt8)(n:Nat)(b:Nat)(e:TypeId)(hT:TI K w0 3 T)(hTl:T.length=64)(hr:rest.length=n%64)(hn:n≤1099511627776):zC K w0 193 [vP b 0] [AN b (.cells (Nr h rest n) e)] H (fun r M=>r=vS ((D4 T h (rest++LB n)).1.list.flatMap HS)∧M=[AN b (.cells (Nr h rest n) e)]):=by
 refine UJ.enter Tryz.func193 rfl rfl ?_
 refine Z (O E (Y (AE (Z (J E (HW E rT E E (Y ?_)))))))
 refine As E (fun hc1=>absurd hc1 zS) (fun hc1=>?_)
 refine AI (AG (Z (J E (AW E E ?_))))
 refine Ab (Nr h rest n).toList E t9 E E (Cd 0 E (fun j u hu=>by simpa using hu)) ?_
 refine Ag E nC zU fun b0=>?_
 refine OO (c':=Nr h rest n) 0 E E E E sk E E (List.all_eq_true.1 (show(Nr h rest n).toList.all (·.oneCell')=true from E)) zT ?_
 refine Y (Z (J E (AW E E (AD E VD (AF 1 D3 E (Au E E (Df FW CQ) ?_))))))
 refine V E (JS (b:=8)) ?_
 refine O E (Y (Z (J E (AW E E (AD E VD (AF 1 D3 E (V E (Vp zO zO) (V E (Dh zO zO) (V E (Vp zO zO) ?_)))))))))
 refine O E (Y (Z (O E (Y (AE (Z (O E (Y (AM (JG 5 1 ?_))))))))))
 refine SX.mono (A5 (α:=Nat×Value) (fun x=>x.1≤8) (fun x=>[(3,vP b0 0),(4,Ap (BW n*8)),(5,vI (LT n)),(6,x.2),(7,vI (56-8*(x.1:Int)))]) (fun x=>DF 5 1 x.2 x.1 (((SP (BW n*8)).take x.1).map fun b=>Dn b)::AN b0 (.cells (Nr h rest n) 274)::AN b (.cells (Nr h rest n) e)::H) (fun x=>8-x.1) (fun x D hp=>?_) (0,zN) zD) ⟨E,E,?_,E,E,zT⟩
 rotate_left
 have e1:((119-(n:Int)%64)%64)=(LT n:Int):=by unfold LT;omega
 rw[←e1]
 rfl
 obtain⟨i,v⟩:=x
 simp only at hp
 refine AE (Z (J E (V E Iy (Y ?_))))
 refine As E (fun hc2=>?_) (fun hc2=>?_)
 have hi:i<8:=by simp at hc2;omega
 have e1:(56-8*(i:Int))=((56-8*i:Nat):Int):=zO
 refine AI (AG (AE (AM (AK (J E (J E (J E ?_)))))))
 refine jv E E (congrArg (fun z=>some (vI z)) e1) (E0.shr64 (n:=56-8*i)) ?_
 refine Au E E (Gu CQ Cl) ?_
 refine Bz [_] E CM KH LA ⟨E,zT⟩ E E E zX E E zU fun b1=>?_
 refine U3 1 E (m:=1) (news:=[Dn (shr64 (BW n*8) (56-8*i)).toUInt8]) CM KH Vs LA E zD E E E E (AZ 0 E) (by simp[Value.oneCell']) zO zO zU fun v'=>?_
 refine O E (AU (An (AG (AK (J E (V E (Dh zO zO) (O E (AU ?_))))))))
 refine Ai (i+1,v') (by simp only;omega) (by simp only;omega) ⟨E,E,E,E,?_,zT⟩ (fun w hw=>by
  simp only
  rw[gu _ _ hi,List.map_append]
  exact hw.skip [_])
 have e2:(56-8*((i+1:Nat):Int))=56-8*(i:Int)-8:=zO
 simp only[e2]
 rfl
 have hi:i=8:=by simp at hc2;omega
 subst hi
 refine Ax (A3 (BL (Az (AG (AE (Ak Ca [0] (Bo [(true,0),(true,3),(true,4),(false,1),(true,2),(true,5)] (.last 6 .nil)) zK (J E (J E ?_))))))))
 refine ZU (s:=SP (BW n*8)) 0 E CM Cl Bj E E ?_
 refine BO 0 Ps (NA (LT n) (by unfold LT;omega)) E ⟨⟨0,E⟩,zT⟩ (V E (Fl (by simp[LT];omega)) (V E (Fl (by simp[LT,SP];omega)) (BN (SL.pick [1] 2 (AQ 1 ja (VI T h rest (LB n) n b0 274 hT hTl zO (by simp[LB,LT,SP];omega)) E (Y (Z (AD E Xp (AQ 1 ol (cC (D4 T h (rest++LB n)).1 [vS (D4 T h (rest++LB n)).2,vI n] b0 274) E (O E (Y (AL ?_))))))))))))
 exact AX (De E E) (AY (M:=[_]) ⟨E,E⟩ fun _ h=>h.skip [_])
theorem iV(hF:TI K w0 1 Do.list):zC K w0 191 [] [] H (fun r M=>∃b,r=vP b 0∧M=[AN b (.cells (Nr Do [] 0) 274)]):=by
 refine UJ.enter Tryz.func191 rfl rfl ?_
 refine Z (O E (Y (Z ?_)))
 refine Ab (ad:=⟨1,0,none⟩) (Do.list.map AA) E sR E E (fun w hw j u hu=>by
  rw[CE,Nat.zero_add]
  rw[List.getElem?_map]at hu
  cases hx:Do.list[j]? with
  | none=>rw[hx]at hu;cases hu
  | some x=>
   rw[hx]at hu
   obtain rfl:=zI hu
   exact PF (ad:=⟨1,j,none⟩) hF.keep (hF.cell j x hx) w hw) ?_
 refine BK [_] E uB rS nC ⟨E,zT⟩ E ?_
 refine Bd E E zU fun b0=>?_
 refine O E (Y (AL ?_))
 exact AX (De E E) (AY (M:=[_]) ⟨b0,E,E⟩ fun _ h=>h)
theorem T3(T:List UInt32)(v:Value)(ls:List (List UInt8))(hT:TI K w0 3 T)(hTl:T.length=64)(hF:TI K w0 1 Do.list)(hk:CJ K w0 Tj 1 v ls)(hn:ls.flatten.length≤1099511627776)(hl:ls.length≤1099511627776):zC K w0 153 [v] [] H (fun r M=>r=vS (Mk T ls.flatten)∧M=[]):=by
 refine UJ.enter Tryz.func153 rfl rfl ?_
 refine Z (O E (Y (Z (Bp 0 oW (iV hF) E ?_))))
 rintro _ _ ⟨b0,rfl,rfl⟩
 refine O E (Y (AE (Z (J E (B1 hk E FY E (J E (Y (AM ?_))))))))
 have h0:D4 T Do (ls.take 0).flatten=(Do,[]):=Pb zS
 refine SX.heap (H':=AN b0 (.cells (Nr (D4 T Do (ls.take 0).flatten).1 (D4 T Do (ls.take 0).flatten).2 ((ls.take 0).flatten.length:Nat)) 274)::H) ?_ (fun w hw=>by rw[h0];exact hw)
 refine SX.mono (A5 (α:=Nat) (fun i=>i≤ls.length) (fun i=>[(3,vP b0 0),(7,v),(8,vI ls.length),(9,vI i)]) (fun i=>AN b0 (.cells (Nr (D4 T Do (ls.take i).flatten).1 (D4 T Do (ls.take i).flatten).2 ((ls.take i).flatten.length:Nat)) 274)::H) (fun i=>ls.length-i) (fun i D hp=>?_) 0 (Nat.zero_le _)) tL
 refine Z (V E Aw (Y (AE ?_)))
 refine As E (fun hc1=>?_) (fun hc1=>?_)
 have hlt:i<ls.length:=by simpa using hc1
 obtain⟨s,hs⟩:=Og hlt
 have hts:=(E7 hs).2
 have hfl:(ls.take (i+1)).flatten=(ls.take i).flatten++s:=by rw[hts];simp
 have hle:(ls.take (i+1)).flatten.length≤1099511627776:=by
  have:ls.flatten=(ls.take (i+1)).flatten++(ls.drop (i+1)).flatten:=by rw[←List.flatten_append,List.take_append_drop]
  rw[this]at hn
  simp only[List.length_append]at hn
  omega
 rw[hfl,List.length_append]at hle
 refine AI (AG (AE (AM (Z ?_))))
 refine Q0 i s hk E FY Ix E E E hs fun be off hcell=>?_
 refine Bh E FX E (fun w hw=>hcell _ w hw 0 _ E) ?_
 refine O E (Y (Z (J E (J E (AQ 1 ja (VI T _ _ s _ b0 274 hT hTl (ck T Do _) zO) E (Y (AK (J E (AW E E (AD E VD (AF 0 D3 E ?_)))))))))))
 refine J E (BS E Bj E (V E (BU zO zO) (AW E E (AD E VD (Aj 0 E E E E Mw E E E zT (AU (An (AG (AK (V E (BU zO zO) (J E (AU ?_))))))))))))
 refine Ai (i+1) hlt zO tL (fun w hw=>by
  rw[hfl,SO T Do (ls.take i).flatten s,List.length_append]
  exact hw)
 have hi:i=ls.length:=by simp at hc1;omega
 have ht:ls.take i=ls:=by rw[hi];exact List.take_length
 rw[ht]
 refine Ax (A3 (BL (Az (AG (Z (J E (AQ 1 qJ (c6 T _ _ ls.flatten.length b0 274 hT hTl (V3 T Do ls.flatten) hn) E (O E (Y (AL ?_))))))))))
 exact AX (De E E) (AY (M:=[]) ⟨by unfold Mk;rw[SO T Do ls.flatten],E⟩ fun _ h=>h.skip [_])
theorem io(T:List UInt32)(s:List UInt8)(hT:TI K w0 3 T)(hTl:T.length=64)(hF:TI K w0 1 Do.list)(hn:s.length≤1099511627776):zC K w0 194 [vS s] [] H (fun r M=>r=vS (Mk T s)∧M=[]):=by
 refine UJ.enter Tryz.func194 rfl rfl ?_
 refine Z (O E (Y (Z (J E ?_))))
 refine Bz [_] E FY Ix TN ⟨E,zT⟩ E E E zX E E zU fun b0=>?_
 refine Bm (vs:=[_]) (Hin:=[_]) E E ⟨E,zT⟩ bM E E (Cb (B:=[AN b0 (.cells #[vS s] 9)]) (Hin:=[]) fun K' w1 hk hB=>(T3 T _ [s] (hT.keeps hk) hTl (hF.keeps hk) (CJ.lent (enc:=Tj) (sz:=1) (xs:=[s]) zV (Nat.le_refl 1) E (hB _ (List.mem_cons_self ..))) (by simpa using hn) zS)) ?_
 rintro _ _ ⟨M',rfl,rfl,rfl⟩
 refine⟨trivial,?_⟩
 refine O E (Y (AL ?_))
 exact AX (De E E) (AY (M:=[]) ⟨by simp,E⟩ fun _ h=>h.skip [_])
end

section
variable {K:Nat→Prop}{w0:World}{H:List AV}
structure Hd(K:Nat→Prop)(w0:World)(T:List UInt32):Prop where
 tab:TI K w0 3 T
 len:T.length=64
 first:TI K w0 1 Do.list
theorem Hd.keeps{T:List UInt32}{K':Nat→Prop}{w1:World}(h:Hd K w0 T)(hk:Vz K w0 K' w1):Hd K' w1 T:=⟨h.tab.keeps hk,h.len,h.first.keeps hk⟩
theorem Tg(ls:List (List UInt8)):ls.flatMap Tj=ls.map vS:=by
 induction ls with
 | nil=>rfl
 | cons s r ih=>rw[List.flatMap_cons,ih];rfl
theorem Zj(k:List UInt8)(n i:Nat):(k++List.replicate n 0).getD i 0=k.getD i 0:=by
 simp only[List.getD_eq_getElem?_getD]
 rcases Nat.lt_or_ge i k.length with h | h
 rw[List.getElem?_append_left h]
 rw[List.getElem?_append_right h,List.getElem?_eq_none h]
 rw[List.getElem?_replicate]
 split<;>rfl
theorem fU(T:List UInt32)(v:Value)(ls:List (List UInt8))(hT:Hd K w0 T)(hn:ls.flatten.length≤1099511627776)(hl:ls.length≤1099511627776):zC K w0 153 [v] [DF 9 1 v ls.length (ls.flatMap Tj)] H (fun r M=>r=vS (Mk T ls.flatten)∧M=[DF 9 1 v ls.length (ls.flatMap Tj)]):=by
 intro w hw
 have h1:=Cb (P:=Tryz.prog) (K:=K) (w0:=w0) (f:=153) (args:=[v]) (H:=H) (B:=[DF 9 1 v ls.length (ls.flatMap Tj)]) (Hin:=[]) (post:=fun r M=>r=vS (Mk T ls.flatten)∧M=[]) (fun K' w1 hk hB=>T3 T v ls (hT.keeps hk).tab hT.len (hT.keeps hk).first (eV zV (hB _ (List.mem_cons_self ..))) hn hl) w hw
 refine h1.mono ?_
 rintro e w' ⟨r,M,rfl,⟨M',rfl,hr,rfl⟩,hw'⟩
 exact⟨r,_,rfl,⟨hr,rfl⟩,hw'⟩
theorem em(T:List UInt32)(b:Nat)(ls:List (List UInt8))(hT:Hd K w0 T)(hn:ls.flatten.length≤1099511627776)(hl:ls.length≤1099511627776):zC K w0 153 [.slice (some ⟨b,0,none⟩) ls.length ls.length] [AN b (.cells (DB vS ls) 9)] H (fun r M=>r=vS (Mk T ls.flatten)∧M=[AN b (.cells (DB vS ls) 9)]):=by
 intro w hw
 have h1:=Cb (P:=Tryz.prog) (K:=K) (w0:=w0) (f:=153) (args:=[.slice (some ⟨b,0,none⟩) ls.length ls.length]) (H:=H) (B:=[AN b (.cells (DB vS ls) 9)]) (Hin:=[]) (post:=fun r M=>r=vS (Mk T ls.flatten)∧M=[]) (fun K' w1 hk hB=>T3 T _ ls (hT.keeps hk).tab hT.len (hT.keeps hk).first (CJ.lent (enc:=Tj) (sz:=1) zV (Nat.le_refl _) (by rw[Tg,Wl];exact List.take_of_length_le zS) (hB _ (List.mem_cons_self ..))) hn hl) w hw
 refine h1.mono ?_
 rintro e w' ⟨r,M,rfl,⟨M',rfl,hr,rfl⟩,hw'⟩
 exact⟨r,_,rfl,⟨hr,rfl⟩,hw'⟩
theorem Wf(T:List UInt32)(key:List UInt8)(c:UInt8)(hT:Hd K w0 T)(hn:key.length≤549755813888):zC K w0 154 [vS key,Dn c] [] H (fun r M=>r=vS (F9 T key c)∧M=[]):=by
 refine UJ.enter Tryz.func154 rfl rfl ?_
 refine Z (O E (Y ?_))
 refine YJ (α:=Unit) (fun _=>True) (fun _=>[(0,vS (FU T key)),(1,Dn c)]) (fun _=>H) ?_ (fun x hx=>?_)
 refine Z (J E (BS E Bj E (V E CY (Y ?_))))
 refine As E (fun hc1=>?_) (fun hc1=>?_)
 refine AK (J rfl (AQ 0 pb (io T key hT.tab hT.len hT.first zO) rfl (O rfl (AU ?_))))
 have hk:FU T key=Mk T key:=by unfold FU;rw[if_pos (by simp at hc1;omega)]
 exact Sq () zT (by rw[hk];exact⟨E,E,zT⟩)
 refine AI ?_
 have hk:FU T key=key:=by unfold FU;rw[if_neg (by simp at hc1;omega)]
 exact Sq () zT (by rw[hk];exact⟨E,E,zT⟩)
 
 have hkl:=V8 T key
 refine Z (J E (J E (BS E Bj E (V E (Dh zO zO) ?_))))
 refine Bm (vs:=[_,_]) (Hin:=[]) E E ⟨E,E,zT⟩ Ps (by rw[show(64-(((FU T key).length:Nat):Int))=((64-(FU T key).length:Nat):Int) by omega];rfl) E (NA (64-(FU T key).length) zO) ?_
 rintro _ _ ⟨rfl,rfl⟩
 refine⟨trivial,?_⟩
 refine V E (Fl zQ) (O E (Y (Z ?_)))
 refine Ag E cZ zU fun b0=>?_
 refine Y (AE (Z (J E (Y (AM (JG 5 1 (SX.pick [1,0] 2 ?_)))))))
 refine SX.mono (A5 (α:=Nat×Value×Value) (fun x=>x.1≤64∧PH b0 x.2.1) (fun x=>[(0,vS (FU T key++List.replicate (64-(FU T key).length) 0)),(1,Dn c),(5,vP b0 0),(18,vI x.1)]) (fun x=>AN b0 (.cells #[x.2.1,x.2.2] 172)::DF 5 1 x.2.2 x.1 (((F9 T key c).take x.1).map fun b=>Dn b)::H) (fun x=>64-x.1) (fun x D hp=>?_) (0,.pointer none,zN) ⟨by decide,.inl E⟩) tL
 obtain⟨i,p,v⟩:=x
 obtain⟨hp,hadr⟩:=hp
 simp only at hp hadr
 refine Z (V E Aw (Y (AE ?_)))
 refine As E (fun hc2=>?_) (fun hc2=>?_)
 have hi:i<64:=by simp at hc2;omega
 refine AI (AG (AE (AM (Z (J E (O E (Y (AK (J E (J E (Gj i E Bj E E zO zQ (J E (V E QJ (Bp 2 XD (OM 172 b0 p v i _ _ hadr VT zO) E ?_))))))))))))))
 rintro _ _ ⟨rfl,v',rfl⟩
 refine AU (An (AG (AK (V E (BU zO zO) (J E (AU ?_))))))
 refine Ai (i+1,vP b0 0,v') ⟨by simp only;omega,.inr E⟩ (by simp only;omega) tL (fun w hw=>by
  have e1:(F9 T key c).take (i+1)=(F9 T key c).take i++[(FU T key++List.replicate (64-(FU T key).length) 0).getD i 0 ^^^ c]:=by
   rw[List.take_add_one,Zj]
   simp[F9,hi]
  simp only
  rw[e1,List.map_append]
  exact hw)
 have hi:i=64:=by simp at hc2;omega
 subst hi
 have ht:(F9 T key c).take 64=F9 T key c:=List.take_of_length_le (by rw[LS];omega)
 rw[ht]
 refine Ax (A3 (BL (Az (AG (Z (AQ 2 OK (Ku 172 b0 p v 64 (F9 T key c) zO) E (O E (Y (AL ?_)))))))))
 exact AX (De E E) (AY (M:=[]) ⟨E,E⟩ fun _ h=>h.skip [_,_])
theorem Tt(T:List UInt32)(key:List UInt8)(ls:List (List UInt8))(bs:Nat)(hT:Hd K w0 T)(hn:key.length≤549755813888)(hls:ls.flatten.length≤549755813888)(hl:ls.length≤549755813888):zC K w0 112 [vS key,.slice (some ⟨bs,0,none⟩) ls.length ls.length] [AN bs (.cells (DB vS ls) 9)] H (fun r M=>r=vS (Mt T key ls.flatten)∧M=[]):=by
 refine UJ.enter Tryz.func112 rfl rfl ?_
 refine Z (O E (Y (Z (J E (AQ 0 jS (Wf T key 54 hT hn) E ?_)))))
 refine Bz [_] E FY Ix TN ⟨E,zT⟩ E E E zX E E zU fun b0=>?_
 refine J E ?_
 refine SL.heap (H':=DF 9 1 (.slice (some ⟨b0,0,none⟩) 1 1) 1 [vS (F9 T key 54)]::AN bs (.cells (DB vS ls) 9)::H) ?_ (fun w hw=>cq hw E (Nat.le_refl 1) zD)
 refine U3 0 rfl (m:=ls.length) (news:=ls.map vS) FY Ix pF TN rfl zD rfl rfl rfl zS (AZ 1 rfl) (by intro u hu;obtain⟨x,_,rfl⟩:=List.mem_map.1 hu;rfl) zO zO zU fun v'=>?_
 have e1:DF 9 1 v' (1+ls.length) ([vS (F9 T key 54)]++ls.map vS)=DF 9 1 v' (F9 T key 54::ls).length ((F9 T key 54::ls).flatMap Tj):=by
  rw[Tg,List.length_cons,Nat.add_comm];rfl
 rw[e1]
 refine AQ 1 bM (fU T v' (F9 T key 54::ls) hT (by simp only[List.flatten_cons,List.length_append,LS];omega) (by simp only[List.length_cons];omega)) E (O E (Y (Z (J E (AQ 0 jS (Wf T key 92 hT hn) E (J E ?_))))))
 refine Bz [_,_] E FY Ix TN ⟨E,E,zT⟩ E E E zX E E zU fun b1=>?_
 refine AQ 1 bM (em T b1 [F9 T key 92,Mk T (F9 T key 54::ls).flatten] hT (by simp[LS,JN]) zS) E (O E (Y (AL ?_)))
 exact AX (De E E) (AY (M:=[]) ⟨by simp[Mt],E⟩ fun _ h=>h.skip [_,_,_])
theorem cm(a b:List UInt8)(ha:a.length≤549755813888):zC K w0 221 [vS a,vS b] [] H (fun r M=>r=vB (decide (a=b))∧M=[]):=by
 refine UJ.enter Tryz.func221 rfl rfl ?_
 refine Z (O E (Y (Z (O E (Y (AE (Z (J E (BS E Bj E (J E (BS E Bj E (P2 E E E (J E (Y (AM ?_)))))))))))))))
 refine SX.mono (A5 (α:=Nat×UInt8) (fun x=>x.1≤min a.length b.length∧(x.2=0↔∀j,j<x.1→a.getD j 0=b.getD j 0)) (fun x=>[(0,vS a),(1,vS b),(5,Dn x.2),(11,vI (min (a.length:Int) b.length)),(12,vI x.1)]) (fun x=>H) (fun x=>min a.length b.length-x.1) (fun x D hp=>?_) (0,0) ⟨Nat.zero_le _,by simp⟩) tL
 obtain⟨i,x⟩:=x
 obtain⟨hi,hx⟩:=hp
 simp only at hi hx
 refine Z (V E Aw (Y (AE ?_)))
 refine As E (fun hc1=>?_) (fun hc1=>?_)
 have hlt:i<min a.length b.length:=by simp at hc1;omega
 refine AI (AG (AE (AM (Z (J E (O E (Y (Ak Ca [] (Pl.of [(true,0),(true,1),(true,2),(true,3),(true,4),(true,5),(true,6),(true,7),(true,8),(true,9)]) zK (J E (J E (J E (Gj i E Bj E E zO zO (J E ?_)))))))))))))
 refine J E (Gj i E Bj E E zO zO (V E QJ (V E fc (O E (AU (An (AG (AK (V E (BU zO zO) (J E (AU ?_)))))))))))
 refine Ai (i+1,x ||| (a.getD i 0 ^^^ b.getD i 0)) ⟨hlt,?_⟩ (by simp only;omega) tL
 simp only
 rw[ai,gv,hx]
 constructor
 rintro⟨h1,h2⟩ j hj
 rcases Nat.lt_or_ge j i with h | h
 exact h1 j h
 obtain rfl:j=i:=zO
 exact h2
 intro h
 exact⟨fun j hj=>h j zO,h i zO⟩
 have hie:i=min a.length b.length:=by simp at hc1;omega
 refine Ax (A3 (BL (Az (AG (Z (J E ?_))))))
 refine V E (Nf (b:=0)) ?_
 refine J E ?_
 refine Cw (c:=decide ((a.length:Int)=b.length)) 27 6 33 E (fun hb k=>?_) (fun hb k=>?_) ?_
 refine J E (BS E Bj E (J E (BS E Bj E (V E CH (Ae E E E ?_)))))
 exact k.mono tL
 refine AB E (AB E (AB E (AB E (AB E (Ae E E E ?_)))))
 exact k.mono tL
 refine O E (Y (AL ?_))
 refine AX (De E E) (AY (M:=[]) ⟨?_,E⟩ fun _ h=>h.skip [])
 congr 1
 rw[Bool.eq_iff_iff,Bool.and_eq_true,decide_eq_true_eq,decide_eq_true_eq,decide_eq_true_eq,hx]
 constructor
 rintro⟨h1,h2⟩
 have hl:a.length=b.length:=zO
 refine List.ext_getElem hl fun j hj hj'=>?_
 have:=h1 j zO
 simpa[List.getD_eq_getElem?_getD,hj,hj']using this
 rintro rfl
 exact⟨fun _ _=>rfl,rfl⟩
theorem Wu(T:List UInt32)(key label:List UInt8)(bk bl:Nat)(hT:Hd K w0 T)(hn:key.length≤549755813888)(hl:label.length≤274877906944):kc Tryz.prog K w0 211 [vP bk 0,vP bl 0] [AN bl (.cells #[vS label] 9),AN bk (.cells #[vS key] 9)] Tj (U2 T key label):=by
 intro lp J9 X T1 hy G h0
 refine UJ.enter Tryz.func211 rfl rfl ?_
 refine Z (O E (Y (Z (O E (Y (AM ?_))))))
 refine SX.mono (A5 (α:=Nat×List AV) (fun x=>x.1≤255∧J9 ((U2 T key label).take x.1) x.2) (fun x=>[(0,vY lp),(1,vP bk 0),(2,vP bl 0),(4,vS (QP T key label x.1)),(5,vI (x.1+1:Nat))]) (fun x=>AN bl (.cells #[vS label] 9)::AN bk (.cells #[vS key] 9)::(x.2++T1)) (fun x=>255-x.1) (fun x D hp=>?_) (0,G) ⟨by simp,h0⟩) tL
 obtain⟨i,G⟩:=x
 obtain⟨hi,hJ⟩:=hp
 simp only at hi hJ
 refine AE (Z (J E (V E IK (Y ?_))))
 refine As E (fun hc1=>?_) (fun hc1=>?_)
 have hlt:i<255:=by simp at hc1;omega
 have hg:=aK T key label i hlt
 have hel:=cM T key label i
 refine AI (AG (AE (AM (Z (AF 1 FX E (J E (AF 0 FX E (J E (Au E E (Qt FW Cl) ?_)))))))))
 refine Bz [_] E CM KH LA ⟨E,zT⟩ E E E zX E E zU fun b0=>?_
 refine S3 [_] E CM Cl Bj E E (AZ 0 E) ?_
 refine Bz [_,_,_] E FY Ix TN ⟨E,E,E,zT⟩ E E E zX E E zU fun b1=>?_
 refine AQ 1 dV (Tt T key [QP T key label i,label,[HL ((i+1:Nat):Int)]] _ hT hn zQ zS) E (O E (Y (Z (J E (J E ?_)))))
 have e1:Mt T key [QP T key label i,label,[HL ((i+1:Nat):Int)]].flatten=QP T key label (i+1):=by simp[QP]
 rw[e1]
 refine JJ (M2:=[_,_,_]) (G:=G) (T:=T1) (vs:=[_]) (ok:=fun G1=>J9 ((U2 T key label).take (i+1)) G1) (no:=X) E E ⟨E,zT⟩ E ?_ (fun bb G1 hG1=>⟨zT,?_⟩)
 intro M
 have:=hy _ _ _ (E7 hg).1 G hJ M
 rw[←(E7 hg).2]at this
 exact this
 refine CN E E (Y ?_)
 refine As E (fun hc2=>?_) (fun hc2=>?_)
 obtain rfl:bb=false:=by simpa using hc2
 refine AL (BX (Aa (Dj (BX ?_))))
 exact AX (DU E) (AY (M:=G1) (.inr hG1) fun _ h=>h.skip [_,_,_])
 obtain rfl:bb=true:=by simpa using hc2
 refine AI (An (AG (AK (J E (V E (BU zO zO) (O E (AU ?_)))))))
 exact Ai (i+1,G1) ⟨hlt,hG1⟩ (by simp only;omega) tL (fun w hw=>hw.skip [_])
 refine Ax (A3 (BL (Az ?_)))
 have hle:i=255:=by simp at hc1;omega
 exact Cr (DU E) (AY (M:=G) (.inl (by rw[List.take_of_length_le (by rw[VH];omega)]at hJ;exact hJ)) fun _ h=>h.skip [_,_])
theorem W0(key label:List UInt8):zC K w0 188 [vS key,vS label] [] H (fun r M=>∃bk bl,r=.func (.func 211) #[] #[vP bk 0,vP bl 0]∧M=[AN bl (.cells #[vS label] 9),AN bk (.cells #[vS key] 9)]):=by
 refine UJ.enter Tryz.func188 rfl rfl ?_
 refine Z ?_
 refine Bd E E zU fun b0=>?_
 refine Bd E E zU fun b1=>?_
 refine O E (Y (Z ?_))
 refine Hb (fv:=#[]) (cv:=#[_,_]) E E E ?_
 refine O E (Y (AL ?_))
 exact AX (De E E) (AY (M:=[_,_]) ⟨b0,b1,E,E⟩ fun _ h=>h)
theorem TV(T:List UInt32)(key label:List UInt8)(hT:Hd K w0 T)(hn:key.length≤549755813888)(hl:label.length≤274877906944):zC K w0 149 [vS key,vS label,vI 32] [] H (fun r M=>r=.tuple #[vS (Gh T key label),vI 0]∧M=[]):=by
 refine UJ.enter Tryz.func149 rfl rfl ?_
 refine Z ?_
 refine Bd E E zU fun b0=>?_
 refine O E (O E (Y (K6 (AE (Z (AF 0 D3 E (V E Aw (J E ?_))))))))
 refine DL (c:=decide ((8160:Int)<32)) 12 3 15 E (fun hb k=>?_) (fun hb k=>?_) ?_
 refine AB E (AB E (Ae E E E ?_))
 exact k.mono tL
 refine AF 0 D3 E (V E CY (Ae E E E ?_))
 exact k.mono tL
 refine Y ?_
 refine As E (fun hc1=>absurd hc1 zD) (fun hc1=>?_)
 refine AI (AG (Z ?_))
 refine Ag E cZ zU fun b1=>?_
 refine Y (AE (Kn (AG (AE (Z (J E (J E (Bp 0 pL (W0 key label) E ?_))))))))
 rintro _ _ ⟨bk,bl,rfl,rfl⟩
 refine Y (JG 5 1 (SX.pick [1,2,3,0,4] 5 (AM ?_)))
 refine QM (enc:=Tj) (U2 T key label) (fun pre G=>pre.length≤1∧∃p v,PH b1 p∧G=AN b1 (.cells #[p,v] 172)::DF 5 1 v pre.flatten.length (pre.flatten.map fun b=>Dn b)::AN b0 (.cells #[vI 32] 3)::H) (fun c G=>c=.exit 0∧∃p v,PH b1 p∧G=AN b1 (.cells #[p,v] 172)::DF 5 1 v 32 ((Gh T key label).map fun b=>Dn b)::AN b0 (.cells #[vI 32] 3)::H) E oh E zV (Wu T key label bk bl hT hn hl) E ⟨Nat.zero_le _,_,_,.inl E,E⟩ (fun pre x suf G hxs hJ r lp Rest=>?_) (fun G D hJ=>?_) (fun c G D hX=>?_)
 obtain⟨hpl,p,v,hadr,rfl⟩:=hJ
 have hx0:(U2 T key label)[0]? = some (Gh T key label):=by rw[aK T key label 0 zD,lD]
 have he:(Gh T key label).length=32:=Gm ..
 refine AK (O E (AU (Lo (AM (AE (AE (Ak Ca [2] (Pl.of [(true,1),(false,0),(true,2)]) zK (AF 0 D3 E (BO 2 W5 (cf 172 b1 p v _ _) E ⟨⟨2,E⟩,zT⟩ (V E Iy (Y ?_)))))))))))
 refine As E (fun hc2=>?_) (fun hc2=>?_)
 have hpre:pre=[Gh T key label]:=by
  match pre,hpl with
  | [],_=>simp at hc2
  | [y],_=>rw[hxs]at hx0;simpa using hx0
 subst hpre
 refine Ax (A3 (MS ?_))
 refine Nv (G:=AN b1 (.cells #[p,v] 172)::DF 5 1 v 32 ((Gh T key label).map fun b=>Dn b)::AN b0 (.cells #[vI 32] 3)::H) ⟨E,p,v,hadr,E⟩ (fun w hw=>?_)
 have e1:[Gh T key label].flatten=Gh T key label:=by simp
 rw[e1,he]at hw
 exact hw
 have hpre:pre=[]:=by
  match pre,hpl with
  | [],_=>rfl
  | [y],_=>
   rw[hxs]at hx0
   obtain rfl:y=Gh T key label:=by simpa using hx0
   simp[he]at hc2
 subst hpre
 obtain rfl:x=Gh T key label:=by rw[hxs]at hx0;simpa using hx0
 refine AI (AG (AK (J E (Bp 2 U8 (Mc 172 b1 p v _ _ (Gh T key label) hadr VT (by simp[he])) E ?_))))
 rintro _ _ ⟨rfl,v',rfl⟩
 refine AU (An ?_)
 refine Iq (G:=AN b1 (.cells #[vP b1 0,v'] 172)::DF 5 1 v' ([]++[Gh T key label]).flatten.length (([]++[Gh T key label]).flatten.map fun b=>Dn b)::AN b0 (.cells #[vI 32] 3)::H) ⟨by simp,_,v',.inr E,E⟩ (fun w hw=>?_)
 have e1:([]++[Gh T key label]).flatten=Gh T key label:=by simp
 rw[e1]
 simpa using hw
 exact absurd hJ.1 (by rw[VH];omega)
 obtain⟨rfl,p,v,hadr,rfl⟩:=hX
 have he:(Gh T key label).length=32:=Gm ..
 refine Ax (Az (AG (AE (Ak Ca [2] (Pl.of [(true,1),(false,0),(true,2),(true,3),(true,4)]) zK (AF 0 D3 E (BO 2 OK (Ku 172 b1 p v 32 (Gh T key label) zO) E ⟨⟨2,E⟩,zT⟩ (O5 32 E Bj E E zO zO (O E (O E (Y (AL (FN ?_))))))))))))
 exact AX (HN E E E) (AY (M:=[]) ⟨by rw[List.take_of_length_le zO],E⟩ fun _ h=>h.skip [_,_,_])
end

section
variable {K:Nat→Prop}{w0:World}{H:List AV}
theorem cL(T:List UInt32)(k:BT)(hT:Hd K w0 T):zC K w0 108 [.agg (A7 k).toArray] [] H (fun r M=>r=(if DW [k]=true then .tuple #[vS (Hf T k Hg),vS (Hf T k IQ),vI 0]else .tuple #[vS [],vS [],vI 40])∧M=[]):=by
 refine UJ.enter Tryz.func108 rfl rfl ?_
 refine Z ?_
 refine Bd E E zU fun b0=>?_
 refine O E (O E (O E (Y (AE (Z (Ab (A7 k) E Ju E E (AZ 0 E) ?_))))))
 refine Bz [_] E K7 Fb JA ⟨E,zT⟩ E E E (by simp[Value.cells,A7]) E E zU fun b1=>?_
 refine Bm (vs:=[_]) (Hin:=[_]) E E ⟨E,zT⟩ dW E E (Cb (B:=[AN b1 (.cells (A7 k).toArray 138)]) (Hin:=[]) fun K' w1 hk hB=>Pr _ [k] (CJ.lent (enc:=A7) (sz:=2) (xs:=[k]) zV (Nat.le_refl 1) E (hB _ (List.mem_cons_self ..))) E zS) ?_
 rintro _ _ ⟨M',rfl,rfl,rfl⟩
 refine⟨trivial,?_⟩
 refine CN E E (Y ?_)
 refine As E (fun hc1=>?_) (fun hc1=>?_)
 have hr:DW [k]=false:=by simpa using hc1
 refine Z (O E (O E (O E (Y (AL (Aa ?_))))))
 exact AX (Rx E E E E) (AY (M:=[]) ⟨by rw[hr];rfl,E⟩ fun _ h=>h.skip [_,_])
 have hr:DW [k]=true:=by simpa using hc1
 have hkl:=WW hr
 refine AI (AG (Z (AD E Ga (AF 1 A6 E (Au E E (Cs Bv Cl) (AD E Ga (AF 1 A6 E ?_)))))))
 refine V E (E0.shr32 (n:=8)) ?_
 refine Au E E (Cs Bv Cl) (AD E Ga (AF 1 A6 E ?_))
 refine V E (E0.shr32 (n:=16)) ?_
 refine Au E E (Cs Bv Cl) (AD E Ga (AF 1 A6 E ?_))
 refine V E (E0.shr32 (n:=24)) ?_
 refine Au E E (Cs Bv Cl) ?_
 refine Bz [_,_,_,_] E CM KH LA ⟨E,E,E,E,zT⟩ E E E zX E E zU fun b2=>?_
 refine S3 [_,_,_,_] E CM Cl Bj E E (AZ 0 E) (O E (Y (Z (AD E QW (AF 2 FX E (J E ?_))))))
 refine V E (Fl (s:=Hg) (t:=GD k.gen) (by simp[GD,Hg])) ?_
 refine AQ 0 ji (TV T k.secret (Hg++GD k.gen) hT zO (by simp[GD,Hg])) E (J E (Al E E E (Al E E E (O E (O E (Y (Z (AD E QW (AF 2 FX E ?_)))))))))
 refine J E ?_
 refine V E (Fl (s:=IQ) (t:=GD k.gen) (by simp[GD,IQ])) ?_
 refine AQ 0 ji (TV T k.secret (IQ++GD k.gen) hT zO (by simp[GD,IQ])) E (J E (Al E E E (Al E E E (O E (O E (Y (Z (J E (J E ?_)))))))))
 refine O E (O E (O E (Y (AL ?_))))
 exact AX (Rx E E E E) (AY (M:=[]) ⟨by rw[hr];rfl,E⟩ fun _ h=>h.skip [_,_,_])
theorem gR(s:List UInt8)(hn:s.length≤9223372036854775807):zC K w0 107 [vS s] [] H (fun r M=>r=(if 198<s.length then .tuple #[vS [],vI 50]else .tuple #[vS (I2 s),vI 0])∧M=[]):=by
 refine UJ.enter Tryz.func107 rfl rfl ?_
 refine Z (O E (O E (Y (AE (Z (J E (BS E Bj E (V E CY (Y ?_)))))))))
 refine As E (fun hc1=>?_) (fun hc1=>?_)
 have h0:198<s.length:=by simp at hc1;omega
 refine Z (O E (O E (Y (AL (Aa ?_)))))
 exact AX (HN E E E) (AY (M:=[]) ⟨by rw[if_pos h0],E⟩ fun _ h=>h.skip [])
 have h0:¬198<s.length:=by simp at hc1;omega
 have e1:(198-(s.length:Int))=((198-s.length:Nat):Int):=zO
 refine AI (AG (AE (Ak Ca [] (Bo [(true,0),(true,1),(true,2),(true,3),(true,4),(true,5),(true,6),(true,9),(true,11),(true,12),(true,13)] (.alt 7 (.alt 8 (Pl.of [(true,10),(false,14),(true,15),(true,16),(true,17)]) (.cons (false,14) (Pl.of [(false,8),(true,10),(true,15),(true,16),(true,17)]))) (.cons (false,14) (Pl.of [(false,7),(false,8),(true,10),(true,15),(true,16),(true,17)])))) zK (J E (BS E Bj E ?_)))))
 refine V E (km (n:=8) zO zO) ?_
 refine Au E E (Qt FW Cl) (J E (BS E Bj E (Au E E (Qt FW Cl) (J E (J E (BS E Bj E (V E (Dh zO zO) ?_)))))))
 rw[e1]
 refine Mp ?_ ?_
 refine Bz [_,_] E CM KH LA ⟨E,E,zT⟩ E E E zX E E zU fun b0=>?_
 refine Mp ?_ ?_
 refine S3 [_,_] E CM Cl Bj E E (AZ 0 E) (V E (Fl zQ) (AQ 0 Ps (NA (198-s.length) zO) E (V E (Fl zQ) (O E (O E (Y (AL ?_)))))))
 exact AX (HN E E E) (AY (M:=[]) ⟨by rw[if_neg h0];rfl,E⟩ fun _ h=>h.skip [_])
 refine AQ 0 Ps (NA (198-s.length) zO) E (S3 [_,_] E CM Cl Bj E E (AZ 0 E) (V E (Fl zQ) (V E (Fl zQ) (O E (O E (Y (AL ?_)))))))
 exact AX (HN E E E) (AY (M:=[]) ⟨by rw[if_neg h0];rfl,E⟩ fun _ h=>h.skip [_])
 refine AQ 0 Ps (NA (198-s.length) zO) E ?_
 refine Bz [_,_] E CM KH LA ⟨E,E,zT⟩ E E E zX E E zU fun b0=>?_
 refine S3 [_,_] E CM Cl Bj E E (AZ 0 E) (V E (Fl zQ) (V E (Fl zQ) (O E (O E (Y (AL ?_))))))
 exact AX (HN E E E) (AY (M:=[]) ⟨by rw[if_neg h0];rfl,E⟩ fun _ h=>h.skip [_])
theorem dI(b:List UInt8):zC K w0 222 [vS b] [] H (fun r M=>r=.tuple #[vS (E8 b).1,vI (E8 b).2]∧M=[]):=by
 refine UJ.enter Tryz.func222 rfl rfl ?_
 refine Z (O E (O E (Y (AE (Z (J E (BS E Bj E (V E Bg (Y ?_)))))))))
 refine As E (fun hc1=>?_) (fun hc1=>?_)
 have h0:b.length≠200:=by simp at hc1;omega
 have hu:E8 b=([],50):=by unfold E8;rw[if_pos h0]
 rw[hu]
 refine Z (O E (O E (Y (AL (Aa ?_)))))
 exact AX (HN E E E) (AY (M:=[]) ⟨E,E⟩ fun _ h=>h.skip [])
 have h0:b.length=200:=by simp at hc1;omega
 have e1:((b.getD 0 0).toNat:Int)*2^(min 8 64)=(((b.getD 0 0).toNat*256:Nat):Int):=by simp
 have hb0:=(b.getD 0 0).toNat_lt
 have hb1:=(b.getD 1 0).toNat_lt
 refine AI (AG (AE (Ak Ca [] (Pl.of [(true,0),(true,1),(true,2),(true,3),(true,4),(true,5),(true,6),(true,7),(true,8)]) zK (J E (Gj 0 E Bj E E zO zO (Au E E (Ma Cl FW) ?_))))))
 refine V E (lI (n:=8) (by rw[e1];omega) (by rw[e1];omega)) ?_
 rw[e1]
 refine J E (Gj 1 E Bj E E zO zO (Au E E (Ma Cl FW) ?_))
 refine V E (nt (a:=(b.getD 0 0).toNat*256) (b:=(b.getD 1 0).toNat) zO zO) ?_
 have e2:(b.getD 0 0).toNat*256 ||| (b.getD 1 0).toNat=DG b:=by
  have:=Nat.shiftLeft_add_eq_or_of_lt (i:=8) (b:=(b.getD 1 0).toNat) zO (b.getD 0 0).toNat
  rw[Nat.shiftLeft_eq,show(2:Nat)^8=256 from rfl]at this
  unfold DG
  omega
 rw[e2]
 have hla:DG b<65536:=by unfold DG;omega
 refine O E (Y (AE (Z (J E (V E CY (Y ?_))))))
 refine As E (fun hc2=>?_) (fun hc2=>?_)
 have h1:198<DG b:=by simp at hc2;omega
 have hu:E8 b=([],50):=by unfold E8;rw[if_neg zO,if_pos h1]
 rw[hu]
 refine Z (O E (O E (Y (AL (Aa ?_)))))
 exact AX (HN E E E) (AY (M:=[]) ⟨E,E⟩ fun _ h=>h.skip [])
 have h1:¬198<DG b:=by simp at hc2;omega
 refine AI (AG (Z (O E (Y (AE (Z (J E (V E (Dh zO zO) (J E (Y (AM ?_)))))))))))
 refine SX.mono (A5 (α:=Nat×UInt8) (fun x=>x.1≤198-DG b∧(x.2=0↔∀j,j<x.1→b.getD (2+DG b+j) 0=0)) (fun x=>[(0,vS b),(4,vI (DG b)),(5,Dn x.2),(21,vI (198-(DG b:Int))),(22,vI x.1)]) (fun x=>H) (fun x=>198-DG b-x.1) (fun x D hp=>?_) (0,0) ⟨Nat.zero_le _,by simp⟩) tL
 obtain⟨i,x⟩:=x
 obtain⟨hi,hx⟩:=hp
 simp only at hi hx
 refine Z (V E Aw (Y (AE ?_)))
 refine As E (fun hc3=>?_) (fun hc3=>?_)
 have hlt:i<198-DG b:=by simp at hc3;omega
 refine AI (AG (AE (AM (Z (J E (O E (Y (AK (J E (J E (J E (V E (BU zO zO) (J E (V E (BU zO zO) ?_))))))))))))))
 refine Gj (2+DG b+i) E Bj E E zO zO (V E fc (O E (AU (An (AG (AK (V E (BU zO zO) (J E (AU ?_)))))))))
 refine Ai (i+1,x ||| b.getD (2+DG b+i) 0) ⟨hlt,?_⟩ (by simp only;omega) tL
 simp only
 rw[ai,hx]
 constructor
 rintro⟨h1,h2⟩ j hj
 rcases Nat.lt_or_ge j i with h | h
 exact h1 j h
 obtain rfl:j=i:=zO
 exact h2
 intro h
 exact⟨fun j hj=>h j zO,h i zO⟩
 have hie:i=198-DG b:=by simp at hc3;omega
 subst hie
 refine Ax (A3 (BL (Az (AG (AE (Z (J E ?_)))))))
 refine V E (eC (b:=0)) ?_
 refine Y ?_
 refine As E (fun hc4=>?_) (fun hc4=>?_)
 have hu:E8 b=([],50):=by
  unfold E8
  rw[if_neg zO,if_neg h1,if_neg (fun hc=>by simp at hc4;exact hc4 (hx.2 hc))]
 rw[hu]
 refine Z (O E (O E (Y (AL (Aa ?_)))))
 exact AX (HN E E E) (AY (M:=[]) ⟨E,E⟩ fun _ h=>h.skip [])
 have hu:E8 b=((b.drop 2).take (DG b),0):=by
  unfold E8
  rw[if_neg zO,if_neg h1,if_pos (show Sz b from hx.1 (by simpa using hc4))]
 rw[hu]
 refine AI (AG (Z (J E (J E (V E (BU zO zO) (XB 2 (2+DG b) E Bj E E E zO zO zO zO (O E (O E (Y (AL ?_))))))))))
 refine AX (HN E E E) (AY (M:=[]) ⟨?_,E⟩ fun _ h=>h.skip [])
 rw[show 2+DG b-2=DG b by omega]
end

section
variable {K:Nat→Prop}{w0:World}{H:List AV}
def rH(x:UInt32):List Value:=[AA x]
theorem dB{s:List UInt8}{j:Nat}(h:j<s.length / 4):(CI s)[j]? = some (Jx s (4*j)):=by simp[CI,h]
theorem f8(s:List UInt8)(hs:4≤s.length):zC K w0 226 [vS s] [] H (fun r M=>r=AA (Jx s 0)∧M=[]):=by
 refine UJ.enter Tryz.func226 rfl rfl ?_
 refine Z (O E (Y (AE (Ak Ca [] (Pl.of [(true,0),(true,1),(true,2),(true,3),(true,4),(true,5),(true,6),(true,7),(true,8),(true,9),(true,10),(true,11),(true,12),(true,13),(true,14),(true,15),(true,16),(true,17),(true,18)]) zK (J E (Gj 0 E Bj E E zO zO (Au E E (DN Cl Bv) (J E (Gj 1 E Bj E E zO zO (Au E E (DN Cl Bv) ?_))))))))))
 refine V E (E0.shl32 (n:=8)) ?_
 refine V E DZ (J E (Gj 2 E Bj E E zO zO (Au E E (DN Cl Bv) ?_)))
 refine V E (E0.shl32 (n:=16)) ?_
 refine V E DZ (J E (Gj 3 E Bj E E zO zO (Au E E (DN Cl Bv) ?_)))
 refine V E (E0.shl32 (n:=24)) ?_
 refine V E DZ (O E (Y (AL ?_)))
 exact AX (De E E) (AY (M:=[]) ⟨E,E⟩ fun _ h=>h.skip [])
theorem dh(ls:List (List UInt8))(bl bs:Nat)(hl:ls.length≤549755813888)(hls:∀s∈ls,s.length≤549755813888):kc Tryz.prog K w0 225 [vP bl 0] [AN bl (.cells #[.slice (some ⟨bs,0,none⟩) ls.length ls.length] 22),AN bs (.cells (DB vS ls) 9)] rH (ls.flatMap CI):=by
 intro lp J9 X T1 hy G h0
 refine UJ.enter Tryz.func225 rfl rfl ?_
 refine Z (AF 0 RW E (Nl E FY E (J E (Y (AM ?_)))))
 refine SX.mono (A5 (α:=Nat×List AV) (fun x=>x.1≤ls.length∧J9 ((ls.take x.1).flatMap CI) x.2) (fun x=>[(0,vY lp),(5,.slice (some ⟨bs,0,none⟩) ls.length ls.length),(6,vI ls.length),(7,vI x.1)]) (fun x=>AN bl (.cells #[.slice (some ⟨bs,0,none⟩) ls.length ls.length] 22)::AN bs (.cells (DB vS ls) 9)::(x.2++T1)) (fun x=>ls.length-x.1) (fun x D hp=>?_) (0,G) ⟨Nat.zero_le _,h0⟩) tL
 obtain⟨i,G⟩:=x
 obtain⟨hi,hJ⟩:=hp
 simp only at hi hJ
 refine Z (V E Aw (Y (AE ?_)))
 refine As E (fun hc1=>?_) (fun hc1=>?_)
 have hlt:i<ls.length:=by simpa using hc1
 obtain⟨s,hs⟩:=Og hlt
 have hsl:=hls s (List.mem_of_getElem? hs)
 have hsplit:=E7 hs
 refine AI (AG (AE (AM (Z ?_))))
 refine pT (n:=i) E FY Ix E E zO zO ?_
 refine Bh E FX E (Ch 1 E (Ez hs)) (O E (Y (AM ?_)))
 refine SX.mono (A5 (α:=Nat×List AV) (fun x=>x.1≤s.length / 4∧J9 ((ls.take i).flatMap CI++(CI s).take x.1) x.2) (fun x=>[(0,vY lp),(4,vS (s.drop (4*x.1))),(5,.slice (some ⟨bs,0,none⟩) ls.length ls.length),(6,vI ls.length),(7,vI i)]) (fun x=>AN bl (.cells #[.slice (some ⟨bs,0,none⟩) ls.length ls.length] 22)::AN bs (.cells (DB vS ls) 9)::(x.2++T1)) (fun x=>s.length / 4-x.1) (fun x D hp=>?_) (0,G) ⟨Nat.zero_le _,by simpa using hJ⟩) tL
 obtain⟨j,G⟩:=x
 obtain⟨hj,hJ2⟩:=hp
 simp only at hj hJ2
 refine AE (Z (J E (BS E Bj E (V E Iy (Y ?_)))))
 refine As E (fun hc2=>?_) (fun hc2=>?_)
 have hjlt:j<s.length / 4:=by simp at hc2;omega
 have hw:=dB hjlt
 have hws:=E7 hw
 refine AI (AG (AE (AM (Z (J E (J E (AQ 0 qQ (f8 (s.drop (4*j)) zQ) E ?_)))))))
 rw[bV,Nat.add_zero]
 refine JJ (M2:=[_,_]) (G:=G) (T:=T1) (vs:=[_]) (ok:=fun G1=>J9 ((ls.take i).flatMap CI++(CI s).take (j+1)) G1) (no:=X) E E ⟨E,zT⟩ E ?_ (fun bb G1 hG1=>⟨zT,?_⟩)
 intro M
 have e1:ls.flatMap CI=((ls.take i).flatMap CI++(CI s).take j)++Jx s (4*j)::((CI s).drop (j+1)++(ls.drop (i+1)).flatMap CI):=by
  have h1:ls.flatMap CI=(ls.take i).flatMap CI++(CI s++(ls.drop (i+1)).flatMap CI):=by
   rw[←List.flatMap_cons,←List.flatMap_append,←hsplit.1]
  have h2:CI s++(ls.drop (i+1)).flatMap CI=(CI s).take j++Jx s (4*j)::((CI s).drop (j+1)++(ls.drop (i+1)).flatMap CI):=by
   rw[←List.cons_append,←List.append_assoc,←hws.1]
  rw[h1,h2,List.append_assoc]
 have:=hy _ _ _ e1 G hJ2 M
 rw[List.append_assoc,←hws.2]at this
 exact this
 refine CN E E (Y ?_)
 refine As E (fun hc3=>?_) (fun hc3=>?_)
 obtain rfl:bb=false:=by simpa using hc3
 refine AL (BX (Aa (Dj (BX (BX (Aa (Dj (BX ?_))))))))
 exact AX (DU E) (AY (M:=G1) (.inr hG1) fun _ h=>h.skip [_,_])
 obtain rfl:bb=true:=by simpa using hc3
 refine AI (An (AG (AK (J E (Ns 4 E Bj E E zO zQ ?_)))))
 rw[List.drop_drop,show 4*j+4=4*(j+1) by omega]
 refine O E (AU ?_)
 exact Ai (j+1,G1) ⟨hjlt,hG1⟩ (by simp only;omega) tL
 have hje:j=s.length / 4:=by simp at hc2;omega
 refine Ax (A3 (BL (Az (An (AG (AK (V E (BU zO zO) (J E (AU ?_)))))))))
 refine Ai (i+1,G) ⟨hlt,?_⟩ (by simp only;omega) tL
 simp only
 rw[hsplit.2,List.flatMap_append,List.flatMap_cons,List.flatMap_nil,List.append_nil]
 have ht:(CI s).take j=CI s:=List.take_of_length_le (by rw[EH];omega)
 rw[ht]at hJ2
 exact hJ2
 have hle:i=ls.length:=by simp at hc1;omega
 refine Ax (A3 (BL (Az ?_)))
 exact Cr (DU E) (AY (M:=G) (.inl (by rw[hle,List.take_length]at hJ;exact hJ)) fun _ h=>h.skip [_,_])
theorem dj(ls:List (List UInt8))(bs:Nat):zC K w0 212 [.slice (some ⟨bs,0,none⟩) ls.length ls.length] [AN bs (.cells (DB vS ls) 9)] H (fun r M=>∃bl,r=.func (.func 225) #[] #[vP bl 0]∧M=[AN bl (.cells #[.slice (some ⟨bs,0,none⟩) ls.length ls.length] 22),AN bs (.cells (DB vS ls) 9)]):=by
 refine UJ.enter Tryz.func212 rfl rfl ?_
 refine Z ?_
 refine Bd E E zU fun b0=>?_
 refine O E (Y (Z ?_))
 refine Hb (fv:=#[]) (cv:=#[_]) E E E ?_
 refine O E (Y (AL ?_))
 exact AX (De E E) (AY (M:=[_,_]) ⟨b0,E,E⟩ fun _ h=>h)
theorem df(key nonce:List UInt8)(counter:UInt32)(hk:key.length=32)(hn:nonce.length=12):zC K w0 189 [vS key,AA counter,vS nonce] [] H (fun r M=>r=.agg (DB AA (H6 key counter nonce))∧M=[]):=by
 refine UJ.enter Tryz.func189 rfl rfl ?_
 refine Z ?_
 refine Ag E bW zU fun b0=>?_
 refine Y (K6 (Z ?_))
 refine Ag E bW zU fun b1=>?_
 refine Y (Z ?_)
 refine Ag E pK zU fun b2=>?_
 refine Aj 0 E E E E Mw E E E zT (Y (Z (J E (Au E E (Cs Bv Cl) (J E ?_)))))
 refine V E (E0.shr32 (n:=8)) ?_
 refine Au E E (Cs Bv Cl) (J E ?_)
 refine V E (E0.shr32 (n:=16)) ?_
 refine Au E E (Cs Bv Cl) (J E ?_)
 refine V E (E0.shr32 (n:=24)) ?_
 refine Au E E (Cs Bv Cl) ?_
 refine Bz [_,_,_,_] E CM KH LA ⟨E,E,E,E,zT⟩ E E E zX E E zU fun b3=>?_
 refine S3 [_,_,_,_] E CM Cl Bj E E (AZ 0 E) (O E (Y (AE (Kn (AG (AE (Z (J E (J E (J E ?_))))))))))
 refine Bz [_,_,_,_] E FY Ix TN ⟨E,E,E,E,zT⟩ E E E zX E E zU fun b4=>?_
 refine Bp 1 qS (dj [KT,key,GD counter,nonce] b4) E ?_
 rintro _ _ ⟨bl,rfl,rfl⟩
 refine Y ?_
 have hbl:=Mj (counter:=counter) hk hn
 have hfm:[KT,key,GD counter,nonce].flatMap CI=H6 key counter nonce:=by simp[H6,List.flatMap_cons]
 refine AM ?_
 refine QM (enc:=rH) ([KT,key,GD counter,nonce].flatMap CI) (fun pre G=>G=AN b3 (.cells (DB Dn (GD counter)) 5)::AN b2 (.cells #[vI pre.length] 3)::AN b1 (.cells (DB AA (pre++List.replicate (16-pre.length) 0)) 265)::AN b0 (.cells (DB AA (List.replicate 16 0)) 265)::H) (fun c G=>False) E pS E zV (dh [KT,key,GD counter,nonce] bl b4 zS (by simp[hk,hn,KT,GD])) E E (fun pre x suf G hxs hJ r lp Rest=>?_) (fun G D hJ=>?_) (fun c G D hX=>hX.elim)
 obtain rfl:=hJ
 have hlt:pre.length<16:=by
  rw[hfm]at hxs
  rw[hxs]at hbl
  simp at hbl
  omega
 refine AK (O E (AU (Lo (AM (AE (Z (AF 1 D3 E (V E CH (Y ?_)))))))))
 refine As E (fun hc1=>absurd hc1 zQ) (fun hc1=>?_)
 refine AI (AG (Z (AF 1 D3 E (J E ?_))))
 refine Cq (n:=pre.length) E Pz Bk E E zO zO ?_
 refine Ua (f:=AA) 2 E E E E Bk E E zQ zT ?_
 rw[S6 pre 0 x 16 pre.length rfl hlt]
 refine Y (AK (AF 1 D3 E (V E (BU zO zO) (Aj 1 E E E E Mw E E E zT (AU (An ?_))))))
 refine Iq (G:=_::_::_::_::H) ?_ (fun _ h=>h)
 have e1:(pre++[x]).length=pre.length+1:=by simp
 rw[e1]
 rfl
 obtain rfl:=hJ
 rw[hfm,hbl]
 have e1:H6 key counter nonce++List.replicate (16-16) 0=H6 key counter nonce:=by simp
 rw[e1]
 refine An (AG (Z ?_))
 refine Ab ((H6 key counter nonce).map AA) E ij (by simp[hbl]) E (Cd 2 E (fun j u hu=>by simpa[DB]using hu)) ?_
 refine OO 3 E E E E mU (by simp[hbl]) (by simp[DB]) (Nh zV (H6 key counter nonce)) zT ?_
 refine Y (AL (FN ?_))
 exact AX (FD E (BC 3 ((H6 key counter nonce).map AA) ij (by simp[hbl]) E E (by simp only[List.drop_zero];exact List.take_of_length_le (by simp[hbl])))) (AY (M:=[]) ⟨E,E⟩ fun _ h=>h.skip [_,_,_,_])
end

section
variable {K:Nat→Prop}{w0:World}{H:List AV}
theorem kU:∀n:Fin 32,(BW (n.1:Int) &&& 31).toNat=n.1∧(32-(BW (n.1:Int) &&& 31)).toNat=32-n.1:=by decide
theorem aO(x:UInt32)(n:Nat)(h1:n<32):UX x (n:Int)=rl x n:=by
 obtain⟨e1,e2⟩:=kU ⟨n,h1⟩
 simp only at e1 e2
 unfold UX rl
 rw[e1,e2]
theorem kf:∀i,cY i<32 | 0=>(by decide:16<32) | _+1=>(by decide:8<32)
theorem kO:∀i,cW i<32 | 0=>(by decide:12<32) | _+1=>(by decide:7<32)
theorem Rr(q:Q4):zC K w0 213 [AA q.a,AA q.b,AA q.c,AA q.d] [] H (fun r M=>r=.agg (DB AA q.quarter.list)∧M=[]):=by
 refine UJ.enter Tryz.func213 rfl rfl ?_
 refine Z ?_
 refine Ag E R6 zU fun b0=>?_
 refine Y (AE (Z (SC [vI 16,vI 12] E bo Mw iR E ⟨E,E,zT⟩ E E zX (SC [vI 8,vI 7] E bo Mw iR E ⟨E,E,zT⟩ E E zX ?_))))
 refine BK (r:=#[vI 16,vI 12,vI 8,vI 7]) [_,_] E tz tB tf ⟨E,E,zT⟩ E ?_
 refine J E (Y (AM ?_))
 refine SX.mono (A5 (α:=Nat) (fun i=>i≤2) (fun i=>[(0,AA (q.steps i).a),(1,AA (q.steps i).b),(2,AA (q.steps i).c),(3,AA (q.steps i).d),(8,vP b0 0),(13,.agg #[vI 16,vI 12,vI 8,vI 7]),(14,vI i)]) (fun i=>AN b0 (.cells (DB AA [0,0,0,0]) 288)::H) (fun i=>2-i) (fun i D hp=>?_) 0 zO) tL
 refine Z (V E Aw (Y (AE ?_)))
 refine As E (fun hc1=>?_) (fun hc1=>?_)
 have hi:i<2:=by simp at hc1;omega
 refine AI (AG (AE (AM (Z ?_))))
 refine Rh (i:=i) (c':=#[vI (cY i:Int),vI (cW i:Int)]) rfl tj sn rfl rfl zO zO (by rcases(by omega:i=0∨i=1)with rfl | rfl<;>rfl) ?_
 refine Ag E iR zU fun b1=>?_
 refine Aj 0 E E E E sC E E E zT (Y (Z (J E (J E (V E Bx (O E (Y (Z (J E (J E (V E CX ?_)))))))))))
 refine Cq (n:=0) E bo Mw E E zO zO ?_
 refine AF 0 D3 E (AQ 0 cE (Hh _ (cY i:Int)) E ?_)
 rw[aO _ _ (kf i)]
 refine O E (Y (Z (J E (J E (V E Bx (O E (Y (AK (J E (J E (V E CX ?_)))))))))))
 refine Cq (n:=1) E bo Mw E E zO zO ?_
 refine AF 0 D3 E (AQ 0 cE (Hh _ (cW i:Int)) E ?_)
 rw[aO _ _ (kO i)]
 refine O E (AU (An (AG (AK (V E (BU zO zO) (J E (AU ?_)))))))
 exact Ai (i+1) zO zO tL (fun w hw=>hw.skip [_])
 have hi:i=2:=by simp at hc1;omega
 subst hi
 refine Ax (A3 (BL (Az (AG (Z (J E (J E (J E (J E ?_)))))))))
 refine SC (q.quarter.list.map AA) rfl Pg Bk R6 rfl ⟨rfl,rfl,rfl,rfl,trivial⟩ rfl rfl (fun v hv=>by obtain⟨x,_,rfl⟩:=List.mem_map.1 hv;rfl) ?_
 refine OO 0 E E E E Vd E E (Nh zV q.quarter.list) zT ?_
 refine Y (AL ?_)
 exact AX (FD E (BC 0 (q.quarter.list.map AA) iN E E E E)) (AY (M:=[]) ⟨E,E⟩ fun _ h=>h.skip [_])
theorem VC(ws:List UInt32)(step:Nat)(b:Nat)(e:TypeId)(hw:ws.length=16)(hs:step≤1):zC K w0 190 [vP b 0,vI step] [AN b (.cells (DB AA ws) e)] H (fun r M=>r=.tuple #[]∧M=[AN b (.cells (DB AA (VJ ws step)) e)]):=by
 refine UJ.enter Tryz.func190 rfl rfl ?_
 refine Z (J E (Y (AM ?_)))
 refine SX.mono (A5 (α:=Nat) (fun i=>i≤4) (fun i=>[(0,vP b 0),(1,vI step),(10,vI i)]) (fun i=>AN b (.cells (DB AA (Db ws step i)) e)::H) (fun i=>4-i) (fun i D hp=>?_) 0 zO) tL
 have hwl:(Db ws step i).length=16:=(Kc ws step i).trans hw
 refine Z (V E Aw (Y (AE ?_)))
 refine As E (fun hc1=>?_) (fun hc1=>?_)
 have hi:i<4:=by simp at hc1;omega
 have h16:∀k,k<4→IX step i k<16:=fun k hk=>by unfold IX;omega
 refine AI (AG (AE (AM (Z (J E (O E (Y (Z ?_))))))))
 refine Ag E tD zU fun b0=>?_
 refine Y (AE (Z (J E (Y (AM ?_)))))
 refine SX.mono (A5 (α:=Nat) (fun k=>k≤4) (fun k=>[(0,vP b 0),(1,vI step),(4,vI i),(5,vP b0 0),(10,vI i),(13,vI k)]) (fun k=>AN b0 (.cells (DB vI (((List.range k).map fun j=>((IX step i j:Nat):Int))++List.replicate (4-k) 0)) 287)::AN b (.cells (DB AA (Db ws step i)) e)::H) (fun k=>4-k) (fun k D hp=>?_) 0 zO) tL
 refine Z (V E Aw (Y (AE ?_)))
 refine As E (fun hc2=>?_) (fun hc2=>?_)
 have hk:k<4:=by simp at hc2;omega
 have hks:k*step≤3:=Nat.le_trans (Nat.mul_le_mul_left k hs) zO
 have hks2:((k:Int)*step)=((k*step:Nat):Int):=by simp
 refine AI (AG (AE (AM (Z (J E (O E (Y (AK (J E (J E (V E (Ky zO zO) (J E (J E (J E ?_))))))))))))))
 refine V E (Ky zO zO) (V E (BU zO zO) (V E (Vp zO zO) (V E (BU zO zO) ?_)))
 refine Cq (n:=k) E V4 Mw E E zO zO ?_
 refine Ua (f:=vI) 0 E E E E Mw E E zQ zT ?_
 rw[S6 _ _ _ 4 k zS hk]
 refine AU (An (AG (AK (V E (BU zO zO) (J E (AU ?_))))))
 refine Ai (k+1) zO zO tL (fun w hw=>?_)
 have e1:(4*(k:Int)+((i:Int)+(k:Int)*step)%4)=((IX step i k:Nat):Int):=by simp[IX]
 simp only[List.range_succ,List.map_append,List.map_cons,List.map_nil]
 rw[e1]at hw
 exact hw
 have hk:k=4:=by simp at hc2;omega
 subst hk
 have hat:((List.range 4).map fun j=>((IX step i j:Nat):Int))++List.replicate (4-4) 0=[((IX step i 0:Nat):Int),((IX step i 1:Nat):Int),((IX step i 2:Nat):Int),((IX step i 3:Nat):Int)]:=by rfl
 rw[hat]
 refine Ax (A3 (BL (Az (AG ?_))))
 generalize hq:(⟨(Db ws step i).getD (IX step i 0) 0,(Db ws step i).getD (IX step i 1) 0,(Db ws step i).getD (IX step i 2) 0,(Db ws step i).getD (IX step i 3) 0⟩:Q4)=q
 refine YJ (α:=Nat) (fun _=>True) (fun x=>[(0,vP b 0),(1,vI step),(5,vP b0 0),(7,vP x 0),(10,vI i)]) (fun x=>AN x (.cells (DB AA q.quarter.list) 288)::AN b0 (.cells (DB vI [((IX step i 0:Nat):Int),((IX step i 1:Nat):Int),((IX step i 2:Nat):Int),((IX step i 3:Nat):Int)]) 287)::AN b (.cells (DB AA (Db ws step i)) e)::H) ?_ (fun x hx=>?_)
 refine Ak Ca [0,1] (Bo [(true,0),(true,1),(true,2),(true,3),(true,4),(true,5),(true,6),(true,7),(true,8),(true,9),(true,10),(true,11),(true,12),(true,13),(true,14),(true,15),(true,16),(true,17),(true,18),(true,19),(true,20),(true,21),(true,22),(true,23)] (.alt 24 (Pl.of [(false,25),(false,26)]) (.cons (false,25) (Pl.of [(false,24),(false,26)])))) zK (J E ?_)
 refine Cq (n:=0) E V4 Mw E E zO zO ?_
 refine AF 0 D3 E (AW E E ?_)
 refine Cq (n:=IX step i 0) E Pz Bk E E E (h16 _ zO) ?_
 refine Bh E A6 E (Ch 1 E (Ez (Iv 0 (by rw[hwl];exact h16 _ zO)))) (J E ?_)
 refine Cq (n:=1) E V4 Mw E E zO zO ?_
 refine AF 0 D3 E (AW E E ?_)
 refine Cq (n:=IX step i 1) E Pz Bk E E E (h16 _ zO) ?_
 refine Bh E A6 E (Ch 1 E (Ez (Iv 0 (by rw[hwl];exact h16 _ zO)))) (J E ?_)
 refine Cq (n:=2) E V4 Mw E E zO zO ?_
 refine AF 0 D3 E (AW E E ?_)
 refine Cq (n:=IX step i 2) E Pz Bk E E E (h16 _ zO) ?_
 refine Bh E A6 E (Ch 1 E (Ez (Iv 0 (by rw[hwl];exact h16 _ zO)))) (J E ?_)
 refine Cq (n:=3) E V4 Mw E E zO zO ?_
 refine AF 0 D3 E (AW E E ?_)
 refine Cq (n:=IX step i 3) E Pz Bk E E E (h16 _ zO) ?_
 refine Bh E A6 E (Ch 1 E (Ez (Iv 0 (by rw[hwl];exact h16 _ zO)))) ?_
 refine Mp ?_ ?_
 refine Bm (vs:=[_,_,_,_]) (Hin:=[]) E E ⟨E,E,E,E,zT⟩ jh (by rw[←hq];rfl) E (Rr q) ?_
 rintro _ _ ⟨rfl,rfl⟩
 refine⟨⟨⟨0,rfl⟩,⟨1,rfl⟩,trivial⟩,?_⟩
 refine Ag E R6 (fun _=>⟨⟨1,E⟩,⟨2,E⟩,zT⟩) fun b1=>?_
 refine OO 0 E E E E Vd E E (Nh zV q.quarter.list) ⟨⟨1,E⟩,⟨2,E⟩,zT⟩ ?_
 refine AU ?_
 exact Sq b1 zT tL
 refine Ag E R6 (fun _=>⟨⟨1,E⟩,⟨2,E⟩,zT⟩) fun b1=>?_
 refine Bm (vs:=[_,_,_,_]) (Hin:=[]) E E ⟨E,E,E,E,zT⟩ jh (by rw[←hq];rfl) E (Rr q) ?_
 rintro _ _ ⟨rfl,rfl⟩
 refine⟨⟨⟨1,rfl⟩,⟨2,rfl⟩,trivial⟩,?_⟩
 refine OO 0 E E E E Vd E E (Nh zV q.quarter.list) ⟨⟨1,E⟩,⟨2,E⟩,zT⟩ ?_
 refine AU ?_
 exact Sq b1 zT tL
 
 refine Z (Ab (q.quarter.list.map AA) E iN E E (AZ 0 E) (J E (Y (AM ?_))))
 refine SX.mono (A5 (α:=Nat) (fun k=>k≤4) (fun k=>[(0,vP b 0),(1,vI step),(5,vP b0 0),(10,vI i),(53,.agg (DB AA q.quarter.list)),(54,vI k)]) (fun k=>AN x (.cells (DB AA q.quarter.list) 288)::AN b0 (.cells (DB vI [((IX step i 0:Nat):Int),((IX step i 1:Nat):Int),((IX step i 2:Nat):Int),((IX step i 3:Nat):Int)]) 287)::AN b (.cells (DB AA (UD (Db ws step i) (IX step i) q.quarter.list k)) e)::H) (fun k=>4-k) (fun k D hp=>?_) 0 zO) tL
 refine Z (V E Aw (Y (AE ?_)))
 refine As E (fun hc3=>?_) (fun hc3=>?_)
 have hk:k<4:=by simp at hc3;omega
 have hix:[((IX step i 0:Nat):Int),((IX step i 1:Nat):Int),((IX step i 2:Nat):Int),((IX step i 3:Nat):Int)][k]? = some ((IX step i k:Nat):Int):=by
  rcases(by omega:k=0∨k=1∨k=2∨k=3)with rfl | rfl | rfl | rfl<;>rfl
 have hsl:(UD (Db ws step i) (IX step i) q.quarter.list k).length=16:=(Pq ..).trans hwl
 refine AI (AG (AE (AM (Z (J E ?_)))))
 refine OL (i:=k) E Pg A6 E E zO zO (Ez (Iv 0 hk)) ?_
 refine O E (O E (Y (Ak Ca [1] (Bo [(true,0),(true,1),(true,2),(true,3),(true,4),(true,5),(true,6)] (.last 7 .nil)) zK (J E (J E ?_)))))
 refine Cq (n:=k) E V4 Mw E E zO zO ?_
 refine Bh E D3 E (Ch 0 E (Ez hix)) (J E (AW E E ?_))
 refine Cq (n:=IX step i k) E Pz Bk E E E (h16 _ hk) ?_
 refine BN ?_
 refine Ua (f:=AA) 2 E E E E Bk E E (by rw[hsl];exact h16 _ hk) zT ?_
 refine AU (An (AG (AK (V E (BU zO zO) (J E (AU ?_))))))
 exact Ai (k+1) zO zO tL
 have hk:k=4:=by simp at hc3;omega
 subst hk
 refine Ax (A3 (BL (Az (An (AG (AK (V E (BU zO zO) (J E (AU ?_)))))))))
 refine Ai (i+1) zO zO tL (fun w hw=>?_)
 have e1:UD (Db ws step i) (IX step i) q.quarter.list 4=Db ws step (i+1):=by rw[Db,kX,hq]
 rw[e1]at hw
 exact hw.skip [_,_]
 have hi:i=4:=by simp at hc1;omega
 subst hi
 refine Ax (A3 (BL (Az ?_)))
 exact Cr (DU E) (AY (M:=[_]) ⟨E,E⟩ fun _ h=>h)
end

section
variable {K:Nat→Prop}{w0:World}{H:List AV}
theorem ky(W B:List UInt32)(i:Nat)(h1:i<W.length)(h2:i<B.length):(List.zipWith (·+·) W B).take (i+1)=(List.zipWith (·+·) W B).take i++[W.getD i 0+B.getD i 0]:=by
 rw[List.take_add_one,List.getElem?_eq_getElem zQ]
 simp[List.getD_eq_getElem?_getD,h1,h2]
theorem fh(j:Nat):UInt32.ofNat j+1=UInt32.ofNat (j+1):=by
 apply UInt32.toNat_inj.1
 simp
theorem gJ(key nonce s:List UInt8)(n:Nat)(h:n<s.length):(GY key nonce s).take (n+1)=(GY key nonce s).take n++[s.getD n 0 ^^^ Om key nonce n]:=by
 rw[List.take_add_one,List.getElem?_eq_getElem (by rw[FK];exact h)]
 simp[GY]
theorem cu(key nonce:List UInt8)(counter:UInt32)(hk:key.length=32)(hn:nonce.length=12):zC K w0 150 [vS key,AA counter,vS nonce] [] H (fun r M=>r=.tuple #[vS (KG key counter nonce),vI 0]∧M=[]):=by
 refine UJ.enter Tryz.func150 rfl rfl ?_
 refine Z (O E (O E (Y (AE (Z (J E (BS E Bj E (V E Bg (J E ?_)))))))))
 refine DL (c:=(!decide ((nonce.length:Int)=12))) 16 4 20 E (fun hb k=>?_) (fun hb k=>?_) ?_
 refine AB E (AB E (AB E (Ae E E E ?_)))
 exact k.mono tL
 refine J E (BS E Bj E (V E Bg (Ae E E E ?_)))
 exact k.mono tL
 refine Y ?_
 refine As E (fun hc1=>absurd hc1 (by simp[hk,hn])) (fun hc1=>?_)
 refine AI (AG (Z (J E (J E (J E (AQ 0 qq (df key nonce counter hk hn) E ?_))))))
 have hB:=Mj (counter:=counter) hk hn
 generalize hBe:H6 key counter nonce=B at hB
 refine Ag E bW zU fun b0=>?_
 refine OO (c':=DB AA B) 0 E E E E mU (by rw[TD];exact hB) E (Nh zV B) zT ?_
 refine Y (Z ?_)
 refine Ag E bW zU fun b1=>?_
 refine Y (AE (Ak Ca [] (Bo [(true,0),(true,1)] (.last 2 .nil)) zK (jz E Pz Bk E zD (jz E Pz Bk E zD (BN ?_)))))
 refine qt (f:=AA) (xs:=List.replicate 16 0) (ys:=B) 0 1 E CU Bk E E E E E hB zV zT ?_
 refine Y (AE (Z (J E (Y (AM ?_)))))
 refine SX.mono (A5 (α:=Nat) (fun i=>i≤10) (fun i=>[(8,vP b0 0),(9,vP b1 0),(28,vI i)]) (fun i=>AN b1 (.cells (DB AA (Sl B i)) 265)::AN b0 (.cells (DB AA B) 265)::H) (fun i=>10-i) (fun i D hp=>?_) 0 zO) tL
 have htl:=(Mo B i).trans hB
 refine Z (V E Aw (Y (AE ?_)))
 refine As E (fun hc2=>?_) (fun hc2=>?_)
 have hi:i<10:=by simp at hc2;omega
 refine AI (AG (AE (AM (Z (AQ 1 jN (VC (Sl B i) 0 b1 265 htl zO) E (Y (AK (AQ 1 jN (VC (VJ (Sl B i) 0) 1 b1 265 ((Kc ..).trans htl) zO) E (AU (An (AG (AK (V E (BU zO zO) (J E (AU ?_)))))))))))))))
 exact Ai (i+1) zO zO tL
 have hi:i=10:=by simp at hc2;omega
 subst hi
 generalize hW:Sl B 10=W at htl
 refine Ax (A3 (BL (Az (AG (Z (O E (Y (AE (Z (Ab (W.map AA) E ij (by simp[htl]) E (AZ 0 E) (J E (Y (AM (JG 5 1 ?_))))))))))))))
 refine SX.mono (A5 (α:=Nat×Value) (fun x=>x.1≤16) (fun x=>[(8,vP b0 0),(10,x.2),(33,.agg (DB AA W)),(34,vI x.1)]) (fun x=>DF 5 1 x.2 (4*x.1) ((((List.zipWith (·+·) W B).take x.1).flatMap GD).map fun b=>Dn b)::AN b1 (.cells (DB AA W) 265)::AN b0 (.cells (DB AA B) 265)::H) (fun x=>16-x.1) (fun x D hp=>?_) (0,zN) zD) tL
 obtain⟨i,v⟩:=x
 simp only at hp
 refine Z (V E Aw (Y (AE ?_)))
 refine As E (fun hc3=>?_) (fun hc3=>?_)
 have hi:i<16:=by simp at hc3;omega
 refine AI (AG (AE (AM (Z (J E ?_)))))
 refine OL (i:=i) E Pz A6 E E zO zO (Ez (Iv 0 zO)) ?_
 refine O E (O E (Y (Z (J E (J E ?_)))))
 refine Cq (n:=i) E Pz Bk E E zO zO ?_
 refine Bh E A6 E (Ch 2 E (Ez (Iv 0 zO))) (V E Bx (O E (Y (AK (J E (J E (Au E E (Cs Bv Cl) (J E ?_))))))))
 refine V E (E0.shr32 (n:=8)) ?_
 refine Au E E (Cs Bv Cl) (J E ?_)
 refine V E (E0.shr32 (n:=16)) ?_
 refine Au E E (Cs Bv Cl) (J E ?_)
 refine V E (E0.shr32 (n:=24)) ?_
 refine Au E E (Cs Bv Cl) ?_
 refine Bz [_,_,_,_] E CM KH LA ⟨E,E,E,E,zT⟩ E E E zX E E zU fun b2=>?_
 refine U3 1 rfl (m:=4) (news:=(GD (W.getD i 0+B.getD i 0)).map fun b=>Dn b) CM KH Vs LA rfl zD rfl rfl rfl rfl (AZ 0 rfl) (by intro u hu;obtain⟨x,_,rfl⟩:=List.mem_map.1 hu;rfl) zO zO zU fun v'=>?_
 refine O E (AU (An (AG (AK (V E (BU zO zO) (J E (AU ?_)))))))
 refine Ai (i+1,v') (by simp only;omega) (by simp only;omega) tL (fun w hw=>?_)
 simp only
 rw[ky W B i zO zO,List.flatMap_append,List.map_append]
 simp only[List.flatMap_cons,List.flatMap_nil,List.append_nil]
 exact hw.skip [_]
 have hi:i=16:=by simp at hc3;omega
 subst hi
 have ht:(List.zipWith (·+·) W B).take 16=List.zipWith (·+·) W B:=List.take_of_length_le zQ
 rw[ht]
 refine Ax (A3 (BL (Az (AG (Z (J E ?_))))))
 refine ZU (s:=(List.zipWith (·+·) W B).flatMap GD) 0 E CM Cl Bj E E ?_
 refine O E (O E (Y (AL ?_)))
 exact AX (HN E E E) (AY (M:=[]) ⟨by rw[KG,jy,hBe,hW],E⟩ fun _ h=>h.skip [_,_,_])
theorem Ys(key nonce s:List UInt8)(hk:key.length=32)(hn:nonce.length=12)(hs:s.length≤1048576):zC K w0 109 [vS key,vS nonce,vS s] [] H (fun r M=>r=.tuple #[vS (GY key nonce s),vI 0]∧M=[]):=by
 refine UJ.enter Tryz.func109 rfl rfl ?_
 refine Z (O E (O E (Y (AE (Z (J E (BS E Bj E (V E Bg (J E ?_)))))))))
 refine DL (c:=(!decide ((nonce.length:Int)=12))) 17 4 21 E (fun hb k=>?_) (fun hb k=>?_) ?_
 refine AB E (AB E (AB E (Ae E E E ?_)))
 exact k.mono tL
 refine J E (BS E Bj E (V E Bg (Ae E E E ?_)))
 exact k.mono tL
 refine J E ?_
 refine DL (c:=decide ((1048576:Int)<s.length)) 22 4 26 E (fun hb k=>?_) (fun hb k=>?_) ?_
 refine AB E (AB E (AB E (Ae E E E ?_)))
 exact k.mono tL
 refine J E (BS E Bj E (V E CY (Ae E E E ?_)))
 exact k.mono tL
 refine Y ?_
 refine As E (fun hc1=>absurd hc1 (by simp[hk,hn];omega)) (fun hc1=>?_)
 refine AI (AG (Z ?_))
 refine Ag E cZ zU fun b0=>?_
 refine Y (AE (Z (O E (Y (AM (JG 5 1 (SX.pick [1,0] 2 ?_)))))))
 have hxl:=FK key nonce s
 refine SX.mono (A5 (α:=Nat×Value×Value) (fun x=>64*x.1<s.length+64∧PH b0 x.2.1) (fun x=>[(0,vS key),(1,vS nonce),(2,vS (s.drop (64*x.1))),(8,vP b0 0),(9,AA (UInt32.ofNat x.1))]) (fun x=>AN b0 (.cells #[x.2.1,x.2.2] 172)::DF 5 1 x.2.2 (min (64*x.1) s.length) (((GY key nonce s).take (min (64*x.1) s.length)).map fun b=>Dn b)::H) (fun x=>s.length+64-64*x.1) (fun x D hp=>?_) (0,.pointer none,zN) ⟨by simp,.inl E⟩) ⟨E,E,E,E,E,zT⟩
 obtain⟨j,p,v⟩:=x
 obtain⟨hj,hadr⟩:=hp
 simp only at hj hadr
 refine AE (Z (J E ?_))
 refine V E (Ij (t:=[])) ?_
 refine Y ?_
 refine As E (fun hc2=>?_) (fun hc2=>?_)
 have hjl:64*j<s.length:=by simp at hc2;omega
 have hmin:min (64*j) s.length=64*j:=zO
 rw[hmin]
 refine AI (AG (AE (AM (Z (J E (J E (J E (AQ 0 ob (cu key nonce (UInt32.ofNat j) hk hn) E ?_))))))))
 have hbl:=SV (counter:=UInt32.ofNat j) hk hn
 refine J E (Al E E E (Al E E E (O E (O E (Y (Z (J E (J E (BS E Bj E ?_)))))))))
 refine J E (BS E Bj E (P2 E E E (O5 (min (s.length-64*j) 64) E Bj E E zQ zQ (O E (Y (AE (Z (J E (BS E Bj E (J E (Y (AM ?_))))))))))))
 have hpl:((s.drop (64*j)).take (min (s.length-64*j) 64)).length=min (s.length-64*j) 64:=by simp
 refine SX.mono (A5 (α:=Nat×Value×Value) (fun x=>x.1≤min (s.length-64*j) 64∧PH b0 x.2.1) (fun x=>[(0,vS key),(1,vS nonce),(2,vS (s.drop (64*j))),(8,vP b0 0),(9,AA (UInt32.ofNat j)),(10,vS (KG key (UInt32.ofNat j) nonce)),(12,vS ((s.drop (64*j)).take (min (s.length-64*j) 64))),(46,vI ((s.drop (64*j)).take (min (s.length-64*j) 64)).length),(47,vI x.1)]) (fun x=>AN b0 (.cells #[x.2.1,x.2.2] 172)::DF 5 1 x.2.2 (64*j+x.1) (((GY key nonce s).take (64*j+x.1)).map fun b=>Dn b)::H) (fun x=>64-x.1) (fun x D hp=>?_) (0,p,v) ⟨Nat.zero_le _,hadr⟩) tL
 obtain⟨i,p,v⟩:=x
 obtain⟨hi,hadr⟩:=hp
 simp only at hi hadr
 refine Z (V E Aw (Y (AE ?_)))
 refine As E (fun hc3=>?_) (fun hc3=>?_)
 have hil:i<min (s.length-64*j) 64:=by simp only[hpl]at hc3;simpa using hc3
 refine AI (AG (AE (AM (Z (J E (O E (Y (Ak Ca [] (Bo [(true,0),(true,1),(true,2),(true,3),(true,4),(true,5),(true,6)] (.last 7 .nil)) zK (J E (J E (Gj i E Bj E E zO zO (J E (J E ?_)))))))))))))
 refine Gj i E Bj E E zO zO (V E QJ (BN ?_))
 have e1:((s.drop (64*j)).take (min (s.length-64*j) 64)).getD i 0=s.getD (64*j+i) 0:=by
  simp[List.getD_eq_getElem?_getD,hil,show 64*j+i<s.length by omega]
 have e2:(KG key (UInt32.ofNat j) nonce).getD i 0=Om key nonce (64*j+i):=by
  rw[Om,show(64*j+i) / 64=j by omega,show(64*j+i)%64=i by omega]
 rw[e1,e2]
 refine Bp 2 XD (OM 172 b0 p v (64*j+i) _ _ hadr VT zO) E ?_
 rintro _ _ ⟨rfl,v',rfl⟩
 refine AU (An (AG (AK (V E (BU zO zO) (J E (AU ?_))))))
 refine Ai (i+1,vP b0 0,v') ⟨by simp only;omega,.inr E⟩ (by simp only;omega) tL (fun w hw=>?_)
 simp only
 rw[←Nat.add_assoc,gJ key nonce s (64*j+i) zO,List.map_append]
 exact hw
 have hie:i=min (s.length-64*j) 64:=by simp only[hpl]at hc3;simp at hc3;omega
 refine Ax (A3 (BL (Az (AG (AK (J E (J E (BS E Bj E (Ns (min (s.length-64*j) 64) E Bj E E (by rw[hpl]) zQ ?_)))))))))
 rw[List.drop_drop]
 refine O E (AU (An (AG (AK (J E ?_)))))
 refine V E (Bx (b:=1)) ?_
 refine O E (AU ?_)
 have e1:s.drop (64*j+min (s.length-64*j) 64)=s.drop (64*(j+1)):=by
  rcases Nat.lt_or_ge (s.length-64*j) 64 with h | h
  rw[List.drop_eq_nil_of_le zO,List.drop_eq_nil_of_le zO]
  rw[show 64*j+min (s.length-64*j) 64=64*(j+1) by omega]
 rw[e1,fh]
 refine Ai (j+1,p,v) ⟨by simp only;omega,hadr⟩ (by simp only;omega) tL (fun w hw=>?_)
 simp only
 rw[show min (64*(j+1)) s.length=64*j+i by omega]
 exact hw
 have hjl:s.length≤64*j:=by simp at hc2;omega
 have hmin:min (64*j) s.length=s.length:=zO
 have ht:(GY key nonce s).take s.length=GY key nonce s:=List.take_of_length_le zO
 rw[hmin,ht]
 refine Ax (A3 (BL (Az (AG (Z (AQ 2 OK (Ku 172 b0 p v s.length (GY key nonce s) zO) E (O E (O E (Y (AL ?_))))))))))
 exact AX (HN E E E) (AY (M:=[]) ⟨E,E⟩ fun _ h=>h.skip [_,_])
end

section
variable {K:Nat→Prop}{w0:World}{H:List AV}
theorem PX(b:Nat)(p v:Value)(e:TypeId)(n:UInt64)(w m:Nat)(xs:List UInt8)(hp:PH b p)(hl:Zy e)(hw:w≤8)(hm:m≤1048576):zC K w0 152 [vP b 0,Ap n,vI w] [AN b (.cells #[p,v] e),DF 5 1 v m (xs.map fun b=>Dn b)] H (fun r M=>r=.tuple #[]∧∃p' v',PH b p'∧M=[AN b (.cells #[p',v'] e),DF 5 1 v' (m+w) ((xs++BA n w).map fun b=>Dn b)]):=by
 refine UJ.enter Tryz.func152 rfl rfl ?_
 refine Z (J E (J E (Y (AM ?_))))
 refine SX.mono (A5 (α:=Nat×Value×Value) (fun x=>x.1≤w∧PH b x.2.1) (fun x=>[(0,vP b 0),(1,Ap n),(7,vI w),(8,vI x.1)]) (fun x=>AN b (.cells #[x.2.1,x.2.2] e)::DF 5 1 x.2.2 (m+x.1) ((xs++BA n x.1).map fun b=>Dn b)::H) (fun x=>w-x.1) (fun x D hp=>?_) (0,p,v) ⟨Nat.zero_le _,hp⟩ |>.heap (fun w h=>by simpa[BA]using h)) tL
 obtain⟨i,p,v⟩:=x
 obtain⟨hi,hadr⟩:=hp
 simp only at hi hadr
 refine Z (V E Aw (Y (AE ?_)))
 refine As E (fun hc1=>?_) (fun hc1=>?_)
 have hlt:i<w:=by simpa using hc1
 refine AI (AG (AE (AM (Z (J E (O E (Y (Ak Ca [] (Bo [(true,0),(true,1),(true,2),(true,3),(true,4),(true,5),(true,6),(true,7)] (.last 8 .nil)) zK (J E (AW E E (AD E X4 (J E (J E ?_)))))))))))))
 refine V E (Ky zO zO) ?_
 refine V E (E0.shr64 (n:=(8*i))) ?_
 refine Au E E (Gu CQ Cl) (BN (Bp 2 XD (OM e b p v (m+i) _ _ hadr hl zO) E ?_))
 rintro _ _ ⟨rfl,v',rfl⟩
 refine AU (An (AG (AK (V E (BU zO zO) (J E (AU ?_))))))
 refine Ai (i+1,vP b 0,v') ⟨hlt,.inr E⟩ (by simp only;omega) tL (fun w hw=>?_)
 simp only
 rw[R9,←List.append_assoc,List.map_append (l₁:=xs++BA n i),←Nat.add_assoc]
 exact hw
 have hie:i=w:=by simp at hc1;omega
 subst hie
 refine Ax (A3 (BL (Az ?_)))
 exact Cr (DU E) (AY (M:=[_,_]) ⟨E,p,v,hadr,E⟩ fun _ h=>h)
theorem Pi(h:B7):zC K w0 110 [.agg (Bq h).toArray] [] H (fun r M=>r=vS (GJ h)∧M=[]):=by
 refine UJ.enter Tryz.func110 rfl rfl ?_
 refine Z ?_
 refine Bd E E zU fun b0=>?_
 refine O E (Y (Z ?_))
 refine Ag E oS zU fun b1=>?_
 refine Y (Z ?_)
 refine Hb (fv:=#[_]) (cv:=#[]) E E E ?_
 refine O E (Y (JG 5 1 (SX.pick [1,0,2] 3 (Z (J E (AD E Uc (AF 2 A6 E (Au E E (Ci Bv CQ) (Bp 2 W9 (PX b1 (.pointer none) (.slice none 0 0) 228 h.boot.toUInt64 4 0 [] (.inl E) dJ zO zO) E ?_)))))))))
 rintro _ _ ⟨rfl,p1,v1,ha1,rfl⟩
 refine Y (Z (J E (AD E VK (AF 2 M1 E (Bp 2 W9 (PX b1 p1 v1 228 h.seq 8 4 _ ha1 dJ zO zO) E ?_)))))
 rintro _ _ ⟨rfl,p2,v2,ha2,rfl⟩
 refine Y (Z (AD E X4 (AQ 2 OK (Ku 228 b1 p2 v2 12 (GJ h) zO) E (O E (Y (AL ?_))))))
 exact AX (De E E) (AY (M:=[]) ⟨E,E⟩ fun _ h=>h.skip [_,_,_])
theorem WF(h:B7):zC K w0 111 [.agg (Bq h).toArray] [] H (fun r M=>r=vS (Nk h)∧M=[]):=by
 refine UJ.enter Tryz.func111 rfl rfl ?_
 refine Z ?_
 refine Bd E E zU fun b0=>?_
 refine O E (Y (Z ?_))
 refine Ag E oS zU fun b1=>?_
 refine Y (Z ?_)
 refine Hb (fv:=#[_]) (cv:=#[]) E E E ?_
 refine O E (Y (JG 5 1 (SX.pick [1,0,2] 3 (Z (J E (AD E U7 (AF 2 A6 E (Au E E (Ci Bv CQ) (Bp 2 W9 (PX b1 (.pointer none) (.slice none 0 0) 228 h.page.toUInt64 4 0 [] (.inl E) dJ zO zO) E ?_)))))))))
 rintro _ _ ⟨rfl,p1,v1,ha1,rfl⟩
 refine Y (Z (J E (AD E Oo (AF 2 A6 E (Au E E (Ci Bv CQ) (Bp 2 W9 (PX b1 p1 v1 228 h.gen.toUInt64 4 4 _ ha1 dJ zO zO) E ?_))))))
 rintro _ _ ⟨rfl,p2,v2,ha2,rfl⟩
 refine Y (AE (Ak Ca [2] (Pl.of [(true,0),(true,2),(false,1),(false,3),(true,4),(true,5),(true,6)]) zK (AD E X4 (Ab (Bq h) E C6 E E (AZ 0 E) (BO 2 OK (Ku 228 b1 p2 v2 8 (BA h.page.toUInt64 4++BA h.gen.toUInt64 4) zO) E ⟨⟨2,E⟩,zT⟩ (BO 0 bK (Pi h) E ⟨⟨2,E⟩,zT⟩ (V E (Fl (by simp[Ah,HJ])) (V E (Fl (by simp[Ah,HJ])) (O E (Y (AL ?_)))))))))))
 exact AX (De E E) (AY (M:=[]) ⟨E,E⟩ fun _ h=>h.skip [_,_,_])
end

section
variable {K:Nat→Prop}{w0:World}{H:List AV}
def ma(p:Nat×UInt64):List Value:=[vI p.1,Ap p.2]
theorem oF{i:Nat}(h:i<5):i=0∨i=1∨i=2∨i=3∨i=4:=zO
theorem ZS(s:List UInt8)(b:Nat)(hs:s.length=24):kc Tryz.prog K w0 235 [vP b 0] [AN b (.cells #[vS s] 9)] ma (MQ s):=by
 intro lp J9 X T1 hy G h0
 refine UJ.enter Tryz.func235 rfl rfl ?_
 refine Z (SC [vI 4,vI 4,vI 4,vI 8,vI 4] E mL Mw rN E ⟨E,E,E,E,E,zT⟩ E E zX (J E (Y (AM ?_))))
 refine SX.mono (A5 (α:=Nat×List AV) (fun x=>x.1≤5∧J9 ((MQ s).take x.1) x.2) (fun x=>[(0,vY lp),(1,vP b 0),(7,.agg #[vI 4,vI 4,vI 4,vI 8,vI 4]),(8,vI x.1)]) (fun x=>AN b (.cells #[vS (s.drop (PP x.1))] 9)::(x.2++T1)) (fun x=>5-x.1) (fun x D hp=>?_) (0,G) ⟨Nat.zero_le _,h0⟩) tL
 obtain⟨i,G⟩:=x
 obtain⟨hi,hJ⟩:=hp
 simp only at hi hJ
 refine Z (V E Aw (Y (AE ?_)))
 refine As E (fun hc1=>?_) (fun hc1=>?_)
 have hlt:i<5:=by simp at hc1;omega
 have hg:=Un s i hlt
 have hoff:PP i+MF i≤24:=by rcases oF hlt with rfl | rfl | rfl | rfl | rfl<;>decide
 have hw8:MF i≤8:=by rcases oF hlt with rfl | rfl | rfl | rfl | rfl<;>decide
 have hwid:(#[vI 4,vI 4,vI 4,vI 8,vI 4]:Array Value)[i]? = some (vI (MF i:Nat)):=by rcases oF hlt with rfl | rfl | rfl | rfl | rfl<;>rfl
 refine AI (AG (AE (AM (Z (J E ?_)))))
 refine OL (i:=i) E mL D3 E E zO zO hwid ?_
 refine O E (O E (Y (Z (O E (Y (AE (Z (J E (J E (Y (AM ?_)))))))))))
 refine SX.mono (A5 (α:=Nat) (fun k=>k≤MF i) (fun k=>[(0,vY lp),(1,vP b 0),(3,vI i),(4,vI (MF i:Nat)),(5,Ap (B6 (s.drop (PP i)) k)),(7,.agg #[vI 4,vI 4,vI 4,vI 8,vI 4]),(8,vI i),(12,vI (MF i:Nat)),(13,vI k)]) (fun k=>AN b (.cells #[vS (s.drop (PP i))] 9)::(G++T1)) (fun k=>MF i-k) (fun k D hp=>?_) 0 (Nat.zero_le _)) tL
 refine Z (V E Aw (Y (AE ?_)))
 refine As E (fun hc2=>?_) (fun hc2=>?_)
 have hk:k<MF i:=by simpa using hc2
 refine AI (AG (AE (AM (Z (J E (O E (Y (AK (J E (AF 0 FX E (J E (Gj k E Bj E E zO zQ (Au E E (Sn Cl CQ) (J E ?_))))))))))))))
 refine V E (Ky zO zO) ?_
 refine V E (E0.shl64 (n:=(8*k))) ?_
 refine V E aL (O E (AU (An (AG (AK (V E (BU zO zO) (J E (AU ?_))))))))
 exact Ai (k+1) hk zO tL
 have hk:k=MF i:=by simp at hc2;omega
 subst hk
 refine Ax (A3 (BL (Az (AG (AE (Z (J E (J E (J E ?_)))))))))
 refine JJ (M2:=[_]) (G:=G) (T:=T1) (vs:=[_,_]) (ok:=fun G1=>J9 ((MQ s).take (i+1)) G1) (no:=X) E E ⟨E,E,zT⟩ E ?_ (fun bb G1 hG1=>⟨zT,?_⟩)
 intro M
 have:=hy _ _ _ (E7 hg).1 G hJ M
 rw[←(E7 hg).2]at this
 exact this
 refine CN E E (Y ?_)
 refine As E (fun hc3=>?_) (fun hc3=>?_)
 obtain rfl:bb=false:=by simpa using hc3
 refine AL (Aa (BX (Aa (Dj (BX ?_)))))
 exact AX (DU E) (AY (M:=G1) (.inr hG1) fun _ h=>h.skip [_])
 obtain rfl:bb=true:=by simpa using hc3
 refine AI (AG (AK (AF 0 FX E (J E (Ns (MF i) E Bj E E zO zQ ?_)))))
 rw[List.drop_drop]
 refine Aj 0 E E E E Ix E E E zT (AU (An (AG (AK (V E (BU zO zO) (J E (AU ?_)))))))
 exact Ai (i+1,G1) ⟨hlt,hG1⟩ (by simp only;omega) tL
 have hle:i=5:=by simp at hc1;omega
 refine Ax (A3 (BL (Az ?_)))
 exact Cr (DU E) (AY (M:=G) (.inl (by rw[List.take_of_length_le (by rw[RO];omega)]at hJ;exact hJ)) fun _ h=>h.skip [_])
theorem ZF(s:List UInt8):zC K w0 233 [vS s] [] H (fun r M=>∃b,r=.func (.func 235) #[] #[vP b 0]∧M=[AN b (.cells #[vS s] 9)]):=by
 refine UJ.enter Tryz.func233 rfl rfl ?_
 refine Z ?_
 refine Bd E E zU fun b0=>?_
 refine O E (Y (Z ?_))
 refine Hb (fv:=#[]) (cv:=#[_]) E E E ?_
 refine O E (Y (AL ?_))
 exact AX (De E E) (AY (M:=[_]) ⟨b0,E,E⟩ fun _ h=>h)
theorem ff(s:List UInt8):zC K w0 220 [vS s] [] H (fun r M=>r=.tuple #[.agg (Bq (GZ s).1).toArray,vB (GZ s).2]∧M=[]):=by
 refine UJ.enter Tryz.func220 rfl rfl ?_
 refine Z ?_
 refine Ag E FB zU fun b0=>?_
 refine O E (Y (K6 (Z ?_)))
 refine Ag E FB zU fun b1=>?_
 refine Y (AE (Z (J E (BS E Bj E (V E Bg (Y ?_))))))
 refine As E (fun hc1=>?_) (fun hc1=>?_)
 have hs:GZ s=(D8,false):=by unfold GZ;rw[if_neg (fun h=>by simp at hc1;omega)]
 rw[hs]
 refine Z (Ab (Bq D8) E C6 E E (AZ 0 E) (Aj 1 E E E E Ef E E E zT (O E (Y (AL (Aa (FN ?_)))))))
 exact AX (DR E (BC 1 (Bq D8) C6 E E E E) E) (AY (M:=[]) ⟨E,E⟩ fun _ h=>h.skip [_,_])
 have hs:s.length=24:=by simp at hc1;omega
 refine AI (AG (AE (Kn (AG (AE (Z (J E (Bp 0 ph (ZF s) E ?_))))))))
 rintro _ _ ⟨bi,rfl,rfl⟩
 refine Y (AM ?_)
 refine QM (enc:=ma) (MQ s) (fun pre G=>pre.length≤3∧G=AN b1 (.cells (Bq (iE s pre.length)).toArray 143)::AN b0 (.cells (Bq D8).toArray 143)::H) (fun c G=>c=.exit 0∧G=AN b1 (.cells (Bq (N1 s)).toArray 143)::AN b0 (.cells (Bq D8).toArray 143)::H) E qL E zV (ZS s bi hs) E ⟨Nat.zero_le _,E⟩ (fun pre x suf G hxs hJ r lp Rest=>?_) (fun G D hJ=>?_) (fun c G D hX=>?_)
 obtain⟨hpl,rfl⟩:=hJ
 have hget:(MQ s)[pre.length]? = some x:=by rw[hxs];simp
 rw[Un s _ zO]at hget
 obtain rfl:=zI hget
 have hpl2:(pre++[(pre.length,JH s pre.length)]).length=pre.length+1:=by simp
 have hJ2:∀G,G=AN b1 (.cells (Bq (iE s (pre.length+1))).toArray 143)::AN b0 (.cells (Bq D8).toArray 143)::H→pre.length≤2→(pre++[(pre.length,JH s pre.length)]).length≤3∧G=AN b1 (.cells (Bq (iE s (pre++[(pre.length,JH s pre.length)]).length)).toArray 143)::AN b0 (.cells (Bq D8).toArray 143)::H:=fun G hG h=>by rw[hpl2];exact⟨by omega,hG⟩
 clear hxs hpl2
 generalize pre.length=k at*
 refine Z (O E (Y (AK (O E (AU (Lo (AM (Z (J E (Y (AM (Z (V E CH (O E (Y ?_)))))))))))))))
 refine As E (fun hc2=>?_) (fun hc2=>?_)
 obtain rfl:k=0:=by simp at hc2;omega
 refine AK (J E (Au E E (Ce CQ Bv) (AD E U7 (Aj 0 E E E E Bk E E E zT (AU (An (An ?_)))))))
 exact Iq (hJ2 _ E zO) (fun _ h=>h)
 have hk0:k≠0:=by simp at hc2;omega
 refine Z (V E CH (O E (Y ?_)))
 refine As E (fun hc3=>?_) (fun hc3=>?_)
 obtain rfl:k=1:=by simp at hc3;omega
 refine AK (J E (Au E E (Ce CQ Bv) (AD E Oo (Aj 0 E E E E Bk E E E zT (AU (An (An ?_)))))))
 exact Iq (hJ2 _ E zO) (fun _ h=>h)
 have hk1:k≠1:=by simp at hc3;omega
 refine Z (V E CH (O E (Y ?_)))
 refine As E (fun hc4=>?_) (fun hc4=>?_)
 obtain rfl:k=2:=by simp at hc4;omega
 refine AK (J E (Au E E (Ce CQ Bv) (AD E Uc (Aj 0 E E E E Bk E E E zT (AU (An (An ?_)))))))
 exact Iq (hJ2 _ E zO) (fun _ h=>h)
 have hk2:k≠2:=by simp at hc4;omega
 refine Z (V E CH (O E (Y ?_)))
 refine As E (fun hc5=>?_) (fun hc5=>?_)
 obtain rfl:k=3:=by simp at hc5;omega
 refine Z (J E (AD E VK (Aj 0 E E E E nW E E E zT (Y (Ax (MS (MS ?_)))))))
 exact Nv (G:=_::_::H) ⟨E,E⟩ (fun _ h=>h)
 exact absurd hc5 zQ
 exact absurd hJ.1 (by rw[RO];omega)
 obtain⟨rfl,rfl⟩:=hX
 refine Ax (Az (AG (AE (Z (Ab (Bq (N1 s)) E C6 E E (AZ 0 E) (AQ 0 j0 (WF (N1 s)) E (J E (V E Ij (Y ?_)))))))))
 refine As E (fun hc7=>?_) (fun hc7=>?_)
 have hg:GZ s=(D8,false):=by unfold GZ;rw[if_neg (fun h=>by simp[h.2]at hc7)]
 rw[hg]
 refine Z (BK [] E LD LE FB zT E (Aj 1 E E E E Ef E E E zT (O E (Y (AL (Aa (FN ?_)))))))
 exact AX (DR E (BC 1 (Bq D8) C6 E E E E) E) (AY (M:=[]) ⟨E,E⟩ fun _ h=>h.skip [_,_])
 have hg:GZ s=(N1 s,true):=by unfold GZ;rw[if_pos ⟨hs,by simpa using hc7⟩]
 rw[hg]
 refine AI (AG (Z (Ab (Bq (N1 s)) E C6 E E (AZ 0 E) (Aj 1 E E E E Ef E E E zT (O E (Y (AL (FN ?_))))))))
 exact AX (DR E (BC 1 (Bq (N1 s)) C6 E E E E) E) (AY (M:=[]) ⟨E,E⟩ fun _ h=>h.skip [_,_])
end

section
variable {K:Nat→Prop}{w0:World}{H:List AV}
theorem qw(s:List UInt8)(hn:s.length≤9223372036854775807):zC K w0 107 [vS s] [] H (fun r M=>r=.tuple #[vS (O7 s).1,vI (O7 s).2]∧M=[]):=
 (gR s hn).mono fun v M h=>⟨by rw[h.1];unfold O7;split<;>rfl,h.2⟩
theorem fA(T:List UInt32)(k:BT)(hT:Hd K w0 T)(hr:DW [k]=true):zC K w0 108 [.agg (A7 k).toArray] [] H (fun r M=>r=.tuple #[vS (Hf T k Hg),vS (Hf T k IQ),vI 0]∧M=[]):=
 (cL T k hT).mono fun v M h=>⟨by rw[h.1,if_pos hr],h.2⟩
theorem UW(T:List UInt32)(v:Value)(l:List BT)(h:B7)(s:List UInt8)(hT:Hd K w0 T)(hk:CJ K w0 A7 2 v l)(hv:v.cells=#[v])(hl:l.length≤1099511627776)(hn:s.length≤9223372036854775807):zC K w0 76 [v,.agg (Bq h).toArray,vS s] [] H (fun r M=>r=.tuple #[vS (FS T l h s).1,vI (FS T l h s).2]∧M=[]):=by
 refine UJ.enter Tryz.func76 rfl rfl ?_
 refine Z ?_
 refine Bd E E zU fun b0=>?_
 refine O E (O E (Y (Z (J E (AD E Oo (AF 0 A6 E (AQ 0 hE (RI v l h.gen hk hv hl) E ?_)))))))
 generalize hf:C0 l h.gen=f
 refine J E (Al E E E (Al E E E ?_))
 refine Ag E JA zU fun b1=>?_
 refine Aj 0 E E E E Fb E E E zT (O E (Y (AE (Z (J E (V E Bg (Y ?_)))))))
 refine As E (fun hc1=>?_) (fun hc1=>?_)
 have he:f.2≠0:=by simpa using hc1
 have hs:FS T l h s=([],f.2):=by unfold FS;rw[hf,if_pos he]
 rw[hs]
 refine Z (J E (O E (O E (Y (AL (Aa ?_))))))
 exact AX (HN E E E) (AY (M:=[]) ⟨E,E⟩ fun _ h=>h.skip [_,_])
 have he:f.2=0:=by simpa using hc1
 have hok:=QC (l:=l) (g:=h.gen) (by rw[hf];exact he)
 rw[hf]at hok
 refine AI (AG (Z (J E (AQ 0 pf (qw s hn) E (J E (Al E E E (Al E E E (O E (O E (Y (AE (Z (J E ?_)))))))))))))
 refine V E Bg (Y ?_)
 refine As E (fun hc2=>?_) (fun hc2=>?_)
 have h1:198<s.length:=by
  unfold O7 at hc2
  split at hc2
  assumption
  simp at hc2
 have hs:FS T l h s=([],50):=by unfold FS;rw[hf,if_neg (by simp[he]),if_pos h1]
 have hp:O7 s=([],50):=by unfold O7;rw[if_pos h1]
 rw[hs,hp]
 refine Z (J E (O E (O E (Y (AL (Aa ?_))))))
 exact AX (HN E E E) (AY (M:=[]) ⟨E,E⟩ fun _ h=>h.skip [_,_])
 have h1:¬198<s.length:=by
  intro h1
  unfold O7 at hc2
  rw[if_pos h1]at hc2
  simp at hc2
 have hp:O7 s=(I2 s,0):=by unfold O7;rw[if_neg h1]
 have hpl:(I2 s).length=200:=F3 zO
 have hbl:=G9 T f.1 h hpl
 have hsl1:=IG T f.1 Hg
 have hsl2:=IG T f.1 IQ
 have hs:FS T l h s=(I5 T f.1 h s,0):=by unfold FS;rw[hf,if_neg (by simp[he]),if_neg h1]
 rw[hs,hp]
 refine AI (AG (Z (Ab (A7 f.1) E Ju E E (AZ 0 E) (AQ 0 jO (fA T f.1 hT hok.2.2.2) E (J E (Al E E E (Al E E E (Al E E E (O E (O E ?_))))))))))
 refine O E (Y (Z (J E (Ab (Bq h) E C6 E E (AZ 1 E) (AQ 0 bK (Pi h) E (J E (AQ 0 js (Ys (Hf T f.1 Hg) (GJ h) (I2 s) hsl1 (HJ h) zO) E (J E (Al E E E ?_)))))))))
 refine Al E E E (O E (O E (Y (Z (Ab (Bq h) E C6 E E (AZ 1 E) (AQ 0 j0 (WF h) E (J E (V E (Fl (by rw[Hw,FK];omega)) (O E (Y (Z ?_)))))))))))
 refine J E (J E (J E ?_))
 refine Bz [_] E FY Ix TN ⟨E,zT⟩ E E E zX E E zU fun b2=>?_
 refine AQ 1 dV (Tt T (Hf T f.1 IQ) [I9 T f.1 h (I2 s)] b2 hT zO zQ zS) E ?_
 refine V E (Fl (by rw[Gm];have:=hbl;simp only[I9]at this;omega)) ?_
 refine O E (O E (Y (AL ?_)))
 exact AX (HN E E E) (AY (M:=[]) ⟨by simp[I5,I9],E⟩ fun _ h=>h.skip [_,_])
end

section
variable {K:Nat→Prop}{w0:World}{H:List AV}
theorem R7{bb:List UInt8}(h:bb.length=256):((bb.drop 24).take (224-24)).length=200:=by simp[h]
theorem bS(T:List UInt32)(v:Value)(l:List BT)(bb:List UInt8)(hT:Hd K w0 T)(hk:CJ K w0 A7 2 v l)(hv:v.cells=#[v])(hl:l.length≤1099511627776)(hn:bb.length≤9223372036854775807):zC K w0 202 [v,vS bb] [] H (fun r M=>r=.tuple #[.agg (Bq (Fq T l bb).1).toArray,vS (Fq T l bb).2.1,vI (Fq T l bb).2.2]∧M=[]):=by
 refine UJ.enter Tryz.func202 rfl rfl ?_
 refine Z ?_
 refine Ag E FB zU fun b0=>?_
 refine O E (O E (Y (Z (BK [] E LD LE FB zT E ?_))))
 refine Ag E FB zU fun b1=>?_
 refine Aj 0 E E E E Ef E E E zT (Y (AE (Z (J E (AQ 0 dW (Pr v l hk hv hl) E (CN E E (Y ?_)))))))
 refine As E (fun hc1=>?_) (fun hc1=>?_)
 have hr:DW l=false:=by simpa using hc1
 have ho:Fq T l bb=(D8,[],40):=by unfold Fq;rw[if_pos hr]
 rw[ho]
 refine Z (Ab (Bq D8) E C6 E E (AZ 0 E) (Aj 1 E E E E Ef E E E zT (O E (O E (Y (AL (Aa ?_)))))))
 exact AX (Iw E (BC 1 (Bq D8) C6 E E E E) E E) (AY (M:=[]) ⟨E,E⟩ fun _ h=>h.skip [_,_])
 have hr:¬DW l=false:=by simpa using hc1
 refine AI (AG (AE (Z (J E (BS E Bj E (V E Bg (Y ?_)))))))
 refine As E (fun hc2=>?_) (fun hc2=>?_)
 have hb:bb.length≠256:=by simp at hc2;omega
 have ho:Fq T l bb=(D8,[],61):=by unfold Fq;rw[if_neg hr,if_pos hb]
 rw[ho]
 refine Z (Ab (Bq D8) E C6 E E (AZ 0 E) (Aj 1 E E E E Ef E E E zT (O E (O E (Y (AL (Aa ?_)))))))
 exact AX (Iw E (BC 1 (Bq D8) C6 E E E E) E E) (AY (M:=[]) ⟨E,E⟩ fun _ h=>h.skip [_,_])
 have hb:bb.length=256:=by simp at hc2;omega
 have hb':¬bb.length≠256:=fun h=>h hb
 refine AI (AG (Z (J E (O5 24 E Bj E E zO zO (AQ 0 o9 (ff (bb.take 24)) E ?_)))))
 generalize hg:GZ (bb.take 24)=g
 refine J E (Al E E E (Al E E E ?_))
 refine Ag E FB zU fun b2=>?_
 refine Aj 0 E E E E Ef E E E zT (O E (Y (AE (Z (J E (CN E E (Y ?_)))))))
 refine As E (fun hc3=>?_) (fun hc3=>?_)
 have h3:g.2=false:=by simpa using hc3
 have ho:Fq T l bb=(D8,[],61):=by unfold Fq;rw[if_neg hr,if_neg hb',hg,if_pos h3]
 rw[ho]
 refine Z (Ab (Bq D8) E C6 E E (AZ 1 E) (Aj 2 E E E E Ef E E E zT (O E (O E (Y (AL (Aa ?_)))))))
 exact AX (Iw E (BC 2 (Bq D8) C6 E E E E) E E) (AY (M:=[]) ⟨E,E⟩ fun _ h=>h.skip [_,_,_])
 have h3:¬g.2=false:=by simpa using hc3
 refine AI (AG (Z (J E (AD E Oo (AF 0 A6 E (AQ 0 hE (RI v l g.1.gen hk hv hl) E ?_))))))
 generalize hf:C0 l g.1.gen=f
 refine J E (Al E E E (Al E E E ?_))
 refine Ag E JA zU fun b3=>?_
 refine Aj 0 E E E E Fb E E E zT (O E (Y (AE (Z (J E (V E Bg (Y ?_)))))))
 refine As E (fun hc4=>?_) (fun hc4=>?_)
 have h4:f.2≠0:=by simpa using hc4
 have ho:Fq T l bb=(D8,[],f.2):=by unfold Fq;rw[if_neg hr,if_neg hb',hg,if_neg h3,hf,if_pos h4]
 rw[ho]
 refine Z (Ab (Bq D8) E C6 E E (AZ 2 E) (J E (Aj 3 E E E E Ef E E E zT (O E (O E (Y (AL (Aa ?_))))))))
 exact AX (Iw E (BC 3 (Bq D8) C6 E E E E) E E) (AY (M:=[]) ⟨E,E⟩ fun _ h=>h.skip [_,_,_,_])
 have h4:f.2=0:=by simpa using hc4
 have h4':¬f.2≠0:=fun h=>h h4
 have hok:=QC (l:=l) (g:=g.1.gen) (by rw[hf];exact h4)
 rw[hf]at hok
 have hsl1:=IG T f.1 Hg
 have hsl2:=IG T f.1 IQ
 refine AI (AG (Z (Ab (A7 f.1) E Ju E E (AZ 0 E) (AQ 0 jO (fA T f.1 hT hok.2.2.2) E (J E (Al E E E (Al E E E (Al E E E (O E (O E ?_))))))))))
 refine O E (Y (AE (Z (J E (J E (O5 224 E Bj E E zO zO ?_))))))
 refine Bz [_] E FY Ix TN ⟨E,zT⟩ E E E zX E E zU fun b4=>?_
 refine AQ 1 dV (Tt T (Hf T f.1 IQ) [bb.take 224] b4 hT zO zQ zS) E (J E (AQ 0 gT (WU bb zO) E (AQ 0 qu (cm _ _ (by rw[Gm];omega)) E ?_)))
 have e5:Mt T (Hf T f.1 IQ) [bb.take 224].flatten=Mt T (Hf T f.1 IQ) (bb.take 224):=by simp
 rw[e5,show bb.length-32=224 by omega]
 refine CN E E (Y ?_)
 refine As E (fun hc5=>?_) (fun hc5=>?_)
 have h5:Mt T (Hf T f.1 IQ) (bb.take 224)≠bb.drop 224:=by simpa using hc5
 have ho:Fq T l bb=(D8,[],61):=by unfold Fq;rw[if_neg hr,if_neg hb',hg,if_neg h3,hf,if_neg h4',if_pos h5]
 rw[ho]
 refine Z (Ab (Bq D8) E C6 E E (AZ 2 E) (Aj 3 E E E E Ef E E E zT (O E (O E (Y (AL (Aa ?_)))))))
 exact AX (Iw E (BC 3 (Bq D8) C6 E E E E) E E) (AY (M:=[]) ⟨E,E⟩ fun _ h=>h.skip [_,_,_,_])
 have h5:¬Mt T (Hf T f.1 IQ) (bb.take 224)≠bb.drop 224:=by simpa using hc5
 refine AI (AG (AE (Ak Ca [1] (Pl.of [(true,0),(true,1),(true,3),(true,4),(false,2),(false,5),(true,6),(true,7),(true,8),(true,9),(true,10)]) zK (J E (Ab (Bq g.1) E C6 E E (AZ 0 E) (J E (XB 24 224 E Bj E E E zO zO zO zO (BO 0 bK (Pi g.1) E ⟨⟨1,E⟩,zT⟩ (BO 0 js (Ys (Hf T f.1 Hg) (GJ g.1) _ hsl1 (HJ g.1) (by rw[R7 hb];omega)) E ⟨⟨1,E⟩,zT⟩ (J E ?_))))))))))
 refine Al E E E (Al E E E (O E (O E (Y (Z (J E (AQ 0 pU (dI (GY (Hf T f.1 Hg) (GJ g.1) ((bb.drop 24).take (224-24)))) E ?_)))))))
 generalize hu:E8 (GY (Hf T f.1 Hg) (GJ g.1) ((bb.drop 24).take (224-24)))=u
 have hul:u.1.length≤200:=by
  rw[←hu]
  unfold E8
  split
  simp
  split
  simp
  split
  simp only[List.length_take,List.length_drop,FK,R7 hb];omega
  simp
 refine J E (Al E E E (Al E E E (O E (O E (Y (AE (Z (J E (Ab (Bq g.1) E C6 E E (AZ 1 E) (J E ?_))))))))))
 refine AQ 0 nA (UW T v l g.1 u.1 hT hk hv hl zO) E ?_
 generalize hag:FS T l g.1 u.1=ag
 have ho:Fq T l bb=if u.2≠0∨ag.2≠0∨ag.1≠bb then(D8,[],61)else(g.1,u.1,0):=by
  unfold Fq
  rw[if_neg hr,if_neg hb',hg,if_neg h3,hf,if_neg h4',if_neg h5]
  simp only
  rw[hf,show E8 (GY (Hf T f.1 Hg) (GJ g.1) ((bb.drop 24).take 200))=u from hu,hag]
 refine J E (Al E E E (Al E E E (O E (O E (Y ?_)))))
 refine SX.mono (l':=[(1,_),(4,_),(7,_),(8,_),(11,_),(17,_),(18,_),(19,_)]) ?_ ⟨E,E,E,E,E,E,E,E,zT⟩
 refine Z (J E (V E Bg (J E ?_)))
 refine DL (c:=(!decide (ag.2=0))) 88 3 91 E (fun hb k=>?_) (fun hb k=>?_) ?_
 refine AB E (AB E (Ae E E E ?_))
 exact k.mono tL
 refine J E (V E Bg (Ae E E E ?_))
 exact k.mono tL
 refine J E ?_
 refine DL (c:=(!decide (ag.1=bb))) 92 4 96 E (fun hb k=>?_) (fun hb k=>?_) ?_
 refine AB E (AB E (AB E (Ae E E E ?_)))
 exact k.mono tL
 refine J E (J E (V E Ij (Ae E E E ?_)))
 exact k.mono tL
 refine Y ?_
 refine As E (fun hc6=>?_) (fun hc6=>?_)
 have h6:u.2≠0∨ag.2≠0∨ag.1≠bb:=by simpa[or_assoc]using hc6
 rw[if_pos h6]at ho
 rw[ho]
 refine Z (Ab (Bq D8) E C6 E E (AZ 2 E) (Aj 3 E E E E Ef E E E zT (O E (O E (Y (AL (Aa ?_)))))))
 exact AX (Iw E (BC 3 (Bq D8) C6 E E E E) E E) (AY (M:=[]) ⟨E,E⟩ fun _ h=>h.skip [_,_,_,_])
 have h6:¬(u.2≠0∨ag.2≠0∨ag.1≠bb):=by
  simp at hc6
  simp[hc6]
 rw[if_neg h6]at ho
 rw[ho]
 refine AI (AG (Z (Ab (Bq g.1) E C6 E E (AZ 1 E) (J E (Aj 3 E E E E Ef E E E zT (O E (O E (Y (AL ?_)))))))))
 exact AX (Iw E (BC 3 (Bq g.1) C6 E E E E) E E) (AY (M:=[]) ⟨E,E⟩ fun _ h=>h.skip [_,_,_,_])
end

section
open Go Go.ChangeShapes Go.WideShapes Go.ChangeAt Go.RowKit
def RB:List UInt32:=[1116352408,1899447441,3049323471,3921009573,961987163,1508970993,2453635748,2870763221,3624381080,310598401,607225278,1426881987,1925078388,2162078206,2614888103,3248222580,3835390401,4022224774,264347078,604807628,770255983,1249150122,1555081692,1996064986,2554220882,2821834349,2952996808,3210313671,3336571891,3584528711,113926993,338241895,666307205,773529912,1294757372,1396182291,1695183700,1986661051,2177026350,2456956037,2730485921,2820302411,3259730800,3345764771,3516065817,3600352804,4094571909,275423344,430227734,506948616,659060556,883997877,958139571,1322822218,1537002063,1747873779,1955562222,2024104815,2227730452,2361852424,2428436474,2756734187,3204031479,3329325298]
def Us:List Int:=[1116352408,1899447441,3049323471,3921009573,961987163,1508970993,2453635748,2870763221,3624381080,310598401,607225278,1426881987,1925078388,2162078206,2614888103,3248222580,3835390401,4022224774,264347078,604807628,770255983,1249150122,1555081692,1996064986,2554220882,2821834349,2952996808,3210313671,3336571891,3584528711,113926993,338241895,666307205,773529912,1294757372,1396182291,1695183700,1986661051,2177026350,2456956037,2730485921,2820302411,3259730800,3345764771,3516065817,3600352804,4094571909,275423344,430227734,506948616,659060556,883997877,958139571,1322822218,1537002063,1747873779,1955562222,2024104815,2227730452,2361852424,2428436474,2756734187,3204031479,3329325298]
def dZ:List Int:=[1779033703,3144134277,1013904242,2773480762,1359893119,2600822924,528734635,1541459225]
section
variable {P:Program}{W:World}
theorem WD{x:String×DataW Unit}{r:List (String×DataW Unit)}(h:laidMet P (x::r) W):laidMet P r W:=by
 obtain⟨ps,⟨g,t,cs,fuel,p,q,_,_,_,_,hs,rfl⟩,hn,hc⟩:=h
 exact⟨q,hs,(List.nodup_append.1 hn).2.1,fun b off hb=>hc b off (List.mem_append_right _ hb)⟩
theorem cP{name:String}{g:Nat}{zs:List Int}{T:List UInt32}(hg:P.globalNamed name=some g)(h:Lib.TabIs P W name .u32 zs)(hl:T≠[])(hz:zs=T.map fun x=>(x.toNat:Int)):TI (· < W.heap.size) W g T:=by
 have hc:∀i x,T[i]? = some x→W.cell? ⟨g,i,none⟩=some (AA x):=by
  intro i x hx
  obtain⟨hi,rfl⟩:=List.getElem?_eq_some_iff.1 hx
  have:=h.cell hg i (by rw[hz];simpa using hi)
  rw[this,hz]
  simp[AA,List.getD_eq_getElem?_getD,hi]
 refine⟨?_,hc⟩
 obtain⟨x,r,rfl⟩:=List.exists_cons_of_ne_nil hl
 have h0:=hc 0 x rfl
 rcases Nat.lt_or_ge g W.heap.size with h | h
 exact h
 have:W.heap[g]? = none:=by simp[h]
 simp[World.cell?,this]at h0
end
theorem uJ:ownKnob Tryz.prog.godebug=none:=zK
theorem kG:laidOutB Tryz.prog=true:=zK
theorem jt:Tryz.prog.globalNamed "sphragis/sha.first" = some 1:=zK
theorem jq:Tryz.prog.globalNamed "sphragis/sha.constants" = some 3:=zK
theorem lj:(Tryz.prog.globals[1]?).map (·.type)=some 272:=zK
theorem mX:(Tryz.prog.globals[3]?).map (·.type)=some 296:=zK
theorem Va:Tryz.prog.cellsOf 29=1:=zK
theorem iG:Tryz.prog.cellsOf 272=8:=zK
theorem XV:Tryz.prog.cellsOf 296=64:=zK
theorem ne:Tryz.prog.cellsOf 9=1:=zK
theorem me{W:World}(h:laidMetH Tryz.prog [("sphragis/sha.first", Rows.laid_sphragis_sha_first),("sphragis/sha.constants", Rows.laid_sphragis_sha_constants)] W):Hd (· < W.heap.size) W RB:=by
 have h0:laidMet Tryz.prog [("sphragis/sha.first", Lib.tabData .u32 dZ),("sphragis/sha.constants", Lib.tabData .u32 Us)] W:=h
 refine⟨?_,rfl,?_⟩
 exact cP jq (Lib.tabIs_of_head (rest:=[]) jq mX Tryz.underlying296 Tryz.underlying29 Va XV (WD h0)) (by simp[RB]) zK
 exact cP jt (Lib.tabIs_of_head jt lj Tryz.underlying272 Tryz.underlying29 Va iG h0) (by simp[Do,Mv.list]) zK
def oG(zs:List Int):Obj→Obj
 | .cells _ t frozen=>.cells (zs.map fun z=>Value.int .u32 z).toArray t frozen
 | o=>o
end

section
open Go Go.ChangeShapes Go.WideShapes Go.ChangeAt Go.RowKit Go.Deep Go.Lib Go.Joins
section
variable {G:Type}{enc:TypeId×Value→G}{P:Program}{W:World}
end
end

section
variable {P:Program}{ro:Option Nat}{K:Nat→Prop}{w0:World}{N:Nat}{Q:C7}{D:List Nat}{l l':Tm}{H H' Hs L:List AV}{ops:Array Oper}{items:Ic}
variable {tk:Bool}{o:Oper}{t:Nat}{v:Value}{x y z:Operand}
def wI(x:Int):Int:=IntKind.i64.wrap x
theorem A8{x:Int}(h1 : -9223372036854775808≤x)(h2:x≤9223372036854775807):wI x=x:=KY (k:=.i64) h1 h2
def Ao{α:Type}(l:List α)(i:Int):Option α:=if 0≤i then l[i.toNat]? else none
def Cz{α:Type}(l:List α)(i j:Int):Option (List α):=if 0≤i∧i≤j∧j≤l.length then some ((l.drop i.toNat).take (j.toNat-i.toNat))else none
def F6{α:Type}(l:List α)(i:Int)(a:α):Option (List α):=if 0≤i∧i<l.length then some (l.set i.toNat a)else none
def FR(s t:List UInt8):Option (List UInt8):=if s.length+t.length≤9223372036854775807 then some (s++t)else none
def Cp{α:Type}(by_:Nat)(s t:List α):Option (List α):=if(s.length+t.length)*by_≤140737488355328∧s.length+t.length≤9223372036854775807 then some (s++t)else none
def Sa(i:Int):Option Nat:=if 0≤i then some i.toNat else none
def Td(a b:Int):Option Int:=if b=0 then none else some (wI (a.tdiv b))
def RX(a b:Int):Option Int:=if b=0 then none else some (a.tmod b)
def Pd(a b:UInt64):Option UInt64:=if b=0 then none else some (a / b)
def WC(a b:UInt64):Option UInt64:=if b=0 then none else some (a%b)
def FZ(b:Bool)(c:Option Bool):Option Bool:=cond b c (some false)
def OF(b:Bool)(c:Option Bool):Option Bool:=cond b (some true) c
def Bu{α β:Type}(F:(α→Option β)→α→Option β):Nat→α→Option β
 | 0,_=>none
 | m+1,a=>F (Bu F m) a
def ret{α β:Type}(e:α)(k:α→β):β:=k e
theorem bnd{α β:Type}{a:Option α}{f:α→Option β}{r:β}(h:a.bind f=some r):∃x,a=some x∧f x=some r:=Option.bind_eq_some_iff.1 h
theorem Bn{α β:Type}{e:α}{k:α→Option β}{r:β}(h:ret e k=some r):∃x,e=x∧k x=some r:=⟨e,rfl,h⟩
theorem cT{α:Type}{b:Bool}{x y:Option α}{r:α}(hb:b=true)(h:cond b x y=some r):x=some r:=by subst hb;exact h
theorem cF{α:Type}{b:Bool}{x y:Option α}{r:α}(hb:b=false)(h:cond b x y=some r):y=some r:=by subst hb;exact h
theorem EW{α:Type}{l:List α}{i:Int}{a:α}(h:Ao l i=some a):i=(i.toNat:Int)∧i.toNat<l.length∧l[i.toNat]? = some a:=by
 unfold Ao at h
 split at h
 rename_i h0
 obtain⟨hlt,_⟩:=List.getElem?_eq_some_iff.1 h
 exact⟨by omega,hlt,h⟩
 cases h
theorem NT{α:Type}{l u:List α}{i j:Int}(h:Cz l i j=some u):i=(i.toNat:Int)∧j=(j.toNat:Int)∧i.toNat≤j.toNat∧j.toNat≤l.length∧u=(l.drop i.toNat).take (j.toNat-i.toNat):=by
 unfold Cz at h
 split at h
 rename_i h0
 exact⟨by omega,by omega,by omega,by omega,(zI h).symm⟩
 cases h
abbrev GQ(x:UInt8):List Value:=[Dn x]
abbrev B0(x:UInt32):List Value:=[AA x]
abbrev eS(x:List UInt8):List Value:=[vS x]
abbrev eB(x:Bool):List Value:=[vB x]
theorem Ay{a b:Int}:E0 .add (vI a) (vI b) (vI (wI (a+b))):=fun P w ty x y=>⟨BI ..,by simp[binOp,Op.intArith,wI]⟩
theorem B5{a b:Int}:E0 .sub (vI a) (vI b) (vI (wI (a-b))):=fun P w ty x y=>⟨BI ..,by simp[binOp,Op.intArith,wI]⟩
theorem Ir{a b:Int}:E0 .mul (vI a) (vI b) (vI (wI (a*b))):=fun P w ty x y=>⟨BI ..,by simp[binOp,Op.intArith,wI]⟩
theorem V6{a b c:Int}(h:Td a b=some c):E0 .quo (vI a) (vI b) (vI c):=fun P w ty x y=>⟨BI ..,by
 unfold Td at h
 split at h
 cases h
 rename_i h0
 obtain rfl:=zI h
 simp[binOp,Op.intDiv,h0,wI]⟩
theorem QI{a b c:Int}(h:RX a b=some c):E0 .rem (vI a) (vI b) (vI c):=fun P w ty x y=>⟨BI ..,by
 unfold RX at h
 split at h
 cases h
 rename_i h0
 obtain rfl:=zI h
 simp[binOp,Op.intDiv,h0]⟩
theorem Rp{a:UInt32}{k:IntKind}{i:Int}{n:Nat}(h:Sa i=some n):E0 .shl (AA a) (.int k i) (AA (Go.Proofs.YtkibffdipniemaaGreatDoor.shl32 a n)):=by
 unfold Sa at h
 split at h
 obtain rfl:=zI h
 have:i=(i.toNat:Int):=zO
 rw[this]
 exact E0.shl32
 cases h
theorem WG{a:UInt32}{k:IntKind}{i:Int}{n:Nat}(h:Sa i=some n):E0 .shr (AA a) (.int k i) (AA (Go.Proofs.YtkibffdipniemaaGreatDoor.shr32 a n)):=by
 unfold Sa at h
 split at h
 obtain rfl:=zI h
 have:i=(i.toNat:Int):=zO
 rw[this]
 exact E0.shr32
 cases h
theorem fT{a:UInt64}{k:IntKind}{i:Int}{n:Nat}(h:Sa i=some n):E0 .shl (Ap a) (.int k i) (Ap (Go.Proofs.YtkibffdipniemaaGreatDoor.shl64 a n)):=by
 unfold Sa at h
 split at h
 obtain rfl:=zI h
 have:i=(i.toNat:Int):=zO
 rw[this]
 exact E0.shl64
 cases h
theorem PR{a b c:UInt64}(h:Pd a b=some c):E0 .quo (Ap a) (Ap b) (Ap c):=fun P w ty x y=>⟨BI ..,by
 unfold Pd at h
 split at h
 cases h
 rename_i hb
 obtain rfl:=zI h
 have h0:((b.toNat:Int))≠0:=by
  intro h
  have:b.toNat=0:=zO
  exact hb (UInt64.toNat_inj.1 this)
 have h1:IntKind.u64.wrap (Int.tdiv (a.toNat:Int) (b.toNat:Int))=((a / b).toNat:Int):=by
  rw[K1,Int.tdiv_eq_ediv_of_nonneg zO,UInt64.toNat_div]
  have h2:a.toNat / b.toNat≤a.toNat:=Nat.div_le_self _ _
  have:=a.toNat_lt
  rw[show((a.toNat:Int) / (b.toNat:Int))=((a.toNat / b.toNat:Nat):Int)from rfl]
  generalize a.toNat / b.toNat=q at h2 ⊢
  omega
 simp only[binOp,Op.intDiv,ne_eq,not_true_eq_false,if_false,h0,h1,Sem.run_pure]⟩
theorem Wk{a b c:UInt64}(h:WC a b=some c):E0 .rem (Ap a) (Ap b) (Ap c):=by
 unfold WC at h
 split at h
 cases h
 rename_i hb
 obtain rfl:=zI h
 exact ga hb
theorem CV{s t u:List UInt8}(h:FR s t=some u):E0 .add (vS s) (vS t) (vS u):=by
 unfold FR at h
 split at h
 rename_i hl
 obtain rfl:=zI h
 exact Fl hl
 cases h
theorem Di{s:List UInt8}{ty:TypeId}{k:IntKind}{i:Int}{c:UInt8}(hn:Ao s i=some c)(ho:At ops N l o t (.index ty x y))(hty:P.underlying ty=some .string)(hx:Bf l x=some (vS s))(hy:Bf l y=some (.int k i))
(h:SL P ro K w0 N ops Hs items Q D ((t,Dn c)::l) H):SL P ro K w0 N ops Hs (.cons (tk,o) items) Q D l H:=by
 obtain⟨h1,h2,h3⟩:=EW hn
 refine Gj i.toNat ho hty hx hy h1 h2 ?_
 have:s.getD i.toNat 0=c:=by simp[List.getD_eq_getElem?_getD,h3]
 rw[this]
 exact h
theorem Id{s u:List UInt8}{ty:TypeId}{k k':IntKind}{i j:Int}(hn:Cz s i j=some u)(ho:At ops N l o t (.slice ty x (some y) (some z) none))(hty:P.underlying ty=some .string)(hx:Bf l x=some (vS s))(hy:Bf l y=some (.int k i))(hz:Bf l z=some (.int k' j))
(h:SL P ro K w0 N ops Hs items Q D ((t,vS u)::l) H):SL P ro K w0 N ops Hs (.cons (tk,o) items) Q D l H:=by
 obtain⟨h1,h2,h3,h4,rfl⟩:=NT hn
 exact XB i.toNat j.toNat ho hty hx hy hz h1 h2 h3 h4 h
theorem SJ{s u:List UInt8}{ty:TypeId}{k:IntKind}{i:Int}(hn:Cz s i (s.length:Int)=some u)(ho:At ops N l o t (.slice ty x (some y) none none))(hty:P.underlying ty=some .string)(hx:Bf l x=some (vS s))(hy:Bf l y=some (.int k i))
(h:SL P ro K w0 N ops Hs items Q D ((t,vS u)::l) H):SL P ro K w0 N ops Hs (.cons (tk,o) items) Q D l H:=by
 obtain⟨h1,h2,h3,h4,rfl⟩:=NT hn
 refine Ns i.toNat ho hty hx hy h1 zO ?_
 rw[List.take_of_length_le zS]at h
 exact h
theorem PK{s u:List UInt8}{ty:TypeId}{k:IntKind}{j:Int}(hn:Cz s 0 j=some u)(ho:At ops N l o t (.slice ty x none (some z) none))(hty:P.underlying ty=some .string)(hx:Bf l x=some (vS s))(hz:Bf l z=some (.int k j))
(h:SL P ro K w0 N ops Hs items Q D ((t,vS u)::l) H):SL P ro K w0 N ops Hs (.cons (tk,o) items) Q D l H:=by
 obtain⟨h1,h2,h3,h4,rfl⟩:=NT hn
 exact O5 j.toNat ho hty hx hz h2 h4 (by simpa using h)
theorem Cm{α:Type}{enc:α→List Value}{sz:Nat}{xs:List α}{k:IntKind}{i:Int}{ty e:TypeId}{x0:α}(hn:Ao xs i=some x0)(hk:CJ K w0 enc sz v xs)(ho:At ops N l o t (.indexAddr ty x y))(hty:P.underlying ty=some (.slice e))(hsz:C3 P e=some sz)(hx:Bf l x=some v)(hy:Bf l y=some (.int k i))
(h:∀b off,(∀L w,F1 K w0 L w→∀j u,(enc x0)[j]? = some u→w.cell? ⟨b,off+j,none⟩=some u)→SL P ro K w0 N ops Hs items Q D ((t,vP b off)::l) H):SL P ro K w0 N ops Hs (.cons (tk,o) items) Q D l H:=by
 obtain⟨h1,h2,h3⟩:=EW hn
 exact Q0 i.toNat x0 hk ho hty hsz hx hy h1 h3 h
theorem DA{b off j:Nat}{u:Value}{cs:List Value}(hc:∀L w,F1 K w0 L w→∀j u,cs[j]? = some u→w.cell? ⟨b,off+j,none⟩=some u)(hj:cs[j]? = some u):∀w,F1 K w0 L w→w.cell? ⟨b,off+j,none⟩=some u:=fun w hw=>hc L w hw j u hj
theorem C2{b off:Nat}{cs:List Value}(hc:∀L w,F1 K w0 L w→∀j u,cs[j]? = some u→w.cell? ⟨b,off+j,none⟩=some u):∀w,F1 K w0 L w→∀j u,cs[j]? = some u→w.cell? (Addr.add ⟨b,off,none⟩ j)=some u:=
 fun w hw j u hu=>by rw[CE];exact hc L w hw j u hu
def AH{α:Type}(e:TypeId)(sz:Nat)(v:Value)(enc:α→List Value)(xs:List α):AV:=
 ⟨fun b=>v.ownBlock=some b,fun w=>w.ownsRow 0 e sz v xs.length (xs.flatMap enc),fun w w' h hw=>by
  refine⟨hw.1,?_⟩
  rcases hw.2 with hn | ⟨g,cap,cur,rfl,hb,hgg,rest⟩
  exact .inl hn
  exact .inr ⟨g,cap,cur,rfl,hb,by rw[h g rfl];exact hgg,rest⟩⟩
section rows
variable {α:Type}{enc:α→List Value}{sz:Nat}{xs us:List α}{e ty:TypeId}
theorem H8(hl:∀x,(enc x).length=sz):∀ys:List α,(ys.flatMap enc).length=ys.length*sz
 | []=>by simp
 | y::ys=>by rw[List.flatMap_cons,List.length_append,H8 hl ys,hl,List.length_cons,Nat.add_mul,Nat.one_mul,Nat.add_comm]
theorem BZ.nilT{w:World}(e:TypeId)(sz:Nat)(enc:α→List Value)(h:BZ K w0 H w):BZ K w0 (AH e sz zN enc []::H) w:=by
 refine h.cons (n:=w.heap.size) (Nat.le_refl _) (fun d hd b hb=>(h.foot d hd b hb).1) h.kltw (World.ownsRow_nil ..) ?_
 intro b hb
 simp[AH,Value.ownBlock]at hb
theorem Bi(e:TypeId)(sz:Nat)(enc:α→List Value)(h:SL P ro K w0 N ops Hs items Q D l (AH e sz zN enc []::H)):SL P ro K w0 N ops Hs items Q D l H:=
 fun a w ha hw hs=>h a w ha (hw.nilT e sz enc) hs
theorem fK{w:World}{g n cap i j:Nat}{c:α}{u:Value}(hl:∀x,(enc x).length=sz)(h:(AH e sz v enc xs).holds w)(hv:v=.slice (some ⟨g,0,none⟩) n cap)(hi:xs[i]? = some c)(hj:(enc c)[j]? = some u):w.cell? ⟨g,i*sz+j,none⟩=some u:=by
 have hrow:w.ownsRow 0 e sz v xs.length (xs.flatMap enc):=h
 have hF:=World.ownsRowF_of hrow
 have:=hF.cells (g:=g) (by rw[hv];rfl) (i*sz+j) u (Mb hl xs i c j u hi hj)
 rw[CE]at this
 simpa using this
theorem Bw{g n cap:Nat}{c:α}{i:Int}{u:Value}(k j:Nat)(hl:∀x,(enc x).length=sz)(hk:L[k]? = some (AH e sz v enc xs))(hv:v=.slice (some ⟨g,0,none⟩) n cap)(hi:Ao xs i=some c)(hj:(enc c)[j]? = some u):∀w,F1 K w0 L w→w.cell? ⟨g,i.toNat*sz+j,none⟩=some u:=
 fun _w hw=>fK hl (hw.holds _ (List.mem_of_getElem? hk)) hv (EW hi).2.2 hj
theorem Cc{g n cap:Nat}{c:α}{i:Int}(k:Nat)(hl:∀x,(enc x).length=sz)(hk:L[k]? = some (AH e sz v enc xs))(hv:v=.slice (some ⟨g,0,none⟩) n cap)(hi:Ao xs i=some c):∀w,F1 K w0 L w→∀j u,(enc c)[j]? = some u→w.cell? (Addr.add ⟨g,i.toNat*sz,none⟩ j)=some u:=
 fun w hw j u hu=>by rw[CE];exact Bw k j hl hk hv hi hu w hw
theorem D0(k:Nat)(ho:At ops N l o t (.call { callee:=.builtin .len,args:=#[x],argTypes:=#[ty] }))(hty:P.underlying ty=some (.slice e))(hx:Bf l x=some v)
{e':TypeId}(hk:(bif tk then Hs else H)[k]? = some (AH e' sz v enc xs))(h:SL P ro K w0 N ops Hs items Q D ((t,vI xs.length)::l) H):SL P ro K w0 N ops Hs (.cons (tk,o) items) Q D l H:=
 SL.val ho rfl (fun a w ha hsw=>by
  have hrow:w.ownsRow 0 e' sz v xs.length (xs.flatMap enc):=hsw.holds _ (List.mem_of_getElem? hk)
  simp only[execOp,ho.op,resolve,invoke,builtin,Builtin.len_]
  rcases hrow.2 with⟨rfl,hn⟩ | ⟨g,cap,cur,rfl,_⟩
  simp[ha.eval hx,A0 hty,goInt,hn]
  simp[ha.eval hx,A0 hty,goInt]) h
theorem BV(k:Nat){kk:IntKind}{i:Int}{c:α}(hn:Ao xs i=some c)(ho:At ops N l o t (.indexAddr ty x y))(hty:P.underlying ty=some (.slice e))(hsz:C3 P e=some sz)(hx:Bf l x=some v)(hy:Bf l y=some (.int kk i))
(hk:H[k]? = some (AH e sz v enc xs))
(h:∀g m cap,v=.slice (some ⟨g,0,none⟩) m cap→SL P ro K w0 N ops Hs items Q D ((t,vP g (i.toNat*sz))::l) H):SL P ro K w0 N ops Hs (.cons (tk,o) items) Q D l H:=by
 intro a w ha hw hs
 have hrow:w.ownsRow 0 e sz v xs.length (xs.flatMap enc):=hw.holds _ (List.mem_append_left _ (List.mem_of_getElem? hk))
 obtain⟨h1,h2,h3⟩:=EW hn
 rcases hrow.2 with⟨_,h0⟩ | ⟨g,cap,cur,hv,_⟩
 omega
 exact(dO (n:=i.toNat) ho hty hsz (hx.trans (by rw[hv])) hy h1 h2 (by simpa using h g xs.length cap hv)) a w ha hw hs
theorem VE(hl:∀x,(enc x).length=sz):∀(xs:List α) (i:Nat) (a:α),i<xs.length→(xs.set i a).flatMap enc=(xs.flatMap enc).take (i*sz)++enc a++(xs.flatMap enc).drop (i*sz+sz)
 | [],i,a,h=>by simp at h
 | b::r,0,a,_=>by
  have hb:=hl b
  simp only[List.set_cons_zero,List.flatMap_cons,Nat.zero_mul,List.take_zero,List.nil_append,Nat.zero_add]
  rw[List.drop_append_of_le_length zO,List.drop_of_length_le zO,List.nil_append]
 | b::r,i+1,a,h=>by
  have hb:=hl b
  have ih:=VE hl r i a (by simpa using h)
  simp only[List.set_cons_succ,List.flatMap_cons]
  rw[ih]
  have e1:(i+1)*sz=(enc b).length+i*sz:=by rw[hb,Nat.add_mul];omega
  have e2:(i+1)*sz+sz=(enc b).length+(i*sz+sz):=by rw[hb,Nat.add_mul];omega
  rw[e2,e1,List.take_length_add_append,List.drop_length_add_append]
  simp
theorem DE(k:Nat){g m cap:Nat}{i:Int}{u:Value}{a:α}(hn:F6 xs i a=some us)(hl:∀x,(enc x).length=sz)(ho:At0 ops l o (.store ty x y))(hx:Bf l x=some (vP g (i.toNat*sz)))(hy:Bf l y=some u)(hu:u.cells.toList=enc a)(hk:H[k]? = some (AH e sz v enc xs))(hv:v=.slice (some ⟨g,0,none⟩) m cap)
(hsz:C3 P ty=some sz)(h1:∀c∈enc a,c.oneCell'=true)(hs:En Hs (H.set k (AH e sz v enc us)))(h:SL P ro K w0 N ops Hs items Q D l (H.set k (AH e sz v enc us))):SL P ro K w0 N ops Hs (.cons (false,o) items) Q D l H:=by
 unfold F6 at hn
 split at hn
 rename_i hi
 obtain rfl:=zI hn
 refine VP ho E (fun a' w ha hw=>?_) hs h
 have hrow:w.ownsRow 0 e sz v xs.length (xs.flatMap enc):=hw.holds _ (List.mem_append_left _ (List.mem_of_getElem? hk))
 have hlt:i.toNat<xs.length:=zO
 rcases hrow.2 with⟨hv',h0⟩ | ⟨g',cap',cur,hv',hb,hg,hnc,hcm,hcs,htk⟩
 rw[hv']at hv;cases hv
 obtain⟨rfl,rfl,rfl⟩:g'=g∧xs.length=m∧cap'=cap:=by rw[hv']at hv;simpa using hv
 have hucz:u.cells.size=sz:=by rw[←Array.length_toList,hu,hl]
 have hle:i.toNat*sz+sz≤xs.length*sz:=by
  have:=Nat.mul_le_mul_right sz (show i.toNat+1≤xs.length by omega)
  rw[Nat.add_mul,Nat.one_mul]at this
  exact this
 have hle2:xs.length*sz≤cap'*sz:=Nat.mul_le_mul_right _ hnc
 obtain⟨w',hrun,hw'⟩:=Lx (P:=P) u.cells.toList (i.toNat*sz) 0 cur w hg (by rw[Array.length_toList,hucz];omega) (by rw[hu];exact h1)
 refine⟨w',?_,?_⟩
 simp[execOp,ho.op,Instr.storeAt,Instr.sureAddr,ha.eval hx,ha.eval hy,storeVar,CZ hsz,hucz]
 rw[hrun]
 rfl
 rw[hw']
 obtain⟨hlt2,_⟩:=Array.getElem?_eq_some_iff.1 hg
 refine hw.turnAt (c:=AH e sz v enc xs) k hk rfl rfl rfl zS (fun b hb hne=>World.putObj_heap_other (fun e=>hne (by subst e;rw[hv'];rfl))) ⟨H8 hl _,.inr ⟨g',cap',_,by rw[hv',List.length_set],Nat.zero_le _,World.putObj_heap_same hlt2,by simpa using hnc,hcm,by rw[T0,hcs],?_⟩⟩ (fun b hb=>⟨.inl hb,?_⟩)
 have hcl:(enc a).length=sz:=hl a
 rw[Km _ _ _ (by rw[hu,hcl];omega),VE hl xs i.toNat a hlt,hu,hcl,←htk,List.length_set,Nat.add_zero]
 have e1:(cur.toList.take (i.toNat*sz)).length=i.toNat*sz:=by simp;omega
 rw[List.take_take,Nat.min_eq_left zO]
 have e2:(cur.toList.take (i.toNat*sz)++enc a).length=i.toNat*sz+sz:=by rw[List.length_append,e1,hcl]
 rw[List.take_append,e2,List.take_of_length_le zO]
 congr 1
 rw[List.drop_take]
 have:b=g':=by
  have hb':v.ownBlock=some b:=hb
  rw[hv']at hb'
  simpa[Value.ownBlock]using hb'.symm
 subst this
 simpa using hlt2
 cases hn
theorem CW{by_ m c:Nat}{zv:Value}{new:List α}{ad:Addr}(k:Nat)(hn:Cp by_ xs new=some us)(hl:∀x,(enc x).length=sz)(ho:At ops N l o t (.call { callee:=.builtin .append,args:=#[x,y],argTypes:=#[ty,ty] }))
(hty:P.underlying ty=some (.slice e))(hsz:C3 P e=some sz)(hby:PD P e=some by_)(hze:ES P e=some zv)(hzs:zv.cells.size=sz)(hsz0:0<sz)
(hx:Bf l x=some v)(hy:Bf l y=some (.slice (some ad) m c))(hm:m=new.length)(hk:H[k]? = some (AH e sz v enc xs))
(hnews:∀w,F1 K w0 H w→∀j u,(new.flatMap enc)[j]? = some u→w.cell? (ad.add j)=some u)(h1:∀a,∀u∈enc a,u.oneCell'=true)
(hs:∀v',En Hs (H.set k (AH e sz v' enc us)))
(h:∀v',SL P ro K w0 N ops Hs items Q D ((t,v')::l) (H.set k (AH e sz v' enc us))):SL P ro K w0 N ops Hs (.cons (false,o) items) Q D l H:=by
 unfold Cp at hn
 split at hn
 rename_i hb
 obtain rfl:=zI hn
 subst hm
 have hfl:=H8 hl
 refine HQ (fun v'=>v') (fun v'=>H.set k (AH e sz v' enc (xs++new))) ho E (fun a w ha hw=>?_) hs h
 obtain⟨ii,hii,e1,e2,e3⟩:=O0 hsz hby hze
 have hrow:w.ownsRow 0 e sz v xs.length (xs.flatMap enc):=hw.holds _ (List.mem_append_left _ (List.mem_of_getElem? hk))
 obtain⟨v',w',hr,hr2,hr3,_,hr4⟩:=run_append_own_at (P:=P) w 0 ty o.type e ii zv sz by_ hty hii e3 e1 e2 hzs hsz0 v xs.length _ hrow ad new.length c (new.flatMap enc) (hfl new) (hnews w hw.dropMarks.s) (fun u hu=>by
  obtain⟨a,_,ha⟩:=List.mem_flatMap.1 hu
  exact h1 a u ha) (by simp only[maxLen];omega) hb.1 (Nat.zero_le _)
 refine⟨v',w',?_,hw.turnAt (c:=AH e sz v enc xs) k hk hr3.os hr3.tape hr3.output hr3.size (fun b hb hne=>hr3.block b hb (fun e=>hne e.symm)) (show w'.ownsRow 0 e sz v' (xs++new).length ((xs++new).flatMap enc) by rw[List.flatMap_append,List.length_append];exact hr2) ?_⟩
 unfold execOp
 simp only[ho.op,resolve,invoke,builtin,Sem.run_bind,Sem.run_pure,Result.andThen_ok,List.map_toArray,List.map_cons,List.map_nil,ha.eval hx,ha.eval hy,hr]
 intro b hb
 refine⟨?_,(hr2.lt b hb).2⟩
 have hb':v'.ownBlock=some b:=hb
 rcases hr4 with h4 | h4
 exact .inl (by rw[h4]at hb';exact hb')
 rw[h4]at hb'
 right
 simp at hb'
 omega
 cases hn
theorem BZ.ownT{w:World}{b:Nat}{c:Array Value}(xs:List α)(h:BZ K w0 (AN b (.cells c e)::H) w)(hc:c.toList=xs.flatMap enc)(hl:∀x,(enc x).length=sz)(hm:xs.length≤9223372036854775807):BZ K w0 (AH e sz (.slice (some ⟨b,0,none⟩) xs.length xs.length) enc xs::H) w:=by
 have hfl:=H8 hl
 have hcs:c.size=xs.length*sz:=by rw[←Array.length_toList,hc,hfl]
 refine h.turn rfl rfl rfl (Nat.le_refl _) (fun _ _ _=>rfl) ⟨hfl xs,.inr ⟨b,xs.length,c,rfl,Nat.zero_le _,h.holds _ (List.mem_cons_self ..),Nat.le_refl _,by simp only[maxLen];omega,hcs,by rw[hc,←hfl];exact List.take_length⟩⟩ (fun k hk=>?_)
 have hkb:k=b:=by simp[AH,Value.ownBlock]at hk;exact hk.symm
 subst hkb
 exact⟨.inl rfl,(h.foot _ (List.mem_cons_self ..) k rfl).1⟩
theorem B4{b:Nat}{c:Array Value}(enc:α→List Value)(sz:Nat)(xs:List α)(hc:c.toList=xs.flatMap enc)(hl:∀x,(enc x).length=sz)(hm:Nat.ble xs.length 1000000=true)
(h:SL P ro K w0 N ops Hs items Q D l (AH e sz (.slice (some ⟨b,0,none⟩) xs.length xs.length) enc xs::H)):SL P ro K w0 N ops Hs items Q D l (AN b (.cells c e)::H):=
 fun a w ha hw hs=>h a w ha (hw.ownT xs hc hl (by have:=Nat.le_of_ble_eq_true hm;omega)) hs
theorem bg{by_ n:Nat}{zv:Value}{k k':IntKind}(enc:α→List Value)(ho:At ops N l o t (.makeSlice ty x y))(hty:P.underlying ty=some (.slice e))(hsz:C3 P e=some sz)(hby:PD P e=some by_)(hze:ES P e=some zv)(_hzs:zv.cells.size=sz)
(hx:Bf l x=some (.int k 0))(hy:Bf l y=some (.int k' (n:Int)))(hb:Nat.ble (by_*n) 281474976710656=true)(h63:Nat.ble n 9223372036854775807=true)
(hs:∀v',En Hs (AH e sz v' enc []::H))(h:∀v',SL P ro K w0 N ops Hs items Q D ((t,v')::l) (AH e sz v' enc []::H)):SL P ro K w0 N ops Hs (.cons (false,o) items) Q D l H:=
 HQ (fun b=>.slice (some ⟨b,0,none⟩) 0 n) (fun b=>AH e sz (.slice (some ⟨b,0,none⟩) 0 n) enc []::H) ho rfl (fun a w ha hw=>by
  obtain⟨ii,hii,e1,e2,e3⟩:=O0 hsz hby hze
  have hbn:=Nat.le_of_ble_eq_true hb
  have h63n:=Nat.le_of_ble_eq_true h63
  have hb':(ii.bytes:Int)*(n:Int)≤281474976710656:=by rw[e2,←Int.natCast_mul];omega
  have hr:=run_make (P:=P) w ty e ii zv hty hii e3 k k' 0 n zO zO hb' zO
  rw[e1]at hr
  simp only[Int.toNat_natCast]at hr
  refine⟨w.heap.size,w.alloc (.cells (madeCells zv.cells (n*sz)) e),?_,?_⟩
  unfold execOp
  simp only[ho.op,ha.eval hx,ha.eval hy,Sem.run_bind,hr,Result.andThen_ok,Sem.run_pure]
  rfl
  have h2:=hw.alloc (.cells (madeCells zv.cells (n*sz)) e)
  refine h2.turn rfl rfl rfl (Nat.le_refl _) (fun _ _ _=>rfl) ⟨by simp,.inr ⟨w.heap.size,n,_,rfl,Nat.zero_le _,h2.holds _ (List.mem_cons_self ..),Nat.zero_le _,by simp only[maxLen];omega,?_,by simp⟩⟩ (fun k hk=>?_)
  simp[madeCells]
  have hkb:k=w.heap.size:=by simp[AH,Value.ownBlock]at hk;exact hk.symm
  subst hkb
  exact⟨.inl rfl,(h2.foot _ (List.mem_cons_self ..) _ rfl).1⟩) (fun b=>hs _) (fun b=>h _)
theorem CC{K':Nat→Prop}{w1:World}(hl:∀x,(enc x).length=sz)(h:(AH e sz v enc xs).holds w1∧∀k,(AH e sz v enc xs).foot k→K' k):CJ K' w1 enc sz v xs:=by
 have hrow:w1.ownsRow 0 e sz v xs.length (xs.flatMap enc):=h.1
 refine⟨hl,?_⟩
 rcases hrow.2 with⟨rfl,h0⟩ | ⟨g,cap,cur,rfl,_,hg,hc,_⟩
 exact .inl ⟨_,rfl,List.length_eq_zero_iff.1 h0⟩
 refine .inr ⟨g,0,cap,rfl,hc,fun j u hu=>⟨h.2 g rfl,?_⟩⟩
 have:=(World.ownsRowF_of hrow).cells (g:=g) rfl j u hu
 rw[CE]at this
 exact this
theorem si:∀s:List UInt8,s.flatMap GQ=s.map fun b=>Dn b
 | []=>rfl
 | b::r=>by rw[List.flatMap_cons,si r];rfl
theorem Hq{src dst:TypeId}{s:List UInt8}(k:Nat)(ho:At ops N l o t (.convert src dst x))(hs:P.underlying src=some (.slice e))(he:P.underlying e=some (.int .u8))(hd:P.underlying dst=some .string)(hx:Bf l x=some v)
(hk:(bif tk then Hs else H)[k]? = some (AH e 1 v GQ s))
(h:SL P ro K w0 N ops Hs items Q D ((t,vS s)::l) H):SL P ro K w0 N ops Hs (.cons (tk,o) items) Q D l H:=
 SL.val ho rfl (fun a w ha hsw=>by
  have hrow:w.ownsRow 0 e 1 v s.length (s.flatMap GQ):=hsw.holds _ (List.mem_of_getElem? hk)
  rw[si]at hrow
  rcases hrow.2 with⟨rfl,h0⟩ | ⟨g,cap,cur,rfl,_⟩
  have:s=[]:=List.length_eq_zero_iff.1 h0
  subst this
  have h0:(convert src dst (.slice none 0 0)).run P w=.ok (vS []) w:=by
   rw[run_convert_bytes_string w src dst e none 0 0 hs he hd]
   simp[Conv.bytesToString]
   rfl
  simp[execOp,ho.op,ha.eval hx,h0]
  simp[execOp,ho.op,ha.eval hx,YD hs he hd rfl ((World.ownsRowF_of hrow).cells rfl)]) h
theorem By{b n cap:Nat}(k:Nat)(_hl:∀x,(enc x).length=sz)(hk:L[k]? = some (AH e sz (.slice (some ⟨b,0,none⟩) n cap) enc xs)):∀w,F1 K w0 L w→∀j u,(xs.flatMap enc)[j]? = some u→w.cell? (Addr.add ⟨b,0,none⟩ j)=some u:=by
 intro w hw j u hu
 have hrow:w.ownsRow 0 e sz (.slice (some ⟨b,0,none⟩) n cap) xs.length (xs.flatMap enc):=hw.holds _ (List.mem_of_getElem? hk)
 exact(World.ownsRowF_of hrow).cells (g:=b) rfl j u hu
theorem TH{w:World}(t ty e:TypeId)(i:TypeInfo)(ht:P.underlying t=some (.slice e))(hi:P.info? e=some i)
(v:Value)(n:Nat)(xs:List Value)(hown:w.ownsRow 0 e sz v n xs):(Builtin.append_ #[t,t] ty #[v,zN]).run P w=.ok v w:=by
 rcases hown.2 with⟨rfl,rfl⟩ | ⟨g,cap,cur,rfl,_,_,hnc,_⟩
 simp[Builtin.append_,A0 ht,sizeOf,typeInfo,hi,Builtin.lenOf,Builtin.firstCells]
 simp[Builtin.append_,A0 ht,sizeOf,typeInfo,hi,Builtin.lenOf,Builtin.firstCells,hnc,storeCells]
theorem Xs{by_:Nat}{zv:Value}(k:Nat)(ho:At ops N l o t (.call { callee:=.builtin .append,args:=#[x,y],argTypes:=#[ty,ty] }))
(hty:P.underlying ty=some (.slice e))(hsz:C3 P e=some sz)(hby:PD P e=some by_)(hze:ES P e=some zv)
(hx:Bf l x=some v)(hy:Bf l y=some zN)(hk:H[k]? = some (AH e sz v enc xs))(hs:En Hs H)
(h:SL P ro K w0 N ops Hs items Q D ((t,v)::l) H):SL P ro K w0 N ops Hs (.cons (false,o) items) Q D l H:=
 HQ (fun _:Unit=>v) (fun _=>H) ho rfl (fun a w ha hw=>by
  obtain⟨ii,hii,e1,e2,e3⟩:=O0 hsz hby hze
  have hrow:w.ownsRow 0 e sz v xs.length (xs.flatMap enc):=hw.holds _ (List.mem_append_left _ (List.mem_of_getElem? hk))
  have hr:=TH (P:=P) ty o.type e ii hty hii v xs.length _ hrow
  refine⟨(),w,?_,hw⟩
  unfold execOp
  simp only[ho.op,resolve,invoke,builtin,Sem.run_bind,Sem.run_pure,Result.andThen_ok,List.map_toArray,List.map_cons,List.map_nil,ha.eval hx,ha.eval hy,hr]) (fun _=>hs) (fun _=>h)
theorem VU{c:AV}{k:Nat}(hk:H[k]? = some c):H.set k c=H:=by
 obtain⟨hl,hg⟩:=List.getElem?_eq_some_iff.1 hk
 rw[←hg];exact List.set_getElem_self hl
theorem Ve{by_:Nat}(hn:Cp by_ xs []=some us):us=xs:=by
 unfold Cp at hn
 split at hn
 simpa using hn.symm
 cases hn
theorem U4{by_:Nat}{zv u:Value}{new:List α}(k:Nat)(hn:Cp by_ xs new=some us)(hu:CJ K w0 enc sz u new)(hl:∀x,(enc x).length=sz)(ho:At ops N l o t (.call { callee:=.builtin .append,args:=#[x,y],argTypes:=#[ty,ty] }))
(hty:P.underlying ty=some (.slice e))(hsz:C3 P e=some sz)(hby:PD P e=some by_)(hze:ES P e=some zv)(hzs:zv.cells.size=sz)(hsz0:0<sz)
(hx:Bf l x=some v)(hy:Bf l y=some u)(hk:H[k]? = some (AH e sz v enc xs))(h1:∀a,∀u∈enc a,u.oneCell'=true)
(hs:∀v',En Hs (H.set k (AH e sz v' enc us)))
(h:∀v',SL P ro K w0 N ops Hs items Q D ((t,v')::l) (H.set k (AH e sz v' enc us))):SL P ro K w0 N ops Hs (.cons (false,o) items) Q D l H:=by
 rcases hu.at_ with⟨a0,rfl,rfl⟩ | ⟨b,off,cap,rfl,_,hc⟩
 cases a0 with
 | some ad=>exact CW k hn hl ho hty hsz hby hze hzs hsz0 hx hy rfl hk (fun w hw j u hj=>by simp at hj) h1 hs h
 | none=>
  obtain rfl:=Ve hn
  have h2:=hs v
  have h3:=h v
  rw[VU hk]at h2 h3
  exact Xs k ho hty hsz hby hze hx hy hk h2 h3
 refine CW k hn hl ho hty hsz hby hze hzs hsz0 hx hy E hk (fun w hw j u hj=>?_) h1 hs h
 obtain⟨hb,hcell⟩:=hc j u hj
 rw[CE]
 exact PF (L:=H) hb hcell w hw
theorem Yi{by_:Nat}{zv u:Value}{new:List α}(k k2:Nat)(hn:Cp by_ xs new=some us)(hl:∀x,(enc x).length=sz)(ho:At ops N l o t (.call { callee:=.builtin .append,args:=#[x,y],argTypes:=#[ty,ty] }))
(hty:P.underlying ty=some (.slice e))(hsz:C3 P e=some sz)(hby:PD P e=some by_)(hze:ES P e=some zv)(hzs:zv.cells.size=sz)(hsz0:0<sz)
(hx:Bf l x=some v)(hy:Bf l y=some u)(hk:H[k]? = some (AH e sz v enc xs))(hk2:H[k2]? = some (AH e sz u enc new))(h1:∀a,∀u∈enc a,u.oneCell'=true)
(hs:∀v',En Hs (H.set k (AH e sz v' enc us)))
(h:∀v',SL P ro K w0 N ops Hs items Q D ((t,v')::l) (H.set k (AH e sz v' enc us))):SL P ro K w0 N ops Hs (.cons (false,o) items) Q D l H:=by
 intro a w ha hw hs0
 have hrow:w.ownsRow 0 e sz u new.length (new.flatMap enc):=hw.holds _ (List.mem_append_left _ (List.mem_of_getElem? hk2))
 rcases hrow.2 with⟨rfl,h0⟩ | ⟨g,cap,cur,rfl,_⟩
 have:new=[]:=List.length_eq_zero_iff.1 h0
 subst this
 obtain rfl:=Ve hn
 have h2:=hs v
 have h3:=h v
 rw[VU hk]at h2 h3
 exact Xs k ho hty hsz hby hze hx hy hk h2 h3 a w ha hw hs0
 exact CW k hn hl ho hty hsz hby hze hzs hsz0 hx hy E hk (By k2 hl hk2) h1 hs h a w ha hw hs0
theorem CJ.nil(hl:∀x,(enc x).length=sz):CJ K w0 enc sz zN []:=⟨hl,.inl ⟨_,rfl,rfl⟩⟩
end rows
theorem Am{u:Value}(ho:At ops N l o t (.assign x))(hx:Bf l x=some v)(hu:v=u)(h:SL P ro K w0 N ops Hs items Q D ((t,u)::l) H):SL P ro K w0 N ops Hs (.cons (tk,o) items) Q D l H:=
 kC ho (by rw[hx,hu]) h
theorem ui{c:Code}(l':Tm)(H':List AV)(h:SX P ro K w0 N c Q D l' H')(e1:RP l' l)(e2:H=H':=by rfl):SX P ro K w0 N c Q D l H:=by
 subst e2;exact h.mono e1
def midD{α:Type}(K:Nat→Prop)(w0:World)(N:Nat)(p:α→Prop)(I:α→Tm)(G:α→List AV)(Q:C7):C7
 | .normal,a,w=>∃x D,p x∧MJ N D (I x) a∧BZ K w0 (G x++[BP D]) w
 | e,a,w=>Q e a w
theorem A4{α:Type}(p:α→Prop)(I:α→Tm)(G:α→List AV){c y:Code}(h:SX P ro K w0 N c (midD K w0 N p I G Q) D l H)(h2:∀x D,p x→SX P ro K w0 N y Q D (I x) (G x)):SX P ro K w0 N (.seq c y) Q D l H:=by
 intro a w ha hw
 refine wpIn_seq (wpIn_mono (h a w ha hw) ?_)
 intro e a w q
 cases e with
 | normal=>
  obtain⟨x,D',hx,ha,hw⟩:=q
  exact h2 x D' hx a w ha hw
 | _=>exact q
theorem Av{α:Type}{p:α→Prop}{I:α→Tm}{G:α→List AV}(x:α)(hp:p x)(hl:RP (I x) l)(hH:∀w,BZ K w0 (H++[BP D]) w→BZ K w0 (G x++[BP D]) w):
  SQ K w0 N (Go.Proofs.YtkibffdipniemaaGreatDoor.midD K w0 N p I G Q) .normal D l H:=fun _a w ha hw=>⟨x,D,hp,ha.mono hl,hH w hw⟩
theorem EO{α:Type}{p:α→Prop}{I:α→Tm}{G:α→List AV}(h:SQ K w0 N Q .ret D l H):SQ K w0 N (Go.Proofs.YtkibffdipniemaaGreatDoor.midD K w0 N p I G Q) .ret D l H:=h
theorem EA(t n tt:Nat){b y:Bool}{C:Option Bool}(hy:FZ b C=some y)(hb:look l t=some (.bool b))
(ht:b=true→C=some y→SL P ro K w0 N ops Hs (items.drop n) Q D ((tt,.bool y)::(t,.bool true)::Md t l) H→SL P ro K w0 N ops Hs items Q D ((t,.bool true)::Md t l) H)
(hf:b=false→SL P ro K w0 N ops Hs (items.drop n) Q D ((tt,.bool false)::(t,.bool false)::Md t l) H→SL P ro K w0 N ops Hs items Q D ((t,.bool false)::Md t l) H)
(h:SL P ro K w0 N ops Hs (items.drop n) Q D ((tt,.bool y)::l) H):SL P ro K w0 N ops Hs items Q D l H:=by
 refine QT t hb (fun e=>?_) (fun e=>?_)
 subst e;exact MH (ht rfl hy (h.join hb))
 subst e
 obtain rfl:false=y:=zI hy
 exact MH (hf E (h.join hb))
theorem Lp(t n tt:Nat){b y:Bool}{C:Option Bool}(hy:OF b C=some y)(hb:look l t=some (.bool b))
(ht:b=true→SL P ro K w0 N ops Hs (items.drop n) Q D ((tt,.bool true)::(t,.bool true)::Md t l) H→SL P ro K w0 N ops Hs items Q D ((t,.bool true)::Md t l) H)
(hf:b=false→C=some y→SL P ro K w0 N ops Hs (items.drop n) Q D ((tt,.bool y)::(t,.bool false)::Md t l) H→SL P ro K w0 N ops Hs items Q D ((t,.bool false)::Md t l) H)
(h:SL P ro K w0 N ops Hs (items.drop n) Q D ((tt,.bool y)::l) H):SL P ro K w0 N ops Hs items Q D l H:=by
 refine QT t hb (fun e=>?_) (fun e=>?_)
 subst e
 obtain rfl:true=y:=zI hy
 exact MH (ht E (h.join hb))
 subst e;exact MH (hf rfl hy (h.join hb))
theorem HK{xs ys:Array Value}:GS [] xs ys=some true:=rfl
theorem CT{i:Nat}{d:TypeDesc}{r:List (Nat×TypeDesc)}{xs ys:Array Value}{u v:Value}{p q:Bool}(hx:xs[i]? = some u)(hy:ys[i]? = some v)(he:Tx d u v=some p)(hr:GS r xs ys=some q):GS ((i,d)::r) xs ys=some (p&&q):=by
 simp[GS,hx,hy,he,hr]
theorem XW{k:IntKind}{a b:Int}:Tx (.int k) (.int k a) (.int k b)=some (decide (a=b)):=by
 simp only[Tx,if_true]
 congr 1
theorem I6{a b:UInt32}:Tx (.int .u32) (AA a) (AA b)=some (decide (a=b)):=by
 rw[XW];congr 1;rw[Bool.eq_iff_iff,decide_eq_true_eq,decide_eq_true_eq,←UInt32.toNat_inj];omega
theorem qv{a b:UInt64}:Tx (.int .u64) (Ap a) (Ap b)=some (decide (a=b)):=by
 rw[XW];congr 1;rw[Bool.eq_iff_iff,decide_eq_true_eq,decide_eq_true_eq,←UInt64.toNat_inj];omega
theorem Qf{a b:List UInt8}:Tx .string (vS a) (vS b)=some (decide (a=b)):=by
 simp only[Tx,UI];congr 1;rw[Bool.eq_iff_iff];simp
theorem PQ{src dst:TypeId}{d:TypeDesc}{k:IntKind}{n:Int}(hs:P.underlying src=some d)(hd:P.underlying dst=some (.int .i64)):Cv P src dst (.int k n) (vI (wI n)):=Cv.int hs hd rfl
theorem Me{α:Type}{b m:Nat}{xs:List α}{k:IntKind}{i:Int}{c:α}{ty e:TypeId}(hn:Ao xs i=some c)(ho:At ops N l o t (.indexAddr ty x y))(hty:P.underlying ty=some (.array m e))(hsz:C3 P e=some 1)(hx:Bf l x=some (vP b 0))(hy:Bf l y=some (.int k i))
(hln:xs.length=m)(h:SL P ro K w0 N ops Hs items Q D ((t,vP b i.toNat)::l) H):SL P ro K w0 N ops Hs (.cons (tk,o) items) Q D l H:=by
 obtain⟨h1,h2,h3⟩:=EW hn
 exact Cq ho hty hsz hx hy h1 zO h
structure KM(K:Nat→Prop)(w0:World)(g:Nat)(n:Nat)(T:List UInt32):Prop where
 tab:TI K w0 g T
 len:T.length=n
theorem KM.keeps{g n:Nat}{T:List UInt32}{K':Nat→Prop}{w1:World}(h:KM K w0 g n T)(hk:Vz K w0 K' w1):KM K' w1 g n T:=⟨h.tab.keeps hk,h.len⟩
theorem ow{g n:Nat}{T:List UInt32}{i:Int}{c:UInt32}(h:KM K w0 g n T)(hn:Ao T i=some c):∀w,F1 K w0 L w→w.cell? ⟨g,i.toNat,none⟩=some (AA c):=
 PF (ad:=⟨g,i.toNat,none⟩) h.tab.keep (h.tab.cell _ _ (EW hn).2.2)
end

section
open Go Go.ChangeShapes Go.WideShapes Go.ChangeAt Go.RowKit
theorem fV:RB.length=64:=by decide
theorem rF:Tryz.prog.globalNamed "sphragis/sphragisref02.table" = some 2:=zK
theorem sJ:(Tryz.prog.globals[2]?).map (·.type)=some 296:=zK
theorem kM{W:World}(h:laidMetH Tryz.prog [("sphragis/sphragisref02.table", Rows.laid_sphragis_sphragisref02_table),("sphragis/sha.first", Rows.laid_sphragis_sha_first),("sphragis/sha.constants", Rows.laid_sphragis_sha_constants)] W):Hd (· < W.heap.size) W RB∧KM (· < W.heap.size) W 2 64 RB:=by
 have h0:laidMet Tryz.prog [("sphragis/sphragisref02.table", Lib.tabData .u32 Us),("sphragis/sha.first", Lib.tabData .u32 dZ),("sphragis/sha.constants", Lib.tabData .u32 Us)] W:=h
 refine⟨me (WD h0),cP rF (Lib.tabIs_of_head rF sJ Tryz.underlying296 Tryz.underlying29 Va XV h0) (by simp[RB]) zK,fV⟩
noncomputable def di(os:Os):World:=
 { World.holding Tryz.prog os ⟨#[],#[],[]⟩with heap:=(((World.holding Tryz.prog os ⟨#[],#[],[]⟩).heap.modify 1 (oG dZ)).modify 3 (oG Us)).modify 2 (oG Us) }
end

section
theorem Dq{α β:Type}{F:(α→Option β)→α→Option β}(I:Nat→α)(N:Nat){z:Option β}(hs:∀i,i<N→∀k,F k (I i)=k (I (i+1)))(he:∀k,F k (I N)=z){m:Nat}(hm:N<m):Bu F m (I 0)=z:=by
 have key:∀d i m,i+d=N→d<m→Bu F m (I i)=z:=by
  intro d
  induction d with
  | zero=>
   intro i m hi hm
   obtain rfl:i=N:=zO
   obtain⟨m,rfl⟩:∃k,m=k+1:=⟨m-1,by omega⟩
   exact he _
  | succ d ih=>
   intro i m hi hm
   obtain⟨m,rfl⟩:∃k,m=k+1:=⟨m-1,by omega⟩
   show F (Bu F m) (I i)=z
   rw[hs i zO]
   exact ih (i+1) m zO zO
 exact key N 0 m zO hm
theorem kF{α β:Type}{F:(α→Option β)→α→Option β}(I:Nat→α)(Z9:Nat→Option β)(N:Nat)(hs:∀i,i<N→∀k,k (I (i+1))=Z9 (i+1)→F k (I i)=Z9 i)(he:∀k,F k (I N)=Z9 N){m:Nat}(hm:N<m):Bu F m (I 0)=Z9 0:=by
 have key:∀d i m,i+d=N→d<m→Bu F m (I i)=Z9 i:=by
  intro d
  induction d with
  | zero=>
   intro i m hi hm
   obtain rfl:i=N:=zO
   obtain⟨m,rfl⟩:∃k,m=k+1:=⟨m-1,by omega⟩
   exact he _
  | succ d ih=>
   intro i m hi hm
   obtain⟨m,rfl⟩:∃k,m=k+1:=⟨m-1,by omega⟩
   show F (Bu F m) (I i)=Z9 i
   exact hs i zO _ (ih (i+1) m zO zO)
 exact key N 0 m zO hm
theorem aH{α β:Type}{F:(α→Option β)→α→Option β}(I:Nat→α)(p:Nat→Prop)(N:Nat){z:Option β}(hs:∀i,i<N→p i→∀k,(p (i+1)→k (I (i+1))=z)→F k (I i)=z)(he:p N→∀k,F k (I N)=z)(h0:p 0){m:Nat}(hm:N<m):Bu F m (I 0)=z:=by
 have key:∀d i m,i+d=N→d<m→p i→Bu F m (I i)=z:=by
  intro d
  induction d with
  | zero=>
   intro i m hi hm hp
   obtain rfl:i=N:=zO
   obtain⟨m,rfl⟩:∃k,m=k+1:=⟨m-1,by omega⟩
   exact he hp _
  | succ d ih=>
   intro i m hi hm hp
   obtain⟨m,rfl⟩:∃k,m=k+1:=⟨m-1,by omega⟩
   show F (Bu F m) (I i)=z
   exact hs i zO hp _ (ih (i+1) m zO zO)
 exact key N 0 m zO hm h0
theorem Ft{α:Type}{l:List α}{i:Nat}:Ao l (i:Int)=l[i]? := by simp[Ao]
theorem EF{α:Type}{l:List α}{i:Int}{k:Nat}(h:i=(k:Int)):Ao l i=l[k]? := by rw[h,Ft]
theorem CF{α:Type}{l:List α}{i:Int}{k:Nat}(d:α)(h:i=(k:Int))(hk:k<l.length):Ao l i=some (l.getD k d):=by rw[EF h,Iv d hk]
theorem Jd{α:Type}{l:List α}{i:Int}{k:Nat}{a:α}(h:i=(k:Int))(hk:k<l.length):F6 l i a=some (l.set k a):=by
 subst h
 unfold F6
 rw[if_pos zO]
 simp
theorem Dz{α:Type}{l:List α}{i j:Int}{p q:Nat}(hi:i=(p:Int))(hj:j=(q:Int))(h1:p≤q)(h2:q≤l.length):Cz l i j=some ((l.drop p).take (q-p)):=by
 subst hi;subst hj
 unfold Cz
 rw[if_pos zO]
 simp
theorem CB{α:Type}{b:Nat}{s t:List α}(h:(s.length+t.length)*b≤140737488355328)(h2:s.length+t.length≤9223372036854775807):Cp b s t=some (s++t):=if_pos ⟨h,h2⟩
theorem Cn{s t:List UInt8}(h:s.length+t.length≤9223372036854775807):FR s t=some (s++t):=if_pos h
theorem UM{i:Nat}:Sa (i:Int)=some i:=by simp[Sa]
theorem Ut{a b:Nat}(hb:b≠0):RX (a:Int) (b:Int)=some ((a%b:Nat):Int):=by
 unfold RX
 rw[if_neg zO,Int.tmod_eq_emod_of_nonneg zO]
 rfl
theorem dt{a b:Nat}(hb:b≠0)(ha:a≤9223372036854775807):Td (a:Int) (b:Int)=some ((a / b:Nat):Int):=by
 unfold Td
 have h1:a / b≤a:=Nat.div_le_self _ _
 rw[if_neg zO,Int.tdiv_eq_ediv_of_nonneg zO,show((a:Int) / (b:Int))=((a / b:Nat):Int)from rfl]
 generalize a / b=q at h1 ⊢
 rw[A8 zO zO]
theorem U{α β:Type}{a:α}{f:α→Option β}:(some a).bind f=f a:=by simp
theorem A9{α β:Type}{e:α}{k:α→β}:ret e k=k e:=by simp[ret]
theorem Wm{α β:Type}{F:(α→Option β)→α→Option β}{m:Nat}{a:α}:Bu F (m+1) a=F (Bu F m) a:=by rw[Bu]
theorem Ow{α:Type}{l:List α}{k:Nat}(d:α)(h:k<l.length):l.getD k d=l[k]:=by simp[List.getD,h]
end

section
open Go Go.MapKept Go.ChangeMaps
variable {P:Program}{ro:Option Nat}{K:Nat→Prop}{w0:World}{N:Nat}{Q:C7}{D:List Nat}{l l':Tm}{H H' Hs L:List AV}{ops:Array Oper}{items:Ic}
variable {tk:Bool}{o:Oper}{t:Nat}{v:Value}{x y z:Operand}
theorem Zg{α β:Type}(f:α→β){l:List α}(h:(l.map f).Nodup):l.Nodup:=(List.pairwise_map.1 h).imp fun hne e=>hne (congrArg f e)
theorem Q3{α:Type}:∀ {l l':List α},l.Nodup→(∀a∈l,a∈l')→l.length≤l'.length
 | [],_,_,_=>by simp
 | a::r,l',hn,hs=>by
  obtain⟨h1,h2⟩:=List.nodup_cons.1 hn
  obtain⟨p,q,rfl⟩:=List.append_of_mem (hs a (List.mem_cons_self ..))
  have:=Q3 (l':=p++q) h2 (fun b hb=>by
   have hb':=hs b (List.mem_cons_of_mem _ hb)
   simp only[List.mem_append,List.mem_cons]at hb' ⊢
   rcases hb' with h | rfl | h
   exact .inl h
   exact absurd hb h1
   exact .inr h)
  simp at this ⊢
  omega
section gm
variable {κ α:Type}[DecidableEq κ]
def D1(m:List (κ×α))(k:κ):Option α:=(m.find? fun p=>decide (p.1=k)).map (·.2)
def Ib(m:List (κ×α))(k:κ):List (κ×α):=m.filter fun p=>decide (p.1≠k)
def J6(m:List (κ×α))(k:κ)(a:α):List (κ×α):=(k,a)::Ib m k
theorem UF{m:List (κ×α)}{k:κ}(h:∀p∈m,p.1≠k):D1 m k=none:=by
 unfold D1
 rw[List.find?_eq_none.2 (fun p hp=>by simpa using h p hp)]
 rfl
theorem RF{m:List (κ×α)}(hn:(m.map (·.1)).Nodup){p:κ×α}(hp:p∈m):D1 m p.1=some p.2:=by
 induction m with
 | nil=>cases hp
 | cons q r ih=>
  simp only[List.map_cons,List.nodup_cons]at hn
  unfold D1
  rcases List.mem_cons.1 hp with rfl | hp
  simp
  have hne:q.1≠p.1:=fun e=>hn.1 (by rw[e];exact List.mem_map_of_mem hp)
  rw[List.find?_cons_of_neg (by simpa using hne)]
  exact ih hn.2 hp
theorem Sx{m:List (κ×α)}{k:κ}(h:∀p∈m,p.1≠k):Ib m k=m:=List.filter_eq_self.2 (fun p hp=>by simpa using h p hp)
theorem WQ{m:List (κ×α)}(hn:(m.map (·.1)).Nodup){p:κ×α}(hp:p∈m):m.Perm (p::Ib m p.1):=by
 induction m with
 | nil=>cases hp
 | cons q r ih=>
  simp only[List.map_cons,List.nodup_cons]at hn
  rcases List.mem_cons.1 hp with rfl | hp
  have h1:Ib (p::r) p.1=r:=by
   unfold Ib
   rw[List.filter_cons_of_neg zS]
   exact Sx fun q hq e=>hn.1 (by rw[←e];exact List.mem_map_of_mem hq)
  rw[h1]
  have hne:q.1≠p.1:=fun e=>hn.1 (by rw[e];exact List.mem_map_of_mem hp)
  have h1:Ib (q::r) p.1=q::Ib r p.1:=by
   unfold Ib
   rw[List.filter_cons_of_pos (by simpa using hne)]
  rw[h1]
  exact((ih hn.2 hp).cons q).trans (List.Perm.swap _ _ _)
theorem WY{m:List (κ×α)}{k:κ}(hn:(m.map (·.1)).Nodup):((Ib m k).map (·.1)).Nodup:=hn.sublist (List.Sublist.map _ (List.filter_sublist ..))
theorem Wg{m:List (κ×α)}{k:κ}{a:α}(hn:(m.map (·.1)).Nodup):((J6 m k a).map (·.1)).Nodup:=by
 simp only[J6,List.map_cons,List.nodup_cons]
 refine⟨fun h=>?_,WY hn⟩
 obtain⟨q,hq,e⟩:=List.mem_map.1 h
 have:=(List.mem_filter.1 hq).2
 simp[e]at this
theorem S8{m:List (κ×α)}{k j:κ}{a:α}:D1 (J6 m k a) j=if k=j then some a else D1 m j:=by
 unfold J6 D1
 by_cases h:k=j
 rw[if_pos h,List.find?_cons_of_pos (by simpa using h)];rfl
 rw[if_neg h,List.find?_cons_of_neg (by simpa using h)]
 congr 1
 unfold Ib
 rw[List.find?_filter]
 congr 1
 funext p
 by_cases hj:p.1=j
 simp[hj,Ne.symm h]
 simp[hj]
end gm
structure QK(P:Program)(k:TypeId){κ α:Type}(ek:κ→Value)(ev:α→Value):Prop where
 keyed:Go.Maps.Keyed P k
 lit:∀x,∃l,keyOf P k (ek x)=some l
 dk:∃f:Value→Option κ,∀x,f (ek x)=some x
 dv:∃f:Value→Option α,∀x,f (ev x)=some x
theorem QK.inj{k:TypeId}{κ α:Type}{ek:κ→Value}{ev:α→Value}(E9:QK P k ek ev){x y:κ}(h:ek x=ek y):x=y:=by
 obtain⟨f,hf⟩:=E9.dk
 have:=hf x
 rw[h,hf y]at this
 exact(zI this).symm
theorem fH{k:TypeId}(hk:P.underlying k=some (.int .u32))(a:UInt32):∃l,keyOf P k (AA a)=some l:=
 ⟨_,Maps.keyOf_int_mk hk (by have:=a.toNat_lt;simp[Lit.wf,IntKind.min,IntKind.max,IntKind.signed,IntKind.bits];omega)⟩
theorem ZK{k:TypeId}(hk:P.underlying k=some (.int .u32)):QK P k AA vS:=
 ⟨Maps.int_keyed hk,fH hk,⟨fun v=>match v with | .int _ a=>some (UInt32.ofNat a.toNat) | _=>none,fun x=>by simp⟩,⟨fun v=>match v with | .string b=>some b.data.toList | _=>none,fun x=>rfl⟩⟩
theorem Of{k:TypeId}(hk:P.underlying k=some (.int .u32)):QK P k AA vB:=
 ⟨Maps.int_keyed hk,fH hk,⟨fun v=>match v with | .int _ a=>some (UInt32.ofNat a.toNat) | _=>none,fun x=>by simp⟩,⟨fun v=>match v with | .bool b=>some b | _=>none,fun x=>rfl⟩⟩
section maps
variable {κ α:Type}{ek:κ→Value}{ev:α→Value}{m:List (κ×α)}{k:TypeId}{b:Nat}
def Na(ek:κ→Value)(ev:α→Value)(m:List (κ×α))(es:Array MapEntry)(clock:Nat):Prop:=
 Stamped es clock∧es.size≤maxLen∧(es.toList.map fun e=>(e.key,e.val)).Perm (m.map fun p=>(ek p.1,ev p.2))
def BQ(b:Nat)(ek:κ→Value)(ev:α→Value)(m:List (κ×α)):AV:=
 ⟨(·=b),fun w=>∃es clock,w.heap[b]? = some (.map es clock)∧Na ek ev m es clock,fun w w' h ⟨es,c,h1,h2⟩=>⟨es,c,by rw[h _ rfl];exact h1,h2⟩⟩
theorem Na.mem{es:Array MapEntry}{clock:Nat}(h:Na ek ev m es clock){e:MapEntry}(he:e∈es.toList):∃p∈m,e.key=ek p.1∧e.val=ev p.2:=by
 have:=h.2.2.mem_iff.1 (List.mem_map_of_mem (f:=fun e:MapEntry=>(e.key,e.val)) he)
 obtain⟨p,hp,e1⟩:=List.mem_map.1 this
 simp only[Prod.mk.injEq]at e1
 exact⟨p,hp,e1.1.symm,e1.2.symm⟩
theorem Na.nodup{es:Array MapEntry}{clock:Nat}(h:Na ek ev m es clock):(m.map (·.1)).Nodup:=by
 have h1:(es.toList.map (·.key)).Nodup:=h.1.2.2
 have h2:(es.toList.map (·.key)).Perm (m.map fun p=>ek p.1):=by
  have:=h.2.2.map (·.1)
  simpa[List.map_map,Function.comp_def]using this
 have h3:(m.map fun p=>ek p.1).Nodup:=h2.nodup_iff.1 h1
 have h4:(m.map fun p=>ek p.1)=(m.map (·.1)).map ek:=by simp
 rw[h4]at h3
 exact Zg _ h3
theorem Na.keys{es:Array MapEntry}{clock:Nat}(E9:QK P k ek ev)(h:Na ek ev m es clock):∀e∈es.toList,∃l,keyOf P k e.key=some l:=fun e he=>by
 obtain⟨p,_,e1,_⟩:=h.mem he
 rw[e1]
 exact E9.lit _
theorem Na.size_eq{es:Array MapEntry}{clock:Nat}(h:Na ek ev m es clock):es.size=m.length:=by
 have:=h.2.2.length_eq
 simpa using this
variable [DecidableEq κ]
theorem Na.look{es:Array MapEntry}{clock:Nat}{w:World}(E9:QK P k ek ev)(h:Na ek ev m es clock)(hb:w.heap[b]? = some (.map es clock)){ty e:TypeId}(ht:P.underlying ty=some (.map k e)){zv:α}(hz:ES P e=some (ev zv))(key:κ)(c:Bool):
  (Instr.lookup ty (.map (some b)) (ek key) c).run P w=.ok (if c then .tuple #[ev ((D1 m key).getD zv),.bool (D1 m key).isSome]else ev ((D1 m key).getD zv)) w:=by
 obtain⟨lx,hl⟩:=E9.lit key
 rcases E9.keyed.find w hl es.toList (h.keys E9)with⟨h1,h2⟩ | ⟨j,e0,h1,h2,h3⟩
 have hg:D1 m key=none:=UF fun p hp e=>by
  have:=h.2.2.mem_iff.2 (List.mem_map_of_mem (f:=fun p:κ×α=>(ek p.1,ev p.2)) hp)
  obtain⟨e',he',e1⟩:=List.mem_map.1 this
  simp only[Prod.mk.injEq]at e1
  exact h2 e' he' (by rw[e1.1,e])
 simp[Instr.lookup,A0 ht,MapKept.run_getObj_map hb,E9.keyed.check w _ hl,h1,OP hz,Result.andThen,hg]
 obtain⟨p,hp,e1,e2⟩:=h.mem (List.mem_of_getElem? h2)
 have hk:p.1=key:=E9.inj (by rw[←e1,h3])
 have hg:=RF h.nodup hp
 rw[hk]at hg
 simp[Instr.lookup,A0 ht,MapKept.run_getObj_map hb,E9.keyed.check w _ hl,h1,Result.andThen,hg,←e2]
theorem Na.upd{es:Array MapEntry}{clock:Nat}{w:World}(E9:QK P k ek ev)(h:Na ek ev m es clock)(hb:w.heap[b]? = some (.map es clock)){ty e:TypeId}(ht:P.underlying ty=some (.map k e))(key:κ)(a:α)(hroom:m.length<9223372036854775807):
  ∃es' clock',(Instr.mapUpdate ty (.map (some b)) (ek key) (ev a)).run P w=.ok () (setBlock w b (.map es' clock'))∧Na ek ev (J6 m key a) es' clock':=by
 obtain⟨lx,hl⟩:=E9.lit key
 have hsz:=h.size_eq
 rcases E9.keyed.find w hl es.toList (h.keys E9)with⟨h1,h2⟩ | ⟨j,e0,h1,h2,h3⟩
 have hno:∀p∈m,p.1≠key:=fun p hp e=>by
  have:=h.2.2.mem_iff.2 (List.mem_map_of_mem (f:=fun p:κ×α=>(ek p.1,ev p.2)) hp)
  obtain⟨e',he',e1⟩:=List.mem_map.1 this
  simp only[Prod.mk.injEq]at e1
  exact h2 e' he' (by rw[e1.1,e])
 refine⟨es.push ⟨ek key,ev a,clock⟩,clock+1,?_,stamped_push h.1 h2,by simp only[maxLen,Array.size_push];omega,?_⟩
 simp[Instr.mapUpdate,A0 ht,MapKept.run_getObj_map hb,E9.keyed.check w false hl,h1,MapKept.run_setObj_map _ hb,Result.andThen,setBlock]
 unfold J6
 rw[Sx hno,Array.toList_push,List.map_append,List.map_cons]
 exact(List.perm_append_singleton _ _).trans (h.2.2.cons _)
 have hj:es[j]? = some e0:=by simpa using h2
 have hjl:j<es.toList.length:=(List.getElem?_eq_some_iff.1 h2).1
 obtain⟨p,hp,e1,e2⟩:=h.mem (List.mem_of_getElem? h2)
 have hk:p.1=key:=E9.inj (by rw[←e1,h3])
 have hkeyf:∀e',es[j]? = some e'→({ e' with key:=ek key,val:=ev a }:MapEntry).key=e'.key:=fun e' he'=>by rw[hj]at he';cases he';exact h3.symm
 have hlist:(es.modify j (fun e'=>{ e' with key:=ek key,val:=ev a })).toList=es.toList.set j { e0 with key:=ek key,val:=ev a }:=by rw[Array.toList_modify,modify_eq_set _ _ _ _ h2]
 refine⟨es.modify j (fun e'=>{ e' with key:=ek key,val:=ev a }),clock,?_,stamped_modify h.1 _ _ (fun _ _=>rfl) (fun e' _ he'=>hkeyf e' he'),by simpa using h.2.1,?_⟩
 simp[Instr.mapUpdate,A0 ht,MapKept.run_getObj_map hb,E9.keyed.check w false hl,h1,hj,h3,E9.keyed.stays w hl,MapKept.run_setObj_map _ hb,Result.andThen,setBlock]
 rw[hlist]
 unfold J6
 have hspl:=WQ h.nodup hp
 rw[hk]at hspl
 have p1:es.toList=es.toList.take j++e0::es.toList.drop (j+1):=(E7 h2).1
 have p2:es.toList.set j { e0 with key:=ek key,val:=ev a }=es.toList.take j++{ e0 with key:=ek key,val:=ev a }::es.toList.drop (j+1):=by
  rw[List.set_eq_take_append_cons_drop,if_pos hjl]
 rw[p2]
 have q1:((es.toList.take j++es.toList.drop (j+1)).map fun e=>(e.key,e.val)).Perm ((Ib m key).map fun p=>(ek p.1,ev p.2)):=by
  have h5:=h.2.2
  rw[p1]at h5
  have h6:=(List.perm_middle (l₁:=es.toList.take j) (a:=e0) (l₂:=es.toList.drop (j+1))).symm.map (fun e:MapEntry=>(e.key,e.val))
  have h7:=(h6.trans h5).trans (hspl.map fun p=>(ek p.1,ev p.2))
  simp only[List.map_cons,e1,e2]at h7
  exact h7.cons_inv
 have h8:=(List.perm_middle (l₁:=es.toList.take j) (a:=({ e0 with key:=ek key,val:=ev a }:MapEntry)) (l₂:=es.toList.drop (j+1))).map (fun e:MapEntry=>(e.key,e.val))
 exact h8.trans (q1.cons _)
theorem Na.drop{es:Array MapEntry}{clock:Nat}{w:World}(E9:QK P k ek ev)(h:Na ek ev m es clock)(hb:w.heap[b]? = some (.map es clock)){t2 e rt:TypeId}(ht:P.underlying t2=some (.map k e))(key:κ):
  ∃es',(Builtin.delete_ #[t2,k] rt #[.map (some b),ek key]).run P w=.ok (.tuple #[]) (setBlock w b (.map es' clock))∧Na ek ev (Ib m key) es' clock:=by
 obtain⟨lx,hl⟩:=E9.lit key
 rcases E9.keyed.find w hl es.toList (h.keys E9)with⟨h1,h2⟩ | ⟨j,e0,h1,h2,h3⟩
 have hno:∀p∈m,p.1≠key:=fun p hp e=>by
  have:=h.2.2.mem_iff.2 (List.mem_map_of_mem (f:=fun p:κ×α=>(ek p.1,ev p.2)) hp)
  obtain⟨e',he',e1⟩:=List.mem_map.1 this
  simp only[Prod.mk.injEq]at e1
  exact h2 e' he' (by rw[e1.1,e])
 refine⟨es,?_,by rw[Sx hno];exact h⟩
 simp[Builtin.delete_,A0 ht,MapKept.run_getObj_map hb,E9.keyed.check w _ hl,h1,MapKept.run_setObj_map _ hb,Result.andThen,setBlock]
 have hjl:j<es.toList.length:=(List.getElem?_eq_some_iff.1 h2).1
 have hjs:j<es.size:=by simpa using hjl
 obtain⟨p,hp,e1,e2⟩:=h.mem (List.mem_of_getElem? h2)
 have hk:p.1=key:=E9.inj (by rw[←e1,h3])
 have hsub:(es.eraseIdxIfInBounds j).toList=es.toList.eraseIdx j:=by
  unfold Array.eraseIdxIfInBounds
  rw[dif_pos hjs]
  simp
 refine⟨es.eraseIdxIfInBounds j,?_,stamped_erase h.1 j,Nat.le_trans (MapFrom.size_erase es j) h.2.1,?_⟩
 simp[Builtin.delete_,A0 ht,MapKept.run_getObj_map hb,E9.keyed.check w _ hl,h1,MapKept.run_setObj_map _ hb,Result.andThen,setBlock]
 rw[hsub,List.eraseIdx_eq_take_drop_succ]
 have hspl:=WQ h.nodup hp
 rw[hk]at hspl
 have p1:es.toList=es.toList.take j++e0::es.toList.drop (j+1):=(E7 h2).1
 have h5:=h.2.2
 rw[p1]at h5
 have h6:=(List.perm_middle (l₁:=es.toList.take j) (a:=e0) (l₂:=es.toList.drop (j+1))).symm.map (fun e:MapEntry=>(e.key,e.val))
 have h7:=(h6.trans h5).trans (hspl.map fun p=>(ek p.1,ev p.2))
 simp only[List.map_cons,e1,e2]at h7
 exact h7.cons_inv
omit [DecidableEq κ]
theorem NY(w:World)(b:Nat)(o:Obj):setBlock w b o=w.putObj b o:=rfl
theorem W7{ty:TypeId}(ek:κ→Value)(ev:α→Value)(ho:At ops N l o t (.makeMap ty none))(hs:∀b,En Hs (BQ b ek ev []::H))
(h:∀b,SL P ro K w0 N ops Hs items Q D ((t,.map (some b))::l) (BQ b ek ev []::H)):SL P ro K w0 N ops Hs (.cons (false,o) items) Q D l H:=
 HQ (fun b=>.map (some b)) (fun b=>BQ b ek ev []::H) ho rfl (fun a w ha hw=>by
  refine⟨w.heap.size,w.alloc (.map #[] 0),?_,?_⟩
  simp[execOp,ho.op,Instr.makeMap]
  have h2:=hw.alloc (.map #[] 0)
  refine h2.turn rfl rfl rfl (Nat.le_refl _) (fun _ _ _=>rfl) ⟨#[],0,h2.holds _ (List.mem_cons_self ..),stamped_empty 0,by simp,by simp⟩ (fun j hj=>?_)
  exact⟨.inl hj,(h2.foot _ (List.mem_cons_self ..) j hj).1⟩) hs h
variable [DecidableEq κ]
theorem cX{ty e:TypeId}{key:κ}{zv:α}(i:Nat)(E9:QK P k ek ev)(ho:At ops N l o t (.lookup ty x y false))(ht:P.underlying ty=some (.map k e))(hz:ES P e=some (ev zv))(hx:Bf l x=some (.map (some b)))(hy:Bf l y=some (ek key))
(hi:(bif tk then Hs else H)[i]? = some (BQ b ek ev m))(h:SL P ro K w0 N ops Hs items Q D ((t,ev ((D1 m key).getD zv))::l) H):SL P ro K w0 N ops Hs (.cons (tk,o) items) Q D l H:=
 SL.val ho rfl (fun a w ha hsw=>by
  obtain⟨es,clock,hb,hr⟩:=hsw.holds _ (List.mem_of_getElem? hi)
  have:=hr.look E9 hb ht hz key false
  simp[execOp,ho.op,ha.eval hx,ha.eval hy,this]) h
theorem am{ty e:TypeId}{key:κ}{zv:α}(i:Nat)(E9:QK P k ek ev)(ho:At ops N l o t (.lookup ty x y true))(ht:P.underlying ty=some (.map k e))(hz:ES P e=some (ev zv))(hx:Bf l x=some (.map (some b)))(hy:Bf l y=some (ek key))
(hi:(bif tk then Hs else H)[i]? = some (BQ b ek ev m))(h:SL P ro K w0 N ops Hs items Q D ((t,.tuple #[ev ((D1 m key).getD zv),.bool (D1 m key).isSome])::l) H):SL P ro K w0 N ops Hs (.cons (tk,o) items) Q D l H:=
 SL.val ho rfl (fun a w ha hsw=>by
  obtain⟨es,clock,hb,hr⟩:=hsw.holds _ (List.mem_of_getElem? hi)
  have:=hr.look E9 hb ht hz key true
  simp[execOp,ho.op,ha.eval hx,ha.eval hy,this]) h
theorem oo{ty e:TypeId}{key:κ}{a:α}{z:Operand}(i:Nat)(E9:QK P k ek ev)(ho:At0 ops l o (.mapUpdate ty x y z))(ht:P.underlying ty=some (.map k e))(hx:Bf l x=some (.map (some b)))(hy:Bf l y=some (ek key))(hz:Bf l z=some (ev a))
(hi:H[i]? = some (BQ b ek ev m))(hroom:m.length<9223372036854775807)(hs:En Hs (H.set i (BQ b ek ev (J6 m key a))))(h:SL P ro K w0 N ops Hs items Q D l (H.set i (BQ b ek ev (J6 m key a)))):SL P ro K w0 N ops Hs (.cons (false,o) items) Q D l H:=
 VP ho rfl (fun a' w ha hw=>by
  obtain⟨es,clock,hb,hr⟩:=hw.holds _ (List.mem_append_left _ (List.mem_of_getElem? hi))
  obtain⟨es',clock',hrun,hr'⟩:=hr.upd E9 hb ht key a hroom
  obtain⟨hlt,_⟩:=Array.getElem?_eq_some_iff.1 hb
  refine⟨_,by simp[execOp,ho.op,ha.eval hx,ha.eval hy,ha.eval hz,hrun];rfl,?_⟩
  refine hw.turnAt (c:=BQ b ek ev m) i hi rfl rfl rfl (by simp[NY]) (fun j hj hne=>World.putObj_heap_other (fun e=>hne (by rw[e];rfl))) ⟨es',clock',World.putObj_heap_same hlt,hr'⟩ (fun j hj=>⟨.inl hj,?_⟩)
  obtain rfl:j=b:=hj
  simpa[NY]using hlt) hs h
theorem pR{ty k' e:TypeId}{key:κ}(i:Nat)(E9:QK P k ek ev)(hd:o.dst=none)(hop:o.op=.call { callee:=.builtin .delete,args:=#[x,y],argTypes:=#[ty,k'] })(hwt:Rb ops l o=some true)(hk:k'=k)(ht:P.underlying ty=some (.map k e))(hx:Bf l x=some (.map (some b)))(hy:Bf l y=some (ek key))
(hi:H[i]? = some (BQ b ek ev m))(hs:En Hs (H.set i (BQ b ek ev (Ib m key))))(h:SL P ro K w0 N ops Hs items Q D l (H.set i (BQ b ek ev (Ib m key)))):SL P ro K w0 N ops Hs (.cons (false,o) items) Q D l H:=by
 subst hk
 intro a w ha hw hs0
 have hw1:=Gt hwt ha.vals
 simp only[PL,hw1,if_true]
 obtain⟨es,clock,hb,hr⟩:=hw.holds _ (List.mem_append_left _ (List.mem_of_getElem? hi))
 obtain⟨es',hrun,hr'⟩:=hr.drop (rt:=o.type) E9 hb ht key
 obtain⟨hlt,_⟩:=Array.getElem?_eq_some_iff.1 hb
 have hw':BZ K w0 (H.set i (BQ b ek ev (Ib m key))++[BP D]) (setBlock w b (.map es' clock)):=by
  refine hw.turnAt (c:=BQ b ek ev m) i hi rfl rfl rfl (by simp[NY]) (fun j hj hne=>World.putObj_heap_other (fun e=>hne (by rw[e];rfl))) ⟨es',clock,World.putObj_heap_same hlt,hr'⟩ (fun j hj=>⟨.inl hj,?_⟩)
  obtain rfl:j=b:=hj
  simpa[NY]using hlt
 refine NI (by rw[hop];exact H4 rfl) (v:=.tuple #[]) (w':=setBlock w b (.map es' clock)) ?_ ⟨hs.hs hw',?_⟩
 unfold execOp
 simp only[hop,resolve,invoke,builtin,Sem.run_bind,Sem.run_pure,Result.andThen_ok,List.map_toArray,List.map_cons,List.map_nil,ha.vals.eval hx,ha.vals.eval hy,hrun]
 rw[hd]
 exact h _ _ ha hw' (hs.hs hw')
omit [DecidableEq κ]
end maps
end

section
open Go Go.MapKept Go.ChangeMaps
variable {P:Program}{ro:Option Nat}{K:Nat→Prop}{w0:World}{N:Nat}{Q:C7}{D:List Nat}{l l':Tm}{H H' Hs L:List AV}{ops:Array Oper}{items:Ic}
variable {tk:Bool}{o:Oper}{t:Nat}{v:Value}{x y z:Operand}
theorem Br{α:Type}{e:TypeId}{sz:Nat}{enc:α→List Value}{xs:List α}(i:Nat)(hi:H[i]? = some (AH e sz v enc xs))(h:v.cells=#[v]→v.oneCell'=true→SL P ro K w0 N ops Hs items Q D l H):SL P ro K w0 N ops Hs items Q D l H:=by
 intro a w ha hw hs
 have hrow:w.ownsRow 0 e sz v xs.length (xs.flatMap enc):=hw.holds _ (List.mem_append_left _ (List.mem_of_getElem? hi))
 rcases hrow.2 with⟨rfl,_⟩ | ⟨g,cap,cur,rfl,_⟩
 exact h rfl rfl a w ha hw hs
 exact h rfl rfl a w ha hw hs
theorem Dy{b off:Nat}{c:Array Value}{e ty:TypeId}(i:Nat)(ho:At0 ops l o (.store ty x y))(hx:Bf l x=some (vP b off))(hy:Bf l y=some v)(hi:H[i]? = some (AN b (.cells c e)))
(hn:C3 P ty=some 1)(hv:v.cells=#[v])(h1:v.oneCell'=true)(hle:Nat.ble (off+1) c.size=true)
(hs:En Hs (H.set i (AN b (.cells (Ed c off [v]) e))))(h:SL P ro K w0 N ops Hs items Q D l (H.set i (AN b (.cells (Ed c off [v]) e)))):SL P ro K w0 N ops Hs (.cons (false,o) items) Q D l H:=
 Aj i ho hx hy hi hn (by rw[hv];rfl) (by rw[hv];simp[h1]) hle (by rw[hv];exact hs) (by rw[hv];exact h)
def UV{α:Type}(by_:Nat)(n:Int)(a:α):Option (List α):=if 0≤n∧by_*n.toNat≤281474976710656∧n≤9223372036854775807 then some (List.replicate n.toNat a)else none
theorem ki{α:Type}{by_:Nat}{n:Int}{a:α}{xs:List α}(h:UV by_ n a=some xs):n=(n.toNat:Int)∧by_*n.toNat≤281474976710656∧n.toNat≤9223372036854775807∧xs=List.replicate n.toNat a:=by
 unfold UV at h
 split at h
 rename_i hc
 exact⟨by omega,hc.2.1,by omega,(zI h).symm⟩
 cases h
theorem lF{α:Type}{enc:α→List Value}{a:α}{zv:Value}(hz:zv.cells.toList=enc a)(h1:(enc a).length=1)(n:Nat):(madeCells zv.cells (n*1)).toList=(List.replicate n a).flatMap enc:=by
 obtain⟨u,hu⟩:=List.length_eq_one_iff.1 h1
 have hs:zv.cells=#[u]:=by apply Array.ext';rw[hz,hu]
 rw[hs]
 have hrep:(List.replicate n a).flatMap enc=List.replicate n u:=by
  induction n with
  | zero=>rfl
  | succ k ih=>rw[List.replicate_succ,List.flatMap_cons,ih,hu,List.replicate_succ];rfl
 rw[hrep]
 apply List.ext_getElem
 simp[madeCells]
 intro i h2 h3
 simp[madeCells,Nat.mod_one]
theorem XG{α:Type}{e ty:TypeId}{by_:Nat}{zv:Value}{n:Int}{a:α}{xs:List α}(hn:UV by_ n a=some xs)(enc:α→List Value)(ho:At ops N l o t (.makeSlice ty x x))(hty:P.underlying ty=some (.slice e))(hsz:C3 P e=some 1)(hby:PD P e=some by_)(hze:ES P e=some zv)
(hx:Bf l x=some (vI n))(hza:zv.cells.toList=enc a)(h1:(enc a).length=1)(hzs:zv.cells.size=1)
(hs:∀v',En Hs (AH e 1 v' enc xs::H))(h:∀v',SL P ro K w0 N ops Hs items Q D ((t,v')::l) (AH e 1 v' enc xs::H)):SL P ro K w0 N ops Hs (.cons (false,o) items) Q D l H:=by
 obtain⟨h0,hb,h63,rfl⟩:=ki hn
 generalize n.toNat=m at h0 hb h63 hs h
 subst h0
 refine HQ (fun b=>.slice (some ⟨b,0,none⟩) m m) (fun b=>AH e 1 (.slice (some ⟨b,0,none⟩) m m) enc (List.replicate m a)::H) ho E (fun a' w ha hw=>?_) (fun b=>hs _) (fun b=>h _)
 obtain⟨ii,hii,e1,e2,e3⟩:=O0 hsz hby hze
 have hb':(ii.bytes:Int)*(m:Int)≤281474976710656:=by rw[e2,←Int.natCast_mul];omega
 have hr:=run_make (P:=P) w ty e ii zv hty hii e3 .i64 .i64 m m zO zO hb' zO
 rw[e1]at hr
 simp only[Int.toNat_natCast]at hr
 refine⟨w.heap.size,w.alloc (.cells (madeCells zv.cells (m*1)) e),?_,?_⟩
 unfold execOp
 simp only[ho.op,ha.eval hx,Sem.run_bind,hr,Result.andThen_ok,Sem.run_pure]
 have h2:=hw.alloc (.cells (madeCells zv.cells (m*1)) e)
 have hlen:((List.replicate m a).flatMap enc).length=m*1:=by simp[h1]
 refine h2.turn rfl rfl rfl (Nat.le_refl _) (fun _ _ _=>rfl) ⟨by simp[h1],.inr ⟨w.heap.size,m,_,by simp,Nat.zero_le _,h2.holds _ (List.mem_cons_self ..),by simp,by simp only[maxLen];omega,?_,?_⟩⟩ (fun k hk=>?_)
 simp[madeCells]
 rw[lF hza h1]
 rw[List.take_of_length_le (by simp[h1])]
 have hkb:k=w.heap.size:=by simp[AH,Value.ownBlock]at hk;exact hk.symm
 subst hkb
 exact⟨.inl rfl,(h2.foot _ (List.mem_cons_self ..) _ rfl).1⟩
def Pp{κ α:Type}[DecidableEq κ](m:List (κ×α))(k:κ)(a:α):Option (List (κ×α)):=if m.length<9223372036854775807 then some (J6 m k a)else none
theorem fb{κ α:Type}[DecidableEq κ]{m us:List (κ×α)}{k:κ}{a:α}(h:Pp m k a=some us):m.length<9223372036854775807∧us=J6 m k a:=by
 unfold Pp at h
 split at h
 exact⟨by assumption,(zI h).symm⟩
 cases h
theorem Xv{κ α:Type}[DecidableEq κ]{ek:κ→Value}{ev:α→Value}{m us:List (κ×α)}{k:TypeId}{b:Nat}{ty e:TypeId}{key:κ}{a:α}(i:Nat)(hn:Pp m key a=some us)(E9:QK P k ek ev)(ho:At0 ops l o (.mapUpdate ty x y z))(ht:P.underlying ty=some (.map k e))(hx:Bf l x=some (.map (some b)))(hy:Bf l y=some (ek key))(hz:Bf l z=some (ev a))
(hi:H[i]? = some (BQ b ek ev m))(hs:En Hs (H.set i (BQ b ek ev us)))(h:SL P ro K w0 N ops Hs items Q D l (H.set i (BQ b ek ev us))):SL P ro K w0 N ops Hs (.cons (false,o) items) Q D l H:=by
 obtain⟨hr,rfl⟩:=fb hn
 exact oo i E9 ho ht hx hy hz hi hr hs h
structure uk where
 cnt:UInt64
 tag:List UInt8
 boots:UInt32
deriving DecidableEq
structure ul where
 act:Int
 page:UInt32
 num:Int
 txt:List UInt8
 lv:Value
 fates:List Int
structure BM where
 off:Bool
 isCut:Bool
 lasts:Int
 counts:Int
 blocks:List (List UInt8)
 pend:List (UInt32×List UInt8)
 bad:List (UInt32×Bool)
 rcnt:UInt64
 rtag:List UInt8
 rboots:UInt32
structure BY where
 blk:List (List UInt8)
 pnd:List (List UInt8)
 bads:List Bool
 rcnt:UInt64
 rtag:List UInt8
 rboots:UInt32
 left:Int
 off:Bool
end

section
variable {P:Program}{ro:Option Nat}{K:Nat→Prop}{w0:World}{N:Nat}{Q:C7}{D:List Nat}{l l':Tm}{H H' Hs L:List AV}{ops:Array Oper}{items:Ic}
variable {tk:Bool}{o:Oper}{t:Nat}{v:Value}{x y z:Operand}
theorem ZR{b off n c sz:Nat}{k:IntKind}{j:Int}{ty e:TypeId}(q:Nat)(ho:At ops N l o t (.slice ty x (some z) none none))(hty:P.underlying ty=some (.slice e))(hsz:C3 P e=some sz)(hx:Bf l x=some (.slice (some ⟨b,off,none⟩) n c))(hz:Bf l z=some (.int k j))
(hj:j=(q:Int))(hq:q≤n)(hqc:q<c)(h:SL P ro K w0 N ops Hs items Q D ((t,.slice (some ⟨b,off+q*sz,none⟩) (n-q) (c-q))::l) H):SL P ro K w0 N ops Hs (.cons (tk,o) items) Q D l H:=
 SL.val ho rfl (fun a w ha _=>by
  subst hj
  simp only[execOp,ho.op,Instr.sliceAt,Instr.slice,Option.map]
  simp[ha.eval hx,ha.eval hz,A0 hty,CZ hsz,Instr.sliceBounds,Instr.sliceBound,asIntOf,hq,CE];omega) h
theorem i5{b off dl dc sl sc:Nat}{c:Array Value}{e ty ty':TypeId}{ad:Addr}(i:Nat)(news:List Value)(ho:At ops N l o t (.call { callee:=.builtin .copy,args:=#[x,y],argTypes:=#[ty,ty'] }))(hty:P.underlying ty=some (.slice e))(hsz:C3 P e=some 1)
(hx:Bf l x=some (.slice (some ⟨b,off,none⟩) dl dc))(hy:Bf l y=some (.slice (some ad) sl sc))(hi:H[i]? = some (AN b (.cells c e)))
(hn:news.length=Nat.min sl dl)(hnews:∀w,F1 K w0 H w→∀j u,news[j]? = some u→w.cell? (ad.add j)=some u)(h1:∀u∈news,u.oneCell'=true)(hle:off+news.length≤c.size)
(hs:En Hs (H.set i (AN b (.cells (Ed c off news) e))))(h:SL P ro K w0 N ops Hs items Q D ((t,vI news.length)::l) (H.set i (AN b (.cells (Ed c off news) e)))):SL P ro K w0 N ops Hs (.cons (false,o) items) Q D l H:=
 HQ (fun _:Unit=>vI news.length) (fun _=>H.set i (AN b (.cells (Ed c off news) e))) ho rfl (fun a w ha hw=>by
  have hb:w.heap[b]? = some (.cells c e (0,0)):=hw.holds _ (List.mem_append_left _ (List.mem_of_getElem? hi))
  obtain⟨w',hrun,hw'⟩:=Lx (P:=P) news off 0 c w hb (by simpa using hle) h1
  have hl:=run_loadCells_list (P:=P) w ad news (hnews w hw.dropMarks.s)
  have hs1:=CZ (w:=w) hsz
  refine⟨(),w',?_,?_⟩
  unfold execOp
  simp only[ho.op,resolve,Sem.run_bind,Sem.run_pure,Result.andThen_ok,invoke]
  simp only[List.map_toArray,List.map_cons,List.map_nil,ha.eval hx,ha.eval hy]
  simp[builtin,Builtin.copy_,A0 hty,Builtin.lenOf,Builtin.firstCells,hs1,←hn,hl,hrun,goInt]
  rw[hw']
  exact hw.putAt i hi) (fun _=>hs) (fun _=>h)
theorem lA{α:Type}{b n:Nat}{c:Array Value}{e:TypeId}(enc:α→List Value)(sz:Nat)(xs:List α)(hn:xs.length=n)(hc:c.toList=xs.flatMap enc)(hl:∀x,(enc x).length=sz)(hm:n≤1000000)
(h:SL P ro K w0 N ops Hs items Q D l (AH e sz (.slice (some ⟨b,0,none⟩) n n) enc xs::H)):SL P ro K w0 N ops Hs items Q D l (AN b (.cells c e)::H):=by
 subst hn
 exact B4 enc sz xs hc hl (Nat.ble_eq_true_of_le hm) h
end

section
variable {P:Program}{ro:Option Nat}{K:Nat→Prop}{w0:World}{N:Nat}{Q:C7}{D:List Nat}{l l':Tm}{H H' Hs L:List AV}{ops:Array Oper}{items:Ic}
def Pf(P:Program)(K:Nat→Prop)(w0:World)(f:FuncId)(cap:List Value)(Hit G0:List AV){α:Type}(enc:α→List Value)(xs:List α):Prop:=
 ∀(lp:Nat) (J9:List α→List AV→Prop) (X:List AV→Prop) (T:List AV) (rc:AV),
  (∀pre x suf,xs=pre++x::suf→∀G,J9 pre G→∀M,nZ P K w0 lp (enc x) (G++M) fun b G'=>∃G1,G'=G1++M∧(if b then J9 (pre++[x]) G1 else X G1))→
  J9 [] (rc::G0)→UJ P K w0 f (vY lp::cap) (Hit++(rc::G0)) T fun _ M=>J9 xs M∨X M
theorem Nn{α:Type}{g:Operand}{ps:Array Tmp}{assign body:Code}{f:FuncId}{cap:List Value}{Hit:List AV}{enc:α→List Value}(xs:List α){G0:List AV}
(J9:List α→List AV→Prop)(X:Code→List AV→Prop)
(hg:Bf l g=some (.func (.func f) #[] cap.toArray))(hf:AS P f=true)(hps:ps.toList.all (fun p=>Nat.blt p N)=true)(hlen:∀x,(enc x).length=ps.size)
(hseq:Pf P K w0 f cap Hit G0 enc xs)(hH:H=Hit++G0)(h0:J9 [] G0)
(hbody:∀pre x suf G,xs=pre++x::suf→J9 pre G→∀r lp Rest,SX P (some lp) K w0 N assign (bgn P lp body (gS K w0 J9 X pre x (Tl r lp Rest .busy))) [] (Qg ps.toList (enc x) l) (G++Tl r lp Rest .ready))
(hdone:∀G D,J9 xs G→SQ K w0 N Q .normal D l G)
(hstop:∀c G D,X c G→SX P none K w0 N c Q D l G):SX P none K w0 N (.rangeFunc g ps assign body) Q D l H:=by
 intro a w ha hw
 subst hH
 refine wpIn_rangeFunc fun fn _=>?_
 let r:Loop:={ state:=.ready,pending:=none,fn:=fn,tmps:=a.tmps,params:=ps,assign:=assign,body:=body,defers:=w.heap.size }
 refine⟨w.heap.size+1,[{ target:=.collected w.heap.size,args:=#[] }],(w.alloc (.deferred (some []))).alloc (.loop r),{ target:=.fn (.func f) cap.toArray,args:=#[vY (w.heap.size+1)] },(w.alloc (.deferred (some []))).alloc (.loop r),
  f,(vY (w.heap.size+1)::cap).toArray,(w.alloc (.deferred (some []))).alloc (.loop r),?_,?_,fun _ _=>NC _ _,?_,fun hd=>by simp[OY]at hd,?_⟩
 rw[ML];exact run_enterLoop_outer fn a.tmps ps assign body
 have hev:=ha.vals.eval hg
 simp[resolve,hev,Deferred.ofValue]
 rfl
 simp[invoke,LG hf]
 
 generalize hlp:w.heap.size+1=lp
 have hw1:BZ K w0 ((Hit++(Tl r lp [] .ready++G0))++[BP (w.heap.size::D)]) ((w.alloc (.deferred (some []))).alloc (.loop r)):=by
  have h1:=(hw.alloc (.deferred (some []))).alloc (.loop r)
  rw[World.size_alloc,hlp]at h1
  
  have hm:BZ K w0 (BP (w.heap.size::D)::AN lp (.loop r)::(Hit++G0)) ((w.alloc (.deferred (some []))).alloc (.loop r)):=by
   have hp:(AN lp (.loop r)::AN w.heap.size (.deferred (some []))::(Hit++G0++[BP D])).Perm (AN w.heap.size (.deferred (some []))::BP D::AN lp (.loop r)::(Hit++G0)):=by
    refine(List.Perm.swap _ _ _).trans (List.Perm.cons _ ?_)
    refine(List.Perm.cons _ (List.perm_append_comm (l₁:=Hit++G0) (l₂:=[BP D]))).trans ?_
    exact List.Perm.swap _ _ _
   have h2:=h1.perm hp
   have hpw:=List.pairwise_cons.1 h2.disj
   have hpw2:=List.pairwise_cons.1 hpw.2
   have hmk:=h2.holds (BP D) zS
   have hnew:=h2.holds (AN w.heap.size (.deferred (some []))) (List.mem_cons_self ..)
   refine⟨h2.os,h2.tape,h2.output,h2.size,h2.klt,h2.keep,?_,?_,?_⟩
   intro c hc
   rcases List.mem_cons.1 hc with rfl | hc
   refine⟨List.nodup_cons.2 ⟨fun hin=>hpw.1 (BP D) zS _ rfl hin,hmk.1⟩,fun b hb=>?_⟩
   rcases List.mem_cons.1 hb with rfl | hb
   exact hnew
   exact hmk.2 b hb
   exact h2.holds c (by simp only[List.mem_cons]at hc ⊢;exact .inr (.inr hc))
   intro c hc b hb
   rcases List.mem_cons.1 hc with rfl | hc
   rcases List.mem_cons.1 hb with rfl | hb
   exact h2.foot (AN w.heap.size (.deferred (some []))) (List.mem_cons_self ..) _ rfl
   exact h2.foot (BP D) zS b hb
   exact h2.foot c (by simp only[List.mem_cons]at hc ⊢;exact .inr (.inr hc)) b hb
   refine List.pairwise_cons.2 ⟨fun c hc b hb hb'=>?_,hpw2.2⟩
   rcases List.mem_cons.1 hb with rfl | hb
   exact hpw.1 c (List.mem_cons_of_mem _ hc) _ rfl hb'
   exact hpw2.1 c hc b hb hb'
  refine hm.perm ?_
  have e:Tl r lp [] .ready=[AN lp (.loop r)]:=rfl
  rw[e]
  refine(List.perm_append_comm (l₁:=[BP (w.heap.size::D)])).trans (List.Perm.append_right _ ?_)
  simpa using(List.perm_middle (l₁:=Hit) (a:=AN lp (.loop r)) (l₂:=G0)).symm
 have hN:∀p∈ps.toList,p<a.tmps.size:=fun p hp=>by
  rw[ha.size]
  exact JC (List.all_eq_true.1 hps p hp)
 let D':=w.heap.size::D
 have hcon:=hseq lp (fun pre Gx=>∃G,J9 pre G∧Gx=Tl r lp [] .ready++G) (fun Gx=>∃c G,X c G∧Gx=AN lp (.loop { r with state:=.done,pending:=some c })::G) [BP D'] (AN lp (.loop { r with state:=.ready,pending:=none })) ?_ ⟨G0,h0,rfl⟩
 refine Qd none ((hcon _ hw1).mono ?_)
 rintro e w' ⟨v,M,rfl,hM,hw'⟩
 have hD:MJ N D' l { tmps:=a.tmps,defers:=[{ target:=.collected w.heap.size,args:=#[] }]++a.defers }:=⟨ha.size,by simp[ha.defers,D',aP],ha.vals⟩
 rcases hM with⟨G,hJ,rfl⟩ | ⟨c,G,hX,rfl⟩
 have hl:w'.heap[lp]? = some (.loop { r with state:=.ready,pending:=none }):=hw'.holds (AN lp _) (by simp[Tl])
 refine⟨_,_,run_endLoop hl zS,?_⟩
 refine hdone G D' hJ _ _ hD ?_
 have h3:=(show BZ K w0 (AN lp (.loop { r with state:=.ready,pending:=none })::(G++[BP D'])) w' from hw').put (o':=.loop { r with state:=.exhausted,pending:=none })
 exact h3.sublist (List.sublist_cons_self _ _)
 have hl:w'.heap[lp]? = some (.loop { r with state:=.done,pending:=some c }):=hw'.holds (AN lp _) zS
 refine⟨_,_,run_endLoop hl zS,?_⟩
 refine hstop c G D' hX _ _ hD ?_
 have h3:=(show BZ K w0 (AN lp (.loop { r with state:=.done,pending:=some c })::(G++[BP D'])) w' from hw').put (o':=.loop { r with state:=.exhausted,pending:=some c })
 exact h3.sublist (List.sublist_cons_self _ _)
 
 rintro pre x suf hxs Gx ⟨G,hJ,rfl⟩ M w₁ hw₁
 have hl:w₁.heap[lp]? = some (.loop { r with state:=.ready,pending:=none }):=hw₁.holds (AN lp _) (by simp[Tl])
 refine⟨_,_,_,_,run_yield hl (by simp[hlen];rfl),?_⟩
 refine roundIn_of_wpIn trivial ?_
 have hw₂:BZ K w0 ((G++Tl r lp M .ready)++[BP []]) w₁:=by
  refine BZ.marks0 (hw₁.perm ?_)
  show(AN lp _::(G++M)).Perm (G++AN lp _::M)
  exact List.perm_middle.symm
 have hzip:((ps.zip (enc x).toArray).foldl (fun tmps (t,a)=>tmps.setIfInBounds t a) a.tmps)=((ps.toList.zip (enc x)).foldl (fun tm (t,a)=>tm.setIfInBounds t a) a.tmps):=by
  rw[←Array.foldl_toList,Array.toList_zip]
 have hb:=hbody pre x suf G hxs hJ r lp M { tmps:=(ps.zip (enc x).toArray).foldl (fun tmps (t,a)=>tmps.setIfInBounds t a) a.tmps,defers:=[] } w₁
  ⟨by rw[hzip,JY];exact ha.size,rfl,by rw[hzip];exact QQ ps.toList (enc x) l a.tmps hN ha.vals⟩ hw₂
 refine wpIn_mono hb ?_
 intro e a' w' q
 cases e with
 | normal=>
  obtain⟨w₃,hbr,hbody'⟩:=q
  refine⟨w₃,hbr,wpIn_mono hbody' ?_⟩
  have fin:∀(jump:Option Code) (G':List AV) (w₄:World),BZ K w0 (G'++Tl r lp M .busy) w₄→
    (Instr.endRound lp jump).run P w₄=.ok (.bool jump.isNone) (w₄.putObj lp (.loop { r with state:=if jump.isNone then .ready else .done,pending:=jump }))∧
    BZ K w0 ((AN lp (.loop { r with state:=if jump.isNone then .ready else .done,pending:=jump })::G')++M) (w₄.putObj lp (.loop { r with state:=if jump.isNone then .ready else .done,pending:=jump })):=by
   intro jump G' w₄ h4
   have hl4:w₄.heap[lp]? = some (.loop { r with state:=.busy,pending:=none }):=h4.holds (AN lp _) (by simp[Tl])
   refine⟨run_endRound (r:={ r with state:=.busy,pending:=none }) jump hl4,?_⟩
   have h5:BZ K w0 (AN lp (.loop { r with state:=.busy,pending:=none })::(G'++M)) w₄:=h4.perm List.perm_middle
   exact h5.put
  intro e₂ a₂ w₄ q₂
  cases e₂ with
  | normal=>
   obtain⟨G',hJ',h4⟩:=q₂
   obtain⟨hrun,h5⟩:=fin none G' w₄ h4
   exact⟨_,_,hrun,_,_,rfl,⟨_,rfl,by simp only[Option.isNone_none,if_true];exact⟨G',hJ',rfl⟩⟩,h5⟩
  | ret=>
   obtain⟨G',hX',h4⟩:=q₂
   obtain⟨hrun,h5⟩:=fin (some .ret) G' w₄ h4
   exact⟨_,_,hrun,_,_,rfl,⟨_,rfl,by simp only[Option.isNone_some,Bool.false_eq_true,if_false];exact⟨_,G',hX',rfl⟩⟩,h5⟩
  | exit id=>
   obtain⟨G',hX',h4⟩:=q₂
   obtain⟨hrun,h5⟩:=fin (some (.exit id)) G' w₄ h4
   exact⟨_,_,hrun,_,_,rfl,⟨_,rfl,by simp only[Option.isNone_some,Bool.false_eq_true,if_false];exact⟨_,G',hX',rfl⟩⟩,h5⟩
  | goto _=>exact q₂.elim
  | panic _=>exact q₂.elim
  | outgrown=>exact q₂.elim
 | exit _=>exact q.elim
 | goto _=>exact q.elim
 | ret=>exact q.elim
 | panic _=>exact q.elim
 | outgrown=>exact q.elim
def W4{α σ R:Type}(body:(σ→Option R)→α→σ→Option R)(fin:σ→Option R):List α→σ→Option R
 | [],s=>fin s
 | x::r,s=>body (W4 body fin r) x s
theorem cJ{α:Type}{xs pre suf suf':List α}{x:α}(h:xs=pre++x::suf)(h':xs=(pre++[x])++suf'):suf'=suf:=by
 rw[h,List.append_assoc]at h'
 simpa using(List.append_cancel_left h').symm
end
end Go.Proofs.YtkibffdipniemaaGreatDoor
