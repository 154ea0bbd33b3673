/- The texts T0, C0, C1, A0, D0, D1, D2, D3, B0, B1, D4, E0, E1, G0, G1, G2, H0, H1, I0, I1, R1, R2, X0, R3, V0, S14, S15, S16, S17, one behind the other: walks of the program, and plain laws of what it computes. Conditions: as each theorem says. -/
import Derived.Test.YtkibffdipniemaaGreatDoorMK1
import Derived.Test.YtkibffdipniemaaGreatDoorChecked
import Derived.Maps.Range

set_option linter.unusedVariables false
set_option linter.unusedSimpArgs false
set_option maxHeartbeats 4000000
set_option maxRecDepth 100000
namespace Go.Proofs.YtkibffdipniemaaGreatDoor
open Go
section
abbrev zC:=Ua Tryz.prog
set_option maxRecDepth 100000
theorem CY:Tryz.prog.follows .mixedOrders=true:=zK
theorem KB:PY Tryz.prog 138=some 2:=zK
theorem DE:PY Tryz.prog 143=some 4:=zK
theorem E6:PY Tryz.prog 148=some 8:=zK
theorem tI:PY Tryz.prog 159=some 4:=zK
theorem dx:PY Tryz.prog 251=some 2:=zK
theorem mw:PY Tryz.prog 255=some 4:=zK
theorem jp:PY Tryz.prog 265=some 16:=zK
theorem uH:PY Tryz.prog 272=some 8:=zK
theorem tV:PY Tryz.prog 274=some 10:=zK
theorem jQ:PY Tryz.prog 288=some 4:=zK
theorem nG:PY Tryz.prog 296=some 64:=zK
theorem tj:PY Tryz.prog 298=some 2:=zK
theorem Cb:PY Tryz.prog 31=some 2:=zK
theorem Es:PY Tryz.prog 54=some 3:=zK
theorem Lc:PY Tryz.prog 57=some 5:=zK
theorem lB:PY Tryz.prog 72=some 3:=zK
theorem Ex:PY Tryz.prog 79=some 4:=zK
theorem nE:Pa Tryz.prog 138=some 24:=zK
theorem Sb:Pa Tryz.prog 29=some 4:=zK
theorem gH:Pa Tryz.prog 31=some 24:=zK
theorem wH:Pa Tryz.prog 35=some 24:=zK
theorem vZ:Pa Tryz.prog 4=some 1:=zK
theorem Wx:Pa Tryz.prog 5=some 1:=zK
theorem fx:Pa Tryz.prog 57=some 64:=zK
theorem aq:Pa Tryz.prog 72=some 40:=zK
theorem PM:Pa Tryz.prog 79=some 32:=zK
theorem qQ:Pa Tryz.prog 9=some 16:=zK
theorem sN:AS Tryz.prog 100=true:=zK
theorem VF:AS Tryz.prog 101=true:=zK
theorem Xy:AS Tryz.prog 102=true:=zK
theorem Oo:AS Tryz.prog 103=true:=zK
theorem eF:AS Tryz.prog 104=true:=zK
theorem rW:AS Tryz.prog 105=true:=zK
theorem dX:AS Tryz.prog 106=true:=zK
theorem sT:AS Tryz.prog 107=true:=zK
theorem kB:AS Tryz.prog 108=true:=zK
theorem j8:AS Tryz.prog 109=true:=zK
theorem vF:AS Tryz.prog 11=true:=zK
theorem eH:AS Tryz.prog 110=true:=zK
theorem kf:AS Tryz.prog 111=true:=zK
theorem dR:AS Tryz.prog 112=true:=zK
theorem rH:AS Tryz.prog 113=true:=zK
theorem rZ:AS Tryz.prog 114=true:=zK
theorem sZ:AS Tryz.prog 115=true:=zK
theorem dH:AS Tryz.prog 116=true:=zK
theorem dT:AS Tryz.prog 117=true:=zK
theorem sj:AS Tryz.prog 118=true:=zK
theorem cj:AS Tryz.prog 119=true:=zK
theorem nW:AS Tryz.prog 12=true:=zK
theorem rq:AS Tryz.prog 120=true:=zK
theorem rj:AS Tryz.prog 121=true:=zK
theorem kH:AS Tryz.prog 122=true:=zK
theorem kF:AS Tryz.prog 123=true:=zK
theorem Xv:AS Tryz.prog 124=true:=zK
theorem sS:AS Tryz.prog 125=true:=zK
theorem si:AS Tryz.prog 126=true:=zK
theorem qT:AS Tryz.prog 127=true:=zK
theorem rU:AS Tryz.prog 128=true:=zK
theorem qj:AS Tryz.prog 129=true:=zK
theorem uV:AS Tryz.prog 13=true:=zK
theorem eO:AS Tryz.prog 130=true:=zK
theorem rA:AS Tryz.prog 131=true:=zK
theorem qb:AS Tryz.prog 132=true:=zK
theorem sV:AS Tryz.prog 133=true:=zK
theorem kJ:AS Tryz.prog 134=true:=zK
theorem kA:AS Tryz.prog 135=true:=zK
theorem rF:AS Tryz.prog 136=true:=zK
theorem rG:AS Tryz.prog 137=true:=zK
theorem qJ:AS Tryz.prog 138=true:=zK
theorem eW:AS Tryz.prog 139=true:=zK
theorem tu:AS Tryz.prog 14=true:=zK
theorem V8:AS Tryz.prog 140=true:=zK
theorem sU:AS Tryz.prog 142=true:=zK
theorem cz:AS Tryz.prog 144=true:=zK
theorem sQ:AS Tryz.prog 145=true:=zK
theorem qe:AS Tryz.prog 146=true:=zK
theorem qq:AS Tryz.prog 147=true:=zK
theorem sH:AS Tryz.prog 148=true:=zK
theorem kT:AS Tryz.prog 149=true:=zK
theorem pP:AS Tryz.prog 15=true:=zK
theorem qP:AS Tryz.prog 150=true:=zK
theorem X6:AS Tryz.prog 151=true:=zK
theorem Xz:AS Tryz.prog 152=true:=zK
theorem dg:AS Tryz.prog 153=true:=zK
theorem lC:AS Tryz.prog 154=true:=zK
theorem kR:AS Tryz.prog 155=true:=zK
theorem km:AS Tryz.prog 156=true:=zK
theorem se:AS Tryz.prog 157=true:=zK
theorem lE:AS Tryz.prog 158=true:=zK
theorem d8:AS Tryz.prog 159=true:=zK
theorem tC:AS Tryz.prog 16=true:=zK
theorem rI:AS Tryz.prog 160=true:=zK
theorem rg:AS Tryz.prog 161=true:=zK
theorem Iv:AS Tryz.prog 162=true:=zK
theorem k7:AS Tryz.prog 163=true:=zK
theorem rN:AS Tryz.prog 164=true:=zK
theorem lN:AS Tryz.prog 165=true:=zK
theorem rX:AS Tryz.prog 166=true:=zK
theorem qF:AS Tryz.prog 167=true:=zK
theorem eU:AS Tryz.prog 168=true:=zK
theorem qV:AS Tryz.prog 169=true:=zK
theorem pu:AS Tryz.prog 17=true:=zK
theorem Mp:AS Tryz.prog 170=true:=zK
theorem kE:AS Tryz.prog 171=true:=zK
theorem rk:AS Tryz.prog 172=true:=zK
theorem sb:AS Tryz.prog 173=true:=zK
theorem qN:AS Tryz.prog 174=true:=zK
theorem rD:AS Tryz.prog 175=true:=zK
theorem RM:AS Tryz.prog 176=true:=zK
theorem lA:AS Tryz.prog 177=true:=zK
theorem M6:AS Tryz.prog 178=true:=zK
theorem rB:AS Tryz.prog 179=true:=zK
theorem jI:AS Tryz.prog 18=true:=zK
theorem lG:AS Tryz.prog 180=true:=zK
theorem rL:AS Tryz.prog 181=true:=zK
theorem eg:AS Tryz.prog 182=true:=zK
theorem qZ:AS Tryz.prog 183=true:=zK
theorem qf:AS Tryz.prog 184=true:=zK
theorem rK:AS Tryz.prog 187=true:=zK
theorem sA:AS Tryz.prog 188=true:=zK
theorem rn:AS Tryz.prog 189=true:=zK
theorem pT:AS Tryz.prog 19=true:=zK
theorem j6:AS Tryz.prog 190=true:=zK
theorem rP:AS Tryz.prog 191=true:=zK
theorem lK:AS Tryz.prog 192=true:=zK
theorem rO:AS Tryz.prog 193=true:=zK
theorem ql:AS Tryz.prog 194=true:=zK
theorem qE:AS Tryz.prog 195=true:=zK
theorem TW:AS Tryz.prog 196=true:=zK
theorem q8:AS Tryz.prog 197=true:=zK
theorem sd:AS Tryz.prog 198=true:=zK
theorem qk:AS Tryz.prog 199=true:=zK
theorem oC:AS Tryz.prog 20=true:=zK
theorem lI:AS Tryz.prog 200=true:=zK
theorem qW:AS Tryz.prog 201=true:=zK
theorem rY:AS Tryz.prog 202=true:=zK
theorem eM:AS Tryz.prog 203=true:=zK
theorem qg:AS Tryz.prog 204=true:=zK
theorem rz:AS Tryz.prog 205=true:=zK
theorem dq:AS Tryz.prog 206=true:=zK
theorem sm:AS Tryz.prog 207=true:=zK
theorem kx:AS Tryz.prog 208=true:=zK
theorem qp:AS Tryz.prog 209=true:=zK
theorem pq:AS Tryz.prog 21=true:=zK
theorem sL:AS Tryz.prog 210=true:=zK
theorem r8:AS Tryz.prog 211=true:=zK
theorem qU:AS Tryz.prog 212=true:=zK
theorem kZ:AS Tryz.prog 213=true:=zK
theorem lM:AS Tryz.prog 214=true:=zK
theorem sk:AS Tryz.prog 215=true:=zK
theorem qH:AS Tryz.prog 216=true:=zK
theorem qI:AS Tryz.prog 217=true:=zK
theorem Py:AS Tryz.prog 218=true:=zK
theorem Nt:AS Tryz.prog 219=true:=zK
theorem ng:AS Tryz.prog 22=true:=zK
theorem sg:AS Tryz.prog 220=true:=zK
theorem qG:AS Tryz.prog 221=true:=zK
theorem qu:AS Tryz.prog 222=true:=zK
theorem X7:AS Tryz.prog 223=true:=zK
theorem qz:AS Tryz.prog 224=true:=zK
theorem sP:AS Tryz.prog 225=true:=zK
theorem qO:AS Tryz.prog 226=true:=zK
theorem dK:AS Tryz.prog 227=true:=zK
theorem sE:AS Tryz.prog 228=true:=zK
theorem Nw:AS Tryz.prog 229=true:=zK
theorem vU:AS Tryz.prog 23=true:=zK
theorem qK:AS Tryz.prog 230=true:=zK
theorem kw:AS Tryz.prog 231=true:=zK
theorem kV:AS Tryz.prog 232=true:=zK
theorem rC:AS Tryz.prog 233=true:=zK
theorem Xw:AS Tryz.prog 234=true:=zK
theorem r7:AS Tryz.prog 235=true:=zK
theorem oo:AS Tryz.prog 25=true:=zK
theorem pJ:AS Tryz.prog 26=true:=zK
theorem ul:AS Tryz.prog 29=true:=zK
theorem pz:AS Tryz.prog 34=true:=zK
theorem vR:AS Tryz.prog 35=true:=zK
theorem tQ:AS Tryz.prog 36=true:=zK
theorem nf:AS Tryz.prog 37=true:=zK
theorem oq:AS Tryz.prog 38=true:=zK
theorem pr:AS Tryz.prog 39=true:=zK
theorem ui:AS Tryz.prog 40=true:=zK
theorem tH:AS Tryz.prog 41=true:=zK
theorem tN:AS Tryz.prog 42=true:=zK
theorem pE:AS Tryz.prog 43=true:=zK
theorem uo:AS Tryz.prog 44=true:=zK
theorem uN:AS Tryz.prog 45=true:=zK
theorem vC:AS Tryz.prog 46=true:=zK
theorem vL:AS Tryz.prog 47=true:=zK
theorem nL:AS Tryz.prog 48=true:=zK
theorem t9:AS Tryz.prog 49=true:=zK
theorem ec:AS Tryz.prog 50=true:=zK
theorem vW:AS Tryz.prog 51=true:=zK
theorem uv:AS Tryz.prog 52=true:=zK
theorem jj:AS Tryz.prog 53=true:=zK
theorem iX:AS Tryz.prog 54=true:=zK
theorem t0:AS Tryz.prog 55=true:=zK
theorem im:AS Tryz.prog 56=true:=zK
theorem tU:AS Tryz.prog 57=true:=zK
theorem tw:AS Tryz.prog 58=true:=zK
theorem uE:AS Tryz.prog 59=true:=zK
theorem tx:AS Tryz.prog 60=true:=zK
theorem uB:AS Tryz.prog 61=true:=zK
theorem Zv:AS Tryz.prog 62=true:=zK
theorem nu:AS Tryz.prog 63=true:=zK
theorem pX:AS Tryz.prog 64=true:=zK
theorem uj:AS Tryz.prog 65=true:=zK
theorem uG:AS Tryz.prog 66=true:=zK
theorem dG:AS Tryz.prog 67=true:=zK
theorem ck:AS Tryz.prog 68=true:=zK
theorem jw:AS Tryz.prog 69=true:=zK
theorem QV:AS Tryz.prog 70=true:=zK
theorem uP:AS Tryz.prog 71=true:=zK
theorem ja:AS Tryz.prog 72=true:=zK
theorem jn:AS Tryz.prog 73=true:=zK
theorem uh:AS Tryz.prog 74=true:=zK
theorem nF:AS Tryz.prog 75=true:=zK
theorem pK:AS Tryz.prog 76=true:=zK
theorem tv:AS Tryz.prog 77=true:=zK
theorem jk:AS Tryz.prog 78=true:=zK
theorem uL:AS Tryz.prog 79=true:=zK
theorem ta:AS Tryz.prog 80=true:=zK
theorem vO:AS Tryz.prog 81=true:=zK
theorem vH:AS Tryz.prog 82=true:=zK
theorem uz:AS Tryz.prog 83=true:=zK
theorem nt:AS Tryz.prog 84=true:=zK
theorem pn:AS Tryz.prog 85=true:=zK
theorem uO:AS Tryz.prog 86=true:=zK
theorem vK:AS Tryz.prog 87=true:=zK
theorem tp:AS Tryz.prog 88=true:=zK
theorem oZ:AS Tryz.prog 89=true:=zK
theorem uT:AS Tryz.prog 90=true:=zK
theorem tE:AS Tryz.prog 91=true:=zK
theorem uX:AS Tryz.prog 92=true:=zK
theorem dN:AS Tryz.prog 93=true:=zK
theorem uc:AS Tryz.prog 94=true:=zK
theorem ur:AS Tryz.prog 95=true:=zK
theorem uS:AS Tryz.prog 96=true:=zK
theorem jW:AS Tryz.prog 97=true:=zK
theorem oB:AS Tryz.prog 98=true:=zK
theorem wQ:Tryz.prog.cellsOf 5=1:=zK
theorem gG:iu Tryz.prog 31=some [(0,.int .u32),(1,.string)]:=zK
theorem pA:iu Tryz.prog 54=some [(0,.int .u32),(1,.int .u32),(2,.int .i64)]:=zK
theorem vf:iu Tryz.prog 79=some [(0,.int .u64),(1,.int .u32),(2,.int .u32),(3,.string)]:=zK
theorem nq:fo Tryz.prog 106 0=some 0:=zK
theorem YJ:fo Tryz.prog 106 1=some 1:=zK
theorem RC:fo Tryz.prog 106 2=some 2:=zK
theorem oS:fo Tryz.prog 110 0=some 0:=zK
theorem Sh:fo Tryz.prog 110 1=some 1:=zK
theorem Yc:fo Tryz.prog 110 2=some 2:=zK
theorem Zf:fo Tryz.prog 110 3=some 3:=zK
theorem Qn:fo Tryz.prog 110 4=some 4:=zK
theorem YF:fo Tryz.prog 115 0=some 0:=zK
theorem VU:fo Tryz.prog 115 1=some 1:=zK
theorem Mt:fo Tryz.prog 115 2=some 2:=zK
theorem VZ:fo Tryz.prog 115 3=some 3:=zK
theorem Ko:fo Tryz.prog 115 4=some 4:=zK
theorem Vk:fo Tryz.prog 115 5=some 5:=zK
theorem ZO:fo Tryz.prog 125 0=some 0:=zK
theorem gp:fo Tryz.prog 125 1=some 1:=zK
theorem ZA:fo Tryz.prog 125 2=some 2:=zK
theorem fp:fo Tryz.prog 125 3=some 3:=zK
theorem nM:fo Tryz.prog 128 1=some 1:=zK
theorem fC:fo Tryz.prog 130 0=some 0:=zK
theorem TB:fo Tryz.prog 130 1=some 4:=zK
theorem ZF:fo Tryz.prog 130 2=some 5:=zK
theorem fD:fo Tryz.prog 130 3=some 6:=zK
theorem pb:fo Tryz.prog 130 4=some 7:=zK
theorem Qu:fo Tryz.prog 132 0=some 0:=zK
theorem Qw:fo Tryz.prog 132 1=some 1:=zK
theorem Vv:fo Tryz.prog 132 2=some 2:=zK
theorem Vf:fo Tryz.prog 132 4=some 6:=zK
theorem Zu:fo Tryz.prog 132 5=some 7:=zK
theorem Gp:fo Tryz.prog 138 0=some 0:=zK
theorem RF:fo Tryz.prog 138 1=some 1:=zK
theorem WD:fo Tryz.prog 143 0=some 0:=zK
theorem PJ:fo Tryz.prog 143 1=some 1:=zK
theorem Vm:fo Tryz.prog 143 2=some 2:=zK
theorem Vl:fo Tryz.prog 143 3=some 3:=zK
theorem Ph:fo Tryz.prog 148 0=some 0:=zK
theorem Gh:fo Tryz.prog 148 1=some 1:=zK
theorem Fx:fo Tryz.prog 148 2=some 4:=zK
theorem Dn:fo Tryz.prog 148 3=some 5:=zK
theorem FF:fo Tryz.prog 148 4=some 6:=zK
theorem VK:fo Tryz.prog 172 0=some 0:=zK
theorem JD:fo Tryz.prog 172 1=some 1:=zK
theorem Sn:fo Tryz.prog 194 0=some 0:=zK
theorem YL:fo Tryz.prog 194 1=some 1:=zK
theorem aF:fo Tryz.prog 228 0=some 0:=zK
theorem Sk:fo Tryz.prog 243 0=some 0:=zK
theorem gB:fo Tryz.prog 255 0=some 0:=zK
theorem fh:fo Tryz.prog 255 1=some 1:=zK
theorem Zn:fo Tryz.prog 255 2=some 2:=zK
theorem Yr:fo Tryz.prog 255 3=some 3:=zK
theorem YN:fo Tryz.prog 274 0=some 0:=zK
theorem Lq:fo Tryz.prog 274 1=some 8:=zK
theorem V6:fo Tryz.prog 274 2=some 9:=zK
theorem KE:fo Tryz.prog 31 0=some 0:=zK
theorem L8:fo Tryz.prog 31 1=some 1:=zK
theorem Hi:fo Tryz.prog 54 0=some 0:=zK
theorem Hl:fo Tryz.prog 54 1=some 1:=zK
theorem Ef:fo Tryz.prog 54 2=some 2:=zK
theorem Oj:fo Tryz.prog 57 0=some 0:=zK
theorem Td:fo Tryz.prog 57 1=some 3:=zK
theorem Jj:fo Tryz.prog 57 2=some 4:=zK
theorem TS:fo Tryz.prog 69 0=some 0:=zK
theorem lF:fo Tryz.prog 69 1=some 1:=zK
theorem qw:fo Tryz.prog 69 2=some 2:=zK
theorem sa:fo Tryz.prog 69 3=some 3:=zK
theorem eL:fo Tryz.prog 69 4=some 4:=zK
theorem Pw:fo Tryz.prog 69 5=some 5:=zK
theorem X0:fo Tryz.prog 72 0=some 0:=zK
theorem Ps:fo Tryz.prog 72 1=some 1:=zK
theorem Ny:fo Tryz.prog 79 0=some 0:=zK
theorem Iq:fo Tryz.prog 79 1=some 1:=zK
theorem Iu:fo Tryz.prog 79 2=some 2:=zK
theorem Rr:fo Tryz.prog 79 3=some 3:=zK
theorem ew:fo Tryz.prog 96 0=some 0:=zK
theorem kU:fo Tryz.prog 96 1=some 1:=zK
theorem sF:fo Tryz.prog 96 2=some 2:=zK
theorem qS:fo Tryz.prog 96 3=some 3:=zK
theorem YD:fo Tryz.prog 96 4=some 4:=zK
theorem Xt:fo Tryz.prog 96 5=some 5:=zK
theorem r9:fo Tryz.prog 99 0=some 0:=zK
theorem R2:fo Tryz.prog 99 1=some 1:=zK
theorem Vp:fo Tryz.prog 99 2=some 2:=zK
theorem dU:fo Tryz.prog 99 3=some 3:=zK
theorem Wq:liesAt Tryz.prog Tryz.prog.depth 172 (2 / Tryz.prog.cellsOf 172) 0 172 1=true:=zK
theorem eT:liesAt Tryz.prog Tryz.prog.depth 228 (2 / Tryz.prog.cellsOf 228) 0 172 1=true:=zK
theorem oT:liesAt Tryz.prog Tryz.prog.depth 243 (2 / Tryz.prog.cellsOf 243) 0 172 1=true:=zK
theorem ny:NJ Tryz.prog 106=true:=zK
theorem u9:NJ Tryz.prog 110=true:=zK
theorem om:NJ Tryz.prog 115=true:=zK
theorem sy:NJ Tryz.prog 128=true:=zK
theorem uQ:NJ Tryz.prog 130=true:=zK
theorem tM:NJ Tryz.prog 132=true:=zK
theorem ZP:NJ Tryz.prog 138=true:=zK
theorem LZ:NJ Tryz.prog 143=true:=zK
theorem QN:NJ Tryz.prog 148=true:=zK
theorem vD:NJ Tryz.prog 194=true:=zK
theorem dW:NJ Tryz.prog 251=true:=zK
theorem uF:NJ Tryz.prog 252=true:=zK
theorem tz:NJ Tryz.prog 255=true:=zK
theorem tJ:NJ Tryz.prog 274=true:=zK
theorem uk:NJ Tryz.prog 288=true:=zK
theorem uA:NJ Tryz.prog 299=true:=zK
theorem Kl:NJ Tryz.prog 31=true:=zK
theorem Ql:NJ Tryz.prog 54=true:=zK
theorem cW:NJ Tryz.prog 57=true:=zK
theorem vj:NJ Tryz.prog 69=true:=zK
theorem gI:NJ Tryz.prog 72=true:=zK
theorem TG:NJ Tryz.prog 79=true:=zK
theorem wE:NJ Tryz.prog 96=true:=zK
theorem vc:NJ Tryz.prog 99=true:=zK
theorem nr:NI Tryz.prog 106=some [(0,1),(1,1),(2,1)]:=zK
theorem ud:NI Tryz.prog 110=some [(0,1),(1,1),(2,1),(3,1),(4,1)]:=zK
theorem ol:NI Tryz.prog 115=some [(0,1),(1,1),(2,1),(3,1),(4,1),(5,1)]:=zK
theorem ua:NI Tryz.prog 128=some [(0,1),(1,1),(2,1)]:=zK
theorem vN:NI Tryz.prog 130=some [(0,4),(4,1),(5,1),(6,1),(7,3)]:=zK
theorem tf:NI Tryz.prog 132=some [(0,1),(1,1),(2,1),(3,3),(6,1),(7,1)]:=zK
theorem YO:NI Tryz.prog 138=some [(0,1),(1,1)]:=zK
theorem LV:NI Tryz.prog 143=some [(0,1),(1,1),(2,1),(3,1)]:=zK
theorem QH:NI Tryz.prog 148=some [(0,1),(1,3),(4,1),(5,1),(6,2)]:=zK
theorem tZ:NI Tryz.prog 194=some [(0,1),(1,1)]:=zK
theorem dY:NI Tryz.prog 251=some [(0,1),(1,1)]:=zK
theorem tD:NI Tryz.prog 252=some [(0,2),(2,2),(4,2),(6,2)]:=zK
theorem tY:NI Tryz.prog 255=some [(0,1),(1,1),(2,1),(3,1)]:=zK
theorem uR:NI Tryz.prog 274=some [(0,8),(8,1),(9,1)]:=zK
theorem ut:NI Tryz.prog 288=some [(0,1),(1,1),(2,1),(3,1)]:=zK
theorem um:NI Tryz.prog 299=some [(0,2),(2,2)]:=zK
theorem Km:NI Tryz.prog 31=some [(0,1),(1,1)]:=zK
theorem Qz:NI Tryz.prog 54=some [(0,1),(1,1),(2,1)]:=zK
theorem cM:NI Tryz.prog 57=some [(0,3),(3,1),(4,1)]:=zK
theorem wF:NI Tryz.prog 69=some [(0,1),(1,1),(2,1),(3,1),(4,1),(5,1)]:=zK
theorem iG:NI Tryz.prog 72=some [(0,1),(1,2)]:=zK
theorem Sy:NI Tryz.prog 79=some [(0,1),(1,1),(2,1),(3,1)]:=zK
theorem wM:NI Tryz.prog 96=some [(0,1),(1,1),(2,1),(3,1),(4,1),(5,1)]:=zK
theorem wO:NI Tryz.prog 99=some [(0,1),(1,1),(2,1),(3,1)]:=zK
theorem eJ:Ka Tryz.prog 104=true:=zK
theorem Zr:Ka Tryz.prog 113=true:=zK
theorem pV:Ka Tryz.prog 116=true:=zK
theorem i0:Ka Tryz.prog 126=true:=zK
theorem QL:Ka Tryz.prog 141=true:=zK
theorem Hq:Ka Tryz.prog 146=true:=zK
theorem jK:Ka Tryz.prog 170=true:=zK
theorem M3:Ka Tryz.prog 192=true:=zK
theorem ef:Ka Tryz.prog 200=true:=zK
theorem PH:Ka Tryz.prog 22=true:=zK
theorem av:Ka Tryz.prog 24=true:=zK
theorem pC:Ka Tryz.prog 25=true:=zK
theorem j7:Ka Tryz.prog 26=true:=zK
theorem Pk:Ka Tryz.prog 268=true:=zK
theorem A8:Ka Tryz.prog 29=true:=zK
theorem D6:Ka Tryz.prog 3=true:=zK
theorem PO:Ka Tryz.prog 32=true:=zK
theorem wB:Ka Tryz.prog 34=true:=zK
theorem FO:Ka Tryz.prog 35=true:=zK
theorem In:Ka Tryz.prog 36=true:=zK
theorem Wi:Ka Tryz.prog 4=true:=zK
theorem wG:Ka Tryz.prog 46=true:=zK
theorem NM:Ka Tryz.prog 48=true:=zK
theorem wP:Ka Tryz.prog 5=true:=zK
theorem US:Ka Tryz.prog 55=true:=zK
theorem aw:Ka Tryz.prog 65=true:=zK
theorem gK:Ka Tryz.prog 66=true:=zK
theorem Sl:Ka Tryz.prog 67=true:=zK
theorem Fm:Ka Tryz.prog 9=true:=zK
theorem cJ:Ka Tryz.prog 94=true:=zK
theorem WA:Ka Tryz.prog 97=true:=zK
theorem ov:C8 Tryz.prog 113=some 1:=zK
theorem un:C8 Tryz.prog 116=some 1:=zK
theorem Fl:C8 Tryz.prog 138=some 2:=zK
theorem jt:C8 Tryz.prog 141=some 1:=zK
theorem Eo:C8 Tryz.prog 143=some 4:=zK
theorem dC:C8 Tryz.prog 146=some 1:=zK
theorem HL:C8 Tryz.prog 148=some 8:=zK
theorem vJ:C8 Tryz.prog 170=some 1:=zK
theorem iY:C8 Tryz.prog 172=some 2:=zK
theorem ux:C8 Tryz.prog 200=some 1:=zK
theorem oF:C8 Tryz.prog 22=some 1:=zK
theorem cu:C8 Tryz.prog 251=some 2:=zK
theorem uq:C8 Tryz.prog 255=some 4:=zK
theorem oY:C8 Tryz.prog 265=some 16:=zK
theorem uU:C8 Tryz.prog 274=some 10:=zK
theorem Wr:C8 Tryz.prog 288=some 4:=zK
theorem Bj:C8 Tryz.prog 29=some 1:=zK
theorem tP:C8 Tryz.prog 296=some 64:=zK
theorem td:C8 Tryz.prog 298=some 2:=zK
theorem NK:C8 Tryz.prog 3=some 1:=zK
theorem DD:C8 Tryz.prog 31=some 2:=zK
theorem XR:C8 Tryz.prog 32=some 1:=zK
theorem LS:C8 Tryz.prog 35=some 1:=zK
theorem bO:C8 Tryz.prog 36=some 1:=zK
theorem P7:C8 Tryz.prog 4=some 1:=zK
theorem oU:C8 Tryz.prog 48=some 1:=zK
theorem KZ:C8 Tryz.prog 5=some 1:=zK
theorem OZ:C8 Tryz.prog 54=some 3:=zK
theorem fU:C8 Tryz.prog 55=some 1:=zK
theorem H7:C8 Tryz.prog 57=some 5:=zK
theorem vd:C8 Tryz.prog 67=some 1:=zK
theorem JE:C8 Tryz.prog 72=some 3:=zK
theorem B4:C8 Tryz.prog 79=some 4:=zK
theorem Hp:C8 Tryz.prog 9=some 1:=zK
theorem vg:C8 Tryz.prog 97=some 1:=zK
theorem CO:Tryz.prog.underlying 113=some (.slice 29):=zK
theorem oD:Tryz.prog.underlying 116=some (.map 9 31):=zK
theorem ij:Tryz.prog.underlying 126=some (.map 29 9):=zK
theorem CP:Tryz.prog.underlying 141=some (.slice 5):=zK
theorem E1:Tryz.prog.underlying 146=some (.slice 31):=zK
theorem OR:Tryz.prog.underlying 159=some (.array 4 35):=zK
theorem I8:Tryz.prog.underlying 166=some (.int .u64):=zK
theorem YK:Tryz.prog.underlying 170=some (.pointer 172):=zK
theorem wD:Tryz.prog.underlying 2=some (.int .i64):=zK
theorem Wz:Tryz.prog.underlying 200=some (.slice 35):=zK
theorem nh:Tryz.prog.underlying 218=some (.pointer 5):=zK
theorem Fk:Tryz.prog.underlying 22=some (.slice 9):=zK
theorem Yn:Tryz.prog.underlying 24=some (.pointer 96):=zK
theorem bF:Tryz.prog.underlying 25=some (.pointer 130):=zK
theorem Sd:Tryz.prog.underlying 251=some (.array 2 29):=zK
theorem eY:Tryz.prog.underlying 252=some (.array 4 251):=zK
theorem nZ:Tryz.prog.underlying 257=some (.unsafePointer):=zK
theorem sw:Tryz.prog.underlying 26=some (.pointer 69):=zK
theorem QW:Tryz.prog.underlying 265=some (.array 16 29):=zK
theorem ug:Tryz.prog.underlying 268=some (.pointer 274):=zK
theorem nm:Tryz.prog.underlying 271=some (.array 8 29):=zK
theorem Pe:Tryz.prog.underlying 272=some (.array 8 29):=zK
theorem Ww:Tryz.prog.underlying 287=some (.array 4 3):=zK
theorem QO:Tryz.prog.underlying 288=some (.array 4 29):=zK
theorem Bv:Tryz.prog.underlying 29=some (.int .u32):=zK
theorem Rz:Tryz.prog.underlying 296=some (.array 64 29):=zK
theorem em:Tryz.prog.underlying 298=some (.array 2 3):=zK
theorem uw:Tryz.prog.underlying 299=some (.array 2 298):=zK
theorem FY:Tryz.prog.underlying 3=some (.int .i64):=zK
theorem o8:Tryz.prog.underlying 308=some (.array 5 3):=zK
theorem Bt:Tryz.prog.underlying 35=some (.slice 79):=zK
theorem FD:Tryz.prog.underlying 36=some (.slice 72):=zK
theorem CR:Tryz.prog.underlying 48=some (.int .u64):=zK
theorem Cn:Tryz.prog.underlying 5=some (.int .u8):=zK
theorem Oc:Tryz.prog.underlying 55=some (.slice 57):=zK
theorem LR:Tryz.prog.underlying 66=some (.slice 138):=zK
theorem Qh:Tryz.prog.underlying 67=some (.slice 4):=zK
theorem Bo:Tryz.prog.underlying 9=some (.string):=zK
theorem au:Tryz.prog.underlying 94=some (.map 29 4):=zK
theorem oR:EY Tryz.prog 106=some (.agg #[.nilFunc,zN,.int .i64 0]):=zK
theorem tR:EY Tryz.prog 110=some (.agg #[.pointer none,zN,zN,.int .i64 0,.int .i64 0]):=zK
theorem uI:EY Tryz.prog 113=some zN:=zK
theorem nP:EY Tryz.prog 115=some (.agg #[.pointer none,zN,zN,zN,.int .i64 0,zN]):=zK
theorem uW:EY Tryz.prog 116=some (.map none):=zK
theorem uD:EY Tryz.prog 128=some (.agg #[.int .u64 0,.string ⟨⟨[]⟩⟩,.int .u32 0]):=zK
theorem tB:EY Tryz.prog 130=some (.agg #[.bool false,.bool false,.int .i64 0,.int .i64 0,zN,.map none,.map none,.int .u64 0,.string ⟨⟨[]⟩⟩,.int .u32 0]):=zK
theorem vA:EY Tryz.prog 132=some (.agg #[zN,zN,zN,.int .u64 0,.string ⟨⟨[]⟩⟩,.int .u32 0,.int .i64 0,.bool false]):=zK
theorem Jd:EY Tryz.prog 138=some (.agg #[.int .u32 0,.string ⟨⟨[]⟩⟩]):=zK
theorem FM:EY Tryz.prog 143=some (.agg #[.int .u32 0,.int .u32 0,.int .u32 0,.int .u64 0]):=zK
theorem Gy:EY Tryz.prog 148=some (.agg #[.int .i64 0,.int .u32 0,.int .u32 0,.int .i64 0,zN,zN,.int .u32 0,.string ⟨⟨[]⟩⟩]):=zK
theorem tn:EY Tryz.prog 159=some (.agg #[zN,zN,zN,zN]):=zK
theorem de:EY Tryz.prog 172=some (.agg #[.pointer none,zN]):=zK
theorem tO:EY Tryz.prog 194=some (.agg #[.string ⟨⟨[]⟩⟩,.bool false]):=zK
theorem nI:EY Tryz.prog 228=some (.agg #[.pointer none,zN]):=zK
theorem vV:EY Tryz.prog 243=some (.agg #[.pointer none,zN]):=zK
theorem Sv:EY Tryz.prog 251=some (.agg #[.int .u32 0,.int .u32 0]):=zK
theorem uY:EY Tryz.prog 252=some (.agg #[.int .u32 0,.int .u32 0,.int .u32 0,.int .u32 0,.int .u32 0,.int .u32 0,.int .u32 0,.int .u32 0]):=zK
theorem oX:EY Tryz.prog 255=some (.agg #[.int .u32 0,.int .u32 0,.int .u32 0,.int .u32 0]):=zK
theorem eX:EY Tryz.prog 265=some (.agg #[.int .u32 0,.int .u32 0,.int .u32 0,.int .u32 0,.int .u32 0,.int .u32 0,.int .u32 0,.int .u32 0,.int .u32 0,.int .u32 0,.int .u32 0,.int .u32 0,.int .u32 0,.int .u32 0,.int .u32 0,.int .u32 0]):=zK
theorem ub:EY Tryz.prog 271=some (.agg #[.int .u32 0,.int .u32 0,.int .u32 0,.int .u32 0,.int .u32 0,.int .u32 0,.int .u32 0,.int .u32 0]):=zK
theorem oG:EY Tryz.prog 274=some (.agg #[.int .u32 0,.int .u32 0,.int .u32 0,.int .u32 0,.int .u32 0,.int .u32 0,.int .u32 0,.int .u32 0,.string ⟨⟨[]⟩⟩,.int .i64 0]):=zK
theorem uf:EY Tryz.prog 287=some (.agg #[.int .i64 0,.int .i64 0,.int .i64 0,.int .i64 0]):=zK
theorem Sg:EY Tryz.prog 288=some (.agg #[.int .u32 0,.int .u32 0,.int .u32 0,.int .u32 0]):=zK
theorem LT:EY Tryz.prog 29=some (.int .u32 0):=zK
theorem pj:EY Tryz.prog 296=some (.agg #[.int .u32 0,.int .u32 0,.int .u32 0,.int .u32 0,.int .u32 0,.int .u32 0,.int .u32 0,.int .u32 0,.int .u32 0,.int .u32 0,.int .u32 0,.int .u32 0,.int .u32 0,.int .u32 0,.int .u32 0,.int .u32 0,.int .u32 0,.int .u32 0,.int .u32 0,.int .u32 0,.int .u32 0,.int .u32 0,.int .u32 0,.int .u32 0,.int .u32 0,.int .u32 0,.int .u32 0,.int .u32 0,.int .u32 0,.int .u32 0,.int .u32 0,.int .u32 0,.int .u32 0,.int .u32 0,.int .u32 0,.int .u32 0,.int .u32 0,.int .u32 0,.int .u32 0,.int .u32 0,.int .u32 0,.int .u32 0,.int .u32 0,.int .u32 0,.int .u32 0,.int .u32 0,.int .u32 0,.int .u32 0,.int .u32 0,.int .u32 0,.int .u32 0,.int .u32 0,.int .u32 0,.int .u32 0,.int .u32 0,.int .u32 0,.int .u32 0,.int .u32 0,.int .u32 0,.int .u32 0,.int .u32 0,.int .u32 0,.int .u32 0,.int .u32 0]):=zK
theorem j0:EY Tryz.prog 298=some (.agg #[.int .i64 0,.int .i64 0]):=zK
theorem tS:EY Tryz.prog 299=some (.agg #[.int .i64 0,.int .i64 0,.int .i64 0,.int .i64 0]):=zK
theorem rM:EY Tryz.prog 3=some (.int .i64 0):=zK
theorem to:EY Tryz.prog 308=some (.agg #[.int .i64 0,.int .i64 0,.int .i64 0,.int .i64 0,.int .i64 0]):=zK
theorem DX:EY Tryz.prog 31=some (.agg #[.int .u32 0,.string ⟨⟨[]⟩⟩]):=zK
theorem pB:EY Tryz.prog 35=some zN:=zK
theorem iQ:EY Tryz.prog 4=some (.bool false):=zK
theorem LW:EY Tryz.prog 5=some (.int .u8 0):=zK
theorem KN:EY Tryz.prog 54=some (.agg #[.int .u32 0,.int .u32 0,.int .i64 0]):=zK
theorem JA:EY Tryz.prog 57=some (.agg #[.int .u32 0,.int .u32 0,.int .i64 0,zN,zN]):=zK
theorem wC:EY Tryz.prog 69=some (.agg #[.pointer none,zN,.int .u32 0,.int .u32 0,.int .u64 0,zN]):=zK
theorem NO:EY Tryz.prog 72=some (.agg #[.string ⟨⟨[]⟩⟩,.int .u32 0,.string ⟨⟨[]⟩⟩]):=zK
theorem EN:EY Tryz.prog 79=some (.agg #[.int .u64 0,.int .u32 0,.int .u32 0,.string ⟨⟨[]⟩⟩]):=zK
theorem T7:EY Tryz.prog 9=some (.string ⟨⟨[]⟩⟩):=zK
theorem wJ:EY Tryz.prog 96=some (.agg #[.pointer none,zN,.int .u32 0,.int .u32 0,.int .u64 0,.map none]):=zK
theorem wK:EY Tryz.prog 97=some (.pointer none):=zK
theorem vi:EY Tryz.prog 99=some (.agg #[.pointer none,zN,zN,.int .i64 0]):=zK
end

section
variable {K:Nat→Prop}{w0:World}{H:List AW}
def mu(p:UInt32×Bool):List Value:=[AA p.1,vB p.2]
theorem T2(v:Value):zC K w0 146 [v] [] H (fun r M=>∃b,r=.func (.func 187) #[] #[vP b 0]∧M=[AP b (.cells v.cells 66)]):=by
 refine Ua.enter Tryz.func146 rfl rfl ?_
 refine Z ?_
 refine Bf E E zU fun b0=>?_
 refine O E (V (Z ?_))
 refine Hj (fv:=#[]) (cv:=#[_]) E E E ?_
 refine O E (V (AL ?_))
 exact AX (Df E E) (AY (M:=[_]) ⟨b0,E,E⟩ fun _ h=>h)
theorem T5(v:Value)(ks:List BW)(b:Nat)(hk:CD K w0 BA 2 v ks)(hv:v.cells=#[v])(hn:ks.length≤1099511627776):li Tryz.prog K w0 187 [vP b 0] [AP b (.cells v.cells 66)] mu (LY ks):=by
 intro lp J9 X T hy G h0
 rw[hv]
 refine Ua.enter Tryz.func187 rfl rfl ?_
 refine Z (O E (V (Z (AF 0 gK E (B3 hk E LR E (J E (V (AN ?_))))))))
 refine SX.mono (A6 (α:=Nat×List AW) (fun x=>x.1≤ks.length∧J9 ((LY ks).take x.1) x.2) (fun x=>[(0,vY lp),(3,AA (Kf ks x.1)),(6,v),(7,vI ks.length),(8,vI x.1)]) (fun x=>AP b (.cells #[v] 66)::(x.2++T)) (fun x=>ks.length-x.1) (fun x D hp=>?_) (0,G) ⟨Nat.zero_le _,h0⟩) tL
 obtain⟨i,G⟩:=x
 obtain⟨hi,hJ⟩:=hp
 simp only at hi hJ
 refine Z (Y E Aw (V (AE ?_)))
 refine As E (fun hc=>?_) (fun hc=>?_)
 have hlt:i<ks.length:=by simpa using hc
 obtain⟨key,hkey⟩:=PI hlt
 have hg:=U1 ks i hlt
 rw[Kn hkey]at hg
 refine AI (AG (AE (AN (Z ?_))))
 refine RX i key hk E LR Fl E E E hkey fun be off hcell=>?_
 refine Ac (BA key) E KB E E (Wd (hcell _)) ?_
 refine Ag E Jd zU fun b0=>?_
 refine Ak 0 E E E E Fl E E E zT (V (AE (Z (J E (AD E Gp (AF 0 A8 E (AD E Gp (AF 0 A8 E (J E ?_)))))))))
 refine Y E (mm (b:=Kf ks i)) ?_
 refine J E ?_
 refine C5 (c:=decide ((key.secret.length:Int)=32)) 19 5 24 E (fun hb k=>?_) (fun hb k=>?_) ?_
 refine AD E RF (AF 0 Fm E (BT E Bo E (Y E CE (Ae E E E ?_))))
 exact k.mono tL
 refine AB E (AB E (AB E (AB E (Ae E E E ?_))))
 exact k.mono tL
 refine Jb (M2:=[_,_]) (G:=G) (T:=T) (vs:=[_,_]) (ok:=fun G1=>J9 ((LY ks).take (i+1)) G1) (no:=X) E E ⟨E,E,zT⟩ E ?_ (fun bb G1 hG1=>⟨zT,?_⟩)
 intro M
 have:=hy _ _ _ (FG hg).1 G hJ M
 rw[←(FG hg).2]at this
 have e:OT ks i=(decide (Kf ks i<key.gen)&&decide ((key.secret.length:Int)=32)):=by unfold OT;rw[Kn hkey]
 rw[e]at this
 exact this
 refine CH E E (V ?_)
 refine As E (fun hc=>?_) (fun hc=>?_)
 obtain rfl:bb=false:=by simpa using hc
 refine AL (AZ (Ba (AZ (Dq (Ba ?_)))))
 exact AX (DY E) (AY (M:=G1) (.inr hG1) fun _ h=>h.skip [_,_])
 obtain rfl:bb=true:=by simpa using hc
 refine AI (AG (AK (AD E Gp (AF 0 A8 E (O E (AU (Ao (AG (AK (Y E (BV zO zO) (J E (AU ?_))))))))))))
 refine Al (i+1,G1) ⟨hlt,hG1⟩ (by simp only;omega) ⟨E,by rw[Kf,Kn hkey];rfl,E,E,E,zT⟩ (fun w h=>h.skip [_])
 refine Ax (A3 (BO (A0 ?_)))
 have hle:i=ks.length:=by simp at hc;omega
 exact Cy (DY E) (AY (M:=G) (.inl (by rw[List.take_of_length_le (by rw[QG];omega)]at hJ;exact hJ)) fun _ h=>h.skip [_])
theorem QE(v:Value)(ks:List BW)(hk:CD K w0 BA 2 v ks)(hv:v.cells=#[v])(hn:ks.length≤1099511627776):zC K w0 104 [v] [] H (fun r M=>r=vB (Db ks)∧M=[]):=by
 refine Ua.enter Tryz.func104 rfl rfl ?_
 refine Z (O E (V (LB (Z (J E (B3 hk E LR E (Y E IR ?_)))))))
 refine Ag E iQ zU fun b0=>?_
 refine Ak 0 E E E E P7 E E E zT (V (AE (K4 (AG (AE (Z (J E (Bn 0 qe (T2 v) E ?_))))))))
 rintro _ _ ⟨b1,rfl,rfl⟩
 refine V (AN ?_)
 refine Qk (enc:=mu) (LY ks) (fun pre G=>pre.all (·.2)=true∧G=AP b0 (.cells #[vB (decide ((ks.length:Int)≤16))] 4)::H) (fun c G=>c=.exit 0∧(LY ks).all (·.2)=false∧G=AP b0 (.cells #[vB false] 4)::H) E rK E zV (T5 v ks b1 hk hv hn) E ⟨E,E⟩ (fun pre x suf G hxs hJ r lp Rest=>?_) (fun G D hJ=>?_) (fun c G D hX=>?_)
 obtain⟨hpre,rfl⟩:=hJ
 refine AK (O E (AU (Lv (AN (Z (J E (CH E E (V ?_))))))))
 refine As E (fun hc=>?_) (fun hc=>?_)
 refine Z (Ak 0 E E E E P7 E E E zT (V (Ax (M7 ?_))))
 exact N6 ⟨E,by rw[hxs];simp at hc;simp[hc],E⟩ (fun _ h=>h)
 refine AI (Ao ?_)
 exact I7 ⟨by simp at hc;simp[hpre,hc],E⟩ (fun _ h=>h)
 obtain⟨hall,rfl⟩:=hJ
 refine Ao (AG (Z (AF 0 Wi E (O E (V (AL (Fa ?_)))))))
 exact AX (Df E E) (AY (M:=[]) ⟨by simp only[Db,hall];simp;try omega,E⟩ fun _ h=>h.skip [_])
 obtain⟨rfl,hall,rfl⟩:=hX
 refine Ax (A0 (AG (Z (AF 0 Wi E (O E (V (AL (Fa ?_))))))))
 exact AX (Df E E) (AY (M:=[]) ⟨by simp only[Db,hall];simp;try omega,E⟩ fun _ h=>h.skip [_])
end

section
variable {K:Nat→Prop}{w0:World}{H:List AW}
theorem Xi(k:BW)(g:UInt32)(b:Nat):zC K w0 148 [.agg (BA k).toArray,vP b 0] [AP b (.cells #[AA g] 29)] H (fun r M=>r=vB (decide (g≤k.gen))∧M=[AP b (.cells #[AA g] 29)]):=by
 refine Ua.enter Tryz.func148 rfl rfl ?_
 refine Z ?_
 refine Bf E E zU fun b0=>?_
 refine O E (V (Z (AD E Gp (AF 0 A8 E (AF 1 A8 E (Y E HI (O E (V (AL ?_)))))))))
 exact AX (Df E E) (AY (M:=[_]) ⟨E,E⟩ fun _ h=>h.skip [_])
theorem WP(v:Value)(ks:List BW)(g:FuncId)(cap:List Value)(B:List AW)(φ:BW→Bool)(hk:CD K w0 BA 2 v ks)(hn:ks.length≤1099511627776)(hcal:AS Tryz.prog g=true)
(hf:∀(H:List AW) (k:BW),zC K w0 g (.agg (BA k).toArray::cap) B H (fun r M=>r=vB (φ k)∧M=B)):
  zC K w0 147 [v,.func (.func g) #[] cap.toArray] B H (fun r M=>r=vI (if ks.findIdx φ<ks.length then(ks.findIdx φ:Int)else -1)∧M=B):=by
 refine Ua.enter Tryz.func147 rfl rfl ?_
 refine Z (O E (V (AE (Z (J E (B3 hk E LR E (J E (V (AN ?_)))))))))
 refine SX.mono (A6 (α:=Nat) (fun i=>i≤ks.length∧∀j y,j<i→ks[j]? = some y→φ y=false) (fun i=>[(0,v),(1,.func (.func g) #[] cap.toArray),(7,vI ks.length),(8,vI i)]) (fun i=>B++H) (fun i=>ks.length-i) (fun i D hp=>?_) 0 ⟨Nat.zero_le _,fun j y hj=>absurd hj (Nat.not_lt_zero _)⟩) tL
 obtain⟨hi,hb⟩:=hp
 refine Z (Y E Aw (V (AE ?_)))
 refine As E (fun hc=>?_) (fun hc=>?_)
 have hlt:i<ks.length:=by simpa using hc
 obtain⟨key,hkey⟩:=PI hlt
 refine AI (AG (AE (AN (Z (J E (O E (V (Z (J E (J E (J E ?_)))))))))))
 refine RX i key hk E LR Fl E E E hkey fun be off hcell=>?_
 refine Ac (BA key) E KB E E (Wd (hcell _)) ?_
 refine Bg (vs:=[_]) (Hin:=B) E E ⟨E,zT⟩ hcal E E (hf _ key) ?_
 rintro _ M ⟨rfl,hM⟩
 rw[hM]
 refine⟨trivial,?_⟩
 refine V ?_
 refine As E (fun hc2=>?_) (fun hc2=>?_)
 refine Z (J E (O E (V (AL (Ba (AZ (Dq (Ba (AZ ?_)))))))))
 exact AX (Df E E) (AY (M:=B) ⟨by rw[XI hkey hc2 hb];simp[hlt],E⟩ fun _ h=>h)
 refine AI (Ao (AG (AK (Y E (BV zO zO) (J E (AU ?_))))))
 refine Al (i+1) ⟨hlt,fun j y hj hy=>?_⟩ zO ⟨E,E,E,E,zT⟩
 rcases Nat.lt_or_ge j i with h | h
 exact hb j y h hy
 obtain rfl:j=i:=zO
 rw[hkey]at hy
 cases hy
 exact hc2
 refine Ax (A3 (BO (A0 (AG (Z (O E (V (AL ?_))))))))
 have hle:i=ks.length:=by simp at hc;omega
 exact AX (Df rfl rfl) (AY (M:=B) ⟨by rw[gR (fun j y hy=>hb j y (by obtain⟨h,_⟩:=List.getElem?_eq_some_iff.1 hy;omega) hy)];simp,rfl⟩ fun _ h=>h)
theorem aa(v:Value)(ks:List BW)(g:UInt32)(hk:CD K w0 BA 2 v ks)(hn:ks.length≤1099511627776):zC K w0 105 [v,AA g] [] H (fun r M=>r=.tuple #[vI (Ly g ks),vB (RN g ks)]∧M=[]):=by
 refine Ua.enter Tryz.func105 rfl rfl ?_
 refine Z ?_
 refine Bf E E zU fun b0=>?_
 refine O E (O E (V (Z (J E ?_))))
 refine Hj (fv:=#[]) (cv:=#[_]) E E E ?_
 refine AQ 1 qq (WP v ks 148 [vP b0 0] [_] (fun k=>decide (g≤k.gen)) hk hn sH (fun H k=>Xi k g b0)) E ?_
 change SL _ _ _ _ _ _ _ _ _ _ ((9,vI (if Ly g ks<ks.length then(Ly g ks:Int)else -1))::_) _
 generalize hpl:Ly g ks=pl
 refine O E (V (AE (Z (J E (Y E Aw (V ?_))))))
 refine As E (fun hc=>?_) (fun hc=>?_)
 refine Z ?_
 have hnl:¬pl<ks.length:=by intro h;simp[h]at hc;omega
 have hpe:pl=ks.length:=by have:=i5 g ks;omega
 refine J E (B3 hk E LR E (O E (O E (V (AL (AZ ?_))))))
 exact AX (GV E E E) (AY (M:=[]) ⟨by simp[RN,hpl,hpe],E⟩ fun _ h=>h.skip [_])
 have hlt:pl<ks.length:=by
  rcases Nat.lt_or_ge pl ks.length with h | h
  exact h
  simp[Nat.not_lt.2 h]at hc
 rw[if_pos hlt]
 obtain⟨key,hkey⟩:=PI hlt
 refine AI (AG (AE (Ai CY [0] (Pl.of [(true,0),(true,1),(true,2),(true,3),(true,4),(true,5),(true,6),(true,7),(true,8),(true,9)]) zK (J E (J E (J E ?_))))))
 refine RX pl key hk E LR Fl E E E hkey fun be off hcell=>?_
 refine AD E Gp ?_
 refine Bi E A8 E (fun w hw=>hcell _ w hw 0 _ E) ?_
 refine AF 0 A8 E (Y E O1 (O E (O E (V (AL ?_)))))
 exact AX (GV E E E) (AY (M:=[]) ⟨by simp[RN,hpl,hkey],E⟩ fun _ h=>h.skip [_])
theorem RY(v:Value)(ks:List BW)(g:UInt32)(hk:CD K w0 BA 2 v ks)(hv:v.cells=#[v])(hn:ks.length≤1099511627776):zC K w0 72 [v,AA g] [] H (fun r M=>r=.tuple #[.agg (BA (C4 ks g).1).toArray,vI (C4 ks g).2]∧M=[]):=by
 refine Ua.enter Tryz.func72 rfl rfl ?_
 refine Z ?_
 refine Ag E Jd zU fun b0=>?_
 refine O E (V (AE (Z (J E (AQ 0 eF (QE v ks hk hv hn) E (CH E E (V ?_)))))))
 refine As E (fun hc=>?_) (fun hc=>?_)
 have hf:C4 ks g=(HB,40):=by unfold C4;rw[if_pos (by simpa using hc)]
 rw[hf]
 refine Z (BJ [] E YO ZP Jd zT E (Ak 0 E E E E Fl E E E zT (O E (V (AL (AZ ?_))))))
 exact AX (DV E (BB 0 (BA HB) KB E E E E) E) (AY (M:=[]) ⟨E,E⟩ fun _ h=>h.skip [_])
 have hr:Db ks=true:=by simpa using hc
 refine AI (AG (Z (J E (J E (AQ 0 rW (aa v ks g hk hn) E (J E (Am E E E (Am E E E (O E (O E (V (AE (Z ?_)))))))))))))
 refine J E (CH E E (V ?_))
 refine As E (fun hc=>?_) (fun hc=>?_)
 have hf:C4 ks g=(HB,41):=by
  have:RN g ks=false:=by simpa using hc
  unfold RN at this
  unfold C4
  rw[hr]
  cases h:ks[Ly g ks]? with
  | none=>simp
  | some k=>rw[h]at this;simp at this;simp[this]
 rw[hf]
 refine Z (BJ [] E YO ZP Jd zT E (Ak 0 E E E E Fl E E E zT (O E (V (AL (AZ ?_))))))
 exact AX (DV E (BB 0 (BA HB) KB E E E E) E) (AY (M:=[]) ⟨E,E⟩ fun _ h=>h.skip [_])
 have hth:RN g ks=true:=by simpa using hc
 obtain⟨key,hkey,hg⟩:∃key,ks[Ly g ks]? = some key∧key.gen=g:=by
  unfold RN at hth
  cases h:ks[Ly g ks]? with
  | none=>rw[h]at hth;cases hth
  | some k=>rw[h]at hth;exact⟨k,rfl,by simpa using hth⟩
 have hf:C4 ks g=(key,0):=by
  unfold C4
  rw[hr]
  simp[hkey,hg]
 rw[hf]
 refine AI (AG (Z (J E (J E ?_))))
 refine RX (Ly g ks) key hk E LR Fl E E E hkey fun be off hcell=>?_
 refine Ac (BA key) E KB E E (Wd (hcell _)) (Ak 0 E E E E Fl E E E zT (O E (V (AL ?_))))
 exact AX (DV E (BB 0 (BA key) KB E E E E) E) (AY (M:=[]) ⟨E,E⟩ fun _ h=>h.skip [_])
end

section
variable {K:Nat→Prop}{w0:World}{H:List AW}
theorem W9(b:List UInt8)(hb:b.length≤9223372036854775807):zC K w0 78 [vS b] [] H (fun v M=>v=vS (b.drop (b.length-32))∧M=[]):=by
 refine Ua.enter Tryz.func78 rfl rfl ?_
 refine AE (AK (O E (AU (AG (AE (AK (J E (J E (BT E Bo E (Y E (Do zO zO) (fk E E E (OH (b.length-32) E Bo E E zO zO (O E (AU (AG (AL ?_))))))))))))))))
 exact AX (Df E E) (AY (M:=[]) ⟨E,E⟩ fun _ h=>h.skip [])
def Vw(x:UInt32)(k:Int):UInt32:=shl32 x (BX k &&& 31).toNat ||| shr32 x (32-(BX k &&& 31)).toNat
theorem Ht(x:UInt32)(k:Int):zC K w0 227 [AA x,vI k] [] H (fun v M=>v=AA (Vw x k)∧M=[]):=by
 refine Ua.enter Tryz.func227 rfl rfl ?_
 refine AE (AK (O E (AU (AG (AE (AK (J E (Av E E (De FY I8) ?_))))))))
 refine Y E (RU (b:=31)) ?_
 refine O E (AU (AG (AE (AK (J E (J E (Y E FB.shl32 (J E (J E ?_)))))))))
 refine Y E (Ur (a:=32)) ?_
 refine Y E FB.shr32 (Y E Di (O E (AU (AG (AL ?_)))))
 exact AX (Df E E) (AY (M:=[]) ⟨E,E⟩ fun _ h=>h.skip [])
end

section
variable {K:Nat→Prop}{w0:World}{H:List AW}
theorem lW:∀n:Fin 32,0<n.1→(BX (-(n.1:Int)) &&& 31).toNat=32-n.1∧(32-(BX (-(n.1:Int)) &&& 31)).toNat=n.1:=by decide
theorem mO(x:UInt32)(n:Nat)(h0:0<n)(h1:n<32):Vw x (-(n:Int))=KJ x n:=by
 obtain⟨e1,e2⟩:=lW ⟨n,h1⟩ h0
 simp only at e1 e2
 unfold Vw KJ
 rw[e1,e2,UInt32.or_comm]
theorem G6(x:UInt32)(n:Nat)(h0:0<n)(h1:n<32):zC K w0 229 [AA x,vI n] [] H (fun r M=>r=AA (KJ x n)∧M=[]):=by
 refine Ua.enter Tryz.func229 rfl rfl ?_
 refine Z (O E (V (Z (J E (J E (oa E E zO zO (AQ 0 dK (Ht x (-(n:Int))) E (O E (V (AL ?_))))))))))
 exact AX (Df E E) (AY (M:=[]) ⟨by rw[mO x n h0 h1],E⟩ fun _ h=>h.skip [])
theorem aL(s:List UInt8)(hs:s.length=64):zC K w0 228 [vS s] [] H (fun r M=>r=.agg (DJ AA (D2 s))∧M=[]):=by
 refine Ua.enter Tryz.func228 rfl rfl ?_
 refine Z ?_
 refine Ag E pj zU fun b0=>?_
 refine V (Z ?_)
 refine Ag E pj zU fun b1=>?_
 refine V (AE (Z (J E (V (AN ?_)))))
 refine SX.mono (A6 (α:=Nat) (fun i=>i≤64) (fun i=>[(0,vS s),(2,vP b0 0),(3,vP b1 0),(8,vI i)]) (fun i=>AP b1 (.cells (DJ AA (FI s i++List.replicate (64-i) 0)) 296)::AP b0 (.cells (DJ AA (List.replicate 64 0)) 296)::H) (fun i=>64-i) (fun i D hp=>?_) 0 zO) tL
 have hlen:=MA s i
 refine Z (Y E Aw (V (AE ?_)))
 refine As E (fun hc1=>?_) (fun hc1=>?_)
 have hi:i<64:=by simp at hc1;omega
 refine AI (AG (AE (AN (Z (J E (O E (V (AE (Z (J E (Y E Aw (V ?_))))))))))))
 refine As E (fun hc2=>?_) (fun hc2=>?_)
 have h16:i<16:=by simp at hc2;omega
 refine Z (J E (Y E (LC zO zO) (O E (V (AE (Ai CY [] (Bm [(true,0),(true,1),(true,2),(true,3),(true,4),(true,5),(true,6),(true,7),(true,8),(true,9),(true,10),(true,11),(true,12),(true,13),(true,14),(true,15),(true,16),(true,17),(true,18),(true,19),(true,20),(true,21),(true,22),(true,23),(true,24),(true,25),(true,26)] (.last 27 .nil)) zK (J E (J E (J E (G4 (4*i) E Bo E E zO zO ?_))))))))))
 refine Av E E (DT Cn Bv) ?_
 refine Y E (FB.shl32 (n:=24)) ?_
 refine J E (J E (Y E (BV zO zO) (G4 ((4*i)+1) E Bo E E zO zO (Av E E (DT Cn Bv) ?_))))
 refine Y E (FB.shl32 (n:=16)) ?_
 refine Y E Di (J E (J E (Y E (BV zO zO) (G4 ((4*i)+2) E Bo E E zO zO (Av E E (DT Cn Bv) ?_)))))
 refine Y E (FB.shl32 (n:=8)) ?_
 refine Y E Di (J E (J E (Y E (BV zO zO) (G4 ((4*i)+3) E Bo E E zO zO (Av E E (DT Cn Bv) (Y E Di ?_))))))
 refine Cx (n:=i) E Rz Bj E E zO zO ?_
 refine BK ?_
 refine Vz (f:=AA) 0 E E E E Bj E E zQ zT ?_
 rw[Tc _ _ _ 64 i hlen hi]
 refine V (Ax (A3 (A0 (AG (AK (Y E (BV zO zO) (J E (AU ?_))))))))
 refine Al (i+1) zO zO ⟨E,E,E,E,zT⟩ (fun w h=>by
  have e:Rj s (FI s i)=kl s (4*i):=by unfold Rj;rw[hlen,if_pos h16]
  rw[FI,e]
  exact h)
 have h16:16≤i:=by simp at hc2;omega
 refine AI (AG (AE (Ai CY [0] (Pl.of [(true,0),(true,1),(true,2),(true,3),(true,4),(true,5),(true,6),(true,7),(true,8),(true,9)]) zK (J E (Y E (Do zO zO) ?_)))))
 refine Cx (n:=(i-15)) E Rz Bj E E zO zO ?_
 refine Bi E A8 E (Ck 0 E (Vn 0 zO)) (J E (Y E (Do zO zO) ?_))
 refine Cx (n:=(i-2)) E Rz Bj E E zO zO ?_
 refine Bi E A8 E (Ck 0 E (Vn 0 zO)) (O E (O E (V (Ai CY [0] (Bm [(true,0),(true,1),(true,2),(true,3),(true,4),(true,5),(true,6),(true,7),(true,8),(true,9),(true,10),(true,12),(true,15),(true,16),(true,19),(true,21),(true,24),(true,25),(false,11),(false,13),(true,14),(true,17),(true,18),(false,20),(false,22),(true,23),(true,26),(true,27),(true,28)] (.last 29 .nil)) zK (J E (J E (Y E (Do zO zO) ?_)))))))
 refine Cx (n:=(i-16)) E Rz Bj E E zO zO ?_
 refine Bi E A8 E (Ck 0 E (Vn 0 zO)) (J E (Y E (Do zO zO) ?_))
 refine Cx (n:=(i-7)) E Rz Bj E E zO zO ?_
 refine Bi E A8 E (Ck 0 E (Vn 0 zO)) (Y E B0 (J E (J E (J E ?_))))
 refine Y E (FB.shr32 (n:=3)) ?_
 refine J E (J E (J E ?_))
 refine Y E (FB.shr32 (n:=10)) ?_
 refine BS 0 Nw (G6 _ 7 zO zO) E ⟨⟨0,E⟩,zT⟩ (BS 0 Nw (G6 _ 18 zO zO) E ⟨⟨0,E⟩,zT⟩ (Y E CZ (Y E CZ (Y E B0 (BS 0 Nw (G6 _ 17 zO zO) E ⟨⟨0,E⟩,zT⟩ (BS 0 Nw (G6 _ 19 zO zO) E ⟨⟨0,E⟩,zT⟩ (Y E CZ ?_)))))))
 refine Y E CZ (Y E B0 ?_)
 refine Cx (n:=i) E Rz Bj E E zO zO ?_
 refine BK ?_
 refine Vz (f:=AA) 0 E E E E Bj E E zQ zT ?_
 rw[Tc _ _ _ 64 i hlen hi]
 refine AU (Ao (AG (AK (Y E (BV zO zO) (J E (AU ?_))))))
 refine Al (i+1) zO zO ⟨E,E,E,E,zT⟩ (fun w h=>by
  have e:Rj s (FI s i)=(FI s i).getD (i-16) 0+(FI s i).getD (i-7) 0+oO ((FI s i).getD (i-15) 0)+nQ ((FI s i).getD (i-2) 0):=by unfold Rj;rw[hlen,if_neg zO]
  rw[FI,e]
  exact h)
 have hi:i=64:=by simp at hc1;omega
 subst hi
 refine Ax (A3 (BO (A0 (AG (Z ?_)))))
 refine Ac ((D2 s).map AA) E nG (by simp[D2,hlen]) E (Ce 0 E (fun j u hu=>by simpa[DJ,D2]using hu)) ?_
 refine Og 1 E E E E tP (by simp[D2,hlen]) (by simp[DJ]) (OK zV (D2 s)) zT ?_
 refine V (AL ?_)
 exact AX (ES E (BB 1 ((D2 s).map AA) nG (by simp[D2,hlen]) E E (by simp only[List.drop_zero];exact List.take_of_length_le (by simp[D2,hlen])))) (AY (M:=[]) ⟨E,E⟩ fun _ h=>h.skip [_,_])
end

section
variable {K:Nat→Prop}{w0:World}{H:List AW}
theorem dE(T h:List UInt32)(tl:List Value)(s:List UInt8)(b:Nat)(e:TypeId)(hT:Tx K w0 3 T)(hTl:T.length=64)(hh:h.length=8)(hs:s.length=64):zC K w0 214 [vP b 0,vS s] [AP b (.cells (NQ AA h tl) e)] H (fun r M=>r=.tuple #[]∧M=[AP b (.cells (NQ AA (Ru T h s) tl) e)]):=by
 refine Ua.enter Tryz.func214 rfl rfl ?_
 refine AE (Ai CY [0] (Pl.of [(true,0),(true,1),(true,2),(true,3),(true,4),(true,5),(true,6),(true,7),(true,8),(true,9),(true,10),(true,11),(true,12),(true,13),(true,14),(true,15),(true,16),(true,17),(true,18),(true,19),(true,20),(true,21),(true,22),(true,23),(true,24),(true,25),(true,26),(true,27),(true,28),(true,29),(true,30),(true,31),(true,32),(true,33),(true,34),(true,35),(true,36),(true,37),(true,38),(true,39)]) zK (J E (AV E E ?_)))
 refine Cx (n:=0) E Pe Bj E E zO zO ?_
 refine Bi E A8 E (Ck 0 E (J6 0 zO)) (J E (AV E E ?_))
 refine Cx (n:=1) E Pe Bj E E zO zO ?_
 refine Bi E A8 E (Ck 0 E (J6 0 zO)) (J E (AV E E ?_))
 refine Cx (n:=2) E Pe Bj E E zO zO ?_
 refine Bi E A8 E (Ck 0 E (J6 0 zO)) (J E (AV E E ?_))
 refine Cx (n:=3) E Pe Bj E E zO zO ?_
 refine Bi E A8 E (Ck 0 E (J6 0 zO)) (J E (AV E E ?_))
 refine Cx (n:=4) E Pe Bj E E zO zO ?_
 refine Bi E A8 E (Ck 0 E (J6 0 zO)) (J E (AV E E ?_))
 refine Cx (n:=5) E Pe Bj E E zO zO ?_
 refine Bi E A8 E (Ck 0 E (J6 0 zO)) (J E (AV E E ?_))
 refine Cx (n:=6) E Pe Bj E E zO zO ?_
 refine Bi E A8 E (Ck 0 E (J6 0 zO)) (J E (AV E E ?_))
 refine Cx (n:=7) E Pe Bj E E zO zO ?_
 refine Bi E A8 E (Ck 0 E (J6 0 zO)) (O E (O E (O E (O E (O E (O E (O E ?_)))))))
 refine O E (V (AE (Z (J E (AQ 0 sE (aL s hs) E (J E (V (AN ?_))))))))
 refine SX.mono (A6 (α:=Nat) (fun i=>i≤64) (fun i=>[(0,vP b 0),(4,AA (Gu T (D2 s) h i).a),(5,AA (Gu T (D2 s) h i).b),(6,AA (Gu T (D2 s) h i).c),(7,AA (Gu T (D2 s) h i).d),(8,AA (Gu T (D2 s) h i).e),(9,AA (Gu T (D2 s) h i).f),(10,AA (Gu T (D2 s) h i).g),(11,AA (Gu T (D2 s) h i).i),(51,.agg (DJ AA (D2 s))),(52,vI i)]) (fun i=>AP b (.cells (NQ AA h tl) e)::H) (fun i=>64-i) (fun i D hp=>?_) 0 zO) tL
 refine Z (Y E Aw (V (AE ?_)))
 refine As E (fun hc1=>?_) (fun hc1=>?_)
 have hi:i<64:=by simp at hc1;omega
 have hw:(D2 s)[i]? = some ((D2 s).getD i 0):=by
  rw[List.getD_eq_getElem?_getD,List.getElem?_eq_getElem (by rw[D2,MA];exact hi)]
  rfl
 refine AI (AG (AE (AN (Z (J E ?_)))))
 refine Ol (i:=i) E Rz A8 E E zO zO (E8 hw) ?_
 refine O E (O E (V (AE (Ai CY [] (Pl.of [(true,0),(true,1),(true,3),(true,6),(true,10),(true,11),(true,12),(true,13),(true,14),(true,15),(true,16),(true,17),(true,19),(true,20),(true,21),(true,23),(false,2),(false,4),(true,5),(false,7),(true,8),(true,9),(true,18),(true,22),(true,24),(true,25)]) zK (J E (J E (J E (J E (J E ?_)))))))))
 refine J E (Y E Hf (J E (cR E E (J E (Y E Hf (Y E CZ (J E ?_)))))))
 refine Cx (b:=3) (n:=i) E Rz Bj E E zO zO ?_
 refine Bi E A8 E (hT.load zO) (J E (AQ 0 Nw (G6 _ 6 zO zO) E (AQ 0 Nw (G6 _ 11 zO zO) E (Y E CZ (AQ 0 Nw (G6 _ 25 zO zO) E (Y E CZ (Y E B0 ?_)))))))
 refine Y E B0 (Y E B0 (Y E B0 (O E (V (Z (J E (AQ 0 Nw (G6 _ 2 zO zO) E (J E (AQ 0 Nw (G6 _ 13 zO zO) E ?_)))))))))
 refine Y E CZ (J E (AQ 0 Nw (G6 _ 22 zO zO) E (Y E CZ (J E (J E (Y E Hf (J E ?_)))))))
 refine J E (Y E Hf (Y E CZ (J E (J E (Y E Hf (Y E CZ (Y E B0 ?_)))))))
 refine O E (V (AK (J E (J E (J E (J E (J E (Y E B0 (J E ?_)))))))))
 refine J E (J E (J E (J E (Y E B0 (O E (O E (O E ?_)))))))
 refine O E (O E (O E (O E (O E (AU (Ao (AG (AK (Y E (BV zO zO) (J E (AU ?_)))))))))))
 exact Al (i+1) zO zO ⟨E,E,E,E,E,E,E,E,E,E,E,zT⟩
 have hi:i=64:=by simp at hc1;omega
 subst hi
 generalize hfin:Gu T (D2 s) h 64=fin
 refine Ax (A3 (BO (A0 (AG (Z (J E (J E (J E (J E (J E (J E (J E (J E ?_)))))))))))))
 refine S3 (fin.list.map AA) rfl nm Bj ub rfl ⟨rfl,rfl,rfl,rfl,rfl,rfl,rfl,rfl,trivial⟩ rfl rfl (fun v hv=>by obtain⟨x,_,rfl⟩:=List.mem_map.1 hv;rfl) ?_
 refine J E ?_
 have hfl:fin.list.length=h.length:=by rw[hh];rfl
 refine V (AN ?_)
 refine SX.mono (A6 (α:=Nat) (fun i=>i≤8) (fun i=>[(0,vP b 0),(122,.agg (DJ AA fin.list)),(123,vI i)]) (fun i=>AP b (.cells (NQ AA (SA h fin.list i) tl) e)::H) (fun i=>8-i) (fun i D hp=>?_) 0 zO) tL
 refine Z (Y E Aw (V (AE ?_)))
 refine As E (fun hc2=>?_) (fun hc2=>?_)
 have hi:i<8:=by simp at hc2;omega
 have hml:=VN h _ hfl i
 have hw:fin.list[i]? = some (fin.list.getD i 0):=by
  rw[List.getD_eq_getElem?_getD,List.getElem?_eq_getElem zO]
  rfl
 refine AI (AG (AE (AN (Z (J E ?_)))))
 refine Ol (i:=i) E nm A8 E E zO zO (E8 hw) ?_
 refine O E (O E (V (Ai CY [0] (Bm [(true,0),(true,1),(true,2),(true,3),(true,4),(true,5),(true,6),(true,7),(true,8)] (.last 9 .nil)) zK (J E (J E (AV E E ?_))))))
 refine Cx (n:=i) E Pe Bj E E zO zO ?_
 refine Bi E A8 E (Ck 0 E (J6 0 zO)) ?_
 rw[cP h _ hfl i zO]
 refine J E (Y E B0 (AV E E ?_))
 refine Cx (n:=i) E Pe Bj E E zO zO ?_
 refine BK ?_
 refine sR (f:=AA) 0 E E E E Bj E E zO zT ?_
 rw[cA h _ hfl i zO]
 refine AU (Ao (AG (AK (Y E (BV zO zO) (J E (AU ?_))))))
 exact Al (i+1) zO zO ⟨E,E,E,zT⟩
 have hi:i=8:=by simp at hc2;omega
 subst hi
 refine Ax (A3 (BO (A0 ?_)))
 have hfull:=Yp h _ hfl
 rw[hh]at hfull
 rw[hfull,←hfin]
 exact Cy (DY E) (AY (M:=[_]) ⟨E,E⟩ fun _ h=>h)
theorem XN(T:List UInt32)(h:NH)(rest s:List UInt8)(n:Int)(b:Nat)(e:TypeId)(hT:Tx K w0 3 T)(hTl:T.length=64)(hs:s.length=64):zC K w0 214 [vP b 0,vS s] [AP b (.cells (OF h rest n) e)] H (fun r M=>r=.tuple #[]∧M=[AP b (.cells (OF (U0 T h s) rest n) e)]):=by
 have h1:=dE (K:=K) (w0:=w0) (H:=H) T h.list [vS rest,vI n] s b e hT hTl rfl hs
 rw[←Rp (UI (T:=T) (s:=s) (show h.list.length=8 from rfl))]at h1
 exact h1
end

section
variable {K:Nat→Prop}{w0:World}{H:List AW}
def gF(p:Nat×List UInt8):List Value:=[vI p.1,vS p.2]
theorem dB(s:List UInt8)(b:Nat)(hn:s.length≤1099511627776):li Tryz.prog K w0 230 [vP b 0] [AP b (.cells #[vS s] 9)] gF (Ok s):=by
 intro lp J9 X T hy G h0
 refine Ua.enter Tryz.func230 rfl rfl ?_
 refine Z (O E (V (AN ?_)))
 refine SX.mono (A6 (α:=Nat×List AW) (fun x=>x.1≤s.length / 64∧J9 ((Ok s).take x.1) x.2) (fun x=>[(0,vY lp),(1,vP b 0),(3,vI (64*(x.1+1):Nat))]) (fun x=>AP b (.cells #[vS s] 9)::(x.2++T)) (fun x=>s.length / 64-x.1) (fun x D hp=>?_) (0,G) ⟨Nat.zero_le _,h0⟩) tL
 obtain⟨i,G⟩:=x
 obtain⟨hi,hJ⟩:=hp
 simp only at hi hJ
 refine AE (Z (J E (AF 0 Fm E (BT E Bo E (Y E IR (V ?_))))))
 refine As E (fun hc1=>?_) (fun hc1=>?_)
 have hlt:i<s.length / 64:=by simp at hc1;omega
 have hg:=XT s i hlt
 refine AI (AG (AE (AN (Z (J E (J E (AF 0 Fm E (J E (Y E (Do zO zO) (J E (X5 (64*i) (64*(i+1)) E Bo E E E zO zO zO zO ?_)))))))))))
 have ht:64*(i+1)-64*i=64:=zO
 rw[ht]
 refine Jb (M2:=[_]) (G:=G) (T:=T) (vs:=[_,_]) (ok:=fun G1=>J9 ((Ok s).take (i+1)) G1) (no:=X) E E ⟨E,E,zT⟩ E ?_ (fun bb G1 hG1=>⟨zT,?_⟩)
 intro M
 have:=hy _ _ _ (FG hg).1 G hJ M
 rw[←(FG hg).2]at this
 exact this
 refine CH E E (V ?_)
 refine As E (fun hc2=>?_) (fun hc2=>?_)
 obtain rfl:bb=false:=by simpa using hc2
 refine AL (Ba (AZ (Dq (Ba ?_))))
 exact AX (DY E) (AY (M:=G1) (.inr hG1) fun _ h=>h.skip [_])
 obtain rfl:bb=true:=by simpa using hc2
 refine AI (Ao (AG (AK (J E (Y E (BV zO zO) (O E (AU ?_)))))))
 refine Al (i+1,G1) ⟨hlt,hG1⟩ (by simp only;omega) ⟨E,E,?_,zT⟩
 have e:((64*(i+1):Nat):Int)+64=((64*(i+1+1):Nat):Int):=zO
 simp only[look,Nat.beq,BZ]
 rw[←e]
 refine Ax (A3 (BO (A0 ?_)))
 have hle:i=s.length / 64:=by simp at hc1;omega
 exact Cy (DY E) (AY (M:=G) (.inl (by rw[List.take_of_length_le (by rw[Pf];omega)]at hJ;exact hJ)) fun _ h=>h.skip [_])
theorem dm(s:List UInt8):zC K w0 215 [vS s] [] H (fun r M=>∃b,r=.func (.func 230) #[] #[vP b 0]∧M=[AP b (.cells #[vS s] 9)]):=by
 refine Ua.enter Tryz.func215 rfl rfl ?_
 refine Z ?_
 refine Bf E E zU fun b0=>?_
 refine O E (V (Z ?_))
 refine Hj (fv:=#[]) (cv:=#[_]) E E E ?_
 refine O E (V (AL ?_))
 exact AX (Df E E) (AY (M:=[_]) ⟨b0,E,E⟩ fun _ h=>h)
theorem eb(h:NH)(tl:List Value)(b:Nat)(e:TypeId):zC K w0 216 [vP b 0] [AP b (.cells (NQ AA h.list tl) e)] H (fun r M=>r=vS (h.list.flatMap Hb)∧M=[AP b (.cells (NQ AA h.list tl) e)]):=by
 refine Ua.enter Tryz.func216 rfl rfl ?_
 refine Z (O E (V (Z (O E (V (AE (Z (J E (J E (V (AN (JN 5 1 ?_))))))))))))
 refine SX.mono (A6 (α:=Nat×Value) (fun x=>x.1≤8) (fun x=>[(3,x.2),(6,vP b 0),(7,vI x.1)]) (fun x=>DM 5 1 x.2 (4*x.1) (((h.list.take x.1).flatMap Hb).map fun b=>Dt b)::AP b (.cells (NQ AA h.list tl) e)::H) (fun x=>8-x.1) (fun x D hp=>?_) (0,zN) zD) tL
 obtain⟨i,v⟩:=x
 simp only at hp
 refine Z (Y E Aw (V (AE ?_)))
 refine As E (fun hc1=>?_) (fun hc1=>?_)
 have hlt:i<8:=by simp at hc1;omega
 refine AI (AG (AE (AN (Z (AV E E ?_)))))
 refine Cx (n:=i) E Pe Bj E E zO zO ?_
 refine Bi E A8 E (Ck 1 E (J6 0 hlt)) (O E (V (AK (J E (J E ?_)))))
 refine Y E (FB.shr32 (n:=24)) ?_
 refine Av E E (Cw Bv Cn) (J E ?_)
 refine Y E (FB.shr32 (n:=16)) ?_
 refine Av E E (Cw Bv Cn) (J E ?_)
 refine Y E (FB.shr32 (n:=8)) ?_
 refine Av E E (Cw Bv Cn) (J E (Av E E (Cw Bv Cn) ?_))
 refine Bz [_,_,_,_] E CP KZ LW ⟨E,E,E,E,zT⟩ E E E zX E E zU fun b0=>?_
 refine WC 1 rfl (m:=4) (news:=(Hb (h.list.getD i 0)).map fun b=>Dt b) CP KZ Wx LW rfl zD rfl rfl rfl rfl (Aa 0 rfl) (by intro u hu;obtain⟨x,_,rfl⟩:=List.mem_map.1 hu;rfl) zO zO zU fun v'=>?_
 refine O E (AU (Ao (AG (AK (Y E (BV zO zO) (J E (AU ?_)))))))
 refine Al (i+1,v') (by simp only;omega) (by simp only;omega) ⟨E,E,E,zT⟩ (fun w hw=>by
  have e1:h.list.take (i+1)=h.list.take i++[h.list.getD i 0]:=by
   rw[List.take_add_one,List.getD_eq_getElem?_getD,List.getElem?_eq_getElem (show i<h.list.length from hlt)]
   rfl
  simp only
  rw[e1,List.flatMap_append,List.map_append]
  simp only[List.flatMap_cons,List.flatMap_nil,List.append_nil]
  exact hw.skip [_])
 have hi:i=8:=by simp at hc1;omega
 subst hi
 refine Ax (A3 (BO (A0 (AG (Z (J E ?_))))))
 refine ZK (s:=h.list.flatMap Hb) 0 E CP Cn Bo E E ?_
 refine O E (V (AL ?_))
 exact AX (Df E E) (AY (M:=[_]) ⟨E,E⟩ fun _ h=>h.skip [_])
end

section
variable {K:Nat→Prop}{w0:World}{H:List AW}
theorem VM(T:List UInt32)(h:NH)(rest s:List UInt8)(n:Int)(b:Nat)(e:TypeId)(hT:Tx K w0 3 T)(hTl:T.length=64)(hr:rest.length<64)(hn:s.length≤1099511627776):zC K w0 192 [vP b 0,vS s] [AP b (.cells (OF h rest n) e)] H (fun r M=>r=.tuple #[]∧M=[AP b (.cells (OF (D7 T h (rest++s)).1 (D7 T h (rest++s)).2 n) e)]):=by
 refine Ua.enter Tryz.func192 rfl rfl ?_
 refine Z ?_
 refine Bf E E zU fun b0=>?_
 refine Bf E E zU fun b1=>?_
 refine V (LB ?_)
 refine YQ (α:=NH×List UInt8×List UInt8) (fun x=>D7 T x.1 (x.2.1++x.2.2)=D7 T h (rest++s)∧x.2.1.length<64∧(x.2.1≠[]→(x.2.1++x.2.2).length<64)∧x.2.2.length≤s.length) (fun x=>[(2,vP b0 0),(3,vP b1 0)]) (fun x=>AP b1 (.cells #[vS x.2.2] 9)::AP b0 (.cells #[vP b 0] 268)::AP b (.cells (OF x.1 x.2.1 n) e)::H) ?_ (fun x hx=>?_)
 refine AE (Ai CY [0,1,2] (Pl.of [(true,0),(true,1),(true,2),(true,3),(true,4),(true,5),(true,6),(true,7),(true,8),(true,9),(true,10),(true,11),(true,12),(true,13),(true,14),(true,15)]) zK (AF 1 Pk E (AV E E (AD E Lq (AF 2 Fm E ?_)))))
 refine Y E (I1 (t:=[])) ?_
 refine J E ?_
 refine C5 (c:=decide ((64:Int)≤(rest.length:Int)+s.length)) 13 10 23 E (fun hb k=>?_) (fun hb k=>?_) ?_
 refine AF 1 Pk E (AV E E (AD E Lq (AF 2 Fm E (BT E Bo E (AF 0 Fm E (BT E Bo E (Y E (BV zO zO) ?_)))))))
 refine Y E IW (Ae E E E ?_)
 exact k.mono tL
 refine AB E (AB E (AB E (AB E (AB E (AB E (AB E (AB E ?_)))))))
 refine AB E (Ae E E E ?_)
 exact k.mono tL
 refine V ?_
 refine As E (fun hc1=>?_) (fun hc1=>?_)
 have hne:rest≠[]∧64≤rest.length+s.length:=by simp at hc1;exact⟨hc1.1,by omega⟩
 refine Z (AF 1 Pk E (AV E E (AD E Lq (AF 2 Fm E (BT E Bo E (Y E (Do zO zO) (O E (V (AE (Ai CY [0,1,2] (Bm [(true,0),(true,1),(true,2),(true,3),(true,4),(true,5),(true,6),(true,7),(true,8),(true,9),(true,10)] (.last 11 .nil)) zK ?_))))))))))
 refine AF 1 Pk E (AV E E (AD E YN (AF 1 Pk E (AV E E (AD E Lq (AF 2 Fm E (AF 0 Fm E ?_)))))))
 refine J E (PR (64-rest.length) E Bo E E zO zO (Y E (Fw zQ) (BK (SL.pick [2,0,1] 3 (AQ 1 lM (XN T h rest (rest++s.take (64-rest.length)) n b e hT hTl zQ) E (SL.pick [1,2,0] 3 (V (Ai CY [0,1] (Bm [(true,0),(true,1),(true,2),(true,3),(true,4),(true,5),(false,6)] (.last 7 .nil)) zK (AF 1 Pk E ?_)))))))))
 refine AF 0 Fm E (J E (OH (64-rest.length) E Bo E E zO zO (AV E E (AD E Lq (Ak 2 E E E E Hp E E E ⟨⟨0,E⟩,⟨1,E⟩,zT⟩ (BK (Ak 0 E E E E Hp E E E zT (AU ?_))))))))
 refine TP (U0 T h (rest++s.take (64-rest.length)),[],s.drop (64-rest.length)) ⟨?_,by simp,fun h=>absurd E h,by simp⟩ tL
 have e1:rest++s=(rest++s.take (64-rest.length))++s.drop (64-rest.length):=by rw[List.append_assoc,List.take_append_drop]
 have e2:=Vy (T:=T) (h:=h) (p:=rest++s.take (64-rest.length)) (s:=s.drop (64-rest.length)) zQ
 rw[e1,e2]
 rfl
 refine AI ?_
 refine TP (h,rest,s) ⟨E,hr,fun hne=>?_,Nat.le_refl _⟩ tL
 simp at hc1
 have:=hc1 hne
 simp
 omega
 
 obtain⟨h1,r1,s1⟩:=x
 obtain⟨hx1,hx2,hx3,hx4⟩:=hx
 simp only at hx1 hx2 hx3 hx4
 refine AE (Z (AF 1 Pk E (AV E E (AD E Lq (AF 2 Fm E ?_)))))
 refine Y E (I1 (t:=[])) ?_
 refine V ?_
 refine As E (fun hc2=>?_) (fun hc2=>?_)
 have hsh:=hx3 (by simpa using hc2)
 rw[QA hsh]at hx1
 rw[←hx1]
 refine AE (Ai CY [0,1,2] (Bm [(true,0),(true,1),(true,2),(true,3),(true,4),(true,5),(true,6),(true,7)] (.last 8 .nil)) zK (AF 1 Pk E (AV E E (AD E Lq (AF 2 Fm E (AF 0 Fm E (Y E (Fw zQ) (AV E E ?_))))))))
 refine AD E Lq (BK (Ak 2 E E E E Hp E E E zT (V (AL (AZ (Fa ?_))))))
 exact AX (DY E) (AY (M:=[_]) ⟨E,E⟩ fun _ h=>h.skip [_,_])
 have hr1:r1=[]:=by simpa using hc2
 subst hr1
 rw[List.nil_append,Lf]at hx1
 rw[←hx1]
 refine AI (AG (Z ?_))
 refine Ag E rM zU fun b2=>?_
 refine Ak 0 E E E E NK E E E zT (V (AE (K4 (AG (AE (Z (AF 1 Fm E (Bn 0 sk (dm s1) E ?_))))))))
 rintro _ _ ⟨bi,rfl,rfl⟩
 refine V (AN ?_)
 refine Qk (enc:=gF) (Ok s1) (fun pre G=>G=AP b2 (.cells #[vI (64*pre.length:Nat)] 3)::AP b1 (.cells #[vS s1] 9)::AP b0 (.cells #[vP b 0] 268)::AP b (.cells (OF (Gz T h1 s1 pre.length) [] n) e)::H) (fun c G=>c=.exit 0∧G=AP b2 (.cells #[vI (64*(s1.length / 64):Nat)] 3)::AP b1 (.cells #[vS s1] 9)::AP b0 (.cells #[vP b 0] 268)::AP b (.cells (OF (Gz T h1 s1 (s1.length / 64)) [] n) e)::H) E qK E zV (dB s1 bi zO) E E (fun pre x suf G hxs hJ r lp Rest=>?_) (fun G D hJ=>?_) (fun c G D hX=>?_)
 obtain rfl:=hJ
 have hget:(Ok s1)[pre.length]? = some x:=by rw[hxs];simp
 have hlt:pre.length<s1.length / 64:=by
  have:=Pf s1
  rw[hxs]at this
  simp at this
  omega
 rw[XT s1 _ hlt]at hget
 obtain rfl:=zI hget
 refine Z (O E (V (AK (O E (AU (Lv (AN (Z (AF 2 Pk E (AV E E (AD E YN (J E (SL.pick [3,0,1,2] 4 (AQ 1 lM (XN T (Gz T h1 s1 pre.length) [] _ n b e hT hTl zQ) E ?_))))))))))))))
 refine SL.pick [1,2,3,0] 4 (V (Z (J E (Ak 0 E E E E NK E E E zT (V (Z (AF 1 Fm E (BT E Bo E (J E (Y E (Do zO zO) (Y E Aw (V ?_))))))))))))
 refine As E (fun hc3=>?_) (fun hc3=>?_)
 refine Ax (M7 ?_)
 have e1:pre.length+1=s1.length / 64:=by simp at hc3;omega
 exact N6 (G:=_::_::_::_::H) (by rw[←e1];exact⟨E,E⟩) (fun _ h=>h)
 refine AI (Ao ?_)
 exact I7 (G:=_::_::_::_::H) (by rw[show(pre++[(64*(pre.length+1),(s1.drop (64*pre.length)).take 64)]).length=pre.length+1 by simp];rfl) (fun _ h=>h)
 obtain rfl:=hJ
 rw[Pf]
 refine Ao (AG (Ai CY [0,1,2] (Bm [(true,0),(true,1),(true,2),(true,3),(true,4),(true,5)] (.last 6 .nil)) zK (AF 2 Pk E (AF 1 Fm E (AF 0 D6 E (OH (64*(s1.length / 64)) E Bo E E zO zO (AV E E (AD E Lq (BK (Ak 3 E E E E Hp E E E zT (AU (k9 ?_))))))))))))
 exact Cy (DY E) (AY (M:=[_]) ⟨E,E⟩ fun _ h=>h.skip [_,_,_])
 obtain⟨rfl,rfl⟩:=hX
 refine Ax (A0 (AG (Ai CY [0,1,2] (Bm [(true,0),(true,1),(true,2),(true,3),(true,4),(true,5)] (.last 6 .nil)) zK (AF 2 Pk E (AF 1 Fm E (AF 0 D6 E (OH (64*(s1.length / 64)) E Bo E E zO zO (AV E E (AD E Lq (BK (Ak 3 E E E E Hp E E E zT (AU (k9 ?_)))))))))))))
 exact Cy (DY E) (AY (M:=[_]) ⟨E,E⟩ fun _ h=>h.skip [_,_,_])
end

section
variable {K:Nat→Prop}{w0:World}{H:List AW}
def bT(e:TypeId):Prop:=liesAt Tryz.prog Tryz.prog.depth e (2 / Tryz.prog.cellsOf e) 0 172 1=true
theorem wA(v:Value)(w:World):(callFunc 185 [v].toArray).run Tryz.prog w=.ok (.value v) w:=by
 rw[run_callFunc_extern (e:=Extern.AbiNoEscape.same) Tryz.func185 zK zK zK zK]
 rfl
theorem aT(e:TypeId)(b:Nat)(v:Value)(hl:bT e):zC K w0 144 [vP b 0] [AP b (.cells #[.pointer none,v] e)] H (fun r M=>r=.tuple #[]∧M=[AP b (.cells #[vP b 0,v] e)]):=by
 refine Ua.enter Tryz.func144 rfl rfl ?_
 refine Z (J E (AV E E (AD E VK (AF 0 jK E (Fu E YK E E (V (TZ E (AK (J E (J E ?_))))))))))
 refine qX 0 E YK nZ iY E E E E ?_
 refine nJ E (vs:=[_]) ⟨E,zT⟩ (wA _) ?_
 refine sD 0 E nZ YK iY E E hl (AV E E (AD E VK (Ak 0 E E E E vJ E E E zT (AU ?_))))
 exact Cy (DY E) (AY (M:=[_]) ⟨E,E⟩ fun _ h=>h)
theorem aV(e:TypeId)(b:Nat)(v:Value):zC K w0 144 [vP b 0] [AP b (.cells #[vP b 0,v] e)] H (fun r M=>r=.tuple #[]∧M=[AP b (.cells #[vP b 0,v] e)]):=by
 refine Ua.enter Tryz.func144 rfl rfl ?_
 refine Z (J E (AV E E (AD E VK (AF 0 jK E (Fu E YK E E (V (D5 E (Z (J E (AV E E ?_))))))))))
 refine AD E VK (AF 0 jK E (J E (ob E YK iY E E (V (D5 E (AI ?_))))))
 exact Cy (DY E) (AY (M:=[_]) ⟨E,E⟩ fun _ h=>h)
def Pn(b:Nat)(p:Value):Prop:=p=.pointer none∨p=vP b 0
theorem Rq(e:TypeId)(b:Nat)(p v:Value)(hp:Pn b p)(hl:bT e):zC K w0 144 [vP b 0] [AP b (.cells #[p,v] e)] H (fun r M=>r=.tuple #[]∧M=[AP b (.cells #[vP b 0,v] e)]):=by
 rcases hp with rfl | rfl
 exact aT e b v hl
 exact aV e b v
theorem Oe(e:TypeId)(b:Nat)(p v:Value)(n:Nat)(xs:List Value)(c:UInt8)(hp:Pn b p)(hl:bT e)(hn:n+1≤140737488355328):
  zC K w0 151 [vP b 0,Dt c] [AP b (.cells #[p,v] e),DM 5 1 v n xs] H
   (fun r M=>r=.nilIface∧∃v',M=[AP b (.cells #[vP b 0,v'] e),DM 5 1 v' (n+1) (xs++[Dt c])]):=by
 refine Ua.enter Tryz.func151 rfl rfl ?_
 refine Z (O E (V (Z (J E (AQ 1 cz (Rq e b p v hp hl) E (V (Z (J E (J E (AV E E (AD E JD (AF 0 QL E ?_))))))))))))
 refine J E ?_
 refine Bz [Dt c] E CP KZ LW ⟨E,zT⟩ E E E zX E E zU fun b1=>?_
 refine WC 2 E (news:=[Dt c]) CP KZ Wx LW E zD E E E E (Aa 0 E) (by simp[Value.oneCell']) zO zO zU fun v'=>?_
 refine AV E E (AD E JD ?_)
 refine fM (fun w hw=>Y6 (hw.holds _ (List.mem_append_left _ (List.mem_of_getElem? (i:=2) E)))) fun hsh=>?_
 have hc1:v'.cells=#[v']:=by rcases hsh with⟨rfl,_⟩ | ⟨g,cap,rfl,_⟩<;>rfl
 have ho1:v'.oneCell'=true:=by rcases hsh with⟨rfl,_⟩ | ⟨g,cap,rfl,_⟩<;>rfl
 refine Ak 1 E E E E jt (by rw[hc1];rfl) (by rw[hc1];simp[ho1]) E zT ?_
 rw[hc1]
 refine V (Z (O E (V (AL ?_))))
 exact AX (Df E E) (AY (M:=[_,_]) ⟨E,v',E⟩ fun _ h=>h.skip [_])
theorem M9(e:TypeId)(b:Nat)(p v:Value)(n:Nat)(xs:List Value)(s:List UInt8)(hp:Pn b p)(hl:bT e)(hn:n+s.length≤140737488355328):
  zC K w0 101 [vP b 0,vS s] [AP b (.cells #[p,v] e),DM 5 1 v n xs] H
   (fun r M=>r=.tuple #[vI s.length,.nilIface]∧∃v',M=[AP b (.cells #[vP b 0,v'] e),DM 5 1 v' (n+s.length) (xs++s.map fun b=>Dt b)]):=by
 refine Ua.enter Tryz.func101 rfl rfl ?_
 refine Z (O E (O E (V (Z (J E (AQ 1 cz (Rq e b p v hp hl) E (V (Z (J E (J E (AV E E (AD E JD ?_))))))))))))
 refine AF 0 QL E (J E ?_)
 refine pI 1 E CP Bo KZ Wx LW E E E hn zU fun v'=>?_
 refine AV E E (AD E JD ?_)
 refine fM (fun w hw=>Y6 (hw.holds _ (List.mem_append_left _ (List.mem_of_getElem? (i:=1) E)))) fun hsh=>?_
 have hc1:v'.cells=#[v']:=by rcases hsh with⟨rfl,_⟩ | ⟨g,cap,rfl,_⟩<;>rfl
 have ho1:v'.oneCell'=true:=by rcases hsh with⟨rfl,_⟩ | ⟨g,cap,rfl,_⟩<;>rfl
 refine Ak 0 E E E E jt (by rw[hc1];rfl) (by rw[hc1];simp[ho1]) E zT ?_
 rw[hc1]
 refine V (Z (J E (BT E Bo E (O E (O E (V (AL ?_)))))))
 exact AX (GV E E E) (AY (M:=[_,_]) ⟨E,v',E⟩ fun _ h=>h)
theorem dV(e:TypeId)(b:Nat)(p v:Value)(n:Nat)(xs:List Value):
  zC K w0 102 [vP b 0] [AP b (.cells #[p,v] e),DM 5 1 v n xs] H
   (fun r M=>r=vI n∧M=[AP b (.cells #[p,v] e),DM 5 1 v n xs]):=by
 refine Ua.enter Tryz.func102 rfl rfl ?_
 refine Z (O E (V (Z (J E (AV E E (AD E JD (AF 0 QL E (gg 1 E CP E E (O E (V (AL ?_)))))))))))
 exact AX (Df E E) (AY (M:=[_,_]) ⟨E,E⟩ fun _ h=>h)
theorem LG(e:TypeId)(b:Nat)(p v:Value)(n:Nat)(s:List UInt8)(hn:n≤140737488355328):
  zC K w0 103 [vP b 0] [AP b (.cells #[p,v] e),DM 5 1 v n (s.map fun b=>Dt b)] H
   (fun r M=>r=vS s∧M=[AP b (.cells #[p,v] e),DM 5 1 v n (s.map fun b=>Dt b)]):=by
 refine Ua.enter Tryz.func103 rfl rfl ?_
 refine Z (O E (V (AE (Ai CY [0,1] (Pl.of [(true,0),(true,1),(true,2),(true,3),(true,5),(true,6),(true,7),(true,8),(true,9),(false,4),(false,10),(true,11)]) zK (J E (AV E E (AD E JD (AF 0 QL E (J E (AV E E ?_))))))))))
 refine AD E JD (AF 0 QL E (gg 1 E CP E E ?_))
 refine oQ 1 E nh E E ⟨⟨0,E⟩,⟨1,E⟩,zT⟩ fun q hq=>?_
 refine qB 1 E nh wQ E E hq E zO ⟨⟨0,E⟩,⟨1,E⟩,zT⟩ (O E (V (AL ?_)))
 exact AX (Df E E) (AY (M:=[_,_]) ⟨E,E⟩ fun _ h=>h)
end

section
variable {K:Nat→Prop}{w0:World}{H:List AW}
theorem ci{y:UInt64}(h:y.toNat<4294967296):shr64 y 32=0:=by
 apply UInt64.toNat_inj.1
 have h1:y.toNat / 4294967296=0:=Nat.div_eq_of_lt h
 simp[shr64,h1]
theorem oA(n:Nat)(h:n<9223372036854775808):decide ((9223372036854775807:UInt64)<BX n)=false:=by
 rw[decide_eq_false_iff_not,UInt64.lt_iff_toNat_lt]
 have h1:(9223372036854775807:UInt64).toNat=9223372036854775807:=by decide
 have h2:(BX n).toNat=n:=by simp only[BX,UInt64.toNat_ofNat'];omega
 omega
theorem cn{y:UInt64}(h:y.toNat<4294967296):y &&& 4294967295=y:=by
 apply UInt64.toNat_inj.1
 rw[UInt64.toNat_and]
 exact Nat.and_two_pow_sub_one_of_lt_two_pow (n:=32) h
theorem pL(y:UInt64)(hy:y.toNat<4294967296):zC K w0 142 [Ar 1,Ar y] [] H (fun r M=>r=.tuple #[Ar 0,Ar y]∧M=[]):=by
 refine Ua.enter Tryz.func142 rfl rfl ?_
 refine Z (O E (O E (V (Z (J E ?_)))))
 refine Y E (RU (b:=4294967295)) ?_
 refine O E (V (Z (J E ?_)))
 refine Y E (FB.shr64 (n:=32)) ?_
 refine O E (V (Z (J E ?_)))
 refine Y E (RU (b:=4294967295)) ?_
 refine O E (V (Z (J E ?_)))
 refine Y E (FB.shr64 (n:=32)) ?_
 refine O E (V (Z (J E (J E (Y E JS (O E (V (Z (J E (J E (Y E JS ?_)))))))))))
 refine J E ?_
 refine Y E (FB.shr64 (n:=32)) ?_
 refine Y E Ie (O E (V (Z (J E ?_))))
 refine Y E (RU (b:=4294967295)) ?_
 refine O E (V (Z (J E ?_)))
 refine Y E (FB.shr64 (n:=32)) ?_
 refine O E (V (Z (J E (J E (J E (Y E JS (Y E Ie (O E (V (Z (J E ?_)))))))))))
 refine J E (Y E JS (J E (Y E Ie (J E ?_))))
 refine Y E (FB.shr64 (n:=32)) ?_
 refine Y E Ie (O E (V (Z (J E (J E (Y E JS (O E (V (AL ?_)))))))))
 have h1:shr64 y 32=0:=ci hy
 have h2:y &&& 4294967295=y:=cn hy
 have h3:shr64 (1:UInt64) 32=0:=by decide
 have h4:(1:UInt64) &&& 4294967295=1:=by decide
 have h5:shr64 (0:UInt64) 32=0:=by decide
 have h6:(0:UInt64) &&& 4294967295=0:=by decide
 refine AX (GV E E E) (AY (M:=[]) ⟨?_,E⟩ fun _ h=>h.skip [])
 simp[h1,h2,h3,h4,h5,h6]
theorem np(y:UInt64)(hy:y.toNat<4294967296):zC K w0 98 [Ar 1,Ar y] [] H (fun r M=>r=.tuple #[Ar 0,Ar y]∧M=[]):=by
 refine Ua.enter Tryz.func98 rfl rfl ?_
 refine Z (O E (O E (V (AE ?_))))
 refine As E (fun hc1=>absurd hc1 zD) (fun hc1=>?_)
 refine AI (AG (Z (J E (J E (AQ 0 sU (pL y hy) E (J E (Am E E E (Am E E E (O E (O E (V (Z ?_))))))))))))
 refine J E (J E (O E (O E (V (AL ?_)))))
 exact AX (GV E E E) (AY (M:=[]) ⟨E,E⟩ fun _ h=>h.skip [])
theorem oL(b n:Nat)(hn:n≤281474976710656):zC K w0 145 [vP b 0,vI n] [AP b (.cells #[vP b 0,zN] 172)] H (fun r M=>r=.tuple #[]∧∃v,M=[AP b (.cells #[vP b 0,v] 172),DM 5 1 v 0 []]):=by
 refine Ua.enter Tryz.func145 rfl rfl ?_
 refine AE (Ai CY [0] (Pl.of [(true,0),(true,1),(true,2),(true,3),(true,4),(true,5),(true,6),(true,7),(true,9),(true,10),(true,11),(true,12),(true,13),(false,8),(true,14),(true,15)]) zK (J E (AV E E (AD E JD (AF 0 QL E (fb E CP E (Y E (LC zO zO) (J E ?_))))))))
 refine Y E (BV zO zO) (J E (AV E E (AD E JD (AF 0 QL E (OG E CP E ?_)))))
 refine rm (n:=n) (fn:=Tryz.f186) E E zO hn CP (fun w r w' hr=>by rw[run_callFunc_extern (e:=Extern.BytealgMakeNoZero.makeNoZero #[3] #[141]) Tryz.func186 zK zK zK zK];rw[show(Extern.BytealgMakeNoZero.makeNoZero #[3] #[141] #[vI n]).run Tryz.prog w=.ok r w' from hr];rfl) (fun _ _=>⟨⟨1,E⟩,zT⟩) fun b1 cs hcs hcm=>?_
 refine Yv 0 E CP KZ E E E zO (O E (V (Z (J E (J E (AV E E (AD E JD (AF 1 QL E (sO E CP KZ E E (V (AK ?_)))))))))))
 refine J E (J E (AV E E (AD E JD (Ak 1 E E E E jt E E E zT (AU ?_)))))
 refine SQ.heap (H':=DM 5 1 (.slice (some ⟨b1,0,none⟩) 0 cs.size) 0 []::AP b (.cells #[vP b 0,.slice (some ⟨b1,0,none⟩) 0 cs.size] 172)::H) ?_ fun w hw=>fm hw zS zO
 exact Cy (DY E) (AY (M:=[_,_]) ⟨E,_,E⟩ fun _ h=>h.perm (List.Perm.swap _ _ _))
theorem n7(b n:Nat)(p:Value)(hp:Pn b p)(h0:0<n)(hn:n≤281474976710656):zC K w0 100 [vP b 0,vI n] [AP b (.cells #[p,zN] 172)] H (fun r M=>r=.tuple #[]∧∃v,M=[AP b (.cells #[vP b 0,v] 172),DM 5 1 v 0 []]):=by
 refine Ua.enter Tryz.func100 rfl rfl ?_
 refine Z (J E (AQ 1 cz (Rq 172 b p (.slice none 0 0) hp Wq) E (V (AE (Z (J E (Y E Aw (V ?_))))))))
 refine As E (fun hc1=>absurd hc1 zS) (fun hc1=>?_)
 refine AI (AG (AE (Ai CY [0] (Pl.of [(true,0),(true,1),(true,2),(true,3),(true,4),(true,5),(true,6),(true,7),(true,8),(true,9),(true,10),(true,11),(true,12)]) zK (J E (AV E E (AD E JD (AF 0 QL E (fb E CP E (J E (AV E E ?_))))))))))
 refine AD E JD (AF 0 QL E (OG E CP E (Y E (Do zO zO) (J E (Y E Aw (V ?_))))))
 refine As E (fun hc2=>?_) (fun hc2=>absurd hc2 zQ)
 refine AK (J E (J E (Bn 1 sQ (oL b n hn) E ?_)))
 rintro _ _ ⟨rfl,v,rfl⟩
 refine AU ?_
 exact Cy (DY E) (AY (M:=[_,_]) ⟨E,v,E⟩ fun _ h=>h)
theorem Nk(n:Nat)(hn:n≤8192):zC K w0 70 [vS [0],vI n] [] H (fun r M=>r=vS (List.replicate n 0)∧M=[]):=by
 refine Ua.enter Tryz.func70 rfl rfl ?_
 refine Z (O E (V (AE (Z (J E (V (AN (Z (Y E CE (O E (V ?_)))))))))))
 refine As E (fun hc1=>?_) (fun hc1=>?_)
 refine Z (O E (V (AL (Ba (AZ ?_)))))
 exact AX (Df E E) (AY (M:=[]) ⟨by have h0:n=0:=(by simpa using hc1);subst h0;rfl,E⟩ fun _ h=>h.skip [])
 have h0:n≠0:=by intro h;subst h;simp at hc1
 refine Z (Y E CE (O E (V ?_)))
 refine As E (fun hc2=>?_) (fun hc2=>?_)
 refine Z (J E (O E (V (AL (Ba (AZ ?_))))))
 exact AX (Df E E) (AY (M:=[]) ⟨by have h1:n=1:=(by simp at hc2;omega);subst h1;rfl,E⟩ fun _ h=>h.skip [])
 refine AI (Ao (AG (AE (Z (J E (Y E Aw (V ?_)))))))
 refine As E (fun hc3=>absurd hc3 zS) (fun hc3=>?_)
 refine AI (AG (Z (J E (BT E Bo E (Av E E (De FY I8) (J E (Av E E (De FY I8) (AQ 0 oB (np (BX n) (by simp[BX];omega)) E (J E (Am E E E ?_))))))))))
 refine Am E E E (O E (O E (V (AE (Z (J E ?_))))))
 refine Y E (Oz (b:=0)) ?_
 refine J E ?_
 refine C9 (c:=false) 31 3 34 E (fun hb k=>?_) (fun hb k=>?_) ?_
 refine AB E (AB E (Ae E E E ?_))
 exact k.mono tL
 refine J E ?_
 refine Y E (Oz (b:=9223372036854775807)) ?_
 rw[oA n zO]
 refine Ae E E E ?_
 exact k.mono tL
 refine V ?_
 refine As E (fun hc4=>absurd hc4 zD) (fun hc4=>?_)
 refine AI (AG (Z (J E ?_)))
 have hto:((BX n).toNat:Int)=n:=by simp only[BX,UInt64.toNat_ofNat'];omega
 refine Av E E (ka (n:=((BX n).toNat:Int)) I8 FY zO zO) ?_
 rw[hto]
 refine O E (V (AE (Z (J E (BT E Bo E (Y E CE (V ?_)))))))
 refine As E (fun hc5=>absurd hc5 zD) (fun hc5=>?_)
 refine AI (AG (AE (Z (J E (G4 0 E Bo E E zD zD (V (AN (AE (Z ?_)))))))))
 refine Y E (N5 (b:=32)) ?_
 refine O E (V ?_)
 refine As E (fun hc6=>absurd hc6 zD) (fun hc6=>?_)
 refine Z ?_
 refine Y E (N5 (b:=45)) ?_
 refine O E (V ?_)
 refine As E (fun hc7=>absurd hc7 zD) (fun hc7=>?_)
 refine Z ?_
 refine Y E (N5 (b:=48)) ?_
 refine O E (V ?_)
 refine As E (fun hc8=>absurd hc8 zD) (fun hc8=>?_)
 refine Z ?_
 refine Y E (N5 (b:=61)) ?_
 refine O E (V ?_)
 refine As E (fun hc9=>absurd hc9 zD) (fun hc9=>?_)
 refine AK ?_
 refine Y E (N5 (b:=9)) ?_
 refine O E (V ?_)
 refine As E (fun hc10=>absurd hc10 zD) (fun hc10=>?_)
 refine AI (Ao (AG (Z (J E (O E (V (AE (Z (J E (Y E Ca (V ?_)))))))))))
 refine As E (fun hc11=>absurd hc11 zQ) (fun hc11=>?_)
 refine AI (AG (Z ?_))
 refine Ag E de zU fun b0=>?_
 refine V (Z (J E (Bn 1 sN (n7 b0 n _ (.inl E) zO zO) E ?_)))
 rintro _ _ ⟨rfl,v1,rfl⟩
 refine V (Z (J E (Bn 2 VF (M9 172 b0 _ v1 0 [] [0] (.inr E) Wq zS) E ?_)))
 rintro _ _ ⟨rfl,v2,rfl⟩
 refine V (AE (AN ?_))
 refine SX.mono (A6 (α:=Nat×Value) (fun x=>1≤x.1∧x.1≤n) (fun x=>[(0,vS [0]),(7,vI n),(8,vI n),(9,vP b0 0)]) (fun x=>AP b0 (.cells #[vP b0 0,x.2] 172)::DM 5 1 x.2 x.1 ((List.replicate x.1 0).map fun b=>Dt b)::H) (fun x=>n-x.1) (fun x D hp=>?_) (1,v2) ⟨Nat.le_refl _,by simp only;omega⟩) tL
 obtain⟨m,v⟩:=x
 obtain⟨h1,h2⟩:=hp
 simp only at h1 h2
 refine AE (Z (AQ 2 Xy (dV 172 b0 (vP b0 0) v m _) E (J E (Y E Aw (V ?_)))))
 refine As E (fun hc12=>?_) (fun hc12=>?_)
 refine AI (AG (AN (Z (J E (AQ 2 Xy (dV 172 b0 (vP b0 0) v m _) E (Y E (Do zO zO) (AQ 2 Xy (dV 172 b0 (vP b0 0) v m _) E (J E (ln E E E E (O E (V (AK (AQ 2 Oo (LG 172 b0 (vP b0 0) v m (List.replicate m 0) zO) E ?_)))))))))))))
 refine J E (PR (min (n-m) m) E Bo E E zO zQ (Bn 2 VF (M9 172 b0 _ v m _ ((List.replicate m 0).take (min (n-m) m)) (.inr E) Wq zQ) E ?_))
 rintro _ _ ⟨rfl,v',rfl⟩
 refine AU (Ao ?_)
 exact Al (m+min (n-m) m,v') ⟨by simp only;omega,by simp only;omega⟩ (by simp at hc12;simp only;omega) ⟨E,E,E,E,zT⟩ (fun w h=>by
  have e:(List.replicate m 0).map (fun b=>Dt b)++((List.replicate m 0).take (min (n-m) m)).map (fun b=>Dt b)=(List.replicate (m+min (n-m) m) 0).map fun b=>Dt b:=by
   rw[←List.map_append,List.take_replicate,List.replicate_append_replicate];congr 2;omega
  have e2:((List.replicate m (0:UInt8)).take (min (n-m) m)).length=min (n-m) m:=by simp
  rw[e,e2]at h
  exact h)
 refine Ax (A3 (BO (A0 (AG (Z (AQ 2 Oo (LG 172 b0 (vP b0 0) v m (List.replicate m 0) zO) E (O E (V (AL ?_)))))))))
 exact AX (Df E E) (AY (M:=[]) ⟨by have h3:m=n:=(by simp at hc12;omega);subst h3;rfl,E⟩ fun _ h=>h.skip [_,_])
end

section
variable {K:Nat→Prop}{w0:World}{H:List AW}
theorem jL(n:UInt64)(i:Nat)(h:i<8):(Se n).take (i+1)=(Se n).take i++[(shr64 n (56-8*i)).toUInt8]:=by
 have:i=0∨i=1∨i=2∨i=3∨i=4∨i=5∨i=6∨i=7:=zO
 rcases this with rfl | rfl | rfl | rfl | rfl | rfl | rfl | rfl<;>rfl
theorem W1(T:List UInt32)(h:NH)(s:List UInt8):(D7 T h s).2.length=s.length%64:=by
 rw[Lf]
 simp
 omega
theorem dh(T:List UInt32)(h:NH)(rest:List UInt8)(n:Nat)(b:Nat)(e:TypeId)(hT:Tx K w0 3 T)(hTl:T.length=64)(hr:rest.length=n%64)(hn:n≤1099511627776):zC K w0 193 [vP b 0] [AP b (.cells (OF h rest n) e)] H (fun r M=>r=vS ((D7 T h (rest++LU n)).1.list.flatMap Hb)∧M=[AP b (.cells (OF h rest n) e)]):=by
 refine Ua.enter Tryz.func193 rfl rfl ?_
 refine Z (O E (V (AE (Z (J E (Fu E ug E E (V ?_)))))))
 refine As E (fun hc1=>absurd hc1 zS) (fun hc1=>?_)
 refine AI (AG (Z (J E (AV E E ?_))))
 refine Ac (OF h rest n).toList E tV E E (Ce 0 E (fun j u hu=>by simpa using hu)) ?_
 refine Ag E oG zU fun b0=>?_
 refine Og (c':=OF h rest n) 0 E E E E uU E E (List.all_eq_true.1 (show(OF h rest n).toList.all (·.oneCell')=true from E)) zT ?_
 refine V (Z (J E (AV E E (AD E V6 (AF 1 D6 E (Av E E (De FY CR) ?_))))))
 refine Y E (JS (b:=8)) ?_
 refine O E (V (Z (J E (AV E E (AD E V6 (AF 1 D6 E (Y E (WJ zO zO) (Y E (Do zO zO) (Y E (WJ zO zO) ?_)))))))))
 refine O E (V (Z (O E (V (AE (Z (O E (V (AN (JN 5 1 ?_))))))))))
 refine SX.mono (A6 (α:=Nat×Value) (fun x=>x.1≤8) (fun x=>[(3,vP b0 0),(4,Ar (BX n*8)),(5,vI (Lg n)),(6,x.2),(7,vI (56-8*(x.1:Int)))]) (fun x=>DM 5 1 x.2 x.1 (((Se (BX n*8)).take x.1).map fun b=>Dt b)::AP b0 (.cells (OF h rest n) 274)::AP b (.cells (OF h rest n) e)::H) (fun x=>8-x.1) (fun x D hp=>?_) (0,zN) zD) ⟨E,E,?_,E,E,zT⟩
 rotate_left
 have e1:((119-(n:Int)%64)%64)=(Lg n:Int):=by unfold Lg;omega
 rw[←e1]
 rfl
 obtain⟨i,v⟩:=x
 simp only at hp
 refine AE (Z (J E (Y E IW (V ?_))))
 refine As E (fun hc2=>?_) (fun hc2=>?_)
 have hi:i<8:=by simp at hc2;omega
 have e1:(56-8*(i:Int))=((56-8*i:Nat):Int):=zO
 refine AI (AG (AE (AN (AK (J E (J E (J E ?_)))))))
 refine kO E E (congrArg (fun z=>some (vI z)) e1) (FB.shr64 (n:=56-8*i)) ?_
 refine Av E E (HG CR Cn) ?_
 refine Bz [_] E CP KZ LW ⟨E,zT⟩ E E E zX E E zU fun b1=>?_
 refine WC 1 E (m:=1) (news:=[Dt (shr64 (BX n*8) (56-8*i)).toUInt8]) CP KZ Wx LW E zD E E E E (Aa 0 E) (by simp[Value.oneCell']) zO zO zU fun v'=>?_
 refine O E (AU (Ao (AG (AK (J E (Y E (Do zO zO) (O E (AU ?_))))))))
 refine Al (i+1,v') (by simp only;omega) (by simp only;omega) ⟨E,E,E,E,?_,zT⟩ (fun w hw=>by
  simp only
  rw[jL _ _ hi,List.map_append]
  exact hw.skip [_])
 have e2:(56-8*((i+1:Nat):Int))=56-8*(i:Int)-8:=zO
 simp only[e2]
 rfl
 have hi:i=8:=by simp at hc2;omega
 subst hi
 refine Ax (A3 (BO (A0 (AG (AE (Ai CY [0] (Bm [(true,0),(true,3),(true,4),(false,1),(true,2),(true,5)] (.last 6 .nil)) zK (J E (J E ?_))))))))
 refine ZK (s:=Se (BX n*8)) 0 E CP Cn Bo E E ?_
 refine BS 0 QV (Nk (Lg n) (by unfold Lg;omega)) E ⟨⟨0,E⟩,zT⟩ (Y E (Fw (by simp[Lg];omega)) (Y E (Fw (by simp[Lg,Se];omega)) (BK (SL.pick [1] 2 (AQ 1 lK (VM T h rest (LU n) n b0 274 hT hTl zO (by simp[LU,Lg,Se];omega)) E (V (Z (AD E YN (AQ 1 qH (eb (D7 T h (rest++LU n)).1 [vS (D7 T h (rest++LU n)).2,vI n] b0 274) E (O E (V (AL ?_))))))))))))
 exact AX (Df E E) (AY (M:=[_]) ⟨E,E⟩ fun _ h=>h.skip [_])
theorem iZ(hF:Tx K w0 1 Dv.list):zC K w0 191 [] [] H (fun r M=>∃b,r=vP b 0∧M=[AP b (.cells (OF Dv [] 0) 274)]):=by
 refine Ua.enter Tryz.func191 rfl rfl ?_
 refine Z (O E (V (Z ?_)))
 refine Ac (ad:=⟨1,0,none⟩) (Dv.list.map AA) E uH E E (fun w hw j u hu=>by
  rw[CA,Nat.zero_add]
  rw[List.getElem?_map]at hu
  cases hx:Dv.list[j]? with
  | none=>rw[hx]at hu;cases hu
  | some x=>
   rw[hx]at hu
   obtain rfl:=zI hu
   exact Pi (ad:=⟨1,j,none⟩) hF.keep (hF.cell j x hx) w hw) ?_
 refine BJ [_] E uR tJ oG ⟨E,zT⟩ E ?_
 refine Bf E E zU fun b0=>?_
 refine O E (V (AL ?_))
 exact AX (Df E E) (AY (M:=[_]) ⟨b0,E,E⟩ fun _ h=>h)
theorem UZ(T:List UInt32)(v:Value)(ls:List (List UInt8))(hT:Tx K w0 3 T)(hTl:T.length=64)(hF:Tx K w0 1 Dv.list)(hk:CD K w0 UR 1 v ls)(hn:ls.flatten.length≤1099511627776)(hl:ls.length≤1099511627776):zC K w0 153 [v] [] H (fun r M=>r=vS (Mm T ls.flatten)∧M=[]):=by
 refine Ua.enter Tryz.func153 rfl rfl ?_
 refine Z (O E (V (Z (Bn 0 rP (iZ hF) E ?_))))
 rintro _ _ ⟨b0,rfl,rfl⟩
 refine O E (V (AE (Z (J E (B3 hk E Fk E (J E (V (AN ?_))))))))
 have h0:D7 T Dv (ls.take 0).flatten=(Dv,[]):=QA zS
 refine SX.heap (H':=AP b0 (.cells (OF (D7 T Dv (ls.take 0).flatten).1 (D7 T Dv (ls.take 0).flatten).2 ((ls.take 0).flatten.length:Nat)) 274)::H) ?_ (fun w hw=>by rw[h0];exact hw)
 refine SX.mono (A6 (α:=Nat) (fun i=>i≤ls.length) (fun i=>[(3,vP b0 0),(7,v),(8,vI ls.length),(9,vI i)]) (fun i=>AP b0 (.cells (OF (D7 T Dv (ls.take i).flatten).1 (D7 T Dv (ls.take i).flatten).2 ((ls.take i).flatten.length:Nat)) 274)::H) (fun i=>ls.length-i) (fun i D hp=>?_) 0 (Nat.zero_le _)) tL
 refine Z (Y E Aw (V (AE ?_)))
 refine As E (fun hc1=>?_) (fun hc1=>?_)
 have hlt:i<ls.length:=by simpa using hc1
 obtain⟨s,hs⟩:=PI hlt
 have hts:=(FG hs).2
 have hfl:(ls.take (i+1)).flatten=(ls.take i).flatten++s:=by rw[hts];simp
 have hle:(ls.take (i+1)).flatten.length≤1099511627776:=by
  have:ls.flatten=(ls.take (i+1)).flatten++(ls.drop (i+1)).flatten:=by rw[←List.flatten_append,List.take_append_drop]
  rw[this]at hn
  simp only[List.length_append]at hn
  omega
 rw[hfl,List.length_append]at hle
 refine AI (AG (AE (AN (Z ?_))))
 refine RX i s hk E Fk Hp E E E hs fun be off hcell=>?_
 refine Bi E Fm E (fun w hw=>hcell _ w hw 0 _ E) ?_
 refine O E (V (Z (J E (J E (AQ 1 lK (VM T _ _ s _ b0 274 hT hTl (cY T Dv _) zO) E (V (AK (J E (AV E E (AD E V6 (AF 0 D6 E ?_)))))))))))
 refine J E (BT E Bo E (Y E (BV zO zO) (AV E E (AD E V6 (Ak 0 E E E E NK E E E zT (AU (Ao (AG (AK (Y E (BV zO zO) (J E (AU ?_))))))))))))
 refine Al (i+1) hlt zO tL (fun w hw=>by
  rw[hfl,St T Dv (ls.take i).flatten s,List.length_append]
  exact hw)
 have hi:i=ls.length:=by simp at hc1;omega
 have ht:ls.take i=ls:=by rw[hi];exact List.take_length
 rw[ht]
 refine Ax (A3 (BO (A0 (AG (Z (J E (AQ 1 rO (dh T _ _ ls.flatten.length b0 274 hT hTl (W1 T Dv ls.flatten) hn) E (O E (V (AL ?_))))))))))
 exact AX (Df E E) (AY (M:=[]) ⟨by unfold Mm;rw[St T Dv ls.flatten],E⟩ fun _ h=>h.skip [_])
theorem ir(T:List UInt32)(s:List UInt8)(hT:Tx K w0 3 T)(hTl:T.length=64)(hF:Tx K w0 1 Dv.list)(hn:s.length≤1099511627776):zC K w0 194 [vS s] [] H (fun r M=>r=vS (Mm T s)∧M=[]):=by
 refine Ua.enter Tryz.func194 rfl rfl ?_
 refine Z (O E (V (Z (J E ?_))))
 refine Bz [_] E Fk Hp T7 ⟨E,zT⟩ E E E zX E E zU fun b0=>?_
 refine Bg (vs:=[_]) (Hin:=[_]) E E ⟨E,zT⟩ dg E E (CV (B:=[AP b0 (.cells #[vS s] 9)]) (Hin:=[]) fun K' w1 hk hB=>(UZ T _ [s] (hT.keeps hk) hTl (hF.keeps hk) (CD.lent (enc:=UR) (sz:=1) (xs:=[s]) zV (Nat.le_refl 1) E (hB _ (List.mem_cons_self ..))) (by simpa using hn) zS)) ?_
 rintro _ _ ⟨M',rfl,rfl,rfl⟩
 refine⟨trivial,?_⟩
 refine O E (V (AL ?_))
 exact AX (Df E E) (AY (M:=[]) ⟨by simp,E⟩ fun _ h=>h.skip [_])
end

section
variable {K:Nat→Prop}{w0:World}{H:List AW}
structure Ho(K:Nat→Prop)(w0:World)(T:List UInt32):Prop where
 tab:Tx K w0 3 T
 len:T.length=64
 first:Tx K w0 1 Dv.list
theorem Ho.keeps{T:List UInt32}{K':Nat→Prop}{w1:World}(h:Ho K w0 T)(hk:Wc K w0 K' w1):Ho K' w1 T:=⟨h.tab.keeps hk,h.len,h.first.keeps hk⟩
theorem UT(ls:List (List UInt8)):ls.flatMap UR=ls.map vS:=by
 induction ls with
 | nil=>rfl
 | cons s r ih=>rw[List.flatMap_cons,ih];rfl
theorem aN(k:List UInt8)(n i:Nat):(k++List.replicate n 0).getD i 0=k.getD i 0:=by
 simp only[List.getD_eq_getElem?_getD]
 rcases Nat.lt_or_ge i k.length with h | h
 rw[List.getElem?_append_left h]
 rw[List.getElem?_append_right h,List.getElem?_eq_none h]
 rw[List.getElem?_replicate]
 split<;>rfl
theorem gw(T:List UInt32)(v:Value)(ls:List (List UInt8))(hT:Ho K w0 T)(hn:ls.flatten.length≤1099511627776)(hl:ls.length≤1099511627776):zC K w0 153 [v] [DM 9 1 v ls.length (ls.flatMap UR)] H (fun r M=>r=vS (Mm T ls.flatten)∧M=[DM 9 1 v ls.length (ls.flatMap UR)]):=by
 intro w hw
 have h1:=CV (P:=Tryz.prog) (K:=K) (w0:=w0) (f:=153) (args:=[v]) (H:=H) (B:=[DM 9 1 v ls.length (ls.flatMap UR)]) (Hin:=[]) (post:=fun r M=>r=vS (Mm T ls.flatten)∧M=[]) (fun K' w1 hk hB=>UZ T v ls (hT.keeps hk).tab hT.len (hT.keeps hk).first (fW zV (hB _ (List.mem_cons_self ..))) hn hl) w hw
 refine h1.mono ?_
 rintro e w' ⟨r,M,rfl,⟨M',rfl,hr,rfl⟩,hw'⟩
 exact⟨r,_,rfl,⟨hr,rfl⟩,hw'⟩
theorem iF(T:List UInt32)(b:Nat)(ls:List (List UInt8))(hT:Ho K w0 T)(hn:ls.flatten.length≤1099511627776)(hl:ls.length≤1099511627776):zC K w0 153 [.slice (some ⟨b,0,none⟩) ls.length ls.length] [AP b (.cells (DJ vS ls) 9)] H (fun r M=>r=vS (Mm T ls.flatten)∧M=[AP b (.cells (DJ vS ls) 9)]):=by
 intro w hw
 have h1:=CV (P:=Tryz.prog) (K:=K) (w0:=w0) (f:=153) (args:=[.slice (some ⟨b,0,none⟩) ls.length ls.length]) (H:=H) (B:=[AP b (.cells (DJ vS ls) 9)]) (Hin:=[]) (post:=fun r M=>r=vS (Mm T ls.flatten)∧M=[]) (fun K' w1 hk hB=>UZ T _ ls (hT.keeps hk).tab hT.len (hT.keeps hk).first (CD.lent (enc:=UR) (sz:=1) zV (Nat.le_refl _) (by rw[UT,W8];exact List.take_of_length_le zS) (hB _ (List.mem_cons_self ..))) hn hl) w hw
 refine h1.mono ?_
 rintro e w' ⟨r,M,rfl,⟨M',rfl,hr,rfl⟩,hw'⟩
 exact⟨r,_,rfl,⟨hr,rfl⟩,hw'⟩
theorem XQ(T:List UInt32)(key:List UInt8)(c:UInt8)(hT:Ho K w0 T)(hn:key.length≤549755813888):zC K w0 154 [vS key,Dt c] [] H (fun r M=>r=vS (GC T key c)∧M=[]):=by
 refine Ua.enter Tryz.func154 rfl rfl ?_
 refine Z (O E (V ?_))
 refine YQ (α:=Unit) (fun _=>True) (fun _=>[(0,vS (Fh T key)),(1,Dt c)]) (fun _=>H) ?_ (fun x hx=>?_)
 refine Z (J E (BT E Bo E (Y E Ca (V ?_))))
 refine As E (fun hc1=>?_) (fun hc1=>?_)
 refine AK (J rfl (AQ 0 ql (ir T key hT.tab hT.len hT.first zO) rfl (O rfl (AU ?_))))
 have hk:Fh T key=Mm T key:=by unfold Fh;rw[if_pos (by simp at hc1;omega)]
 exact TP () zT (by rw[hk];exact⟨E,E,zT⟩)
 refine AI ?_
 have hk:Fh T key=key:=by unfold Fh;rw[if_neg (by simp at hc1;omega)]
 exact TP () zT (by rw[hk];exact⟨E,E,zT⟩)
 
 have hkl:=W0 T key
 refine Z (J E (J E (BT E Bo E (Y E (Do zO zO) ?_))))
 refine Bg (vs:=[_,_]) (Hin:=[]) E E ⟨E,E,zT⟩ QV (by rw[show(64-(((Fh T key).length:Nat):Int))=((64-(Fh T key).length:Nat):Int) by omega];rfl) E (Nk (64-(Fh T key).length) zO) ?_
 rintro _ _ ⟨rfl,rfl⟩
 refine⟨trivial,?_⟩
 refine Y E (Fw zQ) (O E (V (Z ?_)))
 refine Ag E de zU fun b0=>?_
 refine V (AE (Z (J E (V (AN (JN 5 1 (SX.pick [1,0] 2 ?_)))))))
 refine SX.mono (A6 (α:=Nat×Value×Value) (fun x=>x.1≤64∧Pn b0 x.2.1) (fun x=>[(0,vS (Fh T key++List.replicate (64-(Fh T key).length) 0)),(1,Dt c),(5,vP b0 0),(18,vI x.1)]) (fun x=>AP b0 (.cells #[x.2.1,x.2.2] 172)::DM 5 1 x.2.2 x.1 (((GC T key c).take x.1).map fun b=>Dt b)::H) (fun x=>64-x.1) (fun x D hp=>?_) (0,.pointer none,zN) ⟨by decide,.inl E⟩) tL
 obtain⟨i,p,v⟩:=x
 obtain⟨hp,hadr⟩:=hp
 simp only at hp hadr
 refine Z (Y E Aw (V (AE ?_)))
 refine As E (fun hc2=>?_) (fun hc2=>?_)
 have hi:i<64:=by simp at hc2;omega
 refine AI (AG (AE (AN (Z (J E (O E (V (AK (J E (J E (G4 i E Bo E E zO zQ (J E (Y E Qm (Bn 2 X6 (Oe 172 b0 p v i _ _ hadr Wq zO) E ?_))))))))))))))
 rintro _ _ ⟨rfl,v',rfl⟩
 refine AU (Ao (AG (AK (Y E (BV zO zO) (J E (AU ?_))))))
 refine Al (i+1,vP b0 0,v') ⟨by simp only;omega,.inr E⟩ (by simp only;omega) tL (fun w hw=>by
  have e1:(GC T key c).take (i+1)=(GC T key c).take i++[(Fh T key++List.replicate (64-(Fh T key).length) 0).getD i 0 ^^^ c]:=by
   rw[List.take_add_one,aN]
   simp[GC,hi]
  simp only
  rw[e1,List.map_append]
  exact hw)
 have hi:i=64:=by simp at hc2;omega
 subst hi
 have ht:(GC T key c).take 64=GC T key c:=List.take_of_length_le (by rw[Ln];omega)
 rw[ht]
 refine Ax (A3 (BO (A0 (AG (Z (AQ 2 Oo (LG 172 b0 p v 64 (GC T key c) zO) E (O E (V (AL ?_)))))))))
 exact AX (Df E E) (AY (M:=[]) ⟨E,E⟩ fun _ h=>h.skip [_,_])
theorem Ub(T:List UInt32)(key:List UInt8)(ls:List (List UInt8))(bs:Nat)(hT:Ho K w0 T)(hn:key.length≤549755813888)(hls:ls.flatten.length≤549755813888)(hl:ls.length≤549755813888):zC K w0 112 [vS key,.slice (some ⟨bs,0,none⟩) ls.length ls.length] [AP bs (.cells (DJ vS ls) 9)] H (fun r M=>r=vS (NF T key ls.flatten)∧M=[]):=by
 refine Ua.enter Tryz.func112 rfl rfl ?_
 refine Z (O E (V (Z (J E (AQ 0 lC (XQ T key 54 hT hn) E ?_)))))
 refine Bz [_] E Fk Hp T7 ⟨E,zT⟩ E E E zX E E zU fun b0=>?_
 refine J E ?_
 refine SL.heap (H':=DM 9 1 (.slice (some ⟨b0,0,none⟩) 1 1) 1 [vS (GC T key 54)]::AP bs (.cells (DJ vS ls) 9)::H) ?_ (fun w hw=>eE hw E (Nat.le_refl 1) zD)
 refine WC 0 rfl (m:=ls.length) (news:=ls.map vS) Fk Hp qQ T7 rfl zD rfl rfl rfl zS (Aa 1 rfl) (by intro u hu;obtain⟨x,_,rfl⟩:=List.mem_map.1 hu;rfl) zO zO zU fun v'=>?_
 have e1:DM 9 1 v' (1+ls.length) ([vS (GC T key 54)]++ls.map vS)=DM 9 1 v' (GC T key 54::ls).length ((GC T key 54::ls).flatMap UR):=by
  rw[UT,List.length_cons,Nat.add_comm];rfl
 rw[e1]
 refine AQ 1 dg (gw T v' (GC T key 54::ls) hT (by simp only[List.flatten_cons,List.length_append,Ln];omega) (by simp only[List.length_cons];omega)) E (O E (V (Z (J E (AQ 0 lC (XQ T key 92 hT hn) E (J E ?_))))))
 refine Bz [_,_] E Fk Hp T7 ⟨E,E,zT⟩ E E E zX E E zU fun b1=>?_
 refine AQ 1 dg (iF T b1 [GC T key 92,Mm T (GC T key 54::ls).flatten] hT (by simp[Ln,Ja]) zS) E (O E (V (AL ?_)))
 exact AX (Df E E) (AY (M:=[]) ⟨by simp[NF],E⟩ fun _ h=>h.skip [_,_,_])
theorem ep(a b:List UInt8)(ha:a.length≤549755813888):zC K w0 221 [vS a,vS b] [] H (fun r M=>r=vB (decide (a=b))∧M=[]):=by
 refine Ua.enter Tryz.func221 rfl rfl ?_
 refine Z (O E (V (Z (O E (V (AE (Z (J E (BT E Bo E (J E (BT E Bo E (PW E E E (J E (V (AN ?_)))))))))))))))
 refine SX.mono (A6 (α:=Nat×UInt8) (fun x=>x.1≤min a.length b.length∧(x.2=0↔∀j,j<x.1→a.getD j 0=b.getD j 0)) (fun x=>[(0,vS a),(1,vS b),(5,Dt x.2),(11,vI (min (a.length:Int) b.length)),(12,vI x.1)]) (fun x=>H) (fun x=>min a.length b.length-x.1) (fun x D hp=>?_) (0,0) ⟨Nat.zero_le _,by simp⟩) tL
 obtain⟨i,x⟩:=x
 obtain⟨hi,hx⟩:=hp
 simp only at hi hx
 refine Z (Y E Aw (V (AE ?_)))
 refine As E (fun hc1=>?_) (fun hc1=>?_)
 have hlt:i<min a.length b.length:=by simp at hc1;omega
 refine AI (AG (AE (AN (Z (J E (O E (V (Ai CY [] (Pl.of [(true,0),(true,1),(true,2),(true,3),(true,4),(true,5),(true,6),(true,7),(true,8),(true,9)]) zK (J E (J E (J E (G4 i E Bo E E zO zO (J E ?_)))))))))))))
 refine J E (G4 i E Bo E E zO zO (Y E Qm (Y E fy (O E (AU (Ao (AG (AK (Y E (BV zO zO) (J E (AU ?_)))))))))))
 refine Al (i+1,x ||| (a.getD i 0 ^^^ b.getD i 0)) ⟨hlt,?_⟩ (by simp only;omega) tL
 simp only
 rw[bf,jG,hx]
 constructor
 rintro⟨h1,h2⟩ j hj
 rcases Nat.lt_or_ge j i with h | h
 exact h1 j h
 obtain rfl:j=i:=zO
 exact h2
 intro h
 exact⟨fun j hj=>h j zO,h i zO⟩
 have hie:i=min a.length b.length:=by simp at hc1;omega
 refine Ax (A3 (BO (A0 (AG (Z (J E ?_))))))
 refine Y E (N5 (b:=0)) ?_
 refine J E ?_
 refine C5 (c:=decide ((a.length:Int)=b.length)) 27 6 33 E (fun hb k=>?_) (fun hb k=>?_) ?_
 refine J E (BT E Bo E (J E (BT E Bo E (Y E CE (Ae E E E ?_)))))
 exact k.mono tL
 refine AB E (AB E (AB E (AB E (AB E (Ae E E E ?_)))))
 exact k.mono tL
 refine O E (V (AL ?_))
 refine AX (Df E E) (AY (M:=[]) ⟨?_,E⟩ fun _ h=>h.skip [])
 congr 1
 rw[Bool.eq_iff_iff,Bool.and_eq_true,decide_eq_true_eq,decide_eq_true_eq,decide_eq_true_eq,hx]
 constructor
 rintro⟨h1,h2⟩
 have hl:a.length=b.length:=zO
 refine List.ext_getElem hl fun j hj hj'=>?_
 have:=h1 j zO
 simpa[List.getD_eq_getElem?_getD,hj,hj']using this
 rintro rfl
 exact⟨fun _ _=>rfl,rfl⟩
theorem Xk(T:List UInt32)(key label:List UInt8)(bk bl:Nat)(hT:Ho K w0 T)(hn:key.length≤549755813888)(hl:label.length≤274877906944):li Tryz.prog K w0 211 [vP bk 0,vP bl 0] [AP bl (.cells #[vS label] 9),AP bk (.cells #[vS key] 9)] UR (VI T key label):=by
 intro lp J9 X T1 hy G h0
 refine Ua.enter Tryz.func211 rfl rfl ?_
 refine Z (O E (V (Z (O E (V (AN ?_))))))
 refine SX.mono (A6 (α:=Nat×List AW) (fun x=>x.1≤255∧J9 ((VI T key label).take x.1) x.2) (fun x=>[(0,vY lp),(1,vP bk 0),(2,vP bl 0),(4,vS (Qd T key label x.1)),(5,vI (x.1+1:Nat))]) (fun x=>AP bl (.cells #[vS label] 9)::AP bk (.cells #[vS key] 9)::(x.2++T1)) (fun x=>255-x.1) (fun x D hp=>?_) (0,G) ⟨by simp,h0⟩) tL
 obtain⟨i,G⟩:=x
 obtain⟨hi,hJ⟩:=hp
 simp only at hi hJ
 refine AE (Z (J E (Y E IR (V ?_))))
 refine As E (fun hc1=>?_) (fun hc1=>?_)
 have hlt:i<255:=by simp at hc1;omega
 have hg:=bY T key label i hlt
 have hel:=cl T key label i
 refine AI (AG (AE (AN (Z (AF 1 Fm E (J E (AF 0 Fm E (J E (Av E E (Rg FY Cn) ?_)))))))))
 refine Bz [_] E CP KZ LW ⟨E,zT⟩ E E E zX E E zU fun b0=>?_
 refine Tb [_] E CP Cn Bo E E (Aa 0 E) ?_
 refine Bz [_,_,_] E Fk Hp T7 ⟨E,E,E,zT⟩ E E E zX E E zU fun b1=>?_
 refine AQ 1 dR (Ub T key [Qd T key label i,label,[HN ((i+1:Nat):Int)]] _ hT hn zQ zS) E (O E (V (Z (J E (J E ?_)))))
 have e1:NF T key [Qd T key label i,label,[HN ((i+1:Nat):Int)]].flatten=Qd T key label (i+1):=by simp[Qd]
 rw[e1]
 refine Jb (M2:=[_,_,_]) (G:=G) (T:=T1) (vs:=[_]) (ok:=fun G1=>J9 ((VI T key label).take (i+1)) G1) (no:=X) E E ⟨E,zT⟩ E ?_ (fun bb G1 hG1=>⟨zT,?_⟩)
 intro M
 have:=hy _ _ _ (FG hg).1 G hJ M
 rw[←(FG hg).2]at this
 exact this
 refine CH E E (V ?_)
 refine As E (fun hc2=>?_) (fun hc2=>?_)
 obtain rfl:bb=false:=by simpa using hc2
 refine AL (Ba (AZ (Dq (Ba ?_))))
 exact AX (DY E) (AY (M:=G1) (.inr hG1) fun _ h=>h.skip [_,_,_])
 obtain rfl:bb=true:=by simpa using hc2
 refine AI (Ao (AG (AK (J E (Y E (BV zO zO) (O E (AU ?_)))))))
 exact Al (i+1,G1) ⟨hlt,hG1⟩ (by simp only;omega) tL (fun w hw=>hw.skip [_])
 refine Ax (A3 (BO (A0 ?_)))
 have hle:i=255:=by simp at hc1;omega
 exact Cy (DY E) (AY (M:=G) (.inl (by rw[List.take_of_length_le (by rw[VJ];omega)]at hJ;exact hJ)) fun _ h=>h.skip [_,_])
theorem Xg(key label:List UInt8):zC K w0 188 [vS key,vS label] [] H (fun r M=>∃bk bl,r=.func (.func 211) #[] #[vP bk 0,vP bl 0]∧M=[AP bl (.cells #[vS label] 9),AP bk (.cells #[vS key] 9)]):=by
 refine Ua.enter Tryz.func188 rfl rfl ?_
 refine Z ?_
 refine Bf E E zU fun b0=>?_
 refine Bf E E zU fun b1=>?_
 refine O E (V (Z ?_))
 refine Hj (fv:=#[]) (cv:=#[_,_]) E E E ?_
 refine O E (V (AL ?_))
 exact AX (Df E E) (AY (M:=[_,_]) ⟨b0,b1,E,E⟩ fun _ h=>h)
theorem T8(T:List UInt32)(key label:List UInt8)(hT:Ho K w0 T)(hn:key.length≤549755813888)(hl:label.length≤274877906944):zC K w0 149 [vS key,vS label,vI 32] [] H (fun r M=>r=.tuple #[vS (Gv T key label),vI 0]∧M=[]):=by
 refine Ua.enter Tryz.func149 rfl rfl ?_
 refine Z ?_
 refine Bf E E zU fun b0=>?_
 refine O E (O E (V (LB (AE (Z (AF 0 D6 E (Y E Aw (J E ?_))))))))
 refine C9 (c:=decide ((8160:Int)<32)) 12 3 15 E (fun hb k=>?_) (fun hb k=>?_) ?_
 refine AB E (AB E (Ae E E E ?_))
 exact k.mono tL
 refine AF 0 D6 E (Y E Ca (Ae E E E ?_))
 exact k.mono tL
 refine V ?_
 refine As E (fun hc1=>absurd hc1 zD) (fun hc1=>?_)
 refine AI (AG (Z ?_))
 refine Ag E de zU fun b1=>?_
 refine V (AE (K4 (AG (AE (Z (J E (J E (Bn 0 sA (Xg key label) E ?_))))))))
 rintro _ _ ⟨bk,bl,rfl,rfl⟩
 refine V (JN 5 1 (SX.pick [1,2,3,0,4] 5 (AN ?_)))
 refine Qk (enc:=UR) (VI T key label) (fun pre G=>pre.length≤1∧∃p v,Pn b1 p∧G=AP b1 (.cells #[p,v] 172)::DM 5 1 v pre.flatten.length (pre.flatten.map fun b=>Dt b)::AP b0 (.cells #[vI 32] 3)::H) (fun c G=>c=.exit 0∧∃p v,Pn b1 p∧G=AP b1 (.cells #[p,v] 172)::DM 5 1 v 32 ((Gv T key label).map fun b=>Dt b)::AP b0 (.cells #[vI 32] 3)::H) E r8 E zV (Xk T key label bk bl hT hn hl) E ⟨Nat.zero_le _,_,_,.inl E,E⟩ (fun pre x suf G hxs hJ r lp Rest=>?_) (fun G D hJ=>?_) (fun c G D hX=>?_)
 obtain⟨hpl,p,v,hadr,rfl⟩:=hJ
 have hx0:(VI T key label)[0]? = some (Gv T key label):=by rw[bY T key label 0 zD,mL]
 have he:(Gv T key label).length=32:=Gw ..
 refine AK (O E (AU (Lv (AN (AE (AE (Ai CY [2] (Pl.of [(true,1),(false,0),(true,2)]) zK (AF 0 D6 E (BS 2 Xy (dV 172 b1 p v _ _) E ⟨⟨2,E⟩,zT⟩ (Y E IW (V ?_)))))))))))
 refine As E (fun hc2=>?_) (fun hc2=>?_)
 have hpre:pre=[Gv T key label]:=by
  match pre,hpl with
  | [],_=>simp at hc2
  | [y],_=>rw[hxs]at hx0;simpa using hx0
 subst hpre
 refine Ax (A3 (M7 ?_))
 refine N6 (G:=AP b1 (.cells #[p,v] 172)::DM 5 1 v 32 ((Gv T key label).map fun b=>Dt b)::AP b0 (.cells #[vI 32] 3)::H) ⟨E,p,v,hadr,E⟩ (fun w hw=>?_)
 have e1:[Gv T key label].flatten=Gv T key label:=by simp
 rw[e1,he]at hw
 exact hw
 have hpre:pre=[]:=by
  match pre,hpl with
  | [],_=>rfl
  | [y],_=>
   rw[hxs]at hx0
   obtain rfl:y=Gv T key label:=by simpa using hx0
   simp[he]at hc2
 subst hpre
 obtain rfl:x=Gv T key label:=by rw[hxs]at hx0;simpa using hx0
 refine AI (AG (AK (J E (Bn 2 VF (M9 172 b1 p v _ _ (Gv T key label) hadr Wq (by simp[he])) E ?_))))
 rintro _ _ ⟨rfl,v',rfl⟩
 refine AU (Ao ?_)
 refine I7 (G:=AP b1 (.cells #[vP b1 0,v'] 172)::DM 5 1 v' ([]++[Gv T key label]).flatten.length (([]++[Gv T key label]).flatten.map fun b=>Dt b)::AP b0 (.cells #[vI 32] 3)::H) ⟨by simp,_,v',.inr E,E⟩ (fun w hw=>?_)
 have e1:([]++[Gv T key label]).flatten=Gv T key label:=by simp
 rw[e1]
 simpa using hw
 exact absurd hJ.1 (by rw[VJ];omega)
 obtain⟨rfl,p,v,hadr,rfl⟩:=hX
 have he:(Gv T key label).length=32:=Gw ..
 refine Ax (A0 (AG (AE (Ai CY [2] (Pl.of [(true,1),(false,0),(true,2),(true,3),(true,4)]) zK (AF 0 D6 E (BS 2 Oo (LG 172 b1 p v 32 (Gv T key label) zO) E ⟨⟨2,E⟩,zT⟩ (PR 32 E Bo E E zO zO (O E (O E (V (AL (Fa ?_))))))))))))
 exact AX (GV E E E) (AY (M:=[]) ⟨by rw[List.take_of_length_le zO],E⟩ fun _ h=>h.skip [_,_,_])
end

section
variable {K:Nat→Prop}{w0:World}{H:List AW}
theorem dr(T:List UInt32)(k:BW)(hT:Ho K w0 T):zC K w0 108 [.agg (BA k).toArray] [] H (fun r M=>r=(if Db [k]=true then .tuple #[vS (Hn T k Hu),vS (Hn T k Ih),vI 0]else .tuple #[vS [],vS [],vI 40])∧M=[]):=by
 refine Ua.enter Tryz.func108 rfl rfl ?_
 refine Z ?_
 refine Bf E E zU fun b0=>?_
 refine O E (O E (O E (V (AE (Z (Ac (BA k) E KB E E (Aa 0 E) ?_))))))
 refine Bz [_] E LR Fl Jd ⟨E,zT⟩ E E E (by simp[Value.cells,BA]) E E zU fun b1=>?_
 refine Bg (vs:=[_]) (Hin:=[_]) E E ⟨E,zT⟩ eF E E (CV (B:=[AP b1 (.cells (BA k).toArray 138)]) (Hin:=[]) fun K' w1 hk hB=>QE _ [k] (CD.lent (enc:=BA) (sz:=2) (xs:=[k]) zV (Nat.le_refl 1) E (hB _ (List.mem_cons_self ..))) E zS) ?_
 rintro _ _ ⟨M',rfl,rfl,rfl⟩
 refine⟨trivial,?_⟩
 refine CH E E (V ?_)
 refine As E (fun hc1=>?_) (fun hc1=>?_)
 have hr:Db [k]=false:=by simpa using hc1
 refine Z (O E (O E (O E (V (AL (AZ ?_))))))
 exact AX (SU E E E E) (AY (M:=[]) ⟨by rw[hr];rfl,E⟩ fun _ h=>h.skip [_,_])
 have hr:Db [k]=true:=by simpa using hc1
 have hkl:=W3 hr
 refine AI (AG (Z (AD E Gp (AF 1 A8 E (Av E E (Cw Bv Cn) (AD E Gp (AF 1 A8 E ?_)))))))
 refine Y E (FB.shr32 (n:=8)) ?_
 refine Av E E (Cw Bv Cn) (AD E Gp (AF 1 A8 E ?_))
 refine Y E (FB.shr32 (n:=16)) ?_
 refine Av E E (Cw Bv Cn) (AD E Gp (AF 1 A8 E ?_))
 refine Y E (FB.shr32 (n:=24)) ?_
 refine Av E E (Cw Bv Cn) ?_
 refine Bz [_,_,_,_] E CP KZ LW ⟨E,E,E,E,zT⟩ E E E zX E E zU fun b2=>?_
 refine Tb [_,_,_,_] E CP Cn Bo E E (Aa 0 E) (O E (V (Z (AD E RF (AF 2 Fm E (J E ?_))))))
 refine Y E (Fw (s:=Hu) (t:=GH k.gen) (by simp[GH,Hu])) ?_
 refine AQ 0 kT (T8 T k.secret (Hu++GH k.gen) hT zO (by simp[GH,Hu])) E (J E (Am E E E (Am E E E (O E (O E (V (Z (AD E RF (AF 2 Fm E ?_)))))))))
 refine J E ?_
 refine Y E (Fw (s:=Ih) (t:=GH k.gen) (by simp[GH,Ih])) ?_
 refine AQ 0 kT (T8 T k.secret (Ih++GH k.gen) hT zO (by simp[GH,Ih])) E (J E (Am E E E (Am E E E (O E (O E (V (Z (J E (J E ?_)))))))))
 refine O E (O E (O E (V (AL ?_))))
 exact AX (SU E E E E) (AY (M:=[]) ⟨by rw[hr];rfl,E⟩ fun _ h=>h.skip [_,_,_])
theorem jx(s:List UInt8)(hn:s.length≤9223372036854775807):zC K w0 107 [vS s] [] H (fun r M=>r=(if 198<s.length then .tuple #[vS [],vI 50]else .tuple #[vS (JK s),vI 0])∧M=[]):=by
 refine Ua.enter Tryz.func107 rfl rfl ?_
 refine Z (O E (O E (V (AE (Z (J E (BT E Bo E (Y E Ca (V ?_)))))))))
 refine As E (fun hc1=>?_) (fun hc1=>?_)
 have h0:198<s.length:=by simp at hc1;omega
 refine Z (O E (O E (V (AL (AZ ?_)))))
 exact AX (GV E E E) (AY (M:=[]) ⟨by rw[if_pos h0],E⟩ fun _ h=>h.skip [])
 have h0:¬198<s.length:=by simp at hc1;omega
 have e1:(198-(s.length:Int))=((198-s.length:Nat):Int):=zO
 refine AI (AG (AE (Ai CY [] (Bm [(true,0),(true,1),(true,2),(true,3),(true,4),(true,5),(true,6),(true,9),(true,11),(true,12),(true,13)] (.alt 7 (.alt 8 (Pl.of [(true,10),(false,14),(true,15),(true,16),(true,17)]) (.cons (false,14) (Pl.of [(false,8),(true,10),(true,15),(true,16),(true,17)]))) (.cons (false,14) (Pl.of [(false,7),(false,8),(true,10),(true,15),(true,16),(true,17)])))) zK (J E (BT E Bo E ?_)))))
 refine Y E (ma (n:=8) zO zO) ?_
 refine Av E E (Rg FY Cn) (J E (BT E Bo E (Av E E (Rg FY Cn) (J E (J E (BT E Bo E (Y E (Do zO zO) ?_)))))))
 rw[e1]
 refine Mr ?_ ?_
 refine Bz [_,_] E CP KZ LW ⟨E,E,zT⟩ E E E zX E E zU fun b0=>?_
 refine Mr ?_ ?_
 refine Tb [_,_] E CP Cn Bo E E (Aa 0 E) (Y E (Fw zQ) (AQ 0 QV (Nk (198-s.length) zO) E (Y E (Fw zQ) (O E (O E (V (AL ?_)))))))
 exact AX (GV E E E) (AY (M:=[]) ⟨by rw[if_neg h0];rfl,E⟩ fun _ h=>h.skip [_])
 refine AQ 0 QV (Nk (198-s.length) zO) E (Tb [_,_] E CP Cn Bo E E (Aa 0 E) (Y E (Fw zQ) (Y E (Fw zQ) (O E (O E (V (AL ?_)))))))
 exact AX (GV E E E) (AY (M:=[]) ⟨by rw[if_neg h0];rfl,E⟩ fun _ h=>h.skip [_])
 refine AQ 0 QV (Nk (198-s.length) zO) E ?_
 refine Bz [_,_] E CP KZ LW ⟨E,E,zT⟩ E E E zX E E zU fun b0=>?_
 refine Tb [_,_] E CP Cn Bo E E (Aa 0 E) (Y E (Fw zQ) (Y E (Fw zQ) (O E (O E (V (AL ?_))))))
 exact AX (GV E E E) (AY (M:=[]) ⟨by rw[if_neg h0];rfl,E⟩ fun _ h=>h.skip [_])
theorem eI(b:List UInt8):zC K w0 222 [vS b] [] H (fun r M=>r=.tuple #[vS (FJ b).1,vI (FJ b).2]∧M=[]):=by
 refine Ua.enter Tryz.func222 rfl rfl ?_
 refine Z (O E (O E (V (AE (Z (J E (BT E Bo E (Y E Bb (V ?_)))))))))
 refine As E (fun hc1=>?_) (fun hc1=>?_)
 have h0:b.length≠200:=by simp at hc1;omega
 have hu:FJ b=([],50):=by unfold FJ;rw[if_pos h0]
 rw[hu]
 refine Z (O E (O E (V (AL (AZ ?_)))))
 exact AX (GV E E E) (AY (M:=[]) ⟨E,E⟩ fun _ h=>h.skip [])
 have h0:b.length=200:=by simp at hc1;omega
 have e1:((b.getD 0 0).toNat:Int)*2^(min 8 64)=(((b.getD 0 0).toNat*256:Nat):Int):=by simp
 have hb0:=(b.getD 0 0).toNat_lt
 have hb1:=(b.getD 1 0).toNat_lt
 refine AI (AG (AE (Ai CY [] (Pl.of [(true,0),(true,1),(true,2),(true,3),(true,4),(true,5),(true,6),(true,7),(true,8)]) zK (J E (G4 0 E Bo E E zO zO (Av E E (Mx Cn FY) ?_))))))
 refine Y E (mB (n:=8) (by rw[e1];omega) (by rw[e1];omega)) ?_
 rw[e1]
 refine J E (G4 1 E Bo E E zO zO (Av E E (Mx Cn FY) ?_))
 refine Y E (nz (a:=(b.getD 0 0).toNat*256) (b:=(b.getD 1 0).toNat) zO zO) ?_
 have e2:(b.getD 0 0).toNat*256 ||| (b.getD 1 0).toNat=DO b:=by
  have:=Nat.shiftLeft_add_eq_or_of_lt (i:=8) (b:=(b.getD 1 0).toNat) zO (b.getD 0 0).toNat
  rw[Nat.shiftLeft_eq,show(2:Nat)^8=256 from rfl]at this
  unfold DO
  omega
 rw[e2]
 have hla:DO b<65536:=by unfold DO;omega
 refine O E (V (AE (Z (J E (Y E Ca (V ?_))))))
 refine As E (fun hc2=>?_) (fun hc2=>?_)
 have h1:198<DO b:=by simp at hc2;omega
 have hu:FJ b=([],50):=by unfold FJ;rw[if_neg zO,if_pos h1]
 rw[hu]
 refine Z (O E (O E (V (AL (AZ ?_)))))
 exact AX (GV E E E) (AY (M:=[]) ⟨E,E⟩ fun _ h=>h.skip [])
 have h1:¬198<DO b:=by simp at hc2;omega
 refine AI (AG (Z (O E (V (AE (Z (J E (Y E (Do zO zO) (J E (V (AN ?_)))))))))))
 refine SX.mono (A6 (α:=Nat×UInt8) (fun x=>x.1≤198-DO b∧(x.2=0↔∀j,j<x.1→b.getD (2+DO b+j) 0=0)) (fun x=>[(0,vS b),(4,vI (DO b)),(5,Dt x.2),(21,vI (198-(DO b:Int))),(22,vI x.1)]) (fun x=>H) (fun x=>198-DO b-x.1) (fun x D hp=>?_) (0,0) ⟨Nat.zero_le _,by simp⟩) tL
 obtain⟨i,x⟩:=x
 obtain⟨hi,hx⟩:=hp
 simp only at hi hx
 refine Z (Y E Aw (V (AE ?_)))
 refine As E (fun hc3=>?_) (fun hc3=>?_)
 have hlt:i<198-DO b:=by simp at hc3;omega
 refine AI (AG (AE (AN (Z (J E (O E (V (AK (J E (J E (J E (Y E (BV zO zO) (J E (Y E (BV zO zO) ?_))))))))))))))
 refine G4 (2+DO b+i) E Bo E E zO zO (Y E fy (O E (AU (Ao (AG (AK (Y E (BV zO zO) (J E (AU ?_)))))))))
 refine Al (i+1,x ||| b.getD (2+DO b+i) 0) ⟨hlt,?_⟩ (by simp only;omega) tL
 simp only
 rw[bf,hx]
 constructor
 rintro⟨h1,h2⟩ j hj
 rcases Nat.lt_or_ge j i with h | h
 exact h1 j h
 obtain rfl:j=i:=zO
 exact h2
 intro h
 exact⟨fun j hj=>h j zO,h i zO⟩
 have hie:i=198-DO b:=by simp at hc3;omega
 subst hie
 refine Ax (A3 (BO (A0 (AG (AE (Z (J E ?_)))))))
 refine Y E (gV (b:=0)) ?_
 refine V ?_
 refine As E (fun hc4=>?_) (fun hc4=>?_)
 have hu:FJ b=([],50):=by
  unfold FJ
  rw[if_neg zO,if_neg h1,if_neg (fun hc=>by simp at hc4;exact hc4 (hx.2 hc))]
 rw[hu]
 refine Z (O E (O E (V (AL (AZ ?_)))))
 exact AX (GV E E E) (AY (M:=[]) ⟨E,E⟩ fun _ h=>h.skip [])
 have hu:FJ b=((b.drop 2).take (DO b),0):=by
  unfold FJ
  rw[if_neg zO,if_neg h1,if_pos (show Tf b from hx.1 (by simpa using hc4))]
 rw[hu]
 refine AI (AG (Z (J E (J E (Y E (BV zO zO) (X5 2 (2+DO b) E Bo E E E zO zO zO zO (O E (O E (V (AL ?_))))))))))
 refine AX (GV E E E) (AY (M:=[]) ⟨?_,E⟩ fun _ h=>h.skip [])
 rw[show 2+DO b-2=DO b by omega]
end

section
variable {K:Nat→Prop}{w0:World}{H:List AW}
def sp(x:UInt32):List Value:=[AA x]
theorem cr{s:List UInt8}{j:Nat}(h:j<s.length / 4):(CM s)[j]? = some (KH s (4*j)):=by simp[CM,h]
theorem gP(s:List UInt8)(hs:4≤s.length):zC K w0 226 [vS s] [] H (fun r M=>r=AA (KH s 0)∧M=[]):=by
 refine Ua.enter Tryz.func226 rfl rfl ?_
 refine Z (O E (V (AE (Ai CY [] (Pl.of [(true,0),(true,1),(true,2),(true,3),(true,4),(true,5),(true,6),(true,7),(true,8),(true,9),(true,10),(true,11),(true,12),(true,13),(true,14),(true,15),(true,16),(true,17),(true,18)]) zK (J E (G4 0 E Bo E E zO zO (Av E E (DT Cn Bv) (J E (G4 1 E Bo E E zO zO (Av E E (DT Cn Bv) ?_))))))))))
 refine Y E (FB.shl32 (n:=8)) ?_
 refine Y E Di (J E (G4 2 E Bo E E zO zO (Av E E (DT Cn Bv) ?_)))
 refine Y E (FB.shl32 (n:=16)) ?_
 refine Y E Di (J E (G4 3 E Bo E E zO zO (Av E E (DT Cn Bv) ?_)))
 refine Y E (FB.shl32 (n:=24)) ?_
 refine Y E Di (O E (V (AL ?_)))
 exact AX (Df E E) (AY (M:=[]) ⟨E,E⟩ fun _ h=>h.skip [])
theorem eA(ls:List (List UInt8))(bl bs:Nat)(hl:ls.length≤549755813888)(hls:∀s∈ls,s.length≤549755813888):li Tryz.prog K w0 225 [vP bl 0] [AP bl (.cells #[.slice (some ⟨bs,0,none⟩) ls.length ls.length] 22),AP bs (.cells (DJ vS ls) 9)] sp (ls.flatMap CM):=by
 intro lp J9 X T1 hy G h0
 refine Ua.enter Tryz.func225 rfl rfl ?_
 refine Z (AF 0 PH E (OG E Fk E (J E (V (AN ?_)))))
 refine SX.mono (A6 (α:=Nat×List AW) (fun x=>x.1≤ls.length∧J9 ((ls.take x.1).flatMap CM) x.2) (fun x=>[(0,vY lp),(5,.slice (some ⟨bs,0,none⟩) ls.length ls.length),(6,vI ls.length),(7,vI x.1)]) (fun x=>AP bl (.cells #[.slice (some ⟨bs,0,none⟩) ls.length ls.length] 22)::AP bs (.cells (DJ vS ls) 9)::(x.2++T1)) (fun x=>ls.length-x.1) (fun x D hp=>?_) (0,G) ⟨Nat.zero_le _,h0⟩) tL
 obtain⟨i,G⟩:=x
 obtain⟨hi,hJ⟩:=hp
 simp only at hi hJ
 refine Z (Y E Aw (V (AE ?_)))
 refine As E (fun hc1=>?_) (fun hc1=>?_)
 have hlt:i<ls.length:=by simpa using hc1
 obtain⟨s,hs⟩:=PI hlt
 have hsl:=hls s (List.mem_of_getElem? hs)
 have hsplit:=FG hs
 refine AI (AG (AE (AN (Z ?_))))
 refine sM (n:=i) E Fk Hp E E zO zO ?_
 refine Bi E Fm E (Ck 1 E (E8 hs)) (O E (V (AN ?_)))
 refine SX.mono (A6 (α:=Nat×List AW) (fun x=>x.1≤s.length / 4∧J9 ((ls.take i).flatMap CM++(CM s).take x.1) x.2) (fun x=>[(0,vY lp),(4,vS (s.drop (4*x.1))),(5,.slice (some ⟨bs,0,none⟩) ls.length ls.length),(6,vI ls.length),(7,vI i)]) (fun x=>AP bl (.cells #[.slice (some ⟨bs,0,none⟩) ls.length ls.length] 22)::AP bs (.cells (DJ vS ls) 9)::(x.2++T1)) (fun x=>s.length / 4-x.1) (fun x D hp=>?_) (0,G) ⟨Nat.zero_le _,by simpa using hJ⟩) tL
 obtain⟨j,G⟩:=x
 obtain⟨hj,hJ2⟩:=hp
 simp only at hj hJ2
 refine AE (Z (J E (BT E Bo E (Y E IW (V ?_)))))
 refine As E (fun hc2=>?_) (fun hc2=>?_)
 have hjlt:j<s.length / 4:=by simp at hc2;omega
 have hw:=cr hjlt
 have hws:=FG hw
 refine AI (AG (AE (AN (Z (J E (J E (AQ 0 qO (gP (s.drop (4*j)) zQ) E ?_)))))))
 rw[c9,Nat.add_zero]
 refine Jb (M2:=[_,_]) (G:=G) (T:=T1) (vs:=[_]) (ok:=fun G1=>J9 ((ls.take i).flatMap CM++(CM s).take (j+1)) G1) (no:=X) E E ⟨E,zT⟩ E ?_ (fun bb G1 hG1=>⟨zT,?_⟩)
 intro M
 have e1:ls.flatMap CM=((ls.take i).flatMap CM++(CM s).take j)++KH s (4*j)::((CM s).drop (j+1)++(ls.drop (i+1)).flatMap CM):=by
  have h1:ls.flatMap CM=(ls.take i).flatMap CM++(CM s++(ls.drop (i+1)).flatMap CM):=by
   rw[←List.flatMap_cons,←List.flatMap_append,←hsplit.1]
  have h2:CM s++(ls.drop (i+1)).flatMap CM=(CM s).take j++KH s (4*j)::((CM s).drop (j+1)++(ls.drop (i+1)).flatMap CM):=by
   rw[←List.cons_append,←List.append_assoc,←hws.1]
  rw[h1,h2,List.append_assoc]
 have:=hy _ _ _ e1 G hJ2 M
 rw[List.append_assoc,←hws.2]at this
 exact this
 refine CH E E (V ?_)
 refine As E (fun hc3=>?_) (fun hc3=>?_)
 obtain rfl:bb=false:=by simpa using hc3
 refine AL (Ba (AZ (Dq (Ba (Ba (AZ (Dq (Ba ?_))))))))
 exact AX (DY E) (AY (M:=G1) (.inr hG1) fun _ h=>h.skip [_,_])
 obtain rfl:bb=true:=by simpa using hc3
 refine AI (Ao (AG (AK (J E (OH 4 E Bo E E zO zQ ?_)))))
 rw[List.drop_drop,show 4*j+4=4*(j+1) by omega]
 refine O E (AU ?_)
 exact Al (j+1,G1) ⟨hjlt,hG1⟩ (by simp only;omega) tL
 have hje:j=s.length / 4:=by simp at hc2;omega
 refine Ax (A3 (BO (A0 (Ao (AG (AK (Y E (BV zO zO) (J E (AU ?_)))))))))
 refine Al (i+1,G) ⟨hlt,?_⟩ (by simp only;omega) tL
 simp only
 rw[hsplit.2,List.flatMap_append,List.flatMap_cons,List.flatMap_nil,List.append_nil]
 have ht:(CM s).take j=CM s:=List.take_of_length_le (by rw[EL];omega)
 rw[ht]at hJ2
 exact hJ2
 have hle:i=ls.length:=by simp at hc1;omega
 refine Ax (A3 (BO (A0 ?_)))
 exact Cy (DY E) (AY (M:=G) (.inl (by rw[hle,List.take_length]at hJ;exact hJ)) fun _ h=>h.skip [_,_])
theorem dn(ls:List (List UInt8))(bs:Nat):zC K w0 212 [.slice (some ⟨bs,0,none⟩) ls.length ls.length] [AP bs (.cells (DJ vS ls) 9)] H (fun r M=>∃bl,r=.func (.func 225) #[] #[vP bl 0]∧M=[AP bl (.cells #[.slice (some ⟨bs,0,none⟩) ls.length ls.length] 22),AP bs (.cells (DJ vS ls) 9)]):=by
 refine Ua.enter Tryz.func212 rfl rfl ?_
 refine Z ?_
 refine Bf E E zU fun b0=>?_
 refine O E (V (Z ?_))
 refine Hj (fv:=#[]) (cv:=#[_]) E E E ?_
 refine O E (V (AL ?_))
 exact AX (Df E E) (AY (M:=[_,_]) ⟨b0,E,E⟩ fun _ h=>h)
theorem eQ(key nonce:List UInt8)(counter:UInt32)(hk:key.length=32)(hn:nonce.length=12):zC K w0 189 [vS key,AA counter,vS nonce] [] H (fun r M=>r=.agg (DJ AA (IT key counter nonce))∧M=[]):=by
 refine Ua.enter Tryz.func189 rfl rfl ?_
 refine Z ?_
 refine Ag E eX zU fun b0=>?_
 refine V (LB (Z ?_))
 refine Ag E eX zU fun b1=>?_
 refine V (Z ?_)
 refine Ag E rM zU fun b2=>?_
 refine Ak 0 E E E E NK E E E zT (V (Z (J E (Av E E (Cw Bv Cn) (J E ?_)))))
 refine Y E (FB.shr32 (n:=8)) ?_
 refine Av E E (Cw Bv Cn) (J E ?_)
 refine Y E (FB.shr32 (n:=16)) ?_
 refine Av E E (Cw Bv Cn) (J E ?_)
 refine Y E (FB.shr32 (n:=24)) ?_
 refine Av E E (Cw Bv Cn) ?_
 refine Bz [_,_,_,_] E CP KZ LW ⟨E,E,E,E,zT⟩ E E E zX E E zU fun b3=>?_
 refine Tb [_,_,_,_] E CP Cn Bo E E (Aa 0 E) (O E (V (AE (K4 (AG (AE (Z (J E (J E (J E ?_))))))))))
 refine Bz [_,_,_,_] E Fk Hp T7 ⟨E,E,E,E,zT⟩ E E E zX E E zU fun b4=>?_
 refine Bn 1 qU (dn [Kr,key,GH counter,nonce] b4) E ?_
 rintro _ _ ⟨bl,rfl,rfl⟩
 refine V ?_
 have hbl:=M1 (counter:=counter) hk hn
 have hfm:[Kr,key,GH counter,nonce].flatMap CM=IT key counter nonce:=by simp[IT,List.flatMap_cons]
 refine AN ?_
 refine Qk (enc:=sp) ([Kr,key,GH counter,nonce].flatMap CM) (fun pre G=>G=AP b3 (.cells (DJ Dt (GH counter)) 5)::AP b2 (.cells #[vI pre.length] 3)::AP b1 (.cells (DJ AA (pre++List.replicate (16-pre.length) 0)) 265)::AP b0 (.cells (DJ AA (List.replicate 16 0)) 265)::H) (fun c G=>False) E sP E zV (eA [Kr,key,GH counter,nonce] bl b4 zS (by simp[hk,hn,Kr,GH])) E E (fun pre x suf G hxs hJ r lp Rest=>?_) (fun G D hJ=>?_) (fun c G D hX=>hX.elim)
 obtain rfl:=hJ
 have hlt:pre.length<16:=by
  rw[hfm]at hxs
  rw[hxs]at hbl
  simp at hbl
  omega
 refine AK (O E (AU (Lv (AN (AE (Z (AF 1 D6 E (Y E CE (V ?_)))))))))
 refine As E (fun hc1=>absurd hc1 zQ) (fun hc1=>?_)
 refine AI (AG (Z (AF 1 D6 E (J E ?_))))
 refine Cx (n:=pre.length) E QW Bj E E zO zO ?_
 refine Vz (f:=AA) 2 E E E E Bj E E zQ zT ?_
 rw[Tc pre 0 x 16 pre.length rfl hlt]
 refine V (AK (AF 1 D6 E (Y E (BV zO zO) (Ak 1 E E E E NK E E E zT (AU (Ao ?_))))))
 refine I7 (G:=_::_::_::_::H) ?_ (fun _ h=>h)
 have e1:(pre++[x]).length=pre.length+1:=by simp
 rw[e1]
 rfl
 obtain rfl:=hJ
 rw[hfm,hbl]
 have e1:IT key counter nonce++List.replicate (16-16) 0=IT key counter nonce:=by simp
 rw[e1]
 refine Ao (AG (Z ?_))
 refine Ac ((IT key counter nonce).map AA) E jp (by simp[hbl]) E (Ce 2 E (fun j u hu=>by simpa[DJ]using hu)) ?_
 refine Og 3 E E E E oY (by simp[hbl]) (by simp[DJ]) (OK zV (IT key counter nonce)) zT ?_
 refine V (AL (Fa ?_))
 exact AX (ES E (BB 3 ((IT key counter nonce).map AA) jp (by simp[hbl]) E E (by simp only[List.drop_zero];exact List.take_of_length_le (by simp[hbl])))) (AY (M:=[]) ⟨E,E⟩ fun _ h=>h.skip [_,_,_,_])
end

section
variable {K:Nat→Prop}{w0:World}{H:List AW}
theorem mn:∀n:Fin 32,(BX (n.1:Int) &&& 31).toNat=n.1∧(32-(BX (n.1:Int) &&& 31)).toNat=32-n.1:=by decide
theorem bo(x:UInt32)(n:Nat)(h1:n<32):Vw x (n:Int)=rl x n:=by
 obtain⟨e1,e2⟩:=mn ⟨n,h1⟩
 simp only at e1 e2
 unfold Vw rl
 rw[e1,e2]
theorem lO:∀i,dZ i<32 | 0=>(by decide:16<32) | _+1=>(by decide:8<32)
theorem lj:∀i,cm i<32 | 0=>(by decide:12<32) | _+1=>(by decide:7<32)
theorem TK(q:Q4):zC K w0 213 [AA q.a,AA q.b,AA q.c,AA q.d] [] H (fun r M=>r=.agg (DJ AA q.quarter.list)∧M=[]):=by
 refine Ua.enter Tryz.func213 rfl rfl ?_
 refine Z ?_
 refine Ag E Sg zU fun b0=>?_
 refine V (AE (Z (S3 [vI 16,vI 12] E em NK j0 E ⟨E,E,zT⟩ E E zX (S3 [vI 8,vI 7] E em NK j0 E ⟨E,E,zT⟩ E E zX ?_))))
 refine BJ (r:=#[vI 16,vI 12,vI 8,vI 7]) [_,_] E um uA tS ⟨E,E,zT⟩ E ?_
 refine J E (V (AN ?_))
 refine SX.mono (A6 (α:=Nat) (fun i=>i≤2) (fun i=>[(0,AA (q.steps i).a),(1,AA (q.steps i).b),(2,AA (q.steps i).c),(3,AA (q.steps i).d),(8,vP b0 0),(13,.agg #[vI 16,vI 12,vI 8,vI 7]),(14,vI i)]) (fun i=>AP b0 (.cells (DJ AA [0,0,0,0]) 288)::H) (fun i=>2-i) (fun i D hp=>?_) 0 zO) tL
 refine Z (Y E Aw (V (AE ?_)))
 refine As E (fun hc1=>?_) (fun hc1=>?_)
 have hi:i<2:=by simp at hc1;omega
 refine AI (AG (AE (AN (Z ?_))))
 refine TE (i:=i) (c':=#[vI (dZ i:Int),vI (cm i:Int)]) rfl uw tj rfl rfl zO zO (by rcases(by omega:i=0∨i=1)with rfl | rfl<;>rfl) ?_
 refine Ag E j0 zU fun b1=>?_
 refine Ak 0 E E E E td E E E zT (V (Z (J E (J E (Y E B0 (O E (V (Z (J E (J E (Y E CZ ?_)))))))))))
 refine Cx (n:=0) E em NK E E zO zO ?_
 refine AF 0 D6 E (AQ 0 dK (Ht _ (dZ i:Int)) E ?_)
 rw[bo _ _ (lO i)]
 refine O E (V (Z (J E (J E (Y E B0 (O E (V (AK (J E (J E (Y E CZ ?_)))))))))))
 refine Cx (n:=1) E em NK E E zO zO ?_
 refine AF 0 D6 E (AQ 0 dK (Ht _ (cm i:Int)) E ?_)
 rw[bo _ _ (lj i)]
 refine O E (AU (Ao (AG (AK (Y E (BV zO zO) (J E (AU ?_)))))))
 exact Al (i+1) zO zO tL (fun w hw=>hw.skip [_])
 have hi:i=2:=by simp at hc1;omega
 subst hi
 refine Ax (A3 (BO (A0 (AG (Z (J E (J E (J E (J E ?_)))))))))
 refine S3 (q.quarter.list.map AA) rfl QO Bj Sg rfl ⟨rfl,rfl,rfl,rfl,trivial⟩ rfl rfl (fun v hv=>by obtain⟨x,_,rfl⟩:=List.mem_map.1 hv;rfl) ?_
 refine Og 0 E E E E Wr E E (OK zV q.quarter.list) zT ?_
 refine V (AL ?_)
 exact AX (ES E (BB 0 (q.quarter.list.map AA) jQ E E E E)) (AY (M:=[]) ⟨E,E⟩ fun _ h=>h.skip [_])
theorem Vh(ws:List UInt32)(step:Nat)(b:Nat)(e:TypeId)(hw:ws.length=16)(hs:step≤1):zC K w0 190 [vP b 0,vI step] [AP b (.cells (DJ AA ws) e)] H (fun r M=>r=.tuple #[]∧M=[AP b (.cells (DJ AA (U7 ws step)) e)]):=by
 refine Ua.enter Tryz.func190 rfl rfl ?_
 refine Z (J E (V (AN ?_)))
 refine SX.mono (A6 (α:=Nat) (fun i=>i≤4) (fun i=>[(0,vP b 0),(1,vI step),(10,vI i)]) (fun i=>AP b (.cells (DJ AA (Dj ws step i)) e)::H) (fun i=>4-i) (fun i D hp=>?_) 0 zO) tL
 have hwl:(Dj ws step i).length=16:=(Ku ws step i).trans hw
 refine Z (Y E Aw (V (AE ?_)))
 refine As E (fun hc1=>?_) (fun hc1=>?_)
 have hi:i<4:=by simp at hc1;omega
 have h16:∀k,k<4→Ik step i k<16:=fun k hk=>by unfold Ik;omega
 refine AI (AG (AE (AN (Z (J E (O E (V (Z ?_))))))))
 refine Ag E uf zU fun b0=>?_
 refine V (AE (Z (J E (V (AN ?_)))))
 refine SX.mono (A6 (α:=Nat) (fun k=>k≤4) (fun k=>[(0,vP b 0),(1,vI step),(4,vI i),(5,vP b0 0),(10,vI i),(13,vI k)]) (fun k=>AP b0 (.cells (DJ vI (((List.range k).map fun j=>((Ik step i j:Nat):Int))++List.replicate (4-k) 0)) 287)::AP b (.cells (DJ AA (Dj ws step i)) e)::H) (fun k=>4-k) (fun k D hp=>?_) 0 zO) tL
 refine Z (Y E Aw (V (AE ?_)))
 refine As E (fun hc2=>?_) (fun hc2=>?_)
 have hk:k<4:=by simp at hc2;omega
 have hks:k*step≤3:=Nat.le_trans (Nat.mul_le_mul_left k hs) zO
 have hks2:((k:Int)*step)=((k*step:Nat):Int):=by simp
 refine AI (AG (AE (AN (Z (J E (O E (V (AK (J E (J E (Y E (LC zO zO) (J E (J E (J E ?_))))))))))))))
 refine Y E (LC zO zO) (Y E (BV zO zO) (Y E (WJ zO zO) (Y E (BV zO zO) ?_)))
 refine Cx (n:=k) E Ww NK E E zO zO ?_
 refine Vz (f:=vI) 0 E E E E NK E E zQ zT ?_
 rw[Tc _ _ _ 4 k zS hk]
 refine AU (Ao (AG (AK (Y E (BV zO zO) (J E (AU ?_))))))
 refine Al (k+1) zO zO tL (fun w hw=>?_)
 have e1:(4*(k:Int)+((i:Int)+(k:Int)*step)%4)=((Ik step i k:Nat):Int):=by simp[Ik]
 simp only[List.range_succ,List.map_append,List.map_cons,List.map_nil]
 rw[e1]at hw
 exact hw
 have hk:k=4:=by simp at hc2;omega
 subst hk
 have hat:((List.range 4).map fun j=>((Ik step i j:Nat):Int))++List.replicate (4-4) 0=[((Ik step i 0:Nat):Int),((Ik step i 1:Nat):Int),((Ik step i 2:Nat):Int),((Ik step i 3:Nat):Int)]:=by rfl
 rw[hat]
 refine Ax (A3 (BO (A0 (AG ?_))))
 generalize hq:(⟨(Dj ws step i).getD (Ik step i 0) 0,(Dj ws step i).getD (Ik step i 1) 0,(Dj ws step i).getD (Ik step i 2) 0,(Dj ws step i).getD (Ik step i 3) 0⟩:Q4)=q
 refine YQ (α:=Nat) (fun _=>True) (fun x=>[(0,vP b 0),(1,vI step),(5,vP b0 0),(7,vP x 0),(10,vI i)]) (fun x=>AP x (.cells (DJ AA q.quarter.list) 288)::AP b0 (.cells (DJ vI [((Ik step i 0:Nat):Int),((Ik step i 1:Nat):Int),((Ik step i 2:Nat):Int),((Ik step i 3:Nat):Int)]) 287)::AP b (.cells (DJ AA (Dj ws step i)) e)::H) ?_ (fun x hx=>?_)
 refine Ai CY [0,1] (Bm [(true,0),(true,1),(true,2),(true,3),(true,4),(true,5),(true,6),(true,7),(true,8),(true,9),(true,10),(true,11),(true,12),(true,13),(true,14),(true,15),(true,16),(true,17),(true,18),(true,19),(true,20),(true,21),(true,22),(true,23)] (.alt 24 (Pl.of [(false,25),(false,26)]) (.cons (false,25) (Pl.of [(false,24),(false,26)])))) zK (J E ?_)
 refine Cx (n:=0) E Ww NK E E zO zO ?_
 refine AF 0 D6 E (AV E E ?_)
 refine Cx (n:=Ik step i 0) E QW Bj E E E (h16 _ zO) ?_
 refine Bi E A8 E (Ck 1 E (E8 (I6 0 (by rw[hwl];exact h16 _ zO)))) (J E ?_)
 refine Cx (n:=1) E Ww NK E E zO zO ?_
 refine AF 0 D6 E (AV E E ?_)
 refine Cx (n:=Ik step i 1) E QW Bj E E E (h16 _ zO) ?_
 refine Bi E A8 E (Ck 1 E (E8 (I6 0 (by rw[hwl];exact h16 _ zO)))) (J E ?_)
 refine Cx (n:=2) E Ww NK E E zO zO ?_
 refine AF 0 D6 E (AV E E ?_)
 refine Cx (n:=Ik step i 2) E QW Bj E E E (h16 _ zO) ?_
 refine Bi E A8 E (Ck 1 E (E8 (I6 0 (by rw[hwl];exact h16 _ zO)))) (J E ?_)
 refine Cx (n:=3) E Ww NK E E zO zO ?_
 refine AF 0 D6 E (AV E E ?_)
 refine Cx (n:=Ik step i 3) E QW Bj E E E (h16 _ zO) ?_
 refine Bi E A8 E (Ck 1 E (E8 (I6 0 (by rw[hwl];exact h16 _ zO)))) ?_
 refine Mr ?_ ?_
 refine Bg (vs:=[_,_,_,_]) (Hin:=[]) E E ⟨E,E,E,E,zT⟩ kZ (by rw[←hq];rfl) E (TK q) ?_
 rintro _ _ ⟨rfl,rfl⟩
 refine⟨⟨⟨0,rfl⟩,⟨1,rfl⟩,trivial⟩,?_⟩
 refine Ag E Sg (fun _=>⟨⟨1,E⟩,⟨2,E⟩,zT⟩) fun b1=>?_
 refine Og 0 E E E E Wr E E (OK zV q.quarter.list) ⟨⟨1,E⟩,⟨2,E⟩,zT⟩ ?_
 refine AU ?_
 exact TP b1 zT tL
 refine Ag E Sg (fun _=>⟨⟨1,E⟩,⟨2,E⟩,zT⟩) fun b1=>?_
 refine Bg (vs:=[_,_,_,_]) (Hin:=[]) E E ⟨E,E,E,E,zT⟩ kZ (by rw[←hq];rfl) E (TK q) ?_
 rintro _ _ ⟨rfl,rfl⟩
 refine⟨⟨⟨1,rfl⟩,⟨2,rfl⟩,trivial⟩,?_⟩
 refine Og 0 E E E E Wr E E (OK zV q.quarter.list) ⟨⟨1,E⟩,⟨2,E⟩,zT⟩ ?_
 refine AU ?_
 exact TP b1 zT tL
 
 refine Z (Ac (q.quarter.list.map AA) E jQ E E (Aa 0 E) (J E (V (AN ?_))))
 refine SX.mono (A6 (α:=Nat) (fun k=>k≤4) (fun k=>[(0,vP b 0),(1,vI step),(5,vP b0 0),(10,vI i),(53,.agg (DJ AA q.quarter.list)),(54,vI k)]) (fun k=>AP x (.cells (DJ AA q.quarter.list) 288)::AP b0 (.cells (DJ vI [((Ik step i 0:Nat):Int),((Ik step i 1:Nat):Int),((Ik step i 2:Nat):Int),((Ik step i 3:Nat):Int)]) 287)::AP b (.cells (DJ AA (Uv (Dj ws step i) (Ik step i) q.quarter.list k)) e)::H) (fun k=>4-k) (fun k D hp=>?_) 0 zO) tL
 refine Z (Y E Aw (V (AE ?_)))
 refine As E (fun hc3=>?_) (fun hc3=>?_)
 have hk:k<4:=by simp at hc3;omega
 have hix:[((Ik step i 0:Nat):Int),((Ik step i 1:Nat):Int),((Ik step i 2:Nat):Int),((Ik step i 3:Nat):Int)][k]? = some ((Ik step i k:Nat):Int):=by
  rcases(by omega:k=0∨k=1∨k=2∨k=3)with rfl | rfl | rfl | rfl<;>rfl
 have hsl:(Uv (Dj ws step i) (Ik step i) q.quarter.list k).length=16:=(QK ..).trans hwl
 refine AI (AG (AE (AN (Z (J E ?_)))))
 refine Ol (i:=k) E QO A8 E E zO zO (E8 (I6 0 hk)) ?_
 refine O E (O E (V (Ai CY [1] (Bm [(true,0),(true,1),(true,2),(true,3),(true,4),(true,5),(true,6)] (.last 7 .nil)) zK (J E (J E ?_)))))
 refine Cx (n:=k) E Ww NK E E zO zO ?_
 refine Bi E D6 E (Ck 0 E (E8 hix)) (J E (AV E E ?_))
 refine Cx (n:=Ik step i k) E QW Bj E E E (h16 _ hk) ?_
 refine BK ?_
 refine Vz (f:=AA) 2 E E E E Bj E E (by rw[hsl];exact h16 _ hk) zT ?_
 refine AU (Ao (AG (AK (Y E (BV zO zO) (J E (AU ?_))))))
 exact Al (k+1) zO zO tL
 have hk:k=4:=by simp at hc3;omega
 subst hk
 refine Ax (A3 (BO (A0 (Ao (AG (AK (Y E (BV zO zO) (J E (AU ?_)))))))))
 refine Al (i+1) zO zO tL (fun w hw=>?_)
 have e1:Uv (Dj ws step i) (Ik step i) q.quarter.list 4=Dj ws step (i+1):=by rw[Dj,ml,hq]
 rw[e1]at hw
 exact hw.skip [_,_]
 have hi:i=4:=by simp at hc1;omega
 subst hi
 refine Ax (A3 (BO (A0 ?_)))
 exact Cy (DY E) (AY (M:=[_]) ⟨E,E⟩ fun _ h=>h)
end

section
variable {K:Nat→Prop}{w0:World}{H:List AW}
theorem mS(W B:List UInt32)(i:Nat)(h1:i<W.length)(h2:i<B.length):(List.zipWith (·+·) W B).take (i+1)=(List.zipWith (·+·) W B).take i++[W.getD i 0+B.getD i 0]:=by
 rw[List.take_add_one,List.getElem?_eq_getElem zQ]
 simp[List.getD_eq_getElem?_getD,h1,h2]
theorem iI(j:Nat):UInt32.ofNat j+1=UInt32.ofNat (j+1):=by
 apply UInt32.toNat_inj.1
 simp
theorem i6(key nonce s:List UInt8)(n:Nat)(h:n<s.length):(Gl key nonce s).take (n+1)=(Gl key nonce s).take n++[s.getD n 0 ^^^ PK key nonce n]:=by
 rw[List.take_add_one,List.getElem?_eq_getElem (by rw[Fb];exact h)]
 simp[Gl]
theorem d9(key nonce:List UInt8)(counter:UInt32)(hk:key.length=32)(hn:nonce.length=12):zC K w0 150 [vS key,AA counter,vS nonce] [] H (fun r M=>r=.tuple #[vS (KL key counter nonce),vI 0]∧M=[]):=by
 refine Ua.enter Tryz.func150 rfl rfl ?_
 refine Z (O E (O E (V (AE (Z (J E (BT E Bo E (Y E Bb (J E ?_)))))))))
 refine C9 (c:=(!decide ((nonce.length:Int)=12))) 16 4 20 E (fun hb k=>?_) (fun hb k=>?_) ?_
 refine AB E (AB E (AB E (Ae E E E ?_)))
 exact k.mono tL
 refine J E (BT E Bo E (Y E Bb (Ae E E E ?_)))
 exact k.mono tL
 refine V ?_
 refine As E (fun hc1=>absurd hc1 (by simp[hk,hn])) (fun hc1=>?_)
 refine AI (AG (Z (J E (J E (J E (AQ 0 rn (eQ key nonce counter hk hn) E ?_))))))
 have hB:=M1 (counter:=counter) hk hn
 generalize hBe:IT key counter nonce=B at hB
 refine Ag E eX zU fun b0=>?_
 refine Og (c':=DJ AA B) 0 E E E E oY (by rw[TX];exact hB) E (OK zV B) zT ?_
 refine V (Z ?_)
 refine Ag E eX zU fun b1=>?_
 refine V (AE (Ai CY [] (Bm [(true,0),(true,1)] (.last 2 .nil)) zK (lJ E QW Bj E zD (lJ E QW Bj E zD (BK ?_)))))
 refine rV (f:=AA) (xs:=List.replicate 16 0) (ys:=B) 0 1 E CO Bj E E E E E hB zV zT ?_
 refine V (AE (Z (J E (V (AN ?_)))))
 refine SX.mono (A6 (α:=Nat) (fun i=>i≤10) (fun i=>[(8,vP b0 0),(9,vP b1 0),(28,vI i)]) (fun i=>AP b1 (.cells (DJ AA (Sc B i)) 265)::AP b0 (.cells (DJ AA B) 265)::H) (fun i=>10-i) (fun i D hp=>?_) 0 zO) tL
 have htl:=(NA B i).trans hB
 refine Z (Y E Aw (V (AE ?_)))
 refine As E (fun hc2=>?_) (fun hc2=>?_)
 have hi:i<10:=by simp at hc2;omega
 refine AI (AG (AE (AN (Z (AQ 1 j6 (Vh (Sc B i) 0 b1 265 htl zO) E (V (AK (AQ 1 j6 (Vh (U7 (Sc B i) 0) 1 b1 265 ((Ku ..).trans htl) zO) E (AU (Ao (AG (AK (Y E (BV zO zO) (J E (AU ?_)))))))))))))))
 exact Al (i+1) zO zO tL
 have hi:i=10:=by simp at hc2;omega
 subst hi
 generalize hW:Sc B 10=W at htl
 refine Ax (A3 (BO (A0 (AG (Z (O E (V (AE (Z (Ac (W.map AA) E jp (by simp[htl]) E (Aa 0 E) (J E (V (AN (JN 5 1 ?_))))))))))))))
 refine SX.mono (A6 (α:=Nat×Value) (fun x=>x.1≤16) (fun x=>[(8,vP b0 0),(10,x.2),(33,.agg (DJ AA W)),(34,vI x.1)]) (fun x=>DM 5 1 x.2 (4*x.1) ((((List.zipWith (·+·) W B).take x.1).flatMap GH).map fun b=>Dt b)::AP b1 (.cells (DJ AA W) 265)::AP b0 (.cells (DJ AA B) 265)::H) (fun x=>16-x.1) (fun x D hp=>?_) (0,zN) zD) tL
 obtain⟨i,v⟩:=x
 simp only at hp
 refine Z (Y E Aw (V (AE ?_)))
 refine As E (fun hc3=>?_) (fun hc3=>?_)
 have hi:i<16:=by simp at hc3;omega
 refine AI (AG (AE (AN (Z (J E ?_)))))
 refine Ol (i:=i) E QW A8 E E zO zO (E8 (I6 0 zO)) ?_
 refine O E (O E (V (Z (J E (J E ?_)))))
 refine Cx (n:=i) E QW Bj E E zO zO ?_
 refine Bi E A8 E (Ck 2 E (E8 (I6 0 zO))) (Y E B0 (O E (V (AK (J E (J E (Av E E (Cw Bv Cn) (J E ?_))))))))
 refine Y E (FB.shr32 (n:=8)) ?_
 refine Av E E (Cw Bv Cn) (J E ?_)
 refine Y E (FB.shr32 (n:=16)) ?_
 refine Av E E (Cw Bv Cn) (J E ?_)
 refine Y E (FB.shr32 (n:=24)) ?_
 refine Av E E (Cw Bv Cn) ?_
 refine Bz [_,_,_,_] E CP KZ LW ⟨E,E,E,E,zT⟩ E E E zX E E zU fun b2=>?_
 refine WC 1 rfl (m:=4) (news:=(GH (W.getD i 0+B.getD i 0)).map fun b=>Dt b) CP KZ Wx LW rfl zD rfl rfl rfl rfl (Aa 0 rfl) (by intro u hu;obtain⟨x,_,rfl⟩:=List.mem_map.1 hu;rfl) zO zO zU fun v'=>?_
 refine O E (AU (Ao (AG (AK (Y E (BV zO zO) (J E (AU ?_)))))))
 refine Al (i+1,v') (by simp only;omega) (by simp only;omega) tL (fun w hw=>?_)
 simp only
 rw[mS W B i zO zO,List.flatMap_append,List.map_append]
 simp only[List.flatMap_cons,List.flatMap_nil,List.append_nil]
 exact hw.skip [_]
 have hi:i=16:=by simp at hc3;omega
 subst hi
 have ht:(List.zipWith (·+·) W B).take 16=List.zipWith (·+·) W B:=List.take_of_length_le zQ
 rw[ht]
 refine Ax (A3 (BO (A0 (AG (Z (J E ?_))))))
 refine ZK (s:=(List.zipWith (·+·) W B).flatMap GH) 0 E CP Cn Bo E E ?_
 refine O E (O E (V (AL ?_)))
 exact AX (GV E E E) (AY (M:=[]) ⟨by rw[KL,ki,hBe,hW],E⟩ fun _ h=>h.skip [_,_,_])
theorem YI(key nonce s:List UInt8)(hk:key.length=32)(hn:nonce.length=12)(hs:s.length≤1048576):zC K w0 109 [vS key,vS nonce,vS s] [] H (fun r M=>r=.tuple #[vS (Gl key nonce s),vI 0]∧M=[]):=by
 refine Ua.enter Tryz.func109 rfl rfl ?_
 refine Z (O E (O E (V (AE (Z (J E (BT E Bo E (Y E Bb (J E ?_)))))))))
 refine C9 (c:=(!decide ((nonce.length:Int)=12))) 17 4 21 E (fun hb k=>?_) (fun hb k=>?_) ?_
 refine AB E (AB E (AB E (Ae E E E ?_)))
 exact k.mono tL
 refine J E (BT E Bo E (Y E Bb (Ae E E E ?_)))
 exact k.mono tL
 refine J E ?_
 refine C9 (c:=decide ((1048576:Int)<s.length)) 22 4 26 E (fun hb k=>?_) (fun hb k=>?_) ?_
 refine AB E (AB E (AB E (Ae E E E ?_)))
 exact k.mono tL
 refine J E (BT E Bo E (Y E Ca (Ae E E E ?_)))
 exact k.mono tL
 refine V ?_
 refine As E (fun hc1=>absurd hc1 (by simp[hk,hn];omega)) (fun hc1=>?_)
 refine AI (AG (Z ?_))
 refine Ag E de zU fun b0=>?_
 refine V (AE (Z (O E (V (AN (JN 5 1 (SX.pick [1,0] 2 ?_)))))))
 have hxl:=Fb key nonce s
 refine SX.mono (A6 (α:=Nat×Value×Value) (fun x=>64*x.1<s.length+64∧Pn b0 x.2.1) (fun x=>[(0,vS key),(1,vS nonce),(2,vS (s.drop (64*x.1))),(8,vP b0 0),(9,AA (UInt32.ofNat x.1))]) (fun x=>AP b0 (.cells #[x.2.1,x.2.2] 172)::DM 5 1 x.2.2 (min (64*x.1) s.length) (((Gl key nonce s).take (min (64*x.1) s.length)).map fun b=>Dt b)::H) (fun x=>s.length+64-64*x.1) (fun x D hp=>?_) (0,.pointer none,zN) ⟨by simp,.inl E⟩) ⟨E,E,E,E,E,zT⟩
 obtain⟨j,p,v⟩:=x
 obtain⟨hj,hadr⟩:=hp
 simp only at hj hadr
 refine AE (Z (J E ?_))
 refine Y E (I1 (t:=[])) ?_
 refine V ?_
 refine As E (fun hc2=>?_) (fun hc2=>?_)
 have hjl:64*j<s.length:=by simp at hc2;omega
 have hmin:min (64*j) s.length=64*j:=zO
 rw[hmin]
 refine AI (AG (AE (AN (Z (J E (J E (J E (AQ 0 qP (d9 key nonce (UInt32.ofNat j) hk hn) E ?_))))))))
 have hbl:=TD (counter:=UInt32.ofNat j) hk hn
 refine J E (Am E E E (Am E E E (O E (O E (V (Z (J E (J E (BT E Bo E ?_)))))))))
 refine J E (BT E Bo E (PW E E E (PR (min (s.length-64*j) 64) E Bo E E zQ zQ (O E (V (AE (Z (J E (BT E Bo E (J E (V (AN ?_))))))))))))
 have hpl:((s.drop (64*j)).take (min (s.length-64*j) 64)).length=min (s.length-64*j) 64:=by simp
 refine SX.mono (A6 (α:=Nat×Value×Value) (fun x=>x.1≤min (s.length-64*j) 64∧Pn b0 x.2.1) (fun x=>[(0,vS key),(1,vS nonce),(2,vS (s.drop (64*j))),(8,vP b0 0),(9,AA (UInt32.ofNat j)),(10,vS (KL key (UInt32.ofNat j) nonce)),(12,vS ((s.drop (64*j)).take (min (s.length-64*j) 64))),(46,vI ((s.drop (64*j)).take (min (s.length-64*j) 64)).length),(47,vI x.1)]) (fun x=>AP b0 (.cells #[x.2.1,x.2.2] 172)::DM 5 1 x.2.2 (64*j+x.1) (((Gl key nonce s).take (64*j+x.1)).map fun b=>Dt b)::H) (fun x=>64-x.1) (fun x D hp=>?_) (0,p,v) ⟨Nat.zero_le _,hadr⟩) tL
 obtain⟨i,p,v⟩:=x
 obtain⟨hi,hadr⟩:=hp
 simp only at hi hadr
 refine Z (Y E Aw (V (AE ?_)))
 refine As E (fun hc3=>?_) (fun hc3=>?_)
 have hil:i<min (s.length-64*j) 64:=by simp only[hpl]at hc3;simpa using hc3
 refine AI (AG (AE (AN (Z (J E (O E (V (Ai CY [] (Bm [(true,0),(true,1),(true,2),(true,3),(true,4),(true,5),(true,6)] (.last 7 .nil)) zK (J E (J E (G4 i E Bo E E zO zO (J E (J E ?_)))))))))))))
 refine G4 i E Bo E E zO zO (Y E Qm (BK ?_))
 have e1:((s.drop (64*j)).take (min (s.length-64*j) 64)).getD i 0=s.getD (64*j+i) 0:=by
  simp[List.getD_eq_getElem?_getD,hil,show 64*j+i<s.length by omega]
 have e2:(KL key (UInt32.ofNat j) nonce).getD i 0=PK key nonce (64*j+i):=by
  rw[PK,show(64*j+i) / 64=j by omega,show(64*j+i)%64=i by omega]
 rw[e1,e2]
 refine Bn 2 X6 (Oe 172 b0 p v (64*j+i) _ _ hadr Wq zO) E ?_
 rintro _ _ ⟨rfl,v',rfl⟩
 refine AU (Ao (AG (AK (Y E (BV zO zO) (J E (AU ?_))))))
 refine Al (i+1,vP b0 0,v') ⟨by simp only;omega,.inr E⟩ (by simp only;omega) tL (fun w hw=>?_)
 simp only
 rw[←Nat.add_assoc,i6 key nonce s (64*j+i) zO,List.map_append]
 exact hw
 have hie:i=min (s.length-64*j) 64:=by simp only[hpl]at hc3;simp at hc3;omega
 refine Ax (A3 (BO (A0 (AG (AK (J E (J E (BT E Bo E (OH (min (s.length-64*j) 64) E Bo E E (by rw[hpl]) zQ ?_)))))))))
 rw[List.drop_drop]
 refine O E (AU (Ao (AG (AK (J E ?_)))))
 refine Y E (B0 (b:=1)) ?_
 refine O E (AU ?_)
 have e1:s.drop (64*j+min (s.length-64*j) 64)=s.drop (64*(j+1)):=by
  rcases Nat.lt_or_ge (s.length-64*j) 64 with h | h
  rw[List.drop_eq_nil_of_le zO,List.drop_eq_nil_of_le zO]
  rw[show 64*j+min (s.length-64*j) 64=64*(j+1) by omega]
 rw[e1,iI]
 refine Al (j+1,p,v) ⟨by simp only;omega,hadr⟩ (by simp only;omega) tL (fun w hw=>?_)
 simp only
 rw[show min (64*(j+1)) s.length=64*j+i by omega]
 exact hw
 have hjl:s.length≤64*j:=by simp at hc2;omega
 have hmin:min (64*j) s.length=s.length:=zO
 have ht:(Gl key nonce s).take s.length=Gl key nonce s:=List.take_of_length_le zO
 rw[hmin,ht]
 refine Ax (A3 (BO (A0 (AG (Z (AQ 2 Oo (LG 172 b0 p v s.length (Gl key nonce s) zO) E (O E (O E (V (AL ?_))))))))))
 exact AX (GV E E E) (AY (M:=[]) ⟨E,E⟩ fun _ h=>h.skip [_,_])
end

section
variable {K:Nat→Prop}{w0:World}{H:List AW}
theorem Pz(b:Nat)(p v:Value)(e:TypeId)(n:UInt64)(w m:Nat)(xs:List UInt8)(hp:Pn b p)(hl:bT e)(hw:w≤8)(hm:m≤1048576):zC K w0 152 [vP b 0,Ar n,vI w] [AP b (.cells #[p,v] e),DM 5 1 v m (xs.map fun b=>Dt b)] H (fun r M=>r=.tuple #[]∧∃p' v',Pn b p'∧M=[AP b (.cells #[p',v'] e),DM 5 1 v' (m+w) ((xs++BE n w).map fun b=>Dt b)]):=by
 refine Ua.enter Tryz.func152 rfl rfl ?_
 refine Z (J E (J E (V (AN ?_))))
 refine SX.mono (A6 (α:=Nat×Value×Value) (fun x=>x.1≤w∧Pn b x.2.1) (fun x=>[(0,vP b 0),(1,Ar n),(7,vI w),(8,vI x.1)]) (fun x=>AP b (.cells #[x.2.1,x.2.2] e)::DM 5 1 x.2.2 (m+x.1) ((xs++BE n x.1).map fun b=>Dt b)::H) (fun x=>w-x.1) (fun x D hp=>?_) (0,p,v) ⟨Nat.zero_le _,hp⟩ |>.heap (fun w h=>by simpa[BE]using h)) tL
 obtain⟨i,p,v⟩:=x
 obtain⟨hi,hadr⟩:=hp
 simp only at hi hadr
 refine Z (Y E Aw (V (AE ?_)))
 refine As E (fun hc1=>?_) (fun hc1=>?_)
 have hlt:i<w:=by simpa using hc1
 refine AI (AG (AE (AN (Z (J E (O E (V (Ai CY [] (Bm [(true,0),(true,1),(true,2),(true,3),(true,4),(true,5),(true,6),(true,7)] (.last 8 .nil)) zK (J E (AV E E (AD E aF (J E (J E ?_)))))))))))))
 refine Y E (LC zO zO) ?_
 refine Y E (FB.shr64 (n:=(8*i))) ?_
 refine Av E E (HG CR Cn) (BK (Bn 2 X6 (Oe e b p v (m+i) _ _ hadr hl zO) E ?_))
 rintro _ _ ⟨rfl,v',rfl⟩
 refine AU (Ao (AG (AK (Y E (BV zO zO) (J E (AU ?_))))))
 refine Al (i+1,vP b 0,v') ⟨hlt,.inr E⟩ (by simp only;omega) tL (fun w hw=>?_)
 simp only
 rw[S9,←List.append_assoc,List.map_append (l₁:=xs++BE n i),←Nat.add_assoc]
 exact hw
 have hie:i=w:=by simp at hc1;omega
 subst hie
 refine Ax (A3 (BO (A0 ?_)))
 exact Cy (DY E) (AY (M:=[_,_]) ⟨E,p,v,hadr,E⟩ fun _ h=>h)
theorem QY(h:CB):zC K w0 110 [.agg (Bu h).toArray] [] H (fun r M=>r=vS (GP h)∧M=[]):=by
 refine Ua.enter Tryz.func110 rfl rfl ?_
 refine Z ?_
 refine Bf E E zU fun b0=>?_
 refine O E (V (Z ?_))
 refine Ag E nI zU fun b1=>?_
 refine V (Z ?_)
 refine Hj (fv:=#[_]) (cv:=#[]) E E E ?_
 refine O E (V (JN 5 1 (SX.pick [1,0,2] 3 (Z (J E (AD E Vm (AF 2 A8 E (Av E E (Cf Bv CR) (Bn 2 Xz (Pz b1 (.pointer none) (.slice none 0 0) 228 h.boot.toUInt64 4 0 [] (.inl E) eT zO zO) E ?_)))))))))
 rintro _ _ ⟨rfl,p1,v1,ha1,rfl⟩
 refine V (Z (J E (AD E Vl (AF 2 NM E (Bn 2 Xz (Pz b1 p1 v1 228 h.seq 8 4 _ ha1 eT zO zO) E ?_)))))
 rintro _ _ ⟨rfl,p2,v2,ha2,rfl⟩
 refine V (Z (AD E aF (AQ 2 Oo (LG 228 b1 p2 v2 12 (GP h) zO) E (O E (V (AL ?_))))))
 exact AX (Df E E) (AY (M:=[]) ⟨E,E⟩ fun _ h=>h.skip [_,_,_])
theorem XA(h:CB):zC K w0 111 [.agg (Bu h).toArray] [] H (fun r M=>r=vS (OD h)∧M=[]):=by
 refine Ua.enter Tryz.func111 rfl rfl ?_
 refine Z ?_
 refine Bf E E zU fun b0=>?_
 refine O E (V (Z ?_))
 refine Ag E nI zU fun b1=>?_
 refine V (Z ?_)
 refine Hj (fv:=#[_]) (cv:=#[]) E E E ?_
 refine O E (V (JN 5 1 (SX.pick [1,0,2] 3 (Z (J E (AD E WD (AF 2 A8 E (Av E E (Cf Bv CR) (Bn 2 Xz (Pz b1 (.pointer none) (.slice none 0 0) 228 h.page.toUInt64 4 0 [] (.inl E) eT zO zO) E ?_)))))))))
 rintro _ _ ⟨rfl,p1,v1,ha1,rfl⟩
 refine V (Z (J E (AD E PJ (AF 2 A8 E (Av E E (Cf Bv CR) (Bn 2 Xz (Pz b1 p1 v1 228 h.gen.toUInt64 4 4 _ ha1 eT zO zO) E ?_))))))
 rintro _ _ ⟨rfl,p2,v2,ha2,rfl⟩
 refine V (AE (Ai CY [2] (Pl.of [(true,0),(true,2),(false,1),(false,3),(true,4),(true,5),(true,6)]) zK (AD E aF (Ac (Bu h) E DE E E (Aa 0 E) (BS 2 Oo (LG 228 b1 p2 v2 8 (BE h.page.toUInt64 4++BE h.gen.toUInt64 4) zO) E ⟨⟨2,E⟩,zT⟩ (BS 0 eH (QY h) E ⟨⟨2,E⟩,zT⟩ (Y E (Fw (by simp[Aj,HO])) (Y E (Fw (by simp[Aj,HO])) (O E (V (AL ?_)))))))))))
 exact AX (Df E E) (AY (M:=[]) ⟨E,E⟩ fun _ h=>h.skip [_,_,_])
end

section
variable {K:Nat→Prop}{w0:World}{H:List AW}
def oK(p:Nat×UInt64):List Value:=[vI p.1,Ar p.2]
theorem o7{i:Nat}(h:i<5):i=0∨i=1∨i=2∨i=3∨i=4:=zO
theorem ZJ(s:List UInt8)(b:Nat)(hs:s.length=24):li Tryz.prog K w0 235 [vP b 0] [AP b (.cells #[vS s] 9)] oK (Mz s):=by
 intro lp J9 X T1 hy G h0
 refine Ua.enter Tryz.func235 rfl rfl ?_
 refine Z (S3 [vI 4,vI 4,vI 4,vI 8,vI 4] E o8 NK to E ⟨E,E,E,E,E,zT⟩ E E zX (J E (V (AN ?_))))
 refine SX.mono (A6 (α:=Nat×List AW) (fun x=>x.1≤5∧J9 ((Mz s).take x.1) x.2) (fun x=>[(0,vY lp),(1,vP b 0),(7,.agg #[vI 4,vI 4,vI 4,vI 8,vI 4]),(8,vI x.1)]) (fun x=>AP b (.cells #[vS (s.drop (Pu x.1))] 9)::(x.2++T1)) (fun x=>5-x.1) (fun x D hp=>?_) (0,G) ⟨Nat.zero_le _,h0⟩) tL
 obtain⟨i,G⟩:=x
 obtain⟨hi,hJ⟩:=hp
 simp only at hi hJ
 refine Z (Y E Aw (V (AE ?_)))
 refine As E (fun hc1=>?_) (fun hc1=>?_)
 have hlt:i<5:=by simp at hc1;omega
 have hg:=WB s i hlt
 have hoff:Pu i+MR i≤24:=by rcases o7 hlt with rfl | rfl | rfl | rfl | rfl<;>decide
 have hw8:MR i≤8:=by rcases o7 hlt with rfl | rfl | rfl | rfl | rfl<;>decide
 have hwid:(#[vI 4,vI 4,vI 4,vI 8,vI 4]:Array Value)[i]? = some (vI (MR i:Nat)):=by rcases o7 hlt with rfl | rfl | rfl | rfl | rfl<;>rfl
 refine AI (AG (AE (AN (Z (J E ?_)))))
 refine Ol (i:=i) E o8 D6 E E zO zO hwid ?_
 refine O E (O E (V (Z (O E (V (AE (Z (J E (J E (V (AN ?_)))))))))))
 refine SX.mono (A6 (α:=Nat) (fun k=>k≤MR i) (fun k=>[(0,vY lp),(1,vP b 0),(3,vI i),(4,vI (MR i:Nat)),(5,Ar (B9 (s.drop (Pu i)) k)),(7,.agg #[vI 4,vI 4,vI 4,vI 8,vI 4]),(8,vI i),(12,vI (MR i:Nat)),(13,vI k)]) (fun k=>AP b (.cells #[vS (s.drop (Pu i))] 9)::(G++T1)) (fun k=>MR i-k) (fun k D hp=>?_) 0 (Nat.zero_le _)) tL
 refine Z (Y E Aw (V (AE ?_)))
 refine As E (fun hc2=>?_) (fun hc2=>?_)
 have hk:k<MR i:=by simpa using hc2
 refine AI (AG (AE (AN (Z (J E (O E (V (AK (J E (AF 0 Fm E (J E (G4 k E Bo E E zO zQ (Av E E (Th Cn CR) (J E ?_))))))))))))))
 refine Y E (LC zO zO) ?_
 refine Y E (FB.shl64 (n:=(8*k))) ?_
 refine Y E bc (O E (AU (Ao (AG (AK (Y E (BV zO zO) (J E (AU ?_))))))))
 exact Al (k+1) hk zO tL
 have hk:k=MR i:=by simp at hc2;omega
 subst hk
 refine Ax (A3 (BO (A0 (AG (AE (Z (J E (J E (J E ?_)))))))))
 refine Jb (M2:=[_]) (G:=G) (T:=T1) (vs:=[_,_]) (ok:=fun G1=>J9 ((Mz s).take (i+1)) G1) (no:=X) E E ⟨E,E,zT⟩ E ?_ (fun bb G1 hG1=>⟨zT,?_⟩)
 intro M
 have:=hy _ _ _ (FG hg).1 G hJ M
 rw[←(FG hg).2]at this
 exact this
 refine CH E E (V ?_)
 refine As E (fun hc3=>?_) (fun hc3=>?_)
 obtain rfl:bb=false:=by simpa using hc3
 refine AL (AZ (Ba (AZ (Dq (Ba ?_)))))
 exact AX (DY E) (AY (M:=G1) (.inr hG1) fun _ h=>h.skip [_])
 obtain rfl:bb=true:=by simpa using hc3
 refine AI (AG (AK (AF 0 Fm E (J E (OH (MR i) E Bo E E zO zQ ?_)))))
 rw[List.drop_drop]
 refine Ak 0 E E E E Hp E E E zT (AU (Ao (AG (AK (Y E (BV zO zO) (J E (AU ?_)))))))
 exact Al (i+1,G1) ⟨hlt,hG1⟩ (by simp only;omega) tL
 have hle:i=5:=by simp at hc1;omega
 refine Ax (A3 (BO (A0 ?_)))
 exact Cy (DY E) (AY (M:=G) (.inl (by rw[List.take_of_length_le (by rw[R9];omega)]at hJ;exact hJ)) fun _ h=>h.skip [_])
theorem Zd(s:List UInt8):zC K w0 233 [vS s] [] H (fun r M=>∃b,r=.func (.func 235) #[] #[vP b 0]∧M=[AP b (.cells #[vS s] 9)]):=by
 refine Ua.enter Tryz.func233 rfl rfl ?_
 refine Z ?_
 refine Bf E E zU fun b0=>?_
 refine O E (V (Z ?_))
 refine Hj (fv:=#[]) (cv:=#[_]) E E E ?_
 refine O E (V (AL ?_))
 exact AX (Df E E) (AY (M:=[_]) ⟨b0,E,E⟩ fun _ h=>h)
theorem gm(s:List UInt8):zC K w0 220 [vS s] [] H (fun r M=>r=.tuple #[.agg (Bu (Gg s).1).toArray,vB (Gg s).2]∧M=[]):=by
 refine Ua.enter Tryz.func220 rfl rfl ?_
 refine Z ?_
 refine Ag E FM zU fun b0=>?_
 refine O E (V (LB (Z ?_)))
 refine Ag E FM zU fun b1=>?_
 refine V (AE (Z (J E (BT E Bo E (Y E Bb (V ?_))))))
 refine As E (fun hc1=>?_) (fun hc1=>?_)
 have hs:Gg s=(EB,false):=by unfold Gg;rw[if_neg (fun h=>by simp at hc1;omega)]
 rw[hs]
 refine Z (Ac (Bu EB) E DE E E (Aa 0 E) (Ak 1 E E E E Eo E E E zT (O E (V (AL (AZ (Fa ?_)))))))
 exact AX (DV E (BB 1 (Bu EB) DE E E E E) E) (AY (M:=[]) ⟨E,E⟩ fun _ h=>h.skip [_,_])
 have hs:s.length=24:=by simp at hc1;omega
 refine AI (AG (AE (K4 (AG (AE (Z (J E (Bn 0 rC (Zd s) E ?_))))))))
 rintro _ _ ⟨bi,rfl,rfl⟩
 refine V (AN ?_)
 refine Qk (enc:=oK) (Mz s) (fun pre G=>pre.length≤3∧G=AP b1 (.cells (Bu (jH s pre.length)).toArray 143)::AP b0 (.cells (Bu EB).toArray 143)::H) (fun c G=>c=.exit 0∧G=AP b1 (.cells (Bu (OW s)).toArray 143)::AP b0 (.cells (Bu EB).toArray 143)::H) E r7 E zV (ZJ s bi hs) E ⟨Nat.zero_le _,E⟩ (fun pre x suf G hxs hJ r lp Rest=>?_) (fun G D hJ=>?_) (fun c G D hX=>?_)
 obtain⟨hpl,rfl⟩:=hJ
 have hget:(Mz s)[pre.length]? = some x:=by rw[hxs];simp
 rw[WB s _ zO]at hget
 obtain rfl:=zI hget
 have hpl2:(pre++[(pre.length,Jg s pre.length)]).length=pre.length+1:=by simp
 have hJ2:∀G,G=AP b1 (.cells (Bu (jH s (pre.length+1))).toArray 143)::AP b0 (.cells (Bu EB).toArray 143)::H→pre.length≤2→(pre++[(pre.length,Jg s pre.length)]).length≤3∧G=AP b1 (.cells (Bu (jH s (pre++[(pre.length,Jg s pre.length)]).length)).toArray 143)::AP b0 (.cells (Bu EB).toArray 143)::H:=fun G hG h=>by rw[hpl2];exact⟨by omega,hG⟩
 clear hxs hpl2
 generalize pre.length=k at*
 refine Z (O E (V (AK (O E (AU (Lv (AN (Z (J E (V (AN (Z (Y E CE (O E (V ?_)))))))))))))))
 refine As E (fun hc2=>?_) (fun hc2=>?_)
 obtain rfl:k=0:=by simp at hc2;omega
 refine AK (J E (Av E E (Cg CR Bv) (AD E WD (Ak 0 E E E E Bj E E E zT (AU (Ao (Ao ?_)))))))
 exact I7 (hJ2 _ E zO) (fun _ h=>h)
 have hk0:k≠0:=by simp at hc2;omega
 refine Z (Y E CE (O E (V ?_)))
 refine As E (fun hc3=>?_) (fun hc3=>?_)
 obtain rfl:k=1:=by simp at hc3;omega
 refine AK (J E (Av E E (Cg CR Bv) (AD E PJ (Ak 0 E E E E Bj E E E zT (AU (Ao (Ao ?_)))))))
 exact I7 (hJ2 _ E zO) (fun _ h=>h)
 have hk1:k≠1:=by simp at hc3;omega
 refine Z (Y E CE (O E (V ?_)))
 refine As E (fun hc4=>?_) (fun hc4=>?_)
 obtain rfl:k=2:=by simp at hc4;omega
 refine AK (J E (Av E E (Cg CR Bv) (AD E Vm (Ak 0 E E E E Bj E E E zT (AU (Ao (Ao ?_)))))))
 exact I7 (hJ2 _ E zO) (fun _ h=>h)
 have hk2:k≠2:=by simp at hc4;omega
 refine Z (Y E CE (O E (V ?_)))
 refine As E (fun hc5=>?_) (fun hc5=>?_)
 obtain rfl:k=3:=by simp at hc5;omega
 refine Z (J E (AD E Vl (Ak 0 E E E E oU E E E zT (V (Ax (M7 (M7 ?_)))))))
 exact N6 (G:=_::_::H) ⟨E,E⟩ (fun _ h=>h)
 exact absurd hc5 zQ
 exact absurd hJ.1 (by rw[R9];omega)
 obtain⟨rfl,rfl⟩:=hX
 refine Ax (A0 (AG (AE (Z (Ac (Bu (OW s)) E DE E E (Aa 0 E) (AQ 0 kf (XA (OW s)) E (J E (Y E I1 (V ?_)))))))))
 refine As E (fun hc7=>?_) (fun hc7=>?_)
 have hg:Gg s=(EB,false):=by unfold Gg;rw[if_neg (fun h=>by simp[h.2]at hc7)]
 rw[hg]
 refine Z (BJ [] E LV LZ FM zT E (Ak 1 E E E E Eo E E E zT (O E (V (AL (AZ (Fa ?_)))))))
 exact AX (DV E (BB 1 (Bu EB) DE E E E E) E) (AY (M:=[]) ⟨E,E⟩ fun _ h=>h.skip [_,_])
 have hg:Gg s=(OW s,true):=by unfold Gg;rw[if_pos ⟨hs,by simpa using hc7⟩]
 rw[hg]
 refine AI (AG (Z (Ac (Bu (OW s)) E DE E E (Aa 0 E) (Ak 1 E E E E Eo E E E zT (O E (V (AL (Fa ?_))))))))
 exact AX (DV E (BB 1 (Bu (OW s)) DE E E E E) E) (AY (M:=[]) ⟨E,E⟩ fun _ h=>h.skip [_,_])
end

section
variable {K:Nat→Prop}{w0:World}{H:List AW}
theorem qs(s:List UInt8)(hn:s.length≤9223372036854775807):zC K w0 107 [vS s] [] H (fun r M=>r=.tuple #[vS (PU s).1,vI (PU s).2]∧M=[]):=
 (jx s hn).mono fun v M h=>⟨by rw[h.1];unfold PU;split<;>rfl,h.2⟩
theorem f6(T:List UInt32)(k:BW)(hT:Ho K w0 T)(hr:Db [k]=true):zC K w0 108 [.agg (BA k).toArray] [] H (fun r M=>r=.tuple #[vS (Hn T k Hu),vS (Hn T k Ih),vI 0]∧M=[]):=
 (dr T k hT).mono fun v M h=>⟨by rw[h.1,if_pos hr],h.2⟩
theorem Vd(T:List UInt32)(v:Value)(l:List BW)(h:CB)(s:List UInt8)(hT:Ho K w0 T)(hk:CD K w0 BA 2 v l)(hv:v.cells=#[v])(hl:l.length≤1099511627776)(hn:s.length≤9223372036854775807):zC K w0 76 [v,.agg (Bu h).toArray,vS s] [] H (fun r M=>r=.tuple #[vS (Fe T l h s).1,vI (Fe T l h s).2]∧M=[]):=by
 refine Ua.enter Tryz.func76 rfl rfl ?_
 refine Z ?_
 refine Bf E E zU fun b0=>?_
 refine O E (O E (V (Z (J E (AD E PJ (AF 0 A8 E (AQ 0 ja (RY v l h.gen hk hv hl) E ?_)))))))
 generalize hf:C4 l h.gen=f
 refine J E (Am E E E (Am E E E ?_))
 refine Ag E Jd zU fun b1=>?_
 refine Ak 0 E E E E Fl E E E zT (O E (V (AE (Z (J E (Y E Bb (V ?_)))))))
 refine As E (fun hc1=>?_) (fun hc1=>?_)
 have he:f.2≠0:=by simpa using hc1
 have hs:Fe T l h s=([],f.2):=by unfold Fe;rw[hf,if_pos he]
 rw[hs]
 refine Z (J E (O E (O E (V (AL (AZ ?_))))))
 exact AX (GV E E E) (AY (M:=[]) ⟨E,E⟩ fun _ h=>h.skip [_,_])
 have he:f.2=0:=by simpa using hc1
 have hok:=RA (l:=l) (g:=h.gen) (by rw[hf];exact he)
 rw[hf]at hok
 refine AI (AG (Z (J E (AQ 0 sT (qs s hn) E (J E (Am E E E (Am E E E (O E (O E (V (AE (Z (J E ?_)))))))))))))
 refine Y E Bb (V ?_)
 refine As E (fun hc2=>?_) (fun hc2=>?_)
 have h1:198<s.length:=by
  unfold PU at hc2
  split at hc2
  assumption
  simp at hc2
 have hs:Fe T l h s=([],50):=by unfold Fe;rw[hf,if_neg (by simp[he]),if_pos h1]
 have hp:PU s=([],50):=by unfold PU;rw[if_pos h1]
 rw[hs,hp]
 refine Z (J E (O E (O E (V (AL (AZ ?_))))))
 exact AX (GV E E E) (AY (M:=[]) ⟨E,E⟩ fun _ h=>h.skip [_,_])
 have h1:¬198<s.length:=by
  intro h1
  unfold PU at hc2
  rw[if_pos h1]at hc2
  simp at hc2
 have hp:PU s=(JK s,0):=by unfold PU;rw[if_neg h1]
 have hpl:(JK s).length=200:=F6 zO
 have hbl:=HM T f.1 h hpl
 have hsl1:=IF T f.1 Hu
 have hsl2:=IF T f.1 Ih
 have hs:Fe T l h s=(JI T f.1 h s,0):=by unfold Fe;rw[hf,if_neg (by simp[he]),if_neg h1]
 rw[hs,hp]
 refine AI (AG (Z (Ac (BA f.1) E KB E E (Aa 0 E) (AQ 0 kB (f6 T f.1 hT hok.2.2.2) E (J E (Am E E E (Am E E E (Am E E E (O E (O E ?_))))))))))
 refine O E (V (Z (J E (Ac (Bu h) E DE E E (Aa 1 E) (AQ 0 eH (QY h) E (J E (AQ 0 j8 (YI (Hn T f.1 Hu) (GP h) (JK s) hsl1 (HO h) zO) E (J E (Am E E E ?_)))))))))
 refine Am E E E (O E (O E (V (Z (Ac (Bu h) E DE E E (Aa 1 E) (AQ 0 kf (XA h) E (J E (Y E (Fw (by rw[IE,Fb];omega)) (O E (V (Z ?_)))))))))))
 refine J E (J E (J E ?_))
 refine Bz [_] E Fk Hp T7 ⟨E,zT⟩ E E E zX E E zU fun b2=>?_
 refine AQ 1 dR (Ub T (Hn T f.1 Ih) [JO T f.1 h (JK s)] b2 hT zO zQ zS) E ?_
 refine Y E (Fw (by rw[Gw];have:=hbl;simp only[JO]at this;omega)) ?_
 refine O E (O E (V (AL ?_)))
 exact AX (GV E E E) (AY (M:=[]) ⟨by simp[JI,JO],E⟩ fun _ h=>h.skip [_,_])
end

section
variable {K:Nat→Prop}{w0:World}{H:List AW}
theorem S4{bb:List UInt8}(h:bb.length=256):((bb.drop 24).take (224-24)).length=200:=by simp[h]
theorem dt(T:List UInt32)(v:Value)(l:List BW)(bb:List UInt8)(hT:Ho K w0 T)(hk:CD K w0 BA 2 v l)(hv:v.cells=#[v])(hl:l.length≤1099511627776)(hn:bb.length≤9223372036854775807):zC K w0 202 [v,vS bb] [] H (fun r M=>r=.tuple #[.agg (Bu (Fy T l bb).1).toArray,vS (Fy T l bb).2.1,vI (Fy T l bb).2.2]∧M=[]):=by
 refine Ua.enter Tryz.func202 rfl rfl ?_
 refine Z ?_
 refine Ag E FM zU fun b0=>?_
 refine O E (O E (V (Z (BJ [] E LV LZ FM zT E ?_))))
 refine Ag E FM zU fun b1=>?_
 refine Ak 0 E E E E Eo E E E zT (V (AE (Z (J E (AQ 0 eF (QE v l hk hv hl) E (CH E E (V ?_)))))))
 refine As E (fun hc1=>?_) (fun hc1=>?_)
 have hr:Db l=false:=by simpa using hc1
 have ho:Fy T l bb=(EB,[],40):=by unfold Fy;rw[if_pos hr]
 rw[ho]
 refine Z (Ac (Bu EB) E DE E E (Aa 0 E) (Ak 1 E E E E Eo E E E zT (O E (O E (V (AL (AZ ?_)))))))
 exact AX (Iy E (BB 1 (Bu EB) DE E E E E) E E) (AY (M:=[]) ⟨E,E⟩ fun _ h=>h.skip [_,_])
 have hr:¬Db l=false:=by simpa using hc1
 refine AI (AG (AE (Z (J E (BT E Bo E (Y E Bb (V ?_)))))))
 refine As E (fun hc2=>?_) (fun hc2=>?_)
 have hb:bb.length≠256:=by simp at hc2;omega
 have ho:Fy T l bb=(EB,[],61):=by unfold Fy;rw[if_neg hr,if_pos hb]
 rw[ho]
 refine Z (Ac (Bu EB) E DE E E (Aa 0 E) (Ak 1 E E E E Eo E E E zT (O E (O E (V (AL (AZ ?_)))))))
 exact AX (Iy E (BB 1 (Bu EB) DE E E E E) E E) (AY (M:=[]) ⟨E,E⟩ fun _ h=>h.skip [_,_])
 have hb:bb.length=256:=by simp at hc2;omega
 have hb':¬bb.length≠256:=fun h=>h hb
 refine AI (AG (Z (J E (PR 24 E Bo E E zO zO (AQ 0 sg (gm (bb.take 24)) E ?_)))))
 generalize hg:Gg (bb.take 24)=g
 refine J E (Am E E E (Am E E E ?_))
 refine Ag E FM zU fun b2=>?_
 refine Ak 0 E E E E Eo E E E zT (O E (V (AE (Z (J E (CH E E (V ?_)))))))
 refine As E (fun hc3=>?_) (fun hc3=>?_)
 have h3:g.2=false:=by simpa using hc3
 have ho:Fy T l bb=(EB,[],61):=by unfold Fy;rw[if_neg hr,if_neg hb',hg,if_pos h3]
 rw[ho]
 refine Z (Ac (Bu EB) E DE E E (Aa 1 E) (Ak 2 E E E E Eo E E E zT (O E (O E (V (AL (AZ ?_)))))))
 exact AX (Iy E (BB 2 (Bu EB) DE E E E E) E E) (AY (M:=[]) ⟨E,E⟩ fun _ h=>h.skip [_,_,_])
 have h3:¬g.2=false:=by simpa using hc3
 refine AI (AG (Z (J E (AD E PJ (AF 0 A8 E (AQ 0 ja (RY v l g.1.gen hk hv hl) E ?_))))))
 generalize hf:C4 l g.1.gen=f
 refine J E (Am E E E (Am E E E ?_))
 refine Ag E Jd zU fun b3=>?_
 refine Ak 0 E E E E Fl E E E zT (O E (V (AE (Z (J E (Y E Bb (V ?_)))))))
 refine As E (fun hc4=>?_) (fun hc4=>?_)
 have h4:f.2≠0:=by simpa using hc4
 have ho:Fy T l bb=(EB,[],f.2):=by unfold Fy;rw[if_neg hr,if_neg hb',hg,if_neg h3,hf,if_pos h4]
 rw[ho]
 refine Z (Ac (Bu EB) E DE E E (Aa 2 E) (J E (Ak 3 E E E E Eo E E E zT (O E (O E (V (AL (AZ ?_))))))))
 exact AX (Iy E (BB 3 (Bu EB) DE E E E E) E E) (AY (M:=[]) ⟨E,E⟩ fun _ h=>h.skip [_,_,_,_])
 have h4:f.2=0:=by simpa using hc4
 have h4':¬f.2≠0:=fun h=>h h4
 have hok:=RA (l:=l) (g:=g.1.gen) (by rw[hf];exact h4)
 rw[hf]at hok
 have hsl1:=IF T f.1 Hu
 have hsl2:=IF T f.1 Ih
 refine AI (AG (Z (Ac (BA f.1) E KB E E (Aa 0 E) (AQ 0 kB (f6 T f.1 hT hok.2.2.2) E (J E (Am E E E (Am E E E (Am E E E (O E (O E ?_))))))))))
 refine O E (V (AE (Z (J E (J E (PR 224 E Bo E E zO zO ?_))))))
 refine Bz [_] E Fk Hp T7 ⟨E,zT⟩ E E E zX E E zU fun b4=>?_
 refine AQ 1 dR (Ub T (Hn T f.1 Ih) [bb.take 224] b4 hT zO zQ zS) E (J E (AQ 0 jk (W9 bb zO) E (AQ 0 qG (ep _ _ (by rw[Gw];omega)) E ?_)))
 have e5:NF T (Hn T f.1 Ih) [bb.take 224].flatten=NF T (Hn T f.1 Ih) (bb.take 224):=by simp
 rw[e5,show bb.length-32=224 by omega]
 refine CH E E (V ?_)
 refine As E (fun hc5=>?_) (fun hc5=>?_)
 have h5:NF T (Hn T f.1 Ih) (bb.take 224)≠bb.drop 224:=by simpa using hc5
 have ho:Fy T l bb=(EB,[],61):=by unfold Fy;rw[if_neg hr,if_neg hb',hg,if_neg h3,hf,if_neg h4',if_pos h5]
 rw[ho]
 refine Z (Ac (Bu EB) E DE E E (Aa 2 E) (Ak 3 E E E E Eo E E E zT (O E (O E (V (AL (AZ ?_)))))))
 exact AX (Iy E (BB 3 (Bu EB) DE E E E E) E E) (AY (M:=[]) ⟨E,E⟩ fun _ h=>h.skip [_,_,_,_])
 have h5:¬NF T (Hn T f.1 Ih) (bb.take 224)≠bb.drop 224:=by simpa using hc5
 refine AI (AG (AE (Ai CY [1] (Pl.of [(true,0),(true,1),(true,3),(true,4),(false,2),(false,5),(true,6),(true,7),(true,8),(true,9),(true,10)]) zK (J E (Ac (Bu g.1) E DE E E (Aa 0 E) (J E (X5 24 224 E Bo E E E zO zO zO zO (BS 0 eH (QY g.1) E ⟨⟨1,E⟩,zT⟩ (BS 0 j8 (YI (Hn T f.1 Hu) (GP g.1) _ hsl1 (HO g.1) (by rw[S4 hb];omega)) E ⟨⟨1,E⟩,zT⟩ (J E ?_))))))))))
 refine Am E E E (Am E E E (O E (O E (V (Z (J E (AQ 0 qu (eI (Gl (Hn T f.1 Hu) (GP g.1) ((bb.drop 24).take (224-24)))) E ?_)))))))
 generalize hu:FJ (Gl (Hn T f.1 Hu) (GP g.1) ((bb.drop 24).take (224-24)))=u
 have hul:u.1.length≤200:=by
  rw[←hu]
  unfold FJ
  split
  simp
  split
  simp
  split
  simp only[List.length_take,List.length_drop,Fb,S4 hb];omega
  simp
 refine J E (Am E E E (Am E E E (O E (O E (V (AE (Z (J E (Ac (Bu g.1) E DE E E (Aa 1 E) (J E ?_))))))))))
 refine AQ 0 pK (Vd T v l g.1 u.1 hT hk hv hl zO) E ?_
 generalize hag:Fe T l g.1 u.1=ag
 have ho:Fy T l bb=if u.2≠0∨ag.2≠0∨ag.1≠bb then(EB,[],61)else(g.1,u.1,0):=by
  unfold Fy
  rw[if_neg hr,if_neg hb',hg,if_neg h3,hf,if_neg h4',if_neg h5]
  simp only
  rw[hf,show FJ (Gl (Hn T f.1 Hu) (GP g.1) ((bb.drop 24).take 200))=u from hu,hag]
 refine J E (Am E E E (Am E E E (O E (O E (V ?_)))))
 refine SX.mono (l':=[(1,_),(4,_),(7,_),(8,_),(11,_),(17,_),(18,_),(19,_)]) ?_ ⟨E,E,E,E,E,E,E,E,zT⟩
 refine Z (J E (Y E Bb (J E ?_)))
 refine C9 (c:=(!decide (ag.2=0))) 88 3 91 E (fun hb k=>?_) (fun hb k=>?_) ?_
 refine AB E (AB E (Ae E E E ?_))
 exact k.mono tL
 refine J E (Y E Bb (Ae E E E ?_))
 exact k.mono tL
 refine J E ?_
 refine C9 (c:=(!decide (ag.1=bb))) 92 4 96 E (fun hb k=>?_) (fun hb k=>?_) ?_
 refine AB E (AB E (AB E (Ae E E E ?_)))
 exact k.mono tL
 refine J E (J E (Y E I1 (Ae E E E ?_)))
 exact k.mono tL
 refine V ?_
 refine As E (fun hc6=>?_) (fun hc6=>?_)
 have h6:u.2≠0∨ag.2≠0∨ag.1≠bb:=by simpa[or_assoc]using hc6
 rw[if_pos h6]at ho
 rw[ho]
 refine Z (Ac (Bu EB) E DE E E (Aa 2 E) (Ak 3 E E E E Eo E E E zT (O E (O E (V (AL (AZ ?_)))))))
 exact AX (Iy E (BB 3 (Bu EB) DE E E E E) E E) (AY (M:=[]) ⟨E,E⟩ fun _ h=>h.skip [_,_,_,_])
 have h6:¬(u.2≠0∨ag.2≠0∨ag.1≠bb):=by
  simp at hc6
  simp[hc6]
 rw[if_neg h6]at ho
 rw[ho]
 refine AI (AG (Z (Ac (Bu g.1) E DE E E (Aa 1 E) (J E (Ak 3 E E E E Eo E E E zT (O E (O E (V (AL ?_)))))))))
 exact AX (Iy E (BB 3 (Bu g.1) DE E E E E) E E) (AY (M:=[]) ⟨E,E⟩ fun _ h=>h.skip [_,_,_,_])
end

section
open Go Go.ChangeShapes Go.WideShapes Go.ChangeAt Go.RowKit
def Ri:List UInt32:=[1116352408,1899447441,3049323471,3921009573,961987163,1508970993,2453635748,2870763221,3624381080,310598401,607225278,1426881987,1925078388,2162078206,2614888103,3248222580,3835390401,4022224774,264347078,604807628,770255983,1249150122,1555081692,1996064986,2554220882,2821834349,2952996808,3210313671,3336571891,3584528711,113926993,338241895,666307205,773529912,1294757372,1396182291,1695183700,1986661051,2177026350,2456956037,2730485921,2820302411,3259730800,3345764771,3516065817,3600352804,4094571909,275423344,430227734,506948616,659060556,883997877,958139571,1322822218,1537002063,1747873779,1955562222,2024104815,2227730452,2361852424,2428436474,2756734187,3204031479,3329325298]
def VC:List Int:=[1116352408,1899447441,3049323471,3921009573,961987163,1508970993,2453635748,2870763221,3624381080,310598401,607225278,1426881987,1925078388,2162078206,2614888103,3248222580,3835390401,4022224774,264347078,604807628,770255983,1249150122,1555081692,1996064986,2554220882,2821834349,2952996808,3210313671,3336571891,3584528711,113926993,338241895,666307205,773529912,1294757372,1396182291,1695183700,1986661051,2177026350,2456956037,2730485921,2820302411,3259730800,3345764771,3516065817,3600352804,4094571909,275423344,430227734,506948616,659060556,883997877,958139571,1322822218,1537002063,1747873779,1955562222,2024104815,2227730452,2361852424,2428436474,2756734187,3204031479,3329325298]
def cf:List Int:=[1779033703,3144134277,1013904242,2773480762,1359893119,2600822924,528734635,1541459225]
section
variable {P:Program}{W:World}
theorem XJ{x:String×DataW Unit}{r:List (String×DataW Unit)}(h:laidMet P (x::r) W):laidMet P r W:=by
 obtain⟨ps,⟨g,t,cs,fuel,p,q,_,_,_,_,hs,rfl⟩,hn,hc⟩:=h
 exact⟨q,hs,(List.nodup_append.1 hn).2.1,fun b off hb=>hc b off (List.mem_append_right _ hb)⟩
theorem dO{name:String}{g:Nat}{zs:List Int}{T:List UInt32}(hg:P.globalNamed name=some g)(h:Lib.TabIs P W name .u32 zs)(hl:T≠[])(hz:zs=T.map fun x=>(x.toNat:Int)):Tx (· < W.heap.size) W g T:=by
 have hc:∀i x,T[i]? = some x→W.cell? ⟨g,i,none⟩=some (AA x):=by
  intro i x hx
  obtain⟨hi,rfl⟩:=List.getElem?_eq_some_iff.1 hx
  have:=h.cell hg i (by rw[hz];simpa using hi)
  rw[this,hz]
  simp[AA,List.getD_eq_getElem?_getD,hi]
 refine⟨?_,hc⟩
 obtain⟨x,r,rfl⟩:=List.exists_cons_of_ne_nil hl
 have h0:=hc 0 x rfl
 rcases Nat.lt_or_ge g W.heap.size with h | h
 exact h
 have:W.heap[g]? = none:=by simp[h]
 simp[World.cell?,this]at h0
end
theorem vq:ownKnob Tryz.prog.godebug=none:=zK
theorem lY:laidOutB Tryz.prog=true:=zK
theorem kc:Tryz.prog.globalNamed "sphragis/sha.first" = some 1:=zK
theorem kh:Tryz.prog.globalNamed "sphragis/sha.constants" = some 3:=zK
theorem nV:(Tryz.prog.globals[1]?).map (·.type)=some 272:=zK
theorem pN:(Tryz.prog.globals[3]?).map (·.type)=some 296:=zK
theorem WW:Tryz.prog.cellsOf 29=1:=zK
theorem jq:Tryz.prog.cellsOf 272=8:=zK
theorem ZE:Tryz.prog.cellsOf 296=64:=zK
theorem nU{W:World}(h:laidMetH Tryz.prog [("sphragis/sha.first", Rows.laid_sphragis_sha_first),("sphragis/sha.constants", Rows.laid_sphragis_sha_constants)] W):Ho (· < W.heap.size) W Ri:=by
 have h0:laidMet Tryz.prog [("sphragis/sha.first", Lib.tabData .u32 cf),("sphragis/sha.constants", Lib.tabData .u32 VC)] W:=h
 refine⟨?_,rfl,?_⟩
 exact dO kh (Lib.tabIs_of_head (rest:=[]) kh pN Tryz.underlying296 Tryz.underlying29 WW ZE (XJ h0)) (by simp[Ri]) zK
 exact dO kc (Lib.tabIs_of_head kc nV Tryz.underlying272 Tryz.underlying29 WW jq h0) (by simp[Dv,NH.list]) zK
def pW(zs:List Int):Obj→Obj
 | .cells _ t frozen=>.cells (zs.map fun z=>Value.int .u32 z).toArray t frozen
 | o=>o
end

section
open Go Go.ChangeShapes Go.WideShapes Go.ChangeAt Go.RowKit Go.Deep Go.Lib Go.Joins
section
variable {G:Type}{enc:TypeId×Value→G}{P:Program}{W:World}
theorem bh{t:TypeId}{k:IntKind}{base:Nat}{v:Value}{d:DataW G}{p:List MemPlace}(ht:P.underlying t=some (.int k))(hval:Value.okWide P W .any base t v)(h:DataW.Trod enc P W 0 (fun _=>true) true t v d p):
  ∃z:Int,v=.int k z∧(Lit.int k z).wf=true:=by
 obtain⟨z,rfl⟩:=okWide_int ht hval
 obtain⟨n,hn⟩:=h
 obtain⟨z',e,_,w⟩:=DataW.trod_int ht hn
 simp[Value.cells]at e
 subst e
 exact⟨z,rfl,w⟩
end
end

section
variable {P:Program}{ro:Option Nat}{K:Nat→Prop}{w0:World}{N:Nat}{Q:DF}{D:List Nat}{l l':Tm}{H H' Hs L:List AW}{ops:Array Oper}{items:Io}
variable {tk:Bool}{o:Oper}{t:Nat}{v:Value}{x y z:Operand}
def wI(x:Int):Int:=IntKind.i64.wrap x
theorem BC{x:Int}(h1 : -9223372036854775808≤x)(h2:x≤9223372036854775807):wI x=x:=Kj (k:=.i64) h1 h2
def Aq{α:Type}(l:List α)(i:Int):Option α:=if 0≤i then l[i.toNat]? else none
def Cr{α:Type}(l:List α)(i j:Int):Option (List α):=if 0≤i∧i≤j∧j≤l.length then some ((l.drop i.toNat).take (j.toNat-i.toNat))else none
def FR{α:Type}(l:List α)(i:Int)(a:α):Option (List α):=if 0≤i∧i<l.length then some (l.set i.toNat a)else none
def FN(s t:List UInt8):Option (List UInt8):=if s.length+t.length≤9223372036854775807 then some (s++t)else none
def Ci{α:Type}(by_:Nat)(s t:List α):Option (List α):=if(s.length+t.length)*by_≤140737488355328∧s.length+t.length≤9223372036854775807 then some (s++t)else none
def Sq(i:Int):Option Nat:=if 0≤i then some i.toNat else none
def UN(a b:Int):Option Int:=if b=0 then none else some (wI (a.tdiv b))
def SE(a b:Int):Option Int:=if b=0 then none else some (a.tmod b)
def QP(a b:UInt64):Option UInt64:=if b=0 then none else some (a / b)
def Wj(a b:UInt64):Option UInt64:=if b=0 then none else some (a%b)
def FQ(b:Bool)(c:Option Bool):Option Bool:=cond b c (some false)
def Nn(b:Bool)(c:Option Bool):Option Bool:=cond b (some true) c
def By{α β:Type}(F:(α→Option β)→α→Option β):Nat→α→Option β
 | 0,_=>none
 | m+1,a=>F (By F m) a
def ret{α β:Type}(e:α)(k:α→β):β:=k e
theorem bnd{α β:Type}{a:Option α}{f:α→Option β}{r:β}(h:a.bind f=some r):∃x,a=some x∧f x=some r:=Option.bind_eq_some_iff.1 h
theorem Bp{α β:Type}{e:α}{k:α→Option β}{r:β}(h:ret e k=some r):∃x,e=x∧k x=some r:=⟨e,rfl,h⟩
theorem cT{α:Type}{b:Bool}{x y:Option α}{r:α}(hb:b=true)(h:cond b x y=some r):x=some r:=by subst hb;exact h
theorem cF{α:Type}{b:Bool}{x y:Option α}{r:α}(hb:b=false)(h:cond b x y=some r):y=some r:=by subst hb;exact h
theorem EX{α:Type}{l:List α}{i:Int}{a:α}(h:Aq l i=some a):i=(i.toNat:Int)∧i.toNat<l.length∧l[i.toNat]? = some a:=by
 unfold Aq at h
 split at h
 rename_i h0
 obtain⟨hlt,_⟩:=List.getElem?_eq_some_iff.1 h
 exact⟨by omega,hlt,h⟩
 cases h
theorem MP{α:Type}{l u:List α}{i j:Int}(h:Cr l i j=some u):i=(i.toNat:Int)∧j=(j.toNat:Int)∧i.toNat≤j.toNat∧j.toNat≤l.length∧u=(l.drop i.toNat).take (j.toNat-i.toNat):=by
 unfold Cr at h
 split at h
 rename_i h0
 exact⟨by omega,by omega,by omega,by omega,(zI h).symm⟩
 cases h
abbrev GY(x:UInt8):List Value:=[Dt x]
abbrev Bw(x:UInt32):List Value:=[AA x]
abbrev eS(x:List UInt8):List Value:=[vS x]
abbrev eB(x:Bool):List Value:=[vB x]
theorem Az{a b:Int}:FB .add (vI a) (vI b) (vI (wI (a+b))):=fun P w ty x y=>⟨BN ..,by simp[binOp,Op.intArith,wI]⟩
theorem B5{a b:Int}:FB .sub (vI a) (vI b) (vI (wI (a-b))):=fun P w ty x y=>⟨BN ..,by simp[binOp,Op.intArith,wI]⟩
theorem I4{a b:Int}:FB .mul (vI a) (vI b) (vI (wI (a*b))):=fun P w ty x y=>⟨BN ..,by simp[binOp,Op.intArith,wI]⟩
theorem WX{a b c:Int}(h:UN a b=some c):FB .quo (vI a) (vI b) (vI c):=fun P w ty x y=>⟨BN ..,by
 unfold UN at h
 split at h
 cases h
 rename_i h0
 obtain rfl:=zI h
 simp[binOp,Op.intDiv,h0,wI]⟩
theorem Qq{a b c:Int}(h:SE a b=some c):FB .rem (vI a) (vI b) (vI c):=fun P w ty x y=>⟨BN ..,by
 unfold SE at h
 split at h
 cases h
 rename_i h0
 obtain rfl:=zI h
 simp[binOp,Op.intDiv,h0]⟩
theorem Sj{a:UInt32}{k:IntKind}{i:Int}{n:Nat}(h:Sq i=some n):FB .shl (AA a) (.int k i) (AA (Go.Proofs.YtkibffdipniemaaGreatDoor.shl32 a n)):=by
 unfold Sq at h
 split at h
 obtain rfl:=zI h
 have:i=(i.toNat:Int):=zO
 rw[this]
 exact FB.shl32
 cases h
theorem XH{a:UInt32}{k:IntKind}{i:Int}{n:Nat}(h:Sq i=some n):FB .shr (AA a) (.int k i) (AA (Go.Proofs.YtkibffdipniemaaGreatDoor.shr32 a n)):=by
 unfold Sq at h
 split at h
 obtain rfl:=zI h
 have:i=(i.toNat:Int):=zO
 rw[this]
 exact FB.shr32
 cases h
theorem gO{a:UInt64}{k:IntKind}{i:Int}{n:Nat}(h:Sq i=some n):FB .shl (Ar a) (.int k i) (Ar (Go.Proofs.YtkibffdipniemaaGreatDoor.shl64 a n)):=by
 unfold Sq at h
 split at h
 obtain rfl:=zI h
 have:i=(i.toNat:Int):=zO
 rw[this]
 exact FB.shl64
 cases h
theorem P3{a b c:UInt64}(h:QP a b=some c):FB .quo (Ar a) (Ar b) (Ar c):=fun P w ty x y=>⟨BN ..,by
 unfold QP at h
 split at h
 cases h
 rename_i hb
 obtain rfl:=zI h
 have h0:((b.toNat:Int))≠0:=by
  intro h
  have:b.toNat=0:=zO
  exact hb (UInt64.toNat_inj.1 this)
 have h1:IntKind.u64.wrap (Int.tdiv (a.toNat:Int) (b.toNat:Int))=((a / b).toNat:Int):=by
  rw[Ky,Int.tdiv_eq_ediv_of_nonneg zO,UInt64.toNat_div]
  have h2:a.toNat / b.toNat≤a.toNat:=Nat.div_le_self _ _
  have:=a.toNat_lt
  rw[show((a.toNat:Int) / (b.toNat:Int))=((a.toNat / b.toNat:Nat):Int)from rfl]
  generalize a.toNat / b.toNat=q at h2 ⊢
  omega
 simp only[binOp,Op.intDiv,ne_eq,not_true_eq_false,if_false,h0,h1,Sem.run_pure]⟩
theorem XE{a b c:UInt64}(h:Wj a b=some c):FB .rem (Ar a) (Ar b) (Ar c):=by
 unfold Wj at h
 split at h
 cases h
 rename_i hb
 obtain rfl:=zI h
 exact jV hb
theorem CW{s t u:List UInt8}(h:FN s t=some u):FB .add (vS s) (vS t) (vS u):=by
 unfold FN at h
 split at h
 rename_i hl
 obtain rfl:=zI h
 exact Fw hl
 cases h
theorem Dr{s:List UInt8}{ty:TypeId}{k:IntKind}{i:Int}{c:UInt8}(hn:Aq s i=some c)(ho:At ops N l o t (.index ty x y))(hty:P.underlying ty=some .string)(hx:Bh l x=some (vS s))(hy:Bh l y=some (.int k i))
(h:SL P ro K w0 N ops Hs items Q D ((t,Dt c)::l) H):SL P ro K w0 N ops Hs (.cons (tk,o) items) Q D l H:=by
 obtain⟨h1,h2,h3⟩:=EX hn
 refine G4 i.toNat ho hty hx hy h1 h2 ?_
 have:s.getD i.toNat 0=c:=by simp[List.getD_eq_getElem?_getD,h3]
 rw[this]
 exact h
theorem It{s u:List UInt8}{ty:TypeId}{k k':IntKind}{i j:Int}(hn:Cr s i j=some u)(ho:At ops N l o t (.slice ty x (some y) (some z) none))(hty:P.underlying ty=some .string)(hx:Bh l x=some (vS s))(hy:Bh l y=some (.int k i))(hz:Bh l z=some (.int k' j))
(h:SL P ro K w0 N ops Hs items Q D ((t,vS u)::l) H):SL P ro K w0 N ops Hs (.cons (tk,o) items) Q D l H:=by
 obtain⟨h1,h2,h3,h4,rfl⟩:=MP hn
 exact X5 i.toNat j.toNat ho hty hx hy hz h1 h2 h3 h4 h
theorem S5{s u:List UInt8}{ty:TypeId}{k:IntKind}{i:Int}(hn:Cr s i (s.length:Int)=some u)(ho:At ops N l o t (.slice ty x (some y) none none))(hty:P.underlying ty=some .string)(hx:Bh l x=some (vS s))(hy:Bh l y=some (.int k i))
(h:SL P ro K w0 N ops Hs items Q D ((t,vS u)::l) H):SL P ro K w0 N ops Hs (.cons (tk,o) items) Q D l H:=by
 obtain⟨h1,h2,h3,h4,rfl⟩:=MP hn
 refine OH i.toNat ho hty hx hy h1 zO ?_
 rw[List.take_of_length_le zS]at h
 exact h
theorem PX{s u:List UInt8}{ty:TypeId}{k:IntKind}{j:Int}(hn:Cr s 0 j=some u)(ho:At ops N l o t (.slice ty x none (some z) none))(hty:P.underlying ty=some .string)(hx:Bh l x=some (vS s))(hz:Bh l z=some (.int k j))
(h:SL P ro K w0 N ops Hs items Q D ((t,vS u)::l) H):SL P ro K w0 N ops Hs (.cons (tk,o) items) Q D l H:=by
 obtain⟨h1,h2,h3,h4,rfl⟩:=MP hn
 exact PR j.toNat ho hty hx hz h2 h4 (by simpa using h)
theorem Cj{α:Type}{enc:α→List Value}{sz:Nat}{xs:List α}{k:IntKind}{i:Int}{ty e:TypeId}{x0:α}(hn:Aq xs i=some x0)(hk:CD K w0 enc sz v xs)(ho:At ops N l o t (.indexAddr ty x y))(hty:P.underlying ty=some (.slice e))(hsz:C8 P e=some sz)(hx:Bh l x=some v)(hy:Bh l y=some (.int k i))
(h:∀b off,(∀L w,F9 K w0 L w→∀j u,(enc x0)[j]? = some u→w.cell? ⟨b,off+j,none⟩=some u)→SL P ro K w0 N ops Hs items Q D ((t,vP b off)::l) H):SL P ro K w0 N ops Hs (.cons (tk,o) items) Q D l H:=by
 obtain⟨h1,h2,h3⟩:=EX hn
 exact RX i.toNat x0 hk ho hty hsz hx hy h1 h3 h
theorem DS{b off j:Nat}{u:Value}{cs:List Value}(hc:∀L w,F9 K w0 L w→∀j u,cs[j]? = some u→w.cell? ⟨b,off+j,none⟩=some u)(hj:cs[j]? = some u):∀w,F9 K w0 L w→w.cell? ⟨b,off+j,none⟩=some u:=fun w hw=>hc L w hw j u hj
theorem C7{b off:Nat}{cs:List Value}(hc:∀L w,F9 K w0 L w→∀j u,cs[j]? = some u→w.cell? ⟨b,off+j,none⟩=some u):∀w,F9 K w0 L w→∀j u,cs[j]? = some u→w.cell? (Addr.add ⟨b,off,none⟩ j)=some u:=
 fun w hw j u hu=>by rw[CA];exact hc L w hw j u hu
theorem ot{α:Type}{enc:α→List Value}{sz:Nat}{xs us:List α}{k:IntKind}{j:Int}{ty e:TypeId}(hn:Cr xs 0 j=some us)(hk:CD K w0 enc sz v xs)(ho:At ops N l o t (.slice ty x none (some z) none))(hty:P.underlying ty=some (.slice e))(hsz:C8 P e=some sz)(hx:Bh l x=some v)(hz:Bh l z=some (.int k j))
(h:∀v',CD K w0 enc sz v' us→SL P ro K w0 N ops Hs items Q D ((t,v')::l) H):SL P ro K w0 N ops Hs (.cons (tk,o) items) Q D l H:=by
 obtain⟨h1,h2,h3,h4,rfl⟩:=MP hn
 exact rJ j.toNat hk ho hty hsz hx hz h2 h4 (fun v' hv'=>h v' (by simpa using hv'))
def AH{α:Type}(e:TypeId)(sz:Nat)(v:Value)(enc:α→List Value)(xs:List α):AW:=
 ⟨fun b=>v.ownBlock=some b,fun w=>w.ownsRow 0 e sz v xs.length (xs.flatMap enc),fun w w' h hw=>by
  refine⟨hw.1,?_⟩
  rcases hw.2 with hn | ⟨g,cap,cur,rfl,hb,hgg,rest⟩
  exact .inl hn
  exact .inr ⟨g,cap,cur,rfl,hb,by rw[h g rfl];exact hgg,rest⟩⟩
section rows
variable {α:Type}{enc:α→List Value}{sz:Nat}{xs us:List α}{e ty:TypeId}
theorem IY(hl:∀x,(enc x).length=sz):∀ys:List α,(ys.flatMap enc).length=ys.length*sz
 | []=>by simp
 | y::ys=>by rw[List.flatMap_cons,List.length_append,IY hl ys,hl,List.length_cons,Nat.add_mul,Nat.one_mul,Nat.add_comm]
theorem Bc.nilT{w:World}(e:TypeId)(sz:Nat)(enc:α→List Value)(h:Bc K w0 H w):Bc K w0 (AH e sz zN enc []::H) w:=by
 refine h.cons (n:=w.heap.size) (Nat.le_refl _) (fun d hd b hb=>(h.foot d hd b hb).1) h.kltw (World.ownsRow_nil ..) ?_
 intro b hb
 simp[AH,Value.ownBlock]at hb
theorem Bk(e:TypeId)(sz:Nat)(enc:α→List Value)(h:SL P ro K w0 N ops Hs items Q D l (AH e sz zN enc []::H)):SL P ro K w0 N ops Hs items Q D l H:=
 fun a w ha hw hs=>h a w ha (hw.nilT e sz enc) hs
theorem gN{w:World}{g n cap i j:Nat}{c:α}{u:Value}(hl:∀x,(enc x).length=sz)(h:(AH e sz v enc xs).holds w)(hv:v=.slice (some ⟨g,0,none⟩) n cap)(hi:xs[i]? = some c)(hj:(enc c)[j]? = some u):w.cell? ⟨g,i*sz+j,none⟩=some u:=by
 have hrow:w.ownsRow 0 e sz v xs.length (xs.flatMap enc):=h
 have hF:=World.ownsRowF_of hrow
 have:=hF.cells (g:=g) (by rw[hv];rfl) (i*sz+j) u (On hl xs i c j u hi hj)
 rw[CA]at this
 simpa using this
theorem Br{g n cap:Nat}{c:α}{i:Int}{u:Value}(k j:Nat)(hl:∀x,(enc x).length=sz)(hk:L[k]? = some (AH e sz v enc xs))(hv:v=.slice (some ⟨g,0,none⟩) n cap)(hi:Aq xs i=some c)(hj:(enc c)[j]? = some u):∀w,F9 K w0 L w→w.cell? ⟨g,i.toNat*sz+j,none⟩=some u:=
 fun _w hw=>gN hl (hw.holds _ (List.mem_of_getElem? hk)) hv (EX hi).2.2 hj
theorem Cd{g n cap:Nat}{c:α}{i:Int}(k:Nat)(hl:∀x,(enc x).length=sz)(hk:L[k]? = some (AH e sz v enc xs))(hv:v=.slice (some ⟨g,0,none⟩) n cap)(hi:Aq xs i=some c):∀w,F9 K w0 L w→∀j u,(enc c)[j]? = some u→w.cell? (Addr.add ⟨g,i.toNat*sz,none⟩ j)=some u:=
 fun w hw j u hu=>by rw[CA];exact Br k j hl hk hv hi hu w hw
theorem Dg(k:Nat)(ho:At ops N l o t (.call { callee:=.builtin .len,args:=#[x],argTypes:=#[ty] }))(hty:P.underlying ty=some (.slice e))(hx:Bh l x=some v)
{e':TypeId}(hk:(bif tk then Hs else H)[k]? = some (AH e' sz v enc xs))(h:SL P ro K w0 N ops Hs items Q D ((t,vI xs.length)::l) H):SL P ro K w0 N ops Hs (.cons (tk,o) items) Q D l H:=
 SL.val ho rfl (fun a w ha hsw=>by
  have hrow:w.ownsRow 0 e' sz v xs.length (xs.flatMap enc):=hsw.holds _ (List.mem_of_getElem? hk)
  simp only[execOp,ho.op,resolve,invoke,builtin,Builtin.len_]
  rcases hrow.2 with⟨rfl,hn⟩ | ⟨g,cap,cur,rfl,_⟩
  simp[ha.eval hx,Ay hty,goInt,hn]
  simp[ha.eval hx,Ay hty,goInt]) h
theorem BR(k:Nat){kk:IntKind}{i:Int}{c:α}(hn:Aq xs i=some c)(ho:At ops N l o t (.indexAddr ty x y))(hty:P.underlying ty=some (.slice e))(hsz:C8 P e=some sz)(hx:Bh l x=some v)(hy:Bh l y=some (.int kk i))
(hk:H[k]? = some (AH e sz v enc xs))
(h:∀g m cap,v=.slice (some ⟨g,0,none⟩) m cap→SL P ro K w0 N ops Hs items Q D ((t,vP g (i.toNat*sz))::l) H):SL P ro K w0 N ops Hs (.cons (tk,o) items) Q D l H:=by
 intro a w ha hw hs
 have hrow:w.ownsRow 0 e sz v xs.length (xs.flatMap enc):=hw.holds _ (List.mem_append_left _ (List.mem_of_getElem? hk))
 obtain⟨h1,h2,h3⟩:=EX hn
 rcases hrow.2 with⟨_,h0⟩ | ⟨g,cap,cur,hv,_⟩
 omega
 exact(dL (n:=i.toNat) ho hty hsz (hx.trans (by rw[hv])) hy h1 h2 (by simpa using h g xs.length cap hv)) a w ha hw hs
theorem Vg(hl:∀x,(enc x).length=sz):∀(xs:List α) (i:Nat) (a:α),i<xs.length→(xs.set i a).flatMap enc=(xs.flatMap enc).take (i*sz)++enc a++(xs.flatMap enc).drop (i*sz+sz)
 | [],i,a,h=>by simp at h
 | b::r,0,a,_=>by
  have hb:=hl b
  simp only[List.set_cons_zero,List.flatMap_cons,Nat.zero_mul,List.take_zero,List.nil_append,Nat.zero_add]
  rw[List.drop_append_of_le_length zO,List.drop_of_length_le zO,List.nil_append]
 | b::r,i+1,a,h=>by
  have hb:=hl b
  have ih:=Vg hl r i a (by simpa using h)
  simp only[List.set_cons_succ,List.flatMap_cons]
  rw[ih]
  have e1:(i+1)*sz=(enc b).length+i*sz:=by rw[hb,Nat.add_mul];omega
  have e2:(i+1)*sz+sz=(enc b).length+(i*sz+sz):=by rw[hb,Nat.add_mul];omega
  rw[e2,e1,List.take_length_add_append,List.drop_length_add_append]
  simp
theorem Cz(k:Nat){g m cap:Nat}{i:Int}{u:Value}{a:α}(hn:FR xs i a=some us)(hl:∀x,(enc x).length=sz)(ho:At0 ops l o (.store ty x y))(hx:Bh l x=some (vP g (i.toNat*sz)))(hy:Bh l y=some u)(hu:u.cells.toList=enc a)(hk:H[k]? = some (AH e sz v enc xs))(hv:v=.slice (some ⟨g,0,none⟩) m cap)
(hsz:C8 P ty=some sz)(h1:∀c∈enc a,c.oneCell'=true)(hs:Ey Hs (H.set k (AH e sz v enc us)))(h:SL P ro K w0 N ops Hs items Q D l (H.set k (AH e sz v enc us))):SL P ro K w0 N ops Hs (.cons (false,o) items) Q D l H:=by
 unfold FR at hn
 split at hn
 rename_i hi
 obtain rfl:=zI hn
 refine WU ho E (fun a' w ha hw=>?_) hs h
 have hrow:w.ownsRow 0 e sz v xs.length (xs.flatMap enc):=hw.holds _ (List.mem_append_left _ (List.mem_of_getElem? hk))
 have hlt:i.toNat<xs.length:=zO
 rcases hrow.2 with⟨hv',h0⟩ | ⟨g',cap',cur,hv',hb,hg,hnc,hcm,hcs,htk⟩
 rw[hv']at hv;cases hv
 obtain⟨rfl,rfl,rfl⟩:g'=g∧xs.length=m∧cap'=cap:=by rw[hv']at hv;simpa using hv
 have hucz:u.cells.size=sz:=by rw[←Array.length_toList,hu,hl]
 have hle:i.toNat*sz+sz≤xs.length*sz:=by
  have:=Nat.mul_le_mul_right sz (show i.toNat+1≤xs.length by omega)
  rw[Nat.add_mul,Nat.one_mul]at this
  exact this
 have hle2:xs.length*sz≤cap'*sz:=Nat.mul_le_mul_right _ hnc
 obtain⟨w',hrun,hw'⟩:=MC (P:=P) u.cells.toList (i.toNat*sz) 0 cur w hg (by rw[Array.length_toList,hucz];omega) (by rw[hu];exact h1)
 refine⟨w',?_,?_⟩
 simp[execOp,ho.op,Instr.storeAt,Instr.sureAddr,ha.eval hx,ha.eval hy,storeVar,CU hsz,hucz]
 rw[hrun]
 rfl
 rw[hw']
 obtain⟨hlt2,_⟩:=Array.getElem?_eq_some_iff.1 hg
 refine hw.turnAt (c:=AH e sz v enc xs) k hk rfl rfl rfl zS (fun b hb hne=>World.putObj_heap_other (fun e=>hne (by subst e;rw[hv'];rfl))) ⟨IY hl _,.inr ⟨g',cap',_,by rw[hv',List.length_set],Nat.zero_le _,World.putObj_heap_same hlt2,by simpa using hnc,hcm,by rw[Uh,hcs],?_⟩⟩ (fun b hb=>⟨.inl hb,?_⟩)
 have hcl:(enc a).length=sz:=hl a
 rw[LL _ _ _ (by rw[hu,hcl];omega),Vg hl xs i.toNat a hlt,hu,hcl,←htk,List.length_set,Nat.add_zero]
 have e1:(cur.toList.take (i.toNat*sz)).length=i.toNat*sz:=by simp;omega
 rw[List.take_take,Nat.min_eq_left zO]
 have e2:(cur.toList.take (i.toNat*sz)++enc a).length=i.toNat*sz+sz:=by rw[List.length_append,e1,hcl]
 rw[List.take_append,e2,List.take_of_length_le zO]
 congr 1
 rw[List.drop_take]
 have:b=g':=by
  have hb':v.ownBlock=some b:=hb
  rw[hv']at hb'
  simpa[Value.ownBlock]using hb'.symm
 subst this
 simpa using hlt2
 cases hn
theorem CQ{by_ m c:Nat}{zv:Value}{new:List α}{ad:Addr}(k:Nat)(hn:Ci by_ xs new=some us)(hl:∀x,(enc x).length=sz)(ho:At ops N l o t (.call { callee:=.builtin .append,args:=#[x,y],argTypes:=#[ty,ty] }))
(hty:P.underlying ty=some (.slice e))(hsz:C8 P e=some sz)(hby:Pa P e=some by_)(hze:EY P e=some zv)(hzs:zv.cells.size=sz)(hsz0:0<sz)
(hx:Bh l x=some v)(hy:Bh l y=some (.slice (some ad) m c))(hm:m=new.length)(hk:H[k]? = some (AH e sz v enc xs))
(hnews:∀w,F9 K w0 H w→∀j u,(new.flatMap enc)[j]? = some u→w.cell? (ad.add j)=some u)(h1:∀a,∀u∈enc a,u.oneCell'=true)
(hs:∀v',Ey Hs (H.set k (AH e sz v' enc us)))
(h:∀v',SL P ro K w0 N ops Hs items Q D ((t,v')::l) (H.set k (AH e sz v' enc us))):SL P ro K w0 N ops Hs (.cons (false,o) items) Q D l H:=by
 unfold Ci at hn
 split at hn
 rename_i hb
 obtain rfl:=zI hn
 subst hm
 have hfl:=IY hl
 refine HX (fun v'=>v') (fun v'=>H.set k (AH e sz v' enc (xs++new))) ho E (fun a w ha hw=>?_) hs h
 obtain⟨ii,hii,e1,e2,e3⟩:=O9 hsz hby hze
 have hrow:w.ownsRow 0 e sz v xs.length (xs.flatMap enc):=hw.holds _ (List.mem_append_left _ (List.mem_of_getElem? hk))
 obtain⟨v',w',hr,hr2,hr3,_,hr4⟩:=run_append_own_at (P:=P) w 0 ty o.type e ii zv sz by_ hty hii e3 e1 e2 hzs hsz0 v xs.length _ hrow ad new.length c (new.flatMap enc) (hfl new) (hnews w hw.dropMarks.s) (fun u hu=>by
  obtain⟨a,_,ha⟩:=List.mem_flatMap.1 hu
  exact h1 a u ha) (by simp only[maxLen];omega) hb.1 (Nat.zero_le _)
 refine⟨v',w',?_,hw.turnAt (c:=AH e sz v enc xs) k hk hr3.os hr3.tape hr3.output hr3.size (fun b hb hne=>hr3.block b hb (fun e=>hne e.symm)) (show w'.ownsRow 0 e sz v' (xs++new).length ((xs++new).flatMap enc) by rw[List.flatMap_append,List.length_append];exact hr2) ?_⟩
 unfold execOp
 simp only[ho.op,resolve,invoke,builtin,Sem.run_bind,Sem.run_pure,Result.andThen_ok,List.map_toArray,List.map_cons,List.map_nil,ha.eval hx,ha.eval hy,hr]
 intro b hb
 refine⟨?_,(hr2.lt b hb).2⟩
 have hb':v'.ownBlock=some b:=hb
 rcases hr4 with h4 | h4
 exact .inl (by rw[h4]at hb';exact hb')
 rw[h4]at hb'
 right
 simp at hb'
 omega
 cases hn
theorem Bc.ownT{w:World}{b:Nat}{c:Array Value}(xs:List α)(h:Bc K w0 (AP b (.cells c e)::H) w)(hc:c.toList=xs.flatMap enc)(hl:∀x,(enc x).length=sz)(hm:xs.length≤9223372036854775807):Bc K w0 (AH e sz (.slice (some ⟨b,0,none⟩) xs.length xs.length) enc xs::H) w:=by
 have hfl:=IY hl
 have hcs:c.size=xs.length*sz:=by rw[←Array.length_toList,hc,hfl]
 refine h.turn rfl rfl rfl (Nat.le_refl _) (fun _ _ _=>rfl) ⟨hfl xs,.inr ⟨b,xs.length,c,rfl,Nat.zero_le _,h.holds _ (List.mem_cons_self ..),Nat.le_refl _,by simp only[maxLen];omega,hcs,by rw[hc,←hfl];exact List.take_length⟩⟩ (fun k hk=>?_)
 have hkb:k=b:=by simp[AH,Value.ownBlock]at hk;exact hk.symm
 subst hkb
 exact⟨.inl rfl,(h.foot _ (List.mem_cons_self ..) k rfl).1⟩
theorem B2{b:Nat}{c:Array Value}(enc:α→List Value)(sz:Nat)(xs:List α)(hc:c.toList=xs.flatMap enc)(hl:∀x,(enc x).length=sz)(hm:Nat.ble xs.length 1000000=true)
(h:SL P ro K w0 N ops Hs items Q D l (AH e sz (.slice (some ⟨b,0,none⟩) xs.length xs.length) enc xs::H)):SL P ro K w0 N ops Hs items Q D l (AP b (.cells c e)::H):=
 fun a w ha hw hs=>h a w ha (hw.ownT xs hc hl (by have:=Nat.le_of_ble_eq_true hm;omega)) hs
theorem cw{by_ n:Nat}{zv:Value}{k k':IntKind}(enc:α→List Value)(ho:At ops N l o t (.makeSlice ty x y))(hty:P.underlying ty=some (.slice e))(hsz:C8 P e=some sz)(hby:Pa P e=some by_)(hze:EY P e=some zv)(_hzs:zv.cells.size=sz)
(hx:Bh l x=some (.int k 0))(hy:Bh l y=some (.int k' (n:Int)))(hb:Nat.ble (by_*n) 281474976710656=true)(h63:Nat.ble n 9223372036854775807=true)
(hs:∀v',Ey Hs (AH e sz v' enc []::H))(h:∀v',SL P ro K w0 N ops Hs items Q D ((t,v')::l) (AH e sz v' enc []::H)):SL P ro K w0 N ops Hs (.cons (false,o) items) Q D l H:=
 HX (fun b=>.slice (some ⟨b,0,none⟩) 0 n) (fun b=>AH e sz (.slice (some ⟨b,0,none⟩) 0 n) enc []::H) ho rfl (fun a w ha hw=>by
  obtain⟨ii,hii,e1,e2,e3⟩:=O9 hsz hby hze
  have hbn:=Nat.le_of_ble_eq_true hb
  have h63n:=Nat.le_of_ble_eq_true h63
  have hb':(ii.bytes:Int)*(n:Int)≤281474976710656:=by rw[e2,←Int.natCast_mul];omega
  have hr:=run_make (P:=P) w ty e ii zv hty hii e3 k k' 0 n zO zO hb' zO
  rw[e1]at hr
  simp only[Int.toNat_natCast]at hr
  refine⟨w.heap.size,w.alloc (.cells (madeCells zv.cells (n*sz)) e),?_,?_⟩
  unfold execOp
  simp only[ho.op,ha.eval hx,ha.eval hy,Sem.run_bind,hr,Result.andThen_ok,Sem.run_pure]
  rfl
  have h2:=hw.alloc (.cells (madeCells zv.cells (n*sz)) e)
  refine h2.turn rfl rfl rfl (Nat.le_refl _) (fun _ _ _=>rfl) ⟨by simp,.inr ⟨w.heap.size,n,_,rfl,Nat.zero_le _,h2.holds _ (List.mem_cons_self ..),Nat.zero_le _,by simp only[maxLen];omega,?_,by simp⟩⟩ (fun k hk=>?_)
  simp[madeCells]
  have hkb:k=w.heap.size:=by simp[AH,Value.ownBlock]at hk;exact hk.symm
  subst hkb
  exact⟨.inl rfl,(h2.foot _ (List.mem_cons_self ..) _ rfl).1⟩) (fun b=>hs _) (fun b=>h _)
theorem B7{K':Nat→Prop}{w1:World}(hl:∀x,(enc x).length=sz)(h:(AH e sz v enc xs).holds w1∧∀k,(AH e sz v enc xs).foot k→K' k):CD K' w1 enc sz v xs:=by
 have hrow:w1.ownsRow 0 e sz v xs.length (xs.flatMap enc):=h.1
 refine⟨hl,?_⟩
 rcases hrow.2 with⟨rfl,h0⟩ | ⟨g,cap,cur,rfl,_,hg,hc,_⟩
 exact .inl ⟨_,rfl,List.length_eq_zero_iff.1 h0⟩
 refine .inr ⟨g,0,cap,rfl,hc,fun j u hu=>⟨h.2 g rfl,?_⟩⟩
 have:=(World.ownsRowF_of hrow).cells (g:=g) rfl j u hu
 rw[CA]at this
 exact this
theorem uC:∀s:List UInt8,s.flatMap GY=s.map fun b=>Dt b
 | []=>rfl
 | b::r=>by rw[List.flatMap_cons,uC r];rfl
theorem ID{src dst:TypeId}{s:List UInt8}(k:Nat)(ho:At ops N l o t (.convert src dst x))(hs:P.underlying src=some (.slice e))(he:P.underlying e=some (.int .u8))(hd:P.underlying dst=some .string)(hx:Bh l x=some v)
(hk:(bif tk then Hs else H)[k]? = some (AH e 1 v GY s))
(h:SL P ro K w0 N ops Hs items Q D ((t,vS s)::l) H):SL P ro K w0 N ops Hs (.cons (tk,o) items) Q D l H:=
 SL.val ho rfl (fun a w ha hsw=>by
  have hrow:w.ownsRow 0 e 1 v s.length (s.flatMap GY):=hsw.holds _ (List.mem_of_getElem? hk)
  rw[uC]at hrow
  rcases hrow.2 with⟨rfl,h0⟩ | ⟨g,cap,cur,rfl,_⟩
  have:s=[]:=List.length_eq_zero_iff.1 h0
  subst this
  have h0:(convert src dst (.slice none 0 0)).run P w=.ok (vS []) w:=by
   rw[run_convert_bytes_string w src dst e none 0 0 hs he hd]
   simp[Conv.bytesToString]
   rfl
  simp[execOp,ho.op,ha.eval hx,h0]
  simp[execOp,ho.op,ha.eval hx,Z5 hs he hd rfl ((World.ownsRowF_of hrow).cells rfl)]) h
theorem Bs{b n cap:Nat}(k:Nat)(_hl:∀x,(enc x).length=sz)(hk:L[k]? = some (AH e sz (.slice (some ⟨b,0,none⟩) n cap) enc xs)):∀w,F9 K w0 L w→∀j u,(xs.flatMap enc)[j]? = some u→w.cell? (Addr.add ⟨b,0,none⟩ j)=some u:=by
 intro w hw j u hu
 have hrow:w.ownsRow 0 e sz (.slice (some ⟨b,0,none⟩) n cap) xs.length (xs.flatMap enc):=hw.holds _ (List.mem_of_getElem? hk)
 exact(World.ownsRowF_of hrow).cells (g:=b) rfl j u hu
theorem T0{w:World}(t ty e:TypeId)(i:TypeInfo)(ht:P.underlying t=some (.slice e))(hi:P.info? e=some i)
(v:Value)(n:Nat)(xs:List Value)(hown:w.ownsRow 0 e sz v n xs):(Builtin.append_ #[t,t] ty #[v,zN]).run P w=.ok v w:=by
 rcases hown.2 with⟨rfl,rfl⟩ | ⟨g,cap,cur,rfl,_,_,hnc,_⟩
 simp[Builtin.append_,Ay ht,sizeOf,typeInfo,hi,Builtin.lenOf,Builtin.firstCells]
 simp[Builtin.append_,Ay ht,sizeOf,typeInfo,hi,Builtin.lenOf,Builtin.firstCells,hnc,storeCells]
theorem aE{by_:Nat}{zv:Value}(k:Nat)(ho:At ops N l o t (.call { callee:=.builtin .append,args:=#[x,y],argTypes:=#[ty,ty] }))
(hty:P.underlying ty=some (.slice e))(hsz:C8 P e=some sz)(hby:Pa P e=some by_)(hze:EY P e=some zv)
(hx:Bh l x=some v)(hy:Bh l y=some zN)(hk:H[k]? = some (AH e sz v enc xs))(hs:Ey Hs H)
(h:SL P ro K w0 N ops Hs items Q D ((t,v)::l) H):SL P ro K w0 N ops Hs (.cons (false,o) items) Q D l H:=
 HX (fun _:Unit=>v) (fun _=>H) ho rfl (fun a w ha hw=>by
  obtain⟨ii,hii,e1,e2,e3⟩:=O9 hsz hby hze
  have hrow:w.ownsRow 0 e sz v xs.length (xs.flatMap enc):=hw.holds _ (List.mem_append_left _ (List.mem_of_getElem? hk))
  have hr:=T0 (P:=P) ty o.type e ii hty hii v xs.length _ hrow
  refine⟨(),w,?_,hw⟩
  unfold execOp
  simp only[ho.op,resolve,invoke,builtin,Sem.run_bind,Sem.run_pure,Result.andThen_ok,List.map_toArray,List.map_cons,List.map_nil,ha.eval hx,ha.eval hy,hr]) (fun _=>hs) (fun _=>h)
theorem Wy{c:AW}{k:Nat}(hk:H[k]? = some c):H.set k c=H:=by
 obtain⟨hl,hg⟩:=List.getElem?_eq_some_iff.1 hk
 rw[←hg];exact List.set_getElem_self hl
theorem WN{by_:Nat}(hn:Ci by_ xs []=some us):us=xs:=by
 unfold Ci at hn
 split at hn
 simpa using hn.symm
 cases hn
theorem VA{by_:Nat}{zv u:Value}{new:List α}(k:Nat)(hn:Ci by_ xs new=some us)(hu:CD K w0 enc sz u new)(hl:∀x,(enc x).length=sz)(ho:At ops N l o t (.call { callee:=.builtin .append,args:=#[x,y],argTypes:=#[ty,ty] }))
(hty:P.underlying ty=some (.slice e))(hsz:C8 P e=some sz)(hby:Pa P e=some by_)(hze:EY P e=some zv)(hzs:zv.cells.size=sz)(hsz0:0<sz)
(hx:Bh l x=some v)(hy:Bh l y=some u)(hk:H[k]? = some (AH e sz v enc xs))(h1:∀a,∀u∈enc a,u.oneCell'=true)
(hs:∀v',Ey Hs (H.set k (AH e sz v' enc us)))
(h:∀v',SL P ro K w0 N ops Hs items Q D ((t,v')::l) (H.set k (AH e sz v' enc us))):SL P ro K w0 N ops Hs (.cons (false,o) items) Q D l H:=by
 rcases hu.at_ with⟨a0,rfl,rfl⟩ | ⟨b,off,cap,rfl,_,hc⟩
 cases a0 with
 | some ad=>exact CQ k hn hl ho hty hsz hby hze hzs hsz0 hx hy rfl hk (fun w hw j u hj=>by simp at hj) h1 hs h
 | none=>
  obtain rfl:=WN hn
  have h2:=hs v
  have h3:=h v
  rw[Wy hk]at h2 h3
  exact aE k ho hty hsz hby hze hx hy hk h2 h3
 refine CQ k hn hl ho hty hsz hby hze hzs hsz0 hx hy E hk (fun w hw j u hj=>?_) h1 hs h
 obtain⟨hb,hcell⟩:=hc j u hj
 rw[CA]
 exact Pi (L:=H) hb hcell w hw
theorem Zk{by_:Nat}{zv u:Value}{new:List α}(k k2:Nat)(hn:Ci by_ xs new=some us)(hl:∀x,(enc x).length=sz)(ho:At ops N l o t (.call { callee:=.builtin .append,args:=#[x,y],argTypes:=#[ty,ty] }))
(hty:P.underlying ty=some (.slice e))(hsz:C8 P e=some sz)(hby:Pa P e=some by_)(hze:EY P e=some zv)(hzs:zv.cells.size=sz)(hsz0:0<sz)
(hx:Bh l x=some v)(hy:Bh l y=some u)(hk:H[k]? = some (AH e sz v enc xs))(hk2:H[k2]? = some (AH e sz u enc new))(h1:∀a,∀u∈enc a,u.oneCell'=true)
(hs:∀v',Ey Hs (H.set k (AH e sz v' enc us)))
(h:∀v',SL P ro K w0 N ops Hs items Q D ((t,v')::l) (H.set k (AH e sz v' enc us))):SL P ro K w0 N ops Hs (.cons (false,o) items) Q D l H:=by
 intro a w ha hw hs0
 have hrow:w.ownsRow 0 e sz u new.length (new.flatMap enc):=hw.holds _ (List.mem_append_left _ (List.mem_of_getElem? hk2))
 rcases hrow.2 with⟨rfl,h0⟩ | ⟨g,cap,cur,rfl,_⟩
 have:new=[]:=List.length_eq_zero_iff.1 h0
 subst this
 obtain rfl:=WN hn
 have h2:=hs v
 have h3:=h v
 rw[Wy hk]at h2 h3
 exact aE k ho hty hsz hby hze hx hy hk h2 h3 a w ha hw hs0
 exact CQ k hn hl ho hty hsz hby hze hzs hsz0 hx hy E hk (Bs k2 hl hk2) h1 hs h a w ha hw hs0
theorem CD.nil(hl:∀x,(enc x).length=sz):CD K w0 enc sz zN []:=⟨hl,.inl ⟨_,rfl,rfl⟩⟩
end rows
theorem An{u:Value}(ho:At ops N l o t (.assign x))(hx:Bh l x=some v)(hu:v=u)(h:SL P ro K w0 N ops Hs items Q D ((t,u)::l) H):SL P ro K w0 N ops Hs (.cons (tk,o) items) Q D l H:=
 kq ho (by rw[hx,hu]) h
theorem wR{c:Code}(l':Tm)(H':List AW)(h:SX P ro K w0 N c Q D l' H')(e1:R6 l' l)(e2:H=H':=by rfl):SX P ro K w0 N c Q D l H:=by
 subst e2;exact h.mono e1
def midD{α:Type}(K:Nat→Prop)(w0:World)(N:Nat)(p:α→Prop)(I:α→Tm)(G:α→List AW)(Q:DF):DF
 | .normal,a,w=>∃x D,p x∧Mc N D (I x) a∧Bc K w0 (G x++[BU D]) w
 | e,a,w=>Q e a w
theorem A5{α:Type}(p:α→Prop)(I:α→Tm)(G:α→List AW){c y:Code}(h:SX P ro K w0 N c (midD K w0 N p I G Q) D l H)(h2:∀x D,p x→SX P ro K w0 N y Q D (I x) (G x)):SX P ro K w0 N (.seq c y) Q D l H:=by
 intro a w ha hw
 refine wpIn_seq (wpIn_mono (h a w ha hw) ?_)
 intro e a w q
 cases e with
 | normal=>
  obtain⟨x,D',hx,ha,hw⟩:=q
  exact h2 x D' hx a w ha hw
 | _=>exact q
theorem Au{α:Type}{p:α→Prop}{I:α→Tm}{G:α→List AW}(x:α)(hp:p x)(hl:R6 (I x) l)(hH:∀w,Bc K w0 (H++[BU D]) w→Bc K w0 (G x++[BU D]) w):
  SQ K w0 N (Go.Proofs.YtkibffdipniemaaGreatDoor.midD K w0 N p I G Q) .normal D l H:=fun _a w ha hw=>⟨x,D,hp,ha.mono hl,hH w hw⟩
theorem Eg{α:Type}{p:α→Prop}{I:α→Tm}{G:α→List AW}(h:SQ K w0 N Q .ret D l H):SQ K w0 N (Go.Proofs.YtkibffdipniemaaGreatDoor.midD K w0 N p I G Q) .ret D l H:=h
theorem D9(t n tt:Nat){b y:Bool}{C:Option Bool}(hy:FQ b C=some y)(hb:look l t=some (.bool b))
(ht:b=true→C=some y→SL P ro K w0 N ops Hs (items.drop n) Q D ((tt,.bool y)::(t,.bool true)::Mw t l) H→SL P ro K w0 N ops Hs items Q D ((t,.bool true)::Mw t l) H)
(hf:b=false→SL P ro K w0 N ops Hs (items.drop n) Q D ((tt,.bool false)::(t,.bool false)::Mw t l) H→SL P ro K w0 N ops Hs items Q D ((t,.bool false)::Mw t l) H)
(h:SL P ro K w0 N ops Hs (items.drop n) Q D ((tt,.bool y)::l) H):SL P ro K w0 N ops Hs items Q D l H:=by
 refine Qx t hb (fun e=>?_) (fun e=>?_)
 subst e;exact MQ (ht rfl hy (h.join hb))
 subst e
 obtain rfl:false=y:=zI hy
 exact MQ (hf E (h.join hb))
theorem KM(t n tt:Nat){b y:Bool}{C:Option Bool}(hy:Nn b C=some y)(hb:look l t=some (.bool b))
(ht:b=true→SL P ro K w0 N ops Hs (items.drop n) Q D ((tt,.bool true)::(t,.bool true)::Mw t l) H→SL P ro K w0 N ops Hs items Q D ((t,.bool true)::Mw t l) H)
(hf:b=false→C=some y→SL P ro K w0 N ops Hs (items.drop n) Q D ((tt,.bool y)::(t,.bool false)::Mw t l) H→SL P ro K w0 N ops Hs items Q D ((t,.bool false)::Mw t l) H)
(h:SL P ro K w0 N ops Hs (items.drop n) Q D ((tt,.bool y)::l) H):SL P ro K w0 N ops Hs items Q D l H:=by
 refine Qx t hb (fun e=>?_) (fun e=>?_)
 subst e
 obtain rfl:true=y:=zI hy
 exact MQ (ht E (h.join hb))
 subst e;exact MQ (hf rfl hy (h.join hb))
theorem If{xs ys:Array Value}:Ge [] xs ys=some true:=rfl
theorem Cc{i:Nat}{d:TypeDesc}{r:List (Nat×TypeDesc)}{xs ys:Array Value}{u v:Value}{p q:Bool}(hx:xs[i]? = some u)(hy:ys[i]? = some v)(he:Uc d u v=some p)(hr:Ge r xs ys=some q):Ge ((i,d)::r) xs ys=some (p&&q):=by
 simp[Ge,hx,hy,he,hr]
theorem Yd{k:IntKind}{a b:Int}:Uc (.int k) (.int k a) (.int k b)=some (decide (a=b)):=by
 simp only[Uc,if_true]
 congr 1
theorem KD{a b:UInt32}:Uc (.int .u32) (AA a) (AA b)=some (decide (a=b)):=by
 rw[Yd];congr 1;rw[Bool.eq_iff_iff,decide_eq_true_eq,decide_eq_true_eq,←UInt32.toNat_inj];omega
theorem q9{a b:UInt64}:Uc (.int .u64) (Ar a) (Ar b)=some (decide (a=b)):=by
 rw[Yd];congr 1;rw[Bool.eq_iff_iff,decide_eq_true_eq,decide_eq_true_eq,←UInt64.toNat_inj];omega
theorem Sp{a b:List UInt8}:Uc .string (vS a) (vS b)=some (decide (a=b)):=by
 simp only[Uc,Uu];congr 1;rw[Bool.eq_iff_iff];simp
theorem Pv{src dst:TypeId}{d:TypeDesc}{k:IntKind}{n:Int}(hs:P.underlying src=some d)(hd:P.underlying dst=some (.int .i64)):Cv P src dst (.int k n) (vI (wI n)):=Cv.int hs hd rfl
theorem NB{α:Type}{b m:Nat}{xs:List α}{k:IntKind}{i:Int}{c:α}{ty e:TypeId}(hn:Aq xs i=some c)(ho:At ops N l o t (.indexAddr ty x y))(hty:P.underlying ty=some (.array m e))(hsz:C8 P e=some 1)(hx:Bh l x=some (vP b 0))(hy:Bh l y=some (.int k i))
(hln:xs.length=m)(h:SL P ro K w0 N ops Hs items Q D ((t,vP b i.toNat)::l) H):SL P ro K w0 N ops Hs (.cons (tk,o) items) Q D l H:=by
 obtain⟨h1,h2,h3⟩:=EX hn
 exact Cx ho hty hsz hx hy h1 zO h
structure JJ(K:Nat→Prop)(w0:World)(g:Nat)(n:Nat)(T:List UInt32):Prop where
 tab:Tx K w0 g T
 len:T.length=n
theorem JJ.keeps{g n:Nat}{T:List UInt32}{K':Nat→Prop}{w1:World}(h:JJ K w0 g n T)(hk:Wc K w0 K' w1):JJ K' w1 g n T:=⟨h.tab.keeps hk,h.len⟩
theorem qD{g n:Nat}{T:List UInt32}{i:Int}{c:UInt32}(h:JJ K w0 g n T)(hn:Aq T i=some c):∀w,F9 K w0 L w→w.cell? ⟨g,i.toNat,none⟩=some (AA c):=
 Pi (ad:=⟨g,i.toNat,none⟩) h.tab.keep (h.tab.cell _ _ (EX hn).2.2)
end

section
open Go Go.ChangeShapes Go.WideShapes Go.ChangeAt Go.RowKit
theorem fP:Ri.length=64:=by decide
theorem sq:Tryz.prog.globalNamed "sphragis/sphragisref02.table" = some 2:=zK
theorem tq:(Tryz.prog.globals[2]?).map (·.type)=some 296:=zK
theorem mh{W:World}(h:laidMetH Tryz.prog [("sphragis/sphragisref02.table", Rows.laid_sphragis_sphragisref02_table),("sphragis/sha.first", Rows.laid_sphragis_sha_first),("sphragis/sha.constants", Rows.laid_sphragis_sha_constants)] W):Ho (· < W.heap.size) W Ri∧JJ (· < W.heap.size) W 2 64 Ri:=by
 have h0:laidMet Tryz.prog [("sphragis/sphragisref02.table", Lib.tabData .u32 VC),("sphragis/sha.first", Lib.tabData .u32 cf),("sphragis/sha.constants", Lib.tabData .u32 VC)] W:=h
 refine⟨nU (XJ h0),dO sq (Lib.tabIs_of_head sq tq Tryz.underlying296 Tryz.underlying29 WW ZE h0) (by simp[Ri]) zK,fP⟩
noncomputable def dA(os:Os):World:=
 { World.holding Tryz.prog os ⟨#[],#[],[]⟩with heap:=(((World.holding Tryz.prog os ⟨#[],#[],[]⟩).heap.modify 1 (pW cf)).modify 3 (pW VC)).modify 2 (pW VC) }
end

section
theorem Dw{α β:Type}{F:(α→Option β)→α→Option β}(I:Nat→α)(N:Nat){z:Option β}(hs:∀i,i<N→∀k,F k (I i)=k (I (i+1)))(he:∀k,F k (I N)=z){m:Nat}(hm:N<m):By F m (I 0)=z:=by
 have key:∀d i m,i+d=N→d<m→By F m (I i)=z:=by
  intro d
  induction d with
  | zero=>
   intro i m hi hm
   obtain rfl:i=N:=zO
   obtain⟨m,rfl⟩:∃k,m=k+1:=⟨m-1,by omega⟩
   exact he _
  | succ d ih=>
   intro i m hi hm
   obtain⟨m,rfl⟩:∃k,m=k+1:=⟨m-1,by omega⟩
   show F (By F m) (I i)=z
   rw[hs i zO]
   exact ih (i+1) m zO zO
 exact key N 0 m zO hm
theorem mo{α β:Type}{F:(α→Option β)→α→Option β}(I:Nat→α)(Z9:Nat→Option β)(N:Nat)(hs:∀i,i<N→∀k,k (I (i+1))=Z9 (i+1)→F k (I i)=Z9 i)(he:∀k,F k (I N)=Z9 N){m:Nat}(hm:N<m):By F m (I 0)=Z9 0:=by
 have key:∀d i m,i+d=N→d<m→By F m (I i)=Z9 i:=by
  intro d
  induction d with
  | zero=>
   intro i m hi hm
   obtain rfl:i=N:=zO
   obtain⟨m,rfl⟩:∃k,m=k+1:=⟨m-1,by omega⟩
   exact he _
  | succ d ih=>
   intro i m hi hm
   obtain⟨m,rfl⟩:∃k,m=k+1:=⟨m-1,by omega⟩
   show F (By F m) (I i)=Z9 i
   exact hs i zO _ (ih (i+1) m zO zO)
 exact key N 0 m zO hm
theorem cC{α β:Type}{F:(α→Option β)→α→Option β}(I:Nat→α)(p:Nat→Prop)(N:Nat){z:Option β}(hs:∀i,i<N→p i→∀k,(p (i+1)→k (I (i+1))=z)→F k (I i)=z)(he:p N→∀k,F k (I N)=z)(h0:p 0){m:Nat}(hm:N<m):By F m (I 0)=z:=by
 have key:∀d i m,i+d=N→d<m→p i→By F m (I i)=z:=by
  intro d
  induction d with
  | zero=>
   intro i m hi hm hp
   obtain rfl:i=N:=zO
   obtain⟨m,rfl⟩:∃k,m=k+1:=⟨m-1,by omega⟩
   exact he hp _
  | succ d ih=>
   intro i m hi hm hp
   obtain⟨m,rfl⟩:∃k,m=k+1:=⟨m-1,by omega⟩
   show F (By F m) (I i)=z
   exact hs i zO hp _ (ih (i+1) m zO zO)
 exact key N 0 m zO hm h0
theorem ET{α:Type}{l:List α}{i:Nat}:Aq l (i:Int)=l[i]? := by simp[Aq]
theorem D1{α:Type}{l:List α}{i:Int}{k:Nat}(h:i=(k:Int)):Aq l i=l[k]? := by rw[h,ET]
theorem CK{α:Type}{l:List α}{i:Int}{k:Nat}(d:α)(h:i=(k:Int))(hk:k<l.length):Aq l i=some (l.getD k d):=by rw[D1 h,I6 d hk]
theorem GI{α:Type}{l:List α}{i:Int}{k:Nat}{a:α}(h:i=(k:Int))(hk:k<l.length):FR l i a=some (l.set k a):=by
 subst h
 unfold FR
 rw[if_pos zO]
 simp
theorem Dm{α:Type}{l:List α}{i j:Int}{p q:Nat}(hi:i=(p:Int))(hj:j=(q:Int))(h1:p≤q)(h2:q≤l.length):Cr l i j=some ((l.drop p).take (q-p)):=by
 subst hi;subst hj
 unfold Cr
 rw[if_pos zO]
 simp
theorem CG{α:Type}{b:Nat}{s t:List α}(h:(s.length+t.length)*b≤140737488355328)(h2:s.length+t.length≤9223372036854775807):Ci b s t=some (s++t):=if_pos ⟨h,h2⟩
theorem Co{s t:List UInt8}(h:s.length+t.length≤9223372036854775807):FN s t=some (s++t):=if_pos h
theorem Ve{i:Nat}:Sq (i:Int)=some i:=by simp[Sq]
theorem Vu{a b:Nat}(hb:b≠0):SE (a:Int) (b:Int)=some ((a%b:Nat):Int):=by
 unfold SE
 rw[if_neg zO,Int.tmod_eq_emod_of_nonneg zO]
 rfl
theorem fG{a b:Nat}(hb:b≠0)(ha:a≤9223372036854775807):UN (a:Int) (b:Int)=some ((a / b:Nat):Int):=by
 unfold UN
 have h1:a / b≤a:=Nat.div_le_self _ _
 rw[if_neg zO,Int.tdiv_eq_ediv_of_nonneg zO,show((a:Int) / (b:Int))=((a / b:Nat):Int)from rfl]
 generalize a / b=q at h1 ⊢
 rw[BC zO zO]
theorem U{α β:Type}{a:α}{f:α→Option β}:(some a).bind f=f a:=by simp
theorem A7{α β:Type}{e:α}{k:α→β}:ret e k=k e:=by simp[ret]
theorem XU{α β:Type}{F:(α→Option β)→α→Option β}{m:Nat}{a:α}:By F (m+1) a=F (By F m) a:=by rw[By]
theorem Qf{α:Type}{l:List α}{k:Nat}(d:α)(h:k<l.length):l.getD k d=l[k]:=by simp[List.getD,h]
end

section
open Go Go.MapKept Go.ChangeMaps
variable {P:Program}{ro:Option Nat}{K:Nat→Prop}{w0:World}{N:Nat}{Q:DF}{D:List Nat}{l l':Tm}{H H' Hs L:List AW}{ops:Array Oper}{items:Io}
variable {tk:Bool}{o:Oper}{t:Nat}{v:Value}{x y z:Operand}
theorem aZ{α β:Type}(f:α→β){l:List α}(h:(l.map f).Nodup):l.Nodup:=(List.pairwise_map.1 h).imp fun hne e=>hne (congrArg f e)
theorem RL{α:Type}:∀ {l l':List α},l.Nodup→(∀a∈l,a∈l')→l.length≤l'.length
 | [],_,_,_=>by simp
 | a::r,l',hn,hs=>by
  obtain⟨h1,h2⟩:=List.nodup_cons.1 hn
  obtain⟨p,q,rfl⟩:=List.append_of_mem (hs a (List.mem_cons_self ..))
  have:=RL (l':=p++q) h2 (fun b hb=>by
   have hb':=hs b (List.mem_cons_of_mem _ hb)
   simp only[List.mem_append,List.mem_cons]at hb' ⊢
   rcases hb' with h | rfl | h
   exact .inl h
   exact absurd hb h1
   exact .inr h)
  simp at this ⊢
  omega
section i7
variable {κ α:Type}[DecidableEq κ]
def DN(m:List (κ×α))(k:κ):Option α:=(m.find? fun p=>decide (p.1=k)).map (·.2)
def Gf(m:List (κ×α))(k:κ):List (κ×α):=m.filter fun p=>decide (p.1≠k)
def JH(m:List (κ×α))(k:κ)(a:α):List (κ×α):=(k,a)::Gf m k
theorem RO{m:List (κ×α)}{k:κ}(h:∀p∈m,p.1≠k):DN m k=none:=by
 unfold DN
 rw[List.find?_eq_none.2 (fun p hp=>by simpa using h p hp)]
 rfl
theorem RZ{m:List (κ×α)}(hn:(m.map (·.1)).Nodup){p:κ×α}(hp:p∈m):DN m p.1=some p.2:=by
 induction m with
 | nil=>cases hp
 | cons q r ih=>
  simp only[List.map_cons,List.nodup_cons]at hn
  unfold DN
  rcases List.mem_cons.1 hp with rfl | hp
  simp
  have hne:q.1≠p.1:=fun e=>hn.1 (by rw[e];exact List.mem_map_of_mem hp)
  rw[List.find?_cons_of_neg (by simpa using hne)]
  exact ih hn.2 hp
theorem TR{m:List (κ×α)}{k:κ}(h:∀p∈m,p.1≠k):Gf m k=m:=List.filter_eq_self.2 (fun p hp=>by simpa using h p hp)
theorem Xd{m:List (κ×α)}(hn:(m.map (·.1)).Nodup){p:κ×α}(hp:p∈m):m.Perm (p::Gf m p.1):=by
 induction m with
 | nil=>cases hp
 | cons q r ih=>
  simp only[List.map_cons,List.nodup_cons]at hn
  rcases List.mem_cons.1 hp with rfl | hp
  have h1:Gf (p::r) p.1=r:=by
   unfold Gf
   rw[List.filter_cons_of_neg zS]
   exact TR fun q hq e=>hn.1 (by rw[←e];exact List.mem_map_of_mem hq)
  rw[h1]
  have hne:q.1≠p.1:=fun e=>hn.1 (by rw[e];exact List.mem_map_of_mem hp)
  have h1:Gf (q::r) p.1=q::Gf r p.1:=by
   unfold Gf
   rw[List.filter_cons_of_pos (by simpa using hne)]
  rw[h1]
  exact((ih hn.2 hp).cons q).trans (List.Perm.swap _ _ _)
theorem P1{m:List (κ×α)}{k:κ}(hn:(m.map (·.1)).Nodup):((Gf m k).map (·.1)).Nodup:=hn.sublist (List.Sublist.map _ (List.filter_sublist ..))
theorem Sf{m:List (κ×α)}{k:κ}{a:α}(hn:(m.map (·.1)).Nodup):((JH m k a).map (·.1)).Nodup:=by
 simp only[JH,List.map_cons,List.nodup_cons]
 refine⟨fun h=>?_,P1 hn⟩
 obtain⟨q,hq,e⟩:=List.mem_map.1 h
 have:=(List.mem_filter.1 hq).2
 simp[e]at this
theorem RE{m:List (κ×α)}{k j:κ}{a:α}:DN (JH m k a) j=if k=j then some a else DN m j:=by
 unfold JH DN
 by_cases h:k=j
 rw[if_pos h,List.find?_cons_of_pos (by simpa using h)];rfl
 rw[if_neg h,List.find?_cons_of_neg (by simpa using h)]
 congr 1
 unfold Gf
 rw[List.find?_filter]
 congr 1
 funext p
 by_cases hj:p.1=j
 simp[hj,Ne.symm h]
 simp[hj]
theorem bR{m:List (κ×α)}{k j:κ}:DN (Gf m k) j=if k=j then none else DN m j:=by
 by_cases h:k=j
 subst h
 rw[if_pos rfl]
 exact RO fun p hp=>by simpa using(List.mem_filter.1 hp).2
 rw[if_neg h]
 unfold DN Gf
 congr 1
 rw[List.find?_filter]
 congr 1
 funext p
 by_cases hj:p.1=j
 simp[hj,Ne.symm h]
 simp[hj]
end i7
structure Qr(P:Program)(k:TypeId){κ α:Type}(ek:κ→Value)(ev:α→Value):Prop where
 keyed:Go.Maps.Keyed P k
 lit:∀x,∃l,keyOf P k (ek x)=some l
 dk:∃f:Value→Option κ,∀x,f (ek x)=some x
 dv:∃f:Value→Option α,∀x,f (ev x)=some x
theorem Qr.inj{k:TypeId}{κ α:Type}{ek:κ→Value}{ev:α→Value}(E9:Qr P k ek ev){x y:κ}(h:ek x=ek y):x=y:=by
 obtain⟨f,hf⟩:=E9.dk
 have:=hf x
 rw[h,hf y]at this
 exact(zI this).symm
theorem f8{k:TypeId}(hk:P.underlying k=some (.int .u32))(a:UInt32):∃l,keyOf P k (AA a)=some l:=
 ⟨_,Maps.keyOf_int_mk hk (by have:=a.toNat_lt;simp[Lit.wf,IntKind.min,IntKind.max,IntKind.signed,IntKind.bits];omega)⟩
theorem Ue{k:TypeId}(hk:P.underlying k=some (.int .u32)):Qr P k AA vS:=
 ⟨Maps.int_keyed hk,f8 hk,⟨fun v=>match v with | .int _ a=>some (UInt32.ofNat a.toNat) | _=>none,fun x=>by simp⟩,⟨fun v=>match v with | .string b=>some b.data.toList | _=>none,fun x=>rfl⟩⟩
theorem NZ{k:TypeId}(hk:P.underlying k=some (.int .u32)):Qr P k AA vB:=
 ⟨Maps.int_keyed hk,f8 hk,⟨fun v=>match v with | .int _ a=>some (UInt32.ofNat a.toNat) | _=>none,fun x=>by simp⟩,⟨fun v=>match v with | .bool b=>some b | _=>none,fun x=>rfl⟩⟩
section maps
variable {κ α:Type}{ek:κ→Value}{ev:α→Value}{m:List (κ×α)}{k:TypeId}{b:Nat}
def Nz(ek:κ→Value)(ev:α→Value)(m:List (κ×α))(es:Array MapEntry)(clock:Nat):Prop:=
 Stamped es clock∧es.size≤maxLen∧(es.toList.map fun e=>(e.key,e.val)).Perm (m.map fun p=>(ek p.1,ev p.2))
def BQ(b:Nat)(ek:κ→Value)(ev:α→Value)(m:List (κ×α)):AW:=
 ⟨(·=b),fun w=>∃es clock,w.heap[b]? = some (.map es clock)∧Nz ek ev m es clock,fun w w' h ⟨es,c,h1,h2⟩=>⟨es,c,by rw[h _ rfl];exact h1,h2⟩⟩
theorem Nz.mem{es:Array MapEntry}{clock:Nat}(h:Nz ek ev m es clock){e:MapEntry}(he:e∈es.toList):∃p∈m,e.key=ek p.1∧e.val=ev p.2:=by
 have:=h.2.2.mem_iff.1 (List.mem_map_of_mem (f:=fun e:MapEntry=>(e.key,e.val)) he)
 obtain⟨p,hp,e1⟩:=List.mem_map.1 this
 simp only[Prod.mk.injEq]at e1
 exact⟨p,hp,e1.1.symm,e1.2.symm⟩
theorem Nz.nodup{es:Array MapEntry}{clock:Nat}(h:Nz ek ev m es clock):(m.map (·.1)).Nodup:=by
 have h1:(es.toList.map (·.key)).Nodup:=h.1.2.2
 have h2:(es.toList.map (·.key)).Perm (m.map fun p=>ek p.1):=by
  have:=h.2.2.map (·.1)
  simpa[List.map_map,Function.comp_def]using this
 have h3:(m.map fun p=>ek p.1).Nodup:=h2.nodup_iff.1 h1
 have h4:(m.map fun p=>ek p.1)=(m.map (·.1)).map ek:=by simp
 rw[h4]at h3
 exact aZ _ h3
theorem Nz.keys{es:Array MapEntry}{clock:Nat}(E9:Qr P k ek ev)(h:Nz ek ev m es clock):∀e∈es.toList,∃l,keyOf P k e.key=some l:=fun e he=>by
 obtain⟨p,_,e1,_⟩:=h.mem he
 rw[e1]
 exact E9.lit _
theorem Nz.size_eq{es:Array MapEntry}{clock:Nat}(h:Nz ek ev m es clock):es.size=m.length:=by
 have:=h.2.2.length_eq
 simpa using this
variable [DecidableEq κ]
theorem Nz.look{es:Array MapEntry}{clock:Nat}{w:World}(E9:Qr P k ek ev)(h:Nz ek ev m es clock)(hb:w.heap[b]? = some (.map es clock)){ty e:TypeId}(ht:P.underlying ty=some (.map k e)){zv:α}(hz:EY P e=some (ev zv))(key:κ)(c:Bool):
  (Instr.lookup ty (.map (some b)) (ek key) c).run P w=.ok (if c then .tuple #[ev ((DN m key).getD zv),.bool (DN m key).isSome]else ev ((DN m key).getD zv)) w:=by
 obtain⟨lx,hl⟩:=E9.lit key
 rcases E9.keyed.find w hl es.toList (h.keys E9)with⟨h1,h2⟩ | ⟨j,e0,h1,h2,h3⟩
 have hg:DN m key=none:=RO fun p hp e=>by
  have:=h.2.2.mem_iff.2 (List.mem_map_of_mem (f:=fun p:κ×α=>(ek p.1,ev p.2)) hp)
  obtain⟨e',he',e1⟩:=List.mem_map.1 this
  simp only[Prod.mk.injEq]at e1
  exact h2 e' he' (by rw[e1.1,e])
 simp[Instr.lookup,Ay ht,MapKept.run_getObj_map hb,E9.keyed.check w _ hl,h1,O3 hz,Result.andThen,hg]
 obtain⟨p,hp,e1,e2⟩:=h.mem (List.mem_of_getElem? h2)
 have hk:p.1=key:=E9.inj (by rw[←e1,h3])
 have hg:=RZ h.nodup hp
 rw[hk]at hg
 simp[Instr.lookup,Ay ht,MapKept.run_getObj_map hb,E9.keyed.check w _ hl,h1,Result.andThen,hg,←e2]
theorem Nz.upd{es:Array MapEntry}{clock:Nat}{w:World}(E9:Qr P k ek ev)(h:Nz ek ev m es clock)(hb:w.heap[b]? = some (.map es clock)){ty e:TypeId}(ht:P.underlying ty=some (.map k e))(key:κ)(a:α)(hroom:m.length<9223372036854775807):
  ∃es' clock',(Instr.mapUpdate ty (.map (some b)) (ek key) (ev a)).run P w=.ok () (setBlock w b (.map es' clock'))∧Nz ek ev (JH m key a) es' clock':=by
 obtain⟨lx,hl⟩:=E9.lit key
 have hsz:=h.size_eq
 rcases E9.keyed.find w hl es.toList (h.keys E9)with⟨h1,h2⟩ | ⟨j,e0,h1,h2,h3⟩
 have hno:∀p∈m,p.1≠key:=fun p hp e=>by
  have:=h.2.2.mem_iff.2 (List.mem_map_of_mem (f:=fun p:κ×α=>(ek p.1,ev p.2)) hp)
  obtain⟨e',he',e1⟩:=List.mem_map.1 this
  simp only[Prod.mk.injEq]at e1
  exact h2 e' he' (by rw[e1.1,e])
 refine⟨es.push ⟨ek key,ev a,clock⟩,clock+1,?_,stamped_push h.1 h2,by simp only[maxLen,Array.size_push];omega,?_⟩
 simp[Instr.mapUpdate,Ay ht,MapKept.run_getObj_map hb,E9.keyed.check w false hl,h1,MapKept.run_setObj_map _ hb,Result.andThen,setBlock]
 unfold JH
 rw[TR hno,Array.toList_push,List.map_append,List.map_cons]
 exact(List.perm_append_singleton _ _).trans (h.2.2.cons _)
 have hj:es[j]? = some e0:=by simpa using h2
 have hjl:j<es.toList.length:=(List.getElem?_eq_some_iff.1 h2).1
 obtain⟨p,hp,e1,e2⟩:=h.mem (List.mem_of_getElem? h2)
 have hk:p.1=key:=E9.inj (by rw[←e1,h3])
 have hkeyf:∀e',es[j]? = some e'→({ e' with key:=ek key,val:=ev a }:MapEntry).key=e'.key:=fun e' he'=>by rw[hj]at he';cases he';exact h3.symm
 have hlist:(es.modify j (fun e'=>{ e' with key:=ek key,val:=ev a })).toList=es.toList.set j { e0 with key:=ek key,val:=ev a }:=by rw[Array.toList_modify,modify_eq_set _ _ _ _ h2]
 refine⟨es.modify j (fun e'=>{ e' with key:=ek key,val:=ev a }),clock,?_,stamped_modify h.1 _ _ (fun _ _=>rfl) (fun e' _ he'=>hkeyf e' he'),by simpa using h.2.1,?_⟩
 simp[Instr.mapUpdate,Ay ht,MapKept.run_getObj_map hb,E9.keyed.check w false hl,h1,hj,h3,E9.keyed.stays w hl,MapKept.run_setObj_map _ hb,Result.andThen,setBlock]
 rw[hlist]
 unfold JH
 have hspl:=Xd h.nodup hp
 rw[hk]at hspl
 have p1:es.toList=es.toList.take j++e0::es.toList.drop (j+1):=(FG h2).1
 have p2:es.toList.set j { e0 with key:=ek key,val:=ev a }=es.toList.take j++{ e0 with key:=ek key,val:=ev a }::es.toList.drop (j+1):=by
  rw[List.set_eq_take_append_cons_drop,if_pos hjl]
 rw[p2]
 have q1:((es.toList.take j++es.toList.drop (j+1)).map fun e=>(e.key,e.val)).Perm ((Gf m key).map fun p=>(ek p.1,ev p.2)):=by
  have h5:=h.2.2
  rw[p1]at h5
  have h6:=(List.perm_middle (l₁:=es.toList.take j) (a:=e0) (l₂:=es.toList.drop (j+1))).symm.map (fun e:MapEntry=>(e.key,e.val))
  have h7:=(h6.trans h5).trans (hspl.map fun p=>(ek p.1,ev p.2))
  simp only[List.map_cons,e1,e2]at h7
  exact h7.cons_inv
 have h8:=(List.perm_middle (l₁:=es.toList.take j) (a:=({ e0 with key:=ek key,val:=ev a }:MapEntry)) (l₂:=es.toList.drop (j+1))).map (fun e:MapEntry=>(e.key,e.val))
 exact h8.trans (q1.cons _)
theorem Nz.drop{es:Array MapEntry}{clock:Nat}{w:World}(E9:Qr P k ek ev)(h:Nz ek ev m es clock)(hb:w.heap[b]? = some (.map es clock)){t2 e rt:TypeId}(ht:P.underlying t2=some (.map k e))(key:κ):
  ∃es',(Builtin.delete_ #[t2,k] rt #[.map (some b),ek key]).run P w=.ok (.tuple #[]) (setBlock w b (.map es' clock))∧Nz ek ev (Gf m key) es' clock:=by
 obtain⟨lx,hl⟩:=E9.lit key
 rcases E9.keyed.find w hl es.toList (h.keys E9)with⟨h1,h2⟩ | ⟨j,e0,h1,h2,h3⟩
 have hno:∀p∈m,p.1≠key:=fun p hp e=>by
  have:=h.2.2.mem_iff.2 (List.mem_map_of_mem (f:=fun p:κ×α=>(ek p.1,ev p.2)) hp)
  obtain⟨e',he',e1⟩:=List.mem_map.1 this
  simp only[Prod.mk.injEq]at e1
  exact h2 e' he' (by rw[e1.1,e])
 refine⟨es,?_,by rw[TR hno];exact h⟩
 simp[Builtin.delete_,Ay ht,MapKept.run_getObj_map hb,E9.keyed.check w _ hl,h1,MapKept.run_setObj_map _ hb,Result.andThen,setBlock]
 have hjl:j<es.toList.length:=(List.getElem?_eq_some_iff.1 h2).1
 have hjs:j<es.size:=by simpa using hjl
 obtain⟨p,hp,e1,e2⟩:=h.mem (List.mem_of_getElem? h2)
 have hk:p.1=key:=E9.inj (by rw[←e1,h3])
 have hsub:(es.eraseIdxIfInBounds j).toList=es.toList.eraseIdx j:=by
  unfold Array.eraseIdxIfInBounds
  rw[dif_pos hjs]
  simp
 refine⟨es.eraseIdxIfInBounds j,?_,stamped_erase h.1 j,Nat.le_trans (MapFrom.size_erase es j) h.2.1,?_⟩
 simp[Builtin.delete_,Ay ht,MapKept.run_getObj_map hb,E9.keyed.check w _ hl,h1,MapKept.run_setObj_map _ hb,Result.andThen,setBlock]
 rw[hsub,List.eraseIdx_eq_take_drop_succ]
 have hspl:=Xd h.nodup hp
 rw[hk]at hspl
 have p1:es.toList=es.toList.take j++e0::es.toList.drop (j+1):=(FG h2).1
 have h5:=h.2.2
 rw[p1]at h5
 have h6:=(List.perm_middle (l₁:=es.toList.take j) (a:=e0) (l₂:=es.toList.drop (j+1))).symm.map (fun e:MapEntry=>(e.key,e.val))
 have h7:=(h6.trans h5).trans (hspl.map fun p=>(ek p.1,ev p.2))
 simp only[List.map_cons,e1,e2]at h7
 exact h7.cons_inv
omit [DecidableEq κ]
theorem Nv(w:World)(b:Nat)(o:Obj):setBlock w b o=w.putObj b o:=rfl
theorem YB{ty:TypeId}(ek:κ→Value)(ev:α→Value)(ho:At ops N l o t (.makeMap ty none))(hs:∀b,Ey Hs (BQ b ek ev []::H))
(h:∀b,SL P ro K w0 N ops Hs items Q D ((t,.map (some b))::l) (BQ b ek ev []::H)):SL P ro K w0 N ops Hs (.cons (false,o) items) Q D l H:=
 HX (fun b=>.map (some b)) (fun b=>BQ b ek ev []::H) ho rfl (fun a w ha hw=>by
  refine⟨w.heap.size,w.alloc (.map #[] 0),?_,?_⟩
  simp[execOp,ho.op,Instr.makeMap]
  have h2:=hw.alloc (.map #[] 0)
  refine h2.turn rfl rfl rfl (Nat.le_refl _) (fun _ _ _=>rfl) ⟨#[],0,h2.holds _ (List.mem_cons_self ..),stamped_empty 0,by simp,by simp⟩ (fun j hj=>?_)
  exact⟨.inl hj,(h2.foot _ (List.mem_cons_self ..) j hj).1⟩) hs h
variable [DecidableEq κ]
theorem dp{ty e:TypeId}{key:κ}{zv:α}(i:Nat)(E9:Qr P k ek ev)(ho:At ops N l o t (.lookup ty x y false))(ht:P.underlying ty=some (.map k e))(hz:EY P e=some (ev zv))(hx:Bh l x=some (.map (some b)))(hy:Bh l y=some (ek key))
(hi:(bif tk then Hs else H)[i]? = some (BQ b ek ev m))(h:SL P ro K w0 N ops Hs items Q D ((t,ev ((DN m key).getD zv))::l) H):SL P ro K w0 N ops Hs (.cons (tk,o) items) Q D l H:=
 SL.val ho rfl (fun a w ha hsw=>by
  obtain⟨es,clock,hb,hr⟩:=hsw.holds _ (List.mem_of_getElem? hi)
  have:=hr.look E9 hb ht hz key false
  simp[execOp,ho.op,ha.eval hx,ha.eval hy,this]) h
theorem an{ty e:TypeId}{key:κ}{zv:α}(i:Nat)(E9:Qr P k ek ev)(ho:At ops N l o t (.lookup ty x y true))(ht:P.underlying ty=some (.map k e))(hz:EY P e=some (ev zv))(hx:Bh l x=some (.map (some b)))(hy:Bh l y=some (ek key))
(hi:(bif tk then Hs else H)[i]? = some (BQ b ek ev m))(h:SL P ro K w0 N ops Hs items Q D ((t,.tuple #[ev ((DN m key).getD zv),.bool (DN m key).isSome])::l) H):SL P ro K w0 N ops Hs (.cons (tk,o) items) Q D l H:=
 SL.val ho rfl (fun a w ha hsw=>by
  obtain⟨es,clock,hb,hr⟩:=hsw.holds _ (List.mem_of_getElem? hi)
  have:=hr.look E9 hb ht hz key true
  simp[execOp,ho.op,ha.eval hx,ha.eval hy,this]) h
theorem rE{ty e:TypeId}{key:κ}{a:α}{z:Operand}(i:Nat)(E9:Qr P k ek ev)(ho:At0 ops l o (.mapUpdate ty x y z))(ht:P.underlying ty=some (.map k e))(hx:Bh l x=some (.map (some b)))(hy:Bh l y=some (ek key))(hz:Bh l z=some (ev a))
(hi:H[i]? = some (BQ b ek ev m))(hroom:m.length<9223372036854775807)(hs:Ey Hs (H.set i (BQ b ek ev (JH m key a))))(h:SL P ro K w0 N ops Hs items Q D l (H.set i (BQ b ek ev (JH m key a)))):SL P ro K w0 N ops Hs (.cons (false,o) items) Q D l H:=
 WU ho rfl (fun a' w ha hw=>by
  obtain⟨es,clock,hb,hr⟩:=hw.holds _ (List.mem_append_left _ (List.mem_of_getElem? hi))
  obtain⟨es',clock',hrun,hr'⟩:=hr.upd E9 hb ht key a hroom
  obtain⟨hlt,_⟩:=Array.getElem?_eq_some_iff.1 hb
  refine⟨_,by simp[execOp,ho.op,ha.eval hx,ha.eval hy,ha.eval hz,hrun];rfl,?_⟩
  refine hw.turnAt (c:=BQ b ek ev m) i hi rfl rfl rfl (by simp[Nv]) (fun j hj hne=>World.putObj_heap_other (fun e=>hne (by rw[e];rfl))) ⟨es',clock',World.putObj_heap_same hlt,hr'⟩ (fun j hj=>⟨.inl hj,?_⟩)
  obtain rfl:j=b:=hj
  simpa[Nv]using hlt) hs h
theorem lL{ty k' e:TypeId}{key:κ}(i:Nat)(E9:Qr P k ek ev)(hd:o.dst=none)(hop:o.op=.call { callee:=.builtin .delete,args:=#[x,y],argTypes:=#[ty,k'] })(hwt:SJ ops l o=some true)(hk:k'=k)(ht:P.underlying ty=some (.map k e))(hx:Bh l x=some (.map (some b)))(hy:Bh l y=some (ek key))
(hi:H[i]? = some (BQ b ek ev m))(hs:Ey Hs (H.set i (BQ b ek ev (Gf m key))))(h:SL P ro K w0 N ops Hs items Q D l (H.set i (BQ b ek ev (Gf m key)))):SL P ro K w0 N ops Hs (.cons (false,o) items) Q D l H:=by
 subst hk
 intro a w ha hw hs0
 have hw1:=G8 hwt ha.vals
 simp only[PL,hw1,if_true]
 obtain⟨es,clock,hb,hr⟩:=hw.holds _ (List.mem_append_left _ (List.mem_of_getElem? hi))
 obtain⟨es',hrun,hr'⟩:=hr.drop (rt:=o.type) E9 hb ht key
 obtain⟨hlt,_⟩:=Array.getElem?_eq_some_iff.1 hb
 have hw':Bc K w0 (H.set i (BQ b ek ev (Gf m key))++[BU D]) (setBlock w b (.map es' clock)):=by
  refine hw.turnAt (c:=BQ b ek ev m) i hi rfl rfl rfl (by simp[Nv]) (fun j hj hne=>World.putObj_heap_other (fun e=>hne (by rw[e];rfl))) ⟨es',clock,World.putObj_heap_same hlt,hr'⟩ (fun j hj=>⟨.inl hj,?_⟩)
  obtain rfl:j=b:=hj
  simpa[Nv]using hlt
 refine NW (by rw[hop];exact H6 rfl) (v:=.tuple #[]) (w':=setBlock w b (.map es' clock)) ?_ ⟨hs.hs hw',?_⟩
 unfold execOp
 simp only[hop,resolve,invoke,builtin,Sem.run_bind,Sem.run_pure,Result.andThen_ok,List.map_toArray,List.map_cons,List.map_nil,ha.vals.eval hx,ha.vals.eval hy,hrun]
 rw[hd]
 exact h _ _ ha hw' (hs.hs hw')
omit [DecidableEq κ]
end maps
end

section
open Go Go.MapKept Go.ChangeMaps
variable {P:Program}{ro:Option Nat}{K:Nat→Prop}{w0:World}{N:Nat}{Q:DF}{D:List Nat}{l l':Tm}{H H' Hs L:List AW}{ops:Array Oper}{items:Io}
variable {tk:Bool}{o:Oper}{t:Nat}{v:Value}{x y z:Operand}
theorem Bq{α:Type}{e:TypeId}{sz:Nat}{enc:α→List Value}{xs:List α}(i:Nat)(hi:H[i]? = some (AH e sz v enc xs))(h:v.cells=#[v]→v.oneCell'=true→SL P ro K w0 N ops Hs items Q D l H):SL P ro K w0 N ops Hs items Q D l H:=by
 intro a w ha hw hs
 have hrow:w.ownsRow 0 e sz v xs.length (xs.flatMap enc):=hw.holds _ (List.mem_append_left _ (List.mem_of_getElem? hi))
 rcases hrow.2 with⟨rfl,_⟩ | ⟨g,cap,cur,rfl,_⟩
 exact h rfl rfl a w ha hw hs
 exact h rfl rfl a w ha hw hs
theorem Dk{b off:Nat}{c:Array Value}{e ty:TypeId}(i:Nat)(ho:At0 ops l o (.store ty x y))(hx:Bh l x=some (vP b off))(hy:Bh l y=some v)(hi:H[i]? = some (AP b (.cells c e)))
(hn:C8 P ty=some 1)(hv:v.cells=#[v])(h1:v.oneCell'=true)(hle:Nat.ble (off+1) c.size=true)
(hs:Ey Hs (H.set i (AP b (.cells (En c off [v]) e))))(h:SL P ro K w0 N ops Hs items Q D l (H.set i (AP b (.cells (En c off [v]) e)))):SL P ro K w0 N ops Hs (.cons (false,o) items) Q D l H:=
 Ak i ho hx hy hi hn (by rw[hv];rfl) (by rw[hv];simp[h1]) hle (by rw[hv];exact hs) (by rw[hv];exact h)
def VT{α:Type}(by_:Nat)(n:Int)(a:α):Option (List α):=if 0≤n∧by_*n.toNat≤281474976710656∧n≤9223372036854775807 then some (List.replicate n.toNat a)else none
theorem mq{α:Type}{by_:Nat}{n:Int}{a:α}{xs:List α}(h:VT by_ n a=some xs):n=(n.toNat:Int)∧by_*n.toNat≤281474976710656∧n.toNat≤9223372036854775807∧xs=List.replicate n.toNat a:=by
 unfold VT at h
 split at h
 rename_i hc
 exact⟨by omega,hc.2.1,by omega,(zI h).symm⟩
 cases h
theorem lq{α:Type}{enc:α→List Value}{a:α}{zv:Value}(hz:zv.cells.toList=enc a)(h1:(enc a).length=1)(n:Nat):(madeCells zv.cells (n*1)).toList=(List.replicate n a).flatMap enc:=by
 obtain⟨u,hu⟩:=List.length_eq_one_iff.1 h1
 have hs:zv.cells=#[u]:=by apply Array.ext';rw[hz,hu]
 rw[hs]
 have hrep:(List.replicate n a).flatMap enc=List.replicate n u:=by
  induction n with
  | zero=>rfl
  | succ k ih=>rw[List.replicate_succ,List.flatMap_cons,ih,hu,List.replicate_succ];rfl
 rw[hrep]
 apply List.ext_getElem
 simp[madeCells]
 intro i h2 h3
 simp[madeCells,Nat.mod_one]
theorem Xx{α:Type}{e ty:TypeId}{by_:Nat}{zv:Value}{n:Int}{a:α}{xs:List α}(hn:VT by_ n a=some xs)(enc:α→List Value)(ho:At ops N l o t (.makeSlice ty x x))(hty:P.underlying ty=some (.slice e))(hsz:C8 P e=some 1)(hby:Pa P e=some by_)(hze:EY P e=some zv)
(hx:Bh l x=some (vI n))(hza:zv.cells.toList=enc a)(h1:(enc a).length=1)(hzs:zv.cells.size=1)
(hs:∀v',Ey Hs (AH e 1 v' enc xs::H))(h:∀v',SL P ro K w0 N ops Hs items Q D ((t,v')::l) (AH e 1 v' enc xs::H)):SL P ro K w0 N ops Hs (.cons (false,o) items) Q D l H:=by
 obtain⟨h0,hb,h63,rfl⟩:=mq hn
 generalize n.toNat=m at h0 hb h63 hs h
 subst h0
 refine HX (fun b=>.slice (some ⟨b,0,none⟩) m m) (fun b=>AH e 1 (.slice (some ⟨b,0,none⟩) m m) enc (List.replicate m a)::H) ho E (fun a' w ha hw=>?_) (fun b=>hs _) (fun b=>h _)
 obtain⟨ii,hii,e1,e2,e3⟩:=O9 hsz hby hze
 have hb':(ii.bytes:Int)*(m:Int)≤281474976710656:=by rw[e2,←Int.natCast_mul];omega
 have hr:=run_make (P:=P) w ty e ii zv hty hii e3 .i64 .i64 m m zO zO hb' zO
 rw[e1]at hr
 simp only[Int.toNat_natCast]at hr
 refine⟨w.heap.size,w.alloc (.cells (madeCells zv.cells (m*1)) e),?_,?_⟩
 unfold execOp
 simp only[ho.op,ha.eval hx,Sem.run_bind,hr,Result.andThen_ok,Sem.run_pure]
 have h2:=hw.alloc (.cells (madeCells zv.cells (m*1)) e)
 have hlen:((List.replicate m a).flatMap enc).length=m*1:=by simp[h1]
 refine h2.turn rfl rfl rfl (Nat.le_refl _) (fun _ _ _=>rfl) ⟨by simp[h1],.inr ⟨w.heap.size,m,_,by simp,Nat.zero_le _,h2.holds _ (List.mem_cons_self ..),by simp,by simp only[maxLen];omega,?_,?_⟩⟩ (fun k hk=>?_)
 simp[madeCells]
 rw[lq hza h1]
 rw[List.take_of_length_le (by simp[h1])]
 have hkb:k=w.heap.size:=by simp[AH,Value.ownBlock]at hk;exact hk.symm
 subst hkb
 exact⟨.inl rfl,(h2.foot _ (List.mem_cons_self ..) _ rfl).1⟩
def OQ{κ α:Type}[DecidableEq κ](m:List (κ×α))(k:κ)(a:α):Option (List (κ×α)):=if m.length<9223372036854775807 then some (JH m k a)else none
theorem gi{κ α:Type}[DecidableEq κ]{m us:List (κ×α)}{k:κ}{a:α}(h:OQ m k a=some us):m.length<9223372036854775807∧us=JH m k a:=by
 unfold OQ at h
 split at h
 exact⟨by assumption,(zI h).symm⟩
 cases h
theorem V4{κ α:Type}[DecidableEq κ]{ek:κ→Value}{ev:α→Value}{m us:List (κ×α)}{k:TypeId}{b:Nat}{ty e:TypeId}{key:κ}{a:α}(i:Nat)(hn:OQ m key a=some us)(E9:Qr P k ek ev)(ho:At0 ops l o (.mapUpdate ty x y z))(ht:P.underlying ty=some (.map k e))(hx:Bh l x=some (.map (some b)))(hy:Bh l y=some (ek key))(hz:Bh l z=some (ev a))
(hi:H[i]? = some (BQ b ek ev m))(hs:Ey Hs (H.set i (BQ b ek ev us)))(h:SL P ro K w0 N ops Hs items Q D l (H.set i (BQ b ek ev us))):SL P ro K w0 N ops Hs (.cons (false,o) items) Q D l H:=by
 obtain⟨hr,rfl⟩:=gi hn
 exact rE i E9 ho ht hx hy hz hi hr hs h
structure wS where
 cnt:UInt64
 tag:List UInt8
 boots:UInt32
deriving DecidableEq
structure wX where
 act:Int
 page:UInt32
 num:Int
 txt:List UInt8
 lv:Value
 fates:List Int
structure BH where
 off:Bool
 isCut:Bool
 lasts:Int
 counts:Int
 blocks:List (List UInt8)
 pend:List (UInt32×List UInt8)
 bad:List (UInt32×Bool)
 rcnt:UInt64
 rtag:List UInt8
 rboots:UInt32
structure BI where
 blk:List (List UInt8)
 pnd:List (List UInt8)
 bads:List Bool
 rcnt:UInt64
 rtag:List UInt8
 rboots:UInt32
 left:Int
 off:Bool
end

section
variable {P:Program}{ro:Option Nat}{K:Nat→Prop}{w0:World}{N:Nat}{Q:DF}{D:List Nat}{l l':Tm}{H H' Hs L:List AW}{ops:Array Oper}{items:Io}
variable {tk:Bool}{o:Oper}{t:Nat}{v:Value}{x y z:Operand}
theorem YW{b off n c sz:Nat}{k:IntKind}{j:Int}{ty e:TypeId}(q:Nat)(ho:At ops N l o t (.slice ty x (some z) none none))(hty:P.underlying ty=some (.slice e))(hsz:C8 P e=some sz)(hx:Bh l x=some (.slice (some ⟨b,off,none⟩) n c))(hz:Bh l z=some (.int k j))
(hj:j=(q:Int))(hq:q≤n)(hqc:q<c)(h:SL P ro K w0 N ops Hs items Q D ((t,.slice (some ⟨b,off+q*sz,none⟩) (n-q) (c-q))::l) H):SL P ro K w0 N ops Hs (.cons (tk,o) items) Q D l H:=
 SL.val ho rfl (fun a w ha _=>by
  subst hj
  simp only[execOp,ho.op,Instr.sliceAt,Instr.slice,Option.map]
  simp[ha.eval hx,ha.eval hz,Ay hty,CU hsz,Instr.sliceBounds,Instr.sliceBound,asIntOf,hq,CA];omega) h
theorem kg{b off dl dc sl sc:Nat}{c:Array Value}{e ty ty':TypeId}{ad:Addr}(i:Nat)(news:List Value)(ho:At ops N l o t (.call { callee:=.builtin .copy,args:=#[x,y],argTypes:=#[ty,ty'] }))(hty:P.underlying ty=some (.slice e))(hsz:C8 P e=some 1)
(hx:Bh l x=some (.slice (some ⟨b,off,none⟩) dl dc))(hy:Bh l y=some (.slice (some ad) sl sc))(hi:H[i]? = some (AP b (.cells c e)))
(hn:news.length=Nat.min sl dl)(hnews:∀w,F9 K w0 H w→∀j u,news[j]? = some u→w.cell? (ad.add j)=some u)(h1:∀u∈news,u.oneCell'=true)(hle:off+news.length≤c.size)
(hs:Ey Hs (H.set i (AP b (.cells (En c off news) e))))(h:SL P ro K w0 N ops Hs items Q D ((t,vI news.length)::l) (H.set i (AP b (.cells (En c off news) e)))):SL P ro K w0 N ops Hs (.cons (false,o) items) Q D l H:=
 HX (fun _:Unit=>vI news.length) (fun _=>H.set i (AP b (.cells (En c off news) e))) ho rfl (fun a w ha hw=>by
  have hb:w.heap[b]? = some (.cells c e (0,0)):=hw.holds _ (List.mem_append_left _ (List.mem_of_getElem? hi))
  obtain⟨w',hrun,hw'⟩:=MC (P:=P) news off 0 c w hb (by simpa using hle) h1
  have hl:=run_loadCells_list (P:=P) w ad news (hnews w hw.dropMarks.s)
  have hs1:=CU (w:=w) hsz
  refine⟨(),w',?_,?_⟩
  unfold execOp
  simp only[ho.op,resolve,Sem.run_bind,Sem.run_pure,Result.andThen_ok,invoke]
  simp only[List.map_toArray,List.map_cons,List.map_nil,ha.eval hx,ha.eval hy]
  simp[builtin,Builtin.copy_,Ay hty,Builtin.lenOf,Builtin.firstCells,hs1,←hn,hl,hrun,goInt]
  rw[hw']
  exact hw.putAt i hi) (fun _=>hs) (fun _=>h)
theorem mF{α:Type}{b n:Nat}{c:Array Value}{e:TypeId}(enc:α→List Value)(sz:Nat)(xs:List α)(hn:xs.length=n)(hc:c.toList=xs.flatMap enc)(hl:∀x,(enc x).length=sz)(hm:n≤1000000)
(h:SL P ro K w0 N ops Hs items Q D l (AH e sz (.slice (some ⟨b,0,none⟩) n n) enc xs::H)):SL P ro K w0 N ops Hs items Q D l (AP b (.cells c e)::H):=by
 subst hn
 exact B2 enc sz xs hc hl (Nat.ble_eq_true_of_le hm) h
end

section
variable {P:Program}{ro:Option Nat}{K:Nat→Prop}{w0:World}{N:Nat}{Q:DF}{D:List Nat}{l l':Tm}{H H' Hs L:List AW}{ops:Array Oper}{items:Io}
def QD(P:Program)(K:Nat→Prop)(w0:World)(f:FuncId)(cap:List Value)(Hit G0:List AW){α:Type}(enc:α→List Value)(xs:List α):Prop:=
 ∀(lp:Nat) (J9:List α→List AW→Prop) (X:List AW→Prop) (T:List AW) (rc:AW),
  (∀pre x suf,xs=pre++x::suf→∀G,J9 pre G→∀M,nc P K w0 lp (enc x) (G++M) fun b G'=>∃G1,G'=G1++M∧(if b then J9 (pre++[x]) G1 else X G1))→
  J9 [] (rc::G0)→Ua P K w0 f (vY lp::cap) (Hit++(rc::G0)) T fun _ M=>J9 xs M∨X M
theorem N3{α:Type}{g:Operand}{ps:Array Tmp}{assign body:Code}{f:FuncId}{cap:List Value}{Hit:List AW}{enc:α→List Value}(xs:List α){G0:List AW}
(J9:List α→List AW→Prop)(X:Code→List AW→Prop)
(hg:Bh l g=some (.func (.func f) #[] cap.toArray))(hf:AS P f=true)(hps:ps.toList.all (fun p=>Nat.blt p N)=true)(hlen:∀x,(enc x).length=ps.size)
(hseq:QD P K w0 f cap Hit G0 enc xs)(hH:H=Hit++G0)(h0:J9 [] G0)
(hbody:∀pre x suf G,xs=pre++x::suf→J9 pre G→∀r lp Rest,SX P (some lp) K w0 N assign (bgn P lp body (jy K w0 J9 X pre x (Tl r lp Rest .busy))) [] (Rv ps.toList (enc x) l) (G++Tl r lp Rest .ready))
(hdone:∀G D,J9 xs G→SQ K w0 N Q .normal D l G)
(hstop:∀c G D,X c G→SX P none K w0 N c Q D l G):SX P none K w0 N (.rangeFunc g ps assign body) Q D l H:=by
 intro a w ha hw
 subst hH
 refine wpIn_rangeFunc fun fn _=>?_
 let r:Loop:={ state:=.ready,pending:=none,fn:=fn,tmps:=a.tmps,params:=ps,assign:=assign,body:=body,defers:=w.heap.size }
 refine⟨w.heap.size+1,[{ target:=.collected w.heap.size,args:=#[] }],(w.alloc (.deferred (some []))).alloc (.loop r),{ target:=.fn (.func f) cap.toArray,args:=#[vY (w.heap.size+1)] },(w.alloc (.deferred (some []))).alloc (.loop r),
  f,(vY (w.heap.size+1)::cap).toArray,(w.alloc (.deferred (some []))).alloc (.loop r),?_,?_,fun _ _=>NS _ _,?_,fun hd=>by simp[O2]at hd,?_⟩
 rw[MY];exact run_enterLoop_outer fn a.tmps ps assign body
 have hev:=ha.vals.eval hg
 simp[resolve,hev,Deferred.ofValue]
 rfl
 simp[invoke,Ll hf]
 
 generalize hlp:w.heap.size+1=lp
 have hw1:Bc K w0 ((Hit++(Tl r lp [] .ready++G0))++[BU (w.heap.size::D)]) ((w.alloc (.deferred (some []))).alloc (.loop r)):=by
  have h1:=(hw.alloc (.deferred (some []))).alloc (.loop r)
  rw[World.size_alloc,hlp]at h1
  
  have hm:Bc K w0 (BU (w.heap.size::D)::AP lp (.loop r)::(Hit++G0)) ((w.alloc (.deferred (some []))).alloc (.loop r)):=by
   have hp:(AP lp (.loop r)::AP w.heap.size (.deferred (some []))::(Hit++G0++[BU D])).Perm (AP w.heap.size (.deferred (some []))::BU D::AP lp (.loop r)::(Hit++G0)):=by
    refine(List.Perm.swap _ _ _).trans (List.Perm.cons _ ?_)
    refine(List.Perm.cons _ (List.perm_append_comm (l₁:=Hit++G0) (l₂:=[BU D]))).trans ?_
    exact List.Perm.swap _ _ _
   have h2:=h1.perm hp
   have hpw:=List.pairwise_cons.1 h2.disj
   have hpw2:=List.pairwise_cons.1 hpw.2
   have hmk:=h2.holds (BU D) zS
   have hnew:=h2.holds (AP w.heap.size (.deferred (some []))) (List.mem_cons_self ..)
   refine⟨h2.os,h2.tape,h2.output,h2.size,h2.klt,h2.keep,?_,?_,?_⟩
   intro c hc
   rcases List.mem_cons.1 hc with rfl | hc
   refine⟨List.nodup_cons.2 ⟨fun hin=>hpw.1 (BU D) zS _ rfl hin,hmk.1⟩,fun b hb=>?_⟩
   rcases List.mem_cons.1 hb with rfl | hb
   exact hnew
   exact hmk.2 b hb
   exact h2.holds c (by simp only[List.mem_cons]at hc ⊢;exact .inr (.inr hc))
   intro c hc b hb
   rcases List.mem_cons.1 hc with rfl | hc
   rcases List.mem_cons.1 hb with rfl | hb
   exact h2.foot (AP w.heap.size (.deferred (some []))) (List.mem_cons_self ..) _ rfl
   exact h2.foot (BU D) zS b hb
   exact h2.foot c (by simp only[List.mem_cons]at hc ⊢;exact .inr (.inr hc)) b hb
   refine List.pairwise_cons.2 ⟨fun c hc b hb hb'=>?_,hpw2.2⟩
   rcases List.mem_cons.1 hb with rfl | hb
   exact hpw.1 c (List.mem_cons_of_mem _ hc) _ rfl hb'
   exact hpw2.1 c hc b hb hb'
  refine hm.perm ?_
  have e:Tl r lp [] .ready=[AP lp (.loop r)]:=rfl
  rw[e]
  refine(List.perm_append_comm (l₁:=[BU (w.heap.size::D)])).trans (List.Perm.append_right _ ?_)
  simpa using(List.perm_middle (l₁:=Hit) (a:=AP lp (.loop r)) (l₂:=G0)).symm
 have hN:∀p∈ps.toList,p<a.tmps.size:=fun p hp=>by
  rw[ha.size]
  exact Jh (List.all_eq_true.1 hps p hp)
 let D':=w.heap.size::D
 have hcon:=hseq lp (fun pre Gx=>∃G,J9 pre G∧Gx=Tl r lp [] .ready++G) (fun Gx=>∃c G,X c G∧Gx=AP lp (.loop { r with state:=.done,pending:=some c })::G) [BU D'] (AP lp (.loop { r with state:=.ready,pending:=none })) ?_ ⟨G0,h0,rfl⟩
 refine Q2 none ((hcon _ hw1).mono ?_)
 rintro e w' ⟨v,M,rfl,hM,hw'⟩
 have hD:Mc N D' l { tmps:=a.tmps,defers:=[{ target:=.collected w.heap.size,args:=#[] }]++a.defers }:=⟨ha.size,by simp[ha.defers,D',ar],ha.vals⟩
 rcases hM with⟨G,hJ,rfl⟩ | ⟨c,G,hX,rfl⟩
 have hl:w'.heap[lp]? = some (.loop { r with state:=.ready,pending:=none }):=hw'.holds (AP lp _) (by simp[Tl])
 refine⟨_,_,run_endLoop hl zS,?_⟩
 refine hdone G D' hJ _ _ hD ?_
 have h3:=(show Bc K w0 (AP lp (.loop { r with state:=.ready,pending:=none })::(G++[BU D'])) w' from hw').put (o':=.loop { r with state:=.exhausted,pending:=none })
 exact h3.sublist (List.sublist_cons_self _ _)
 have hl:w'.heap[lp]? = some (.loop { r with state:=.done,pending:=some c }):=hw'.holds (AP lp _) zS
 refine⟨_,_,run_endLoop hl zS,?_⟩
 refine hstop c G D' hX _ _ hD ?_
 have h3:=(show Bc K w0 (AP lp (.loop { r with state:=.done,pending:=some c })::(G++[BU D'])) w' from hw').put (o':=.loop { r with state:=.exhausted,pending:=some c })
 exact h3.sublist (List.sublist_cons_self _ _)
 
 rintro pre x suf hxs Gx ⟨G,hJ,rfl⟩ M w₁ hw₁
 have hl:w₁.heap[lp]? = some (.loop { r with state:=.ready,pending:=none }):=hw₁.holds (AP lp _) (by simp[Tl])
 refine⟨_,_,_,_,run_yield hl (by simp[hlen];rfl),?_⟩
 refine roundIn_of_wpIn trivial ?_
 have hw₂:Bc K w0 ((G++Tl r lp M .ready)++[BU []]) w₁:=by
  refine Bc.marks0 (hw₁.perm ?_)
  show(AP lp _::(G++M)).Perm (G++AP lp _::M)
  exact List.perm_middle.symm
 have hzip:((ps.zip (enc x).toArray).foldl (fun tmps (t,a)=>tmps.setIfInBounds t a) a.tmps)=((ps.toList.zip (enc x)).foldl (fun tm (t,a)=>tm.setIfInBounds t a) a.tmps):=by
  rw[←Array.foldl_toList,Array.toList_zip]
 have hb:=hbody pre x suf G hxs hJ r lp M { tmps:=(ps.zip (enc x).toArray).foldl (fun tmps (t,a)=>tmps.setIfInBounds t a) a.tmps,defers:=[] } w₁
  ⟨by rw[hzip,Jo];exact ha.size,rfl,by rw[hzip];exact RB ps.toList (enc x) l a.tmps hN ha.vals⟩ hw₂
 refine wpIn_mono hb ?_
 intro e a' w' q
 cases e with
 | normal=>
  obtain⟨w₃,hbr,hbody'⟩:=q
  refine⟨w₃,hbr,wpIn_mono hbody' ?_⟩
  have fin:∀(jump:Option Code) (G':List AW) (w₄:World),Bc K w0 (G'++Tl r lp M .busy) w₄→
    (Instr.endRound lp jump).run P w₄=.ok (.bool jump.isNone) (w₄.putObj lp (.loop { r with state:=if jump.isNone then .ready else .done,pending:=jump }))∧
    Bc K w0 ((AP lp (.loop { r with state:=if jump.isNone then .ready else .done,pending:=jump })::G')++M) (w₄.putObj lp (.loop { r with state:=if jump.isNone then .ready else .done,pending:=jump })):=by
   intro jump G' w₄ h4
   have hl4:w₄.heap[lp]? = some (.loop { r with state:=.busy,pending:=none }):=h4.holds (AP lp _) (by simp[Tl])
   refine⟨run_endRound (r:={ r with state:=.busy,pending:=none }) jump hl4,?_⟩
   have h5:Bc K w0 (AP lp (.loop { r with state:=.busy,pending:=none })::(G'++M)) w₄:=h4.perm List.perm_middle
   exact h5.put
  intro e₂ a₂ w₄ q₂
  cases e₂ with
  | normal=>
   obtain⟨G',hJ',h4⟩:=q₂
   obtain⟨hrun,h5⟩:=fin none G' w₄ h4
   exact⟨_,_,hrun,_,_,rfl,⟨_,rfl,by simp only[Option.isNone_none,if_true];exact⟨G',hJ',rfl⟩⟩,h5⟩
  | ret=>
   obtain⟨G',hX',h4⟩:=q₂
   obtain⟨hrun,h5⟩:=fin (some .ret) G' w₄ h4
   exact⟨_,_,hrun,_,_,rfl,⟨_,rfl,by simp only[Option.isNone_some,Bool.false_eq_true,if_false];exact⟨_,G',hX',rfl⟩⟩,h5⟩
  | exit id=>
   obtain⟨G',hX',h4⟩:=q₂
   obtain⟨hrun,h5⟩:=fin (some (.exit id)) G' w₄ h4
   exact⟨_,_,hrun,_,_,rfl,⟨_,rfl,by simp only[Option.isNone_some,Bool.false_eq_true,if_false];exact⟨_,G',hX',rfl⟩⟩,h5⟩
  | goto _=>exact q₂.elim
  | panic _=>exact q₂.elim
  | outgrown=>exact q₂.elim
 | exit _=>exact q.elim
 | goto _=>exact q.elim
 | ret=>exact q.elim
 | panic _=>exact q.elim
 | outgrown=>exact q.elim
def X8{α σ R:Type}(body:(σ→Option R)→α→σ→Option R)(fin:σ→Option R):List α→σ→Option R
 | [],s=>fin s
 | x::r,s=>body (X8 body fin r) x s
theorem eN{α:Type}{xs pre suf suf':List α}{x:α}(h:xs=pre++x::suf)(h':xs=(pre++[x])++suf'):suf'=suf:=by
 rw[h,List.append_assoc]at h'
 simpa using(List.append_cancel_left h').symm
end
end Go.Proofs.YtkibffdipniemaaGreatDoor
