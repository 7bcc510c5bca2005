import Derived.Test.YtnboodbndkcnaaaGreatDoorG10
set_option linter.all false
set_option maxRecDepth 100000
namespace Go.R
open Go.Sl Go.Proofs
noncomputable section
def ZhI:=mk 25 .nl [] (a1 zK) [] (λ_ _=>uF) Z2 Z3 Tryz.f25 [] []
def Ztc:=mk 47 (a1 zK) [] X1 [] (Wj gi) Z2 Z3 Tryz.f47 [] []
def Ztp:=mk 48 Xs B0 (a2 HC .int) B0 (LF gS) QF QJ Tryz.f48 [] []
def mf:=mk 187 kN [] (a1 MF) [] (W2 Fg) Z2 Z3 Tryz.f187 [⟨0,[hi 5 .int,hi 14 .int]⟩,⟨2,[hi 8 MF,hi 32 .int]⟩] []
def Zhk:=mk 328 (a2 UE .int) [] (a1 UE) [] (W2 Mk) Z2 Z3 Tryz.f328 [] []
def ZtF:=mk 327 Tf [] (a1 kL) [] (Wj pD) Z2 Z3 Tryz.f327 [⟨0,[hi 12 .int,hb 3 t0]⟩,⟨2,[hi 6 .int,hb 3 t0]⟩] [Zhk]
def ZtG:=mk 272 (a2 yj Xy) [] (a1 yj) [] (W2 AD) Z2 Z3 Tryz.f272 [⟨0,[hi 16 .int,hb 6 t1]⟩,⟨2,[hi 102 .int,hb 2 t1]⟩] [ZtF,Zhk]
def JS:=mk 186 Tf [] TL [] (Wj Lc) Z2 Z3 Tryz.f186 [⟨0,[hi 0 Xy,hb 3 t1]⟩,⟨10024,[hi 6 .int]⟩,⟨2,[hi 31 .int,hb 5 (.own (.vec 128 QW))]⟩,⟨10050,[hb 3 t1]⟩,⟨4,[hi 54 .int,hb 8 t2]⟩] [ZtG]
def ua:=mk 124 kN [] TL [] (W2 Ki) Z2 Z3 Tryz.f124 [] [JS,mf]
def ub:=mk 178 Xs [] (a2 Zab .bool) [] (Wj Sm) W4 W5 Tryz.f178 [] []
def ZtO:=mk 177 Xs [] Xs [] (Wj Zfj) Z2 Z3 Tryz.f177 [] [ub]
def bd:=mk 115 Il [] X1 [] (W2 AQ) Z2 Z3 Tryz.f115 [] [ZtO]
def c9:=mk 116 Xs [] Xs [] (Wj wY) Z2 Z3 Tryz.f116 [] [ub]
def bc:=mk 79 Il [] Xs [] (W2 vf) Z2 Z3 Tryz.f79 [] [c9,bd]
def Zg9:=mk 171 (a2 Xx Xy) [] (a2 O4 Xx) [] (W2 wG) W4 W5 Tryz.f171 [⟨10012,[hi 6 t3]⟩] [ua] (fz:=[2,7])
def uc:=mk 180 (a4 O4 UE .int Ky) [] TL [] (HO Fs) Z2 Z3 Tryz.f180 [⟨0,[hi 9 MF,hi 37 .int]⟩] [JS]
def Zhd:=mk 263 (a4 O4 UE .int Xx) [] TL [] (HO ve) Z2 Z3 Tryz.f263 [] [uc]
def Zhc:=mk 182 (a1 Zab) [] Xs [] (Wj og) Z2 Z3 Tryz.f182 [] []
def ba:=mk 181 (a6 O4 UE .int Xx .int .int) [] TL [] (λa _=>wZ a.1 a.2.1 a.2.2.1 a.2.2.2.1 a.2.2.2.2.1 a.2.2.2.2.2.1) Z2 Z3 Tryz.f181 [⟨0,[hi 13 .int,hb 9 t2]⟩] [uc]
def Zha:=mk 183 (a3 O4 UE RF) [] TL [] (O0 w9) Z2 Z3 Tryz.f183 [⟨0,[hi 7 MF,hi 16 .int]⟩] [uc]
def ZtP:=mk 262 (a4 .int O4 UE Xx) [] tT [] (HO p9) W4 W5 Tryz.f262 [⟨0,[hi 27 .int,hb 24 t4]⟩] [ba,Zha,Zhc,ub,Zhd]
def Lt:=mk 74 Et B1 .nl B1 (Xd Tp) Ui Ul Tryz.f74 [⟨10012,[hb 0 t6]⟩] []
def Ch:=mk 112 (a3 Xr QX .int) B1 .nl B1 (R9 KF) Ui Ul Tryz.f112 [⟨0,[hi 6 .int,hb 0 t6]⟩] []
def JV:=mk 73 (a2 Xr UE) B1 .nl B1 (Xd S6) Ui Ul Tryz.f73 [] [Ch]
def mz:=mk 206 tS B1 X1 B1 (R9 Ep) WP WQ Tryz.f206 [⟨10015,[hb 0 t6]⟩] []
def Zh5:=mk 271 Vo B1 .nl B1 (Xd yh) Ui Ul Tryz.f271 [⟨10006,[hb 0 t6]⟩] [Ch,mz]
def Ms:=mk 75 WH B1 LM [] (WG QU) W4 W5 Tryz.f75 [] [] (u:=true)
def Zhj:=mk 185 (a4 O4 .int .int Ky) [] TL [] (HO vk) Z2 Z3 Tryz.f185 [⟨0,[hi 28 .int,hb 15 t6]⟩] [JS,Ms,Lt,Zh5,JV]
def Zhi:=mk 120 (a3 O4 .int Xx) [] TL [] (O0 oj) Z2 Z3 Tryz.f120 [] [Zhj]
def Zhh:=mk 184 (a4 O4 .int Xx Xx) [] TL [] (HO oi) Z2 Z3 Tryz.f184 [] [Zhj]
def Zhe:=mk 172 (a4 .int .int O4 Xx) [] (a2 Ee .int) [] (HO DH) W4 W5 Tryz.f172 [⟨0,[hi 32 .int,hb 30 t11]⟩,⟨2,[hi 15 .int,hb 30 t11]⟩] [ZtP,Zhh,Zhi,bd]
def ZtJ:=mk 123 (a4 .int .int .int Xx) [] (a2 (.opt t87) .int) [] (HO fN) W4 W5 Tryz.f123 [] [Zg9,Zhe,bc]
def cN:=mk 188 WH B2 Xs [] (WG GQ) Z2 Z3 Tryz.f188 [] [] (u:=true)
def ZgO:=mk 336 WH B2 X1 [] (WG xM) Z2 Z3 Tryz.f336 [] [] (u:=true)
def ZgT:=mk 329 Vo B2 Xs [] (Xd xP) Z2 Z3 Tryz.f329 [] [ZgO] (u:=true)
def ZgQ:=mk 273 Vo B2 LM [] (Xd qz) W4 W5 Tryz.f273 [] [ZgT] (u:=true)
def Kv:=mk 76 Tf [] (a1 J4) [] (Wj Og) Z2 Z3 Tryz.f76 [] []
def mw:=mk 176 Vo B3 (a2 QX .bool) [] (Xd CJ) W4 W5 Tryz.f176 [⟨0,[hi 6 QX,hi 33 .int]⟩] [] (u:=true)
def bw:=mk 114 Vo B3 Tf B3 (Xd ye) WP WQ Tryz.f114 [] []
def Cf:=mk 113 Vo B3 Er B3 (Xd Ij) WP WQ Tryz.f113 [] [mw,bw]
def Zh3:=mk 330 WH B3 Er B3 (WG HU) WP WQ Tryz.f330 [] [Cf]
def br:=mk 80 WH B3 Xs [] (WG Em) Z2 Z3 Tryz.f80 [] [] (u:=true)
def bu:=mk 310 WH B3 .nl B3 (WG CK) Ui Ul Tryz.f310 [⟨10003,[hb 0 J4]⟩] []
def uj:=mk 235 Vo B3 Tf B3 (Xd KE) WP WQ Tryz.f235 [] [br,Cf,mw,bu,bw]
def JU:=mk 81 WH B3 X1 [] (WG QT) Z2 Z3 Tryz.f81 [] [] (u:=true)
def Lr:=mk 78 Vo B3 Tf B3 (Xd TZ) WP WQ Tryz.f78 [] [bw]
def Ce:=mk 100 WH B3 X1 [] (WG LJ) Z2 Z3 Tryz.f100 [] [JU,br] (u:=true)
def ZvS:=mk 274 Tf [] (a3 QX Xy .bool) [] (Wj F3) Aj As Tryz.f274 [] [Kv,Ce,JU,Lr,uj,Zh3]
def ZhL:=mk 189 Vo B2 (a3 QX Xy .int) [] (Xd uW) Aj As Tryz.f189 [⟨0,[hi 7 QX,hi 8 Xy,hi 17 .int]⟩,⟨10049,[hi 7 QX,hi 8 Xy]⟩] [ZgQ,ZvS] (u:=true)
def Zh2:=mk 241 WH B3 X1 B3 (WG yd) WP WQ Tryz.f241 [⟨10015,[hb 0 J4]⟩] [Cf,mw,bu]
def Hx:=mk 77 WH B3 (a1 UE) B3 (WG T4) WP WQ Tryz.f77 [] [Cf]
def Zv5:=mk 190 Tf [] (a2 zN .bool) [] (Wj z9) W4 W5 Tryz.f190 [] [Kv,Ce,Zh2,Hx]
def Zh4:=mk 291 (a2 Xr .bool) B1 .nl B1 (Xd yg) Ui Ul Tryz.f291 [⟨10005,[hi 4 QX]⟩] [Ch]
def Zv6:=mk 276 (a1 zN) [] Tf [] (Wj ki) Z2 Z3 Tryz.f276 [] [Zh4,Ms,JV]
def Zh6:=mk 333 (a2 Xr QX) B1 .nl B1 (Xd Eo) Ui Ul Tryz.f333 [] [Ch]
def ul:=mk 222 Et B1 .nl B1 (Xd NO) Ui Ul Tryz.f222 [⟨10007,[hb 0 t6]⟩] [Lt,Ch,mz]
def ZvT:=mk 331 (a2 QX Xy) [] LM [] (W2 lI) W4 W5 Tryz.f331 [] [Ms,Lt,ul,Zh6]
def ZgS:=mk 335 WH B2 X1 B2 (WG qA) WP WQ Tryz.f335 [⟨10012,[hb 0 Eb]⟩,⟨10003,[hb 0 Eb]⟩] []
def ZgR:=mk 294 ZaS B2 Xs B2 (R9 xO) WP WQ Tryz.f294 [] [ZgS,ZgT]
def ZgP:=mk 296 WH B2 Xs B2 (WG xN) WP WQ Tryz.f296 [⟨0,[hi 17 .int,hi 15 t22,hb 0 Eb]⟩] [ZgO,ZgS] (sp:=[7])
def ZvR:=mk 275 ZaS B2 (a2 QX .int) B2 (R9 lH) QF QJ Tryz.f275 [] [ZgP,ZgR,ZhL,ZvT]
def mu:=mk 201 Vo B4 Xs B4 (Xd Ei) WP WQ Tryz.f201 [] []
def ZhW:=mk 191 (a2 Xr zN) B5 Xs B5 (Pu Ej) OE OJ Tryz.f191 [] [ZvR,mu,Zv6]
def mo:=mk 194 WH B5 Xs [] (λ_ a=>Ic a.1 a.2.1) Z2 Z3 Tryz.f194 [] [cN] (u:=true)
def ZhV:=mk 193 (a2 Xr .bool) B5 Xs [] (Pu CF) Z2 Z3 Tryz.f193 [] [mo] (u:=true)
def Zv8:=mk 277 (a5 Xr .int .int UE UE) B2 X1 [] (λa b=>kA b.1 a.2.1 a.2.2.1 a.2.2.2.1 a.2.2.2.2.1) Z2 Z3 Tryz.f277 [] [cN] (u:=true)
def uk:=mk 96 WH B3 Xs B3 (WG Ii) WP WQ Tryz.f96 [] [Cf]
def Zwb:=mk 278 (a3 Xy .int UE) [] (a2 th .bool) [] (O0 kD) W4 W5 Tryz.f278 [⟨0,[hi 43 .int,hb 6 t26]⟩] [Kv,Ce,Lr,Zh3,uk]
def Zh0:=mk 192 (a5 HC .int .int UE UE) B0 (a3 t72 Ky .int) [] (λa b=>HT b.1 a.1 a.2.1 a.2.2.1 a.2.2.2.1 a.2.2.2.2.1) Aj As Tryz.f192 [⟨0,[hi 3 UE,hi 14 t3,hi 15 .int,hb 34 Ct]⟩,⟨2,[hi 3 UE,hi 14 t3,hi 15 .int,hi 16 MF,hi 17 UE,hb 34 Ct]⟩,⟨10060,[hi 60 .bool]⟩] [ZgQ,Zv8,Zwb] (u:=true)
def ZhR:=mk 125 (a1 HC) B0 (a3 (.opt t75) Ky .int) B0 (LF tF) Zdy Zeg Tryz.f125 [] [cN,ZhL,mo,ZhV,ZhW,Zv5,Zh0]
def me:=mk 126 TL [] (a1 MC) [] (Wj I4) Z2 Z3 Tryz.f126 [] []
def Cd:=mk 240 Vo B3 Xs B3 (Xd LH) WP WQ Tryz.f240 [] [Cf,mw,bu]
def ZuU:=mk 195 Tf [] (a3 .int J6 .bool) [] (Wj Kq) Aj As Tryz.f195 [⟨0,[hi 7 (.full Ed),hi 16 .int,hb 10 J4]⟩] [Kv,Cd,Ce,uj,Hx]
def Zhy:=mk 91 Vo B6 X1 [] (Xd vV) Z2 Z3 Tryz.f91 [] [] (u:=true)
def zp:=mk 39 WH B7 Xs [] (WG GW) Z2 Z3 Tryz.f39 [] [] (u:=true)
def JT:=mk 11 WH B6 Xs [] (WG Po) Z2 Z3 Tryz.f11 [] [zp] (u:=true)
def Zhf:=mk 135 (a1 Ee) [] Xs [] (Wj vh) Z2 Z3 Tryz.f135 [] []
def cZ:=mk 90 WH B8 Xs [] (WG DD) Z2 Z3 Tryz.f90 [] [Zhf] (u:=true)
def ZuT:=mk 279 (a2 Ed yi) B9 X1 [] (LF cw) Z2 Z3 Tryz.f279 [] [] (u:=true)
def ZvP:=mk 242 (a2 J6 ZjH) B9 Xs [] (LF aI) Z2 Z3 Tryz.f242 [⟨0,[hi 8 .int]⟩] [ZuT] (u:=true)
def ZvI:=mk 157 (a2 J6 ZjH) B9 X1 [] (LF lG) Z2 Z3 Tryz.f157 [] [ZvP] (u:=true)
def ZuS:=mk 196 (a1 J6) [] X1 [] (Wj nT) Z2 Z3 Tryz.f196 [⟨0,[hi 7 .int]⟩] [ZvI]
def ZuW:=mk 140 (a1 J6) [] (a1 ZjI) [] (Wj cA) Z2 Z3 Tryz.f140 [⟨0,[hi 3 (.full lQ),hi 8 .int]⟩] []
def cQ:=mk 226 Et B7 (a1 RD) [] (Xd Du) Z2 Z3 Tryz.f226 [] [] (u:=true)
def ZgI:=mk 297 Tf [] X1 [] (Wj Db) Z2 Z3 Tryz.f297 [] []
def ZgH:=mk 338 Xs [] (a1 MF) [] (Wj Ad) Z2 Z3 Tryz.f338 [] []
def ZsW:=mk 337 (a2 Xy J8) [] (a1 MF) [] (W2 ql) Z2 Z3 Tryz.f337 [] [ZgH,mf]
def mc:=mk 299 (a2 Xy J8) [] TL [] (W2 IU) Z2 Z3 Tryz.f299 [] [ZsW,JS]
def md:=mk 298 (a2 Xy RD) [] X1 [] (W2 IV) Z2 Z3 Tryz.f298 [⟨0,[hi 6 .int,hi 19 .int,hb 5 t2]⟩] [mc,ZgI]
def ZsV:=mk 300 (a3 Xx Xy .int) [] TL [] (O0 xy) Z2 Z3 Tryz.f300 [] [ZgH,ua]
def ZsU:=mk 225 (a5 Xx Xy RD .int Xy) [] (a2 RD .int) [] (λa _=>Ab a.1 a.2.1 a.2.2.1 a.2.2.2.1 a.2.2.2.2.1) W4 W5 Tryz.f225 [] [mc,md,ZsV,ZgI]
def cS:=mk 227 (a3 Xr .int Of) B7 (a2 Zad .bool) [] (R9 Mg) W4 W5 Tryz.f227 [⟨0,[hi 18 .int,hb 6 t45,hb 8 t45,hb 15 t46]⟩] [md,cQ] (u:=true) (sp:=[43,50])
def uh:=mk 228 WH S8 Xs [] (WG MD) Z2 Z3 Tryz.f228 [] [] (u:=true)
def ZgX:=mk 301 WH B7 Xs [] (WG Aq) Z2 Z3 Tryz.f301 [] [] (u:=true)
def cH:=mk 303 Tf [] TL [] (Wj Ac) Z2 Z3 Tryz.f303 [] [ua]
def ZhP:=mk 339 Vo S8 X1 [] (Xd zS) Z2 Z3 Tryz.f339 [] [] (u:=true)
def mi:=mk 350 tT [] (a1 RE) [] (W2 D7) Z2 Z3 Tryz.f350 [⟨0,[hi 10 .int,hb 2 t2]⟩,⟨10020,[hb 2 t2]⟩] []
def zr:=mk 312 (a1 RE) [] X1 [] (Wj JQ) Z2 Z3 Tryz.f312 [] [mi]
def mj:=mk 352 (a2 RE Xx) [] X1 [] (W2 Hu) Z2 Z3 Tryz.f352 [] [mi,zr]
def zq:=mk 343 tT [] Xs [] (W2 Ht) Z2 Z3 Tryz.f343 [] []
def Zv1:=mk 340 (a3 Xr .int Xx) S8 (a2 (.sl .int) .int) [] (R9 lZ) W4 W5 Tryz.f340 [⟨0,[hi 1 .int,hi 8 HV]⟩,⟨10053,[hi 1 .int]⟩] [zq,mj] (u:=true)
def bq:=mk 362 (a3 HE Xx Xx) [] Tf [] (O0 zV) Z2 Z3 Tryz.f362 [] [mf]
def bp:=mk 341 (a2 Xr HE) S8 Xs S8 (Xd J9) WP WQ Tryz.f341 [⟨10012,[hb 5 t53,hb 6 t2,hb 7 t2]⟩] [JS,bq]
def ZhQ:=mk 363 (a1 HE) [] (a1 RE) [] (Wj zU) Z2 Z3 Tryz.f363 [] [mi]
def Zt0:=mk 399 (a1 QW) [] Xs [] (Wj da) Z2 Z3 Tryz.f399 [] []
def ZtW:=mk 397 (a1 QW) [] Xs [] (Wj oo) Z2 Z3 Tryz.f397 [] [Zt0]
def ZuD:=mk 383 (a2 Xx Xx) [] Xs [] (W2 nI) Z2 Z3 Tryz.f383 [⟨0,[hi 7 .int]⟩] [ZtW]
def ZuC:=mk 364 (a2 RE RE) [] (a1 RE) [] (W2 nH) Z2 Z3 Tryz.f364 [] [mi,zr,ZuD]
def Zv0:=mk 342 tS S8 Xs S8 (R9 zT) WP WQ Tryz.f342 [⟨10034,[hi 1 .int,hi 2 .int]⟩] [zq,ZuC,bp,ZhQ]
def ZvZ:=mk 302 (a4 Xr .int Xx Xx) S8 Il S8 (Eg zR) QF QJ Tryz.f302 [⟨10065,[hi 12 .int,hb 0 HF]⟩,⟨0,[hi 12 .int,hi 13 .int,hb 0 HF]⟩,⟨10092,[hb 14 t53]⟩] [zq,bp,ZhP,Zv0,Zv1]
def ZgV:=mk 229 (a2 Xr Of) B7 Il B7 (Xd GX) QF QJ Tryz.f229 [⟨0,[hi 6 .int,hi 15 .int,hb 0 MC]⟩] [mc,cH,ZgX,ZvZ]
def ZvY:=mk 344 .nl [] TL [] (λ_ _=>Zaw) Z2 Z3 Tryz.f344 [] [ua]
def ug:=mk 304 Vo S8 tT [] (Xd HJ) W4 W5 Tryz.f304 [] [ZvY,ZhP] (u:=true)
def mn:CO:=⟨_,Znu⟩
def ZtC:=mk 345 Tf [] TL [] (Wj pn) Z2 Z3 Tryz.f345 [] [JS,mn]
def cX:=mk 305 (a2 .int Xx) [] TL [] (W2 AE) Z2 Z3 Tryz.f305 [] [ZtC,Ms,Lt,JV]
def ZgY:=mk 233 (a1 Of) [] (a1 tm) [] (Wj qV) Z2 Z3 Tryz.f233 [⟨0,[hi 3 tm,hi 8 .int]⟩] []
def cR:=mk 230 (a4 Xr .int .int Zad) B7 .nl B7 (Eg I5) Ui Ul Tryz.f230 [⟨0,[hi 27 .int,hb 0 MC]⟩,⟨10044,[hi 12 .int,hb 0 MC]⟩] [ZgY,cX,ug]
def Zty:=mk 139 (a2 Xr ZjI) B7 Xs B7 (Xd QI) WP WQ Tryz.f139 [⟨1,[hi 6 tm,hi 31 .int]⟩] [ZsU,cQ,cR,cS,ZgV,uh]
def Zhz:=mk 93 (a3 Xr .int J6) B6 Xs B6 (R9 vW) WP WQ Tryz.f93 [⟨0,[hi 32 .int,hb 0 Cw]⟩] [Zty,JT,ZuW]
def ZuR:=mk 127 Et B6 X1 B6 (Xd nR) WP WQ Tryz.f127 [⟨0,[hi 43 .int]⟩] [cZ,JT,Zhy,Zhz,ZuS,ZuU]
def ZuE:=mk 85 (a2 HC aR) B11 (a2 lL .int) B11 (λa b=>nJ b.1 b.2.1 a.1 a.2.1) Ak Au Tryz.f85 [⟨0,[hi 49 .int,hb 1005 Kz,hb 46 Cw]⟩] [me,ua,ZtJ,ZuR,ZhR]
def ZuF:=mk 11 (a1 .Ub) [] Xs [] (λ_ _=>ct) Z2 Z3 Tryz.f11 [] []
def Zvi:=mk 280 WH B3 (a1 Cu) B3 (WG mP) WP WQ Tryz.f280 [] [Lr,uj,Hx]
def Zg6:=mk 72 (a1 LA) [] X1 [] (Wj Fh) Z2 Z3 Tryz.f72 [] []
def ZtH:=mk 236 Tf [] (a2 LA .int) [] (Wj fL) W4 W5 Tryz.f236 [] [Zg6,Kv,Lr,Hx]
def Zg8:=mk 146 WH B3 (a1 MA) B3 (WG wC) WP WQ Tryz.f146 [] [ZtH,JU,Lr,uj]
def Zvg:=mk 197 Et B12 X1 B12 (Xd mO) WP WQ Tryz.f197 [⟨1,[hi 29 .int,hb 0 td,hb 8 J4]⟩] [Zg8,Zvi,Kv,Cd,Ce,JU,Lr,uk]
def Zvh:=mk 128 (a1 Ky) [] (a3 aO .int .bool) [] (Wj zy) Aj As Tryz.f128 [⟨0,[hi 7 .int,hi 12 .int,hb 2 td,hb 5 td,hb 6 Zjl]⟩,⟨10024,[hi 7 .int,hb 6 Zjl]⟩] [Zvg]
def cW:=mk 42 (a1 LA) [] LM [] (Wj Kj) W4 W5 Tryz.f42 [] [Zg6,Ms,Lt,JV]
def ZtV:=mk 117 (a3 Xy .int .int) [] (a2 ZjJ .bool) [] (O0 ol) W4 W5 Tryz.f117 [⟨0,[hi 32 .int,hb 9 (.own ZxW),hb 19 J4]⟩] [c9,bc,Kv,Ce,Lr,Hx] (sp:=[47,52,59])
def Zhb:CO:=⟨_,Zn1⟩
def ZtQ:=mk 118 (a4 O4 UE Xy Xy) [] (a2 Xx .bool) [] (HO oa) W4 W5 Tryz.f118 [⟨0,[hi 53 .int,hb 19 J4,hb 43 t4]⟩] [c9,ba,Zha,Zhb,Zhc,ub,uc,Kv,Lr,Hx]
def ZtU:=mk 119 (a4 O4 .int Xx RF) [] TL [] (HO eD) Z2 Z3 Tryz.f119 [⟨0,[hi 1 .int,hi 15 .int,hb 6 t2]⟩,⟨10023,[hb 11 t2,hb 12 t2]⟩] [Zhh]
def ZvM:=mk 121 (a2 Xy Xy) [] X1 [] (W2 aG) Z2 Z3 Tryz.f121 [⟨0,[hi 13 .int]⟩] []
def ZtT:=mk 82 (a3 Xy Xy Xy) [] X1 [] (O0 vj) Z2 Z3 Tryz.f82 [] [ZtQ,ZtU,Zhi,bd,ZtV,ZvM,Kv,Lr,Hx]
def ZtN:=mk 43 (a3 Xy Xy Xy) [] X1 [] (O0 pK) Z2 Z3 Tryz.f43 [] [bc,ZtT,Kv,JU,br,Lr,Hx]
def cY:=mk 13 (a2 MA Xy) [] X1 [] (W2 AG) Z2 Z3 Tryz.f13 [] [cW,ZtN]
def ZgW:=mk 281 (a4 Xr .int Of Xx) B7 (a3 .int Zad .bool) B7 (Eg qU) Zdy Zeg Tryz.f281 [] [cS,ZgV,ug]
def v9:=mk 111 WH B7 (a1 t4) [] (WG Dv) Z2 Z3 Tryz.f111 [⟨0,[hi 3 t4,hi 11 .int]⟩] [] (u:=true)
def Zg0:=mk 267 (a2 Xx Xx) [] TL [] (W2 ws) Z2 Z3 Tryz.f267 [] [JS,mn]
def Zg5:=mk 264 (a2 zJ Cv) [] (a1 zJ) [] (W2 Ay) Z2 Z3 Tryz.f264 [⟨0,[hi 0 zJ,hb 3 (.own Cv)]⟩] [Zg0]
def Zg4:=mk 265 (a1 (.sl Cv)) [] (a1 RF) [] (Wj pq) Z2 Z3 Tryz.f265 [⟨0,[hi 3 t4,hi 8 .int]⟩] []
def Zg1:=mk 174 (a2 .int RF) [] (a2 HB .int) [] (W2 wu) W4 W5 Tryz.f174 [⟨0,[hi 6 zJ,hi 25 .int]⟩] [Zg4,Zg5]
def Zg3:=mk 324 Il [] X1 [] (W2 ww) Z2 Z3 Tryz.f324 [] []
def ZtY:=mk 374 (a1 UE) [] Xs [] (Wj Zqz) Z2 Z3 Tryz.f374 [⟨10004,H0⟩,⟨10008,H0⟩] []
def ZtZ:=mk 375 Er [] Xs [] (Wj eZ) Z2 Z3 Tryz.f375 [⟨10004,H1⟩,⟨10008,H1⟩,⟨10014,H1⟩] []
def ZtX:=mk 348 Er [] Xs [] (Wj oq) Z2 Z3 Tryz.f348 [] [ZtY,ZtZ]
def Zt2:=mk 395 (a1 UE) [] Xs [] (Wj ZqA) Z2 Z3 Tryz.f395 [] []
def Zt3:=mk 396 Er [] Xs [] (Wj db) Z2 Z3 Tryz.f396 [] []
def Zt1:=mk 382 Er [] Xs [] (Wj ou) Z2 Z3 Tryz.f382 [] [Zt2,Zt3]
def ZtD:=mk 361 Il [] Xs [] (W2 po) Z2 Z3 Tryz.f361 [⟨10014,[hi 5 .int]⟩] [ZtX,Zt1]
def Zg2:=mk 325 Il [] (a1 (.sl .int)) [] (W2 Fc) Z2 Z3 Tryz.f325 [⟨0,[hi 0 .int,hi 5 HV]⟩] [Zg3,ZtD]
def ZgZ:=mk 266 (a1 HB) [] X1 [] (Wj Ax) Z2 Z3 Tryz.f266 [] [Zg2,Zg3]
def cV:=mk 175 (a1 HB) [] tT [] (Wj wv) W4 W5 Tryz.f175 [⟨0,[hi 6 .int,hb 5 t2]⟩] [ZgZ,Zg0,JS]
def cU:=mk 110 (a1 RF) [] TL [] (Wj GY) Z2 Z3 Tryz.f110 [] [Zg1,cV]
def Ztu:=mk 282 Vo B7 (a1 LA) [] (Xd qS) Z2 Z3 Tryz.f282 [] [zp,v9,cU] (u:=true)
def ZgU:=mk 198 (a3 LA Of RF) [] (a2 ZjK .int) [] (O0 Dr) W4 W5 Tryz.f198 [⟨0,[hi 1 Of,hi 26 .int,hb 23 MC]⟩,⟨2,[hi 11 .int]⟩] [me,Ztu,cR,ZgW,uh]
def Zvc:=mk 129 (a2 Xr aO) B13 X1 B13 (Xd bF) WP WQ Tryz.f129 [] [ZgU,cY]
def Zh1:=mk 283 Xs [] Xs [] (Wj kz) Z2 Z3 Tryz.f283 [] []
def Zv4:=mk 199 (a2 Xr Ky) B5 Xs [] (Pu kg) Z2 Z3 Tryz.f199 [⟨0,[hi 5 .int,hi 10 .int]⟩] [mo,Zh1] (u:=true)
def Zv7:=mk 292 WH jD Xs [] (WG ky) Z2 Z3 Tryz.f292 [] [] (u:=true)
def Zv9:=mk 334 (a1 th) [] Er [] (Wj kB) Z2 Z3 Tryz.f334 [] []
def FK:=mk 133 Vo B1 .nl B1 (Xd Px) Ui Ul Tryz.f133 [⟨10006,[hb 0 t6]⟩] [Ch,mz]
def Zwa:=mk 293 (a1 th) [] LM [] (Wj kC) W4 W5 Tryz.f293 [] [Zv9,Ms,Lt,Zh6,FK]
def ZhZ:=mk 295 Vo jD Xs jD (Xd tL) WP WQ Tryz.f295 [] []
def ZhX:=mk 223 Et sW Xs sW (Pu tK) OE OJ Tryz.f223 [⟨1,[hi 33 .int,hb 1000 R8,hb 0 Ct]⟩,⟨10059,[hb 7 t26]⟩,⟨10067,[hb 7 t26]⟩] [ZgR,Zv7,ZhZ,Zh1,Zwa]
def ZhY:=mk 224 WH sW Xs sW (λ_ a=>kx a.1 a.2.1) OE OJ Tryz.f224 [] [ZgP,ZhZ]
def Zv3:=mk 200 (a3 Xr zN Ky) B5 (a2 t72 .int) B5 (λa b=>ke b.1 b.2.1 a.2.1 a.2.2.1) Ak Au Tryz.f200 [⟨0,[hi 39 .int,hb 1000 R8,hb 31 Ct]⟩] [mo,ZhV,ZhX,ZhY,Zh0]
def ZhU:=mk 130 (a2 Xr Ky) B5 Xs B5 (Pu Eh) OE OJ Tryz.f130 [] [mu,Zv3,Zv4,ZhW]
def uf:=mk 21 WH NT Xs [] (WG Qo) Z2 Z3 Tryz.f21 [] [zp] (u:=true)
def Zu3:=mk 86 (a4 HC Xy .int .int) B17 (a2 lM .int) B17 (λa b=>zx b.1 b.2.1 a.1 a.2.1 a.2.2.1 a.2.2.2.1) Ak Au Tryz.f86 [⟨10053,[hi 15 .int,hb 1001 J5]⟩] [me,uf,Zvc,Zvh,ZhR,ZhU] (sp:=[44,47])
def ZgL:=mk 49 Vo sX Xs sX (λb a=>Kb a.1 a.2.1 a.2.2.1 a.2.2.2.1 b.2.1) Dh Dw Tryz.f49 [⟨0,[hb 0 SC]⟩] [ZuE,JT,ZuF,Zu3]
def Zhg:=mk 84 (a1 Ee) [] Tf [] (Wj oh) Z2 Z3 Tryz.f84 [] [Ms,Lt,JV]
def ZtK:=mk 44 WH B8 Tf [] (WG wF) Z2 Z3 Tryz.f44 [] [Zhg,mn] (u:=true)
def ZuG:=mk 14 WH B6 Tf [] (WG nK) Z2 Z3 Tryz.f14 [] [ZtK] (u:=true)
def ZvA:=mk 50 (a3 .int Xy .int) B19 (a1 aT) B19 (λa b=>aq b.1 a.1 a.2.1 a.2.2.1) WP WQ Tryz.f50 [] []
def ZgM:=mk 24 (a1 zK) sY (a2 (.opt aY) .int) sY (λb a=>xF a.1 a.2.1 a.2.2.1 a.2.2.2.1 a.2.2.2.2.1 b.1) ZnK ZoM Tryz.f24 [⟨0,hi 31 .int::H5⟩,⟨2,[hi 8 .int,hb 1000 R8,hb 1001 J5,hb 1002 HA,hb 1003 MB,hb 1005 Kz,hb 27 SC]⟩,⟨4,hi 80 .int::H5⟩] [ZgL,Ztc,Ztp,ZuG,ZvA]
def ZgJ:=mk 10 WH O8 (a1 lL) [] (WG Jn) Z2 Z3 Tryz.f10 [] [] (u:=true)
def Zs6:=mk 27 kO O8 LK O8 (Xd gh) WP WQ Tryz.f27 [] []
def ZgK:=mk 52 Vo O8 (a1 aV) [] (Xd xC) Z2 Z3 Tryz.f52 [] [] (u:=true)
def ZvD:=mk 88 (a4 Xr .int Xy .int) Iu tU Iu (Eg lv) QF QJ Tryz.f88 [⟨10010,[hi 10 .bool]⟩,⟨10010,[hi 10 .bool]⟩,⟨10010,[hi 10 .bool]⟩,⟨10010,[hi 10 .bool]⟩,⟨10010,[hi 10 .bool]⟩,⟨10010,[hi 10 .bool]⟩] []
def Zhq:=mk 97 Xs [] (a1 (.nz .int)) [] (Wj Mm) Z2 Z3 Tryz.f97 [] []
def Zhl:=mk 98 tU [] X1 [] (W2 Fv) Z2 Z3 Tryz.f98 [] []
def ue:=mk 287 WH B1 .nl B1 (WG Hf) Ui Ul Tryz.f287 [] [FK]
def Zho:=mk 207 Vo B1 .nl B1 (Xd Qk) Ui Ul Tryz.f207 [] [ue,JV]
def Zud:=mk 208 Vo B1 .nl B1 (Xd DM) Ui Ul Tryz.f208 [] [ue,FK]
def bk:=mk 209 Et B1 .nl B1 (Xd Lj) Ui Ul Tryz.f209 [] [ue,ul]
def Zg7:=mk 210 (a2 Xr MA) B1 .nl B1 (Xd Fi) Ui Ul Tryz.f210 [] [cW,Lt,ul,FK]
def Cg:=mk 221 Vo B1 .nl B1 (Xd Oh) Ui Ul Tryz.f221 [⟨10006,[hb 0 t6]⟩] [Ch,mz]
def Cc:=mk 212 (a2 Xr Xx) B1 .nl B1 (Xd Pl) Ui Ul Tryz.f212 [] [Lt]
def Zhs:=mk 220 (a3 Xr RF (.fn 212 J7 .nl)) B1 .nl B1 (Xd AZ) Ui Ul Tryz.f220 [⟨0,H6⟩] [Cc,Cg]
def Zuj:=mk 211 (a2 Xr J3) B1 .nl B1 (Xd vq) Ui Ul Tryz.f211 [] [Zhs]
def bj:=mk 290 (a2 Xr RE) B1 .nl B1 (Xd AY) Ui Ul Tryz.f290 [] [Cc,ue,zr,Zh5]
def Zui:=mk 289 (a2 Xr te) B1 .nl B1 (Xd oB) Ui Ul Tryz.f289 [] [Cc,bj]
def Zur:=mk 288 (a3 Xr aP (.fn 289 J7 .nl)) B1 .nl B1 (Xd vz) Ui Ul Tryz.f288 [⟨0,H6⟩] [Zui,Cg]
def Zug:=mk 213 (a2 Xr LB) B1 .nl B1 (Xd vo) Ui Ul Tryz.f213 [⟨10034,H7⟩,⟨10020,H7⟩,⟨10014,H7⟩] [Cc,bj,ue,Zur,FK]
def Zhp:=mk 215 (a2 Xr J8) B1 .nl B1 (Xd vr) Ui Ul Tryz.f215 [] [Cc,Zho,bk]
def Zuo:=mk 214 (a3 Xr RD (.fn 215 J7 .nl)) B1 .nl B1 (Xd oF) Ui Ul Tryz.f214 [⟨0,H6⟩] [Zhp,Cg]
def Zuh:=mk 217 (a2 Xr F9) B1 .nl B1 (Xd vp) Ui Ul Tryz.f217 [] [Cc,bj,Zh4]
def Zup:=mk 216 (a3 Xr Ea (.fn 217 J7 .nl)) B1 .nl B1 (Xd A7) Ui Ul Tryz.f216 [⟨0,H6⟩] [Zuh,Cg]
def Zuf:=mk 219 (a2 Xr Cu) B1 .nl B1 (Xd oA) Ui Ul Tryz.f219 [] [bk,Zhp]
def Zuq:=mk 218 (a3 Xr Of (.fn 219 J7 .nl)) B1 .nl B1 (Xd A8) Ui Ul Tryz.f218 [⟨0,H6⟩] [Zuf,Cg]
def Zue:=mk 134 ZaT B1 .nl B1 (R9 SW) Ui Ul Tryz.f134 [⟨10111,H8⟩,⟨10103,H8⟩,⟨10095,H8⟩,⟨10087,H8⟩,⟨10081,H8⟩,⟨10075,H8⟩,⟨10069,H8⟩,⟨10063,H8⟩,⟨10055,H8⟩,⟨10049,H8⟩,⟨10043,H8⟩,⟨10037,H8⟩,⟨10031,H8⟩,⟨10025,H8⟩,⟨10019,H8⟩,⟨10013,H8⟩,⟨10007,H8⟩] [Zg7,Zud,Cc,Zho,Zug,bk,Zuj,Zhs,Zuo,Zup,Zuq]
def Zt5:=mk 89 (a1 TY) [] LM [] (Wj UP) W4 W5 Tryz.f89 [⟨0,[hi 25 .int,hb 1 Pt,hb 16 t6]⟩] [Zhl,Zue,Zhq,Ms,FK]
def bm:=mk 36 (a3 (.Um 0 [41,2,2,2,2,2,2,2,0]) .int Xy) Om X1 Om (λa b=>DR b.1 b.2.1 a.2.1 a.2.2.1) OE OJ Tryz.f36 [] []
def vZ:=mk 55 (a3 Xr .int TY) Om .nl Om (λa b=>Uh b.1 b.2.1 a.2.1 a.2.2.1) xH we Tryz.f55 [⟨10014,H9⟩] [Zt5,bm]
def Zs4:=mk 54 (a3 Xr (.hole 1) tj) B24 LK B24 (λb a=>De a.1 a.2.1 a.2.2.1 a.2.2.2.1 b.2.2.1) Dh Dw Tryz.f54 [] [vZ,ZvD]
def Zs1:=mk 28 kO B25 LK B25 (λb a=>Jo a.1 a.2.1 a.2.2.1 a.2.2.2.1 b.2.1) Dh Dw Tryz.f28 [] [ZgK,Zs4,vZ]
def cK:=mk 56 Vo O8 Xs [] (Xd xD) Z2 Z3 Tryz.f56 [] [] (u:=true)
def cP:=mk 70 WH B7 (a1 RF) [] (WG xX) Z2 Z3 Tryz.f70 [⟨0,H10⟩] [zp] (u:=true)
def Ztv:=mk 71 Vo B7 TL [] (Xd gZ) Z2 Z3 Tryz.f71 [] [zp,v9,cU] (u:=true)
def ZuP:=mk 41 Vo B6 (a1 LA) [] (Xd nQ) Z2 Z3 Tryz.f41 [] [Ztv,cP] (u:=true)
def ZtM:=mk 108 Vo B8 (a2 Ee .int) B8 (Xd fO) QF QJ Tryz.f108 [] [Zg9,Zhe]
def ZtR:=mk 173 (a5 .int O4 UE Xx Xy) [] LM [] (λa _=>oc a.1 a.2.1 a.2.2.1 a.2.2.2.1 a.2.2.2.2.1) W4 W5 Tryz.f173 [⟨0,[hi 48 .int,hb 31 t6]⟩] [ba,Zhb,ub,Zhd,uc,Ms,Lt,JV]
def ZtS:=mk 109 (a3 Ee .int Xy) [] LM [] (O0 vi) W4 W5 Tryz.f109 [⟨1,[hi 11 .int,hb 47 t6]⟩] [ZtR,Zhf,Ms,Lt,JV]
def ZtL:=mk 69 ZaS B8 LM B8 (R9 pJ) QF QJ Tryz.f69 [] [cZ,ZtM,Zhg,ZtS,mn]
def ZtI:=mk 40 (a3 Xr .int LA) B8 (a2 MA .int) B8 (R9 pE) QF QJ Tryz.f40 [] [cW,ZtL]
def bn:=mk 12 Vo B6 (a2 MA .int) B6 (Xd D8) QF QJ Tryz.f12 [] [ZtI,JT,ZuP]
def ZuV:=mk 136 (a2 .int J6) [] LM [] (W2 nU) W4 W5 Tryz.f136 [⟨0,[hi 21 .int,hb 10 t6]⟩] [Cg,Ms,ul,JV]
def ZhS:=mk 137 Et B5 Xs B5 (Pu zZ) OE OJ Tryz.f137 [] [mu,ZhX]
def ZhT:=mk 138 WH B5 Xs B5 (λ_ a=>z8 a.1 a.2.1) OE OJ Tryz.f138 [] [mu,ZhY]
def ZuQ:=mk 92 (a3 Xr .int J6) sZ Xs sZ (λa b=>zn b.1 b.2.1 a.2.1 a.2.2.1) OE OJ Tryz.f92 [] [ZuV,ZhS,ZhT]
def ZhA:=mk 94 (a3 TY .int .int) [] yk [] (O0 FH) W4 W5 Tryz.f94 [] []
def cT:=mk 231 Vo B7 X1 [] (Xd xY) Z2 Z3 Tryz.f231 [] [zp] (u:=true)
def FJ:=mk 346 Vo S8 (a2 HE .bool) [] (Xd LD) W4 W5 Tryz.f346 [] [uh] (u:=true)
def Zth:=mk 307 (a2 .int yi) jE X1 [] (LF gO) Z2 Z3 Tryz.f307 [] [] (u:=true)
def Ztk:=mk 306 (a3 Xr .int (.fn 307 .nl lP)) B28 (a1 HV) [] (Pu qx) Z2 Z3 Tryz.f306 [⟨0,H11⟩,⟨10048,[hi 8 HV]⟩] [Zth,FJ] (u:=true)
def ZvQ:CO:=⟨_,ZxC⟩
def cM:=mk 349 Vo S8 TL [] (Xd GO) Z2 Z3 Tryz.f349 [] [FJ] (u:=true)
def Ztm:=mk 309 Vo S8 (a1 F9) [] (Xd gR) Z2 Z3 Tryz.f309 [] [cM,FJ] (u:=true)
def Ztg:=mk 232 tS S8 (a2 Ea .int) [] (R9 qw) W4 W5 Tryz.f232 [⟨0,[hi 11 ZjC,hi 34 .int]⟩] [Ztk,Ztm,ZvQ,ug] (u:=true)
def Ztx:=mk 141 Vo B7 (a1 Ea) [] (Xd Ap) Z2 Z3 Tryz.f141 [] [Ztg,cT] (u:=true)
def cO:=mk 142 Vo B7 (a1 Of) [] (Xd Dt) Z2 Z3 Tryz.f142 [] [cT,ZgY] (u:=true)
def Zhx:=mk 95 Vo B6 tU B6 (Xd D9) QF QJ Tryz.f95 [] [cO,Ztx,bn]
def ZuH:=mk 57 Vo sZ (a2 ti .int) sZ (Pu NA) Ak Au Tryz.f57 [⟨1,[hi 9 ZjD,hi 77 .int]⟩] [cZ,JT,Zhx,Zhy,ZuQ,Zhz,ZhA]
def Zs5:=mk 29 WH B30 LK B30 (λ_ a=>M5 a.1 a.2.1 a.2.2.1 a.2.2.2.1) Dh Dw Tryz.f29 [⟨0,hi 73 .int::H9⟩,⟨2,[hi 90 .int,hb 1006 OW,hb 0 SC,hb 10 Pt]⟩] [cK,vZ,JT,ZuH,bn]
def mh:=mk 63 (a2 (.Um 0 [41,2,2,2,2,2,2,2,0]) .int) O8 X1 [] (Xd DS) Z2 Z3 Tryz.f63 [] [] (u:=true)
def Zhu:=mk 65 (a2 (.Um 0 [41,2,2,2,2,2,2,2,0]) .int) Om (a2 t23 .bool) [] (Pu oS) W4 W5 Tryz.f65 [] [mh] (u:=true)
def ZvK:CO:=⟨_,ZnN⟩
def Zht:=mk 32 (a2 (.Um 0 [41,2,2,2,2,2,2,2,0]) .int) O8 X1 O8 (Xd za) WP WQ Tryz.f32 [] [mh,ZvK]
def ZuA:=mk 58 (a2 (.Um 0 [41,2,2,2,2,2,2,2,0]) .int) Om (a2 t23 .bool) Om (Pu dG) Ak Au Tryz.f58 [] [Zht,Zhu] (sp:=[16])
def mg:=mk 234 WH Uq .nl Uq (WG DL) Ui Ul Tryz.f234 [] [Lr]
def Zhm:=mk 143 WH Uq Xs Uq (WG SU) WP WQ Tryz.f143 [] [mg,Hx]
def Zt6:=mk 144 WH Uq Xs Uq (WG DK) WP WQ Tryz.f144 [] [mg,uk]
def bg:=mk 145 WH Uq Tf Uq (WG Ml) WP WQ Tryz.f145 [] [uj]
def Cb:=mk 148 WH Uq TL Uq (WG P7) WP WQ Tryz.f148 [] [Lr]
def Zhr:=mk 156 (a2 Xr (.fn 148 J7 .nl)) Uq (a1 RF) Uq (WG vu) WP WQ Tryz.f156 [⟨0,hi 5 t4::y9⟩] [Cb,Cd,JU]
def Zuc:=mk 147 WH Uq (a1 J3) Uq (WG oy) WP WQ Tryz.f147 [] [Zhr]
def Zwc:=mk 311 WH B3 Xs B3 (WG kH) WP WQ Tryz.f311 [] [Cf]
def bf:=mk 239 WH Uq (a1 RE) Uq (WG AX) WP WQ Tryz.f239 [] [mg,Cb,zr,Zwc]
def Zub:=mk 238 WH Uq (a1 te) Uq (WG di) WP WQ Tryz.f238 [] [Cb,bf]
def Zun:=mk 237 (a2 Xr (.fn 238 J7 .nl)) Uq (a1 aP) Uq (WG dk) WP WQ Tryz.f237 [⟨0,hi 5 ZjF::y9⟩] [Zub,Cd,JU]
def Zt9:=mk 149 WH Uq (a1 LB) Uq (WG dh) WP WQ Tryz.f149 [⟨10029,jP⟩,⟨10021,jP⟩,⟨10019,jP⟩] [mg,Cb,bf,Zun,uk]
def Zhn:=mk 151 WH Uq (a1 J8) Uq (WG oz) WP WQ Tryz.f151 [] [Cb,Zhm,bg]
def Zuk:=mk 150 (a2 Xr (.fn 151 J7 .nl)) Uq (a1 RD) Uq (WG oC) WP WQ Tryz.f150 [⟨0,hi 5 aZ::y9⟩] [Zhn,Cd,JU]
def Zua:=mk 153 WH Uq (a1 F9) Uq (WG ox) WP WQ Tryz.f153 [] [Cb,bf,Zh2]
def Zul:=mk 152 (a2 Xr (.fn 153 J7 .nl)) Uq (a1 Ea) Uq (WG oD) WP WQ Tryz.f152 [⟨0,hi 5 ZjC::y9⟩] [Zua,Cd,JU]
def Zt8:=mk 155 WH Uq (a1 Cu) Uq (WG de) WP WQ Tryz.f155 [] [bg,Zhn]
def Zum:=mk 154 (a2 Xr (.fn 155 J7 .nl)) Uq (a1 Of) Uq (WG oE) WP WQ Tryz.f154 [⟨0,hi 5 tm::y9⟩] [Zt8,Cd,JU]
def Zt7:=mk 99 (a3 Xr (.hole 1) .int) B32 .nl B32 (λb a=>RZ a.1 a.2.1 b.2.2.1) xH we Tryz.f99 [⟨10128,Q7⟩,⟨10119,Q7⟩,⟨10110,Q7⟩,⟨10101,Q7⟩,⟨10094,Q7⟩,⟨10087,Q7⟩,⟨10080,Q7⟩,⟨10073,Q7⟩,⟨10063,Q7⟩,⟨10056,Q7⟩,⟨10049,Q7⟩,⟨10042,Q7⟩,⟨10035,Q7⟩,⟨10028,Q7⟩,⟨10021,Q7⟩,⟨10014,Q7⟩,⟨10007,Q7⟩] [Zg8,Zt6,Cb,Zhm,Zt9,bg,Zuc,Zhr,Zuk,Zul,Zum]
def Zt4:=mk 59 Tf [] tU [] (Wj RY) W4 W5 Tryz.f59 [⟨0,[hi 27 .int,hb 5 Pt,hb 12 Cs]⟩] [Zhl,Zt7,Zhq,Kv,Ce,uk]
def cG:=mk 159 (a2 Xy Xy) [] X1 [] (W2 Da) Z2 Z3 Tryz.f159 [] []
def ZuM:=mk 158 (a2 Ed yi) jF X1 [] (LF nN) Z2 Z3 Tryz.f158 [] [cG] (u:=true)
def ZvO:=mk 242 (a2 J6 ZjM) jF Xs [] (LF aH) Z2 Z3 Tryz.f242 [⟨0,[hi 8 .int]⟩] [ZuM] (u:=true)
def ZvH:=mk 157 (a2 J6 ZjM) jF X1 [] (LF lF) Z2 Z3 Tryz.f157 [] [ZvO] (u:=true)
def ZuL:=mk 101 KH B6 yk B6 (Xd Hv) QF QJ Tryz.f101 [⟨0,[hi 76 .int,hb 4 Pt]⟩] [ZhA,ZvH]
def ZuN:=mk 101 kM [] yk [] (λa _=>nO a.2.1) W4 W5 Tryz.f101 [⟨0,[hi 76 .int,hb 3 Pt,hb 4 Pt]⟩] []
def cL:=mk 102 KH Om .nl Om (Pu RU) xH we Tryz.f102 [⟨10016,[hb 1006 OW,hb 0 SC,hb 3 Pt]⟩] [vZ]
def ZuJ:=mk 160 (a4 TY .int yi (.hole 501)) B34 .nl B34 (λa b=>vU b.1 b.2.1 a.1 a.2.1) xH we Tryz.f160 [⟨10007,[hb 3 a9,hb 4 Pt]⟩] []
def ZuO:=mk 161 WH B6 tU B6 (WG zm) QF QJ Tryz.f161 [⟨0,[hi 7 .int,hb 6 (.own Zzk)]⟩] [cO,cP,JT,bn]
def ZuI:=mk 103 KH B6 (a1 ti) B6 (Xd FG) WP WQ Tryz.f103 [⟨1,hi 7 .int::jQ⟩,⟨10034,jQ⟩,⟨10042,jQ⟩] [JT,ZuJ,ZuO,Zhx]
def ZuK:=mk 103 kM [] (a1 ti) [] (λa _=>nL a.2.1) Z2 Z3 Tryz.f103 [⟨1,hi 7 .int::rE⟩,⟨10034,rE⟩,⟨10042,rE⟩] []
def Zs8:=mk 60 KH B35 .nl B35 (λb a=>IY a.1 a.2.1 a.2.2.1 b.2.1) ZnH ZoJ Tryz.f60 [⟨10017,[hb 1006 OW,hb 0 SC,hb 4 Pt]⟩,⟨0,hi 28 .int::H9⟩] [cL,ZuI,ZuK,ZuL,ZuN]
def ZhM:=mk 351 (a3 RF .int .int) [] (a1 RF) [] (O0 Cz) Z2 Z3 Tryz.f351 [] [Zg1]
def ZvV:=mk 313 (a2 RF .int) [] kP [] (W2 lY) W4 W5 Tryz.f313 [] [ZhM]
def Ztt:=mk 243 tS B7 kP [] (R9 gY) W4 W5 Tryz.f243 [⟨10012,[hi 12 .bool]⟩,⟨10012,[hi 12 .bool]⟩] [v9,ZvV] (u:=true)
def ZvU:=mk 314 (a2 RF .int) [] kP [] (W2 lX) W4 W5 Tryz.f314 [] [ZhM]
def Ztw:=mk 244 tS B7 kP [] (R9 fa) W4 W5 Tryz.f244 [⟨10012,[hi 12 .bool]⟩,⟨10012,[hi 12 .bool]⟩] [v9,ZvU] (u:=true)
def Zu2:=mk 353 Vo S8 TL [] (Xd vY) Z2 Z3 Tryz.f353 [] [FJ] (u:=true)
def Zu0:=mk 315 (a3 Xr .int Xx) S8 (a2 LB .int) [] (R9 nW) W4 W5 Tryz.f315 [⟨0,[hi 1 .int,hb 10 (.own Zzl)]⟩,⟨10074,[hi 13 .int,hi 14 .int]⟩] [zq,mj,Zu2,FJ,ug] (u:=true)
def ZgG:=mk 258 (a2 RD .int) [] (a1 RD) [] (W2 qm) Z2 Z3 Tryz.f258 [⟨0,[hi 5 .int]⟩] []
def Ztz:=mk 245 (a3 Xr Xy .int) B7 (a2 Zae .int) [] (R9 fe) W4 W5 Tryz.f245 [⟨10011,[hi 11 .bool]⟩,⟨10011,[hi 11 .bool]⟩] [cH,ZgG,cQ,cT,Zu0] (u:=true)
def Zvd:=mk 162 (a3 Xr (.hole 1) Xy) B36 Xs B36 (λb a=>uC a.1 a.2.1 b.2.2.1) OE OJ Tryz.f162 [⟨10022,[hi 8 .int]⟩] [Ztt,Ztw,Ztz,uf]
def Zu4:=mk 104 KH NT yk NT (Xd mK) QF QJ Tryz.f104 [] [Zvd]
def ZhG:=mk 246 (a2 Xx Of) [] LM [] (W2 uD) W4 W5 Tryz.f246 [⟨0,[hi 22 .int,hb 10 t6]⟩] [Cg,Ms,Lt,ul,JV,FK]
def ZhH:=mk 247 (a1 MA) [] LM [] (Wj mN) W4 W5 Tryz.f247 [] [Zg7,Ms,FK]
def ZhD:=mk 248 Vo NT Xs NT (Xd uz) WP WQ Tryz.f248 [] []
def ZhF:=mk 249 (a3 Xr MC MA) NT .nl NT (R9 uB) Ui Ul Tryz.f249 [] []
def ZvJ:CO:=⟨_,ZdG (t:=TY) ZV (λ_ _ _ _ a=>SZ rfl a) λd g e f v b c=>Go.Sl.ZmZ b c⟩
def Zhv:=mk 390 (a2 RE .int) [] (a2 RE .bool) [] (W2 vS) W4 W5 Tryz.f390 [⟨10024,[hb 2 ZjG]⟩] [zr]
def Zhw:=mk 391 (a2 RE RE) [] X1 [] (W2 zl) Z2 Z3 Tryz.f391 [] [zr,mj]
def Zv2:=mk 376 (a4 Xr RE .int .int) S8 X1 [] (Eg tz) Z2 Z3 Tryz.f376 [] [Zhv,Zhw,FJ,ZhQ] (u:=true)
def ZhO:=mk 354 (a2 Xr HE) S8 Il S8 (Xd tx) QF QJ Tryz.f354 [] [bp,Zv2]
def Zts:=mk 318 WH B7 (a1 MC) [] (WG qR) Z2 Z3 Tryz.f318 [⟨0,[hi 23 .int,hb 17 MC]⟩,⟨2,[hi 55 .int,hb 17 MC]⟩] [me,ZhO,FJ,uh] (u:=true)
def ZtA:=mk 356 (a4 Xr .int Xx Xx) B7 X1 [] (Eg qT) Z2 Z3 Tryz.f356 [] [v9,cU,cX] (u:=true)
def Ztf:=mk 377 Xs [] X1 [] (Wj gL) Z2 Z3 Tryz.f377 [] []
def Ztl:=mk 306 (a3 Xr .int (.fn 377 .nl .nl)) S8 (a1 HV) [] (Xd qy) Z2 Z3 Tryz.f306 [⟨0,H11⟩,⟨10048,[hi 8 HV]⟩] [Ztf,FJ] (u:=true)
def Ztj:=mk 392 (a2 Xr F9) jG (a2 HE .bool) [] (Pu gQ) W4 W5 Tryz.f392 [] [] (u:=true)
def Zti:=mk 378 (a2 Xr F9) jG Il jG (Pu gP) Ak Au Tryz.f378 [] [cM,Ztj,ZhO]
def Zte:=mk 357 (a4 Xr .int Ea Xx) S8 Il S8 (Eg qv) QF QJ Tryz.f357 [⟨0,hi 37 .int::H17⟩,⟨2,hi 1 .int::hi 52 .int::H17⟩] [cM,Zti,Ztl,ug]
def Ztr:=mk 319 (a4 Xr LA Ea Of) B7 Xs B7 (Eg qQ) WP WQ Tryz.f319 [] [Zte,cR,ZtA,cS,ZgW,ZgX,uh]
def Zvf:=mk 251 KH NT (a2 ZjK .int) [] (Xd bH) W4 W5 Tryz.f251 [] [Ztr,Zts] (u:=true)
def ZhC:=mk 165 KH Gg Xs Gg (Pu uy) OE OJ Tryz.f165 [⟨0,hi 46 .int::jR⟩] [ZhD,ZhF,Zvf,ZhG,ZhH,ZhS,ZhT]
def ZhE:=mk 166 WH Gg Xs Gg (λ_ a=>uA a.1 a.2.1) OE OJ Tryz.f166 [⟨0,hi 2 .int::jR⟩,⟨2,hi 2 .int::hi 11 .int::hi 9 ti::jR⟩] [uf,ZhC,ZvJ] (sp:=[49])
def Zu9:=mk 163 KH Gg Xs Gg (Pu mM) OE OJ Tryz.f163 [⟨0,[hi 7 t3,hi 30 .int]⟩] [ZgU,cO,cP,ZhD,ZhE,ZhF,ZhG,ZhH,ZhU]
def Zvb:=mk 317 (a2 TY yi) jE X1 [] (LF bE) Z2 Z3 Tryz.f317 [] [] (u:=true)
def ZvN:=mk 316 (a2 ti (.fn 317 .nl lP)) jE Xs [] (LF Zi8) Z2 Z3 Tryz.f316 [⟨0,[hi 8 .int]⟩] [Zvb] (u:=true)
def Zva:=mk 250 Vo NT Xs [] (Xd bD) Z2 Z3 Tryz.f250 [] [ZvN] (u:=true)
def Zve:=mk 164 KH NT Xs NT (Xd bG) WP WQ Tryz.f164 [] [Zva]
def Zu6:=mk 105 KH Gg Xs Gg (Pu mL) OE OJ Tryz.f105 [⟨10006,[hi 6 .bool]⟩,⟨10017,[hi 17 .bool]⟩] [cY,uf,ZhC,Zu9,ZhE,Zve]
def Zs9:=mk 61 (a3 Xr (.hole 1) TY) B39 .nl B39 (λb a=>qp a.1 a.2.1 a.2.2.1 a.2.2.2.1 b.2.2.1) ZnI ZoK Tryz.f61 [⟨10017,jS⟩] [cL,Zu4,Zu6]
def Zu5:=mk 104 kM [] yk [] (λa _=>Zil a.2.1) W4 W5 Tryz.f104 [] []
def Zu7:=mk 105 kM [] Xs [] (λa _=>Zim a.2.1) Z2 Z3 Tryz.f105 [⟨10006,[hi 6 .bool]⟩,⟨10017,[hi 17 .bool]⟩] []
def Zta:=mk 61 (a3 Xr .Ub TY) Om .nl Om (λb a=>qq a.1 a.2.1 b.2.2.1) xH we Tryz.f61 [⟨10017,jS⟩] [cL,Zu5,Zu7]
def ZvC:=mk 167 Vo Iu .nl Iu (Xd au) Ui Ul Tryz.f167 [⟨10005,[hb 0 tf]⟩] []
def ZsZ:=mk 106 (a3 Xr (.hole 1) TY) B40 LK B40 (λb a=>Dd a.1 a.2.1 a.2.2.1 b.2.2.1) Zdz Zeh Tryz.f106 [] [ZvC]
def ZvE:=mk 254 KH Iu X1 [] (Xd lw) Z2 Z3 Tryz.f254 [] [] (u:=true)
def ZvF:=mk 321 WH Iu TL [] (WG aw) Z2 Z3 Tryz.f321 [] [cV] (u:=true)
def ZtB:=mk 379 (a2 HB HB) [] (a2 HB .int) [] (W2 pm) W4 W5 Tryz.f379 [⟨0,[hi 6 zJ,hi 32 .int]⟩,⟨2,[hi 6 zJ,hi 9 .int,hi 44 .int]⟩] [ZgZ,Zg2,Zg4,Zg5]
def ZhN:=mk 358 (a2 Xx (.sl HB)) [] X1 [] (W2 tw) Z2 Z3 Tryz.f358 [⟨0,[hi 18 .int,hb 5 (.own HB)]⟩] [ZtB,cV]
def ZvX:=mk 320 (a5 J3 .int .int Xx Xx) [] X1 [] (λa _=>Zau a.1 a.2.1 a.2.2.1 a.2.2.2.1 a.2.2.2.2.1) Z2 Z3 Tryz.f320 [] [ZhN] (sp:=[15,20,37])
def ZvW:=mk 322 (a5 J3 .int .int Xx Xx) [] X1 [] (λa _=>Zat a.1 a.2.1 a.2.2.1 a.2.2.2.1 a.2.2.2.2.1) Z2 Z3 Tryz.f322 [] [ZhN]
def ZuZ:=mk 380 (a2 LB Xx) [] X1 [] (W2 nV) Z2 Z3 Tryz.f380 [⟨0,[hi 13 .int,hb 5 ZjG]⟩] [zq,Zhv,mj,Zhw]
def ZhB:=mk 394 (a3 RE Xx Xx) [] Tf [] (O0 vX) Z2 Z3 Tryz.f394 [] [bq]
def ZuY:=mk 393 (a1 LB) [] (a2 Xy .bool) [] (Wj cC) W4 W5 Tryz.f393 [] [mf,ZhB,bq]
def Zu1:=mk 381 (a2 LB Xx) [] (a1 Ky) [] (W2 nX) Z2 Z3 Tryz.f381 [⟨0,[hi 5 Xy,hi 7 t3,hi 8 .int]⟩,⟨10040,[hi 5 Xy]⟩] [JS,zq,ZuY,ZhB]
def ZuX:=mk 359 (a3 LB Xx Xx) [] (a3 Xx .bool .bool) [] (O0 cB) Aj As Tryz.f359 [] [JS,ZuZ,Zu1]
def ZsT:=mk 360 (a3 Xy RD Xx) [] X1 [] (O0 iY) Z2 Z3 Tryz.f360 [] [mc,md]
def Ztq:=mk 323 (a2 Xy Zae) [] X1 [] (W2 gX) Z2 Z3 Tryz.f323 [] [ZsT,cH,ZuX]
def ZvG:=mk 255 ZaT Iu X1 [] (R9 ax) Z2 Z3 Tryz.f255 [] [Ztq,cX,ZvF,ZvW,ZvX] (u:=true)
def ZvB:=mk 168 ZaT Iu (a2 Cr .int) Iu (R9 lu) QF QJ Tryz.f168 [⟨10036,[hi 10 .int]⟩,⟨10112,[hb 0 tf]⟩] [cY,ZvE,ZvG]
def Zuu:=mk 169 Tf B41 (a1 lN) B41 (LF dz) WP WQ Tryz.f169 [] []
def Zut:=mk 257 (a2 Xr Cr) jH X1 [] (Xd dy) Z2 Z3 Tryz.f257 [] [md] (u:=true)
def Zuw:=mk 260 (a2 J8 J8) [] X1 [] (W2 oJ) Z2 Z3 Tryz.f260 [] [cG]
def ZvL:=mk 259 (a3 RD RD (.fn 260 .nl .nl)) [] X1 [] (W2 aF) Z2 Z3 Tryz.f259 [⟨0,[hi 17 .int]⟩] [Zuw]
def Zuv:=mk 261 (a1 RD) [] (a1 aZ) [] (Wj vC) Z2 Z3 Tryz.f261 [⟨0,[hi 3 aZ,hi 8 .int]⟩] []
def Zus:=mk 170 (a2 Xr Cr) jH (a2 RD .int) jH (Xd oI) QF QJ Tryz.f170 [⟨10007,[hi 7 .bool]⟩,⟨10007,[hi 7 .bool]⟩] [cG,ZgG,Zut,Zuv,ZvL]
def Zs0:=mk 107 (a4 Xr .int (.hole 2) TY) B43 LK B43 (λb a=>Ae a.1 a.2.1 a.2.2.1 a.2.2.2.1 b.2.1 b.2.2.2.1) Dh Dw Tryz.f107 [⟨10075,[hi 11 lN,hb 1004 Ec,hb 2 zL,hb 9 (.own Cr)]⟩] [cK,Zus,Zuu,ZvB]
def Zs7:=mk 62 (a3 Xr .int TY) B44 LK B44 (λb a=>IX a.1 a.2.1 a.2.2.1 a.2.2.2.1 b.2.1 b.2.2.1) Dh Dw Tryz.f62 [] [ZsZ,Zs0,ZgK]
def Zs2:=mk 30 Vo Bl LK Bl (λb a=>Jp a.1 a.2.1 a.2.2.1 a.2.2.2.1 a.2.2.2.2.1 a.2.2.2.2.2.1 a.2.2.2.2.2.2.1 a.2.2.2.2.2.2.2.1 b.2.1) ZdB Zej Tryz.f30 [] [Zs7,Zs8,Zs9,Zta,Zt4,ZuA]
def ZgN:=mk 31 X1 [] LK [] (Wj IZ) Z2 Z3 Tryz.f31 [] []
def Zux:=mk 33 (a2 (.Um 0 [41,2,2,2,2,2,2,2,0]) .int) Om X1 Om (Pu oR) OE OJ Tryz.f33 [] [Zhu,bm] (sp:=[14])
def Zuz:=mk 34 (a3 (.Um 0 [41,2,2,2,2,2,2,2,0]) .int .int) O8 X1 O8 (R9 vF) WP WQ Tryz.f34 [] [mh]
def ZuB:=mk 35 (a4 (.Um 0 [41,2,2,2,2,2,2,2,0]) .int .int QW) Om X1 Om (λa b=>oT b.1 b.2.1 a.2.1 a.2.2.1 a.2.2.2.1) OE OJ Tryz.f35 [] [mh]
def ZsX:=mk 18 Vo O8 (a1 lM) [] (Xd i9) Z2 Z3 Tryz.f18 [] [] (u:=true)
def Zu8:=mk 66 Vo NT yk NT (Xd ux) QF QJ Tryz.f66 [] [uf]
def Ztb:=mk 37 Vo B46 LK B46 (λb a=>xE a.1 a.2.1 a.2.2.1 b.2.1) Zdz Zeh Tryz.f37 [⟨10023,jS⟩] [ZsX,cK,vZ,ZgN,Zu8]
def Zto:=mk 67 Vo B2 .nl B2 (Xd ZdJ) Ui Ul Tryz.f67 [⟨10005,[hb 0 Eb]⟩] []
def Ztn:=mk 68 (a2 Xr (.sl .int)) B2 .nl B2 (Xd Dl) Ui Ul Tryz.f68 [⟨0,[hi 14 .int,hi 12 t22,hb 0 Eb]⟩,⟨10022,[hi 6 .int]⟩] []
def Zs3:=mk 38 kO sX LK sX (λb a=>Jq a.1 a.2.1 a.2.2.1 a.2.2.2.1 b.2.1) Dh Dw Tryz.f38 [] [ZgL,Ztn,Zto]
def cI:=mk 9 kO Bl LK Bl (λb a=>UK a.1 a.2.1 a.2.2.1 a.2.2.2.1 a.2.2.2.2.1 a.2.2.2.2.2.1 a.2.2.2.2.2.2.1 a.2.2.2.2.2.2.2.1 b.2.1) ZdB Zej Tryz.f9 [⟨10026,[hi 26 .bool]⟩,⟨10026,[hi 26 .bool]⟩,⟨10077,[hi 5 QW]⟩,⟨10123,[hi 123 .bool]⟩] [Zs1,Zs2,Zs3,Zs5,Zs6,Ztb,ZgN,Zux,Zht,bm,Zuz,ZuB]
def Zuy:=mk 45 (a1 (.Um 0 [41,2,2,2,2,2,2,2,0])) O8 Xs [] (WG vE) Z2 Z3 Tryz.f45 [] [] (u:=true)
def cJ:=mk 22 WH O8 Xs [] (WG Ka) Z2 Z3 Tryz.f22 [] [Zuy] (u:=true)
def Zvw:=mk 6 .nl rc X1 rc (λ_ a=>uH a.1 a.2.1 a.2.2.1 a.2.2.2.1 a.2.2.2.2.1 a.2.2.2.2.2.1 a.2.2.2.2.2.2.1) ZdA Zei Tryz.f6 [] [cI,cJ,ZgJ,ZgM,JT,ZhI]
def ZhJ:=mk 205 (a2 QX .int) [] Tf [] (W2 uG) Z2 Z3 Tryz.f205 [⟨0,[hi 0 QX,hi 5 MF,hi 7 .int]⟩,⟨2,[hi 6 MF,hi 8 .int]⟩] []
def Zvq:=mk 132 kN [] Tf [] (W2 bQ) Z2 Z3 Tryz.f132 [⟨0,[hi 5 MF,hi 6 .int]⟩] [ZhJ]
def Zvn:=mk 202 .nl [] (a1 yj) [] (λ_ _=>bP) Z2 Z3 Tryz.f202 [] []
def Zvm:=mk 203 Tf [] Tf [] (Wj bO) Z2 Z3 Tryz.f203 [⟨0,[hi 3 MF]⟩] [ZhJ]
def Zvk:=mk 332 Tf [] Er [] (Wj bM) Z2 Z3 Tryz.f332 [⟨0,[hi 3 QX,hi 4 .int]⟩] []
def ZhK:=mk 286 (a2 UE UE) [] (a1 UE) [] (W2 Mx) Z2 Z3 Tryz.f286 [] []
def Zvs:=mk 284 Tf [] (a1 kL) [] (Wj mR) Z2 Z3 Tryz.f284 [⟨0,[hi 4 .int,hb 3 t0]⟩,⟨2,[hi 5 .int,hb 3 t0]⟩] [Zvk,ZhK]
def Zvl:=mk 285 .nl [] (a1 kL) [] (λ_ _=>bN) Z2 Z3 Tryz.f285 [] []
def Zvr:=mk 204 (a2 yj Xy) [] (a1 yj) [] (W2 bR) Z2 Z3 Tryz.f204 [⟨0,[hi 8 .int,hb 7 t1]⟩,⟨2,[hi 13 .int,hb 2 t1]⟩] [Zvl,ZhK,Zvs]
def Zvo:=mk 131 Tf [] TL [] (Wj mQ) Z2 Z3 Tryz.f131 [⟨0,[hi 5 .int,hb 3 t1]⟩,⟨2,[hi 7 .int,hb 6 t2]⟩] [Zvm,Zvn,Zvr]
def Zvp:=mk 87 kN [] TL [] (W2 Zis) Z2 Z3 Tryz.f87 [] [Zvo,Zvq]
def Zvt:=mk 51 Tf [] TL [] (Wj bS) Z2 Z3 Tryz.f51 [] [Zvp]
def Zvj:=mk 15 (a2 Xy Xy) [] X1 [] (W2 bL) Z2 Z3 Tryz.f15 [⟨0,[hi 5 .int]⟩] []
def Zvu:=mk 26 (a1 Ky) [] X1 [] (Wj mS) Z2 Z3 Tryz.f26 [⟨0,H10⟩,⟨2,[hi 5 .int]⟩] [Zvj,Zvt]
def Zvv:=mk 7 (a2 ZjN .int) [] X1 [] (W2 mT) Z2 Z3 Tryz.f7 [⟨0,[hi 5 t3,hi 6 .int]⟩] [Zvu] (sp:=[11,24,33,54])
def Zvx:=mk 8 .nl sY (a1 SC) sY (λ_ a=>mV a.1 a.2.1 a.2.2.1 a.2.2.2.1 a.2.2.2.2.1) ZnJ ZoL Tryz.f8 [] [ZgM,ZhI]
def Zvy:=mk 16 (a1 tj) [] X1 [] (Wj bU) Z2 Z3 Tryz.f16 [] []
def Zvz:=mk 17 WH Bl .nl Bl (λ_ a=>mW a.1 a.2.1 a.2.2.1 a.2.2.2.1 a.2.2.2.2.1 a.2.2.2.2.2.1 a.2.2.2.2.2.2.1 a.2.2.2.2.2.2.2.1) ZnL ZoN Tryz.f17 [⟨0,H26⟩,⟨2,hi 2 .int::H26⟩] [cI,cJ]
def ZsY:=mk 23 WH O8 (a1 Zzr) [] (WG ga) Z2 Z3 Tryz.f23 [] [] (u:=true)
def bo:=mk 5 (a2 ZjN QW) rc X1 rc (λb a=>bT a.1 a.2.1 a.2.2.1 a.2.2.2.1 a.2.2.2.2.1 a.2.2.2.2.2.1 a.2.2.2.2.2.2.1 b.1 b.2.1) ZdA Zei Tryz.f5 [⟨0,hi 6 .int::rF⟩,⟨10078,rF⟩,⟨10093,hi 9 .int::rF⟩,⟨2,hi 9 .int::hi 10 .int::rF⟩,⟨4,[hi 12 .int]⟩] [cI,cJ,ZgJ,ZsY,JT,Zvv,Zvw,Zvx,Zvy,Zvz]
end
end Go.R
