set_option linter.unusedVariables false
namespace Go.Sl
def w64 (n:Int):Int:=(n+9223372036854775808) % 18446744073709551616 - 9223372036854775808
theorem JA {n:Int} (h : -9223372036854775808≤n∧n < 9223372036854775808):w64 n=n:=by unfold w64; omega
def Qiu (p q:Int):Int:=w64 ((BitVec.ofInt 64 p&&& BitVec.ofInt 64 q).toNat:Int)
def Qow (p q:Int):Int:=w64 ((BitVec.ofInt 64 p ^^^ BitVec.ofInt 64 q).toNat:Int)
def KD (p:Int) (n:Int):Int:=w64 (p*2^(min n.toNat 64))
def BX (p:Int) (n:Int):Int:=p.fdiv (2^(min n.toNat 64))
def JU {α:Type} (l:List α) (i:Int):Option α:=if 0≤i then l[i.toNat]? else none
def KI {α:Type}{n:Nat} (v:Vector α n) (i:Int):Option α:=if 0≤i then v[i.toNat]? else none
def JZ {α:Type} (l:List α) (lo hi:Int):Option (List α):=if 0≤lo∧lo≤hi∧hi≤l.length then some ((l.take hi.toNat).drop lo.toNat) else none
def QgC {α:Type} (n:Nat) (l:List α) (h:n≤l.length):Vector α n:=⟨(l.take n).toArray,by simp [Nat.min_eq_left h]⟩
theorem QaM {α:Type} (n:Nat) (l:List α) (h:n≤l.length):(QgC n l h).toList=l.take n:=by simp [QgC]
def WT {α:Type} (n:Nat) (l:List α):Option (Vector α n):=if h:n≤l.length then some (QgC n l h) else none
def QjN {α:Type}{n:Nat} (v:Vector α n) (lo:Nat) (l:List α):Vector α n:=
 if h:lo+l.length≤n then ⟨(v.toList.take lo++l++v.toList.drop (lo+l.length)).toArray,by simp; omega⟩ else v
theorem Qer {α:Type}{n:Nat} (v:Vector α n) (lo:Nat) (l:List α) (h:lo+l.length≤n):(QjN v lo l).toList=v.toList.take lo++l++v.toList.drop (lo+l.length):=by
 unfold QjN; rw [dif_pos h]; simp
inductive LR (σ ρ:Type) where
 | next (s:σ)
 | brk (s:σ)
 | ret (r:ρ)
def Yf {σ ρ:Type} (f:σ→Option (LR σ ρ)):Nat→σ→Option (σ ⊕ ρ)
 | 0,_=>none
 | n+1,s=>match f s with
  | none=>none
  | some (.next s')=>Yf f n s'
  | some (.brk s')=>some (.inl s')
  | some (.ret r)=>some (.inr r)
def Jd {σ:Type} (f:σ→Option (LR σ Empty)) (n:Nat) (s:σ):Option σ:=
 match Yf f n s with
 | none=>none
 | some (.inl s')=>some s'
 | some (.inr e)=>e.elim
theorem Qjm {σ:Type}{f:σ→Option (LR σ Empty)}{n:Nat}{s s':σ} (h:Jd f n s=some s'):∃o,Yf f n s=some o∧o = .inl s':=by
 unfold Jd at h
 split at h
 ·cases h
 ·rename_i s2 he; cases h; exact ⟨_,he,rfl⟩
 ·rename_i e _; exact e.elim
def FU : Nat:=4611686018427387904
def AP : Nat:=4294967296
theorem bind_some {α β:Type}{o:Option α}{f:α→Option β}{r:β} (h:Option.bind o f=some r):∃x,o=some x∧f x=some r:=Option.bind_eq_some_iff.1 h
theorem QK {α:Type}{c:Prop} [Decidable c]{x:Option α}{r:α} (h:(if c then x else none)=some r):c∧x=some r:=by
 by_cases hc:c
 ·rw [if_pos hc] at h; exact ⟨hc,h⟩
 ·rw [if_neg hc] at h; cases h
theorem bt {α:Type}{b:Bool}{x y r:α} (hb:b=true) (h:(if b=true then x else y)=r):x=r:=by rwa [if_pos hb] at h
theorem bf {α:Type}{b:Bool}{x y r:α} (hb:b=false) (h:(if b=true then x else y)=r):y=r:=by rwa [if_neg (by rw [hb]; decide)] at h
theorem Q0 {α:Type}{l:List α}{i:Int}{x:α} (h:JU l i=some x):0≤i∧∃hi:i.toNat < l.length,l[i.toNat]=x:=by
 unfold JU at h
 split at h
 ·rename_i h0; obtain ⟨h1,h2⟩:=List.getElem?_eq_some_iff.1 h; exact ⟨h0,h1,h2⟩
 ·cases h
theorem Jf {α:Type}{n:Nat}{v:Vector α n}{i:Int}{x:α} (h:KI v i=some x):0≤i∧∃hi:i.toNat < n,v[i.toNat]=x:=by
 unfold KI at h
 split at h
 ·rename_i h0; obtain ⟨h1,h2⟩:=Vector.getElem?_eq_some_iff.1 h; exact ⟨h0,h1,h2⟩
 ·cases h
theorem Qbq {α:Type}{l r:List α}{lo hi:Int} (h:JZ l lo hi=some r):0≤lo∧lo≤hi∧hi≤l.length∧(l.take hi.toNat).drop lo.toNat=r:=by
 obtain ⟨⟨h0,h1,h2⟩,h3⟩:=QK h;exact ⟨h0,h1,h2,Option.some.inj h3⟩
theorem QhG {α:Type}{n:Nat}{l:List α}{v:Vector α n} (h:WT n l=some v):∃hl:n≤l.length,QgC n l hl=v:=by
 unfold WT at h
 split at h
 ·rename_i hl; exact ⟨hl,Option.some.inj h⟩
 ·cases h
end Go.Sl
set_option maxRecDepth 100000
namespace Go.Sl
namespace M
abbrev J8 : Type:=Int×Int×Int
abbrev JD : Type:=Vector (BitVec 32) 8
abbrev Qa : Type:=Vector (BitVec 8) 32
abbrev QX : Type:=Vector (BitVec 8) 16
abbrev QF : Type:=Int×Int×QX×Qa×(List Qa)
abbrev Qg9 : Type:=Int×Int×Qa×(Option QF)×(Option QF)×Int
abbrev Za : Type:=Int×Int×Qa×Qa
abbrev Qy : Type:=Za×(List (BitVec 8))
abbrev Zi : Type:=Int×Int×Qa×Qa
abbrev Qf7 : Type:=(List (BitVec 8))×Bool
abbrev BC : Type:=Int×(List (BitVec 8))×(List Qa)
abbrev QC : Type:=Qy×Qy
abbrev QU : Type:=Int×Int
abbrev ZJ : Type:=(List (BitVec 8))×(List Qy)×(List QC)×(List QU)
abbrev QE : Type:=Int×Int×(List Qa)
abbrev QP : Type:=Int×Int×Qa
abbrev Xe : Type:=(List Qa)×(List Qa)
abbrev Zt : Type:=(List Qa)×(List Qa)
abbrev Zw : Type:=Int×Zi×Bool×Int×Int×Zt
abbrev Qp : Type:=Zi×(List (BitVec 8))
abbrev QW : Type:=Qp×Qp
abbrev JR : Type:=(List (BitVec 8))×(List Qp)×(List QW)×(List (Vector Int 2))
abbrev Jq : Type:=Int×Int×(List Qa)
def S_0 : List (BitVec 8):= [0#8,1#8,2#8,2#8,3#8,3#8,3#8,3#8,4#8,4#8,4#8,4#8,4#8,4#8,4#8,4#8,5#8,5#8,5#8,5#8,5#8,5#8,5#8,5#8,5#8,5#8,5#8,5#8,5#8,5#8,5#8,5#8,6#8,6#8,6#8,6#8,6#8,6#8,6#8,6#8,6#8,6#8,6#8,6#8,6#8,6#8,6#8,6#8,6#8,6#8,6#8,6#8,6#8,6#8,6#8,6#8,6#8,6#8,6#8,6#8,6#8,6#8,6#8,6#8,7#8,7#8,7#8,7#8,7#8,7#8,7#8,7#8,7#8,7#8,7#8,7#8,7#8,7#8,7#8,7#8,7#8,7#8,7#8,7#8,7#8,7#8,7#8,7#8,7#8,7#8,7#8,7#8,7#8,7#8,7#8,7#8,7#8,7#8,7#8,7#8,7#8,7#8,7#8,7#8,7#8,7#8,7#8,7#8,7#8,7#8,7#8,7#8,7#8,7#8,7#8,7#8,7#8,7#8,7#8,7#8,7#8,7#8,7#8,7#8,7#8,7#8,7#8,7#8,8#8,8#8,8#8,8#8,8#8,8#8,8#8,8#8,8#8,8#8,8#8,8#8,8#8,8#8,8#8,8#8,8#8,8#8,8#8,8#8,8#8,8#8,8#8,8#8,8#8,8#8,8#8,8#8,8#8,8#8,8#8,8#8,8#8,8#8,8#8,8#8,8#8,8#8,8#8,8#8,8#8,8#8,8#8,8#8,8#8,8#8,8#8,8#8,8#8,8#8,8#8,8#8,8#8,8#8,8#8,8#8,8#8,8#8,8#8,8#8,8#8,8#8,8#8,8#8,8#8,8#8,8#8,8#8,8#8,8#8,8#8,8#8,8#8,8#8,8#8,8#8,8#8,8#8,8#8,8#8,8#8,8#8,8#8,8#8,8#8,8#8,8#8,8#8,8#8,8#8,8#8,8#8,8#8,8#8,8#8,8#8,8#8,8#8,8#8,8#8,8#8,8#8,8#8,8#8,8#8,8#8,8#8,8#8,8#8,8#8,8#8,8#8,8#8,8#8,8#8,8#8,8#8,8#8,8#8,8#8,8#8,8#8,8#8,8#8,8#8,8#8,8#8,8#8]
def U8 : Vector J8 5:=#v[(0,0,0),(1,265,7),(2,133,6),(4,67,4),(8,34,0)]
def Ye : JD:=#v[1779033703#32,3144134277#32,1013904242#32,2773480762#32,1359893119#32,2600822924#32,528734635#32,1541459225#32]
def X7 : Vector (BitVec 32) 64:=#v[1116352408#32,1899447441#32,3049323471#32,3921009573#32,961987163#32,1508970993#32,2453635748#32,2870763221#32,3624381080#32,310598401#32,607225278#32,1426881987#32,1925078388#32,2162078206#32,2614888103#32,3248222580#32,3835390401#32,4022224774#32,264347078#32,604807628#32,770255983#32,1249150122#32,1555081692#32,1996064986#32,2554220882#32,2821834349#32,2952996808#32,3210313671#32,3336571891#32,3584528711#32,113926993#32,338241895#32,666307205#32,773529912#32,1294757372#32,1396182291#32,1695183700#32,1986661051#32,2177026350#32,2456956037#32,2730485921#32,2820302411#32,3259730800#32,3345764771#32,3516065817#32,3600352804#32,4094571909#32,275423344#32,430227734#32,506948616#32,659060556#32,883997877#32,958139571#32,1322822218#32,1537002063#32,1747873779#32,1955562222#32,2024104815#32,2227730452#32,2361852424#32,2428436474#32,2756734187#32,3204031479#32,3329325298#32]
def Kg : Vector (BitVec 8) 32:=#v[0#8,1#8,28#8,2#8,29#8,14#8,24#8,3#8,30#8,22#8,20#8,15#8,25#8,17#8,4#8,8#8,31#8,27#8,13#8,23#8,21#8,19#8,16#8,7#8,26#8,12#8,18#8,6#8,11#8,5#8,10#8,9#8]
def Z6 : Vector (BitVec 8) 64:=#v[0#8,1#8,56#8,2#8,57#8,49#8,28#8,3#8,61#8,58#8,42#8,50#8,38#8,29#8,17#8,4#8,62#8,47#8,59#8,36#8,45#8,43#8,51#8,22#8,53#8,39#8,33#8,30#8,24#8,18#8,12#8,5#8,63#8,55#8,48#8,27#8,60#8,41#8,37#8,16#8,46#8,35#8,44#8,21#8,52#8,32#8,23#8,11#8,54#8,26#8,40#8,15#8,34#8,20#8,31#8,10#8,25#8,14#8,19#8,9#8,13#8,8#8,7#8,6#8]
def Wb (p_kind:Int):Option (J8×Bool):=
 Option.bind (if (decide (p_kind < (1:Int)))=true then (
 some true) else (
 some (decide ((4:Int) < p_kind)))) fun y1=>
 if (y1)=true then (
 some ((0,0,0),false)) else (
 Option.bind (KI U8 p_kind) fun x1=>
 some (x1,true))
def K6 (p_kind:Int):Option Int:=
 Option.bind (Wb p_kind) fun r1=>
 some r1.1.2.1
def B0 (p_height:Int) (p_kind:Int):Option Bool:=
 Option.bind (if (decide ((1:Int)≤p_height))=true then (
 some (decide (p_height≤(4:Int)))) else (
 some false)) fun y1=>
 Option.bind (if (y1)=true then (
 Option.bind (K6 p_kind) fun r1=>
 some (decide ((0:Int) < r1))) else (
 some false)) fun y2=>
 some y2
def Ba (p_kind:Int):Option Int:=
 Option.bind (Wb p_kind) fun r1=>
 if (!r1.2)=true then (
 some (0:Int)) else (
 Option.bind (some (w64 ((4:Int)+(w64 ((32:Int)*(w64 ((1:Int)+r1.1.2.1))))))) fun x1=>
 some x1)
def WV (p_height:Int) (p_kind:Int):Option Int:=
 Option.bind (B0 p_height p_kind) fun r1=>
 if (!r1)=true then (
 some (0:Int)) else (
 Option.bind (Ba p_kind) fun r2=>
 Option.bind (some (w64 ((w64 ((8:Int)+r2))+(w64 ((32:Int)*p_height))))) fun x1=>
 some x1)
def JO (p_x:BitVec 32) (p_k:Int):Option (BitVec 32):=
 Option.bind (some ((p_x <<< (((BitVec.ofInt 64 p_k)&&& (31#64)).toNat)) ||| (p_x >>> (((32#64) - ((BitVec.ofInt 64 p_k)&&& (31#64))).toNat)))) fun x1=>
 some x1
def V1 (x1:List (BitVec 8)) (y1:Int) (y2:Vector (BitVec 32) 64):Option (LR (Int×(Vector (BitVec 32) 64)) Empty):=
 if (decide (y1 < (x1.length:Int)))=true then (
 Option.bind (JU x1 y1) fun x2=>
 Option.bind (KI y2 (w64 (Int.tdiv y1 (4:Int)))) fun x3=>
 if 0≤w64 (Int.tdiv y1 (4:Int))∧w64 (Int.tdiv y1 (4:Int)) < (64:Int) then (
 Option.bind (some ((y2.setIfInBounds ((w64 (Int.tdiv y1 (4:Int))).toNat) ((x3 <<< 8) ||| (x2.setWidth 32))))) fun x4=>
 some (.next (w64 (y1+(1:Int)),x4))) else none) else (
 some (.brk (y1,y2)))
def VU (y5:Int) (y6:Vector (BitVec 32) 64):Option (LR (Int×(Vector (BitVec 32) 64)) Empty):=
 if (decide (y5 < (64:Int)))=true then (
 Option.bind (KI y6 (w64 (y5 - (15:Int)))) fun x5=>
 Option.bind (JO x5 (-7:Int)) fun r1=>
 Option.bind (KI y6 (w64 (y5 - (15:Int)))) fun x6=>
 Option.bind (JO x6 (-18:Int)) fun r2=>
 Option.bind (KI y6 (w64 (y5 - (15:Int)))) fun x7=>
 Option.bind (KI y6 (w64 (y5 - (2:Int)))) fun x8=>
 Option.bind (JO x8 (-17:Int)) fun r3=>
 Option.bind (KI y6 (w64 (y5 - (2:Int)))) fun x9=>
 Option.bind (JO x9 (-19:Int)) fun r4=>
 Option.bind (KI y6 (w64 (y5 - (2:Int)))) fun x10=>
 Option.bind (KI y6 (w64 (y5 - (16:Int)))) fun x11=>
 Option.bind (KI y6 (w64 (y5 - (7:Int)))) fun x12=>
 if 0≤y5∧y5 < (64:Int) then (
 Option.bind (some ((y6.setIfInBounds y5.toNat (((x11+((r1 ^^^ r2) ^^^ (x7 >>> 3)))+x12)+((r3 ^^^ r4) ^^^ (x10 >>> 10)))))) fun x13=>
 some (.next (w64 (y5+(1:Int)),x13))) else none) else (
 some (.brk (y5,y6)))
def Wf (p_block:List (BitVec 8)):Option (Vector (BitVec 32) 64):=
 Option.bind (JZ p_block 0 (64:Int)) fun x1=>
 Option.bind (Jd (fun (s:Int×(Vector (BitVec 32) 64))=>V1 x1 s.1 s.2) FU ((0:Int),(Vector.replicate 64 (0#32)))) fun (s2:Int×(Vector (BitVec 32) 64))=>
 Option.bind (Jd (fun (s:Int×(Vector (BitVec 32) 64))=>VU s.1 s.2) FU ((16:Int),s2.2)) fun (s1:Int×(Vector (BitVec 32) 64))=>
 some s1.2
def ZT (r1:(Vector (BitVec 32) 64)) (y1:Int) (y2:JD):Option (LR (Int×JD) Empty):=
 if (decide (y1 < (64:Int)))=true then (
 Option.bind (JO (y2[4]) (-6:Int)) fun r2=>
 Option.bind (JO (y2[4]) (-11:Int)) fun r3=>
 Option.bind (JO (y2[4]) (-25:Int)) fun r4=>
 Option.bind (KI X7 y1) fun x1=>
 Option.bind (KI r1 y1) fun x2=>
 Option.bind (some (((((y2[7])+((r2 ^^^ r3) ^^^ r4))+((y2[6]) ^^^ ((y2[4])&&& ((y2[5]) ^^^ (y2[6])))))+x1)+x2)) fun x3=>
 Option.bind (JO (y2[0]) (-2:Int)) fun r5=>
 Option.bind (JO (y2[0]) (-13:Int)) fun r6=>
 Option.bind (JO (y2[0]) (-22:Int)) fun r7=>
 Option.bind (some (((r5 ^^^ r6) ^^^ r7)+(((y2[0])&&& (y2[1])) ||| ((y2[2])&&& ((y2[0]) ||| (y2[1])))))) fun x4=>
 Option.bind (some (#v[x3+x4,y2[0],y2[1],y2[2],(y2[3])+x3,y2[4],y2[5],y2[6]])) fun x5=>
 some (.next (w64 (y1+(1:Int)),x5))) else (
 some (.brk (y1,y2)))
def KN (y4:JD) (y5:Int) (y6:JD):Option (LR (Int×JD) Empty):=
 if (decide (y5 < (8:Int)))=true then (
 Option.bind (KI y6 y5) fun x6=>
 Option.bind (KI y4 y5) fun x7=>
 if 0≤y5∧y5 < (8:Int) then (
 some (.next (w64 (y5+(1:Int)),(y6.setIfInBounds y5.toNat (x6+x7))))) else none) else (
 some (.brk (y5,y6)))
def X4 (p_s:JD) (p_b:List (BitVec 8)):Option JD:=
 Option.bind (Wf p_b) fun r1=>
 Option.bind (Jd (fun (s:Int×JD)=>ZT r1 s.1 s.2) FU ((0:Int),p_s)) fun (s2:Int×JD)=>
 Option.bind (Jd (fun (s:Int×JD)=>KN s2.2 s.1 s.2) FU ((0:Int),p_s)) fun (s1:Int×JD)=>
 some s1.2
def UQ (y1:List (BitVec 8)) (y2:JD):Option (LR ((List (BitVec 8))×JD) Empty):=
 if (decide ((64:Int)≤(y1.length:Int)))=true then (
 Option.bind (X4 y2 y1) fun r1=>
 Option.bind (JZ y1 (64:Int) (y1.length:Int)) fun x1=>
 some (.next (x1,r1))) else (
 some (.brk (y1,y2)))
def WC (y5:Int) (p_b:List (BitVec 8)) (y6:Int) (y7:Vector (BitVec 8) 128):Option (LR (Int×(Vector (BitVec 8) 128)) Empty):=
 if (decide (y6 < (8:Int)))=true then (
 if 0≤w64 ((8:Int)*y6) then (
 if 0≤w64 ((w64 (y5 - (1:Int))) - y6)∧w64 ((w64 (y5 - (1:Int))) - y6) < (128:Int) then (
 Option.bind (some ((y7.setIfInBounds ((w64 ((w64 (y5 - (1:Int))) - y6)).toNat) ((((BitVec.ofInt 64 (p_b.length:Int)) <<< 3) >>> ((w64 ((8:Int)*y6)).toNat)).setWidth 8)))) fun x3=>
 some (.next (w64 (y6+(1:Int)),x3))) else none) else none) else (
 some (.brk (y6,y7)))
def Wv (y10:JD) (y11:Int) (y12:Qa):Option (LR (Int×Qa) Empty):=
 if (decide (y11 < (32:Int)))=true then (
 Option.bind (KI y10 (w64 (Int.tdiv y11 (4:Int)))) fun x4=>
 if 0≤w64 ((24:Int) - (w64 ((8:Int)*(Int.tmod y11 (4:Int))))) then (
 if 0≤y11∧y11 < (32:Int) then (
 Option.bind (some ((y12.setIfInBounds y11.toNat ((x4 >>> ((w64 ((24:Int) - (w64 ((8:Int)*(Int.tmod y11 (4:Int)))))).toNat)).setWidth 8)))) fun x5=>
 some (.next (w64 (y11+(1:Int)),x5))) else none) else none) else (
 some (.brk (y11,y12)))
def WP (p_b:List (BitVec 8)):Option Qa:=
 Option.bind (Jd (fun (s:(List (BitVec 8))×JD)=>UQ s.1 s.2) FU (p_b,Ye)) fun (s3:(List (BitVec 8))×JD)=>
 Option.bind (if (decide ((56:Int)≤(s3.1.length:Int)))=true then (
 some (128:Int)) else (
 some (64:Int))) fun y5=>
 if 0≤(s3.1.length:Int)∧(s3.1.length:Int) < (128:Int) then (
 Option.bind (some (((QjN (Vector.replicate 128 (0#8)) 0 (s3.1.take 128)).setIfInBounds ((s3.1.length:Int).toNat) (128#8)))) fun x2=>
 Option.bind (Jd (fun (s:Int×(Vector (BitVec 8) 128))=>WC y5 p_b s.1 s.2) FU ((0:Int),x2)) fun (s2:Int×(Vector (BitVec 8) 128))=>
 Option.bind (X4 s3.2 s2.2.toList) fun r2=>
 Option.bind (if (decide (y5=(128:Int)))=true then (
 Option.bind (X4 r2 ((s2.2.toList.drop 64).take 64)) fun r3=>
 some r3) else (
 some r2)) fun y10=>
 Option.bind (Jd (fun (s:Int×Qa)=>Wv y10 s.1 s.2) FU ((0:Int),(Vector.replicate 32 (0#8)))) fun (s1:Int×Qa)=>
 some s1.2) else none
def UX (p_parts:List (List (BitVec 8))) (y1:Int) (y2:Int):Option (LR (Int×Int) Empty):=
 if (decide (y2 < (p_parts.length:Int)))=true then (
 Option.bind (JU p_parts y2) fun x1=>
 Option.bind (some (w64 (y1+(w64 ((4:Int)+(x1.length:Int)))))) fun x2=>
 some (.next (x2,w64 (y2+(1:Int))))) else (
 some (.brk (y1,y2)))
def UW (p_parts:List (List (BitVec 8))) (y5:Int) (y6:List (BitVec 8)):Option (LR (Int×(List (BitVec 8))) Empty):=
 if (decide (y5 < (p_parts.length:Int)))=true then (
 Option.bind (JU p_parts y5) fun x3=>
 if y6.length+([((BitVec.ofInt 32 (x3.length:Int)) >>> 24).setWidth 8,((BitVec.ofInt 32 (x3.length:Int)) >>> 16).setWidth 8,((BitVec.ofInt 32 (x3.length:Int)) >>> 8).setWidth 8,(BitVec.ofInt 32 (x3.length:Int)).setWidth 8]).length≤AP then (
 if (y6++([((BitVec.ofInt 32 (x3.length:Int)) >>> 24).setWidth 8,((BitVec.ofInt 32 (x3.length:Int)) >>> 16).setWidth 8,((BitVec.ofInt 32 (x3.length:Int)) >>> 8).setWidth 8,(BitVec.ofInt 32 (x3.length:Int)).setWidth 8])).length+x3.length≤AP then (
 some (.next (w64 (y5+(1:Int)),((y6++([((BitVec.ofInt 32 (x3.length:Int)) >>> 24).setWidth 8,((BitVec.ofInt 32 (x3.length:Int)) >>> 16).setWidth 8,((BitVec.ofInt 32 (x3.length:Int)) >>> 8).setWidth 8,(BitVec.ofInt 32 (x3.length:Int)).setWidth 8]))++x3)))) else none) else none) else (
 some (.brk (y5,y6)))
def Qar (p_tag:BitVec 8) (p_parts:List (List (BitVec 8))):Option (List (BitVec 8)):=
 Option.bind (Jd (fun (s:Int×Int)=>UX p_parts s.1 s.2) FU ((1:Int),(0:Int))) fun (s2:Int×Int)=>
 if 0≤s2.1∧s2.1≤(4294967296:Int) then (
 if ([]:List (BitVec 8)).length+([p_tag]).length≤AP then (
 Option.bind (Jd (fun (s:Int×(List (BitVec 8)))=>UW p_parts s.1 s.2) FU ((0:Int),(([]:List (BitVec 8))++([p_tag])))) fun (s1:Int×(List (BitVec 8)))=>
 some s1.2) else none) else none
def Wz (p_tag:BitVec 8) (p_parts:List (List (BitVec 8))):Option Qa:=
 Option.bind (Qar p_tag p_parts) fun r1=>
 Option.bind (WP r1) fun r2=>
 some r2
def WA (p_seed:Qa) (p_number:List (BitVec 8)):Option (QX×Qa):=
 Option.bind (if (decide ((0:Int) < (p_number.length:Int)))=true then (
 if ([p_seed.toList]).length+([p_number]).length≤AP then (
 some (([p_seed.toList])++([p_number]))) else none) else (
 some ([p_seed.toList]))) fun y1=>
 Option.bind (Wz (105#8) y1) fun r1=>
 Option.bind (JZ r1.toList 0 (16:Int)) fun x1=>
 Option.bind (WT 16 x1) fun x2=>
 Option.bind (Wz (115#8) y1) fun r2=>
 some (x2,r2)
def V8 (p_parts:List (List (BitVec 8))) (y1:Int) (y2:List (BitVec 8)):Option (LR (Int×(List (BitVec 8))) Empty):=
 if (decide (y1 < (p_parts.length:Int)))=true then (
 Option.bind (JU p_parts y1) fun x1=>
 if y2.length+x1.length≤AP then (
 some (.next (w64 (y1+(1:Int)),(y2++x1)))) else none) else (
 some (.brk (y1,y2)))
def XR (p_id:QX) (p_q:BitVec 32) (p_i:Int) (p_parts:List (List (BitVec 8))):Option Qa:=
 if 0≤(64:Int)∧(64:Int)≤(4294967296:Int) then (
 if ([]:List (BitVec 8)).length+p_id.toList.length≤AP then (
 if (([]:List (BitVec 8))++p_id.toList).length+([(p_q >>> 24).setWidth 8,(p_q >>> 16).setWidth 8,(p_q >>> 8).setWidth 8,p_q.setWidth 8,BitVec.ofInt 8 (BX p_i (8:Int)),BitVec.ofInt 8 p_i]).length≤AP then (
 Option.bind (Jd (fun (s:Int×(List (BitVec 8)))=>V8 p_parts s.1 s.2) FU ((0:Int),((([]:List (BitVec 8))++p_id.toList)++([(p_q >>> 24).setWidth 8,(p_q >>> 16).setWidth 8,(p_q >>> 8).setWidth 8,p_q.setWidth 8,BitVec.ofInt 8 (BX p_i (8:Int)),BitVec.ofInt 8 p_i])))) fun (s1:Int×(List (BitVec 8)))=>
 Option.bind (WP s1.2) fun r1=>
 some r1) else none) else none) else none
def KX (p_to:Int) (p_id:QX) (p_q:BitVec 32) (p_i:Int) (y1:Int) (y2:Qa):Option (LR (Int×Qa) Empty):=
 if (decide (y1 < p_to))=true then (
 Option.bind (XR p_id p_q p_i ([[BitVec.ofInt 8 y1],y2.toList])) fun r1=>
 some (.next (w64 (y1+(1:Int)),r1))) else (
 some (.brk (y1,y2)))
def Ko (p_id:QX) (p_q:BitVec 32) (p_i:Int) (p_h:Qa) (p_from:Int) (p_to:Int):Option Qa:=
 Option.bind (Jd (fun (s:Int×Qa)=>KX p_to p_id p_q p_i s.1 s.2) FU (p_from,p_h)) fun (s1:Int×Qa)=>
 some s1.2
def Kr (p_id:QX) (p_q:BitVec 32) (p_i:Int) (p_seed:Qa):Option Qa:=
 Option.bind (XR p_id p_q p_i ([[255#8],p_seed.toList])) fun r1=>
 some r1
def Xh (p_f:J8):Option Int:=
 if 0≤p_f.1 then (
 some (w64 ((KD (1:Int) p_f.1) - (1:Int)))) else none
def VA (p_ends:List Qa) (y1:Int) (y2:List (BitVec 8)):Option (LR (Int×(List (BitVec 8))) Empty):=
 if (decide (y1 < (p_ends.length:Int)))=true then (
 Option.bind (JU p_ends y1) fun x1=>
 if y2.length+x1.toList.length≤AP then (
 some (.next (w64 (y1+(1:Int)),(y2++x1.toList)))) else none) else (
 some (.brk (y1,y2)))
def U2 (p_id:QX) (p_q:BitVec 32) (p_ends:List Qa):Option Qa:=
 if 0≤w64 ((32:Int)*(p_ends.length:Int))∧w64 ((32:Int)*(p_ends.length:Int))≤(4294967296:Int) then (
 Option.bind (Jd (fun (s:Int×(List (BitVec 8)))=>VA p_ends s.1 s.2) FU ((0:Int),([]:List (BitVec 8)))) fun (s1:Int×(List (BitVec 8)))=>
 Option.bind (XR p_id p_q (32896:Int) ([s1.2])) fun r1=>
 some r1) else none
def Vy (x1:List Qa) (p_id:QX) (p_q:BitVec 32) (p_seed:Qa) (r1:J8×Bool) (y1:Int) (y2:List Qa):Option (LR (Int×(List Qa)) Empty):=
 if (decide (y1 < (x1.length:Int)))=true then (
 Option.bind (Kr p_id p_q y1 p_seed) fun r2=>
 Option.bind (Xh r1.1) fun r3=>
 Option.bind (Ko p_id p_q y1 r2 (0:Int) r3) fun r4=>
 if 0≤y1∧y1 < (y2.length:Int) then (
 some (.next (w64 (y1+(1:Int)),(y2.set y1.toNat r4)))) else none) else (
 some (.brk (y1,y2)))
def WH (p_kind:Int) (p_id:QX) (p_q:BitVec 32) (p_seed:Qa):Option (Qa×Int):=
 Option.bind (Wb p_kind) fun r1=>
 if (!r1.2)=true then (
 some ((Vector.replicate 32 (0#8)),(1:Int))) else (
 if 0≤r1.1.2.1∧r1.1.2.1≤(4294967296:Int) then (
 Option.bind (some (List.replicate r1.1.2.1.toNat (Vector.replicate 32 (0#8)))) fun x1=>
 Option.bind (Jd (fun (s:Int×(List Qa))=>Vy x1 p_id p_q p_seed r1 s.1 s.2) FU ((0:Int),x1)) fun (s1:Int×(List Qa))=>
 Option.bind (U2 p_id p_q s1.2) fun r5=>
 some (r5,(0:Int))) else none)
def Yr (p_x:BitVec 64) (y2:Int) (y3:List (BitVec 8)):Option (LR (Int×(List (BitVec 8))) Empty):=
 if (decide ((0:Int)≤y2))=true then (
 if 0≤w64 ((8:Int)*y2) then (
 if y3.length+([(p_x >>> ((w64 ((8:Int)*y2)).toNat)).setWidth 8]).length≤AP then (
 some (.next (w64 (y2 - (1:Int)),(y3++([(p_x >>> ((w64 ((8:Int)*y2)).toNat)).setWidth 8]))))) else none) else none) else (
 some (.brk (y2,y3)))
def YD (p_w:(List (BitVec 8))×Bool) (p_x:BitVec 64) (p_bytes:Int):Option ((List (BitVec 8))×Bool):=
 Option.bind (some p_w.2) fun y1=>
 if (y1)=true then (
 some (p_w.1,p_w.2)) else (
 Option.bind (Jd (fun (s:Int×(List (BitVec 8)))=>Yr p_x s.1 s.2) FU (w64 (p_bytes - (1:Int)),p_w.1)) fun (s1:Int×(List (BitVec 8)))=>
 some (s1.2,p_w.2))
def ZV (p_w:(List (BitVec 8))×Bool) (p_x:BitVec 32):Option ((List (BitVec 8))×Bool):=
 Option.bind (YD (p_w.1,p_w.2) (p_x.setWidth 64) (4:Int)) fun r1=>
 some (r1.1,r1.2)
def Zd (p_w:(List (BitVec 8))×Bool) (p_b:List (BitVec 8)):Option ((List (BitVec 8))×Bool):=
 Option.bind (some (!p_w.2)) fun y1=>
 if (y1)=true then (
 if p_w.1.length+p_b.length≤AP then (
 some ((p_w.1++p_b),p_w.2)) else none) else (
 some (p_w.1,p_w.2))
def J0 (p_s:List (BitVec 8)):Option (List (BitVec 8)):=
 if ([]:List (BitVec 8)).length+p_s.length≤AP then (
 some (([]:List (BitVec 8))++p_s)) else none
def Xf (p_w:(List (BitVec 8))×Bool):Option (((List (BitVec 8))×Bool)×(List (BitVec 8))×Int):=
 if (p_w.2)=true then (
 some ((p_w.1,p_w.2),([]:List (BitVec 8)),(4:Int))) else (
 Option.bind (J0 p_w.1) fun r1=>
 some ((p_w.1,p_w.2),r1,(0:Int)))
def K9 (p_w:(List (BitVec 8))×Bool) (p_x:Int) (p_most:Int):Option (((List (BitVec 8))×Bool)×Bool):=
 Option.bind (if (decide (p_x < (0:Int)))=true then (
 some true) else (
 some (decide (p_most < p_x)))) fun y1=>
 if (y1)=true then (
 some ((p_w.1,true),!true)) else (
 some ((p_w.1,p_w.2),!p_w.2))
def Ue (p_w:(List (BitVec 8))×Bool) (p_x:Int):Option ((List (BitVec 8))×Bool):=
 Option.bind (K9 (p_w.1,p_w.2) p_x (65535:Int)) fun r1=>
 if (r1.2)=true then (
 Option.bind (YD (r1.1.1,r1.1.2) (BitVec.ofInt 64 p_x) (2:Int)) fun r2=>
 some (r2.1,r2.2)) else (
 some (r1.1.1,r1.1.2))
def UG (p_parts:List (List (BitVec 8))) (y1:Int) (y2:Bool) (y3:List (BitVec 8)):Option (LR (Int×Bool×(List (BitVec 8))) Empty):=
 if (decide (y1 < (p_parts.length:Int)))=true then (
 Option.bind (JU p_parts y1) fun x1=>
 Option.bind (Zd (y3,y2) x1) fun r4=>
 some (.next (w64 (y1+(1:Int)),r4.2,r4.1))) else (
 some (.brk (y1,y2,y3)))
def BB (p_id:QX) (p_r:Int) (p_under:Int) (p_parts:List (List (BitVec 8))):Option Qa:=
 Option.bind (Zd (([]:List (BitVec 8)),false) p_id.toList) fun r1=>
 Option.bind (ZV (r1.1,r1.2) (BitVec.ofInt 32 p_r)) fun r2=>
 Option.bind (Ue (r2.1,r2.2) p_under) fun r3=>
 Option.bind (Jd (fun (s:Int×Bool×(List (BitVec 8)))=>UG p_parts s.1 s.2.1 s.2.2) FU ((0:Int),r3.2,r3.1)) fun (s1:Int×Bool×(List (BitVec 8)))=>
 Option.bind (Xf (s1.2.2,s1.2.1)) fun r5=>
 Option.bind (WP r5.2.1) fun r6=>
 some r6
def Qam (p_id:QX) (p_r:Int) (p_public:Qa):Option Qa:=
 Option.bind (BB p_id p_r (33410:Int) ([p_public.toList])) fun r1=>
 some r1
def B9 (p_id:QX) (p_r:Int) (p_a:Qa) (p_b:Qa):Option Qa:=
 Option.bind (BB p_id p_r (33667:Int) ([p_a.toList,p_b.toList])) fun r1=>
 some r1
def W3 (p_height:Int) (p_kind:Int) (p_id:QX) (p_seed:Qa) (y1:Int) (y2:List Qa):Option (LR (Int×(List Qa)) ((Option QF)×Int)):=
 if (decide (y1 < (KD (1:Int) p_height)))=true then (
 Option.bind (WH p_kind p_id (BitVec.ofInt 32 y1) p_seed) fun r2=>
 if (!decide (r2.2=(0:Int)))=true then (
 some (.ret ((none:Option QF),r2.2))) else (
 Option.bind (Qam p_id (w64 ((KD (1:Int) p_height)+y1)) r2.1) fun r3=>
 if 0≤w64 ((KD (1:Int) p_height)+y1)∧w64 ((KD (1:Int) p_height)+y1) < (y2.length:Int) then (
 some (.next (w64 (y1+(1:Int)),(y2.set ((w64 ((KD (1:Int) p_height)+y1)).toNat) r3)))) else none)) else (
 some (.brk (y1,y2)))
def W9 (p_id:QX) (y5:Int) (y6:List Qa):Option (LR (Int×(List Qa)) Empty):=
 if (decide ((0:Int) < y5))=true then (
 Option.bind (JU y6 (w64 ((2:Int)*y5))) fun x3=>
 Option.bind (JU y6 (w64 ((w64 ((2:Int)*y5))+(1:Int)))) fun x4=>
 Option.bind (B9 p_id y5 x3 x4) fun r4=>
 if 0≤y5∧y5 < (y6.length:Int) then (
 some (.next (w64 (y5 - (1:Int)),(y6.set y5.toNat r4)))) else none) else (
 some (.brk (y5,y6)))
def Qb1 (p_height:Int) (p_kind:Int) (p_id:QX) (p_seed:Qa):Option ((Option QF)×Int):=
 Option.bind (B0 p_height p_kind) fun r1=>
 if (!r1)=true then (
 some ((none:Option QF),(1:Int))) else (
 if 0≤p_height then (
 if 0≤w64 ((2:Int)*(KD (1:Int) p_height))∧w64 ((2:Int)*(KD (1:Int) p_height))≤(4294967296:Int) then (
 Option.bind (some (List.replicate (w64 ((2:Int)*(KD (1:Int) p_height))).toNat (Vector.replicate 32 (0#8)))) fun x1=>
 Option.bind (Yf (fun (s:Int×(List Qa))=>W3 p_height p_kind p_id p_seed s.1 s.2) FU ((0:Int),x1)) fun o=>match o with
 | .inl (s2:Int×(List Qa))=>(
 Option.bind (some (w64 ((KD (1:Int) p_height) - (1:Int)))) fun x2=>
 Option.bind (Jd (fun (s:Int×(List Qa))=>W9 p_id s.1 s.2) FU (x2,s2.2)) fun (s1:Int×(List Qa))=>
 some ((some (p_height,p_kind,p_id,p_seed,s1.2)),(0:Int)))
 | .inr x=>some x) else none) else none)
def Qb0 (p_top:Int) (p_bottom:Int) (p_kind:Int) (p_seed:Qa):Option ((Option (Int×Int×Qa×(Option QF)×(Option QF)×Int))×Int):=
 Option.bind (WV p_bottom p_kind) fun r1=>
 if (decide (r1=(0:Int)))=true then (
 some (none,(1:Int))) else (
 Option.bind (WA p_seed ([]:List (BitVec 8))) fun r2=>
 Option.bind (Qb1 p_top p_kind r2.1 r2.2) fun r3=>
 if (!decide (r3.2=(0:Int)))=true then (
 some (none,r3.2)) else (
 Option.bind (some ((p_bottom,p_kind,p_seed,r3.1,(none:Option QF),(-1:Int)))) fun x1=>
 some ((some x1),(0:Int))))
def WG (p_h:Za):Option Bool:=
 Option.bind (if (decide ((1:Int)≤p_h.1))=true then (
 some (decide (p_h.1 < (2147483648:Int)))) else (
 some false)) fun y1=>
 Option.bind (if (y1)=true then (
 some (decide ((1:Int)≤p_h.2.1))) else (
 some false)) fun y2=>
 Option.bind (if (y2)=true then (
 some (decide (p_h.2.1 < (2147483648:Int)))) else (
 some false)) fun y3=>
 some y3
def Wu (p_h:Za):Option ((List (BitVec 8))×Int):=
 Option.bind (WG p_h) fun r1=>
 if (!r1)=true then (
 some (([]:List (BitVec 8)),(1:Int))) else (
 Option.bind (ZV (([]:List (BitVec 8)),false) (BitVec.ofInt 32 p_h.1)) fun r2=>
 Option.bind (ZV (r2.1,r2.2) (BitVec.ofInt 32 p_h.2.1)) fun r3=>
 Option.bind (Zd (r3.1,r3.2) p_h.2.2.1.toList) fun r4=>
 Option.bind (Zd (r4.1,r4.2) p_h.2.2.2.toList) fun r5=>
 Option.bind (Xf (r5.1,r5.2)) fun r6=>
 some (r6.2.1,r6.2.2))
def Zr (p_n:Int):Option (List (BitVec 8)):=
 if (decide (p_n < (0:Int)))=true then none else (
 Option.bind (some (w64 (p_n - (w64 ((0:Int) - (0:Int)))))) fun x1=>
 if (decide ((0:Int) < x1))=true then (
 if 0 < x1∧x1≤(4294967296:Int) then (
 if 0≤(0:Int)∧(0:Int)≤((List.replicate x1.toNat (0#8)).length:Int) then (
 some ((List.replicate x1.toNat (0#8)).take (0:Int).toNat)) else none) else none) else (
 some ([]:List (BitVec 8))))
def JS (p_slices:List (List (BitVec 8))) (y1:Int) (y2:Int):Option (LR (Int×Int) Empty):=
 if (decide (y2 < (p_slices.length:Int)))=true then (
 Option.bind (JU p_slices y2) fun x1=>
 if (decide ((w64 (y1+(x1.length:Int))) < (0:Int)))=true then none else (
 some (.next (w64 (y1+(x1.length:Int)),w64 (y2+(1:Int)))))) else (
 some (.brk (y1,y2)))
def JT (p_slices:List (List (BitVec 8))) (y5:Int) (y6:List (BitVec 8)):Option (LR (Int×(List (BitVec 8))) Empty):=
 if (decide (y5 < (p_slices.length:Int)))=true then (
 Option.bind (JU p_slices y5) fun x2=>
 if y6.length+x2.length≤AP then (
 some (.next (w64 (y5+(1:Int)),(y6++x2)))) else none) else (
 some (.brk (y5,y6)))
def Zp (p_slices:List (List (BitVec 8))):Option (List (BitVec 8)):=
 Option.bind (Jd (fun (s:Int×Int)=>JS p_slices s.1 s.2) FU ((0:Int),(0:Int))) fun (s2:Int×Int)=>
 Option.bind (Zr s2.1) fun r1=>
 Option.bind (Jd (fun (s:Int×(List (BitVec 8)))=>JT p_slices s.1 s.2) FU ((0:Int),r1)) fun (s1:Int×(List (BitVec 8)))=>
 some s1.2
def Kj (p_t:Option QF):Option (List (BitVec 8)):=
 if (p_t.isNone)=true then (
 some ([]:List (BitVec 8))) else (
 Option.bind (p_t) fun x1=>
 Option.bind (ZV (([]:List (BitVec 8)),false) (BitVec.ofInt 32 x1.1)) fun r1=>
 Option.bind (p_t) fun x2=>
 Option.bind (ZV (r1.1,r1.2) (BitVec.ofInt 32 x2.2.1)) fun r2=>
 Option.bind (p_t) fun x3=>
 Option.bind (Zd (r2.1,r2.2) x3.2.2.1.toList) fun r3=>
 Option.bind (p_t) fun x4=>
 Option.bind (JU x4.2.2.2.2 (1:Int)) fun x5=>
 Option.bind (Zd (r3.1,r3.2) x5.toList) fun r4=>
 Option.bind (Xf (r4.1,r4.2)) fun r5=>
 some r5.2.1)
def KG (p_t:Option QF):Option Int:=
 if (p_t.isNone)=true then (
 some (0:Int)) else (
 Option.bind (p_t) fun x1=>
 if 0≤x1.1 then (
 some (KD (1:Int) x1.1)) else none)
def Uk (p_s:Int×Int×Qa×(Option QF)×(Option QF)×Int):Option Int:=
 Option.bind (KG p_s.2.2.2.1) fun r1=>
 if 0≤p_s.1 then (
 some (KD r1 p_s.1)) else none
def Ui (p_s:Int×Int×Qa×(Option QF)×(Option QF)×Int) (p_i:Int):Option ((Int×Int×Qa×(Option QF)×(Option QF)×Int)×(Option QF)×Int):=
 if (decide (p_s.2.2.2.2.2=p_i))=true then (
 some ((p_s.1,p_s.2.1,p_s.2.2.1,p_s.2.2.2.1,p_s.2.2.2.2.1,p_s.2.2.2.2.2),p_s.2.2.2.2.1,(0:Int))) else (
 Option.bind (WA p_s.2.2.1 ([BitVec.ofInt 8 (BX p_i (24:Int)),BitVec.ofInt 8 (BX p_i (16:Int)),BitVec.ofInt 8 (BX p_i (8:Int)),BitVec.ofInt 8 p_i])) fun r1=>
 Option.bind (Qb1 p_s.1 p_s.2.1 r1.1 r1.2) fun r2=>
 if (!decide (r2.2=(0:Int)))=true then (
 some ((p_s.1,p_s.2.1,p_s.2.2.1,p_s.2.2.2.1,p_s.2.2.2.2.1,p_s.2.2.2.2.2),(none:Option QF),r2.2)) else (
 some ((p_s.1,p_s.2.1,p_s.2.2.1,p_s.2.2.2.1,r2.1,p_i),r2.1,(0:Int))))
def XJ {Sy:Type} (p_f:J8) (yl:Sy→Int→Option Sy) (x1:BitVec 8) (y3:Int) (y4:Sy):Option (LR (Int×Sy) Empty):=
 if (decide ((0:Int)≤y3))=true then (
 if 0≤y3 then (
 Option.bind (Xh p_f) fun r1=>
 Option.bind (yl y4 (Qiu (BX (x1.toNat:Int) y3) r1)) fun y5=>
 some (.next (w64 (y3 - p_f.1),y5))) else none) else (
 some (.brk (y3,y4)))
def Xz {Sy:Type} (p_b:List (BitVec 8)) (p_f:J8) (yl:Sy→Int→Option Sy) (y1:Int) (y2:Sy):Option (LR (Int×Sy) Empty):=
 if (decide (y1 < (p_b.length:Int)))=true then (
 Option.bind (JU p_b y1) fun x1=>
 Option.bind (Jd (fun (s:Int×Sy)=>XJ p_f yl x1 s.1 s.2) FU (w64 ((8:Int) - p_f.1),y2)) fun (s1:Int×Sy)=>
 some (.next (w64 (y1+(1:Int)),s1.2))) else (
 some (.brk (y1,y2)))
def KR {Sy:Type} (p_f:J8) (p_b:List (BitVec 8)) (yl:Sy→Int→Option Sy) (s0:Sy):Option Sy:=
 Option.bind (Jd (fun (s:Int×Sy)=>Xz p_b p_f yl s.1 s.2) FU ((0:Int),s0)) fun (s2:Int×Sy)=>
 some s2.2
def UZ {Sy:Type} (yl:Sy→Int→Option Sy) (q_0:J8) (q_1:Qa) (s0:Sy):Option Sy:=
 Option.bind (KR q_0 q_1.toList yl s0) fun y1=>
 some y1
def Y2 (p_f:J8) (y1:Int) (d:Int):Option Int:=
 Option.bind (Xh p_f) fun r1=>
 some (w64 (y1+(w64 (r1 - d))))
def US (p_f:J8) (p_h:Qa):Option (List (BitVec 8)):=
 Option.bind (UZ (fun (s:Int) (d:Int)=>Y2 p_f s d) p_f p_h (0:Int)) fun (s1:Int)=>
 if 0≤p_f.2.2 then (
 some ([BitVec.ofInt 8 (BX (KD s1 p_f.2.2) (8:Int)),BitVec.ofInt 8 (KD s1 p_f.2.2)])) else none
def KL {Sy:Type} (yl:Sy→Int→Option Sy) (q_0:J8) (q_1:List (BitVec 8)) (s0:Sy):Option Sy:=
 Option.bind (KR q_0 q_1 yl s0) fun y1=>
 some y1
def ZI (p_f:J8) (y1:List Int) (d:Int):Option (List Int):=
 if (decide ((y1.length:Int) < p_f.2.1))=true then (
 if y1.length+([d]).length≤AP then (
 some (y1++([d]))) else none) else (
 some y1)
def Vs (p_f:J8) (p_h:Qa):Option (List Int):=
 if 0≤p_f.2.1∧p_f.2.1≤(4294967296:Int) then (
 Option.bind (US p_f p_h) fun r1=>
 if 0 < r1.length∧p_h.toList.length+r1.length≤AP then (
 Option.bind (KL (fun (s:(List Int)) (d:Int)=>ZI p_f s d) p_f (p_h.toList++r1) ([]:List Int)) fun (s1:(List Int))=>
 some s1) else none) else none
def KB (r6:(List Int)) (p_id:QX) (p_q:BitVec 32) (p_seed:Qa) (y1:Int) (y2:Bool) (y3:List (BitVec 8)):Option (LR (Int×Bool×(List (BitVec 8))) Empty):=
 if (decide (y1 < (r6.length:Int)))=true then (
 Option.bind (JU r6 y1) fun x1=>
 Option.bind (Kr p_id p_q y1 p_seed) fun r7=>
 Option.bind (Ko p_id p_q y1 r7 (0:Int) x1) fun r8=>
 Option.bind (Zd (y3,y2) r8.toList) fun r9=>
 some (.next (w64 (y1+(1:Int)),r9.2,r9.1))) else (
 some (.brk (y1,y2,y3)))
def qj (p_kind:Int) (p_id:QX) (p_q:BitVec 32) (p_seed:Qa) (p_message:List (BitVec 8)):Option ((List (BitVec 8))×Int):=
 Option.bind (Wb p_kind) fun r1=>
 if (!r1.2)=true then (
 some (([]:List (BitVec 8)),(1:Int))) else (
 Option.bind (Kr p_id p_q (65533:Int) p_seed) fun r2=>
 Option.bind (ZV (([]:List (BitVec 8)),false) (BitVec.ofInt 32 p_kind)) fun r3=>
 Option.bind (Zd (r3.1,r3.2) r2.toList) fun r4=>
 Option.bind (XR p_id p_q (33153:Int) ([r2.toList,p_message])) fun r5=>
 Option.bind (Vs r1.1 r5) fun r6=>
 Option.bind (Jd (fun (s:Int×Bool×(List (BitVec 8)))=>KB r6 p_id p_q p_seed s.1 s.2.1 s.2.2) FU ((0:Int),r4.2,r4.1)) fun (s1:Int×Bool×(List (BitVec 8)))=>
 Option.bind (Xf (s1.2.2,s1.2.1)) fun r10=>
 some (r10.2.1,r10.2.2))
def VY (p_t:Option QF) (y2:Int) (y3:Bool) (y4:List (BitVec 8)):Option (LR (Int×Bool×(List (BitVec 8))) Empty):=
 if (decide ((1:Int) < y2))=true then (
 Option.bind (p_t) fun x5=>
 Option.bind (JU x5.2.2.2.2 (Qow y2 (1:Int))) fun x6=>
 Option.bind (Zd (y4,y3) x6.toList) fun r7=>
 some (.next (w64 (Int.tdiv y2 (2:Int)),r7.2,r7.1))) else (
 some (.brk (y2,y3,y4)))
def Ut (p_t:Option QF) (p_q:Int) (p_message:List (BitVec 8)):Option ((List (BitVec 8))×Int):=
 if (p_t.isNone)=true then (
 some (([]:List (BitVec 8)),(1:Int))) else (
 Option.bind (if (decide (p_q < (0:Int)))=true then (
 some true) else (
 Option.bind (KG p_t) fun r1=>
 some (decide (r1≤p_q)))) fun y1=>
 if (y1)=true then (
 some (([]:List (BitVec 8)),(7:Int))) else (
 Option.bind (p_t) fun x1=>
 Option.bind (p_t) fun x2=>
 Option.bind (p_t) fun x3=>
 Option.bind (qj x1.2.1 x2.2.2.1 (BitVec.ofInt 32 p_q) x3.2.2.2.1 p_message) fun r2=>
 if (!decide (r2.2=(0:Int)))=true then (
 some (([]:List (BitVec 8)),r2.2)) else (
 Option.bind (ZV (([]:List (BitVec 8)),false) (BitVec.ofInt 32 p_q)) fun r3=>
 Option.bind (Zd (r3.1,r3.2) r2.1) fun r4=>
 Option.bind (p_t) fun x4=>
 Option.bind (ZV (r4.1,r4.2) (BitVec.ofInt 32 x4.1)) fun r5=>
 Option.bind (KG p_t) fun r6=>
 Option.bind (Jd (fun (s:Int×Bool×(List (BitVec 8)))=>VY p_t s.1 s.2.1 s.2.2) FU (w64 (r6+p_q),r5.2,r5.1)) fun (s1:Int×Bool×(List (BitVec 8)))=>
 Option.bind (Xf (s1.2.2,s1.2.1)) fun r8=>
 some (r8.2.1,r8.2.2))))
def Uf (p_s:Int×Int×Qa×(Option QF)×(Option QF)×Int) (p_n:Int) (p_message:List (BitVec 8)):Option ((Int×Int×Qa×(Option QF)×(Option QF)×Int)×(List (BitVec 8))×Int):=
 Option.bind (if (decide (p_n < (0:Int)))=true then (
 some true) else (
 Option.bind (Uk (p_s.1,p_s.2.1,p_s.2.2.1,p_s.2.2.2.1,p_s.2.2.2.2.1,p_s.2.2.2.2.2)) fun r1=>
 some (decide (r1≤p_n)))) fun y1=>
 if (y1)=true then (
 some ((p_s.1,p_s.2.1,p_s.2.2.1,p_s.2.2.2.1,p_s.2.2.2.2.1,p_s.2.2.2.2.2),([]:List (BitVec 8)),(7:Int))) else (
 if 0≤p_s.1 then (
 if 0≤p_s.1 then (
 Option.bind (some (Qiu p_n (w64 ((KD (1:Int) p_s.1) - (1:Int))))) fun x1=>
 Option.bind (Ui (p_s.1,p_s.2.1,p_s.2.2.1,p_s.2.2.2.1,p_s.2.2.2.2.1,p_s.2.2.2.2.2) (BX p_n p_s.1)) fun r2=>
 if (!decide (r2.2.2=(0:Int)))=true then (
 some ((r2.1.1,r2.1.2.1,r2.1.2.2.1,r2.1.2.2.2.1,r2.1.2.2.2.2.1,r2.1.2.2.2.2.2),([]:List (BitVec 8)),r2.2.2)) else (
 Option.bind (Kj r2.2.1) fun r3=>
 Option.bind (Ut r2.1.2.2.2.1 (BX p_n p_s.1) r3) fun r4=>
 if (!decide (r4.2=(0:Int)))=true then (
 some ((r2.1.1,r2.1.2.1,r2.1.2.2.1,r2.1.2.2.2.1,r2.1.2.2.2.2.1,r2.1.2.2.2.2.2),([]:List (BitVec 8)),r4.2)) else (
 Option.bind (Ut r2.2.1 x1 p_message) fun r5=>
 if (!decide (r5.2=(0:Int)))=true then (
 some ((r2.1.1,r2.1.2.1,r2.1.2.2.1,r2.1.2.2.2.1,r2.1.2.2.2.2.1,r2.1.2.2.2.2.2),([]:List (BitVec 8)),r5.2)) else (
 Option.bind (Zp ([[0#8,0#8,0#8,1#8],r4.1,r3,r5.1])) fun r6=>
 some ((r2.1.1,r2.1.2.1,r2.1.2.2.1,r2.1.2.2.2.1,r2.1.2.2.2.2.1,r2.1.2.2.2.2.2),r6,(0:Int)))))) else none) else none)
def WB (p_s:Int×Int×Qa×(Option QF)×(Option QF)×Int) (p_n:Int) (p_h:Za):Option ((Int×Int×Qa×(Option QF)×(Option QF)×Int)×Qy×Int):=
 Option.bind (Wu p_h) fun r1=>
 if (!decide (r1.2=(0:Int)))=true then (
 Option.bind (some (((0,0,(Vector.replicate 32 (0#8)),(Vector.replicate 32 (0#8))),([]:List (BitVec 8))))) fun x1=>
 some ((p_s.1,p_s.2.1,p_s.2.2.1,p_s.2.2.2.1,p_s.2.2.2.2.1,p_s.2.2.2.2.2),x1,r1.2)) else (
 Option.bind (Uf (p_s.1,p_s.2.1,p_s.2.2.1,p_s.2.2.2.1,p_s.2.2.2.2.1,p_s.2.2.2.2.2) p_n r1.1) fun r2=>
 if (!decide (r2.2.2=(0:Int)))=true then (
 Option.bind (some (((0,0,(Vector.replicate 32 (0#8)),(Vector.replicate 32 (0#8))),([]:List (BitVec 8))))) fun x2=>
 some ((r2.1.1,r2.1.2.1,r2.1.2.2.1,r2.1.2.2.2.1,r2.1.2.2.2.2.1,r2.1.2.2.2.2.2),x2,r2.2.2)) else (
 Option.bind (some ((p_h,r2.2.1))) fun x3=>
 some ((r2.1.1,r2.1.2.1,r2.1.2.2.1,r2.1.2.2.2.1,r2.1.2.2.2.2.1,r2.1.2.2.2.2.2),x3,(0:Int))))
def Ul (p_h:Zi):Option Bool:=
 Option.bind (if (decide ((1:Int)≤p_h.1))=true then (
 some (decide (p_h.1≤(2147483647:Int)))) else (
 some false)) fun y1=>
 Option.bind (if (y1)=true then (
 some (decide ((1:Int)≤p_h.2.1))) else (
 some false)) fun y2=>
 Option.bind (if (y2)=true then (
 some (decide (p_h.2.1≤(2147483647:Int)))) else (
 some false)) fun y3=>
 some y3
def YT (p_bytes:Int) (y1:BitVec 64) (y2:Int) (y3:List (BitVec 8)):Option (LR ((BitVec 64)×Int×(List (BitVec 8))) Empty):=
 if (decide (y2 < p_bytes))=true then (
 if y3.length+([(y1 % (256#64)).setWidth 8]).length≤AP then (
 some (.next (y1 / (256#64),w64 (y2+(1:Int)),(y3++([(y1 % (256#64)).setWidth 8]))))) else none) else (
 some (.brk (y1,y2,y3)))
def YR (y6:List (BitVec 8)) (y7:Int) (y8:List (BitVec 8)):Option (LR (Int×(List (BitVec 8))) Empty):=
 if (decide ((0:Int)≤y7))=true then (
 Option.bind (JU y6 y7) fun x1=>
 if y8.length+([x1]).length≤AP then (
 some (.next (w64 (y7 - (1:Int)),(y8++([x1]))))) else none) else (
 some (.brk (y7,y8)))
def Jy (p_x:BitVec 64) (p_bytes:Int):Option (List (BitVec 8)):=
 Option.bind (Jd (fun (s:(BitVec 64)×Int×(List (BitVec 8)))=>YT p_bytes s.1 s.2.1 s.2.2) FU (p_x,(0:Int),([]:List (BitVec 8)))) fun (s2:(BitVec 64)×Int×(List (BitVec 8)))=>
 Option.bind (Jd (fun (s:Int×(List (BitVec 8)))=>YR s2.2.2 s.1 s.2) FU (w64 (p_bytes - (1:Int)),([]:List (BitVec 8)))) fun (s1:Int×(List (BitVec 8)))=>
 some s1.2
def VI (p_h:Zi):Option ((List (BitVec 8))×Int):=
 Option.bind (Ul p_h) fun r1=>
 if (!r1)=true then (
 some (([]:List (BitVec 8)),(1:Int))) else (
 Option.bind (Jy (BitVec.ofInt 64 p_h.1) (4:Int)) fun r2=>
 Option.bind (Jy (BitVec.ofInt 64 p_h.2.1) (4:Int)) fun r3=>
 if r2.length+r3.length≤AP then (
 if (r2++r3).length+p_h.2.2.1.toList.length≤AP then (
 if ((r2++r3)++p_h.2.2.1.toList).length+p_h.2.2.2.toList.length≤AP then (
 some ((((r2++r3)++p_h.2.2.1.toList)++p_h.2.2.2.toList),(0:Int))) else none) else none) else none)
def YB (p_kind:Int):Option Int:=
 Option.bind (if (decide (p_kind=(1:Int)))=true then (
 some (decide (p_kind=(1:Int)))) else (
 some (decide (p_kind=(2:Int))))) fun y1=>
 if (y1)=true then (
 some p_kind) else (
 if (decide (p_kind=(3:Int)))=true then (
 some (4:Int)) else (
 if (decide (p_kind=(4:Int)))=true then (
 some (8:Int)) else (
 some (0:Int))))
def YF (p_height:Int) (y3:Int) (y4:Int):Option (LR (Int×Int) Empty):=
 if (decide (y4 < p_height))=true then (
 some (.next (w64 ((2:Int)*y3),w64 (y4+(1:Int))))) else (
 some (.brk (y3,y4)))
def Z1 (p_height:Int) (p_kind:Int):Option Int:=
 Option.bind (if (decide (p_height < (1:Int)))=true then (
 some true) else (
 some (decide ((4:Int) < p_height)))) fun y1=>
 Option.bind (if (y1)=true then (
 some true) else (
 Option.bind (YB p_kind) fun r1=>
 some (decide (r1=(0:Int))))) fun y2=>
 if (y2)=true then (
 some (0:Int)) else (
 Option.bind (Jd (fun (s:Int×Int)=>YF p_height s.1 s.2) FU ((1:Int),(0:Int))) fun (s1:Int×Int)=>
 some s1.1)
def K4 : Option (Vector (BitVec 32) 8):=
 Option.bind (some (#v[1779033703#32,3144134277#32,1013904242#32,2773480762#32,1359893119#32,2600822924#32,528734635#32,1541459225#32])) fun x1=>
 some x1
def YP (y1:List (BitVec 8)):Option (LR (List (BitVec 8)) Empty):=
 if (!decide ((Int.tmod (y1.length:Int) (64:Int))=(56:Int)))=true then (
 if y1.length+([0#8]).length≤AP then (
 some (.next (y1++([0#8])))) else none) else (
 some (.brk y1))
def VK (p_b:List (BitVec 8)):Option (List (BitVec 8)):=
 if ([]:List (BitVec 8)).length+p_b.length≤AP then (
 if (([]:List (BitVec 8))++p_b).length+([128#8]).length≤AP then (
 Option.bind (Jd (fun (s:(List (BitVec 8)))=>YP s) FU ((([]:List (BitVec 8))++p_b)++([128#8]))) fun (s1:(List (BitVec 8)))=>
 Option.bind (Jy ((8#64)*(BitVec.ofInt 64 (p_b.length:Int))) (8:Int)) fun r1=>
 if s1.length+r1.length≤AP then (
 some (s1++r1)) else none) else none) else none
def J3 (p_x:BitVec 32) (p_n:BitVec 32):Option (BitVec 32):=
 Option.bind (some ((p_x >>> p_n.toNat) ||| (p_x <<< (((32#32) - p_n).toNat)))) fun x1=>
 some x1
def Xa (p_b:List (BitVec 8)) (y1:BitVec 64) (y2:Int):Option (LR ((BitVec 64)×Int) Empty):=
 if (decide (y2 < (p_b.length:Int)))=true then (
 Option.bind (JU p_b y2) fun x1=>
 some (.next ((y1*(256#64))+(x1.setWidth 64),w64 (y2+(1:Int))))) else (
 some (.brk (y1,y2)))
def JN (p_b:List (BitVec 8)):Option (BitVec 64):=
 Option.bind (Jd (fun (s:(BitVec 64)×Int)=>Xa p_b s.1 s.2) FU (0#64,(0:Int))) fun (s1:(BitVec 64)×Int)=>
 some s1.1
def Xb (p_b:List (BitVec 8)) (y1:Int) (y2:Vector (BitVec 32) 64):Option (LR (Int×(Vector (BitVec 32) 64)) Empty):=
 if (decide (y1 < (16:Int)))=true then (
 Option.bind (JZ p_b (w64 ((4:Int)*y1)) (w64 ((w64 ((4:Int)*y1))+(4:Int)))) fun x1=>
 Option.bind (JN x1) fun r1=>
 if 0≤y1∧y1 < (64:Int) then (
 Option.bind (some ((y2.setIfInBounds y1.toNat (r1.setWidth 32)))) fun x2=>
 some (.next (w64 (y1+(1:Int)),x2))) else none) else (
 some (.brk (y1,y2)))
def Xc (y5:Int) (y6:Vector (BitVec 32) 64):Option (LR (Int×(Vector (BitVec 32) 64)) Empty):=
 if (decide (y5 < (64:Int)))=true then (
 Option.bind (KI y6 (w64 (y5 - (15:Int)))) fun x3=>
 Option.bind (KI y6 (w64 (y5 - (2:Int)))) fun x4=>
 Option.bind (KI y6 (w64 (y5 - (16:Int)))) fun x5=>
 Option.bind (J3 x3 (7#32)) fun r2=>
 Option.bind (J3 x3 (18#32)) fun r3=>
 Option.bind (KI y6 (w64 (y5 - (7:Int)))) fun x6=>
 Option.bind (J3 x4 (17#32)) fun r4=>
 Option.bind (J3 x4 (19#32)) fun r5=>
 if 0≤y5∧y5 < (64:Int) then (
 Option.bind (some ((y6.setIfInBounds y5.toNat (((x5+((r2 ^^^ r3) ^^^ (x3 / (8#32))))+x6)+((r4 ^^^ r5) ^^^ (x4 / (1024#32))))))) fun x7=>
 some (.next (w64 (y5+(1:Int)),x7))) else none) else (
 some (.brk (y5,y6)))
def V9 (p_b:List (BitVec 8)):Option (Vector (BitVec 32) 64):=
 Option.bind (Jd (fun (s:Int×(Vector (BitVec 32) 64))=>Xb p_b s.1 s.2) FU ((0:Int),(Vector.replicate 64 (0#32)))) fun (s2:Int×(Vector (BitVec 32) 64))=>
 Option.bind (Jd (fun (s:Int×(Vector (BitVec 32) 64))=>Xc s.1 s.2) FU ((16:Int),s2.2)) fun (s1:Int×(Vector (BitVec 32) 64))=>
 some s1.2
def WF : Option (Vector (BitVec 32) 64):=
 Option.bind (some (#v[1116352408#32,1899447441#32,3049323471#32,3921009573#32,961987163#32,1508970993#32,2453635748#32,2870763221#32,3624381080#32,310598401#32,607225278#32,1426881987#32,1925078388#32,2162078206#32,2614888103#32,3248222580#32,3835390401#32,4022224774#32,264347078#32,604807628#32,770255983#32,1249150122#32,1555081692#32,1996064986#32,2554220882#32,2821834349#32,2952996808#32,3210313671#32,3336571891#32,3584528711#32,113926993#32,338241895#32,666307205#32,773529912#32,1294757372#32,1396182291#32,1695183700#32,1986661051#32,2177026350#32,2456956037#32,2730485921#32,2820302411#32,3259730800#32,3345764771#32,3516065817#32,3600352804#32,4094571909#32,275423344#32,430227734#32,506948616#32,659060556#32,883997877#32,958139571#32,1322822218#32,1537002063#32,1747873779#32,1955562222#32,2024104815#32,2227730452#32,2361852424#32,2428436474#32,2756734187#32,3204031479#32,3329325298#32])) fun x1=>
 some x1
def Xq (r2:(Vector (BitVec 32) 64)) (r1:(Vector (BitVec 32) 64)) (y1:Int) (y2:Vector (BitVec 32) 8):Option (LR (Int×(Vector (BitVec 32) 8)) Empty):=
 if (decide (y1 < (64:Int)))=true then (
 Option.bind (some (((y2[4])&&& (y2[5])) ||| (((4294967295#32) - (y2[4]))&&& (y2[6])))) fun x1=>
 Option.bind (some ((((y2[0])&&& (y2[1])) ||| ((y2[0])&&& (y2[2]))) ||| ((y2[1])&&& (y2[2])))) fun x2=>
 Option.bind (J3 (y2[4]) (6#32)) fun r3=>
 Option.bind (J3 (y2[4]) (11#32)) fun r4=>
 Option.bind (J3 (y2[4]) (25#32)) fun r5=>
 Option.bind (KI r2 y1) fun x3=>
 Option.bind (KI r1 y1) fun x4=>
 Option.bind (some (((((y2[7])+((r3 ^^^ r4) ^^^ r5))+x1)+x3)+x4)) fun x5=>
 Option.bind (J3 (y2[0]) (2#32)) fun r6=>
 Option.bind (J3 (y2[0]) (13#32)) fun r7=>
 Option.bind (J3 (y2[0]) (22#32)) fun r8=>
 Option.bind (some (#v[x5+(((r6 ^^^ r7) ^^^ r8)+x2),y2[0],y2[1],y2[2],(y2[3])+x5,y2[4],y2[5],y2[6]])) fun x6=>
 some (.next (w64 (y1+(1:Int)),x6))) else (
 some (.brk (y1,y2)))
def Xn (y4:Vector (BitVec 32) 8) (y5:Int) (y6:Vector (BitVec 32) 8):Option (LR (Int×(Vector (BitVec 32) 8)) Empty):=
 if (decide (y5 < (8:Int)))=true then (
 Option.bind (KI y6 y5) fun x7=>
 Option.bind (KI y4 y5) fun x8=>
 if 0≤y5∧y5 < (8:Int) then (
 some (.next (w64 (y5+(1:Int)),(y6.setIfInBounds y5.toNat (x7+x8))))) else none) else (
 some (.brk (y5,y6)))
def Kz (p_h:Vector (BitVec 32) 8) (p_block:List (BitVec 8)):Option (Vector (BitVec 32) 8):=
 Option.bind (V9 p_block) fun r1=>
 Option.bind (WF) fun r2=>
 Option.bind (Jd (fun (s:Int×(Vector (BitVec 32) 8))=>Xq r2 r1 s.1 s.2) FU ((0:Int),p_h)) fun (s2:Int×(Vector (BitVec 32) 8))=>
 Option.bind (Jd (fun (s:Int×(Vector (BitVec 32) 8))=>Xn s2.2 s.1 s.2) FU ((0:Int),p_h)) fun (s1:Int×(Vector (BitVec 32) 8))=>
 some s1.2
def XN (r2:(List (BitVec 8))) (y1:Int) (y2:Vector (BitVec 32) 8):Option (LR (Int×(Vector (BitVec 32) 8)) Empty):=
 if (decide (y1 < (r2.length:Int)))=true then (
 Option.bind (JZ r2 y1 (w64 (y1+(64:Int)))) fun x1=>
 Option.bind (Kz y2 x1) fun r3=>
 some (.next (w64 (y1+(64:Int)),r3))) else (
 some (.brk (y1,y2)))
def XM (y4:Vector (BitVec 32) 8) (y5:Int) (y6:Qa):Option (LR (Int×Qa) Empty):=
 if (decide (y5 < (32:Int)))=true then (
 Option.bind (KI y4 (w64 (Int.tdiv y5 (4:Int)))) fun x2=>
 if 0≤y5∧y5 < (32:Int) then (
 Option.bind (some ((y6.setIfInBounds y5.toNat ((x2 >>> (((24#32) - ((8#32)*(BitVec.ofInt 32 (Int.tmod y5 (4:Int))))).toNat)).setWidth 8)))) fun x3=>
 some (.next (w64 (y5+(1:Int)),x3))) else none) else (
 some (.brk (y5,y6)))
def Yl (p_b:List (BitVec 8)):Option Qa:=
 Option.bind (K4) fun r1=>
 Option.bind (VK p_b) fun r2=>
 Option.bind (Jd (fun (s:Int×(Vector (BitVec 32) 8))=>XN r2 s.1 s.2) FU ((0:Int),r1)) fun (s2:Int×(Vector (BitVec 32) 8))=>
 Option.bind (Jd (fun (s:Int×Qa)=>XM s2.2 s.1 s.2) FU ((0:Int),(Vector.replicate 32 (0#8)))) fun (s1:Int×Qa)=>
 some s1.2
def Yb (p_id:QX) (p_q:BitVec 32) (p_i:Int) (p_b:List (BitVec 8)):Option Qa:=
 if ([]:List (BitVec 8)).length+p_id.toList.length≤AP then (
 Option.bind (Jy (p_q.setWidth 64) (4:Int)) fun r1=>
 if (([]:List (BitVec 8))++p_id.toList).length+r1.length≤AP then (
 Option.bind (Jy (BitVec.ofInt 64 p_i) (2:Int)) fun r2=>
 if ((([]:List (BitVec 8))++p_id.toList)++r1).length+r2.length≤AP then (
 if (((([]:List (BitVec 8))++p_id.toList)++r1)++r2).length+p_b.length≤AP then (
 Option.bind (Yl ((((([]:List (BitVec 8))++p_id.toList)++r1)++r2)++p_b)) fun r3=>
 some r3) else none) else none) else none) else none
def Kp (p_c:BitVec 8) (p_b:List (BitVec 8)):Option (List (BitVec 8)):=
 if ([p_c]).length+p_b.length≤AP then (
 some (([p_c])++p_b)) else none
def Y9 (p_to:Int) (p_id:QX) (p_q:BitVec 32) (p_i:Int) (y1:Int) (y2:Qa):Option (LR (Int×Qa) Empty):=
 if (decide (y1 < p_to))=true then (
 Option.bind (Kp (BitVec.ofInt 8 y1) y2.toList) fun r1=>
 Option.bind (Yb p_id p_q p_i r1) fun r2=>
 some (.next (w64 (y1+(1:Int)),r2))) else (
 some (.brk (y1,y2)))
def Ka (p_id:QX) (p_q:BitVec 32) (p_i:Int) (p_h:Qa) (p_from:Int) (p_to:Int):Option Qa:=
 Option.bind (Jd (fun (s:Int×Qa)=>Y9 p_to p_id p_q p_i s.1 s.2) FU (p_from,p_h)) fun (s1:Int×Qa)=>
 some s1.2
def VC (p_kind:Int):Option Int:=
 if (decide (p_kind=(1:Int)))=true then (
 some (265:Int)) else (
 if (decide (p_kind=(2:Int)))=true then (
 some (133:Int)) else (
 if (decide (p_kind=(3:Int)))=true then (
 some (67:Int)) else (
 if (decide (p_kind=(4:Int)))=true then (
 some (34:Int)) else (
 some (0:Int)))))
def UR (p_kind:Int) (y1:Int) (y2:Int):Option (LR (Int×Int) Empty):=
 Option.bind (YB p_kind) fun r1=>
 if (decide (y2 < r1))=true then (
 some (.next (w64 ((2:Int)*y1),w64 (y2+(1:Int))))) else (
 some (.brk (y1,y2)))
def Vu (p_kind:Int):Option Int:=
 Option.bind (Jd (fun (s:Int×Int)=>UR p_kind s.1 s.2) FU ((1:Int),(0:Int))) fun (s1:Int×Int)=>
 some (w64 (s1.1 - (1:Int)))
def Z0 (p_id:QX) (p_r:Int) (p_under:Int) (p_b:List (BitVec 8)):Option Qa:=
 if ([]:List (BitVec 8)).length+p_id.toList.length≤AP then (
 Option.bind (Jy (BitVec.ofInt 64 p_r) (4:Int)) fun r1=>
 if (([]:List (BitVec 8))++p_id.toList).length+r1.length≤AP then (
 Option.bind (Jy (BitVec.ofInt 64 p_under) (2:Int)) fun r2=>
 if ((([]:List (BitVec 8))++p_id.toList)++r1).length+r2.length≤AP then (
 if (((([]:List (BitVec 8))++p_id.toList)++r1)++r2).length+p_b.length≤AP then (
 Option.bind (Yl ((((([]:List (BitVec 8))++p_id.toList)++r1)++r2)++p_b)) fun r3=>
 some r3) else none) else none) else none) else none
def V0 (p_a:Qa) (p_b:Qa):Option (List (BitVec 8)):=
 if ([]:List (BitVec 8)).length+p_a.toList.length≤AP then (
 if (([]:List (BitVec 8))++p_a.toList).length+p_b.toList.length≤AP then (
 some ((([]:List (BitVec 8))++p_a.toList)++p_b.toList)) else none) else none
def Yp (p_bits:Int) (y3:Int) (y4:Int):Option (LR (Int×Int) Empty):=
 if (decide (y4 < p_bits))=true then (
 some (.next (w64 (Int.tdiv y3 (2:Int)),w64 (y4+(1:Int))))) else (
 some (.brk (y3,y4)))
def Y8 (p_bits:Int) (y1:Int) (y2:Int):Option (LR (Int×Int) Empty):=
 if (decide (y2 < (w64 ((w64 (Int.tdiv (8:Int) p_bits)) - (1:Int)))))=true then (
 Option.bind (Jd (fun (s:Int×Int)=>Yp p_bits s.1 s.2) FU (y1,(0:Int))) fun (s1:Int×Int)=>
 some (.next (s1.1,w64 (y2+(1:Int))))) else (
 some (.brk (y1,y2)))
def Kd (p_bits:Int) (y9:Int) (y10:Int):Option (LR (Int×Int) Empty):=
 if (decide (y10 < p_bits))=true then (
 some (.next (w64 ((2:Int)*y9),w64 (y10+(1:Int))))) else (
 some (.brk (y9,y10)))
def X2 (p_b:List (BitVec 8)) (p_n:Int) (p_bits:Int):Option Int:=
 if p_bits≠0 then (
 if w64 (Int.tdiv (8:Int) p_bits)≠0 then (
 Option.bind (JU p_b (w64 (Int.tdiv p_n (w64 (Int.tdiv (8:Int) p_bits))))) fun x1=>
 if w64 (Int.tdiv (8:Int) p_bits)≠0 then (
 Option.bind (some (Int.tmod p_n (w64 (Int.tdiv (8:Int) p_bits)))) fun x2=>
 Option.bind (Jd (fun (s:Int×Int)=>Y8 p_bits s.1 s.2) FU ((x1.toNat:Int),x2)) fun (s3:Int×Int)=>
 Option.bind (Jd (fun (s:Int×Int)=>Kd p_bits s.1 s.2) FU ((1:Int),(0:Int))) fun (s2:Int×Int)=>
 if s2.1≠0 then (
 some (Int.tmod s3.1 s2.1)) else none) else none) else none) else none
def ZH (r1:Int) (p_kind:Int) (p_h:Qa) (y1:Int) (y2:Int):Option (LR (Int×Int) Empty):=
 if r1≠0 then (
 if (decide (y2 < (w64 (Int.tdiv (256:Int) r1))))=true then (
 Option.bind (Vu p_kind) fun r2=>
 Option.bind (X2 p_h.toList y2 r1) fun r3=>
 some (.next (w64 (y1+(w64 (r2 - r3))),w64 (y2+(1:Int))))) else (
 some (.brk (y1,y2)))) else none
def Z9 (x2:Int) (y5:Int) (y6:Int):Option (LR (Int×Int) Empty):=
 if (decide (y6 < x2))=true then (
 some (.next (w64 ((2:Int)*y5),w64 (y6+(1:Int))))) else (
 some (.brk (y5,y6)))
def Yd (p_kind:Int) (p_h:Qa) (r4:(List (BitVec 8))) (r1:Int) (y9:Int) (y10:List Int):Option (LR (Int×(List Int)) Empty):=
 Option.bind (VC p_kind) fun r5=>
 if (decide (y9 < r5))=true then (
 Option.bind (X2 ((([]:List (BitVec 8))++p_h.toList)++r4) y9 r1) fun r6=>
 if y10.length+([r6]).length≤AP then (
 some (.next (w64 (y9+(1:Int)),(y10++([r6]))))) else none) else (
 some (.brk (y9,y10)))
def VJ (p_kind:Int) (p_h:Qa):Option (List Int):=
 Option.bind (YB p_kind) fun r1=>
 if (decide (r1=(0:Int)))=true then (
 some ([]:List Int)) else (
 Option.bind (Jd (fun (s:Int×Int)=>ZH r1 p_kind p_h s.1 s.2) FU ((0:Int),(0:Int))) fun (s3:Int×Int)=>
 Option.bind (some (#v[(0:Int),(7:Int),(6:Int),(4:Int),(0:Int)])) fun x1=>
 Option.bind (KI x1 p_kind) fun x2=>
 Option.bind (Jd (fun (s:Int×Int)=>Z9 x2 s.1 s.2) FU (s3.1,(0:Int))) fun (s2:Int×Int)=>
 if ([]:List (BitVec 8)).length+p_h.toList.length≤AP then (
 Option.bind (Jy (BitVec.ofInt 64 s2.1) (2:Int)) fun r4=>
 if (([]:List (BitVec 8))++p_h.toList).length+r4.length≤AP then (
 Option.bind (Jd (fun (s:Int×(List Int))=>Yd p_kind p_h r4 r1 s.1 s.2) FU ((0:Int),([]:List Int))) fun (s1:Int×(List Int))=>
 some s1.2) else none) else none)
def VL (p_id:QX) (p_q:BitVec 32) (p_salt:List (BitVec 8)) (p_message:List (BitVec 8)):Option Qa:=
 if ([]:List (BitVec 8)).length+p_salt.length≤AP then (
 if (([]:List (BitVec 8))++p_salt).length+p_message.length≤AP then (
 Option.bind (Yb p_id p_q (33153:Int) ((([]:List (BitVec 8))++p_salt)++p_message)) fun r1=>
 some r1) else none) else none
def YI (p_a:List (BitVec 8)) (p_b:List (BitVec 8)) (y1:Int):Option (LR Int Bool):=
 if (decide (y1 < (p_a.length:Int)))=true then (
 Option.bind (JU p_a y1) fun x1=>
 Option.bind (JU p_b y1) fun x2=>
 if (!decide (x1=x2))=true then (
 some (.ret false)) else (
 some (.next (w64 (y1+(1:Int)))))) else (
 some (.brk y1))
def Vj (p_a:List (BitVec 8)) (p_b:List (BitVec 8)):Option Bool:=
 if (!decide ((p_a.length:Int)=(p_b.length:Int)))=true then (
 some false) else (
 Option.bind (Yf (fun (s:Int)=>YI p_a p_b s) FU (0:Int)) fun o=>match o with
 | .inl (s1:Int)=>(
 some true)
 | .inr x=>some x)
def U9 (p_b:List (BitVec 8)):Option ((List (BitVec 8))×Bool):=
 Option.bind (J0 p_b) fun r1=>
 Option.bind (some ((r1,false))) fun x1=>
 some x1
def Z3 (p_r:(List (BitVec 8))×Bool) (p_n:Int):Option (((List (BitVec 8))×Bool)×(List (BitVec 8))):=
 Option.bind (some p_r.2) fun y1=>
 if (y1)=true then (
 some ((p_r.1,p_r.2),([]:List (BitVec 8)))) else (
 Option.bind (if (decide (p_n < (0:Int)))=true then (
 some true) else (
 some (decide ((p_r.1.length:Int) < p_n)))) fun y2=>
 if (y2)=true then (
 some ((p_r.1,true),([]:List (BitVec 8)))) else (
 Option.bind (JZ p_r.1 0 p_n) fun x1=>
 Option.bind (JZ p_r.1 p_n (p_r.1.length:Int)) fun x2=>
 some ((x2,p_r.2),x1)))
def Y1 (x1:List (BitVec 8)) (y3:BitVec 64) (y4:Int):Option (LR ((BitVec 64)×Int) Empty):=
 if (decide (y4 < (x1.length:Int)))=true then (
 Option.bind (JU x1 y4) fun x2=>
 some (.next ((y3 <<< 8) ||| (x2.setWidth 64),w64 (y4+(1:Int))))) else (
 some (.brk (y3,y4)))
def X1 (p_r:(List (BitVec 8))×Bool) (p_bytes:Int):Option ((BitVec 64)×Bool):=
 Option.bind (some p_r.2) fun y1=>
 Option.bind (if (y1)=true then (
 some true) else (
 some (decide ((p_r.1.length:Int) < p_bytes)))) fun y2=>
 if (y2)=true then (
 some (0#64,false)) else (
 Option.bind (JZ p_r.1 0 p_bytes) fun x1=>
 Option.bind (Jd (fun (s:(BitVec 64)×Int)=>Y1 x1 s.1 s.2) FU (0#64,(0:Int))) fun (s1:(BitVec 64)×Int)=>
 some (s1.1,true))
def YK (p_r:(List (BitVec 8))×Bool) (p_bytes:Int):Option (((List (BitVec 8))×Bool)×(BitVec 64)):=
 Option.bind (X1 (p_r.1,p_r.2) p_bytes) fun r1=>
 Option.bind (Z3 (p_r.1,p_r.2) p_bytes) fun r2=>
 if (!r1.2)=true then (
 some ((r2.1.1,r2.1.2),0#64)) else (
 some ((r2.1.1,r2.1.2),r1.1))
def JF (p_r:(List (BitVec 8))×Bool):Option (((List (BitVec 8))×Bool)×(BitVec 32)):=
 Option.bind (YK (p_r.1,p_r.2) (4:Int)) fun r1=>
 some ((r1.1.1,r1.1.2),r1.2.setWidth 32)
def Ja (p_r:(List (BitVec 8))×Bool) (p_n:Int):Option (((List (BitVec 8))×Bool)×(List (BitVec 8))):=
 Option.bind (Z3 (p_r.1,p_r.2) p_n) fun r1=>
 some ((r1.1.1,r1.1.2),r1.2)
def Yk (p_r:(List (BitVec 8))×Bool):Option Int:=
 some (p_r.1.length:Int)
def ZZ (p_r:(List (BitVec 8))×Bool):Option Bool:=
 Option.bind (some p_r.2) fun y1=>
 some y1
def KT (p_r:(List (BitVec 8))×Bool):Option Bool:=
 Option.bind (ZZ (p_r.1,p_r.2)) fun r1=>
 Option.bind (if (!r1)=true then (
 Option.bind (Yk (p_r.1,p_r.2)) fun r2=>
 some (decide (r2=(0:Int)))) else (
 some false)) fun y1=>
 some y1
def KF (p_height:Int) (y1:Int) (y2:List (BitVec 8)) (y3:Bool) (y4:List Qa):Option (LR (Int×(List (BitVec 8))×Bool×(List Qa)) Empty):=
 if (decide (y1 < p_height))=true then (
 Option.bind (Ja (y2,y3) (32:Int)) fun r7=>
 Option.bind (WT 32 r7.2) fun x2=>
 if y4.length+([x2]).length≤AP then (
 some (.next (w64 (y1+(1:Int)),r7.1.1,r7.1.2,(y4++([x2]))))) else none) else (
 some (.brk (y1,y2,y3,y4)))
def Ws (p_b:List (BitVec 8)) (p_height:Int) (p_kind:Int):Option (BC×Bool):=
 Option.bind (WV p_height p_kind) fun r1=>
 if (!decide ((p_b.length:Int)=r1))=true then (
 Option.bind (some ((0,([]:List (BitVec 8)),([]:List Qa)))) fun x1=>
 some (x1,false)) else (
 Option.bind (U9 p_b) fun r2=>
 Option.bind (JF (r2.1,r2.2)) fun r3=>
 Option.bind (Ba p_kind) fun r4=>
 Option.bind (Ja (r3.1.1,r3.1.2) r4) fun r5=>
 Option.bind (JF (r5.1.1,r5.1.2)) fun r6=>
 Option.bind (Jd (fun (s:Int×(List (BitVec 8))×Bool×(List Qa))=>KF p_height s.1 s.2.1 s.2.2.1 s.2.2.2) FU ((0:Int),r6.1.1,r6.1.2,([]:List Qa))) fun (s1:Int×(List (BitVec 8))×Bool×(List Qa))=>
 Option.bind (KT (s1.2.1,s1.2.2.1)) fun r8=>
 Option.bind (if (r8)=true then (
 some (decide ((r6.2.toNat:Int)=p_height))) else (
 some false)) fun y9=>
 Option.bind (if (y9)=true then (
 if 0≤p_height then (
 some (decide ((((r3.2.toNat:Int),r5.2,s1.2.2.2).1) < (KD (1:Int) p_height)))) else none) else (
 some false)) fun y10=>
 Option.bind (if (y10)=true then (
 Option.bind (U9 (((r3.2.toNat:Int),r5.2,s1.2.2.2).2.1)) fun r9=>
 Option.bind (JF (r9.1,r9.2)) fun r10=>
 some (decide ((r10.2.toNat:Int)=p_kind))) else (
 some false)) fun y11=>
 some (((r3.2.toNat:Int),r5.2,s1.2.2.2),y11))
def X0 (r7:(List Int)) (r3:J8×Bool) (p_id:QX) (p_q:BitVec 32) (y2:Int) (y3:List Qa) (y4:List (BitVec 8)) (y5:Bool):Option (LR (Int×(List Qa)×(List (BitVec 8))×Bool) Empty):=
 if (decide (y2 < (r7.length:Int)))=true then (
 Option.bind (JU r7 y2) fun x2=>
 Option.bind (Ja (y4,y5) (32:Int)) fun r8=>
 Option.bind (WT 32 r8.2) fun x3=>
 Option.bind (Xh r3.1) fun r9=>
 Option.bind (Ko p_id p_q y2 x3 x2 r9) fun r10=>
 if 0≤y2∧y2 < (y3.length:Int) then (
 some (.next (w64 (y2+(1:Int)),(y3.set y2.toNat r10),r8.1.1,r8.1.2))) else none) else (
 some (.brk (y2,y3,y4,y5)))
def Wi (p_id:QX) (p_q:BitVec 32) (p_message:List (BitVec 8)) (p_signature:List (BitVec 8)):Option (Qa×Bool):=
 Option.bind (U9 p_signature) fun r1=>
 Option.bind (JF (r1.1,r1.2)) fun r2=>
 Option.bind (Wb (r2.2.toNat:Int)) fun r3=>
 Option.bind (if (!r3.2)=true then (
 some true) else (
 Option.bind (Ba (r2.2.toNat:Int)) fun r4=>
 some (!decide ((p_signature.length:Int)=r4)))) fun y1=>
 if (y1)=true then (
 some ((Vector.replicate 32 (0#8)),false)) else (
 Option.bind (Ja (r2.1.1,r2.1.2) (32:Int)) fun r5=>
 if 0≤r3.1.2.1∧r3.1.2.1≤(4294967296:Int) then (
 Option.bind (some (List.replicate r3.1.2.1.toNat (Vector.replicate 32 (0#8)))) fun x1=>
 Option.bind (XR p_id p_q (33153:Int) ([r5.2,p_message])) fun r6=>
 Option.bind (Vs r3.1 r6) fun r7=>
 Option.bind (Jd (fun (s:Int×(List Qa)×(List (BitVec 8))×Bool)=>X0 r7 r3 p_id p_q s.1 s.2.1 s.2.2.1 s.2.2.2) FU ((0:Int),x1,r5.1.1,r5.1.2)) fun (s1:Int×(List Qa)×(List (BitVec 8))×Bool)=>
 Option.bind (U2 p_id p_q s1.2.1) fun r11=>
 some (r11,true)) else none)
def Ua (p_path:List Qa) (p_id:QX) (y1:Int) (y2:Int) (y3:Qa):Option (LR (Int×Int×Qa) Empty):=
 if (decide (y2 < (p_path.length:Int)))=true then (
 Option.bind (JU p_path y2) fun x1=>
 Option.bind (if (decide ((Int.tmod y1 (2:Int))=(1:Int)))=true then (
 some (y3,x1)) else (
 some (x1,y3))) fun (j1:Qa×Qa)=>
 Option.bind (B9 p_id (w64 (Int.tdiv y1 (2:Int))) j1.2 j1.1) fun r1=>
 some (.next (w64 (Int.tdiv y1 (2:Int)),w64 (y2+(1:Int)),r1))) else (
 some (.brk (y1,y2,y3)))
def Qae (p_id:QX) (p_r:Int) (p_h:Qa) (p_path:List Qa):Option Qa:=
 Option.bind (Jd (fun (s:Int×Int×Qa)=>Ua p_path p_id s.1 s.2.1 s.2.2) FU (p_r,(0:Int),p_h)) fun (s1:Int×Int×Qa)=>
 some s1.2.2
def Z7 (p_s1:List (BitVec 8)) (p_s2:List (BitVec 8)) (y1:Int):Option (LR Int Bool):=
 if (decide (y1 < (p_s1.length:Int)))=true then (
 Option.bind (JU p_s1 y1) fun x1=>
 Option.bind (JU p_s2 y1) fun x2=>
 if (!decide (x1=x2))=true then (
 some (.ret false)) else (
 some (.next (w64 (y1+(1:Int)))))) else (
 some (.brk y1))
def XB (p_s1:List (BitVec 8)) (p_s2:List (BitVec 8)):Option Bool:=
 if (!decide ((p_s1.length:Int)=(p_s2.length:Int)))=true then (
 some false) else (
 Option.bind (Yf (fun (s:Int)=>Z7 p_s1 p_s2 s) FU (0:Int)) fun o=>match o with
 | .inl (s1:Int)=>(
 some true)
 | .inr x=>some x)
def Bc (p_public:List (BitVec 8)) (p_message:List (BitVec 8)) (p_sig:List (BitVec 8)):Option Bool:=
 if (!decide ((p_public.length:Int)=(56:Int)))=true then (
 some false) else (
 Option.bind (U9 p_public) fun r1=>
 Option.bind (JF (r1.1,r1.2)) fun r2=>
 Option.bind (JF (r2.1.1,r2.1.2)) fun r3=>
 Option.bind (Ja (r3.1.1,r3.1.2) (16:Int)) fun r4=>
 Option.bind (WT 16 r4.2) fun x1=>
 Option.bind (Ja (r4.1.1,r4.1.2) (32:Int)) fun r5=>
 Option.bind (B0 (r2.2.toNat:Int) (r3.2.toNat:Int)) fun r6=>
 if (!r6)=true then (
 some false) else (
 Option.bind (Ws p_sig (r2.2.toNat:Int) (r3.2.toNat:Int)) fun r7=>
 if (!r7.2)=true then (
 some false) else (
 Option.bind (Wi x1 (BitVec.ofInt 32 r7.1.1) p_message r7.1.2.1) fun r8=>
 if (!r8.2)=true then (
 some false) else (
 if 0≤(r2.2.toNat:Int) then (
 Option.bind (some (w64 ((KD (1:Int) (r2.2.toNat:Int))+r7.1.1))) fun x2=>
 Option.bind (Qam x1 x2 r8.1) fun r9=>
 Option.bind (Qae x1 x2 r9 r7.1.2.2) fun r10=>
 Option.bind (XB r10.toList r5.2) fun r11=>
 some r11) else none))))
def ql (p_public:List (BitVec 8)) (p_message:List (BitVec 8)) (p_signature:List (BitVec 8)):Option Bool:=
 if (!decide ((p_public.length:Int)=(60:Int)))=true then (
 some false) else (
 Option.bind (U9 p_public) fun r1=>
 Option.bind (JF (r1.1,r1.2)) fun r2=>
 if (!decide (r2.2=(2#32)))=true then (
 some false) else (
 Option.bind (JF (r2.1.1,r2.1.2)) fun r3=>
 Option.bind (JF (r3.1.1,r3.1.2)) fun r4=>
 Option.bind (U9 p_signature) fun r5=>
 Option.bind (JF (r5.1,r5.2)) fun r6=>
 if (!decide (r6.2=(1#32)))=true then (
 some false) else (
 Option.bind (WV (r3.2.toNat:Int) (r4.2.toNat:Int)) fun r7=>
 Option.bind (Ja (r6.1.1,r6.1.2) r7) fun r8=>
 Option.bind (Ja (r8.1.1,r8.1.2) (56:Int)) fun r9=>
 Option.bind (Yk (r9.1.1,r9.1.2)) fun r10=>
 Option.bind (Ja (r9.1.1,r9.1.2) r10) fun r11=>
 Option.bind (ZZ (r11.1.1,r11.1.2)) fun r12=>
 Option.bind (if (!r12)=true then (
 Option.bind (JZ p_public (4:Int) (p_public.length:Int)) fun x1=>
 Option.bind (Bc x1 r9.2 r8.2) fun r13=>
 some r13) else (
 some false)) fun y1=>
 Option.bind (if (y1)=true then (
 Option.bind (Bc r9.2 p_message r11.2) fun r14=>
 some r14) else (
 some false)) fun y2=>
 some y2)))
def Wq (p_s:Qy) (p_public:List (BitVec 8)):Option Bool:=
 Option.bind (Wu p_s.1) fun r1=>
 Option.bind (if (decide (r1.2=(0:Int)))=true then (
 Option.bind (ql p_public r1.1 p_s.2) fun r2=>
 some r2) else (
 some false)) fun y1=>
 some y1
def Ys (p_s:Int×Int×Qa×(Option QF)×(Option QF)×Int):Option (List (BitVec 8)):=
 Option.bind (Kj p_s.2.2.2.1) fun r1=>
 Option.bind (Zp ([[0#8,0#8,0#8,2#8],r1])) fun r2=>
 some r2
def XO : Option (Int×Int×Qa×(Option QF)×(Option QF)×Int):=
 Option.bind (some (#v[27#8,0#8,0#8,0#8,0#8,0#8,0#8,0#8,0#8,0#8,0#8,0#8,0#8,0#8,0#8,0#8,0#8,0#8,0#8,0#8,0#8,0#8,0#8,0#8,0#8,0#8,0#8,0#8,0#8,0#8,0#8,0#8])) fun x1=>
 Option.bind (Qb0 (1:Int) (2:Int) (3:Int) x1) fun r1=>
 Option.bind (r1.1) fun x2=>
 some (x2.1,x2.2.1,x2.2.2.1,x2.2.2.2.1,x2.2.2.2.2.1,x2.2.2.2.2.2)
def Be (p_public:List (BitVec 8)):Option ((List (BitVec 8))×(List Qy)×(List QC)×(List QU)):=
 Option.bind (J0 p_public) fun r1=>
 some (r1,([]:List Qy),([]:List QC),([]:List QU))
def Yo (p_s:Qy) (p_e:Int):Option Int:=
 some (w64 (p_s.1.1 - p_e))
def QV (p_x:List Qy) (p_target:Int) (y1:Int) (y2:Int):Option (LR (Int×Int) Empty):=
 if (decide (y1 < y2))=true then (
 Option.bind (some (w64 (((BitVec.ofInt 64 (w64 (y1+y2))) >>> 1).toNat:Int))) fun x1=>
 Option.bind (JU p_x x1) fun x2=>
 Option.bind (Yo x2 p_target) fun r1=>
 if (decide (r1 < (0:Int)))=true then (
 some (.next (w64 (x1+(1:Int)),y2))) else (
 some (.next (y1,x1)))) else (
 some (.brk (y1,y2)))
def Jp (p_x:List Qy) (p_target:Int):Option (Int×Bool):=
 Option.bind (Jd (fun (s:Int×Int)=>QV p_x p_target s.1 s.2) FU ((0:Int),(p_x.length:Int))) fun (s1:Int×Int)=>
 Option.bind (if (decide (s1.1 < (p_x.length:Int)))=true then (
 Option.bind (JU p_x s1.1) fun x3=>
 Option.bind (Yo x3 p_target) fun r2=>
 some (decide (r2=(0:Int)))) else (
 some false)) fun y5=>
 some (s1.1,y5)
def J2 (p_p:Option ZJ) (p_e:Int):Option (Int×Bool):=
 Option.bind (p_p) fun x1=>
 Option.bind (Jp x1.2.1 p_e) fun r1=>
 some (r1.1,r1.2)
def Kl (p_f:QC) (q_0:Int):Option Bool:=
 some (decide (p_f.1.1.1=q_0))
def Jx (p_s:List QC) (k1_0:Int) (y1:Int):Option (LR Int Int):=
 if (decide (y1 < (p_s.length:Int)))=true then (
 Option.bind (JU p_s y1) fun x1=>
 Option.bind (Kl x1 k1_0) fun r1=>
 if (r1)=true then (
 some (.ret y1)) else (
 some (.next (w64 (y1+(1:Int)))))) else (
 some (.brk y1))
def JP (p_s:List QC) (k1_0:Int):Option Int:=
 Option.bind (Yf (fun (s:Int)=>Jx p_s k1_0 s) FU (0:Int)) fun o=>match o with
 | .inl (s1:Int)=>(
 some (-1:Int))
 | .inr x=>some x
def JJ (p_s:List QC) (k1_0:Int):Option Bool:=
 Option.bind (JP p_s k1_0) fun r1=>
 some (decide ((0:Int)≤r1))
def V3 (p_p:Option ZJ) (p_e:Int):Option Bool:=
 Option.bind (p_p) fun x1=>
 Option.bind (JJ x1.2.2.1 p_e) fun r1=>
 some r1
def Xw (p_s:Qy):Option Qy:=
 Option.bind (J0 p_s.2) fun r1=>
 some (p_s.1,r1)
def YQ (p_s:List Qy) (p_i:Int) (p_v:List Qy):Option (List Qy):=
 if 0≤p_i∧p_i≤(p_s.length:Int)∧p_v.length=1∧p_s.length≤1000000 then some (p_s.take p_i.toNat++p_v++p_s.drop p_i.toNat) else none
def Zx (p_p:(List (BitVec 8))×(List Qy)×(List QC)×(List QU)) (p_s:Qy):Option (((List (BitVec 8))×(List Qy)×(List QC)×(List QU))×Int):=
 Option.bind (Wq p_s p_p.1) fun r1=>
 if (!r1)=true then (
 some ((p_p.1,p_p.2.1,p_p.2.2.1,p_p.2.2.2),(8:Int))) else (
 Option.bind (J2 (some (p_p.1,p_p.2.1,p_p.2.2.1,p_p.2.2.2)) p_s.1.1) fun r2=>
 Option.bind (if (r2.2)=true then (
 Option.bind (JU p_p.2.1 r2.1) fun x1=>
 some (decide (x1.1=p_s.1))) else (
 some false)) fun y1=>
 if (y1)=true then (
 some ((p_p.1,p_p.2.1,p_p.2.2.1,p_p.2.2.2),(11:Int))) else (
 if (r2.2)=true then (
 Option.bind (V3 (some (p_p.1,p_p.2.1,p_p.2.2.1,p_p.2.2.2)) p_s.1.1) fun r3=>
 Option.bind (if (!r3)=true then (
 Option.bind (JU p_p.2.1 r2.1) fun x2=>
 Option.bind (Xw x2) fun r4=>
 Option.bind (Xw p_s) fun r5=>
 Option.bind (some ((r4,r5))) fun x3=>
 if p_p.2.2.1.length+([x3]).length≤AP then (
 some (p_p.2.2.1++([x3]))) else none) else (
 some p_p.2.2.1)) fun y2=>
 some ((p_p.1,p_p.2.1,y2,p_p.2.2.2),(9:Int))) else (
 Option.bind (some (decide ((64:Int)≤(p_p.2.1.length:Int)))) fun x4=>
 if (x4)=true then (
 some ((p_p.1,p_p.2.1,p_p.2.2.1,p_p.2.2.2),(5:Int))) else (
 Option.bind (Xw p_s) fun r6=>
 Option.bind (YQ p_p.2.1 r2.1 ([r6])) fun r7=>
 some ((p_p.1,r7,p_p.2.2.1,p_p.2.2.2),(0:Int))))))
def Zj (p_s:Int×Int×Qa×(Option QF)×(Option QF)×Int) (p_h:Zi):Option ((Int×Int×Qa×(Option QF)×(Option QF)×Int)×Qy):=
 Option.bind (WB (p_s.1,p_s.2.1,p_s.2.2.1,p_s.2.2.2.1,p_s.2.2.2.2.1,p_s.2.2.2.2.2) (w64 (((BitVec.ofInt 64 p_h.1) % (8#64)).toNat:Int)) p_h) fun r1=>
 some ((r1.1.1,r1.1.2.1,r1.1.2.2.1,r1.1.2.2.2.1,r1.1.2.2.2.2.1,r1.1.2.2.2.2.2),(p_h,r1.2.1.2))
def XD {Sy:Type} (x1:ZJ) (q_1:Int) (yl:Sy→Int→Option Sy) (y1:Int) (y2:Sy):Option (LR (Int×Sy) Empty):=
 if (decide (y1 < (x1.2.2.2.length:Int)))=true then (
 Option.bind (JU x1.2.2.2 y1) fun x2=>
 if (decide (x2.1=q_1))=true then (
 Option.bind (yl y2 x2.2) fun y3=>
 some (.next (w64 (y1+(1:Int)),y3))) else (
 some (.next (w64 (y1+(1:Int)),y2)))) else (
 some (.brk (y1,y2)))
def VD {Sy:Type} (yl:Sy→Int→Option Sy) (q_0:Option ZJ) (q_1:Int) (s0:Sy):Option Sy:=
 Option.bind (q_0) fun x1=>
 Option.bind (Jd (fun (s:Int×Sy)=>XD x1 q_1 yl s.1 s.2) FU ((0:Int),s0)) fun (s1:Int×Sy)=>
 some s1.2
def XX (y4:List Int) (d:Int) (y5:Int):Option (LR Int Int):=
 if (decide (y5 < (y4.length:Int)))=true then (
 Option.bind (JU y4 y5) fun x3=>
 if (decide (x3=d))=true then (
 some (.ret y5)) else (
 some (.next (w64 (y5+(1:Int)))))) else (
 some (.brk y5))
def ZQ (y4:List Int) (d:Int):Option (List Int):=
 Option.bind (Yf (fun (s:Int)=>XX y4 d s) FU (0:Int)) fun o=>match o with
 | .inl (s1:Int)=>(
 if y4.length+([d]).length≤AP then (
 some (y4++([d]))) else none)
 | .inr (s1:Int)=>(
 some y4)
def Zz (p_n:Int) (p_p:Option ZJ) (y2:Int) (y3:List Int):Option (LR (Int×(List Int)) Bool):=
 if (decide (y2 < (y3.length:Int)))=true then (
 Option.bind (JU y3 y2) fun x1=>
 if (decide (x1=p_n))=true then (
 some (.ret true)) else (
 Option.bind (JU y3 y2) fun x2=>
 Option.bind (VD (fun (s:(List Int)) (d:Int)=>ZQ s d) p_p x2 y3) fun (s2:(List Int))=>
 some (.next (w64 (y2+(1:Int)),s2)))) else (
 some (.brk (y2,y3)))
def Jz (p_p:Option ZJ) (p_m:Int) (p_n:Int):Option Bool:=
 if (p_p.isNone)=true then (
 some false) else (
 Option.bind (J2 p_p p_m) fun r1=>
 Option.bind (J2 p_p p_n) fun r2=>
 Option.bind (if (!r1.2)=true then (
 some true) else (
 some (!r2.2))) fun y1=>
 if (y1)=true then (
 some false) else (
 Option.bind (Yf (fun (s:Int×(List Int))=>Zz p_n p_p s.1 s.2) FU ((0:Int), [p_m])) fun o=>match o with
 | .inl (s3:Int×(List Int))=>(
 some false)
 | .inr x=>some x))
def Xp (p_p:(List (BitVec 8))×(List Qy)×(List QC)×(List QU)) (y1:Int) (y2:List Qy):Option (LR (Int×(List Qy)) Empty):=
 if (decide (y1 < (p_p.2.1.length:Int)))=true then (
 Option.bind (JU p_p.2.1 y1) fun x1=>
 Option.bind (Xw x1) fun r1=>
 if y2.length+([r1]).length≤AP then (
 some (.next (w64 (y1+(1:Int)),(y2++([r1]))))) else none) else (
 some (.brk (y1,y2)))
def Vq (p_p:(List (BitVec 8))×(List Qy)×(List QC)×(List QU)):Option (List Qy):=
 Option.bind (Jd (fun (s:Int×(List Qy))=>Xp p_p s.1 s.2) FU ((0:Int),([]:List Qy))) fun (s1:Int×(List Qy))=>
 some s1.2
def X5 : Option Bool:=
 Option.bind (XO) fun r1=>
 Option.bind (Ys (r1.1,r1.2.1,r1.2.2.1,r1.2.2.2.1,r1.2.2.2.2.1,r1.2.2.2.2.2)) fun r2=>
 Option.bind (Be r2) fun r3=>
 Option.bind (some (((3:Int),(1:Int),(Vector.replicate 32 (0#8)),(Vector.replicate 32 (0#8))))) fun x1=>
 Option.bind (Zj (r1.1,r1.2.1,r1.2.2.1,r1.2.2.2.1,r1.2.2.2.2.1,r1.2.2.2.2.2) x1) fun r4=>
 Option.bind (Zx (r3.1,r3.2.1,r3.2.2.1,r3.2.2.2) r4.2) fun r5=>
 Option.bind (if (decide (r5.2=(0:Int)))=true then (
 Option.bind (Vq (r5.1.1,r5.1.2.1,r5.1.2.2.1,r5.1.2.2.2)) fun r6=>
 some (decide ((r6.length:Int)=(1:Int)))) else (
 some false)) fun y1=>
 Option.bind (if (y1)=true then (
 Option.bind (Jz (some (r5.1.1,r5.1.2.1,r5.1.2.2.1,r5.1.2.2.2)) (3:Int) (3:Int)) fun r7=>
 some r7) else (
 some false)) fun y2=>
 some y2
def Kx (p_b:List (BitVec 8)):Option Qa:=
 if ([0#8]).length+p_b.length≤AP then (
 Option.bind (Yl (([0#8])++p_b)) fun r1=>
 some r1) else none
def V4 (p_epoch:Int) (p_tree:Qa):Option Qa:=
 Option.bind (Jy ((BitVec.ofInt 64 p_epoch) % (4294967296#64)) (4:Int)) fun r1=>
 if r1.length+p_tree.toList.length≤AP then (
 Option.bind (Kx (r1++p_tree.toList)) fun r2=>
 some r2) else none
def Xr (p_n:Int) (y1:Int) (y2:List Qa):Option (LR (Int×(List Qa)) Empty):=
 if (decide (y1≤p_n))=true then (
 Option.bind (some (#v[BitVec.ofInt 8 y1,0#8,0#8,0#8,0#8,0#8,0#8,0#8,0#8,0#8,0#8,0#8,0#8,0#8,0#8,0#8,0#8,0#8,0#8,0#8,0#8,0#8,0#8,0#8,0#8,0#8,0#8,0#8,0#8,0#8,0#8,0#8])) fun x1=>
 Option.bind (V4 y1 x1) fun r1=>
 if y2.length+([r1]).length≤AP then (
 some (.next (w64 (y1+(1:Int)),(y2++([r1]))))) else none) else (
 some (.brk (y1,y2)))
def Vd (p_n:Int):Option (List Qa):=
 Option.bind (Jd (fun (s:Int×(List Qa))=>Xr p_n s.1 s.2) FU ((1:Int),([]:List Qa))) fun (s1:Int×(List Qa))=>
 some s1.2
def Ky (p_a:Qa) (p_b:Qa):Option (List (BitVec 8)):=
 if ([1#8]).length+p_a.toList.length≤AP then (
 if (([1#8])++p_a.toList).length+p_b.toList.length≤AP then (
 some ((([1#8])++p_a.toList)++p_b.toList)) else none) else none
def XH (p_a:Qa) (p_b:Qa):Option Qa:=
 Option.bind (Ky p_a p_b) fun r1=>
 Option.bind (Yl r1) fun r2=>
 some r2
def KA (p_l:List Qa) (y1:Int):Option (LR Int Empty):=
 if (decide (y1 < (w64 ((p_l.length:Int) - y1))))=true then (
 some (.next (w64 ((2:Int)*y1)))) else (
 some (.brk y1))
def VN (rc:(List Qa)→Option Qa) (p_l:List Qa):Option Qa:=
 if (decide ((p_l.length:Int)=(0:Int)))=true then (
 Option.bind (Yl ([]:List (BitVec 8))) fun r1=>
 some r1) else (
 if (decide ((p_l.length:Int)=(1:Int)))=true then (
 Option.bind (JU p_l (0:Int)) fun x1=>
 some x1) else (
 Option.bind (Jd (fun (s:Int)=>KA p_l s) FU (1:Int)) fun (s1:Int)=>
 Option.bind (JZ p_l 0 s1) fun x2=>
 Option.bind (rc x2) fun r2=>
 Option.bind (JZ p_l s1 (p_l.length:Int)) fun x3=>
 Option.bind (rc x3) fun r3=>
 Option.bind (XH r2 r3) fun r4=>
 some r4))
def VH : Nat→(List Qa)→Option Qa
  | 0=>fun _=>none
  | n+1=>VN (VH n)
def WQ (p_l:List Qa):Option Qa:=VH FU p_l
def UV (p_from:Int) (p_to:Int):Option Bool:=
 Option.bind (if (decide ((0:Int)≤p_from))=true then (
 some (decide (p_from≤p_to))) else (
 some false)) fun y1=>
 Option.bind (if (y1)=true then (
 some (decide (p_to≤(2147483647:Int)))) else (
 some false)) fun y2=>
 some y2
def Uh (p_x:BitVec 64):Option Int:=
 Option.bind (if (decide ((4294967296#64)≤p_x))=true then (
 some (p_x >>> 32,(32:Int))) else (
 some (p_x,(0:Int)))) fun (j1:(BitVec 64)×Int)=>
 Option.bind (if (decide ((65536#64)≤j1.1))=true then (
 some (j1.1 >>> 16,w64 (j1.2+(16:Int)))) else (
 some (j1.1,j1.2))) fun (j2:(BitVec 64)×Int)=>
 Option.bind (if (decide ((256#64)≤j2.1))=true then (
 some (j2.1 >>> 8,w64 (j2.2+(8:Int)))) else (
 some (j2.1,j2.2))) fun (j3:(BitVec 64)×Int)=>
 Option.bind (JU S_0 ((j3.1.setWidth 8).toNat:Int)) fun x1=>
 some (w64 (j3.2+(x1.toNat:Int)))
def Wc (p_x:BitVec 64):Option Int:=
 Option.bind (Uh p_x) fun r1=>
 some r1
def YW (p_x:BitVec 64):Option Int:=
 if (decide (p_x=(0#64)))=true then (
 some (64:Int)) else (
 Option.bind (KI Z6 ((((p_x&&& (-p_x))*(285870213051353865#64)) >>> 58).toNat:Int)) fun x1=>
 some (x1.toNat:Int))
def Xs (p_x:BitVec 64):Option Int:=
 Option.bind (YW p_x) fun r1=>
 some r1
def VZ (p_from:Int) (p_to:Int):Option Int:=
 Option.bind (Wc (BitVec.ofInt 64 (w64 (p_to - p_from)))) fun r1=>
 if 0≤w64 (r1 - (1:Int)) then (
 if (decide ((0:Int) < p_from))=true then (
 Option.bind (Xs (BitVec.ofInt 64 p_from)) fun r2=>
 if 0≤r2 then (
 Option.bind (some (if KD (1:Int) r2 < KD (1:Int) (w64 (r1 - (1:Int))) then KD (1:Int) r2 else KD (1:Int) (w64 (r1 - (1:Int))))) fun x1=>
 some x1) else none) else (
 some (KD (1:Int) (w64 (r1 - (1:Int)))))) else none
def Kw (p_to:Int) (y1:Int) (y2:List Int):Option (LR (Int×(List Int)) Empty):=
 if (decide (y1 < p_to))=true then (
 Option.bind (VZ y1 p_to) fun r2=>
 if y2.length+([r2]).length≤AP then (
 some (.next (w64 (y1+r2),(y2++([r2]))))) else none) else (
 some (.brk (y1,y2)))
def Yz (p_from:Int) (p_to:Int):Option (List Int):=
 Option.bind (UV p_from p_to) fun r1=>
 if (!r1)=true then (
 some ([]:List Int)) else (
 Option.bind (Jd (fun (s:Int×(List Int))=>Kw p_to s.1 s.2) FU (p_from,([]:List Int))) fun (s1:Int×(List Int))=>
 some s1.2)
def Vw (p_r:QE):Option Bool:=
 Option.bind (UV p_r.1 p_r.2.1) fun r1=>
 Option.bind (if (r1)=true then (
 Option.bind (Yz p_r.1 p_r.2.1) fun r2=>
 some (decide ((r2.length:Int)=(p_r.2.2.length:Int)))) else (
 some false)) fun y1=>
 some y1
def Us (p_a:Qa) (p_b:Qa):Option Qa:=
 Option.bind (Zp ([[1#8],p_a.toList,p_b.toList])) fun r1=>
 Option.bind (WP r1) fun r2=>
 some r2
def ZA (y1:QP) (y2:List QP):Option (LR (QP×(List QP)) Empty):=
 if (decide ((0:Int) < (y2.length:Int)))=true then (
 Option.bind (JU y2 (w64 ((y2.length:Int) - (1:Int)))) fun x1=>
 Option.bind (if (!decide (x1.2.1=y1.2.1))=true then (
 some true) else (
 if w64 ((2:Int)*x1.2.1)≠0 then (
 some (!decide ((Int.tmod x1.1 (w64 ((2:Int)*x1.2.1)))=(0:Int)))) else none)) fun y3=>
 if (y3)=true then (
 some (.brk (y1,y2))) else (
 Option.bind (Us x1.2.2 y1.2.2) fun r1=>
 Option.bind (some ((x1.1,w64 ((2:Int)*x1.2.1),r1))) fun x2=>
 if 0≤w64 ((y2.length:Int) - (1:Int))∧w64 ((y2.length:Int) - (1:Int))≤(y2.length:Int) then (
 some (.next (x2,(y2.take (w64 ((y2.length:Int) - (1:Int))).toNat)))) else none)) else (
 some (.brk (y1,y2)))
def Kc (p_s:List QP) (p_p:QP):Option (List QP):=
 Option.bind (Jd (fun (s:QP×(List QP))=>ZA s.1 s.2) FU (p_p,p_s)) fun (s1:QP×(List QP))=>
 if s1.2.length+([s1.1]).length≤AP then (
 some (s1.2++([s1.1]))) else none
def Yj (p_s:List QP) (y1:Int) (y2:List Qa):Option (LR (Int×(List Qa)) Empty):=
 if (decide (y1 < (p_s.length:Int)))=true then (
 Option.bind (JU p_s y1) fun x1=>
 if y2.length+([x1.2.2]).length≤AP then (
 some (.next (w64 (y1+(1:Int)),(y2++([x1.2.2]))))) else none) else (
 some (.brk (y1,y2)))
def Y7 (p_s:List QP):Option (List Qa):=
 Option.bind (Jd (fun (s:Int×(List Qa))=>Yj p_s s.1 s.2) FU ((0:Int),([]:List Qa))) fun (s1:Int×(List Qa))=>
 some s1.2
def Yi (r3:(List Int)) (x1:QE) (y5:Int) (y6:Int) (y7:List QP):Option (LR (Int×Int×(List QP)) Empty):=
 if (decide (y6 < (r3.length:Int)))=true then (
 Option.bind (JU r3 y6) fun x2=>
 Option.bind (JU x1.2.2 y6) fun x3=>
 Option.bind (some ((y5,x2,x3))) fun x4=>
 Option.bind (Kc y7 x4) fun r4=>
 some (.next (w64 (y5+x2),w64 (y6+(1:Int)),r4))) else (
 some (.brk (y5,y6,y7)))
def YO (p_a:QE) (p_b:QE) (y3:Int) (y4:List QP):Option (LR (Int×(List QP)) Empty):=
 if (decide (y3 < (([p_a,p_b]).length:Int)))=true then (
 Option.bind (JU ([p_a,p_b]) y3) fun x1=>
 Option.bind (Yz x1.1 x1.2.1) fun r3=>
 Option.bind (Jd (fun (s:Int×Int×(List QP))=>Yi r3 x1 s.1 s.2.1 s.2.2) FU (x1.1,(0:Int),y4)) fun (s1:Int×Int×(List QP))=>
 some (.next (w64 (y3+(1:Int)),s1.2.2))) else (
 some (.brk (y3,y4)))
def KE (p_a:QE) (p_b:QE):Option (QE×Int):=
 Option.bind (Vw p_a) fun r1=>
 Option.bind (if (!r1)=true then (
 some true) else (
 Option.bind (Vw p_b) fun r2=>
 some (!r2))) fun y1=>
 Option.bind (if (y1)=true then (
 some true) else (
 some (!decide (p_a.2.1=p_b.1)))) fun y2=>
 if (y2)=true then (
 some ((0,0,([]:List Qa)),(1:Int))) else (
 Option.bind (Jd (fun (s:Int×(List QP))=>YO p_a p_b s.1 s.2) FU ((0:Int),([]:List QP))) fun (s2:Int×(List QP))=>
 Option.bind (Y7 s2.2) fun r5=>
 Option.bind (some ((p_a.1,p_b.2.1,r5))) fun x5=>
 some (x5,(0:Int)))
def VV (p_r:QE) (y2:Int) (y3:Qa):Option (LR (Int×Qa) Empty):=
 if (decide ((0:Int)≤y2))=true then (
 Option.bind (JU p_r.2.2 y2) fun x2=>
 Option.bind (Us x2 y3) fun r3=>
 some (.next (w64 (y2 - (1:Int)),r3))) else (
 some (.brk (y2,y3)))
def Wd (p_r:QE):Option (Qa×Int):=
 Option.bind (Vw p_r) fun r1=>
 Option.bind (if (!r1)=true then (
 some true) else (
 some (!decide (p_r.1=(0:Int))))) fun y1=>
 if (y1)=true then (
 some ((Vector.replicate 32 (0#8)),(1:Int))) else (
 if (decide ((p_r.2.2.length:Int)=(0:Int)))=true then (
 Option.bind (WP ([]:List (BitVec 8))) fun r2=>
 some (r2,(0:Int))) else (
 Option.bind (JU p_r.2.2 (w64 ((p_r.2.2.length:Int) - (1:Int)))) fun x1=>
 Option.bind (Jd (fun (s:Int×Qa)=>VV p_r s.1 s.2) FU (w64 ((p_r.2.2.length:Int) - (2:Int)),x1)) fun (s1:Int×Qa)=>
 some (s1.2,(0:Int))))
def Zh (x2:List QE) (y1:Int) (y2:QE):Option (LR (Int×QE) Bool):=
 if (decide (y1 < (x2.length:Int)))=true then (
 Option.bind (JU x2 y1) fun x3=>
 Option.bind (KE y2 x3) fun r1=>
 if (!decide (r1.2=(0:Int)))=true then (
 some (.ret false)) else (
 some (.next (w64 (y1+(1:Int)),r1.1)))) else (
 some (.brk (y1,y2)))
def Kn (p_root:Qa) (p_l:List QE):Option Bool:=
 Option.bind (JU p_l (0:Int)) fun x1=>
 Option.bind (JZ p_l (1:Int) (p_l.length:Int)) fun x2=>
 Option.bind (Yf (fun (s:Int×QE)=>Zh x2 s.1 s.2) FU ((0:Int),x1)) fun o=>match o with
 | .inl (s1:Int×QE)=>(
 Option.bind (Wd s1.2) fun r2=>
 Option.bind (if (decide (r2.2=(0:Int)))=true then (
 some (decide (r2.1=p_root))) else (
 some false)) fun y5=>
 some y5)
 | .inr x=>some x
def UI (p_t:Xe) (p_m:Int) (p_n:Int) (p_old:Qa) (p_root:Qa):Option Bool:=
 Option.bind (if (decide (p_m < (0:Int)))=true then (
 some true) else (
 some (decide (p_n < p_m)))) fun y1=>
 Option.bind (if (y1)=true then (
 some true) else (
 some (decide ((2147483647:Int) < p_n)))) fun y2=>
 if (y2)=true then (
 some false) else (
 Option.bind (some ((0,p_m,p_t.1))) fun x1=>
 Option.bind (some ((p_m,p_n,p_t.2))) fun x2=>
 Option.bind (Kn p_old ([x1])) fun r1=>
 Option.bind (if (r1)=true then (
 Option.bind (Kn p_root ([x1,x2])) fun r2=>
 some r2) else (
 some false)) fun y3=>
 some y3)
def Ze (p_s:List QU) (p_v:QU) (y1:Int):Option (LR Int Int):=
 if (decide (y1 < (p_s.length:Int)))=true then (
 Option.bind (JU p_s y1) fun x1=>
 if (decide (p_v=x1))=true then (
 some (.ret y1)) else (
 some (.next (w64 (y1+(1:Int)))))) else (
 some (.brk y1))
def ZR (p_s:List QU) (p_v:QU):Option Int:=
 Option.bind (Yf (fun (s:Int)=>Ze p_s p_v s) FU (0:Int)) fun o=>match o with
 | .inl (s1:Int)=>(
 some (-1:Int))
 | .inr x=>some x
def Zf (p_s:List QU) (p_v:QU):Option Bool:=
 Option.bind (ZR p_s p_v) fun r1=>
 some (decide ((0:Int)≤r1))
def Yn (p_p:(List (BitVec 8))×(List Qy)×(List QC)×(List QU)) (p_m:Int) (p_n:Int) (p_t:Xe):Option (((List (BitVec 8))×(List Qy)×(List QC)×(List QU))×Int):=
 Option.bind (some (decide (p_m < (1:Int)))) fun y1=>
 Option.bind (if (y1)=true then (
 some true) else (
 some (decide (p_n≤p_m)))) fun y2=>
 if (y2)=true then (
 some ((p_p.1,p_p.2.1,p_p.2.2.1,p_p.2.2.2),(1:Int))) else (
 Option.bind (J2 (some (p_p.1,p_p.2.1,p_p.2.2.1,p_p.2.2.2)) p_m) fun r1=>
 Option.bind (J2 (some (p_p.1,p_p.2.1,p_p.2.2.1,p_p.2.2.2)) p_n) fun r2=>
 Option.bind (if (!r1.2)=true then (
 some true) else (
 some (!r2.2))) fun y3=>
 if (y3)=true then (
 some ((p_p.1,p_p.2.1,p_p.2.2.1,p_p.2.2.2),(12:Int))) else (
 Option.bind (JU p_p.2.1 r1.1) fun x1=>
 Option.bind (JU p_p.2.1 r2.1) fun x2=>
 Option.bind (UI p_t p_m p_n x1.1.2.2.2 x2.1.2.2.2) fun r3=>
 if (!r3)=true then (
 some ((p_p.1,p_p.2.1,p_p.2.2.1,p_p.2.2.2),(9:Int))) else (
 Option.bind (some ((p_m,p_n))) fun x3=>
 Option.bind (Zf p_p.2.2.2 x3) fun r4=>
 if (!r4)=true then (
 if p_p.2.2.2.length+([x3]).length≤AP then (
 some ((p_p.1,p_p.2.1,p_p.2.2.1,(p_p.2.2.2++([x3]))),(0:Int))) else none) else (
 some ((p_p.1,p_p.2.1,p_p.2.2.1,p_p.2.2.2),(0:Int))))))
def VW (p_from:Int) (p_to:Int):Option Bool:=
 Option.bind (if (decide ((0:Int)≤p_from))=true then (
 some (decide (p_from≤p_to))) else (
 some false)) fun y1=>
 Option.bind (if (y1)=true then (
 some (decide (p_to≤(2147483647:Int)))) else (
 some false)) fun y2=>
 some y2
def YJ (p_to:Int) (p_from:Int) (y1:Int):Option (LR Int Empty):=
 Option.bind (if (decide ((w64 ((2:Int)*y1))≤(w64 (p_to - p_from))))=true then (
 if w64 ((2:Int)*y1)≠0 then (
 some (decide ((Int.tmod p_from (w64 ((2:Int)*y1)))=(0:Int)))) else none) else (
 some false)) fun y2=>
 if (y2)=true then (
 some (.next (w64 ((2:Int)*y1)))) else (
 some (.brk y1))
def Vv (p_from:Int) (p_to:Int):Option Int:=
 Option.bind (Jd (fun (s:Int)=>YJ p_to p_from s) FU (1:Int)) fun (s1:Int)=>
 some s1
def X9 (p_to:Int) (y1:Int) (y2:List Int):Option (LR (Int×(List Int)) Empty):=
 if (decide (y1 < p_to))=true then (
 Option.bind (Vv y1 p_to) fun r2=>
 if y2.length+([r2]).length≤AP then (
 some (.next (w64 (y1+r2),(y2++([r2]))))) else none) else (
 some (.brk (y1,y2)))
def ZP (p_from:Int) (p_to:Int):Option (List Int):=
 Option.bind (VW p_from p_to) fun r1=>
 if (!r1)=true then (
 some ([]:List Int)) else (
 Option.bind (Jd (fun (s:Int×(List Int))=>X9 p_to s.1 s.2) FU (p_from,([]:List Int))) fun (s1:Int×(List Int))=>
 some s1.2)
def Zc (p_sizes:List Int) (y1:Int) (y2:Int):Option (LR (Int×Int) Int):=
 if (decide ((w64 (y2+(1:Int))) < (p_sizes.length:Int)))=true then (
 Option.bind (JU p_sizes y2) fun x1=>
 Option.bind (JU p_sizes (w64 (y2+(1:Int)))) fun x2=>
 Option.bind (if (decide (x1=x2))=true then (
 Option.bind (JU p_sizes y2) fun x3=>
 if w64 ((2:Int)*x3)≠0 then (
 some (decide ((Int.tmod y1 (w64 ((2:Int)*x3)))=(0:Int)))) else none) else (
 some false)) fun y3=>
 if (y3)=true then (
 some (.ret y2)) else (
 Option.bind (JU p_sizes y2) fun x4=>
 some (.next (w64 (y1+x4),w64 (y2+(1:Int)))))) else (
 some (.brk (y1,y2)))
def V7 (p_from:Int) (p_sizes:List Int):Option Int:=
 Option.bind (Yf (fun (s:Int×Int)=>Zc p_sizes s.1 s.2) FU (p_from,(0:Int))) fun o=>match o with
 | .inl (s1:Int×Int)=>(
 some (-1:Int))
 | .inr x=>some x
def Vn (p_sizes:List Int) (p_l:List Qa) (p_i:Int):Option ((List Int)×(List Qa)):=
 Option.bind (JZ p_sizes 0 p_i) fun x1=>
 if ([]:List Int).length+x1.length≤AP then (
 Option.bind (JU p_sizes p_i) fun x2=>
 if (([]:List Int)++x1).length+([w64 ((2:Int)*x2)]).length≤AP then (
 Option.bind (JZ p_sizes (w64 (p_i+(2:Int))) (p_sizes.length:Int)) fun x3=>
 if ((([]:List Int)++x1)++([w64 ((2:Int)*x2)])).length+x3.length≤AP then (
 Option.bind (JZ p_l 0 p_i) fun x4=>
 if ([]:List Qa).length+x4.length≤AP then (
 Option.bind (JU p_l p_i) fun x5=>
 Option.bind (JU p_l (w64 (p_i+(1:Int)))) fun x6=>
 Option.bind (XH x5 x6) fun r1=>
 if (([]:List Qa)++x4).length+([r1]).length≤AP then (
 Option.bind (JZ p_l (w64 (p_i+(2:Int))) (p_l.length:Int)) fun x7=>
 if ((([]:List Qa)++x4)++([r1])).length+x7.length≤AP then (
 some ((((([]:List Int)++x1)++([w64 ((2:Int)*x2)]))++x3),(((([]:List Qa)++x4)++([r1]))++x7))) else none) else none) else none) else none) else none) else none
def VM (p_l:List Zw) (y1:Int):Option (LR Int Bool):=
 Option.bind (if (decide (y1 < (p_l.length:Int)))=true then (
 some (decide (y1 < (100:Int)))) else (
 some false)) fun y2=>
 if (y2)=true then (
 Option.bind (JU p_l y1) fun x1=>
 Option.bind (if (decide ((70:Int) < (x1.2.2.2.2.2.1.length:Int)))=true then (
 some true) else (
 Option.bind (JU p_l y1) fun x2=>
 some (decide ((70:Int) < (x2.2.2.2.2.2.2.length:Int))))) fun y3=>
 if (y3)=true then (
 some (.ret false)) else (
 some (.next (w64 (y1+(1:Int)))))) else (
 some (.brk y1))
def KS (p_l:List Zw) (p_n:Int):Option Bool:=
 Option.bind (Yf (fun (s:Int)=>VM p_l s) FU (0:Int)) fun o=>match o with
 | .inl (s1:Int)=>(
 some (decide ((p_l.length:Int)≤p_n)))
 | .inr x=>some x
def Vm (p_s:Int×Int×Qa×(Option QF)×(Option QF)×Int) (p_o:Zw):Option ((Int×Int×Qa×(Option QF)×(Option QF)×Int)×Qy):=
 Option.bind (Zj (p_s.1,p_s.2.1,p_s.2.2.1,p_s.2.2.2.1,p_s.2.2.2.2.1,p_s.2.2.2.2.2) p_o.2.1) fun r1=>
 if (p_o.2.2.1&&decide ((0:Int) < (r1.2.2.length:Int)))=true then (
 Option.bind (JU r1.2.2 (w64 (Int.tdiv (r1.2.2.length:Int) 2))) fun x1=>
 some (r1.1,(r1.2.1,r1.2.2.set (w64 (Int.tdiv (r1.2.2.length:Int) 2)).toNat (x1+1#8)))) else (
 some r1)
def Vk (p_kind:Int):Option Int:=
 Option.bind (YB p_kind) fun r1=>
 if (decide (r1=(0:Int)))=true then (
 some (0:Int)) else (
 Option.bind (VC p_kind) fun r2=>
 Option.bind (some (w64 ((36:Int)+(w64 ((32:Int)*r2))))) fun x1=>
 some x1)
def Y6 (p_height:Int) (p_kind:Int):Option Int:=
 Option.bind (Z1 p_height p_kind) fun r1=>
 if (decide (r1=(0:Int)))=true then (
 some (0:Int)) else (
 Option.bind (Vk p_kind) fun r2=>
 Option.bind (some (w64 ((w64 ((w64 ((4:Int)+r2))+(4:Int)))+(w64 ((32:Int)*p_height))))) fun x1=>
 some x1)
def ZW (r4:(List Int)) (p_sig:List (BitVec 8)) (r1:(BitVec 64)) (p_id:QX) (p_q:BitVec 32) (y3:Int) (y4:List (BitVec 8)):Option (LR (Int×(List (BitVec 8))) Empty):=
 if (decide (y3 < (r4.length:Int)))=true then (
 Option.bind (JZ p_sig (w64 ((36:Int)+(w64 ((32:Int)*y3)))) (w64 ((68:Int)+(w64 ((32:Int)*y3))))) fun x3=>
 Option.bind (WT 32 x3) fun x4=>
 Option.bind (JU r4 y3) fun x5=>
 Option.bind (Vu (w64 (r1.toNat:Int))) fun r5=>
 Option.bind (Ka p_id p_q y3 x4 x5 r5) fun r6=>
 if y4.length+r6.toList.length≤AP then (
 some (.next (w64 (y3+(1:Int)),(y4++r6.toList)))) else none) else (
 some (.brk (y3,y4)))
def Vf (p_id:QX) (p_q:BitVec 32) (p_message:List (BitVec 8)) (p_sig:List (BitVec 8)):Option (Qa×Bool):=
 if (decide ((p_sig.length:Int) < (36:Int)))=true then (
 some ((Vector.replicate 32 (0#8)),false)) else (
 Option.bind (JZ p_sig 0 (4:Int)) fun x1=>
 Option.bind (JN x1) fun r1=>
 Option.bind (if (decide (r1 < (1#64)))=true then (
 some true) else (
 some (decide ((4#64) < r1)))) fun y1=>
 Option.bind (if (y1)=true then (
 some true) else (
 Option.bind (Vk (w64 (r1.toNat:Int))) fun r2=>
 some (!decide ((p_sig.length:Int)=r2)))) fun y2=>
 if (y2)=true then (
 some ((Vector.replicate 32 (0#8)),false)) else (
 Option.bind (JZ p_sig (4:Int) (36:Int)) fun x2=>
 Option.bind (VL p_id p_q x2 p_message) fun r3=>
 Option.bind (VJ (w64 (r1.toNat:Int)) r3) fun r4=>
 Option.bind (Jd (fun (s:Int×(List (BitVec 8)))=>ZW r4 p_sig r1 p_id p_q s.1 s.2) FU ((0:Int),([]:List (BitVec 8)))) fun (s1:Int×(List (BitVec 8)))=>
 Option.bind (Yb p_id p_q (32896:Int) s1.2) fun r7=>
 some (r7,true)))
def Z8 (r1:(BitVec 64)) (p_sig:List (BitVec 8)) (r5:Int) (x4:QX) (y6:Int) (y7:Int) (y8:Qa):Option (LR (Int×Int×Qa) Empty):=
 if (decide (y7 < (w64 (r1.toNat:Int))))=true then (
 Option.bind (JZ p_sig (w64 ((w64 ((8:Int)+r5))+(w64 ((32:Int)*y7)))) (w64 ((w64 ((40:Int)+r5))+(w64 ((32:Int)*y7))))) fun x9=>
 Option.bind (WT 32 x9) fun x10=>
 if (decide ((Int.tmod y6 (2:Int))=(0:Int)))=true then (
 Option.bind (V0 y8 x10) fun r13=>
 Option.bind (Z0 x4 (w64 (Int.tdiv y6 (2:Int))) (33667:Int) r13) fun r14=>
 some (.next (w64 (Int.tdiv y6 (2:Int)),w64 (y7+(1:Int)),r14))) else (
 Option.bind (V0 x10 y8) fun r15=>
 Option.bind (Z0 x4 (w64 (Int.tdiv y6 (2:Int))) (33667:Int) r15) fun r16=>
 some (.next (w64 (Int.tdiv y6 (2:Int)),w64 (y7+(1:Int)),r16)))) else (
 some (.brk (y6,y7,y8)))
def XL (p_public:List (BitVec 8)) (p_message:List (BitVec 8)) (p_sig:List (BitVec 8)):Option Bool:=
 if (!decide ((p_public.length:Int)=(56:Int)))=true then (
 some false) else (
 Option.bind (JZ p_public 0 (4:Int)) fun x1=>
 Option.bind (JN x1) fun r1=>
 Option.bind (JZ p_public (4:Int) (8:Int)) fun x2=>
 Option.bind (JN x2) fun r2=>
 Option.bind (if (decide ((4#64) < r1))=true then (
 some true) else (
 some (decide ((4#64) < r2)))) fun y1=>
 Option.bind (if (y1)=true then (
 some true) else (
 Option.bind (Z1 (w64 (r1.toNat:Int)) (w64 (r2.toNat:Int))) fun r3=>
 some (decide (r3=(0:Int))))) fun y2=>
 Option.bind (if (y2)=true then (
 some true) else (
 Option.bind (Y6 (w64 (r1.toNat:Int)) (w64 (r2.toNat:Int))) fun r4=>
 some (!decide ((p_sig.length:Int)=r4)))) fun y3=>
 if (y3)=true then (
 some false) else (
 Option.bind (JZ p_public (8:Int) (24:Int)) fun x3=>
 Option.bind (WT 16 x3) fun x4=>
 Option.bind (Vk (w64 (r2.toNat:Int))) fun r5=>
 Option.bind (JZ p_sig 0 (4:Int)) fun x5=>
 Option.bind (JN x5) fun r6=>
 Option.bind (Z1 (w64 (r1.toNat:Int)) (w64 (r2.toNat:Int))) fun r7=>
 Option.bind (if (decide ((BitVec.ofInt 64 r7)≤r6))=true then (
 some true) else (
 Option.bind (JZ p_sig (4:Int) (8:Int)) fun x6=>
 Option.bind (JN x6) fun r8=>
 some (!decide (r8=r2)))) fun y4=>
 Option.bind (if (y4)=true then (
 some true) else (
 Option.bind (JZ p_sig (w64 ((4:Int)+r5)) (w64 ((8:Int)+r5))) fun x7=>
 Option.bind (JN x7) fun r9=>
 some (!decide (r9=r1)))) fun y5=>
 if (y5)=true then (
 some false) else (
 Option.bind (JZ p_sig (4:Int) (w64 ((4:Int)+r5))) fun x8=>
 Option.bind (Vf x4 (r6.setWidth 32) p_message x8) fun r10=>
 Option.bind (Z1 (w64 (r1.toNat:Int)) (w64 (r2.toNat:Int))) fun r11=>
 Option.bind (Z0 x4 (w64 (r11+(w64 (r6.toNat:Int)))) (33410:Int) r10.1.toList) fun r12=>
 Option.bind (Jd (fun (s:Int×Int×Qa)=>Z8 r1 p_sig r5 x4 s.1 s.2.1 s.2.2) FU (w64 (r11+(w64 (r6.toNat:Int))),(0:Int),r12)) fun (s1:Int×Int×Qa)=>
 Option.bind (if (r10.2)=true then (
 Option.bind (JZ p_public (24:Int) (56:Int)) fun x11=>
 Option.bind (Vj s1.2.2.toList x11) fun r17=>
 some r17) else (
 some false)) fun y12=>
 some y12)))
def VF (p_public:List (BitVec 8)) (p_message:List (BitVec 8)) (p_sig:List (BitVec 8)):Option Bool:=
 Option.bind (if (!decide ((p_public.length:Int)=(60:Int)))=true then (
 some true) else (
 some (decide ((p_sig.length:Int) < (4:Int))))) fun y1=>
 Option.bind (if (y1)=true then (
 some true) else (
 Option.bind (JZ p_public 0 (4:Int)) fun x1=>
 Option.bind (JN x1) fun r1=>
 some (!decide (r1=(2#64))))) fun y2=>
 Option.bind (if (y2)=true then (
 some true) else (
 Option.bind (JZ p_sig 0 (4:Int)) fun x2=>
 Option.bind (JN x2) fun r2=>
 some (!decide (r2=(1#64))))) fun y3=>
 if (y3)=true then (
 some false) else (
 Option.bind (JZ p_public (4:Int) (8:Int)) fun x3=>
 Option.bind (JN x3) fun r3=>
 Option.bind (JZ p_public (8:Int) (12:Int)) fun x4=>
 Option.bind (JN x4) fun r4=>
 Option.bind (if (decide ((4#64) < r3))=true then (
 some true) else (
 some (decide ((4#64) < r4)))) fun y4=>
 if (y4)=true then (
 some false) else (
 Option.bind (Y6 (w64 (r3.toNat:Int)) (w64 (r4.toNat:Int))) fun r5=>
 Option.bind (if (decide (r5=(0:Int)))=true then (
 some true) else (
 some (decide ((p_sig.length:Int) < (w64 ((60:Int)+r5)))))) fun y5=>
 if (y5)=true then (
 some false) else (
 Option.bind (JZ p_sig (w64 ((4:Int)+r5)) (w64 ((60:Int)+r5))) fun x5=>
 Option.bind (JZ p_public (4:Int) (60:Int)) fun x6=>
 Option.bind (JZ p_sig (4:Int) (w64 ((4:Int)+r5))) fun x7=>
 Option.bind (XL x6 x5 x7) fun r6=>
 Option.bind (if (r6)=true then (
 Option.bind (JZ p_sig (w64 ((60:Int)+r5)) (p_sig.length:Int)) fun x8=>
 Option.bind (XL x5 p_message x8) fun r7=>
 some r7) else (
 some false)) fun y6=>
 some y6)))
def V5 (p_s:Qp) (p_public:List (BitVec 8)):Option Bool:=
 Option.bind (VI p_s.1) fun r1=>
 Option.bind (if (decide (r1.2=(0:Int)))=true then (
 Option.bind (VF p_public r1.1 p_s.2) fun r2=>
 some r2) else (
 some false)) fun y1=>
 some y1
def Xl (p_p:Option JR) (p_e:Int) (y1:Int):Option (LR Int Int):=
 Option.bind (p_p) fun x1=>
 if (decide (y1 < (x1.2.1.length:Int)))=true then (
 Option.bind (p_p) fun x2=>
 Option.bind (JU x2.2.1 y1) fun x3=>
 if (decide (x3.1.1=p_e))=true then (
 some (.ret y1)) else (
 some (.next (w64 (y1+(1:Int)))))) else (
 some (.brk y1))
def ZG (p_p:Option JR) (p_e:Int):Option Int:=
 Option.bind (Yf (fun (s:Int)=>Xl p_p p_e s) FU (0:Int)) fun o=>match o with
 | .inl (s1:Int)=>(
 some (-1:Int))
 | .inr x=>some x
def Ym (p_p:(List (BitVec 8))×(List Qp)×(List QW)×(List (Vector Int 2))) (p_s:Qp) (y1:Bool) (y2:Int):Option (LR (Bool×Int) Empty):=
 if (decide (y2 < (p_p.2.2.1.length:Int)))=true then (
 Option.bind (if (y1)=true then (
 some true) else (
 Option.bind (JU p_p.2.2.1 y2) fun x2=>
 some (decide (x2.1.1.1=p_s.1.1)))) fun y3=>
 some (.next (y3,w64 (y2+(1:Int))))) else (
 some (.brk (y1,y2)))
def XV (p_p:(List (BitVec 8))×(List Qp)×(List QW)×(List (Vector Int 2))) (p_s:Qp):Option (((List (BitVec 8))×(List Qp)×(List QW)×(List (Vector Int 2)))×Int):=
 Option.bind (V5 p_s p_p.1) fun r1=>
 if (!r1)=true then (
 some ((p_p.1,p_p.2.1,p_p.2.2.1,p_p.2.2.2),(8:Int))) else (
 Option.bind (ZG (some (p_p.1,p_p.2.1,p_p.2.2.1,p_p.2.2.2)) p_s.1.1) fun r2=>
 if (decide ((0:Int)≤r2))=true then (
 Option.bind (JU p_p.2.1 r2) fun x1=>
 if (decide (x1.1=p_s.1))=true then (
 some ((p_p.1,p_p.2.1,p_p.2.2.1,p_p.2.2.2),(11:Int))) else (
 Option.bind (Jd (fun (s:Bool×Int)=>Ym p_p p_s s.1 s.2) FU (false,(0:Int))) fun (s1:Bool×Int)=>
 Option.bind (if (!s1.1)=true then (
 Option.bind (JU p_p.2.1 r2) fun x3=>
 Option.bind (some ((x3,p_s))) fun x4=>
 if p_p.2.2.1.length+([x4]).length≤AP then (
 some (p_p.2.2.1++([x4]))) else none) else (
 some p_p.2.2.1)) fun y6=>
 some ((p_p.1,p_p.2.1,y6,p_p.2.2.2),(9:Int)))) else (
 if (decide ((64:Int)≤(p_p.2.1.length:Int)))=true then (
 some ((p_p.1,p_p.2.1,p_p.2.2.1,p_p.2.2.2),(5:Int))) else (
 if p_p.2.1.length+([p_s]).length≤AP then (
 some ((p_p.1,(p_p.2.1++([p_s])),p_p.2.2.1,p_p.2.2.2),(0:Int))) else none)))
def YL (p_s:Qy):Option Qp:=
 Option.bind (some ((p_s.1,p_s.2))) fun x1=>
 some x1
def Xj (r1:(List Int)) (y3:List Qa) (y4:Int) (y5:List Qa):Option (LR ((List Qa)×Int×(List Qa)) Empty):=
 if (decide (y4 < (r1.length:Int)))=true then (
 Option.bind (JU r1 y4) fun x1=>
 Option.bind (JZ y3 0 x1) fun x2=>
 Option.bind (WQ x2) fun r2=>
 if y5.length+([r2]).length≤AP then (
 Option.bind (JU r1 y4) fun x3=>
 Option.bind (JZ y3 x3 (y3.length:Int)) fun x4=>
 some (.next (x4,w64 (y4+(1:Int)),(y5++([r2]))))) else none) else (
 some (.brk (y3,y4,y5)))
def Xg (p_from:Int) (p_l:List Qa):Option (Jq×Int):=
 Option.bind (if (decide (p_from < (0:Int)))=true then (
 some true) else (
 some (decide ((2147483647:Int) < p_from)))) fun y1=>
 Option.bind (if (y1)=true then (
 some true) else (
 some (decide ((w64 ((2147483647:Int) - p_from)) < (p_l.length:Int))))) fun y2=>
 if (y2)=true then (
 some ((0,0,([]:List Qa)),(1:Int))) else (
 Option.bind (ZP p_from (w64 (p_from+(p_l.length:Int)))) fun r1=>
 Option.bind (Jd (fun (s:(List Qa)×Int×(List Qa))=>Xj r1 s.1 s.2.1 s.2.2) FU (p_l,(0:Int),([]:List Qa))) fun (s1:(List Qa)×Int×(List Qa))=>
 Option.bind (some ((p_from,w64 (p_from+(p_l.length:Int)),s1.2.2))) fun x5=>
 some (x5,(0:Int)))
def VE (p_l:List Qa) (p_m:Int):Option (Zt×Int):=
 Option.bind (if (decide (p_m < (0:Int)))=true then (
 some true) else (
 some (decide ((p_l.length:Int) < p_m)))) fun y1=>
 if (y1)=true then (
 Option.bind (some ((([]:List Qa),([]:List Qa)))) fun x1=>
 some (x1,(4:Int))) else (
 Option.bind (JZ p_l 0 p_m) fun x2=>
 Option.bind (Xg (0:Int) x2) fun r1=>
 Option.bind (JZ p_l p_m (p_l.length:Int)) fun x3=>
 Option.bind (Xg p_m x3) fun r2=>
 Option.bind (some ((r1.1.2.2,r2.1.2.2))) fun x4=>
 some (x4,(0:Int)))
def X3 (p_o:Zw):Option Zt:=
 Option.bind (if (!decide (p_o.1=(3:Int)))=true then (
 some true) else (
 some (decide (p_o.2.2.2.1 < (0:Int))))) fun y1=>
 Option.bind (if (y1)=true then (
 some true) else (
 some (decide (p_o.2.2.2.2.1 < p_o.2.2.2.1)))) fun y2=>
 Option.bind (if (y2)=true then (
 some true) else (
 some (decide ((40:Int) < p_o.2.2.2.2.1)))) fun y3=>
 if (y3)=true then (
 some p_o.2.2.2.2.2) else (
 Option.bind (Vd p_o.2.2.2.2.1) fun r1=>
 Option.bind (VE r1 p_o.2.2.2.1) fun r2=>
 some r2.1)
def YZ (p_r:Jq):Option Bool:=
 Option.bind (VW p_r.1 p_r.2.1) fun r1=>
 Option.bind (if (r1)=true then (
 Option.bind (ZP p_r.1 p_r.2.1) fun r2=>
 some (decide ((p_r.2.2.length:Int)=(r2.length:Int)))) else (
 some false)) fun y1=>
 some y1
def VG (rc:(List Qa)→Option Qa) (p_l:List Qa):Option Qa:=
 if (decide ((p_l.length:Int)=(1:Int)))=true then (
 Option.bind (JU p_l (0:Int)) fun x1=>
 some x1) else (
 Option.bind (JU p_l (0:Int)) fun x2=>
 Option.bind (JZ p_l (1:Int) (p_l.length:Int)) fun x3=>
 Option.bind (rc x3) fun r1=>
 Option.bind (XH x2 r1) fun r2=>
 some r2)
def XP : Nat→(List Qa)→Option Qa
  | 0=>fun _=>none
  | n+1=>VG (XP n)
def WL (p_l:List Qa):Option Qa:=XP FU p_l
def Vp (p_r:Jq):Option (Qa×Int):=
 Option.bind (YZ p_r) fun r1=>
 Option.bind (if (!r1)=true then (
 some true) else (
 some (!decide (p_r.1=(0:Int))))) fun y1=>
 if (y1)=true then (
 some ((Vector.replicate 32 (0#8)),(1:Int))) else (
 if (decide ((p_r.2.2.length:Int)=(0:Int)))=true then (
 Option.bind (Yl ([]:List (BitVec 8))) fun r2=>
 some (r2,(0:Int))) else (
 Option.bind (WL p_r.2.2) fun r3=>
 some (r3,(0:Int))))
def Zs (p_a:Jq) (y3:Int) (y4:List Qa) (y5:List Int):Option (LR (Int×(List Qa)×(List Int)) Empty):=
 if (decide ((0:Int)≤y3))=true then (
 Option.bind (V7 p_a.1 y5) fun r5=>
 if (decide ((0:Int)≤r5))=true then (
 Option.bind (Vn y5 y4 r5) fun r6=>
 some (.next (r5,r6.2,r6.1))) else (
 some (.next (r5,y4,y5)))) else (
 some (.brk (y3,y4,y5)))
def Vt (p_a:Jq) (p_b:Jq):Option (Jq×Int):=
 Option.bind (YZ p_a) fun r1=>
 Option.bind (if (!r1)=true then (
 some true) else (
 Option.bind (YZ p_b) fun r2=>
 some (!r2))) fun y1=>
 Option.bind (if (y1)=true then (
 some true) else (
 some (!decide (p_a.2.1=p_b.1)))) fun y2=>
 if (y2)=true then (
 some ((0,0,([]:List Qa)),(1:Int))) else (
 Option.bind (ZP p_a.1 p_a.2.1) fun r3=>
 if ([]:List Int).length+r3.length≤AP then (
 Option.bind (ZP p_b.1 p_b.2.1) fun r4=>
 if (([]:List Int)++r3).length+r4.length≤AP then (
 if ([]:List Qa).length+p_a.2.2.length≤AP then (
 if (([]:List Qa)++p_a.2.2).length+p_b.2.2.length≤AP then (
 Option.bind (Jd (fun (s:Int×(List Qa)×(List Int))=>Zs p_a s.1 s.2.1 s.2.2) FU ((0:Int),((([]:List Qa)++p_a.2.2)++p_b.2.2),((([]:List Int)++r3)++r4))) fun (s1:Int×(List Qa)×(List Int))=>
 Option.bind (some ((p_a.1,p_b.2.1,s1.2.1))) fun x1=>
 some (x1,(0:Int))) else none) else none) else none) else none)
def KU (p_a:Jq) (p_b:Jq) (p_c:Jq):Option (Qa×Bool):=
 Option.bind (Vt p_a p_b) fun r1=>
 Option.bind (Vt r1.1 p_c) fun r2=>
 Option.bind (Vp r2.1) fun r3=>
 Option.bind (if (decide (r1.2=(0:Int)))=true then (
 some (decide (r2.2=(0:Int)))) else (
 some false)) fun y1=>
 Option.bind (if (y1)=true then (
 some (decide (r3.2=(0:Int)))) else (
 some false)) fun y2=>
 some (r3.1,y2)
def XZ (p_t:Zt) (p_m:Int) (p_n:Int) (p_old:Qa) (p_root:Qa):Option Bool:=
 Option.bind (if (decide (p_m < (0:Int)))=true then (
 some true) else (
 some (decide (p_n < p_m)))) fun y1=>
 Option.bind (if (y1)=true then (
 some true) else (
 some (decide ((2147483647:Int) < p_n)))) fun y2=>
 if (y2)=true then (
 some false) else (
 Option.bind (some ((0,p_m,p_t.1))) fun x1=>
 Option.bind (Vp x1) fun r1=>
 Option.bind (some ((p_m,p_n,p_t.2))) fun x2=>
 Option.bind (some ((p_n,p_n,([]:List Qa)))) fun x3=>
 Option.bind (KU x1 x2 x3) fun r2=>
 Option.bind (if (decide (r1.2=(0:Int)))=true then (
 some (decide (r1.1=p_old))) else (
 some false)) fun y3=>
 Option.bind (if (y3)=true then (
 some r2.2) else (
 some false)) fun y4=>
 Option.bind (if (y4)=true then (
 some (decide (r2.1=p_root))) else (
 some false)) fun y5=>
 some y5)
def YU (p_p:(List (BitVec 8))×(List Qp)×(List QW)×(List (Vector Int 2))) (p_m:Int) (p_n:Int) (p_t:Zt):Option (((List (BitVec 8))×(List Qp)×(List QW)×(List (Vector Int 2)))×Int):=
 Option.bind (if (decide (p_m < (1:Int)))=true then (
 some true) else (
 some (decide (p_n≤p_m)))) fun y1=>
 if (y1)=true then (
 some ((p_p.1,p_p.2.1,p_p.2.2.1,p_p.2.2.2),(1:Int))) else (
 Option.bind (ZG (some (p_p.1,p_p.2.1,p_p.2.2.1,p_p.2.2.2)) p_m) fun r1=>
 Option.bind (ZG (some (p_p.1,p_p.2.1,p_p.2.2.1,p_p.2.2.2)) p_n) fun r2=>
 Option.bind (if (decide (r1 < (0:Int)))=true then (
 some true) else (
 some (decide (r2 < (0:Int))))) fun y2=>
 if (y2)=true then (
 some ((p_p.1,p_p.2.1,p_p.2.2.1,p_p.2.2.2),(12:Int))) else (
 Option.bind (JU p_p.2.1 r1) fun x1=>
 Option.bind (JU p_p.2.1 r2) fun x2=>
 Option.bind (XZ p_t p_m p_n x1.1.2.2.2 x2.1.2.2.2) fun r3=>
 if (!r3)=true then (
 some ((p_p.1,p_p.2.1,p_p.2.2.1,p_p.2.2.2),(9:Int))) else (
 Option.bind (some (#v[p_m,p_n])) fun x3=>
 if p_p.2.2.2.length+([x3]).length≤AP then (
 some ((p_p.1,p_p.2.1,p_p.2.2.1,(p_p.2.2.2++([x3]))),(0:Int))) else none)))
def XI (p_l:List Int) (p_e:Int) (y1:Int):Option (LR Int Bool):=
 if (decide (y1 < (p_l.length:Int)))=true then (
 Option.bind (JU p_l y1) fun x1=>
 if (decide (x1=p_e))=true then (
 some (.ret true)) else (
 some (.next (w64 (y1+(1:Int)))))) else (
 some (.brk y1))
def Y0 (p_l:List Int) (p_e:Int):Option Bool:=
 Option.bind (Yf (fun (s:Int)=>XI p_l p_e s) FU (0:Int)) fun o=>match o with
 | .inl (s1:Int)=>(
 some false)
 | .inr x=>some x
def ZO (p_p:Option JR) (y4:Int) (y5:List Int):Option (LR (Int×(List Int)) Empty):=
 Option.bind (p_p) fun x2=>
 if (decide (y4 < (x2.2.2.2.length:Int)))=true then (
 Option.bind (p_p) fun x3=>
 Option.bind (JU x3.2.2.2 y4) fun x4=>
 Option.bind (KI x4 (0:Int)) fun x5=>
 Option.bind (Y0 y5 x5) fun r3=>
 Option.bind (if (r3)=true then (
 Option.bind (p_p) fun x6=>
 Option.bind (JU x6.2.2.2 y4) fun x7=>
 Option.bind (KI x7 (1:Int)) fun x8=>
 Option.bind (Y0 y5 x8) fun r4=>
 some (!r4)) else (
 some false)) fun y6=>
 if (y6)=true then (
 Option.bind (p_p) fun x9=>
 Option.bind (JU x9.2.2.2 y4) fun x10=>
 Option.bind (KI x10 (1:Int)) fun x11=>
 if y5.length+([x11]).length≤AP then (
 some (.next (w64 (y4+(1:Int)),(y5++([x11]))))) else none) else (
 some (.next (w64 (y4+(1:Int)),y5)))) else (
 some (.brk (y4,y5)))
def Yv (p_p:Option JR) (y2:Int) (y3:List Int):Option (LR (Int×(List Int)) Empty):=
 Option.bind (p_p) fun x1=>
 if (decide (y2≤(x1.2.2.2.length:Int)))=true then (
 Option.bind (Jd (fun (s:Int×(List Int))=>ZO p_p s.1 s.2) FU ((0:Int),y3)) fun (s1:Int×(List Int))=>
 some (.next (w64 (y2+(1:Int)),s1.2))) else (
 some (.brk (y2,y3)))
def Jt (p_p:Option JR) (p_m:Int) (p_n:Int):Option Bool:=
 Option.bind (ZG p_p p_m) fun r1=>
 Option.bind (if (decide (r1 < (0:Int)))=true then (
 some true) else (
 Option.bind (ZG p_p p_n) fun r2=>
 some (decide (r2 < (0:Int))))) fun y1=>
 if (y1)=true then (
 some false) else (
 Option.bind (Jd (fun (s:Int×(List Int))=>Yv p_p s.1 s.2) FU ((0:Int), [p_m])) fun (s2:Int×(List Int))=>
 Option.bind (Y0 s2.2 p_n) fun r5=>
 some r5)
def YY (p_p:Option ZJ) (y1:Int) (y2:List (Vector Int 2)):Option (LR (Int×(List (Vector Int 2))) Empty):=
 Option.bind (p_p) fun x1=>
 if (decide (y1 < (x1.2.1.length:Int)))=true then (
 Option.bind (p_p) fun x2=>
 Option.bind (JU x2.2.1 (w64 (y1 - (1:Int)))) fun x3=>
 Option.bind (p_p) fun x4=>
 Option.bind (JU x4.2.1 y1) fun x5=>
 Option.bind (Jz p_p x3.1.1 x5.1.1) fun r1=>
 if (!r1)=true then (
 Option.bind (some (#v[x3.1.1,x5.1.1])) fun x6=>
 if y2.length+([x6]).length≤AP then (
 some (.next (w64 (y1+(1:Int)),(y2++([x6]))))) else none) else (
 some (.next (w64 (y1+(1:Int)),y2)))) else (
 some (.brk (y1,y2)))
def KW (p_p:Option ZJ):Option (List (Vector Int 2)):=
 if (p_p.isNone)=true then (
 some ([]:List (Vector Int 2))) else (
 Option.bind (Jd (fun (s:Int×(List (Vector Int 2)))=>YY p_p s.1 s.2) FU ((1:Int),([]:List (Vector Int 2)))) fun (s1:Int×(List (Vector Int 2)))=>
 some s1.2)
def ZX (p_p:(List (BitVec 8))×(List Qp)×(List QW)×(List (Vector Int 2))) (y1:Int) (y4:Int) (y5:Int):Option (LR (Int×Int) Empty):=
 if (decide (y5 < (p_p.2.1.length:Int)))=true then (
 Option.bind (JU p_p.2.1 y5) fun x1=>
 Option.bind (if (decide (y1 < x1.1.1))=true then (
 Option.bind (if (decide (y4 < (0:Int)))=true then (
 some true) else (
 Option.bind (JU p_p.2.1 y5) fun x2=>
 Option.bind (JU p_p.2.1 y4) fun x3=>
 some (decide (x2.1.1 < x3.1.1)))) fun y7=>
 some y7) else (
 some false)) fun y6=>
 if (y6)=true then (
 some (.next (y5,w64 (y5+(1:Int))))) else (
 some (.next (y4,w64 (y5+(1:Int)))))) else (
 some (.brk (y4,y5)))
def YG (p_p:(List (BitVec 8))×(List Qp)×(List QW)×(List (Vector Int 2))) (y1:Int) (y2:Int) (y3:List Qp):Option (LR (Int×Int×(List Qp)) Empty):=
 if (decide (y2 < (p_p.2.1.length:Int)))=true then (
 Option.bind (Jd (fun (s:Int×Int)=>ZX p_p y1 s.1 s.2) FU ((-1:Int),(0:Int))) fun (s1:Int×Int)=>
 Option.bind (JU p_p.2.1 s1.1) fun x4=>
 if y3.length+([x4]).length≤AP then (
 Option.bind (JU p_p.2.1 s1.1) fun x5=>
 some (.next (x5.1.1,w64 (y2+(1:Int)),(y3++([x4]))))) else none) else (
 some (.brk (y1,y2,y3)))
def YC (p_p:(List (BitVec 8))×(List Qp)×(List QW)×(List (Vector Int 2))):Option (List Qp):=
 Option.bind (Jd (fun (s:Int×Int×(List Qp))=>YG p_p s.1 s.2.1 s.2.2) FU ((0:Int),(0:Int),([]:List Qp))) fun (s2:Int×Int×(List Qp))=>
 some s2.2.2
def Vx (p_p:Option JR) (y1:Int) (y4:Int) (y5:Int):Option (LR (Int×Int) Empty):=
 Option.bind (p_p) fun x2=>
 if (decide (y5 < (x2.2.1.length:Int)))=true then (
 Option.bind (p_p) fun x3=>
 Option.bind (JU x3.2.1 y5) fun x4=>
 Option.bind (if (decide (y1 < x4.1.1))=true then (
 Option.bind (if (decide (y4 < (0:Int)))=true then (
 some true) else (
 Option.bind (p_p) fun x5=>
 Option.bind (JU x5.2.1 y5) fun x6=>
 Option.bind (p_p) fun x7=>
 Option.bind (JU x7.2.1 y4) fun x8=>
 some (decide (x6.1.1 < x8.1.1)))) fun y7=>
 some y7) else (
 some false)) fun y6=>
 if (y6)=true then (
 some (.next (y5,w64 (y5+(1:Int))))) else (
 some (.next (y4,w64 (y5+(1:Int)))))) else (
 some (.brk (y4,y5)))
def Vz (p_p:Option JR) (y1:Int) (y2:Int) (y3:List Qp):Option (LR (Int×Int×(List Qp)) Empty):=
 Option.bind (p_p) fun x1=>
 if (decide (y2 < (x1.2.1.length:Int)))=true then (
 Option.bind (Jd (fun (s:Int×Int)=>Vx p_p y1 s.1 s.2) FU ((-1:Int),(0:Int))) fun (s1:Int×Int)=>
 Option.bind (p_p) fun x9=>
 Option.bind (JU x9.2.1 s1.1) fun x10=>
 if y3.length+([x10]).length≤AP then (
 Option.bind (p_p) fun x11=>
 Option.bind (JU x11.2.1 s1.1) fun x12=>
 some (.next (x12.1.1,w64 (y2+(1:Int)),(y3++([x10]))))) else none) else (
 some (.brk (y1,y2,y3)))
def XU (p_p:Option JR):Option (List Qp):=
 Option.bind (Jd (fun (s:Int×Int×(List Qp))=>Vz p_p s.1 s.2.1 s.2.2) FU ((0:Int),(0:Int),([]:List Qp))) fun (s2:Int×Int×(List Qp))=>
 some s2.2.2
def YV (r1:(List Qp)) (p_p:Option JR) (y1:Int) (y2:List (Vector Int 2)):Option (LR (Int×(List (Vector Int 2))) Empty):=
 if (decide (y1 < (r1.length:Int)))=true then (
 Option.bind (JU r1 (w64 (y1 - (1:Int)))) fun x1=>
 Option.bind (JU r1 y1) fun x2=>
 Option.bind (Jt p_p x1.1.1 x2.1.1) fun r2=>
 if (!r2)=true then (
 Option.bind (some (#v[x1.1.1,x2.1.1])) fun x3=>
 if y2.length+([x3]).length≤AP then (
 some (.next (w64 (y1+(1:Int)),(y2++([x3]))))) else none) else (
 some (.next (w64 (y1+(1:Int)),y2)))) else (
 some (.brk (y1,y2)))
def Xy (p_p:Option JR):Option (List (Vector Int 2)):=
 Option.bind (XU p_p) fun r1=>
 Option.bind (Jd (fun (s:Int×(List (Vector Int 2)))=>YV r1 p_p s.1 s.2) FU ((1:Int),([]:List (Vector Int 2)))) fun (s1:Int×(List (Vector Int 2)))=>
 some s1.2
def Xm (p_p:(List (BitVec 8))×(List Qy)×(List QC)×(List QU)) (y1:Int) (y2:List QC):Option (LR (Int×(List QC)) Empty):=
 if (decide (y1 < (p_p.2.2.1.length:Int)))=true then (
 Option.bind (JU p_p.2.2.1 y1) fun x1=>
 Option.bind (Xw x1.1) fun r1=>
 Option.bind (Xw x1.2) fun r2=>
 Option.bind (some ((r1,r2))) fun x2=>
 if y2.length+([x2]).length≤AP then (
 some (.next (w64 (y1+(1:Int)),(y2++([x2]))))) else none) else (
 some (.brk (y1,y2)))
def Vr (p_p:(List (BitVec 8))×(List Qy)×(List QC)×(List QU)):Option (List QC):=
 Option.bind (Jd (fun (s:Int×(List QC))=>Xm p_p s.1 s.2) FU ((0:Int),([]:List QC))) fun (s1:Int×(List QC))=>
 some s1.2
def Xx (p_a:Qp) (p_b:Qp):Option Bool:=
 Option.bind (if (decide (p_a.1=p_b.1))=true then (
 Option.bind (Vj p_a.2 p_b.2) fun r1=>
 some r1) else (
 some false)) fun y1=>
 some y1
def Ve (r1:(List Qy)) (r2:(List Qp)) (p_p:(List (BitVec 8))×(List Qy)×(List QC)×(List QU)) (p_r:(List (BitVec 8))×(List Qp)×(List QW)×(List (Vector Int 2))) (y2:Int):Option (LR Int (((List (BitVec 8))×(List Qy)×(List QC)×(List QU))×((List (BitVec 8))×(List Qp)×(List QW)×(List (Vector Int 2)))×Bool)):=
 if (decide (y2 < (r1.length:Int)))=true then (
 Option.bind (JU r1 y2) fun x1=>
 Option.bind (YL x1) fun r4=>
 Option.bind (JU r2 y2) fun x2=>
 Option.bind (Xx r4 x2) fun r5=>
 if (!r5)=true then (
 some (.ret ((p_p.1,p_p.2.1,p_p.2.2.1,p_p.2.2.2),(p_r.1,p_r.2.1,p_r.2.2.1,p_r.2.2.2),false))) else (
 some (.next (w64 (y2+(1:Int)))))) else (
 some (.brk y2))
def Vc (r6:(List QC)) (p_r:(List (BitVec 8))×(List Qp)×(List QW)×(List (Vector Int 2))) (p_p:(List (BitVec 8))×(List Qy)×(List QC)×(List QU)) (y4:Int):Option (LR Int (((List (BitVec 8))×(List Qy)×(List QC)×(List QU))×((List (BitVec 8))×(List Qp)×(List QW)×(List (Vector Int 2)))×Bool)):=
 if (decide (y4 < (r6.length:Int)))=true then (
 Option.bind (JU r6 y4) fun x3=>
 Option.bind (YL x3.1) fun r7=>
 Option.bind (JU p_r.2.2.1 y4) fun x4=>
 Option.bind (Xx r7 x4.1) fun r8=>
 Option.bind (if (!r8)=true then (
 some true) else (
 Option.bind (JU r6 y4) fun x5=>
 Option.bind (YL x5.2) fun r9=>
 Option.bind (JU p_r.2.2.1 y4) fun x6=>
 Option.bind (Xx r9 x6.2) fun r10=>
 some (!r10))) fun y5=>
 if (y5)=true then (
 some (.ret ((p_p.1,p_p.2.1,p_p.2.2.1,p_p.2.2.2),(p_r.1,p_r.2.1,p_r.2.2.1,p_r.2.2.2),false))) else (
 some (.next (w64 (y4+(1:Int)))))) else (
 some (.brk y4))
def Kv (p_p:(List (BitVec 8))×(List Qy)×(List QC)×(List QU)) (p_r:(List (BitVec 8))×(List Qp)×(List QW)×(List (Vector Int 2))):Option (((List (BitVec 8))×(List Qy)×(List QC)×(List QU))×((List (BitVec 8))×(List Qp)×(List QW)×(List (Vector Int 2)))×Bool):=
 Option.bind (Vq (p_p.1,p_p.2.1,p_p.2.2.1,p_p.2.2.2)) fun r1=>
 Option.bind (YC (p_r.1,p_r.2.1,p_r.2.2.1,p_r.2.2.2)) fun r2=>
 Option.bind (if (!decide ((r1.length:Int)=(r2.length:Int)))=true then (
 some true) else (
 Option.bind (Vr (p_p.1,p_p.2.1,p_p.2.2.1,p_p.2.2.2)) fun r3=>
 some (!decide ((r3.length:Int)=(p_r.2.2.1.length:Int))))) fun y1=>
 if (y1)=true then (
 some ((p_p.1,p_p.2.1,p_p.2.2.1,p_p.2.2.2),(p_r.1,p_r.2.1,p_r.2.2.1,p_r.2.2.2),false)) else (
 Option.bind (Yf (fun (s:Int)=>Ve r1 r2 p_p p_r s) FU (0:Int)) fun o=>match o with
 | .inl (s2:Int)=>(
 Option.bind (Vr (p_p.1,p_p.2.1,p_p.2.2.1,p_p.2.2.2)) fun r6=>
 Option.bind (Yf (fun (s:Int)=>Vc r6 p_r p_p s) FU (0:Int)) fun o=>match o with
 | .inl (s1:Int)=>(
 some ((p_p.1,p_p.2.1,p_p.2.2.1,p_p.2.2.2),(p_r.1,p_r.2.1,p_r.2.2.1,p_r.2.2.2),true))
 | .inr x=>some x)
 | .inr x=>some x)
def ZL (p_script:List Zw) (y2:Int) (y3:List (BitVec 8)) (y4:List Qp) (y5:List QW) (y6:List (Vector Int 2)) (y7:List (BitVec 8)) (y8:List Qy) (y9:List QC) (y10:List QU) (y11:Int) (y12:Int) (y13:Qa) (y14:Option QF) (y15:Option QF) (y16:Int):Option (LR (Int×(List (BitVec 8))×(List Qp)×(List QW)×(List (Vector Int 2))×(List (BitVec 8))×(List Qy)×(List QC)×(List QU)×Int×Int×Qa×(Option QF)×(Option QF)×Int) Bool):=
 if (decide (y2 < (p_script.length:Int)))=true then (
 Option.bind (JU p_script y2) fun x1=>
 if (decide (x1.1=(1:Int)))=true then (
 Option.bind (Vm (y11,y12,y13,y14,y15,y16) x1) fun r8=>
 Option.bind (Zx (y7,y8,y9,y10) r8.2) fun r9=>
 Option.bind (YL r8.2) fun r10=>
 Option.bind (XV (y3,y4,y5,y6) r10) fun r11=>
 if (!decide (r9.2=r11.2))=true then (
 some (.ret false)) else (
 Option.bind (if (decide (x1.1=(2:Int)))=true then (
 some true) else (
 some (decide (x1.1=(3:Int))))) fun y17=>
 if (y17)=true then (
 Option.bind (X3 x1) fun r12=>
 Option.bind (Yn (r9.1.1,r9.1.2.1,r9.1.2.2.1,r9.1.2.2.2) x1.2.2.2.1 x1.2.2.2.2.1 r12) fun r13=>
 Option.bind (YU (r11.1.1,r11.1.2.1,r11.1.2.2.1,r11.1.2.2.2) x1.2.2.2.1 x1.2.2.2.2.1 r12) fun r14=>
 if (!decide (r13.2=r14.2))=true then (
 some (.ret false)) else (
 Option.bind (Jz (some (r13.1.1,r13.1.2.1,r13.1.2.2.1,r13.1.2.2.2)) x1.2.2.2.1 x1.2.2.2.2.1) fun r15=>
 Option.bind (Jt (some (r14.1.1,r14.1.2.1,r14.1.2.2.1,r14.1.2.2.2)) x1.2.2.2.1 x1.2.2.2.2.1) fun r16=>
 Option.bind (if (!(r15==r16))=true then (
 some true) else (
 Option.bind (Jz (some (r13.1.1,r13.1.2.1,r13.1.2.2.1,r13.1.2.2.2)) x1.2.2.2.2.1 x1.2.2.2.1) fun r17=>
 Option.bind (Jt (some (r14.1.1,r14.1.2.1,r14.1.2.2.1,r14.1.2.2.2)) x1.2.2.2.2.1 x1.2.2.2.1) fun r18=>
 some (!(r17==r18)))) fun y18=>
 if (y18)=true then (
 some (.ret false)) else (
 some (.next (w64 (y2+(1:Int)),r14.1.1,r14.1.2.1,r14.1.2.2.1,r14.1.2.2.2,r13.1.1,r13.1.2.1,r13.1.2.2.1,r13.1.2.2.2,r8.1.1,r8.1.2.1,r8.1.2.2.1,r8.1.2.2.2.1,r8.1.2.2.2.2.1,r8.1.2.2.2.2.2))))) else (
 Option.bind (Jz (some (r9.1.1,r9.1.2.1,r9.1.2.2.1,r9.1.2.2.2)) x1.2.2.2.1 x1.2.2.2.2.1) fun r19=>
 Option.bind (Jt (some (r11.1.1,r11.1.2.1,r11.1.2.2.1,r11.1.2.2.2)) x1.2.2.2.1 x1.2.2.2.2.1) fun r20=>
 Option.bind (if (!(r19==r20))=true then (
 some true) else (
 Option.bind (Jz (some (r9.1.1,r9.1.2.1,r9.1.2.2.1,r9.1.2.2.2)) x1.2.2.2.2.1 x1.2.2.2.1) fun r21=>
 Option.bind (Jt (some (r11.1.1,r11.1.2.1,r11.1.2.2.1,r11.1.2.2.2)) x1.2.2.2.2.1 x1.2.2.2.1) fun r22=>
 some (!(r21==r22)))) fun y19=>
 if (y19)=true then (
 some (.ret false)) else (
 some (.next (w64 (y2+(1:Int)),r11.1.1,r11.1.2.1,r11.1.2.2.1,r11.1.2.2.2,r9.1.1,r9.1.2.1,r9.1.2.2.1,r9.1.2.2.2,r8.1.1,r8.1.2.1,r8.1.2.2.1,r8.1.2.2.2.1,r8.1.2.2.2.2.1,r8.1.2.2.2.2.2)))))) else (
 Option.bind (if (decide (x1.1=(2:Int)))=true then (
 some true) else (
 some (decide (x1.1=(3:Int))))) fun y20=>
 if (y20)=true then (
 Option.bind (X3 x1) fun r23=>
 Option.bind (Yn (y7,y8,y9,y10) x1.2.2.2.1 x1.2.2.2.2.1 r23) fun r24=>
 Option.bind (YU (y3,y4,y5,y6) x1.2.2.2.1 x1.2.2.2.2.1 r23) fun r25=>
 if (!decide (r24.2=r25.2))=true then (
 some (.ret false)) else (
 Option.bind (Jz (some (r24.1.1,r24.1.2.1,r24.1.2.2.1,r24.1.2.2.2)) x1.2.2.2.1 x1.2.2.2.2.1) fun r26=>
 Option.bind (Jt (some (r25.1.1,r25.1.2.1,r25.1.2.2.1,r25.1.2.2.2)) x1.2.2.2.1 x1.2.2.2.2.1) fun r27=>
 Option.bind (if (!(r26==r27))=true then (
 some true) else (
 Option.bind (Jz (some (r24.1.1,r24.1.2.1,r24.1.2.2.1,r24.1.2.2.2)) x1.2.2.2.2.1 x1.2.2.2.1) fun r28=>
 Option.bind (Jt (some (r25.1.1,r25.1.2.1,r25.1.2.2.1,r25.1.2.2.2)) x1.2.2.2.2.1 x1.2.2.2.1) fun r29=>
 some (!(r28==r29)))) fun y21=>
 if (y21)=true then (
 some (.ret false)) else (
 some (.next (w64 (y2+(1:Int)),r25.1.1,r25.1.2.1,r25.1.2.2.1,r25.1.2.2.2,r24.1.1,r24.1.2.1,r24.1.2.2.1,r24.1.2.2.2,y11,y12,y13,y14,y15,y16))))) else (
 Option.bind (Jz (some (y7,y8,y9,y10)) x1.2.2.2.1 x1.2.2.2.2.1) fun r30=>
 Option.bind (Jt (some (y3,y4,y5,y6)) x1.2.2.2.1 x1.2.2.2.2.1) fun r31=>
 Option.bind (if (!(r30==r31))=true then (
 some true) else (
 Option.bind (Jz (some (y7,y8,y9,y10)) x1.2.2.2.2.1 x1.2.2.2.1) fun r32=>
 Option.bind (Jt (some (y3,y4,y5,y6)) x1.2.2.2.2.1 x1.2.2.2.1) fun r33=>
 some (!(r32==r33)))) fun y22=>
 if (y22)=true then (
 some (.ret false)) else (
 some (.next (w64 (y2+(1:Int)),y3,y4,y5,y6,y7,y8,y9,y10,y11,y12,y13,y14,y15,y16)))))) else (
 some (.brk (y2,y3,y4,y5,y6,y7,y8,y9,y10,y11,y12,y13,y14,y15,y16)))
def ZM (r34:(List (Vector Int 2))) (r35:(List (Vector Int 2))) (y38:Int):Option (LR Int Bool):=
 Option.bind (if (decide (y38 < (r34.length:Int)))=true then (
 some (decide (y38 < (r35.length:Int)))) else (
 some false)) fun y39=>
 if (y39)=true then (
 Option.bind (JU r34 y38) fun x2=>
 Option.bind (JU r35 y38) fun x3=>
 if (!decide (x2=x3))=true then (
 some (.ret false)) else (
 some (.next (w64 (y38+(1:Int)))))) else (
 some (.brk y38))
def Xd (p_script:List Zw):Option Bool:=
 Option.bind (X5) fun r1=>
 Option.bind (if (!r1)=true then (
 some true) else (
 Option.bind (KS p_script (12:Int)) fun r2=>
 some (!r2))) fun y1=>
 if (y1)=true then (
 Option.bind (X5) fun r3=>
 some r3) else (
 Option.bind (XO) fun r4=>
 Option.bind (Ys (r4.1,r4.2.1,r4.2.2.1,r4.2.2.2.1,r4.2.2.2.2.1,r4.2.2.2.2.2)) fun r5=>
 Option.bind (Be r5) fun r6=>
 Option.bind (Ys (r4.1,r4.2.1,r4.2.2.1,r4.2.2.2.1,r4.2.2.2.2.1,r4.2.2.2.2.2)) fun r7=>
 Option.bind (Yf (fun (s:Int×(List (BitVec 8))×(List Qp)×(List QW)×(List (Vector Int 2))×(List (BitVec 8))×(List Qy)×(List QC)×(List QU)×Int×Int×Qa×(Option QF)×(Option QF)×Int)=>ZL p_script s.1 s.2.1 s.2.2.1 s.2.2.2.1 s.2.2.2.2.1 s.2.2.2.2.2.1 s.2.2.2.2.2.2.1 s.2.2.2.2.2.2.2.1 s.2.2.2.2.2.2.2.2.1 s.2.2.2.2.2.2.2.2.2.1 s.2.2.2.2.2.2.2.2.2.2.1 s.2.2.2.2.2.2.2.2.2.2.2.1 s.2.2.2.2.2.2.2.2.2.2.2.2.1 s.2.2.2.2.2.2.2.2.2.2.2.2.2.1 s.2.2.2.2.2.2.2.2.2.2.2.2.2.2) FU ((0:Int),r7,([]:List Qp),([]:List QW),([]:List (Vector Int 2)),r6.1,r6.2.1,r6.2.2.1,r6.2.2.2,r4.1,r4.2.1,r4.2.2.1,r4.2.2.2.1,r4.2.2.2.2.1,r4.2.2.2.2.2)) fun o=>match o with
 | .inl (s2:Int×(List (BitVec 8))×(List Qp)×(List QW)×(List (Vector Int 2))×(List (BitVec 8))×(List Qy)×(List QC)×(List QU)×Int×Int×Qa×(Option QF)×(Option QF)×Int)=>(
 Option.bind (KW (some (s2.2.2.2.2.2.1,s2.2.2.2.2.2.2.1,s2.2.2.2.2.2.2.2.1,s2.2.2.2.2.2.2.2.2.1))) fun r34=>
 Option.bind (Xy (some (s2.2.1,s2.2.2.1,s2.2.2.2.1,s2.2.2.2.2.1))) fun r35=>
 Option.bind (Yf (fun (s:Int)=>ZM r34 r35 s) FU (0:Int)) fun o=>match o with
 | .inl (s1:Int)=>(
 Option.bind (Kv (s2.2.2.2.2.2.1,s2.2.2.2.2.2.2.1,s2.2.2.2.2.2.2.2.1,s2.2.2.2.2.2.2.2.2.1) (s2.2.1,s2.2.2.1,s2.2.2.2.1,s2.2.2.2.2.1)) fun r36=>
 Option.bind (if (r36.2.2)=true then (
 some (decide ((r34.length:Int)=(r35.length:Int)))) else (
 some false)) fun y41=>
 some y41)
 | .inr x=>some x)
 | .inr x=>some x)
end M
end Go.Sl
set_option linter.unusedSimpArgs false
namespace Go.Sl
theorem J6 {n:Nat} (h:n≤9000000000):n < FU:=by unfold FU; omega
theorem W4 {σ ρ:Type}{f:σ→Option (LR σ ρ)}{n:Nat}{s s':σ} (h:f s=some (.next s')):Yf f (n+1) s=Yf f n s':=by
 show (match f s with | none=>none | some (.next s')=>Yf f n s' | some (.brk s')=>some (.inl s') | some (.ret r)=>some (.inr r))=_;rw [h]
theorem WD {σ ρ:Type}{f:σ→Option (LR σ ρ)}{n:Nat}{s s':σ} (h:f s=some (.brk s')):Yf f (n+1) s=some (.inl s'):=by
 show (match f s with | none=>none | some (.next s')=>Yf f n s' | some (.brk s')=>some (.inl s') | some (.ret r)=>some (.inr r))=_;rw [h]
theorem qb {σ ρ:Type}{f:σ→Option (LR σ ρ)}{n:Nat}{s:σ}{r:ρ} (h:f s=some (.ret r)):Yf f (n+1) s=some (.inr r):=by
 show (match f s with | none=>none | some (.next s')=>Yf f n s' | some (.brk s')=>some (.inl s') | some (.ret r)=>some (.inr r))=_;rw [h]
theorem Vo {σ ρ:Type}{f:σ→Option (LR σ ρ)} (I:σ→Prop) (μ:σ→Nat) (Q:σ ⊕ ρ→Prop)
  (h:∀s,I s→(∃s',f s=some (.next s')∧I s'∧μ s' < μ s)∨(∃s',f s=some (.brk s')∧Q (.inl s'))∨∃r,f s=some (.ret r)∧Q (.inr r)) :
  ∀(n:Nat) (s:σ),I s→μ s < n→∃o,Yf f n s=some o∧Q o
 | 0,s,_,hn=>by omega
 | n+1,s,hI,hn=>by
  rcases h s hI with ⟨s',e,hI',hm⟩ | ⟨s',e,hq⟩ | ⟨r,e,hq⟩
  ·rw [W4 e];exact Vo I μ Q h n s' hI' (by omega)
  ·exact ⟨_,WD e,hq⟩
  ·exact ⟨_,qb e,hq⟩
theorem KV {σ:Type}{f:σ→Option (LR σ Empty)} (I:σ→Prop) (μ:σ→Nat) (Q:σ→Prop)
  (h:∀s,I s→(∃s',f s=some (.next s')∧I s'∧μ s' < μ s)∨∃s',f s=some (.brk s')∧Q s') (n:Nat) (s:σ) (hI:I s) (hn:μ s < n):∃s',Jd f n s=some s'∧Q s':=by
 obtain ⟨o,ho,hq⟩:=Vo I μ (fun o=>match o with | .inl s=>Q s | .inr e=>e.elim) (fun s hs=>(h s hs).elim .inl (fun h=> .inr (.inl h))) n s hI hn;unfold Jd;rw [ho]
 cases o with
 | inl s'=>exact ⟨s',rfl,hq⟩
 | inr e=>exact e.elim
theorem YH {σ:Type}{f:σ→Option (LR σ Empty)}{n:Nat}{s s':σ} (h:f s=some (.next s')):Jd f (n+1) s=Jd f n s':=by
 unfold Jd; rw [W4 h]
theorem XQ {σ:Type}{f:σ→Option (LR σ Empty)}{n:Nat}{s s':σ} (h:f s=some (.brk s')):Jd f (n+1) s=some s':=by
 unfold Jd; rw [WD h]
def Yt {σ:Type} (step:Nat→σ→σ):Nat→Nat→σ→σ
 | _,0,s=>s
 | i,n+1,s=>Yt step (i+1) n (step i s)
theorem qi {σ:Type} (step:Nat→σ→σ):∀(n i:Nat) (s:σ),Yt step i (n+1) s=step (i+n) (Yt step i n s)
 | 0,i,s=>rfl
 | n+1,i,s=>by
  show Yt step (i+1) (n+1) (step i s)=step (i+(n+1)) (Yt step (i+1) n (step i s));rw [qi step n (i+1),show i+1+n=i+(n+1) by omega]
theorem QdE {σ:Type} (step:Nat→σ→σ):∀(n m i:Nat) (s:σ),Yt step i (n+m) s=Yt step (i+n) m (Yt step i n s)
 | 0,m,i,s=>by simp [Yt]
 | n+1,m,i,s=>by
  rw [show n+1+m=(n+m)+1 by omega];show Yt step (i+1) (n+m) (step i s)=Yt step (i+(n+1)) m (Yt step (i+1) n (step i s));rw [QdE step n m (i+1),show i+1+n=i+(n+1) by omega]
theorem Qbi {σ:Type}{f g:Nat→σ→σ}:∀(n i:Nat) (s:σ),(∀j,i≤j→j < i+n→∀s,f j s=g j s)→Yt f i n s=Yt g i n s
 | 0,_,_,_=>rfl
 | n+1,i,s,h=>by
  show Yt f (i+1) n (f i s)=Yt g (i+1) n (g i s);rw [h i (Nat.le_refl _) (by omega)];exact Qbi n (i+1) _ fun j h1 h2=>h j (by omega) (by omega)
theorem JQ {τ σ:Type}{f:τ→Option (LR τ Empty)} (en:Nat→σ→τ) (step:Nat→σ→σ) (lo hi:Nat)
  (h:∀i s,lo≤i→i < hi→f (en i s)=some (.next (en (i+1) (step i s)))) (he:∀s,f (en hi s)=some (.brk (en hi s))) :
  ∀(n:Nat) (s:σ),lo≤hi→hi - lo < n→Jd f n (en lo s)=some (en hi (Yt step lo (hi - lo) s)):=by
 have key:∀(d i n:Nat) (s:σ),lo≤i→i+d=hi→d < n→Jd f n (en i s)=some (en hi (Yt step i d s)):=by
  intro d
  induction d with
  | zero=>
   intro i n s hl hd hn
   cases n with
   | zero=>omega
   | succ n=>
    have:i=hi:=by omega
    subst this;exact XQ (he s)
  | succ d ih=>
   intro i n s hl hd hn
   cases n with
   | zero=>omega
   | succ n=>
    rw [YH (h i s hl (by omega))];exact ih (i+1) n (step i s) (by omega) (by omega) (by omega)
 intro n s hle hn;exact key (hi - lo) lo n s (Nat.le_refl _) (by omega) hn
section
variable {α β : Type}
theorem Jl {l:List α}{i:Int}{k:Nat} (hi:i=(k:Int)) (h:k < l.length):JU l i=some l[k]:=by
 subst hi;unfold JU;rw [if_pos (by omega)]
 simp [h]
theorem QeH {n:Nat}{v:Vector α n}{i:Int}{k:Nat} (hi:i=(k:Int)) (h:k < n):KI v i=some v[k]:=by
 subst hi;unfold KI;rw [if_pos (by omega)]
 simp [h]
theorem J5 {l:List α}{lo hi:Int}{a b:Nat} (ha:lo=(a:Int)) (hb:hi=(b:Int)) (h1:a≤b) (h2:b≤l.length):JZ l lo hi=some ((l.take b).drop a):=by
 subst ha hb;unfold JZ;rw [if_pos ⟨by omega,by omega,by omega⟩]
 simp
theorem Qb {o:Option α}{f:α→Option β}{x:α} (h:o=some x):Option.bind o f=f x:=by rw [h]; rfl
theorem QA {c:Prop} [Decidable c]{x y:α} (h:c):(if c then x else y)=x:=if_pos h
theorem QQ {c:Prop} [Decidable c]{x y:α} (h:¬c):(if c then x else y)=y:=if_neg h
end
theorem Jr {n:Int} (h1 : -9223372036854775808≤n) (h2:n < 9223372036854775808):w64 n=n:=JA ⟨h1,h2⟩
theorem B1 {n:Nat} (h:n < 9223372036854775808):w64 (n:Int)=n:=JA ⟨by omega,by omega⟩
end Go.Sl
namespace Go.Sl
theorem orE (c d:Bool):(if c=true then some true else some d)=some (c||d):=by cases c<;>rfl
section
variable {α τ σ ρ : Type}
def QjQ (step:Nat→σ→α→σ ⊕ ρ):Nat→σ→List α→σ ⊕ ρ
 | _,s, []=> .inl s
 | i,s,x::xs=>match step i s x with
  | .inl s'=>QjQ step (i+1) s' xs
  | .inr r=> .inr r
theorem Qi4 {f:τ→Option (LR τ ρ)} (l:List α) (en:Nat→σ→τ) (step:Nat→σ→α→σ ⊕ ρ) (I:Nat→σ→Prop)
  (h:∀i s (hi:i < l.length),I i s→f (en i s)=some (match step i s l[i] with | .inl s'=> .next (en (i+1) s') | .inr r=> .ret r))
  (hI:∀i s s' (hi:i < l.length),I i s→step i s l[i] = .inl s'→I (i+1) s')
  (he:∀s,I l.length s→f (en l.length s)=some (.brk (en l.length s))) :
  ∀(d i n:Nat) (s:σ),i+d=l.length→d < n→I i s→Yf f n (en i s)=some (match QjQ step i s (l.drop i) with | .inl s'=> .inl (en l.length s') | .inr r=> .inr r):=by
 intro d
 induction d with
 | zero=>
  intro i n s hd hn hi;obtain ⟨n,rfl⟩:∃k,n=k+1:=⟨n - 1,by omega⟩;have:i=l.length:=by omega
  subst this;rw [WD (he s hi),List.drop_length]; rfl
 | succ d ih=>
  intro i n s hd hn hi;obtain ⟨n,rfl⟩:∃k,n=k+1:=⟨n - 1,by omega⟩;have hl:i < l.length:=by omega
  have h1:=h i s hl hi;rw [List.drop_eq_getElem_cons hl,QjQ]
  cases hs:step i s l[i] with
  | inl s'=>rw [hs] at h1; rw [W4 h1,ih (i+1) n s' (by omega) (by omega) (hI i s s' hl hi hs)]
  | inr r=>rw [hs] at h1; rw [qb h1]
theorem Qjo {f:τ→Option (LR τ ρ)} (l:List α) (en:Nat→σ→τ) (step:Nat→σ→α→σ ⊕ ρ) (I:Nat→σ→Prop) (s:σ) (hn:l.length≤9000000000) (h0:I 0 s)
  (h:∀i s (hi:i < l.length),I i s→f (en i s)=some (match step i s l[i] with | .inl s'=> .next (en (i+1) s') | .inr r=> .ret r))
  (hI:∀i s s' (hi:i < l.length),I i s→step i s l[i] = .inl s'→I (i+1) s')
  (he:∀s,I l.length s→f (en l.length s)=some (.brk (en l.length s))) :
  Yf f FU (en 0 s)=some (match QjQ step 0 s l with | .inl s'=> .inl (en l.length s') | .inr r=> .inr r):=by
 have:=Qi4 l en step I h hI he l.length 0 FU s (by omega) (J6 hn) h0
 simpa using this
theorem Qoz [DecidableEq α]{f:Int→Option (LR Int Bool)} (a b:List α) (hl:a.length=b.length) (hn:a.length≤9000000000)
  (h:∀i (h1:i < a.length) (h2:i < b.length),f (i:Int)=some (if a[i]=b[i] then .next ((i:Int)+1) else .ret false)) (he:f (a.length:Int)=some (.brk (a.length:Int))) :
  Yf f FU (0:Int)=some (if a=b then .inl (a.length:Int) else .inr false):=by
 have h1:=Qjo (f:=f) a (fun i (_:Unit)=>(i:Int)) (fun i _ x=>if b[i]? = some x then .inl () else .inr false) (fun _ _=>True) () hn trivial (fun i s hi _=>by
  rw [h i hi (by omega),List.getElem?_eq_getElem (show i < b.length by omega)]
  by_cases e:a[i]=b[i]
  ·rw [if_pos e,if_pos (by rw [e])]; simp
  ·rw [if_neg e,if_neg (by simpa using fun e'=>e e'.symm)]) (fun _ _ _ _ _ _=>trivial) (fun _ _=>he)
 have key:∀(d i:Nat),i+d=a.length→QjQ (fun i (_:Unit) x=>if b[i]? = some x then .inl () else .inr false) i () (a.drop i)=(if a.drop i=b.drop i then .inl () else .inr false:Unit ⊕ Bool):=by
  intro d
  induction d with
  | zero=>intro i hi; rw [List.drop_eq_nil_of_le (by omega),List.drop_eq_nil_of_le (by omega)]; rfl
  | succ d ih=>
   intro i hi;have h1:i < a.length:=by omega
   have h2:i < b.length:=by omega
   have ea:=List.drop_eq_getElem_cons h1;have eb:=List.drop_eq_getElem_cons h2;rw [ea,eb,QjQ,List.getElem?_eq_getElem h2]
   by_cases e:a[i]=b[i]
   ·rw [if_pos (by rw [e])];show QjQ _ (i+1) () _=_;rw [ih (i+1) (by omega)]
    by_cases e2:a.drop (i+1)=b.drop (i+1)
    ·rw [if_pos e2,if_pos (by rw [e,e2])]
    ·rw [if_neg e2,if_neg (by intro hc; injection hc with _ hc; exact e2 hc)]
   ·rw [if_neg (by simpa using fun e'=>e e'.symm),if_neg (by intro hc; injection hc with hc _; exact e hc)]
 have h2:=key a.length 0 (by omega)
 simp only [List.drop_zero] at h2
 have h3:Yf f FU (0:Int)=_:=h1;rw [h3,h2]
 by_cases e:a=b
 ·rw [if_pos e,if_pos e]
 ·rw [if_neg e,if_neg e]
theorem Qg3 {β:Type}{f:Int×List β→Option (LR (Int×List β) Empty)} (l:List α) (g:α→β) (hn:l.length≤9000000000)
  (h:∀i (hi:i < l.length) (acc:List β),acc.length=i→f ((i:Int),acc)=some (.next ((i:Int)+1,acc++ [g l[i]]))) (he:∀acc:List β,f ((l.length:Int),acc)=some (.brk ((l.length:Int),acc))) :
  Jd f FU ((0:Int), [])=some ((l.length:Int),l.map g):=by
 have h1:=JQ (f:=f) (fun i (_:Unit)=>((i:Int),(l.take i).map g)) (fun _ s=>s) 0 l.length (fun i s _ h2=>by
  rw [h i h2 _ (by simp; omega)];rw [List.take_succ_eq_append_getElem h2,List.map_append]; rfl) (fun s=>he _) FU () (by omega) (J6 hn)
 simpa using h1
end
end Go.Sl
namespace Go.Sl.Pu
open Go.Sl Go.Sl.M
def gv {w n:Nat} (v:Vector (BitVec w) n) (j:Nat):BitVec w:=v[j]?.getD 0
theorem Uc {w n:Nat}{v:Vector (BitVec w) n}{i:Int}{k:Nat} (hi:i=(k:Int)) (h:k < n):KI v i=some (gv v k):=by
 rw [QeH hi h]; simp [gv,h]
theorem Qbr {w n:Nat}{v:Vector (BitVec w) n}{k:Nat}{x:BitVec w} (h:k < n):gv (v.setIfInBounds k x) k=x:=by
 simp [gv,h]
theorem QdW {w n:Nat}{v:Vector (BitVec w) n}{k j:Nat}{x:BitVec w} (h:k≠j):gv (v.setIfInBounds k x) j=gv v j:=by
 simp [gv,Vector.getElem?_setIfInBounds,h]
theorem Qm5 {w n:Nat}{v:Vector (BitVec w) n}{k:Nat}{x y:BitVec w}:(v.setIfInBounds k x).setIfInBounds k y=v.setIfInBounds k y:=by
 apply Vector.ext; intro i hi
 simp only [Vector.getElem_setIfInBounds]
 split<;>rfl
def gl {w:Nat} (b:List (BitVec w)) (j:Nat):BitVec w:=b.getD j 0
theorem qY {x:BitVec 32}{k:Int}{a b:Nat} (h1:((BitVec.ofInt 64 k)&&& 31#64).toNat=a) (h2:(32#64 - ((BitVec.ofInt 64 k)&&& 31#64)).toNat=b):JO x k=some (x >>> b ||| x <<< a):=by
 unfold JO;rw [h1,h2,BitVec.or_comm]; rfl
theorem Un {x n:BitVec 32}{a b:Nat} (h1:n.toNat=b) (h2:(32#32 - n).toNat=a):J3 x n=some (x >>> b ||| x <<< a):=by
 unfold J3;rw [h1,h2]; rfl
def rr (x:BitVec 32) (n:Nat):BitVec 32:=x >>> n ||| x <<< (32 - n)
def be {w:Nat} (x:BitVec w) (k:Nat):List (BitVec 8):=(List.range k).map fun j=>(x >>> (8*(k - 1 - j))).setWidth 8
theorem JW {w:Nat} (x:BitVec w) (k:Nat):(be x k).length=k:=by simp [be]
def le {w:Nat} (x:BitVec w) (k:Nat):List (BitVec 8):=(List.range k).map fun j=>(x >>> (8*j)).setWidth 8
theorem Qmf (x:BitVec 64):(x % 256#64).setWidth 8=x.setWidth 8:=by
 apply BitVec.eq_of_toNat_eq
 simp [BitVec.toNat_setWidth,BitVec.toNat_umod]
theorem QkT (x:BitVec 64):x / 256#64=x >>> 8:=by
 apply BitVec.eq_of_toNat_eq
 simp [BitVec.toNat_udiv,Nat.shiftRight_eq_div_pow]
theorem W8 (x:BitVec 64) (k:Nat) (hk:k≤1000):Jy x k=some (be x k):=by
 unfold Jy;have h1:=JQ (f:=fun (s:(BitVec 64)×Int×(List (BitVec 8)))=>YT k s.1 s.2.1 s.2.2) (fun i (_:Unit)=>(x >>> (8*i),(i:Int),le x i)) (fun _ s=>s) 0 k (fun i s h1 h2=>by
   simp only [YT]
   rw [QA (by simp; omega),QA (by simp [le,AP]; omega),Qmf,QkT];have e:le x (i+1)=le x i++ [(x >>> (8*i)).setWidth 8]:=by simp [le,List.range_succ]
   rw [e,JA (by omega),show 8*(i+1)=8*i+8 by omega,BitVec.shiftRight_add]
   rfl) (fun s=>by
   simp only [YT]
   rw [QQ (by simp)]) FU () (by omega) (J6 (by omega))
 have e0:((x,(0:Int),([]:List (BitVec 8))):(BitVec 64)×Int×(List (BitVec 8)))=(x >>> (8*0),((0:Nat):Int),le x 0):=by simp [le]
 rw [e0,Qb h1]
 -- the other way round
 have h2:=JQ (f:=fun (s:Int×(List (BitVec 8)))=>YR (le x k) s.1 s.2) (fun i (_:Unit)=>((k:Int) - 1 - i,(be x k).take i)) (fun _ s=>s) 0 k (fun i s h1 h2=>by
   simp only [YR]
   rw [QA (by simp; omega)];have hl:JU (le x k) ((k:Int) - 1 - i)=some ((x >>> (8*(k - 1 - i))).setWidth 8):=by
    rw [Jl (k:=k - 1 - i) (by omega) (by simp [le]; omega)]
    simp [le]
   rw [Qb hl,QA (by simp [AP]; omega),JA (by omega)];have e:(be x k).take (i+1)=(be x k).take i++ [(x >>> (8*(k - 1 - i))).setWidth 8]:=by
    rw [List.take_succ_eq_append_getElem (by rw [JW]; exact h2)]
    simp [be]
   rw [e];have:(k:Int) - 1 - (i:Int) - 1=(k:Int) - 1 - ((i+1:Nat):Int):=by omega
   rw [this]) (fun s=>by
   simp only [YR]
   rw [QQ (by simp; omega)]) FU () (by omega) (J6 (by omega))
 have e1:((w64 ((k:Int) - 1),([]:List (BitVec 8))):Int×List (BitVec 8))=((k:Int) - 1 - ((0:Nat):Int),(be x k).take 0):=by
  rw [JA (by omega)]; simp
 rw [e1,Qb h2,List.take_of_length_le (by rw [JW]; omega)]
def val (b:List (BitVec 8)):BitVec 64:=b.foldl (fun x c=>x*256#64+c.setWidth 64) 0#64
theorem Qdn (b:List (BitVec 8)) (hb:b.length≤4294967296):JN b=some (val b):=by
 unfold JN;have h1:=JQ (f:=fun (s:(BitVec 64)×Int)=>Xa b s.1 s.2) (fun i (_:Unit)=>(val (b.take i),(i:Int))) (fun _ s=>s) 0 b.length (fun i s h1 h2=>by
   simp only [Xa]
   have e:val (b.take (i+1))=val (b.take i)*256#64+b[i].setWidth 64:=by
    unfold val; rw [List.take_succ_eq_append_getElem h2,List.foldl_append]; rfl
   rw [QA (by simp; omega),Qb (Jl rfl h2),JA (by omega),e]
   rfl) (fun s=>by
   simp only [Xa]
   rw [QQ (by simp)]) FU () (by omega) (J6 (by omega))
 have e0:((0#64,(0:Int)):(BitVec 64)×Int)=(val (b.take 0),((0:Nat):Int)):=by simp [val]
 rw [e0,Qb h1,List.take_length]
def sg0 (x:BitVec 32):BitVec 32:=(rr x 7 ^^^ rr x 18) ^^^ (x >>> 3)
def sg1 (x:BitVec 32):BitVec 32:=(rr x 17 ^^^ rr x 19) ^^^ (x >>> 10)
def stW (i:Nat) (v:Vector (BitVec 32) 64):Vector (BitVec 32) 64:=v.setIfInBounds i (((gv v (i - 16)+sg0 (gv v (i - 15)))+gv v (i - 7))+sg1 (gv v (i - 2)))
theorem Qml (v:Vector (BitVec 32) 64):Jd (fun (s:Int×(Vector (BitVec 32) 64))=>VU s.1 s.2) FU (16,v)=some (64,Yt stW 16 48 v):=by
 refine JQ (fun i v=>((i:Int),v)) stW 16 64 (fun i v h1 h2=>?_) (fun v=>?_) FU v (by omega) (J6 (by omega))
 ·simp only [VU]
  rw [QA (by simp; omega),JA (n:=(i:Int) - 15) (by omega),JA (n:=(i:Int) - 2) (by omega),JA (n:=(i:Int) - 16) (by omega),JA (n:=(i:Int) - 7) (by omega),JA (n:=(i:Int)+1) (by omega)]
  simp only [Uc (n:=64) (v:=v) (i:=(i:Int) - 15) (k:=i - 15) (by omega) (by omega),Uc (n:=64) (v:=v) (i:=(i:Int) - 2) (k:=i - 2) (by omega) (by omega),Uc (n:=64) (v:=v) (i:=(i:Int) - 16) (k:=i - 16) (by omega) (by omega),Uc (n:=64) (v:=v) (i:=(i:Int) - 7) (k:=i - 7) (by omega) (by omega),Option.bind_some,
   qY (k:= -7) (a:=25) (b:=7) (by decide) (by decide),qY (k:= -18) (a:=14) (b:=18) (by decide) (by decide),qY (k:= -17) (a:=15) (b:=17) (by decide) (by decide),qY (k:= -19) (a:=13) (b:=19) (by decide) (by decide)]
  rw [QA ⟨by omega,by omega⟩]
  rfl
 ·simp only [VU]
  rw [QQ (by simp)]
theorem QoZ (x:BitVec 32):x / 8#32=x >>> 3:=by
 apply BitVec.eq_of_toNat_eq; simp [BitVec.toNat_udiv,Nat.shiftRight_eq_div_pow]
theorem Qm7 (x:BitVec 32):x / 1024#32=x >>> 10:=by
 apply BitVec.eq_of_toNat_eq; simp [BitVec.toNat_udiv,Nat.shiftRight_eq_div_pow]
theorem Ql1 (v:Vector (BitVec 32) 64):Jd (fun (s:Int×(Vector (BitVec 32) 64))=>Xc s.1 s.2) FU (16,v)=some (64,Yt stW 16 48 v):=by
 refine JQ (fun i v=>((i:Int),v)) stW 16 64 (fun i v h1 h2=>?_) (fun v=>?_) FU v (by omega) (J6 (by omega))
 ·simp only [Xc]
  rw [QA (by simp; omega),JA (n:=(i:Int) - 15) (by omega),JA (n:=(i:Int) - 2) (by omega),JA (n:=(i:Int) - 16) (by omega),JA (n:=(i:Int) - 7) (by omega),JA (n:=(i:Int)+1) (by omega)]
  simp only [Uc (n:=64) (v:=v) (i:=(i:Int) - 15) (k:=i - 15) (by omega) (by omega),Uc (n:=64) (v:=v) (i:=(i:Int) - 2) (k:=i - 2) (by omega) (by omega),Uc (n:=64) (v:=v) (i:=(i:Int) - 16) (k:=i - 16) (by omega) (by omega),Uc (n:=64) (v:=v) (i:=(i:Int) - 7) (k:=i - 7) (by omega) (by omega),Option.bind_some,
   Un (n:=7#32) (a:=25) (b:=7) (by decide) (by decide),Un (n:=18#32) (a:=14) (b:=18) (by decide) (by decide),Un (n:=17#32) (a:=15) (b:=17) (by decide) (by decide),Un (n:=19#32) (a:=13) (b:=19) (by decide) (by decide),QoZ,Qm7]
  rw [QA ⟨by omega,by omega⟩]
  rfl
 ·simp only [Xc]
  rw [QQ (by simp)]
def pb (b:List (BitVec 8)) (i:Nat) (v:Vector (BitVec 32) 64):Vector (BitVec 32) 64:=v.setIfInBounds (i / 4) ((gv v (i / 4) <<< 8) ||| (gl b i).setWidth 32)
def wd (b:List (BitVec 8)) (t:Nat):BitVec 32:=((((gl b (4*t)).setWidth 32 <<< 8 ||| (gl b (4*t+1)).setWidth 32) <<< 8 ||| (gl b (4*t+2)).setWidth 32) <<< 8) ||| (gl b (4*t+3)).setWidth 32
def pw (b:List (BitVec 8)) (t:Nat) (v:Vector (BitVec 32) 64):Vector (BitVec 32) 64:=v.setIfInBounds t (wd b t)
theorem pb4 (b:List (BitVec 8)) (t:Nat) (v:Vector (BitVec 32) 64) (ht:t < 64) (h0:gv v t=0):Yt (pb b) (4*t) 4 v=pw b t v:=by
 have e0:(4*t) / 4=t:=by omega
 have e1:(4*t+1) / 4=t:=by omega
 have e2:(4*t+1+1) / 4=t:=by omega
 have e3:(4*t+1+1+1) / 4=t:=by omega
 simp only [Yt,pb,e0,e1,e2,e3,Qbr ht,Qm5,h0,pw,wd]
 simp
theorem Qon (b:List (BitVec 8)):∀(t i:Nat) (v:Vector (BitVec 32) 64),(∀j,i≤j→gv v j=0)→∀j,i+t≤j→gv (Yt (pw b) i t v) j=0
 | 0,i,v,h,j,hj=>h j (by omega)
 | t+1,i,v,h,j,hj=>Qon b t (i+1) (pw b i v) (fun k hk=>by unfold pw; rw [QdW (by omega)]; exact h k (by omega)) j (by omega)
theorem QnO (j:Nat):gv (Vector.replicate 64 (0#32)) j=0:=by
 unfold gv
 by_cases h:j < 64
 ·simp [h]
 ·simp [Vector.getElem?_eq_none (Nat.not_lt.1 h)]
theorem Qoe (b:List (BitVec 8)):∀(t:Nat),t≤16→Yt (pb b) 0 (4*t) (Vector.replicate 64 (0#32))=Yt (pw b) 0 t (Vector.replicate 64 (0#32))
 | 0,_=>rfl
 | t+1,h=>by
  rw [show 4*(t+1)=4*t+4 by omega,QdE,Qoe b t (by omega),qi (pw b) t 0,Nat.zero_add,Nat.zero_add];exact pb4 b t _ (by omega) (Qon b t 0 _ (fun j _=>QnO j) t (by omega))
theorem QlU (b:List (BitVec 8)) (hb:64≤b.length) (v:Vector (BitVec 32) 64):Jd (fun (s:Int×(Vector (BitVec 32) 64))=>V1 (b.take 64) s.1 s.2) FU (0,v)=some (64,Yt (pb b) 0 64 v):=by
 refine JQ (fun i v=>((i:Int),v)) (pb b) 0 64 (fun i v h1 h2=>?_) (fun v=>?_) FU v (by omega) (J6 (by omega))
 ·simp only [V1]
  have hd:w64 (Int.tdiv (i:Int) 4)=((i / 4:Nat):Int):=by
   rw [show (4:Int)=((4:Nat):Int) from rfl,←Int.ofNat_tdiv]; exact B1 (by omega)
  rw [QA (by simp; omega),hd,JA (n:=(i:Int)+1) (by omega)];have hg:JU (b.take 64) (i:Int)=some (gl b i):=by
   rw [Jl rfl (by simp; omega)]; simp [gl,List.getElem?_eq_getElem (show i < b.length by omega)]
  rw [Qb hg,Qb (Uc rfl (by omega)),QA ⟨by omega,by omega⟩]
  rfl
 ·simp only [V1]
  rw [QQ (by simp; omega)]
theorem Qm4 (Y:BitVec 32) (c:BitVec 8):Y*256#32+c.setWidth 32=Y <<< 8 ||| c.setWidth 32:=by
 have e:Y*256#32=Y <<< 8:=by
  apply BitVec.eq_of_toNat_eq; simp [BitVec.toNat_mul,BitVec.toNat_shiftLeft,Nat.shiftLeft_eq]
 rw [e]
 apply BitVec.add_eq_or_of_and_eq_zero
 apply BitVec.eq_of_getLsbD_eq
 intro i hi
 simp only [BitVec.getLsbD_and,BitVec.getLsbD_shiftLeft,BitVec.getLsbD_setWidth,BitVec.getLsbD_zero]
 by_cases h:i < 8
 ·simp [h]
 ·rw [BitVec.getLsbD_of_ge c i (by omega)]; simp
theorem Qpw (c0 c1 c2 c3:BitVec 8):(val [c0,c1,c2,c3]).setWidth 32=(((c0.setWidth 32 <<< 8 ||| c1.setWidth 32) <<< 8 ||| c2.setWidth 32) <<< 8) ||| c3.setWidth 32:=by
 have hs:∀(X:BitVec 64) (c:BitVec 8),(X*256#64+c.setWidth 64).setWidth 32=(X.setWidth 32) <<< 8 ||| c.setWidth 32:=by
  intro X c;rw [←Qm4]
  apply BitVec.eq_of_toNat_eq
  simp only [BitVec.toNat_setWidth,BitVec.toNat_add,BitVec.toNat_mul,BitVec.toNat_ofNat]
  omega
 simp only [val,List.foldl_cons,List.foldl_nil,hs]
 simp
theorem QmS (b:List (BitVec 8)) (hb:64≤b.length) (v:Vector (BitVec 32) 64):Jd (fun (s:Int×(Vector (BitVec 32) 64))=>Xb b s.1 s.2) FU (0,v)=some (16,Yt (pw b) 0 16 v):=by
 refine JQ (fun i v=>((i:Int),v)) (pw b) 0 16 (fun i v h1 h2=>?_) (fun v=>?_) FU v (by omega) (J6 (by omega))
 ·simp only [Xb]
  rw [QA (by simp; omega),JA (n:=4*(i:Int)) (by omega),JA (n:=4*(i:Int)+4) (by omega),JA (n:=(i:Int)+1) (by omega)];have hsl:JZ b (4*(i:Int)) (4*(i:Int)+4)=some [gl b (4*i),gl b (4*i+1),gl b (4*i+2),gl b (4*i+3)]:=by
   rw [J5 (a:=4*i) (b:=4*i+4) (by omega) (by omega) (by omega) (by omega)]
   congr 1
   apply List.ext_getElem
   ·simp; omega
   ·intro j h1 h2
    simp only [List.length_cons,List.length_nil] at h2
    have hj:j=0∨j=1∨j=2∨j=3:=by omega
    rcases hj with rfl | rfl | rfl | rfl<;>simp [gl,List.getElem?_eq_getElem,show 4*i < b.length by omega,show 4*i+1 < b.length by omega,show 4*i+2 < b.length by omega,show 4*i+3 < b.length by omega]
  rw [Qb hsl,Qb (Qdn _ (by simp)),QA ⟨by omega,by omega⟩,Qpw]
  rfl
 ·simp only [Xb]
  rw [QQ (by simp)]
def Qgh (b:List (BitVec 8)):Vector (BitVec 32) 64:=Yt stW 16 48 (Yt (pw b) 0 16 (Vector.replicate 64 (0#32)))
theorem QiB (b:List (BitVec 8)) (hb:64≤b.length):Wf b=some (Qgh b):=by
 unfold Wf;rw [Qb (J5 (lo:=0) (hi:=64) (a:=0) (b:=64) rfl rfl (by omega) hb),List.drop_zero,Qb (QlU b hb _)];have:=Qoe b 16 (by omega);rw [show 4*16=64 from rfl] at this
 simp only [this,Qml,Option.bind_some]
 rfl
theorem QlP (b:List (BitVec 8)) (hb:64≤b.length):V9 b=some (Qgh b):=by
 unfold V9;rw [Qb (QmS b hb _)]
 simp only [Ql1,Option.bind_some]
 rfl
end Go.Sl.Pu
namespace Go.Sl.Pu
open Go.Sl Go.Sl.M
def rnd (w:Vector (BitVec 32) 64) (i:Nat) (v:Vector (BitVec 32) 8):Vector (BitVec 32) 8:=
 #v[((((v[7]+((rr v[4] 6 ^^^ rr v[4] 11) ^^^ rr v[4] 25))+(v[6] ^^^ (v[4]&&& (v[5] ^^^ v[6]))))+gv X7 i)+gv w i)+(((rr v[0] 2 ^^^ rr v[0] 13) ^^^ rr v[0] 22)+((v[0]&&& v[1]) ||| (v[2]&&& (v[0] ||| v[1])))),
  v[0],v[1],v[2],v[3]+((((v[7]+((rr v[4] 6 ^^^ rr v[4] 11) ^^^ rr v[4] 25))+(v[6] ^^^ (v[4]&&& (v[5] ^^^ v[6]))))+gv X7 i)+gv w i),v[4],v[5],v[6]]
theorem Qm3 (w:Vector (BitVec 32) 64) (v:Vector (BitVec 32) 8) (i:Nat) (h2:i < 64):ZT w (i:Int) v=some (.next (((i+1:Nat):Int),rnd w i v)):=by
  unfold ZT;rw [QA (by simp; omega),JA (n:=(i:Int)+1) (by omega)];rw [Qb (qY (k:= -6) (a:=26) (b:=6) (by decide) (by decide))];rw [Qb (qY (k:= -11) (a:=21) (b:=11) (by decide) (by decide))];rw [Qb (qY (k:= -25) (a:=7) (b:=25) (by decide) (by decide))];rw [Qb (Uc (n:=64) (i:=(i:Int)) (k:=i) rfl h2)];rw [Qb (Uc (n:=64) (i:=(i:Int)) (k:=i) rfl h2)];rw [Option.bind_some];rw [Qb (qY (k:= -2) (a:=30) (b:=2) (by decide) (by decide))];rw [Qb (qY (k:= -13) (a:=19) (b:=13) (by decide) (by decide))];rw [Qb (qY (k:= -22) (a:=10) (b:=22) (by decide) (by decide))];rw [Option.bind_some];rw [Option.bind_some]
  rfl
theorem Qo0 (w:Vector (BitVec 32) 64) (v:Vector (BitVec 32) 8):ZT w ((64:Nat):Int) v=some (.brk (((64:Nat):Int),v)):=by
 unfold ZT;exact if_neg (by simp)
theorem QmA (w:Vector (BitVec 32) 64) (v:JD):Jd (fun (s:Int×JD)=>ZT w s.1 s.2) FU (0,v)=some (64,Yt (rnd w) 0 64 v):=by
 have h:=JQ (f:=fun (s:Int×JD)=>ZT w s.1 s.2) (fun i (v:JD)=>((i:Int),v)) (rnd w) 0 64 (fun i v h1 h2=>Qm3 w v i h2) (fun v=>Qo0 w v) FU v (by omega) (J6 (by omega));rw [Nat.sub_zero] at h;exact h
theorem Qpa (a b c:BitVec 32):a&&& b ||| ((4294967295#32) - a)&&& c=c ^^^ (a&&& (b ^^^ c)):=by
 have e:(4294967295#32) - a = ~~~a:=by
  rw [show (4294967295#32)=BitVec.allOnes 32 by decide,BitVec.allOnes_sub_eq_not]
 rw [e]
 apply BitVec.eq_of_getLsbD_eq
 intro i hi
 simp only [BitVec.getLsbD_or,BitVec.getLsbD_and,BitVec.getLsbD_not,BitVec.getLsbD_xor,hi,decide_true,Bool.true_and]
 cases a.getLsbD i<;>cases b.getLsbD i<;>cases c.getLsbD i<;>rfl
theorem QoS (a b c:BitVec 32):(a&&& b ||| a&&& c) ||| b&&& c=a&&& b ||| c&&& (a ||| b):=by
 apply BitVec.eq_of_getLsbD_eq
 intro i hi
 simp only [BitVec.getLsbD_or,BitVec.getLsbD_and]
 cases a.getLsbD i<;>cases b.getLsbD i<;>cases c.getLsbD i<;>rfl
theorem QnY (w:Vector (BitVec 32) 64) (v:Vector (BitVec 32) 8):Jd (fun (s:Int×(Vector (BitVec 32) 8))=>Xq X7 w s.1 s.2) FU (0,v)=some (64,Yt (rnd w) 0 64 v):=by
 refine JQ (fun i v=>((i:Int),v)) (rnd w) 0 64 (fun i v h1 h2=>?_) (fun v=>?_) FU v (by omega) (J6 (by omega))
 ·simp only [Xq]
  rw [QA (by simp; omega),JA (n:=(i:Int)+1) (by omega)]
  simp only [Un (n:=6#32) (a:=26) (b:=6) (by decide) (by decide),Un (n:=11#32) (a:=21) (b:=11) (by decide) (by decide),Un (n:=25#32) (a:=7) (b:=25) (by decide) (by decide),
   Un (n:=2#32) (a:=30) (b:=2) (by decide) (by decide),Un (n:=13#32) (a:=19) (b:=13) (by decide) (by decide),Un (n:=22#32) (a:=10) (b:=22) (by decide) (by decide),Option.bind_some,Uc (n:=64) (i:=(i:Int)) (k:=i) rfl h2,Qpa,QoS]
  rfl
 ·simp only [Xq]
  rw [QQ (by simp)]
def Qnn (a:Vector (BitVec 32) 8) (i:Nat) (v:Vector (BitVec 32) 8):Vector (BitVec 32) 8:=v.setIfInBounds i (gv v i+gv a i)
theorem QmO (a v:Vector (BitVec 32) 8):Jd (fun (s:Int×(Vector (BitVec 32) 8))=>Xn a s.1 s.2) FU (0,v)=some (8,Yt (Qnn a) 0 8 v):=by
 refine JQ (fun i v=>((i:Int),v)) (Qnn a) 0 8 (fun i v h1 h2=>?_) (fun v=>?_) FU v (by omega) (J6 (by omega))
 ·simp only [Xn]
  rw [QA (by simp; omega),JA (n:=(i:Int)+1) (by omega)]
  simp only [Option.bind_some,Uc (n:=8) (i:=(i:Int)) (k:=i) rfl h2]
  rw [QA ⟨by omega,by omega⟩]
  rfl
 ·simp only [Xn]
  rw [QQ (by simp)]
theorem Qns (a v:Vector (BitVec 32) 8):Jd (fun (s:Int×JD)=>KN a s.1 s.2) FU (0,v)=some (8,Yt (Qnn a) 0 8 v):=QmO a v
def blk (s:Vector (BitVec 32) 8) (b:List (BitVec 8)):Vector (BitVec 32) 8:=Yt (Qnn (Yt (rnd (Qgh b)) 0 64 s)) 0 8 s
theorem Qfe (s:Vector (BitVec 32) 8) (b:List (BitVec 8)) (hb:64≤b.length):X4 s b=some (blk s b):=by
 unfold X4;rw [Qb (QiB b hb)]
 simp only [QmA,Qns,Option.bind_some]
 rfl
theorem Qnv (s:Vector (BitVec 32) 8) (b:List (BitVec 8)) (hb:64≤b.length):Kz s b=some (blk s b):=by
 unfold Kz;rw [Qb (QlP b hb),Qb (show WF=some X7 from rfl)]
 simp only [QnY,QmO,Option.bind_some]
 rfl
theorem QbW (s:Vector (BitVec 32) 8){b b':List (BitVec 8)} (h:∀i,i < 64→gl b i=gl b' i):blk s b=blk s b':=by
 have:Qgh b=Qgh b':=by
  unfold Qgh;rw [Qbi (f:=pw b) (g:=pw b') 16 0 _ fun j _ hj v=>?_];unfold pw wd;rw [h (4*j) (by omega),h (4*j+1) (by omega),h (4*j+2) (by omega),h (4*j+3) (by omega)]
 unfold blk;rw [this]
def Qou (h:Vector (BitVec 32) 8):Vector (BitVec 8) 32:=Yt (fun i (o:Vector (BitVec 8) 32)=>o.setIfInBounds i ((gv h (i / 4) >>> (24 - 8*(i % 4))).setWidth 8)) 0 32 (Vector.replicate 32 (0#8))
theorem QlI (h:Vector (BitVec 32) 8):Jd (fun (s:Int×Qa)=>Wv h s.1 s.2) FU (0,Vector.replicate 32 (0#8))=some (32,Qou h):=by
 refine JQ (fun i v=>((i:Int),v)) (fun i (o:Vector (BitVec 8) 32)=>o.setIfInBounds i ((gv h (i / 4) >>> (24 - 8*(i % 4))).setWidth 8)) 0 32 (fun i v h1 h2=>?_) (fun v=>?_) FU _ (by omega) (J6 (by omega))
 ·simp only [Wv]
  have hd:w64 (Int.tdiv (i:Int) 4)=((i / 4:Nat):Int):=by
   rw [show (4:Int)=((4:Nat):Int) from rfl,←Int.ofNat_tdiv]; exact B1 (by omega)
  have hm:Int.tmod (i:Int) 4=((i % 4:Nat):Int):=by
   rw [show (4:Int)=((4:Nat):Int) from rfl,←Int.ofNat_tmod]
  rw [QA (by simp; omega),hd,Qb (Uc rfl (by omega)),hm,JA (n:=8*((i % 4:Nat):Int)) (by omega),JA (n:=24 - 8*((i % 4:Nat):Int)) (by omega),QA (by omega),QA ⟨by omega,by omega⟩,JA (n:=(i:Int)+1) (by omega)];have:(24 - 8*((i % 4:Nat):Int)).toNat=24 - 8*(i % 4):=by omega
  rw [this]
  rfl
 ·simp only [Wv]
  rw [QQ (by simp)]
theorem Qn3 (h:Vector (BitVec 32) 8):Jd (fun (s:Int×Qa)=>XM h s.1 s.2) FU (0,Vector.replicate 32 (0#8))=some (32,Qou h):=by
 refine JQ (fun i v=>((i:Int),v)) (fun i (o:Vector (BitVec 8) 32)=>o.setIfInBounds i ((gv h (i / 4) >>> (24 - 8*(i % 4))).setWidth 8)) 0 32 (fun i v h1 h2=>?_) (fun v=>?_) FU _ (by omega) (J6 (by omega))
 ·simp only [XM]
  have hd:w64 (Int.tdiv (i:Int) 4)=((i / 4:Nat):Int):=by
   rw [show (4:Int)=((4:Nat):Int) from rfl,←Int.ofNat_tdiv]; exact B1 (by omega)
  have hm:Int.tmod (i:Int) 4=((i % 4:Nat):Int):=by
   rw [show (4:Int)=((4:Nat):Int) from rfl,←Int.ofNat_tmod]
  rw [QA (by simp; omega),hd,Qb (Uc rfl (by omega)),hm,QA ⟨by omega,by omega⟩,JA (n:=(i:Int)+1) (by omega)];have h4:i % 4=0∨i % 4=1∨i % 4=2∨i % 4=3:=by omega
  have:(24#32 - 8#32*BitVec.ofInt 32 ((i % 4:Nat):Int)).toNat=24 - 8*(i % 4):=by
   rcases h4 with h | h | h | h<;>rw [h]<;>decide
  rw [this]
  rfl
 ·simp only [XM]
  rw [QQ (by simp)]
def zs (n:Nat):Nat:=if n % 64 < 56 then 55 - n % 64 else 119 - n % 64
def pad (b:List (BitVec 8)):List (BitVec 8):=b++([128#8]++(List.replicate (zs b.length) (0#8)++be ((BitVec.ofNat 64 b.length) <<< 3) 8))
theorem Qkk (b:List (BitVec 8)):(pad b).length=b.length+zs b.length+9:=by
 simp [pad,JW]; omega
theorem QkO (b:List (BitVec 8)) (hb:b.length≤4000000000):VK b=some (pad b):=by
 unfold VK;rw [QA (by simp [AP]; omega),QA (by simp [AP]; omega),List.nil_append];have hz:zs b.length≤63:=by unfold zs; split<;>omega
 have h1:=JQ (f:=fun (s:List (BitVec 8))=>YP s) (fun i (_:Unit)=>(b++ [128#8])++List.replicate i (0#8)) (fun _ s=>s) 0 (zs b.length) (fun i s h1 h2=>by
   simp only [YP]
   have hl:(((b++ [128#8])++List.replicate i (0#8)).length:Int)=((b.length+1+i:Nat):Int):=by simp; omega
   have hm:Int.tmod ((b.length+1+i:Nat):Int) 64=(((b.length+1+i) % 64:Nat):Int):=by
    rw [show (64:Int)=((64:Nat):Int) from rfl,←Int.ofNat_tmod]
   rw [hl,hm,QA (by
    simp only [Bool.not_eq_true',decide_eq_false_iff_not]
    unfold zs at h2; split at h2<;>omega),QA (by simp [AP]; omega)]
   rw [List.append_assoc,←List.replicate_succ']) (fun s=>by
   simp only [YP]
   have hl:(((b++ [128#8])++List.replicate (zs b.length) (0#8)).length:Int)=((b.length+1+zs b.length:Nat):Int):=by simp; omega
   have hm:Int.tmod ((b.length+1+zs b.length:Nat):Int) 64=(((b.length+1+zs b.length) % 64:Nat):Int):=by
    rw [show (64:Int)=((64:Nat):Int) from rfl,←Int.ofNat_tmod]
   rw [hl,hm,QQ (by
    simp only [Bool.not_eq_true',decide_eq_false_iff_not,Decidable.not_not]
    unfold zs; split<;>omega)]) FU () (by omega) (J6 (by omega))
 have e0:(b++ [128#8])=(b++ [128#8])++List.replicate 0 (0#8):=by simp
 rw [e0];rw [Qb h1];have e8:(8#64)*(BitVec.ofInt 64 (b.length:Int))=(BitVec.ofNat 64 b.length) <<< 3:=by
  apply BitVec.eq_of_toNat_eq
  simp [BitVec.toNat_mul,BitVec.toNat_shiftLeft,Nat.shiftLeft_eq]
  omega
 rw [e8];rw [Qb (show Jy _ 8=some _ from W8 _ 8 (by omega)),QA (by simp [AP,JW]; omega)]
 simp [pad]
def Qf6 (p:List (BitVec 8)) (k:Nat):Vector (BitVec 32) 8:=Yt (fun i s=>blk s (p.drop (64*i))) 0 k Ye
def sha (b:List (BitVec 8)):Vector (BitVec 8) 32:=Qou (Qf6 (pad b) ((pad b).length / 64))
theorem QgU (b:List (BitVec 8)){i k:Nat} (h:i < k):gl (b.take k) i=gl b i:=by
 simp only [gl,List.getD_eq_getElem?_getD,List.getElem?_take,if_pos h]
theorem Bh (b:List (BitVec 8)) (i k:Nat):gl (b.drop k) i=gl b (k+i):=by
 simp only [gl,List.getD_eq_getElem?_getD,List.getElem?_drop]
theorem QbZ (b:List (BitVec 8)) (hb:b.length≤4000000000):Yl b=some (sha b):=by
 unfold Yl;rw [Qb (show K4=some Ye from rfl),Qb (QkO b hb)];have hlen:=Qkk b;have hdiv:64*((pad b).length / 64)=(pad b).length:=by
  rw [hlen]; unfold zs; split<;>omega
 have hle:(pad b).length≤4000000200:=by rw [hlen]; unfold zs; split<;>omega
 have h1:=JQ (f:=fun (s:Int×(Vector (BitVec 32) 8))=>XN (pad b) s.1 s.2) (fun i v=>((64*i:Nat),v)) (fun i s=>blk s ((pad b).drop (64*i))) 0 ((pad b).length / 64) (fun i v h1 h2=>by
   simp only [XN]
   have hi:64*i+64≤(pad b).length:=by omega
   rw [QA (by simp; omega),JA (n:=((64*i:Nat):Int)+64) (by omega)];rw [Qb (J5 (a:=64*i) (b:=64*i+64) rfl (by omega) (by omega) hi),Qb (Qnv _ _ (by simp; omega))];have:(((64*i:Nat):Int)+64)=((64*(i+1):Nat):Int):=by omega
   rw [this];have hc:blk v (((pad b).take (64*i+64)).drop (64*i))=blk v ((pad b).drop (64*i)):=by
    refine QbW v fun j hj=>?_;rw [Bh,Bh,QgU _ (by omega)]
   rw [hc]) (fun v=>by
   simp only [XN]
   rw [QQ (by simp; omega)]) FU Ye (by omega) (J6 (by omega))
 have e0:((0:Int),Ye)=(((64*0:Nat):Int),Ye):=rfl;rw [e0,Qb h1]
 simp only [Qn3,Option.bind_some]
 rfl
end Go.Sl.Pu
namespace Go.Sl.Pu
open Go.Sl Go.Sl.M
theorem Qah (a b:List (BitVec 8)) (i:Nat):gl (a++b) i=if i < a.length then gl a i else gl b (i - a.length):=by
 simp only [gl,List.getD_eq_getElem?_getD]
 split
 ·rename_i h; rw [List.getElem?_append_left h]
 ·rename_i h; rw [List.getElem?_append_right (by omega)]
theorem Qmr (n i:Nat):gl (List.replicate n (0#8)) i=0:=by
 simp only [gl,List.getD_eq_getElem?_getD,List.getElem?_replicate]
 split<;>rfl
theorem Qpi {w:Nat} (x:BitVec w) (k i:Nat) (h:i < k):gl (be x k) i=(x >>> (8*(k - 1 - i))).setWidth 8:=by
 simp [gl,be,h]
theorem Qoj (b:List (BitVec 8)) (i:Nat) (h:b.length≤i):gl b i=0:=by
 simp [gl,List.getElem?_eq_none h]
theorem QiR {n:Nat} (v:Vector (BitVec 8) n) (j:Nat):gl v.toList j=gv v j:=by
 simp only [gl,gv,List.getD_eq_getElem?_getD]
 by_cases h:j < n
 ·simp [h]
 ·rw [List.getElem?_eq_none (by simpa using h),Vector.getElem?_eq_none (by omega)]
theorem QnV {n:Nat} (l:List (BitVec 8)) (h:l.length≤n) (j:Nat):gv (QjN (Vector.replicate n (0#8)) 0 l) j=gl l j:=by
 rw [←QiR,Qer _ _ _ (by omega)]
 simp only [List.take_zero,List.nil_append]
 rw [Qah]
 split
 ·rfl
 ·rename_i hj
  rw [Bh,QiR,Qoj l j (by omega)];unfold gv
  by_cases h2:0+l.length+(j - l.length) < n
  ·rw [Vector.getElem?_eq_getElem h2]; simp
  ·rw [Vector.getElem?_eq_none (by omega)]; rfl
def Qk6 (S:Nat) (x:BitVec 64) (i:Nat) (v:Vector (BitVec 8) 128):Vector (BitVec 8) 128:=v.setIfInBounds (S - 1 - i) ((x >>> (8*i)).setWidth 8)
theorem Qj1 (S:Nat) (x:BitVec 64) (hS:S≤128) (v:Vector (BitVec 8) 128):∀(k:Nat),k≤S→∀j,gv (Yt (Qk6 S x) 0 k v) j=if S - k≤j∧j < S then (x >>> (8*(S - 1 - j))).setWidth 8 else gv v j
 | 0,_,j=>by rw [if_neg (by omega)]; rfl
 | k+1,hk,j=>by
  rw [qi,Nat.zero_add];unfold Qk6
  by_cases hj:S - 1 - k=j
  ·subst hj;rw [Qbr (by omega),if_pos ⟨by omega,by omega⟩]
   congr 2; omega
  ·rw [QdW hj];have ih:=Qj1 S x hS v k (by omega) j;unfold Qk6 at ih;rw [ih]
   by_cases h2:S - k≤j∧j < S
   ·rw [if_pos h2,if_pos ⟨by omega,h2.2⟩]
   ·rw [if_neg h2,if_neg (by omega)]
theorem QoR (b:List (BitVec 8)) (hb:b.length≤4000000000):Jd (fun (s:(List (BitVec 8))×JD)=>UQ s.1 s.2) FU (b,Ye)=some (b.drop (64*(b.length / 64)),Yt (fun i s=>blk s (b.drop (64*i))) 0 (b.length / 64) Ye):=by
 have h:=JQ (f:=fun (s:(List (BitVec 8))×JD)=>UQ s.1 s.2) (fun i (v:JD)=>(b.drop (64*i),v)) (fun i s=>blk s (b.drop (64*i))) 0 (b.length / 64) (fun i v h1 h2=>by
  simp only [UQ]
  have hl:(b.drop (64*i)).length=b.length - 64*i:=by simp
  rw [QA (by rw [hl]; simp; omega),Qb (Qfe _ _ (by rw [hl]; omega)),Qb (J5 (lo:=64) (a:=64) (b:=(b.drop (64*i)).length) rfl rfl (by rw [hl]; omega) (Nat.le_refl _)),List.take_length,List.drop_drop];rw [show 64*i+64=64*(i+1) by omega]) (fun v=>by
  simp only [UQ]
  rw [QQ (by simp; omega)]) FU Ye (by omega) (J6 (by omega))
 exact h
theorem QoC (S:Nat) (b:List (BitVec 8)) (hS:S=64∨S=128) (v:Vector (BitVec 8) 128):Jd (fun (s:Int×(Vector (BitVec 8) 128))=>WC (S:Int) b s.1 s.2) FU ((0:Int),v)=some ((8:Int),Yt (Qk6 S ((BitVec.ofNat 64 b.length) <<< 3)) 0 8 v):=by
 refine JQ (fun i v=>((i:Int),v)) (Qk6 S ((BitVec.ofNat 64 b.length) <<< 3)) 0 8 (fun i v h1 h2=>?_) (fun v=>?_) FU v (by omega) (J6 (by omega))
 ·simp only [WC]
  rw [QA (by simp; omega),JA (n:=8*(i:Int)) (by omega),QA (by omega),JA (n:=(S:Int) - 1) (by omega),JA (n:=(S:Int) - 1 - (i:Int)) (by omega),QA ⟨by omega,by omega⟩,JA (n:=(i:Int)+1) (by omega)];have e1:((S:Int) - 1 - (i:Int)).toNat=S - 1 - i:=by omega
  have e2:(8*(i:Int)).toNat=8*i:=by omega
  rw [e1,e2]
  rfl
 ·simp only [WC]
  rw [QQ (by simp)]
theorem Qfb (b:List (BitVec 8)) (hb:b.length≤4000000000):WP b=some (sha b):=by
 unfold WP;rw [Qb (QoR b hb)]
 generalize hst:Yt (fun i s=>blk s (b.drop (64*i))) 0 (b.length / 64) Ye=st
 have hl:(b.drop (64*(b.length / 64))).length=b.length % 64:=by simp; omega
 have hst2:Qf6 (pad b) (b.length / 64)=st:=by
  rw [←hst];unfold Qf6;refine Qbi _ 0 _ fun i _ hi s=>?_;refine QbW s fun j hj=>?_;rw [Bh,Bh];unfold pad;rw [Qah,if_pos (by omega)]
 have hsize:(if (decide ((56:Int)≤((b.drop (64*(b.length / 64))).length:Int)))=true then some (128:Int) else some (64:Int))=some (((if b.length % 64 < 56 then 64 else 128:Nat)):Int):=by
  rw [hl]
  by_cases h:b.length % 64 < 56
  ·rw [if_neg (by simp; omega),if_pos h]; rfl
  ·rw [if_pos (by simp; omega),if_neg h]; rfl
 simp only []
 rw [hsize]
 generalize hS:(if b.length % 64 < 56 then 64 else 128:Nat)=S
 have hS2:S=64∨S=128:=by rw [←hS]; split<;>simp
 rw [Option.bind_some,QA ⟨by omega,by rw [hl]; omega⟩,Option.bind_some];rw [Qb (QoC S b hS2 _)]
 simp only []
 generalize hT:Yt (Qk6 S ((BitVec.ofNat 64 b.length) <<< 3)) 0 8 ((QjN (Vector.replicate 128 (0#8)) 0 ((b.drop (64*(b.length / 64))).take 128)).setIfInBounds ((b.drop (64*(b.length / 64))).length:Int).toNat (128#8))=T
 -- the tail is the padded text's end
 have htail:∀j,j < S→gl T.toList j=gl ((pad b).drop (64*(b.length / 64))) j:=by
  intro j hj;rw [QiR,←hT,Qj1 S _ (by omega) _ 8 (by omega),Bh];have hr:((b.drop (64*(b.length / 64))).length:Int).toNat=b.length % 64:=by rw [hl]; omega
  rw [hr];unfold pad;rw [Qah,Qah,Qah]
  simp only [List.length_cons,List.length_nil,List.length_replicate]
  have hz:zs b.length=S - 9 - b.length % 64:=by
   rw [←hS]; unfold zs; split<;>omega
  have hz2:b.length % 64≤S - 9:=by rw [←hS]; split<;>omega
  have hz3:64≤S:=by omega
  by_cases h1:S - 8≤j∧j < S
  ·rw [if_pos h1,if_neg (by rw [←hS] at h1; split at h1<;>omega),if_neg (by rw [←hS] at h1; split at h1<;>omega),if_neg (by rw [hz]; omega),Qpi _ _ _ (by rw [hz]; omega)]
   congr 2
   rw [hz]; omega
  ·rw [if_neg h1]
   by_cases h2:b.length % 64=j
   ·rw [h2,Qbr (by omega),if_neg (by omega),if_pos (by omega)];have:64*(b.length / 64)+j - b.length=0:=by omega
    rw [this]; rfl
   ·rw [QdW h2,QnV _ (by simp; omega),QgU _ (by omega),Bh]
    by_cases h3:j < b.length % 64
    ·rw [if_pos (by omega)]
    ·rw [if_neg (by omega),if_neg (by omega),if_pos (by rw [hz]; omega),Qmr,Qoj _ _ (by omega)]
 rw [Qb (Qfe _ _ (by simp))];have hb1:blk st T.toList=Qf6 (pad b) (b.length / 64+1):=by
  unfold Qf6;rw [qi,Nat.zero_add];show _=blk (Qf6 (pad b) (b.length / 64)) _;rw [hst2];exact QbW st fun j hj=>htail j (by omega)
 have hlen:=Qkk b;have hK:(pad b).length / 64=b.length / 64+S / 64:=by
  rw [hlen,←hS]; unfold zs; split<;>omega
 rcases hS2 with rfl | rfl
 ·rw [QQ (by simp),Option.bind_some];rw [Qb (QlI _),hb1];unfold sha;rw [hK]
 ·rw [QA (by simp),Qb (Qfe _ _ (by simp)),Option.bind_some];rw [Qb (QlI _)];unfold sha;rw [hK,hb1];have:blk (Qf6 (pad b) (b.length / 64+1)) ((T.toList.drop 64).take 64)=Qf6 (pad b) (b.length / 64+128 / 64):=by
   rw [show b.length / 64+128 / 64=(b.length / 64+1)+1 by omega]
   conv=>rhs; unfold Qf6
   rw [qi,Nat.zero_add];show _=blk (Qf6 (pad b) (b.length / 64+1)) _;refine QbW _ fun j hj=>?_;rw [QgU _ hj,Bh,htail _ (by omega),Bh,Bh]
   congr 1; omega
  rw [this]
end Go.Sl.Pu
namespace Go.Sl
theorem Qjb {τ ρ:Type}{f:τ→Option (LR τ ρ)} (en:Nat→τ) (n:Nat) (r:Nat→Option ρ) (h:∀i,i < n→f (en i)=some (match r i with | some x=> .ret x | none=> .next (en (i+1)))) (he:f (en n)=some (.brk (en n))) (hn:n≤9000000000) :
  Yf f FU (en 0)=some (match (List.range n).findSome? r with | some x=> .inr x | none=> .inl (en n)):=by
 have key:∀(d i fuel:Nat),i+d=n→d < fuel→Yf f fuel (en i)=some (match ((List.range' i d).findSome? r) with | some x=> .inr x | none=> .inl (en n)):=by
  intro d
  induction d with
  | zero=>
   intro i fuel hi hf
   cases fuel with
   | zero=>omega
   | succ fuel=>
    have:i=n:=by omega
    subst this;rw [WD he]; rfl
  | succ d ih=>
   intro i fuel hi hf
   cases fuel with
   | zero=>omega
   | succ fuel=>
    have h1:=h i (by omega);rw [List.range'_succ,List.findSome?_cons]
    cases hr:r i with
    | some x=>rw [hr] at h1; rw [qb h1]
    | none=>rw [hr] at h1; rw [W4 h1,ih (i+1) fuel (by omega) (by omega)]
 have:=key n 0 FU (by omega) (J6 hn);rw [←List.range_eq_range'] at this;exact this
theorem QkP {ρ:Type}{n:Nat}{r:Nat→Option ρ} (h:∀i,i < n→r i=none):(List.range n).findSome? r=none:=by
 rw [List.findSome?_eq_none_iff];intro i hi; exact h i (List.mem_range.1 hi)
theorem QlE {ρ:Type}{n:Nat}{r:Nat→Option ρ}{x:ρ} (h:∀i,i < n→r i=none∨r i=some x) (hx:∃i,i < n∧r i≠none):(List.range n).findSome? r=some x:=by
 cases hf:(List.range n).findSome? r with
 | none=>
  rw [List.findSome?_eq_none_iff] at hf;obtain ⟨i,hi,hr⟩:=hx;exact absurd (hf i (List.mem_range.2 hi)) hr
 | some y=>
  obtain ⟨i,hi,hr⟩:=List.exists_of_findSome?_eq_some hf
  rcases h i (List.mem_range.1 hi) with h | h
  ·rw [h] at hr; cases hr
  ·rw [h] at hr; exact hr.symm
namespace Pu
open Go.Sl Go.Sl.M
theorem Qkc (a b:List (BitVec 8)) (ha:a.length≤4294967296):Vj a b=some (decide (a=b)):=by
 unfold Vj
 by_cases hl:a.length=b.length
 ·rw [QQ (by simp [hl])];have h1:=Qjb (f:=fun (s:Int)=>YI a b s) (fun i=>(i:Int)) a.length (fun i=>if a[i]? = b[i]? then none else some false) (fun i hi=>by
   simp only [YI]
   rw [QA (by simp; omega),Qb (Jl rfl hi),Qb (Jl rfl (by omega)),JA (by omega)];rw [List.getElem?_eq_getElem hi,List.getElem?_eq_getElem (show i < b.length by omega)]
   by_cases he:a[i]=b[i]
   ·rw [QQ (by simp [he]),if_pos (by rw [he])]; rfl
   ·rw [QA (by simp [he]),if_neg (by simpa using he)]) (by
   simp only [YI]
   rw [QQ (by simp)]) (by omega)
  have h1':Yf (fun (s:Int)=>YI a b s) FU (0:Int)=_:=h1;rw [Qb h1']
  by_cases hab:a=b
  ·rw [QkP (fun i hi=>by rw [hab]; simp)]
   simp [hab]
  ·rw [QlE (x:=false) (fun i hi=>by split<;>simp) (by
    apply Decidable.byContradiction
    intro hc
    apply hab
    apply List.ext_getElem? 
    intro i
    by_cases hi:i < a.length
    ·apply Decidable.byContradiction
     intro hn;exact hc ⟨i,hi,by rw [if_neg hn]; simp⟩
    ·rw [List.getElem?_eq_none (by omega),List.getElem?_eq_none (by omega)])]
   simp [hab]
 ·rw [QA (by simp; omega)];have:a≠b:=fun e=>hl (by rw [e])
  simp [this]
def body (parts:List (List (BitVec 8))):List (BitVec 8):=parts.flatMap fun p=>be (BitVec.ofNat 32 p.length) 4++p
def Qn1 (tag:BitVec 8) (parts:List (List (BitVec 8))):List (BitVec 8):=tag::body parts
def Uz (parts:List (List (BitVec 8))):Nat:=(parts.map fun p=>4+p.length).sum
theorem Qig (parts:List (List (BitVec 8))):(body parts).length=Uz parts:=by
 unfold body Uz;rw [List.length_flatMap]
 congr 1
 apply List.map_congr_left
 intro p _;rw [List.length_append,JW]
theorem Qfr (parts:List (List (BitVec 8))) (i:Nat) (hi:i < parts.length):Uz (parts.take (i+1))=Uz (parts.take i)+(4+parts[i].length):=by
 unfold Uz;rw [List.take_succ_eq_append_getElem hi]; simp only [List.map_append,List.map_cons,List.map_nil,List.sum_append,List.sum_cons,List.sum_nil,Nat.add_zero]
theorem QkN (parts:List (List (BitVec 8))) (i:Nat) (hi:i < parts.length):body (parts.take (i+1))=(body (parts.take i)++be (BitVec.ofNat 32 parts[i].length) 4)++parts[i]:=by
 unfold body;rw [List.take_succ_eq_append_getElem hi]; simp only [List.flatMap_append,List.flatMap_cons,List.flatMap_nil,List.append_nil,List.append_assoc]
theorem Qhy (parts:List (List (BitVec 8))) (i:Nat):Uz (parts.take i)≤Uz parts:=by
 unfold Uz
 conv=>rhs; rw [←List.take_append_drop i parts]
 rw [List.map_append,List.sum_append]; omega
theorem be4 (n:Nat):be (BitVec.ofNat 32 n) 4 = [((BitVec.ofInt 32 (n:Int)) >>> 24).setWidth 8,((BitVec.ofInt 32 (n:Int)) >>> 16).setWidth 8,((BitVec.ofInt 32 (n:Int)) >>> 8).setWidth 8,(BitVec.ofInt 32 (n:Int)).setWidth 8]:=by
 have e:BitVec.ofInt 32 (n:Int)=BitVec.ofNat 32 n:=by
  apply BitVec.eq_of_toNat_eq; simp
 rw [e]
 simp [be,List.range_succ]
theorem QgG : ∀(parts:List (List (BitVec 8))),4*parts.length≤Uz parts
 | []=>by simp
 | q::r=>by
  have e:Uz (q::r)=4+q.length+Uz r:=by simp [Uz]
  have:=QgG r;rw [e,List.length_cons]; omega
theorem Qnr (tag:BitVec 8) (parts:List (List (BitVec 8))) (hs:Uz parts≤4000000000):Qar tag parts=some (Qn1 tag parts):=by
 have hpl:=QgG parts;unfold Qar;have h1:=JQ (f:=fun (s:Int×Int)=>UX parts s.1 s.2) (fun i (_:Unit)=>((1+Uz (parts.take i):Nat),(i:Int))) (fun _ s=>s) 0 parts.length (fun i s h1 h2=>by
   simp only [UX]
   have h3:=Qfr parts i h2;have h4:=Qhy parts (i+1);rw [QA (by simp; omega),Qb (Jl rfl h2),JA (n:=4+(parts[i].length:Int)) (by omega),JA (by omega),Option.bind_some,JA (n:=(i:Int)+1) (by omega),h3];have:((1+Uz (parts.take i):Nat):Int)+(4+(parts[i].length:Int))=((1+(Uz (parts.take i)+(4+parts[i].length)):Nat):Int):=by omega
   rw [this]; rfl) (fun s=>by
   simp only [UX]
   rw [QQ (by simp)]) FU () (by omega) (J6 (by omega))
 have e0:(((1:Int),(0:Int)):Int×Int)=(((1+Uz (parts.take 0):Nat):Int),((0:Nat):Int)):=by simp [Uz]
 rw [e0,Qb h1,List.take_length];rw [QA ⟨by omega,by omega⟩,QA (by simp [AP])];have h2:=JQ (f:=fun (s:Int×(List (BitVec 8)))=>UW parts s.1 s.2) (fun i (_:Unit)=>((i:Int),tag::body (parts.take i))) (fun _ s=>s) 0 parts.length (fun i s h1 h2=>by
   simp only [UW]
   have h3:=Qfr parts i h2;have h4:=Qhy parts (i+1);have h5:=Qig (parts.take i);rw [QA (by simp; omega),Qb (Jl rfl h2),QA (by simp [AP]; omega),QA (by simp [AP]; omega),JA (n:=(i:Int)+1) (by omega),←be4,QkN parts i h2]
   rfl) (fun s=>by
   simp only [UW]
   rw [QQ (by simp)]) FU () (by omega) (J6 (by omega))
 have e1:(((0:Int),([]:List (BitVec 8))++ [tag]):Int×List (BitVec 8))=(((0:Nat):Int),tag::body (parts.take 0)):=by simp [body]
 rw [e1,Qb h2,List.take_length]
 rfl
def Qcl (tag:BitVec 8) (parts:List (List (BitVec 8))):Vector (BitVec 8) 32:=sha (Qn1 tag parts)
theorem Qmi (tag:BitVec 8) (parts:List (List (BitVec 8))):(Qn1 tag parts).length=Uz parts+1:=by
 unfold Qn1; rw [List.length_cons,Qig]
theorem QbU (tag:BitVec 8) (parts:List (List (BitVec 8))) (hs:Uz parts≤3000000000):Wz tag parts=some (Qcl tag parts):=by
 unfold Wz;rw [Qb (Qnr tag parts (by omega)),Qb (Qfb _ (by rw [Qmi]; omega))]
 rfl
end Pu
end Go.Sl
namespace Go.Sl
section
variable {σ τ α : Type}
def K1 (y:σ→α→Option σ):σ→List α→Option σ
 | s, []=>some s
 | s,x::xs=>Option.bind (y s x) fun s'=>K1 y s' xs
theorem Qdq (y:σ→α→Option σ):∀(a b:List α) (s:σ),K1 y s (a++b)=Option.bind (K1 y s a) fun s'=>K1 y s' b
 | [],b,s=>rfl
 | x::a,b,s=>by
  rw [List.cons_append,K1,K1]
  cases y s x with
  | none=>rfl
  | some s'=>simp only [Option.bind_some]; exact Qdq y a b s'
theorem QjL {f:τ→Option (LR τ Empty)}{n:Nat}{s:τ} (h:f s=none):Jd f (n+1) s=none:=by
 unfold Jd Yf; rw [h]
theorem Qey {f:τ→Option (LR τ Empty)} (l:List α) (en:Nat→σ→τ) (y:σ→α→Option σ)
  (h:∀i s (hi:i < l.length),f (en i s)=Option.bind (y s l[i]) fun s'=>some (.next (en (i+1) s')))
  (he:∀s,f (en l.length s)=some (.brk (en l.length s))) (hn:l.length≤9000000000) (s:σ) :
  Jd f FU (en 0 s)=Option.bind (K1 y s l) fun s'=>some (en l.length s'):=by
 have key:∀(d i n:Nat) (s:σ),i+d=l.length→d < n→Jd f n (en i s)=Option.bind (K1 y s (l.drop i)) fun s'=>some (en l.length s'):=by
  intro d
  induction d with
  | zero=>
   intro i n s hd hn;obtain ⟨n,rfl⟩:∃k,n=k+1:=⟨n - 1,by omega⟩;have:i=l.length:=by omega
   subst this;rw [XQ (he s),List.drop_length]; rfl
  | succ d ih=>
   intro i n s hd hn;obtain ⟨n,rfl⟩:∃k,n=k+1:=⟨n - 1,by omega⟩;have hl:i < l.length:=by omega
   have h1:=h i s hl;rw [List.drop_eq_getElem_cons hl,K1]
   cases hy:y s l[i] with
   | none=>rw [hy] at h1; rw [QjL h1]; rfl
   | some s'=>
    rw [hy,Option.bind_some] at h1;rw [YH h1,Option.bind_some];exact ih (i+1) n s' (by omega) (by omega)
 have:=key l.length 0 FU s (by omega) (J6 hn)
 simpa using this
theorem Qcj {β:Type} (y:σ→α→Option σ) (g:β→List α):∀(b:List β) (s:σ),K1 (fun s c=>K1 y s (g c)) s b=K1 y s (b.flatMap g)
 | [],s=>rfl
 | c::b,s=>by
  rw [List.flatMap_cons,Qdq,K1]
  congr 1; funext s'
  exact Qcj y g b s'
end
theorem QdD (a k:Nat) (hk:k≤64):BX (a:Int) (k:Int)=((a / 2^k:Nat):Int):=by
 unfold BX;rw [Int.toNat_natCast,Nat.min_eq_left hk];have:((2:Int)^k)=((2^k:Nat):Int):=by simp
 rw [this,Int.fdiv_eq_ediv_of_nonneg _ (Int.natCast_nonneg _)]; simp
theorem Qik (a k:Nat) (hk:k≤64) (h:a*2^k < 9223372036854775808):KD (a:Int) (k:Int)=((a*2^k:Nat):Int):=by
 unfold KD;rw [Int.toNat_natCast,Nat.min_eq_left hk];have:((2:Int)^k)=((2^k:Nat):Int):=by simp
 rw [this,←Int.natCast_mul,B1 h]
theorem QgA (a k:Nat) (hk:k≤32) (ha:a < 9223372036854775808):Qiu (a:Int) ((2^k - 1:Nat):Int)=((a % 2^k:Nat):Int):=by
 unfold Qiu;have e:∀n:Nat,BitVec.ofInt 64 (n:Int)=BitVec.ofNat 64 n:=fun n=>by apply BitVec.eq_of_toNat_eq; simp
 have h2:2^k≤2^32:=Nat.pow_le_pow_right (by decide) hk;have h3:(2:Nat)^32=4294967296:=by decide
 have h4:(2:Nat)^64=18446744073709551616:=by decide
 rw [e,e,BitVec.toNat_and,BitVec.toNat_ofNat,BitVec.toNat_ofNat,h4,Nat.mod_eq_of_lt (by omega),Nat.mod_eq_of_lt (by omega),Nat.and_two_pow_sub_one_eq_mod];have:=Nat.mod_lt a (Nat.two_pow_pos k);exact B1 (by omega)
namespace Pu
open Go.Sl Go.Sl.M
def Jo : Nat→Nat
 | 1=>1 | 2=>2 | 3=>4 | 4=>8 | _=>0
def JL : Nat→Nat
 | 1=>265 | 2=>133 | 3=>67 | 4=>34 | _=>0
def K7 : Nat→Nat
 | 1=>7 | 2=>6 | 3=>4 | _=>0
def J1 (k:Nat):Prop:=k=1∨k=2∨k=3∨k=4
instance (k : Nat):Decidable (J1 k):=by unfold J1; infer_instance
abbrev frm (k:Nat):J8:=((Jo k:Int),(JL k:Int),(K7 k:Int))
theorem QkE {k:Nat} (hk:J1 k):Wb (k:Int)=some (frm k,true):=by
 rcases hk with rfl | rfl | rfl | rfl<;>rfl
theorem QnG {k:Int} (hk:¬(1≤k∧k≤4)):Wb k=some ((0,0,0),false):=by
 unfold Wb
 by_cases h:k < 1
 ·rw [QA (by simpa using h),Option.bind_some,QA rfl]
 ·rw [QQ (by simpa using h),Option.bind_some,QA (by simp; omega)]
theorem QeN {k:Nat} (hk:J1 k):Xh (frm k)=some ((2^Jo k - 1:Nat):Int):=by
 rcases hk with rfl | rfl | rfl | rfl<;>rfl
theorem qn {k:Nat} (hk:J1 k):Jo k=1∨Jo k=2∨Jo k=4∨Jo k=8:=by
 rcases hk with rfl | rfl | rfl | rfl<;>simp [Jo]
def dg (bits c j:Nat):Nat:=c / 2^(8 - bits*(j+1)) % 2^bits
def dgs (bits:Nat) (c:BitVec 8):List Int:=(List.range (8 / bits)).map fun j=>(dg bits c.toNat j:Int)
def BY (bits:Nat) (b:List (BitVec 8)):List Int:=b.flatMap (dgs bits)
theorem B7 (bits:Nat) (c:BitVec 8):(dgs bits c).length=8 / bits:=by simp [dgs]
theorem Qai (bits:Nat):∀(b:List (BitVec 8)),(BY bits b).length=b.length*(8 / bits)
 | []=>by simp [BY]
 | c::b=>by
  show (dgs bits c++BY bits b).length=_;rw [List.length_append,B7,Qai bits b,List.length_cons,Nat.add_mul]; omega
theorem Qfi (bits:Nat) (hb:0 < 8 / bits):∀(b:List (BitVec 8)) (n:Nat),n < b.length*(8 / bits)→(BY bits b)[n]? = some (dg bits (b.getD (n / (8 / bits)) 0#8).toNat (n % (8 / bits)):Int)
 | [],n,h=>by simp at h
 | c::b,n,h=>by
  show (dgs bits c++BY bits b)[n]? = _
  by_cases hn:n < 8 / bits
  ·rw [List.getElem?_append_left (by rw [B7]; exact hn),Nat.div_eq_of_lt hn,Nat.mod_eq_of_lt hn]
   simp [dgs,hn]
  ·rw [List.getElem?_append_right (by rw [B7]; omega),B7];rw [List.length_cons,Nat.add_mul] at h;rw [Qfi bits hb b (n - 8 / bits) (by omega)];have e:n=(n - 8 / bits)+8 / bits:=by omega
   conv=>rhs; rw [e,Nat.add_div_right _ hb,Nat.add_mod_right]
   rw [List.getD_cons_succ]
theorem Qop (bits c j:Nat):dg bits c j < 2^bits:=Nat.mod_lt _ (Nat.two_pow_pos _)
theorem Qiv {bits:Nat}{b:List (BitVec 8)}{d:Int} (h:d∈BY bits b):0≤d∧d < (2^bits:Nat):=by
 obtain ⟨c,_,hc⟩:=List.mem_flatMap.1 h;obtain ⟨j,_,rfl⟩:=List.mem_map.1 hc;have:=Qop bits c.toNat j
 omega
theorem QoY {Sy:Type}{k:Nat} (hk:J1 k) (yl:Sy→Int→Option Sy) (c:BitVec 8) (s:Sy) :
  Jd (fun (s:Int×Sy)=>XJ (frm k) yl c s.1 s.2) FU (w64 ((8:Int) - (frm k).1),s)=Option.bind (K1 yl s (dgs (Jo k) c)) fun s'=>some ((8:Int) - (Jo k:Int)*((8 / Jo k:Nat)+1:Int),s'):=by
 have hb:=qn hk;have h:=Qey (f:=fun (s:Int×Sy)=>XJ (frm k) yl c s.1 s.2) (dgs (Jo k) c) (fun i s=>((8:Int) - (Jo k:Int)*((i:Int)+1),s)) yl (fun i s hi=>by
  rw [B7] at hi;have hle:Jo k*(i+1)≤8:=by
   rcases hb with h | h | h | h<;>rw [h] at hi ⊢ <;> omega
  have e1:(8:Int) - (Jo k:Int)*((i:Int)+1)=((8 - Jo k*(i+1):Nat):Int):=by
   have:((Jo k*(i+1):Nat):Int)=(Jo k:Int)*((i:Int)+1):=by simp
   omega
  simp only [XJ]
  have hc:=c.isLt;rw [e1,QA (by simp),QA (by omega),Qb (QeN hk),QdD _ _ (by omega),QgA _ _ (by omega) (Nat.lt_of_le_of_lt (Nat.div_le_self _ _) (by omega))];have e2:(dgs (Jo k) c)[i]'(by rw [B7]; exact hi)=((c.toNat / 2^(8 - Jo k*(i+1)) % 2^Jo k:Nat):Int):=by simp [dgs,dg]
  rw [e2]
  congr 1; funext s'
  have e3:w64 (((8 - Jo k*(i+1):Nat):Int) - (frm k).1)=(8:Int) - (Jo k:Int)*(((i+1:Nat):Int)+1):=by
   rw [Jr (by show _≤_ - ((Jo k:Nat):Int); omega) (by show _ - ((Jo k:Nat):Int) < _; omega)];show _ - ((Jo k:Nat):Int)=_;rw [←e1]
   rcases hb with h | h | h | h<;>rw [h]<;>omega
  rw [e3]) (fun s=>by
  simp only [XJ,B7]
  rw [QQ (by simp; rcases hb with h | h | h | h<;>rw [h]<;>omega)]) (by rw [B7]; rcases hb with h | h | h | h<;>rw [h]<;>omega) s
 have e0:w64 ((8:Int) - (frm k).1)=(8:Int) - (Jo k:Int)*(((0:Nat):Int)+1):=by
  show w64 ((8:Int) - (Jo k:Int))=_
  rcases hb with h | h | h | h<;>rw [h]<;>decide
 rw [e0];rw [B7] at h;exact h
theorem QmN {Sy:Type}{k:Nat} (hk:J1 k) (b:List (BitVec 8)) (hb:b.length≤4000000000) (yl:Sy→Int→Option Sy) (s:Sy):KR (frm k) b yl s=K1 yl s (BY (Jo k) b):=by
 unfold KR;have h:=Qey (f:=fun (s:Int×Sy)=>Xz b (frm k) yl s.1 s.2) b (fun i s=>((i:Int),s)) (fun s c=>K1 yl s (dgs (Jo k) c)) (fun i s hi=>by
  simp only [Xz]
  rw [QA (by simp; omega),Qb (Jl rfl hi),QoY hk]
  cases K1 yl s (dgs (Jo k) b[i]) with
  | none=>rfl
  | some s'=>
   simp only [Option.bind_some]
   rw [JA (n:=(i:Int)+1) (by omega)]; rfl) (fun s=>by
  simp only [Xz]
  rw [QQ (by simp)]) (by omega) s
 have h':Jd (fun (s:Int×Sy)=>Xz b (frm k) yl s.1 s.2) FU ((0:Int),s)=_:=h;rw [h',Qcj];unfold BY
 cases K1 yl s (b.flatMap (dgs (Jo k)))<;>rfl
def Qcm (bits:Nat) (b:List (BitVec 8)):Nat:=((BY bits b).map fun d=>(2^bits - 1:Nat) - d.toNat).sum
theorem QjW (bits:Nat) (b:List (BitVec 8)):Qcm bits b≤b.length*(8 / bits)*(2^bits - 1):=by
 unfold Qcm;have key:∀l:List Int,(l.map fun d=>(2^bits - 1:Nat) - d.toNat).sum≤l.length*(2^bits - 1):=by
  intro l
  induction l with
  | nil=>simp
  | cons d l ih=>simp only [List.map_cons,List.sum_cons,List.length_cons,Nat.add_mul]; omega
 have:=key (BY bits b)
 rwa [Qai] at this
theorem Qif {k:Nat} (hk:J1 k):∀(l:List Int) (s:Nat),(∀d∈l,0≤d∧d < (2^Jo k:Nat))→s+l.length*255 < 4000000000→
  K1 (fun (s:Int) (d:Int)=>Y2 (frm k) s d) (s:Int) l=some ((s+(l.map fun d=>(2^Jo k - 1:Nat) - d.toNat).sum:Nat):Int)
 | [],s,_,_=>by simp [K1]
 | d::l,s,hd,hs=>by
  have hb:2^Jo k≤256:=by rcases qn hk with h | h | h | h<;>rw [h]<;>decide
  have h1:=hd d (by simp);rw [List.length_cons,Nat.add_mul] at hs;rw [K1];have e:Y2 (frm k) (s:Int) d=some ((s+((2^Jo k - 1:Nat) - d.toNat):Nat):Int):=by
   unfold Y2;rw [Qb (QeN hk),Jr (n:=((2^Jo k - 1:Nat):Int) - d) (by omega) (by omega),Jr (by omega) (by omega)]
   congr 1; omega
  rw [e,Option.bind_some,Qif hk l _ (fun d hd'=>hd d (by simp [hd'])) (by omega)]
  congr 1
  simp only [List.map_cons,List.sum_cons]; omega
def csb (k:Nat) (h:List (BitVec 8)):List (BitVec 8):= [BitVec.ofNat 8 (Qcm (Jo k) h*2^K7 k / 256),BitVec.ofNat 8 (Qcm (Jo k) h*2^K7 k)]
theorem Qjn {k:Nat} (hk:J1 k) (h:Qa):Qcm (Jo k) h.toList≤8160:=by
 have:=QjW (Jo k) h.toList;rw [Vector.length_toList] at this
 rcases hk with rfl | rfl | rfl | rfl<;>simp [Jo] at this ⊢ <;> omega
theorem Qgk {k:Nat} (hk:J1 k) (h:Qa):Qcm (Jo k) h.toList*2^K7 k < 65536:=by
 have:=QjW (Jo k) h.toList;rw [Vector.length_toList] at this
 rcases hk with rfl | rfl | rfl | rfl<;>simp [Jo,K7] at this ⊢ <;> omega
theorem QhA {k:Nat} (hk:J1 k):K7 k≤7:=by rcases hk with rfl | rfl | rfl | rfl<;>simp [K7]
theorem Qn6 {k:Nat} (hk:J1 k) (h:Qa):US (frm k) h=some (csb k h.toList):=by
 unfold US UZ;have h1:=Qif hk (BY (Jo k) h.toList) 0 (fun d hd=>Qiv hd) (by rw [Qai,Vector.length_toList]; rcases qn hk with h | h | h | h<;>rw [h]<;>omega);rw [QmN hk _ (by simp)];have h1':K1 (fun (s:Int) (d:Int)=>Y2 (frm k) s d) (0:Int) (BY (Jo k) h.toList)=some ((Qcm (Jo k) h.toList:Nat):Int):=by
  have e:((0:Nat):Int)=0:=rfl;rw [e] at h1;rw [h1]; unfold Qcm; congr 2; omega
 rw [h1',Option.bind_some,Option.bind_some];have hs:=Qgk hk h;have hsh:=QhA hk;rw [QA (show (0:Int)≤(frm k).2.2 from Int.natCast_nonneg _)];show some [BitVec.ofInt 8 (BX (KD _ (K7 k:Int)) 8),BitVec.ofInt 8 (KD _ (K7 k:Int))]=_;rw [Qik _ _ (by omega) (by omega)];have e8:((8:Int))=((8:Nat):Int):=rfl;rw [e8,QdD _ 8 (by omega)];have e:∀n:Nat,BitVec.ofInt 8 (n:Int)=BitVec.ofNat 8 n:=fun n=>by apply BitVec.eq_of_toNat_eq; simp
 rw [e,e]
 rfl
def Wo (k:Nat) (h:Qa):List Int:=(BY (Jo k) (h.toList++csb k h.toList)).take (JL k)
theorem QcR (k:Nat) (h:List (BitVec 8)):(csb k h).length=2:=rfl
theorem Qgq {k:Nat} (hk:J1 k):JL k≤34*(8 / Jo k):=by rcases hk with rfl | rfl | rfl | rfl<;>simp [JL,Jo]
theorem Qc2 {k:Nat} (hk:J1 k) (h:Qa):(Wo k h).length=JL k:=by
 unfold Wo;rw [List.length_take,Qai,List.length_append,QcR,Vector.length_toList];exact Nat.min_eq_left (Qgq hk)
theorem QlK {k:Nat}{h:Qa}{d:Int} (hd:d∈Wo k h):0≤d∧d < (2^Jo k:Nat):=Qiv (List.mem_of_mem_take hd)
theorem Qff {k:Nat} (hk:J1 k):∀(l acc:List Int),acc.length≤JL k→K1 (fun (s:List Int) (d:Int)=>ZI (frm k) s d) acc l=some (acc++l.take (JL k - acc.length))
 | [],acc,_=>by simp [K1]
 | d::l,acc,ha=>by
  rw [K1];unfold ZI;have hc:JL k≤265:=by rcases hk with rfl | rfl | rfl | rfl<;>simp [JL]
  by_cases h:acc.length < JL k
  ·rw [QA (show decide ((acc.length:Int) < (JL k:Int))=true by simpa using h),QA (by simp [AP]; omega),Option.bind_some];have:=Qff hk l (acc++ [d]) (by simp; omega);have h2:K1 (fun (s:List Int) (d:Int)=>ZI (frm k) s d) (acc++ [d]) l=_:=this;unfold ZI at h2;rw [h2];have e:JL k - acc.length=(JL k - (acc++ [d]).length)+1:=by simp; omega
   rw [e,List.take_succ_cons,List.append_assoc]; rfl
  ·rw [QQ (show ¬decide ((acc.length:Int) < (JL k:Int))=true by simpa using h),Option.bind_some];have:=Qff hk l acc ha;unfold ZI at this;rw [this];have e:JL k - acc.length=0:=by omega
   simp [e]
theorem QfH {k:Nat} (hk:J1 k) (h:Qa):Vs (frm k) h=some (Wo k h):=by
 unfold Vs KL;have hc:JL k≤265:=by rcases hk with rfl | rfl | rfl | rfl<;>simp [JL]
 rw [QA (show 0≤(JL k:Int)∧(JL k:Int)≤4294967296 by omega),Qb (Qn6 hk h),QA (by rw [QcR]; simp [AP]),QmN hk _ (by simp [QcR]),Qff hk _ _ (by simp)]
 rfl
theorem QkS {k:Nat} (hk:J1 k):K6 (k:Int)=some (JL k:Int):=by
 unfold K6; rw [Qb (QkE hk)]
theorem Qht {k:Int} (hk:¬(1≤k∧k≤4)):K6 k=some 0:=by
 unfold K6; rw [Qb (QnG hk)]
def JK (k:Nat):Nat:=36+32*JL k
theorem Qhg {k:Nat} (hk:J1 k):Ba (k:Int)=some (JK k:Int):=by
 rcases hk with rfl | rfl | rfl | rfl<;>rfl
theorem Qiz {k:Nat} (hk:J1 k):YB (k:Int)=some (Jo k:Int):=by rcases hk with rfl | rfl | rfl | rfl<;>rfl
theorem Qi3 {k:Int} (hk:¬(1≤k∧k≤4)):YB k=some 0:=by
 unfold YB;rw [QQ (by simp; omega),Option.bind_some,QQ (by simp; omega),QQ (by simp; omega),QQ (by simp; omega)]
theorem Qfp {k:Nat} (hk:J1 k):VC (k:Int)=some (JL k:Int):=by rcases hk with rfl | rfl | rfl | rfl<;>rfl
theorem Qfv {k:Nat} (hk:J1 k):Vk (k:Int)=some (JK k:Int):=by rcases hk with rfl | rfl | rfl | rfl<;>rfl
theorem QhS {k:Nat} (hk:J1 k):Vu (k:Int)=some ((2^Jo k - 1:Nat):Int):=by
 rcases hk with rfl | rfl | rfl | rfl<;>rfl
theorem Qlc (bits:Nat) (hb:bits≤8) (x:Nat) (hx:x < 256):Jd (fun (s:Int×Int)=>Yp (bits:Int) s.1 s.2) FU ((x:Int),(0:Int))=some (((x / 2^bits:Nat):Int),(bits:Int)):=by
 have h:=JQ (f:=fun (s:Int×Int)=>Yp (bits:Int) s.1 s.2) (fun i (s:{s:Nat // s < 256})=>((s.1:Int),(i:Int))) (fun _ s=>⟨s.1 / 2,by have:=s.2; omega⟩) 0 bits (fun i s h1 h2=>by
  have:=s.2
  simp only [Yp]
  rw [QA (by simp; omega),JA (n:=(i:Int)+1) (by omega)];have e:Int.tdiv (s.1:Int) 2=((s.1 / 2:Nat):Int):=by rw [Int.tdiv_eq_ediv_of_nonneg (by omega)]; omega
  rw [e,B1 (by omega)]; rfl) (fun s=>by
  simp only [Yp]
  rw [QQ (by simp)]) FU ⟨x,hx⟩ (by omega) (J6 (by omega))
 have key:∀(n i:Nat) (s:{s:Nat // s < 256}),(Yt (fun _ (s:{s:Nat // s < 256})=>(⟨s.1 / 2,by have:=s.2; omega⟩:{s:Nat // s < 256})) i n s).1=s.1 / 2^n:=by
  intro n
  induction n with
  | zero=>intro i s; simp [Yt]
  | succ n ih=>intro i s; rw [Yt,ih,Nat.div_div_eq_div_mul,Nat.pow_succ,Nat.mul_comm 2]
 rw [key] at h;exact h
theorem Qla (bits:Nat) (hb:bits≤8):Jd (fun (s:Int×Int)=>Kd (bits:Int) s.1 s.2) FU ((1:Int),(0:Int))=some (((2^bits:Nat):Int),(bits:Int)):=by
 have:bits=0∨bits=1∨bits=2∨bits=3∨bits=4∨bits=5∨bits=6∨bits=7∨bits=8:=by omega
 rcases this with rfl | rfl | rfl | rfl | rfl | rfl | rfl | rfl | rfl<;>rfl
theorem Qgn {k:Nat} (hk:J1 k) (b:List (BitVec 8)) (n:Nat) (hn:n < b.length*(8 / Jo k)) (hl:b.length≤100000) :
  X2 b (n:Int) (Jo k:Int)=some (dg (Jo k) (b.getD (n / (8 / Jo k)) 0#8).toNat (n % (8 / Jo k)):Int):=by
 have hb:=qn hk;have hb8:Jo k≤8:=by omega
 have hb0:0 < 8 / Jo k:=by rcases hb with h | h | h | h<;>rw [h]<;>decide
 have he8:8 / Jo k≤8:=Nat.div_le_self _ _;have e1:w64 (Int.tdiv 8 (Jo k:Int))=((8 / Jo k:Nat):Int):=by rcases hb with h | h | h | h<;>rw [h]<;>decide
 unfold X2;rw [QA (by omega),e1,QA (by omega)]
 generalize hE:8 / Jo k=E at *
 have hnl:n < 100000*8:=Nat.lt_of_lt_of_le hn (Nat.mul_le_mul hl he8);have e2:Int.tdiv (n:Int) (E:Int)=((n / E:Nat):Int):=by rw [Int.tdiv_eq_ediv_of_nonneg (by omega)]; simp
 have e3:Int.tmod (n:Int) (E:Int)=((n % E:Nat):Int):=by rw [Int.tmod_eq_emod_of_nonneg (by omega)]; simp
 have hq:n / E < b.length:=(Nat.div_lt_iff_lt_mul hb0).2 hn;have hm:=Nat.mod_lt n hb0;rw [e2,B1 (by have:=Nat.div_le_self n E; omega),Qb (Jl rfl hq),QA (by omega),e3,Option.bind_some];have hcl:=(b[n / E]).isLt
 -- the W2 down
 have h:=JQ (f:=fun (s:Int×Int)=>Y8 (Jo k:Int) s.1 s.2) (fun i (s:{s:Nat // s < 256})=>((s.1:Int),(i:Int))) (fun _ s=>⟨s.1 / 2^Jo k,Nat.lt_of_le_of_lt (Nat.div_le_self _ _) s.2⟩) (n % E) (E - 1) (fun i s h1 h2=>by
  have:=s.2
  simp only [Y8]
  rw [e1,Jr (n:=(E:Int) - 1) (by omega) (by omega),QA (by simp; omega),Qb (Qlc _ hb8 _ s.2),JA (n:=(i:Int)+1) (by omega)]; rfl) (fun s=>by
  simp only [Y8]
  rw [e1,Jr (n:=(E:Int) - 1) (by omega) (by omega),QQ (by simp; omega)]) FU ⟨b[n / E].toNat,hcl⟩ (by omega) (J6 (by omega))
 have key:∀(n i:Nat) (s:{s:Nat // s < 256}),(Yt (fun _ (s:{s:Nat // s < 256})=>(⟨s.1 / 2^Jo k,Nat.lt_of_le_of_lt (Nat.div_le_self _ _) s.2⟩:{s:Nat // s < 256})) i n s).1=s.1 / 2^(Jo k*n):=by
  intro n
  induction n with
  | zero=>intro i s; simp [Yt]
  | succ n ih=>intro i s; rw [Yt,ih,Nat.div_div_eq_div_mul,←Nat.pow_add,Nat.mul_succ,Nat.add_comm]
 rw [key] at h;rw [Qb h,Qb (Qla _ hb8)];have hp:=Nat.two_pow_pos (Jo k)
 simp only []
 rw [QA (by omega)];have e4:Int.tmod ((b[n / E].toNat / 2^(Jo k*(E - 1 - n % E)):Nat):Int) ((2^Jo k:Nat):Int)=((b[n / E].toNat / 2^(Jo k*(E - 1 - n % E)) % 2^Jo k:Nat):Int):=by rw [Int.tmod_eq_emod_of_nonneg (Int.natCast_nonneg _)]; simp
 rw [e4];unfold dg;have e5:Jo k*(E - 1 - n % E)=8 - Jo k*(n % E+1):=by
  have h9:Jo k*E=8:=by subst hE; rcases hb with h | h | h | h<;>simp [h]
  have h10:Jo k*(E - 1 - n % E)+Jo k*(n % E+1)=Jo k*E:=by rw [←Nat.mul_add]; exact congrArg (Jo k * ·) (by omega)
  omega
 have e6:b.getD (n / E) 0#8=b[n / E]:=by simp [hq]
 rw [e5,e6]
theorem be2 {w:Nat} (x:BitVec w):be x 2 = [(x >>> 8).setWidth 8,x.setWidth 8]:=by simp [be,List.range_succ]
theorem Qjz {k:Nat} (hk:J1 k) (h:Qa):VJ (k:Int) h=some (Wo k h):=by
 have hb:=qn hk;have hb0:0 < 8 / Jo k:=by rcases hb with h | h | h | h<;>rw [h]<;>decide
 have hbp:2^Jo k≤256:=by rcases hb with h | h | h | h<;>rw [h]<;>decide
 have hc:JL k≤265:=by rcases hk with rfl | rfl | rfl | rfl<;>simp [JL]
 have e256:w64 (Int.tdiv 256 (Jo k:Int))=((32*(8 / Jo k):Nat):Int):=by rcases hb with h | h | h | h<;>rw [h]<;>decide
 have hE:8 / Jo k≤8:=Nat.div_le_self _ _;unfold VJ;rw [Qb (Qiz hk),QQ (by simp; omega)];have h1:=JQ (f:=fun (s:Int×Int)=>ZH (Jo k:Int) (k:Int) h s.1 s.2) (fun i (_:Unit)=>((((((BY (Jo k) h.toList).take i).map fun d=>(2^Jo k - 1:Nat) - d.toNat).sum:Nat):Int),(i:Int))) (fun _ s=>s) 0 (32*(8 / Jo k)) (fun i s h1 h2=>by
  have hil:i < (BY (Jo k) h.toList).length:=by rw [Qai,Vector.length_toList]; exact h2
  have hi256:i < 256:=by omega
  have hsum:∀n,(((BY (Jo k) h.toList).take n).map fun d=>(2^Jo k - 1:Nat) - d.toNat).sum≤n*255:=by
   intro n;have key:∀l:List Int,(l.map fun d=>(2^Jo k - 1:Nat) - d.toNat).sum≤l.length*255:=by
    intro l
    induction l with
    | nil=>simp
    | cons d l ih=>simp only [List.map_cons,List.sum_cons,List.length_cons,Nat.add_mul]; omega
   exact Nat.le_trans (key _) (Nat.mul_le_mul_right _ (by rw [List.length_take]; omega))
  have hs1:=hsum i;show ZH (Jo k:Int) (k:Int) h (((((BY (Jo k) h.toList).take i).map fun d=>(2^Jo k - 1:Nat) - d.toNat).sum:Nat):Int) (i:Int)=_
  simp only [ZH]
  have hd:BY (Jo k) h.toList=BY (Jo k) h.toList:=rfl;have QmZ:=Qfi (Jo k) hb0 h.toList i (by rw [Vector.length_toList]; exact h2);have hdl:=Qop (Jo k) (h.toList.getD (i / (8 / Jo k)) 0#8).toNat (i % (8 / Jo k));rw [QA (by omega),e256,QA (decide_eq_true (show (i:Int) < ((32*(8 / Jo k):Nat):Int) by omega)),Qb (QhS hk),Qb (Qgn hk _ _ (by rw [Vector.length_toList]; exact h2) (by simp))];rw [Jr (n:=((2^Jo k - 1:Nat):Int) - (dg (Jo k) (h.toList.getD (i / (8 / Jo k)) 0#8).toNat (i % (8 / Jo k)):Int)) (by omega) (by omega),JA (n:=(i:Int)+1) (by omega),Jr (by omega) (by omega)];have e:(((BY (Jo k) h.toList).take (i+1)).map fun d=>(2^Jo k - 1:Nat) - d.toNat).sum=(((BY (Jo k) h.toList).take i).map fun d=>(2^Jo k - 1:Nat) - d.toNat).sum+((2^Jo k - 1) - dg (Jo k) (h.toList.getD (i / (8 / Jo k)) 0#8).toNat (i % (8 / Jo k))):=by
   rw [List.take_add_one,QmZ]; simp
  rw [e];have e2:∀a b:Nat,b < 2^Jo k→(a:Int)+(((2^Jo k - 1:Nat):Int) - (b:Int))=((a+(2^Jo k - 1 - b):Nat):Int):=fun a b h=>by omega
  rw [e2 _ _ hdl]; rfl) (fun s=>by
  simp only [ZH]
  rw [QA (by omega),e256];exact QQ (by simp)) FU () (by omega) (J6 (by omega))
 have h1':Jd (fun (s:Int×Int)=>ZH (Jo k:Int) (k:Int) h s.1 s.2) FU ((0:Int),(0:Int))=some ((Qcm (Jo k) h.toList:Int),((32*(8 / Jo k):Nat):Int)):=by
  have e:(BY (Jo k) h.toList).take (32*(8 / Jo k))=BY (Jo k) h.toList:=List.take_of_length_le (by rw [Qai,Vector.length_toList]; exact Nat.le_refl _);rw [e] at h1;exact h1
 rw [Qb h1',Option.bind_some];have hs8:=Qjn hk h;have hsl:=Qgk hk h;have hsh:=QhA hk;have hv:KI (#v[(0:Int),(7:Int),(6:Int),(4:Int),(0:Int)]) (k:Int)=some (K7 k:Int):=by rcases hk with rfl | rfl | rfl | rfl<;>rfl
 rw [Qb hv];have h2:Jd (fun (s:Int×Int)=>Z9 (K7 k:Int) s.1 s.2) FU ((Qcm (Jo k) h.toList:Int),(0:Int))=some (((Qcm (Jo k) h.toList*2^K7 k:Nat):Int),(K7 k:Int)):=by
  generalize Qcm (Jo k) h.toList=S at *
  have hS:∀i,i≤K7 k→S*2^i≤8160*128:=fun i hi=>Nat.mul_le_mul hs8 (Nat.le_trans (Nat.pow_le_pow_right (by decide) (show i≤7 by omega)) (by decide));have h:=JQ (f:=fun (s:Int×Int)=>Z9 (K7 k:Int) s.1 s.2) (fun i (_:Unit)=>(((S*2^i:Nat):Int),(i:Int))) (fun _ s=>s) 0 (K7 k) (fun i s h1 h2=>by
   simp only [Z9]
   have:=hS i (by omega);rw [QA (by simp; omega),JA (n:=(i:Int)+1) (by omega),Jr (n:=2*((S*2^i:Nat):Int)) (by omega) (by omega)];have e:(2:Int)*((S*2^i:Nat):Int)=((S*2^(i+1):Nat):Int):=by rw [Nat.pow_succ,←Nat.mul_assoc]; omega
   rw [e]; rfl) (fun s=>by
   simp only [Z9]
   rw [QQ (by simp)]) FU () (by omega) (J6 (by omega))
  simpa using h
 rw [Qb h2,QA (by simp [AP])];have hnum:Jy (BitVec.ofInt 64 ((Qcm (Jo k) h.toList*2^K7 k:Nat):Int)) 2=some (csb k h.toList):=by
  have:=W8 (BitVec.ofInt 64 ((Qcm (Jo k) h.toList*2^K7 k:Nat):Int)) 2 (by omega);refine Eq.trans this ?_;unfold csb
  generalize Qcm (Jo k) h.toList*2^K7 k=S at *
  have e:BitVec.ofInt 64 (S:Int)=BitVec.ofNat 64 S:=by apply BitVec.eq_of_toNat_eq; simp
  rw [e];rw [be2];have a1:((BitVec.ofNat 64 S) >>> 8).setWidth 8=BitVec.ofNat 8 (S / 256):=by apply BitVec.eq_of_toNat_eq; simp [Nat.shiftRight_eq_div_pow]; omega
  have a2:(BitVec.ofNat 64 S).setWidth 8=BitVec.ofNat 8 S:=by apply BitVec.eq_of_toNat_eq; simp
  rw [a1,a2]
 simp only []
 rw [Qb hnum,QA (by simp [AP,QcR])];have hlen:(h.toList++csb k h.toList).length=34:=by simp [QcR]
 have h3:=JQ (f:=fun (s:Int×(List Int))=>Yd (k:Int) h (csb k h.toList) (Jo k:Int) s.1 s.2) (fun i (_:Unit)=>((i:Int),(BY (Jo k) (h.toList++csb k h.toList)).take i)) (fun _ s=>s) 0 (JL k) (fun i s h1 h2=>by
  simp only [Yd]
  have hcl:=Qgq hk;have hil:i < (h.toList++csb k h.toList).length*(8 / Jo k):=by rw [hlen]; omega
  rw [Qb (Qfp hk),QA (by simp; omega)];have hd:=Qgn hk (h.toList++csb k h.toList) i hil (by rw [hlen]; omega);rw [List.nil_append,Qb hd,QA (by simp [AP]; omega),JA (n:=(i:Int)+1) (by omega)];rw [List.take_add_one,Qfi _ hb0 _ _ hil]; rfl) (fun s=>by
  simp only [Yd]
  rw [Qb (Qfp hk),QQ (by simp)]) FU () (by omega) (J6 (by omega))
 have h3':Jd (fun (s:Int×(List Int))=>Yd (k:Int) h (csb k h.toList) (Jo k:Int) s.1 s.2) FU ((0:Int), [])=some ((JL k:Int),Wo k h):=by
  simpa [Wo] using h3
 rw [Qb h3']
end Pu
end Go.Sl
