import Derived.Test.YtnboodbndkcnaaaGreatDoorProg
import Derived.Shelf.Spec.SlicesGrow
import Derived.Shelf.Sort.Plain
import Derived.Shelf.Slices.In.SortNone
import Derived.Test.YtnboodbndkcnaaaGreatDoorG7
set_option linter.all false
namespace Go.Sl.W
open Go.Proofs Go.Sl Go.Sl.M
abbrev VF:ZM NZ:=prod i64 (prod i64 i64)
abbrev NW:ZM vI:=vec 32 u8
set_option maxRecDepth 100000in
set_option maxHeartbeats 4000000in
theorem aB{G}{a}{r}(h:Kq a=some r):QU Tryz.prog G 182 [VF.slot a] [] (λ_=>i64.slot r) λ(_:Unit)=>[]:=by unfold Kq at h;refine lX Tryz.func182 rfl 7 rfl rfl λf i e=>?_;show Xy _ _ _ [(0,VF.slot a)] _;refine Vb ?_;refine VQ ?_;refine Yz (yD (ZJ rfl)) rfl rfl rfl ?_;refine Yz (Qe JR) rfl rfl rfl ?_;refine W9 ?_;refine Vb ?_;refine VQ ?_;refine Yz (CU (ZJ rfl) (W5.fst i64 (prod i64 i64)) ZD) rfl rfl rfl ?_;refine Yz (Nt (ZJ rfl) ZD) rfl rfl rfl ?_;obtain⟨b,h⟩:=FG h;refine Yz (iv JR (ZJ rfl) PP b) rfl rfl rfl ?_;refine Yz (yE (ZJ rfl) JR) rfl rfl rfl ?_;refine Yz (Qe (ZJ rfl)) rfl rfl rfl ?_;refine W9 ?_;obtain rfl:=XD h;exact EA λd g c=>yU c rfl (.tmp rfl) () (λ_ _ h=>h) .nil
set_option maxRecDepth 100000in
set_option maxHeartbeats 4000000in
theorem aA{G}{g}{c}{a}{k}{w}{b}{v}{E:g->Yl}{r}(H:∀s d s',k s d=some s'->DF Tryz.prog G b v (i64.slot d) (E s) (E s'))(h:Cy c a k w=some r):Dt Tryz.prog G b v 270 [VF.slot c,(sl u8).slot a,val (yv b)] [E w] (λ_=>xO []) λ(_:Unit)=>[E r]:=by
 unfold Cy at h;refine lW Tryz.func270 rfl 35 rfl rfl λP Q O J I=>?_;show Xy _ _ _ [(0,VF.slot c),(1,(sl u8).slot a),(2,val (yv b))] _;refine Vb ?_;refine VQ ?_;refine Yz (yD (ZJ rfl)) rfl rfl rfl ?_;refine W9 ?_;refine Vb ?_;refine VQ ?_;refine Yz (Va (ZJ rfl)) rfl rfl rfl ?_;refine Yz (ZmL (sz:=1) (ZJ rfl) ZD) rfl rfl rfl ?_;refine Yz (Va JR) rfl rfl rfl ?_;refine W9 ?_;obtain⟨⟨N,A⟩,u,h⟩:=bind_some h;refine Zfb (Γi:=λ(o:Unit)(s:Int×g)=>[(2,val (yv b)),(3,WF VF c),(9,(sl u8).slot a),(10,i64.slot (a.length:Int)),(11,i64.slot s.1)]) (Hi:=λ(o:Unit)(s:Int×g)=>[E s.2]) u () (λq x i=>(i.sub (.cons (.Xb rfl)<|.cons (.Xb rfl)<|.cons (.Xb rfl)<|.cons (.Xb rfl)<|.cons (.Xb rfl)<|.nil)).Ry (.cons .here<|.nil)) ?_ ?_
 ·clear h u;rintro _⟨e,y⟩K h;change sB a c k e y=some _ at h;show Xy _ _ _ [(2,val (yv b)),(3,WF VF c),(9,(sl u8).slot a),(10,i64.slot (a.length:Int)),(11,i64.slot e)] [E y];unfold sB at h;refine Vb ?_;refine VQ ?_;refine Yz (iu (ZJ rfl) (ZJ rfl)) rfl rfl rfl ?_;refine W9 ?_;refine Vb ?_;refine Bb (ZJ rfl) (λl=>?_) λl=>?_
  ·replace h:=bt l h;refine Bc ?_;refine Vb ?_;refine Ey ?_;refine Vb ?_;refine VQ ?_;obtain⟨f,B,h⟩:=bind_some h;refine Yz (ZmE (ZJ rfl) (ZJ rfl) PP B ZD) rfl rfl rfl ?_;refine Yz (Nt (ZJ rfl) ZD) rfl rfl rfl ?_;refine Yz (Qe (ZJ rfl)) rfl rfl rfl ?_;refine W9 ?_;refine Vb ?_;refine VQ ?_;refine Yz (CU (ZJ rfl) (W5.fst i64 (prod i64 i64)) ZD) rfl rfl rfl ?_;refine Yz (Nt (ZJ rfl) ZD) rfl rfl rfl ?_;refine Yz (yE JR (ZJ rfl)) rfl rfl rfl ?_;refine Yz (Qe (ZJ rfl)) rfl rfl rfl ?_;refine W9 ?_;obtain⟨⟨M,z⟩,t,h⟩:=bind_some h;refine Zfb (Γi:=λ(o:Unit)(s:Int×g)=>[(2,val (yv b)),(3,WF VF c),(7,u8.slot f),(8,i64.slot s.1),(9,(sl u8).slot a),(10,i64.slot (a.length:Int)),(11,i64.slot e)]) (Hi:=λ(o:Unit)(s:Int×g)=>[E s.2]) t () (λq x i=>(i.sub (.cons (.Xb rfl)<|.cons (.Xb rfl)<|.cons (.Xb rfl)<|.cons (.Xb rfl)<|.cons (.Xb rfl)<|.cons (.Xb rfl)<|.cons (.Xb rfl)<|.nil)).Ry (.cons .here<|.nil)) ?_ ?_
   ·clear h t;rintro _⟨j,p⟩K h;change sC c k f j p=some _ at h;show Xy _ _ _ [(2,val (yv b)),(3,WF VF c),(7,u8.slot f),(8,i64.slot j),(9,(sl u8).slot a),(10,i64.slot (a.length:Int)),(11,i64.slot e)] [E p];unfold sC at h;refine Vb ?_;refine Vb ?_;refine VQ ?_;refine Yz (Va (ZJ rfl)) rfl rfl rfl ?_;refine Yz (ZcI (ZJ rfl) JR) rfl rfl rfl ?_;refine W9 ?_;refine Bb (ZJ rfl) (λm=>?_) λm=>?_;·replace h:=bt m h;refine Bc ?_;refine Vb ?_;refine Ey ?_;refine Vb ?_;obtain⟨C,h⟩:=FG h;obtain⟨L,D,h⟩:=bind_some h;refine xt (n:=8) ZD ZD ZD ZD (.read (.plain rfl (Va (ZJ rfl)))<|.read (.plain rfl (Va (ZJ rfl)))<|.read (.plain rfl (ZcG YP ZD (ZJ rfl)))<|.read (.plain rfl (Va (ZJ rfl)))<|.read (.plain rfl (iw (ZJ rfl) (ZJ rfl) PP C))<|.read (.plain rfl (Nt (ZJ rfl) ZD))<|.read (.plain rfl (io (OH (ZJ rfl)<|FH) ZD (aB D)))<|.read (.plain rfl (ZcH (ZJ rfl) (ZJ rfl)))<|.nil) (sh (Γ':=[(2,val (yv b)),(3,WF VF c),(7,u8.slot f),(8,i64.slot j),(9,(sl u8).slot a),(10,i64.slot (a.length:Int)),(11,i64.slot e),(24,val (yv b)),(31,i64.slot (JS (FP (f.toNat:Int) j) L))]) (H':=[E p]) (.cons (.Xb rfl)<|.cons (.Xb rfl)<|.cons (.Xb rfl)<|.cons (.Xb rfl)<|.cons (.Xb rfl)<|.cons (.Xb rfl)<|.cons (.Xb rfl)<|.cons (.Xb rfl)<|.cons (.Xb rfl)<|.nil) (.cons .here<|.nil) ?_);obtain⟨R,F,h⟩:=bind_some h;refine ZkK (ZJ rfl) (ZJ rfl) J I (H _ _ _ F) rfl ?_;refine Yz (iA (ZJ rfl)) rfl rfl rfl ?_;refine W9 ?_;refine Zrn (ZJ rfl) rfl ?_;refine Bc ?_;refine Ez ?_;refine VQ ?_;refine Yz (Va (ZJ rfl)) rfl rfl rfl ?_;refine Yz (CU (ZJ rfl) (W5.fst i64 (prod i64 i64)) ZD) rfl rfl rfl ?_;refine Yz (Nt (ZJ rfl) ZD) rfl rfl rfl ?_;refine Yz (yE (ZJ rfl) (ZJ rfl)) rfl rfl rfl ?_;refine Yz (Qe (ZJ rfl)) rfl rfl rfl ?_;refine W9 ?_;obtain rfl:=XD h;exact Zfc () (.cons (.Xb rfl)<|.cons (.Xb rfl)<|.cons (.Xb rfl)<|.cons (.Xb rfl)<|.cons (.Xb rfl)<|.cons (.Xb rfl)<|.cons (.Xb rfl)<|.nil) (.cons .here<|.nil)
    ·replace h:=bf m h;obtain rfl:=XD h;exact Ze2 () (.cons (.Xb rfl)<|.cons (.Xb rfl)<|.cons (.Xb rfl)<|.cons (.Xb rfl)<|.cons (.Xb rfl)<|.cons (.Xb rfl)<|.cons (.Xb rfl)<|.nil) (.cons .here<|.nil)
   ·rintro _;show Xy _ _ _ [(2,val (yv b)),(3,WF VF c),(7,u8.slot f),(8,i64.slot M),(9,(sl u8).slot a),(10,i64.slot (a.length:Int)),(11,i64.slot e)] [E z];refine Bd (Γ':=[(2,val (yv b)),(3,WF VF c),(9,(sl u8).slot a),(10,i64.slot (a.length:Int)),(11,i64.slot e)]) (H':=[E z]) (.cons (.Xb rfl)<|.cons (.Xb rfl)<|.cons (.Xb rfl)<|.cons (.Xb rfl)<|.cons (.Xb rfl)<|.nil) (.cons .here<|.nil) ?_;refine Ez ?_;refine VQ ?_;refine Yz (iq (ZJ rfl) JR) rfl rfl rfl ?_;refine Yz (Va (ZJ rfl)) rfl rfl rfl ?_;refine W9 ?_;obtain rfl:=XD h;exact Zfc () (.cons (.Xb rfl)<|.cons (.Xb rfl)<|.cons (.Xb rfl)<|.cons (.Xb rfl)<|.cons (.Xb rfl)<|.nil) (.cons .here<|.nil)
  ·replace h:=bf l h;obtain rfl:=XD h;exact Ze2 () (.cons (.Xb rfl)<|.cons (.Xb rfl)<|.cons (.Xb rfl)<|.cons (.Xb rfl)<|.cons (.Xb rfl)<|.nil) (.cons .here<|.nil)
 ·rintro _;show Xy _ _ _ [(2,val (yv b)),(3,WF VF c),(9,(sl u8).slot a),(10,i64.slot (a.length:Int)),(11,i64.slot N)] [E A];refine Bd (Γ':=[]) (H':=[E A]) .nil (.cons .here<|.nil) ?_;obtain rfl:=XD h;exact Qg λq x i=>gF i rfl .nil rfl () (λ_ _ h=>h) (.cons .here<|.nil)
set_option maxRecDepth 100000in
set_option maxHeartbeats 4000000in
theorem Zil{G}{i}{g}{b}{c}{e}{a}{f}{E:i->Yl}{r}(k:∀s d s',g s d=some s'->DF Tryz.prog G a f (i64.slot d) (E s) (E s'))(h:jh g b c e=some r):Dt Tryz.prog G a f 326 [val (yv a),WF VF b,WF NW c] [E e] (λ_=>xO []) λ(_:Unit)=>[E r]:=by unfold jh at h;refine lW Tryz.func326 rfl 8 rfl rfl λt v q m l=>?_;show Xy _ _ _ [(0,val (yv a)),(1,WF VF b),(2,WF NW c)] _;refine xt (n:=3) ZD ZD ZD ZD (.read (.plain rfl (Nt (ZJ rfl) ZD))<|.read (.plain rfl (ZmQ (ZJ rfl) YP ZD))<|.read (.plain rfl (Va (ZJ rfl)))<|.nil) (sh (Γ':=[(4,VF.slot b),(5,(sl u8).slot c.toList),(6,val (yv a))]) (H':=[E e]) (.cons (.Xb rfl)<|.cons (.Xb rfl)<|.cons (.Xb rfl)<|.nil) (.cons .here<|.nil) ?_);obtain⟨w,j,h⟩:=bind_some h;refine Zbk (OH (ZJ rfl)<|OH (ZJ rfl)<|OH (ZJ rfl)<|FH) ZD m l (aA k j) rfl ?_;refine W9 ?_;obtain rfl:=XD h;exact Qg λp u o=>gF o rfl .nil rfl () (λ_ _ h=>h) (.cons .here<|.nil)
set_option maxRecDepth 100000in
set_option maxHeartbeats 4000000in
theorem Zik{G}{c}{f}{r}(h:sG c f=some r):QU Tryz.prog G 268 [VF.slot c,NW.slot f] [] (λl=>ov l) λl=>[own 5 u8 l r]:=by
 unfold sG at h;refine aR Tryz.func268 rfl 25 rfl rfl λK N H=>?_;show Xy _ _ _ [(0,VF.slot c),(1,NW.slot f)] _;refine Vb ?_;refine VQ ?_;refine Yz (yD (ZJ rfl)) rfl rfl rfl ?_;refine Yz (yD (ZJ rfl)) rfl rfl rfl ?_;refine sc (T:=5) u8 rfl λM=>?_;refine W9 ?_;refine Vb ?_;refine VQ ?_;refine Zbi (x:=0) (R:=i64) Zgc ZD rfl λa=>?_;refine sf (r':=(0:Int)) (ZJ rfl) JR .here (W5.all i64) ZD rfl ?_;refine W9 ?_;refine Vb ?_;refine Vb ?_;refine VQ ?_;refine Yz (ZcJ (OH (ZJ rfl)<|OH (ZJ rfl)<|FH)) rfl rfl rfl ?_;refine W9 ?_;refine Ey ?_;refine Bd (Γ':=[(2,WF VF c),(5,val (.pointer (some ⟨a,0,none⟩))),(7,Hh 326 [WF VF c,WF NW f])]) (H':=[box a 3 i64 (0:Int)]) (.cons (.Xb rfl)<|.cons (.Xb rfl)<|.cons (.Xb rfl)<|.nil) (.cons .here<|.nil) ?_;obtain⟨m,j,h⟩:=bind_some h;refine Zfe (σ:=Int) (α:=Int) (κ:=Unit) (Es:=λ(w:Unit)(i:Int)=>[box a 3 i64 i]) (y:=λ(i:Int)(d:Int)=>sH c i d) (sd:=λd=>i64.slot d) (Γ1:=λd=>[(2,WF VF c),(5,val (.pointer (some ⟨a,0,none⟩))),(6,i64.slot d)]) () (ZJ rfl) ZD rfl (.cons .here<|.nil) (λJ L F I v=>Zil (E:=λ(i:Int)=>HK λ(w:Unit)=>[box a 3 i64 i]) v j) ?_ ?_ ?_;·clear h j;rintro z A D s _ e d B h;show Xy _ _ _ ((8,i64.slot d)::[(2,WF VF c),(5,val (.pointer (some ⟨a,0,none⟩))),(7,Hh 326 [WF VF c,WF NW f])]) [box a 3 i64 e];refine VQ ?_;refine Yz (Qe (ZJ rfl)) rfl rfl rfl ?_;refine W9 ?_;exact Qg λo q g=>⟨rfl,(g.sub (.cons (.Xb rfl)<|.cons (.Xb rfl)<|.cons (.Xb rfl)<|.nil)).Ry (.cons .here<|.nil)⟩
 ·clear h j;rintro z A D s _ e d B h;change sH c e d=some _ at h;show Xy _ _ _ [(2,WF VF c),(5,val (.pointer (some ⟨a,0,none⟩))),(6,i64.slot d)] [box a 3 i64 e];unfold sH at h;refine Ey ?_;obtain⟨p,t,h⟩:=bind_some h;refine xt (n:=5) ZD ZD ZD ZD (.read (.plain rfl (HL (ZJ rfl) .here (W5.all i64) ZD))<|.read (.plain rfl (Nt (ZJ rfl) ZD))<|.read (.plain rfl (io (OH (ZJ rfl)<|FH) ZD (aB t)))<|.read (.plain rfl (Va (ZJ rfl)))<|.read (.plain rfl (yE (ZJ rfl) (ZJ rfl)))<|.nil) (sh (Γ':=[(5,val (.pointer (some ⟨a,0,none⟩))),(9,i64.slot e),(13,i64.slot (VY (p-d)))]) (H':=[box a 3 i64 e]) (.cons (.Xb rfl)<|.cons (.Xb rfl)<|.cons (.Xb rfl)<|.nil) (.cons .here<|.nil) ?_);refine Yz (iq (ZJ rfl) (ZJ rfl)) rfl rfl rfl ?_;refine sf (r':=VY (e+VY (p-d))) (ZJ rfl) (ZJ rfl) .here (W5.all i64) ZD rfl ?_;refine W9 ?_;refine Ez ?_;obtain rfl:=XD h;exact Qg λo q g=>⟨rfl,(),(g.sub .nil).Ry (.cons .here<|.nil)⟩
 ·rintro _;show Xy _ _ _ [(2,WF VF c),(5,val (.pointer (some ⟨a,0,none⟩))),(7,Hh 326 [WF VF c,WF NW f])] [box a 3 i64 m];refine Bd (Γ':=[(2,WF VF c),(5,val (.pointer (some ⟨a,0,none⟩)))]) (H':=[box a 3 i64 m]) (.cons (.Xb rfl)<|.cons (.Xb rfl)<|.nil) (.cons .here<|.nil) ?_;refine Ez ?_;refine Vb ?_;refine VQ ?_;refine Yz (HL (ZJ rfl) .here (W5.all i64) ZD) rfl rfl rfl ?_;refine Yz (CU (ZJ rfl) (W5.then (W5.snd i64 (prod i64 i64)) (W5.snd i64 i64)) ZD) rfl rfl rfl ?_;refine Yz (Nt (ZJ rfl) ZD) rfl rfl rfl ?_;obtain⟨u,h⟩:=FG h;refine Yz (iv (ZJ rfl) (ZJ rfl) PP u) rfl rfl rfl ?_;refine sf (r':=JU m c.2.2) (ZJ rfl) (ZJ rfl) .here (W5.all i64) ZD rfl ?_;refine W9 ?_;refine Vb ?_;refine VQ ?_;refine Yz (HL (ZJ rfl) .here (W5.all i64) ZD) rfl rfl rfl ?_;refine Yz (iw (ZJ rfl) (Zkh (x:=8#64) rfl) zE (Oi _)) rfl rfl rfl ?_;refine Yz (ip (k:=.u8) (b:=8) rfl rfl ZD (ZJ rfl) PP) rfl rfl rfl ?_;refine Yz (HL (ZJ rfl) .here (W5.all i64) ZD) rfl rfl rfl ?_;refine Yz (ip (k:=.u8) (b:=8) rfl rfl ZD (ZJ rfl) PP) rfl rfl rfl ?_;refine ZkC (T:=5) (R:=u8) (.cons (ZJ rfl) (.cons (ZJ rfl) .nil)) rfl ZD ZD rfl λC=>?_;refine Yz (Qe (ZJ rfl)) rfl rfl rfl ?_;refine W9 ?_;obtain rfl:=XD h;exact EA λo q g=>ZdY g rfl (.tmp rfl) C (λ_ _ h=>h) (.cons .here<|.nil)
set_option maxRecDepth 100000in
set_option maxHeartbeats 4000000in
theorem Zij{G}{i}{g}{b}{c}{f}{a}{e}{E:i->Yl}{r}(k:∀s d s',g s d=some s'->DF Tryz.prog G a e (i64.slot d) (E s) (E s'))(h:jg g b c f=some r):Dt Tryz.prog G a e 269 [val (yv a),WF VF b,WF (sl u8) c] [E f] (λ_=>xO []) λ(_:Unit)=>[E r]:=by unfold jg at h;refine lW Tryz.func269 rfl 8 rfl rfl λq u p m l=>?_;show Xy _ _ _ [(0,val (yv a)),(1,WF VF b),(2,WF (sl u8) c)] _;refine VQ ?_;refine Yz (Nt (ZJ rfl) ZD) rfl rfl rfl ?_;refine Yz (Nt (ZJ rfl) ZD) rfl rfl rfl ?_;refine Yz (Va (ZJ rfl)) rfl rfl rfl ?_;obtain⟨v,j,h⟩:=bind_some h;refine Zbk (OH (ZJ rfl)<|OH (ZJ rfl)<|OH (ZJ rfl)<|FH) ZD m l (aA k j) rfl ?_;refine W9 ?_;obtain rfl:=XD h;exact Qg λo t n=>gF n rfl .nil rfl () (λ_ _ h=>h) (.cons .here<|.nil)
set_option maxRecDepth 100000in
set_option maxHeartbeats 4000000in
theorem Zii{G}{b}{c}{r}(h:OO b c=some r):QU Tryz.prog G 179 [VF.slot b,NW.slot c] [] (λw=>ov w) λw=>[own 3 i64 w r]:=by
 unfold OO at h;refine aR Tryz.func179 rfl 28 rfl rfl λZ w0 V=>?_;show Xy _ _ _ [(0,VF.slot b),(1,NW.slot c)] _;refine Vb ?_;refine VQ ?_;refine Yz (yD (ZJ rfl)) rfl rfl rfl ?_;refine ZkB (ZJ rfl) rfl λB=>?_;refine sc (T:=3) i64 rfl λD=>?_;refine W9 ?_;refine Vb ?_;refine VQ ?_;refine Yz (CU (ZJ rfl) (W5.then (W5.snd i64 (prod i64 i64)) (W5.fst i64 i64)) ZD) rfl rfl rfl ?_;refine Yz (Nt (ZJ rfl) ZD) rfl rfl rfl ?_;obtain⟨C,h⟩:=FG h;refine ZkG (T:=3) (R:=i64) (z:=0) JR (ZJ rfl) YP C.1 C.2 ZD Zgc ZD rfl λe=>?_;refine Zbi (x:=([]:List Int)) (R:=sl i64) Zgd ZD rfl λa=>?_;refine Zbn (ZJ rfl) (ZJ rfl) .here ZD ZD ?_;refine W9 ?_;refine Vb ?_;obtain⟨k,J,h⟩:=bind_some h;obtain⟨K,h⟩:=FG h;refine Ze9 (H':=[box a 29 (Pc e) (),own 3 i64 e ([]:List Int),own 3 i64 D ([]:List Int),box B 34 NW c]) (.cons .here<|.cons .here<|.cons .here<|.cons .here<|.nil) ?_;refine Zrq (n:=6) (H:=[box a 29 (Pc e) (),own 3 i64 e ([]:List Int),own 3 i64 D ([]:List Int),box B 34 NW c]) (Ls:=[⟨[],[(4,⟨Value,λ(l:Value)=>[own 5 u8 l (c.toList++k)],λ(l:Value)=>[(15,ov l)]⟩)]⟩,⟨[],[(5,⟨Nat,λ(j:Nat)=>[box j 28 (sl u8) ([]:List (BitVec 8))],λ(j:Nat)=>[(6,val (.pointer (some ⟨j,0,none⟩)))]⟩)]⟩]) ZD ZD ZD ZD ZD rfl (.read rfl (.plain rfl (ZmO (lo:=0) (sz:=1) (n:=32) (ZJ rfl) .no .no 32 32 rfl ZD))<|.read rfl (.plain rfl (Nt (ZJ rfl) ZD))<|.read rfl (.plain rfl (HL (ZJ rfl) (.next (.next (.next .here))) (W5.all NW) ZD))<|.read rfl (.plain rfl (io (OH (ZJ rfl)<|OH (ZJ rfl)<|FH) ZD (QU.tH (Zik J))))<|.step 0 rfl .here (.inl rfl) (λi=>⟨_,_,λv=>v,ZsR (T:=5) (E:=5) (ZJ rfl) (Zsb (ZJ rfl) (.next (.next (.next .here)))) (Zfx (ZJ rfl)) ZD ZD K rfl,λ_=>rfl,Zft,Zam⟩)<|.step 1 rfl .here (.inl rfl) (λi=>⟨_,_,λv=>v,(ZsQ (x:=([]:List (BitVec 8))) (R:=sl u8) Zgd ZD rfl),λ_=>rfl,Zft,Zam⟩)<|.nil) ?_;rintro l j;refine sh (Γ':=[(2,WF VF b),(5,val (.pointer (some ⟨a,0,none⟩))),(6,val (.pointer (some ⟨j,0,none⟩))),(15,ov l)]) (H':=[own 5 u8 l (c.toList++k),box j 28 (sl u8) ([]:List (BitVec 8)),box a 29 (Pc e) (),own 3 i64 e ([]:List Int)]) (.cons (.Xb rfl)<|.cons (.Xb rfl)<|.cons (.Xb rfl)<|.cons (.Xb rfl)<|.nil) (.cons .here<|.cons .here<|.cons .here<|.cons .here<|.nil) ?_;refine ZkD [15] .here (ZjV (.Xb rfl)<|ZjW) ?_;refine sf (r':=c.toList++k) (ZJ rfl) (ZJ rfl) .here (W5.all (sl u8)) ZD rfl ?_;refine ZkE (t:=6) .here (.Xb rfl) ?_;refine W9 ?_;refine Vb ?_;refine Vb ?_;refine VQ ?_;refine Yz (ZcJ (OH (ZJ rfl)<|OH (ZJ rfl)<|FH)) rfl rfl rfl ?_;refine W9 ?_;refine Ey ?_;refine Bd (Γ':=[(2,WF VF b),(5,val (.pointer (some ⟨a,0,none⟩))),(16,Hh 269 [WF VF b,WF (sl u8) (c.toList++k)])]) (H':=[box a 29 (Pc e) (),own 3 i64 e ([]:List Int)]) (.cons (.Xb rfl)<|.cons (.Xb rfl)<|.cons (.Xb rfl)<|.nil) (.cons .here<|.cons .here<|.nil) ?_;obtain⟨F,u,h⟩:=bind_some h;refine Zfe (σ:=List Int) (α:=Int) (κ:=Value) (Es:=λ(i:Value)(o:List Int)=>[box a 29 (Pc i) (),own 3 i64 i o]) (y:=λ(o:List Int)(d:Int)=>sE b o d) (sd:=λd=>i64.slot d) (Γ1:=λd=>[(2,WF VF b),(5,val (.pointer (some ⟨a,0,none⟩))),(7,i64.slot d)]) e (ZJ rfl) ZD rfl (.cons .here<|.cons .here<|.nil) (λX rc U W M=>Zij (E:=λ(o:List Int)=>HK λ(i:Value)=>[box a 29 (Pc i) (),own 3 i64 i o]) M u) ?_ ?_ ?_;·clear h u;rintro N O S I f p d P h;show Xy _ _ _ ((17,i64.slot d)::[(2,WF VF b),(5,val (.pointer (some ⟨a,0,none⟩))),(16,Hh 269 [WF VF b,WF (sl u8) (c.toList++k)])]) [box a 29 (Pc f) (),own 3 i64 f p];refine VQ ?_;refine Yz (Qe (ZJ rfl)) rfl rfl rfl ?_;refine W9 ?_;exact Qg λq A g=>⟨rfl,(g.sub (.cons (.Xb rfl)<|.cons (.Xb rfl)<|.cons (.Xb rfl)<|.nil)).Ry (.cons .here<|.cons .here<|.nil)⟩
 ·clear h u;rintro N O S I f p d P h;change sE b p d=some _ at h;show Xy _ _ _ [(2,WF VF b),(5,val (.pointer (some ⟨a,0,none⟩))),(7,i64.slot d)] [box a 29 (Pc f) (),own 3 i64 f p];unfold sE at h;refine Ey ?_;refine Vb ?_;refine VQ ?_;refine Yz (HL (ZJ rfl) .here (W5.all (Pc f)) ZD) rfl rfl rfl ?_;refine Yz (iz (sz:=1) (ZJ rfl) (.next .here) ZD) rfl rfl rfl ?_;refine Yz (CU (ZJ rfl) (W5.then (W5.snd i64 (prod i64 i64)) (W5.fst i64 i64)) ZD) rfl rfl rfl ?_;refine Yz (Nt (ZJ rfl) ZD) rfl rfl rfl ?_;refine Yz (iu (ZJ rfl) (ZJ rfl)) rfl rfl rfl ?_;refine W9 ?_;refine Bb (ZJ rfl) (λs=>?_) λs=>?_;·replace h:=bt s h;refine VQ ?_;refine Yz (HL (ZJ rfl) .here (W5.all (Pc f)) ZD) rfl rfl rfl ?_;refine Yz (Va (ZJ rfl)) rfl rfl rfl ?_;refine Yz (Zmx (T:=3) (R:=i64) (.cons (ZJ rfl) .nil) rfl ZD ZD) rfl rfl rfl ?_;obtain⟨L,h⟩:=FG h;refine ZkA (T:=3) (E:=3) (ZJ rfl) (.next .here) (Zfx (ZJ rfl)) ZD ZD L rfl λQ=>?_;refine Zbn (ZJ rfl) (ZJ rfl) (.next .here) ZD ZD ?_;refine W9 ?_;refine Ez ?_;obtain rfl:=XD h;exact Qg λq A g=>⟨rfl,Q,(g.sub .nil).Ry (.cons .here<|.cons .here<|.nil)⟩
  ·replace h:=bf s h;refine Bc ?_;refine Ez ?_;obtain rfl:=XD h;exact Qg λq A g=>⟨rfl,f,(g.sub .nil).Ry (.cons .here<|.cons .here<|.nil)⟩
 ·rintro m;show Xy _ _ _ [(2,WF VF b),(5,val (.pointer (some ⟨a,0,none⟩))),(16,Hh 269 [WF VF b,WF (sl u8) (c.toList++k)])] [box a 29 (Pc m) (),own 3 i64 m F];refine Bd (Γ':=[(5,val (.pointer (some ⟨a,0,none⟩)))]) (H':=[box a 29 (Pc m) (),own 3 i64 m F]) (.cons (.Xb rfl)<|.nil) (.cons .here<|.cons .here<|.nil) ?_;refine Ez ?_;refine Vb ?_;refine VQ ?_;refine Yz (HL (ZJ rfl) .here (W5.all (Pc m)) ZD) rfl rfl rfl ?_;refine Yz (Qe (ZJ rfl)) rfl rfl rfl ?_;refine W9 ?_;obtain rfl:=XD h;exact EA λq A g=>ZdY g rfl (.tmp rfl) m (λ_ _ h=>h) (.cons (.next .here)<|.nil)
end Go.Sl.W
namespace Go.R
open Go.Sl Go.Proofs
def Rb(t:Ty)(R:ZM t.den):Prop:=R.n=t.n/\R.ag=t.ag/\t.plain=true/\∀a b c,rel a t [] b c->R.rel (KK.m a) b c
theorem Zew{t}{R}(h:Rb t R){K}:∀{xs}{cs},Row t.n (rel K t) [] cs xs->YT R K.m cs xs|[],_,e=>e.1|_::_,_,⟨c,c',g,b,e,a,l,p,q⟩=>by obtain⟨rfl,rfl⟩:=Oj a.symm;exact⟨c,c',e,h.2.2.2 K c _ p,Zew h q⟩
theorem gP:Rb .int i64:=⟨rfl,rfl,rfl,λ_ _ _ a=>a.2⟩
theorem ZqV{k}{w}:Rb (.un k w) (un k w):=⟨rfl,rfl,rfl,λ_ _ _ a=>a.2⟩
theorem Zev{a b}{R}{c}(h:Rb a R)(k:Rb b c):Rb (.pair a b) (prod R c):=⟨by show R.n+c.n=a.n+b.n;rw[h.1,k.1],rfl,by show(a.plain&&b.plain)=true;rw[h.2.2.1,k.2.2.1];rfl,λd m p⟨n,o,e,f,i,g,j,l⟩=>by obtain⟨rfl,rfl⟩:=Oj i.symm;exact⟨e,f,g,h.2.2.2 d e _ j,k.2.2.2 d _ _ l⟩⟩
theorem ZqW{n}{t}{R}(h:Rb t R):Rb (.vec n t) (vec n R):=⟨by show n*R.n=n*t.n;rw[h.1],rfl,h.2.2.1,λb c d a=>Zew h a⟩
theorem Zeu{a b}{R}(h:Rb a R){K}{cs vs}{x:a.den×b.den}{f}(hv:V7 (.cons a b) cs vs)(n:rel K (.cons a b) [] cs x)(k:∀d c,V7 b d c->rel K b [] d x.2->Sq K.m f c):Sq K.m (R.slot x.1::f) vs:=by obtain⟨q,r,v,c,rfl,rfl,m,rfl,l⟩:=hv;have⟨t,u,g,s,j,i,o,p⟩:=n;obtain⟨rfl,rfl⟩:=Oj j.symm;have e:=h.2.2.2 K g _ o;have⟨rfl,rfl⟩:=NK i (by rw[m,R.len e,h.1]);refine⟨_,_,rfl,?_,k _ _ l p⟩;rw[<-h.2.1];exact ZM.zH e
end Go.R
set_option maxRecDepth 100000
namespace Go.R
open Go.Sl Go.Proofs Go.Shelf Go.RowKit
def Cg(n:Int):Option Zt:=if 0<=n/\n<=4294967296then some []else none
def rG:Ren:=⟨λ_=>122,λ|22=>28|25=>5|n=>n,λn=>n⟩
theorem Zbr:Lays8.n4 Tryz.prog rG:=⟨ZD,⟨Tryz.f122.name,ZD,ZD⟩,ZD,λ_=>rfl,λ_=>rfl,λ_=>rfl,ZD,λ_=>rfl,λ_=>rfl,λ_=>rfl,ZD,λ_=>rfl,λ_=>rfl,λ_=>rfl,ZD,λ_=>rfl,λ_=>rfl,λ_=>rfl,ZD,λ_=>rfl,λ_=>rfl,λ_=>rfl,ZD,λ_=>rfl,λ_=>rfl,λ_=>rfl⟩
theorem Zkb:UG Z0 ⟨122,.cons .Tk (.cons .int .nl),[],.cons (.full (.un .u8 8)) .nl,[],Zt,false,λa _=>Cg a.2.1,λr=>((r,()),())⟩:=by
 refine⟨ZD,λa I r f d Z e i O vs c k x1 F E x2 x0=>?_⟩;obtain⟨⟨⟩,b,⟨⟩⟩:=a;have f:Cg b=some r:=f;unfold Cg at f;split at f;case isFalse=>cases f
 rename_i D;cases f;obtain⟨b,rfl⟩:=Qo D.1;obtain⟨K,L,v,x3,rfl,rfl,B,rfl,M,N,v2,x4,rfl,rfl,C,rfl,rfl,rfl⟩:=F;obtain⟨U,V,P,Q,rfl,s,⟨rfl,rfl⟩,W,X,R,S,rfl,rfl,⟨rfl,rfl⟩,rfl,rfl⟩:=E;obtain⟨rfl,t⟩:=NK s B;obtain⟨rfl,T⟩:=NK t C;have k:GD d.m (e++i) c:=k;have o:∀{hC:HP}{g:World}{v:Value},rel d (.full (.un .u8 8)) hC [v] ([]:Zt)->GD d.m (hC++(e++i)) g->ZG c g d.m d.m (e++i).bs (hC++(e++i)).bs->∃p,Ending.returned v=.returned p/\∃q hC z,LX ⟨122,.cons .Tk (.cons .int .nl),[],.cons (.full (.un .u8 8)) .nl,[],Zt,false,λa _=>Cg a.2.1,λr=>((r,()),())⟩ I [] d [] e i c p g q hC z:=λ{hC g v}w x y=>by
  refine⟨v,rfl,d,hC,[],KK.le.refl _,rfl,⟨[v],[v],rfl,⟨[v],[],v,[],rfl,rfl,rfl,rfl,rfl,rfl⟩,⟨hC,[],[v],[],Zb,Zb,w,rfl,rfl⟩⟩,λ_=>⟨?_,?_,trivial,λ_ _ _ h=>(by cases h),λ_ _=>rfl⟩,λl=>by cases l⟩;·rw[Xp];exact x.sub (r:=e) (by classical rw[VS];intro x5;simp only[VR];omega)
  ·exact y.sub λJ j=>by simp only[HP.bs,Vg,TL,Xp]at j⊢;exact j.elim .inl λh=>.inr (.inr h)
 by_cases u:b=0;·subst u;refine(Any8.slices_Grow_room Zbr none 0 0 0 c Y Y Y Y).mono ?_;rintro l g⟨rfl,rfl⟩;exact o (hC:=[]) (.inl ⟨rfl,rfl,none,rfl⟩) k (ZG.refl _ _ _)
 ·obtain⟨H,A,G,hs,j⟩:=info_parts (show(Tryz.prog.info? 5).map (λn=>(n.zero,n.size,n.bytes))=some (some (.int .u8 0),1,1)by kernel_rfl);refine(Any8.slices_Grow_grow Zbr H _ A G Y none 0 0 b [] c Y Y (by rw[j];omega) Y Zb (λ_=>rfl) λ_ h=>by cases h).mono ?_;rintro l g⟨rfl,rfl⟩;obtain⟨hC,m⟩:∃hC:HP,hC=[(c.heap.size,0,Obj.cells ((#[]:Array Value)++Builtin.zeroCells (Value.int .u8 0).cells (0+b-0)++Builtin.zeroCells (Value.int .u8 0).cells (grownCap c (0+b) 0 5-(0+b))) 5 (0,0))]:=⟨_,rfl⟩;refine o (hC:=hC) ?_ (by subst m;exact GD.newObj k.drew _) (by subst m;exact(ZG.drew c d.m _).trans (ZG.alloc c.drew d.m _ _));subst m;refine .inr ⟨c.heap.size,5,grownCap c (0+b) 0 5,[],(Builtin.zeroCells (Value.int .u8 0).cells (0+b-0)++Builtin.zeroCells (Value.int .u8 0).cells (grownCap c (0+b) 0 5-(0+b))).toList,[],rfl,?_,⟨rfl,rfl⟩,VD _,?_⟩;·show[_]=[(_,_,cellsOf _ _)];unfold cellsOf;simp
  ·have:=grownCap_ge c (0+b) 0 5;simp only[UW,Array.length_toList,Array.size_append,size_zeroCells];show(0+b-0)*1+(_-(0+b))*1=_*1;omega
theorem UG.weaken{Z}{c}{m}(h:UG Z c)(k:∀a x r,m a x=some r->c.m a x=some r):UG Z {c with m:=m}:=⟨h.1,λa x r d=>by refineλe q s w g y z i j l n o p=>(h.2 a x r (k a x r d) e q s w g y z i j l n o p).mono ?_;rintro d A⟨v,rfl,f,t,u,b⟩;exact⟨v,rfl,f,t,u,⟨b.le,b.nm,b.res,b.full,b.only⟩⟩⟩
noncomputable def lP(l:List Zt):Option Zt:=O (YK (λ(a:Int×Int)=>Zc (Zz a.2 (Ze (Zf l))) (O (ZA l a.2) λb=>O (Zc (Zz (Zk (Zu a.1 (Ze (Zf b)))) 0) none (some ())) λ_=>some (.next (Zk (Zu a.1 (Ze (Zf b))),Zk (Zu a.2 1)))) (some (.brk a))) (0,0)) λa=>O (Cg a.1) λb=>O (YK (λ(a:Zt×Int)=>Zc (Zz a.2 (Ze (Zf l))) (O (ZA l a.2) λb=>Yp (Zf a.1) (Zf b) (some (.next (Z9 a.1 b,Zk (Zu a.2 1))))) (some (.brk a))) (b,0)) λa=>some a.1
theorem ZiI{l}(h:l.length<=1000)(q:l.flatten.length<=4294967296):W (lP l) λr=>r=l.flatten:=by
 have n:∀a,(l.take a).flatten.length<=4294967296:=λa=>by
  have:l.flatten.length=(l.take a).flatten.length+(l.drop a).flatten.length:=by rw[<-Yw,<-nr,Sb]
  omega
 have k:∀a(c:a<l.length),(l.take (a+1)).flatten=(l.take a).flatten++l[a]:=λa c=>by rw[MU c,nr];simp
 unfold lP Cg;refine W.ZV (λb=>b.1=(l.flatten.length:Int)) (Jy (λb=>0<=b.2/\b.2<=l.length/\b.1=((l.take b.2.toNat).flatten.length:Nat)) (λb=>(l.length-b.2).toNat) ⟨Zb,Zb,Zb⟩ Zw λb e=>?_) λb e=>?_;·obtain⟨o,a⟩:=b;obtain⟨d,m,g⟩:=e;obtain⟨a,rfl⟩:=Qo d;dsimp only at d m g;subst g;simp only[Wx,Vz];refine⟨λf=>⟨⟨d,f⟩,λp i=>?_⟩,λf=>by rw[show a=l.length by omega,NM]⟩;have c:a<l.length:=Y;have j:=n (a+1);rw[k a c,Yw]at j;rw[VB c]at i;cases i;rw[ZK Y,ZK Y,show((a:Int)+1).toNat=a+1by omega,k a c,Yw];omega
 ·rw[YW Y];refine Zj (J (W.ZV (λb=>b.1=l.flatten) (Jy (λb=>0<=b.2/\b.2<=l.length/\b.1=(l.take b.2.toNat).flatten) (λb=>(l.length-b.2).toNat) ⟨Zb,Zb,Zb⟩ Zw λb e=>?_) λb e=>J e));obtain⟨o,a⟩:=b;obtain⟨d,m,g⟩:=e;obtain⟨a,rfl⟩:=Qo d;dsimp only at d m g;subst g;simp only[Wx,Vz];refine⟨λf=>⟨⟨d,f⟩,λp i=>?_⟩,λf=>by rw[show a=l.length by omega,NM]⟩;have c:a<l.length:=Y;have j:=n (a+1);rw[k a c,Yw]at j;rw[VB c]at i;cases i;rw[ZK Y,show((a:Int)+1).toNat=a+1by omega,k a c];exact⟨j,⟨Y,Y,rfl⟩,Y⟩
noncomputable def Zn8:CO:=⟨_,Zkb⟩
noncomputable def ZnH:=mk 83 (a1 (.sl (.sl (.un .u8 8)))) [] (a1 (.full (.un .u8 8))) [] (λa _=>lP a.1) ZX ZY Tryz.f83 [⟨0,[hi 3 .int,hi 11 .int]⟩,⟨10020,[]⟩,⟨2,[hi 6 (.full (.un .u8 8)),hi 27 .int]⟩] [Zn8]
theorem ZiJ:UG Z0 (zg 83 (a1 (.sl (.sl (.un .u8 8)))) (.full (.un .u8 8)) λa=>Ic a.1):=ZnH.k.weaken λa e d b=>by
  have b:Ic a.1=some d:=b;unfold Ic at b;split at b;·rename_i c;cases b;exact Vo (ZiI c.1 c.2)
  ·cases b
end Go.R
namespace Go.R
open Go.Sl Go.Proofs
theorem Zi5:UG Z0 (zg 179 (a2 (.pair .int (.pair .int .int)) (.vec 32 (.un .u8 8))) (.sl .int) λa=>OO a.1 a.2.1):=ZjY rfl (ZlW (slots:=λa=>[(prod i64 _).slot _,(vec _ _).slot _]) ZD rfl (λc d i a f e=>Zeu (Zev gP (Zev gP gP)) f e λ_ _ b g=>Zeu (ZqW ZqV) b g λ_ _ b _=>b.2) rfl (λc d j b=>⟨rfl,b⟩) λa h b=>⟨h,Zb,Go.Sl.W.Zii b⟩)
end Go.R
namespace Go.R
open Go.Sl Go.Proofs Go.Shelf Go.RowKit
def rS:Ren:=⟨λ|189=>308|125=>348|257=>347|128=>374|129=>375|294=>365|295=>366|296=>367|297=>368|298=>369|299=>370|216=>371|300=>372|301=>373|328=>384|329=>385|330=>386|331=>387|332=>388|215=>389|343=>398|n=>n,λ|28=>29|46=>295|51=>163|53=>216|183=>494|182=>493|131=>444|218=>512|222=>515|228=>525|229=>526|n=>n,λn=>n⟩
theorem Zbs:Lays.n189 Tryz.prog rS:=⟨ZD,ZD,ZD,ZD,ZD,ZD,ZD,ZD,ZD,ZD,ZD,ZD,ZD,ZD,ZD,ZD,ZD,ZD,ZD,ZD,ZD,ZD,Tryz.underlying0,Tryz.isAgg0,Tryz.sizeOf0,Tryz.zeroValue0,Tryz.underlying3,Tryz.isAgg3,Tryz.sizeOf3,Tryz.zeroValue3,Tryz.underlying4,Tryz.isAgg4,Tryz.sizeOf4,Tryz.zeroValue4,Tryz.underlying5,Tryz.isAgg5,Tryz.sizeOf5,Tryz.zeroValue5,Tryz.underlying9,Tryz.isAgg9,Tryz.sizeOf9,Tryz.zeroValue9,Tryz.underlying29,Tryz.isAgg29,Tryz.sizeOf29,Tryz.zeroValue29,Tryz.underlying295,Tryz.isAgg295,Tryz.sizeOf295,Tryz.zeroValue295,Tryz.underlying163,Tryz.isAgg163,Tryz.sizeOf163,Tryz.zeroValue163,Tryz.underlying216,Tryz.isAgg216,Tryz.sizeOf216,Tryz.zeroValue216,Tryz.underlying444,Tryz.isAgg444,Tryz.sizeOf444,Tryz.zeroValue444,Tryz.underlying493,Tryz.isAgg493,Tryz.sizeOf493,Tryz.zeroValue493,Tryz.underlying494,Tryz.isAgg494,Tryz.sizeOf494,Tryz.zeroValue494,Tryz.underlying512,Tryz.isAgg512,Tryz.sizeOf512,Tryz.zeroValue512,Tryz.underlying515,Tryz.isAgg515,Tryz.sizeOf515,Tryz.zeroValue515,Tryz.underlying525,Tryz.isAgg525,Tryz.sizeOf525,Tryz.zeroValue525,Tryz.underlying526,Tryz.isAgg526,Tryz.sizeOf526,Tryz.zeroValue526⟩
theorem ZgU{w}{b}{T}{cs}{l:List Int}(c:w.heap[b]?=some (cellsOf cs T))(h:∀(j:Nat)(x),l[j]?=some x->cs[j]?=some (Value.int .i64 x)):Sort.Holds (Value.int .i64) w b 0 l.toArray:=by
 intro j e;have a:j<l.length:=by simpa using e
 have d:=h j (l[j]'a) (VB a);rw[TN];refine⟨?_,?_⟩;·rw[show l.toArray[j]! =l[j]by simp[a]];unfold World.cell?;simp[c,cellsOf,d]
 ·unfold World.frozen?;simp[c,cellsOf]
theorem Zr8{m}{hs:HP}{w}{b k}{T}{cs}{d:List Int}{os}(i:GD m ((b,0,cellsOf cs T)::hs) w){o'}(x:Sort.onCells (Sort.putCells (Value.int .i64) 0 d.toArray) (cellsOf cs T)=o'):GD m ((b,0,o')::hs) (Sort.grow (Sort.putRow (Value.int .i64) (Sort.ahead w k) b 0 d.toArray) os)/\∀bs,b∈bs->ZG w (Sort.grow (Sort.putRow (Value.int .i64) (Sort.ahead w k) b 0 d.toArray) os) m m bs bs:=by
 have r:=i.YY (b,0,cellsOf cs T) Zb;obtain⟨f,l⟩:∃f:World,f={Sort.ahead w k with heap:=w.heap.setIfInBounds b o'}:=⟨_,rfl⟩;have s:Sort.putRow (Value.int .i64) (Sort.ahead w k) b 0 d.toArray=f:=by
  rw[l];unfold Sort.putRow Sort.mapBlock;congr 1;apply dC;intro e;rw[oV,Jh];by_cases g:b=e;·subst g;rw[YW rfl,YW rfl,YW (MK r).1];show w.heap[b]?.map _=_;rw[r];exact X7 some x
  ·rw[Yg g,Yg g];rfl
 have h:GD m ((b,0,o')::hs) f:=by rw[l];exact GD.setObj o' (w:=Sort.ahead w k) ⟨i.mem,i.nodup,i.YY,i.free⟩
 have t:∀bs,b∈bs->ZG w f m m bs bs:=λbs n=>by have c:=ZG.setObj (w:=Sort.ahead w k) (m:=m) (o':=o') n;rw[l];exact⟨rfl,rfl,rfl,c.size,c.Wa,c.own,c.le⟩
 have o:∀{e:Nat},e<f.heap.size->(Sort.grow f os).heap[e]?=f.heap[e]?:=λj=>dD j;rw[s];refine⟨⟨λp e v j=>?_,h.nodup,λz y=>?_,h.free⟩,λbs n=>?_⟩;·exact(BL (a:=⟨p,e,none⟩) (o (h.lt j))).trans (h.mem p e v j)
 ·have q:=h.YY z y;rw[o (MK q).1];exact q
 ·have c:=t bs n;exact⟨c.os,c.tape,c.output,WX c.size (by simp[Sort.grow]),λe g u=>⟨by rw[o (BG g c.size)];exact(c.Wa e g u).1,λ_=>rfl⟩,c.own,c.le⟩
theorem ZeR{K}:∀(l:List Int),Row 1 (rel K .int) [] (l.map λy=>Value.int .i64 y) l|[]=>⟨rfl,rfl⟩|x::l=>⟨[Value.int .i64 x],_,[],[],rfl,rfl,rfl,⟨rfl,rfl⟩,ZeR l⟩
theorem Zbe{K}:∀{l:List Int}{row},Row 1 (rel K .int) [] row l->row=l.map λy=>Value.int .i64 y|[],_,h=>h.1|_::_,_,⟨c,c',g,d,e,b,_,⟨_,a⟩,q⟩=>by obtain⟨rfl,rfl⟩:=Oj b.symm;rw[e,a,Zbe q];rfl
theorem Znm{d:List Int}{row b}(h:d.length=row.length):Sort.putCells (Value.int .i64) 0 d.toArray (row++b).toArray=(d.map (λy=>Value.int .i64 y)++b).toArray:=by
 unfold Sort.putCells;apply dC;intro c;rw[Array.getElem?_mapIdx,NL,NL];by_cases a:c<d.length;·rw[Uy Y,Uy (by simpa using a),VB Y,dM,VB a];simp[a]
 ·rw[BD Y,BD WI,Jj,h];cases e:b[c-row.length]?with|none=>rfl|some v=>simp;omega
theorem Zr7:UG Z0 ⟨308,.cons (.hole 0) .nl,[(0,.full .int)],.nl,[(0,.full .int)],List Int,false,λ_ x=>Ga x.1,λr=>((),(r,()))⟩:=by
 refine⟨ZD,λc x r J e hA H h P vs q W x6 g Z x0 x5=>?_⟩;obtain⟨x3,c',v,xk,rfl,rfl,hl,rfl,rfl,rfl⟩:=g;obtain⟨h1,h2,d,d',rfl,t,⟨rfl,x9,M,rfl,_⟩,rfl,rfl⟩:=Z;rw[Xp,Xp]at t;subst t;obtain⟨b,⟨⟩⟩:=x;obtain⟨Q,f,l,⟨P,V,w⟩,-⟩:=x0;have y:Ga b=some r:=J;clear J;unfold Ga at y;split at y;case isFalse=>cases y
 rename_i x7;cases y;have z:GD e.m (Q++(f++h)) q:=W.perm (by classical rw[VS]at l⊢;intro i;have:=l i;simp only[VR,Ok]at this⊢;omega);have u:(b.mergeSort λc a=>decide (c<=a)).length=b.length:=List.length_mergeSort _;have N:∀{h':HP}{m:World}{s:List Value},rel e (.full .int) h' s (b.mergeSort λc a=>decide (c<=a))->(∀i∈s,e.nm 0=some i)->GD e.m (h'++(f++h)) m->ZG q m e.m e.m (HP.bs ([]++[]++H++h)) (HP.bs (h'++(f++h)))->∃v,Ending.returned (.tuple #[])=.returned v/\∃O R S,LX ⟨308,.cons (.hole 0) .nl,[(0,.full .int)],.nl,[(0,.full .int)],List Int,false,λ_ x=>Ga x.1,λr=>((),(r,()))⟩ (b,()) (b.mergeSort λc a=>decide (c<=a)) e ([]++[]) H h q v m O R S:=λ{h' m s}C D q3 q4=>⟨_,rfl,e,[],h'++f,KK.le.refl _,rfl,⟨[],[],rfl,⟨rfl,rfl⟩,⟨rfl,rfl⟩⟩,λ_=>⟨by simpa using q3,by simpa using q4,⟨h',f,.refl _,⟨s,C,D⟩,trivial⟩,λx4 x8 xs X=>by simp[VG,Yj]at X,W3.refl _ _⟩,λj=>by cases j⟩;rcases V with⟨rfl,rfl,F,rfl⟩|⟨a,n,G,o,p,h',rfl,rfl,L,T,x1⟩;·have g:=w _ (Tq rfl);rw[M]at g;cases g;refine(Any.slices_Sort_int_none Zbs F 0 q).mono ?_;rintro t m⟨rfl,rfl⟩;refine N (h':=[]) (.inl ⟨Zb,rfl,F,rfl⟩) w z ?_;refine ZG.RB (hs1:=[]++(f++h)) ?_ (ZG.refl _ _ _);classical rw[VS]at l⊢;intro i;have:=l i;simp only[VR,Ok]at this⊢;omega
 ·have g:=w _ (Tq rfl);rw[M]at g;cases g;obtain rfl:h'=[]:=Row.Lo (λ_ _ _ j=>j.1) L;have A:o=b.map λE=>Value.int .i64 E:=Zbe L;have I:=z.YY (a,0,cellsOf (o++p) n) Zb;have U:∀(B:Nat)(x:Int),b[B]?=some x->(o++p)[B]?=some (.int .i64 x):=λB x j=>by rw[Uy (by rw[A,Jj];exact(Wm j).1),A,dM,j];rfl
  have K:o.length=b.length:=by rw[A,Jj]
  refine(Any.slices_Sort_int Zbs a 0 G b q (ZgU I U) (MK I).1 ?_).mono ?_;·omega
  ·rintro t m⟨rfl,x2,os,rfl⟩;obtain⟨C,D⟩:=Zr8 (k:=x2) (d:=b.mergeSort λc a=>decide (c<=a)) (os:=os) z (o':=cellsOf ((b.mergeSort λc a=>decide (c<=a)).map (λE=>Value.int .i64 E)++p) n) (X7 (Obj.cells · n (0,0)) (Znm (by rw[u,K])));refine N (h':=[(a,0,_)]) (.inr ⟨a,n,G,_,p,[],by rw[u],rfl,?_,by rw[u];exact T,by rw[Yw,Jj,u,<-K,<-Yw];exact x1⟩) ?_ C ?_;·exact ZeR _
   ·exact w
   ·refine ZG.RB (hs1:=(a,0,cellsOf (o++p) n)::(f++h)) ?_ (D _ (by simp[HP.bs]));classical rw[VS]at l⊢;intro i;have:=l i;simp only[VR,nn,MN,UW]at this⊢;omega
end Go.R
namespace Go.Sl
section
variable{α β:Type}{c:XK}{Z:Array Oper}{l:List Oper}{Γ Γ':Yr}{H H' H1:List Yl}{K:Act->World->Prop}{d:Tmp}{od:Option Tmp}{ty:TypeId}{pos:String}{aft:Array Edge}{g:Option (Nat×Bool)}
theorem Zbj{ST XT T E EX:TypeId}{x y}{b i cap}{R:ZM α}{m}{xs}(hx:Yo Γ x (val (.slice (some ⟨b,0,none⟩) i cap)))(O:Uz H (L5 b T R m) H')(hy:bR c Γ H y R xs.length xs)(L:i+xs.length<=cap)(hz:i+xs.length<=m.length)(G:Qi c.P ST E R.n=true)(I:c.P.underlying XT=some (.slice EX))(F:Nat.blt d c.N=true)(k:Wh c Z l ((d,val (.slice (some ⟨b,0,none⟩) (i+xs.length) cap))::Γ) (L5 b T R (m.take i++xs.map some++m.drop (i+xs.length))::H') K):Wh c Z (⟨some d,.call {callee:=.builtin .append,args:=#[x,y],argTypes:=#[ST,XT]},ty,pos,aft,none⟩::l) Γ H K:=by
 refine se rfl ?_ k;intro q W h f s _ w n S;have C:h.eval x=_:=hx q h (n.ZW x);obtain⟨a0,A,D,x1⟩:=hy q W h f s w (n.ZW y);obtain⟨g1,r,u,⟨a,M,p⟩,X⟩:=w.pick O;subst M;have t:=s.perm u;obtain⟨hu,x3,x4,N,x2,-⟩:=HZ G;have x0:(sizeOf E).run c.P f=.ok R.n f:=by simp[sizeOf,typeInfo,N,x2]
 obtain⟨e,-,j,U⟩:=Src.run (P:=c.P) (R:=R) (cap:=A) x1 xs.length (YG _);rw[NM]at j;have v:=j.length;have Q:i*R.n+e.length<=a.length:=by rw[v,p.length,<-Ta];exact RM _ hz
 have z:=EB (P:=c.P) (b:=b) (o:=i*R.n) (T:=T) e 0 a f j.cell (t.YY (b,T,a) Zb) (by simpa using Q);simp only[Iw]at z;have J:=AC (rt:=ty) hu I x0 L U (base:=some ⟨b,0,none⟩) (by simpa[SE]using z);have V:(execOp h.eval ⟨some d,.call {callee:=.builtin .append,args:=#[x,y],argTypes:=#[ST,XT]},ty,pos,aft,none⟩).run c.P f=.ok (.value (.slice (some ⟨b,0,none⟩) (i+xs.length) cap)) (Wr f b T (a.take (i*R.n)++e++a.drop (i*R.n+e.length))):=by simp only[execOp,resolve,Ym,Y5,YJ,invoke,builtin];simp only[Iv,XF,O1,C,D,J,YJ];rw[Z5]
 rw[V];have B:i*R.n+e.length=(i+xs.length)*R.n:=by rw[v,Ta]
 refine⟨q,(b,T,a.take (i*R.n)++e++a.drop (i*R.n+e.length))::r,t.Wr _,n.put (by rw[S];simpa[Uk]using F) rfl,⟨[_],r,rfl,⟨_,rfl,?_⟩,X⟩,ZG.F4 u (ZG.Wr (by simp[Hp.bs]))⟩;rw[B];exact((p.cut i).1.append (VO.of j)).append (p.cut _).2
theorem Zbl{ST T E:TypeId}{x}{b o n cap}{R:ZM α}{m}(hx:Yo Γ x (val (.slice (some ⟨b,o*R.n,none⟩) n cap)))(N:Uz H (L5 b T R m) H')(p:0<n)(L:o+n<=m.length)(G:Qi c.P ST E R.n=true)(X:((QT c.P E).elim false λzc=>zc.all (·.oneCell'))=true)(k:Wh c Z l Γ (L5 b T R (m.take o++List.replicate n none++m.drop (o+n))::H') K):Wh c Z (⟨none,.call {callee:=.builtin .clear,args:=#[x],argTypes:=#[ST]},ty,pos,aft,none⟩::l) Γ H K:=by
 refine se rfl ?_ k;intro D hs i f M _ V w hn;have F:i.eval x=_:=hx D i (w.ZW x);obtain⟨g1,t,A,⟨e,J,q⟩,U⟩:=V.pick N;subst J;have y:=M.perm A;obtain⟨W,x3,a,z,x2,-,-,C,x0⟩:=HZ G;have x1:∀f:World,(zeroValue E).run c.P f=.ok a f:=λf=>by simp[zeroValue,typeInfo,z,C]
 have Q:a.cells.toList.all (·.oneCell')=true:=by have j:=X;rw[show QT c.P E=some a.cells.toList by simp[QT,z,C]]at j;exact j
 have I:∀v∈(Builtin.zeroCells a.cells n).toList,v.oneCell'=true:=λv s=>by
  have:v∈a.cells.toList:=by unfold Builtin.zeroCells at s;simp at s⊢;obtain⟨i,u,rfl⟩:=s;have p:i%a.cells.size<a.cells.size:=De _ (Nat.pos_of_ne_zero λj=>by rw[j]at u;simp at u);rw[getElem!_pos a.cells _ p];exact Array.getElem_mem p
  exact E7 Q v this
 have r:(Builtin.zeroCells a.cells n).toList.length=n*R.n:=by simp[Builtin.zeroCells,x0]
 have O:o*R.n+(Builtin.zeroCells a.cells n).toList.length<=e.length:=by rw[r,q.length,<-Ta];exact RM _ L
 have B:=EB (P:=c.P) (b:=b) (o:=o*R.n) (T:=T) _ 0 e f I (y.YY (b,T,e) Zb) (by simpa using O);simp only[Iw]at B;obtain⟨h,rfl⟩:∃h,n=h+1:=⟨n-1,Y⟩;have S:(execOp i.eval ⟨none,.call {callee:=.builtin .clear,args:=#[x],argTypes:=#[ST]},ty,pos,aft,none⟩).run c.P f=.ok (.value (.tuple #[])) (Wr f b T (e.take (o*R.n)++(Builtin.zeroCells a.cells (h+1)).toList++e.drop (o*R.n+(Builtin.zeroCells a.cells (h+1)).toList.length))):=by simp only[execOp,resolve,Ym,Y5,YJ,invoke,builtin];simp only[Iv,XF,O1,F,Builtin.clear_,NL,LD,Ym,WB W,YJ,x1,B,Y5]
 rw[S];refine⟨D,(b,T,e.take (o*R.n)++(Builtin.zeroCells a.cells (h+1)).toList++e.drop (o*R.n+(Builtin.zeroCells a.cells (h+1)).toList.length))::t,y.Wr _,w,⟨[_],t,rfl,⟨_,rfl,?_⟩,U⟩,ZG.F4 A (ZG.Wr (by simp[Hp.bs]))⟩;rw[r,<-Ta];exact((q.cut o).1.append (VO.jY _ r)).append (q.cut _).2
theorem ZcK{T s sz:Nat}{x o p q}{R:ZM α}{v}{xs}{i j k}(hx:Yo Γ x (ov v))(G:Uz H (own s R v xs) H')(h1:Yo Γ o (i64.slot i))(h2:Yo Γ p (i64.slot j))(E:Yo Γ q (i64.slot k))(q0:0<=i)(q1:i<=j)(q2:j<=k)(q3:k<=xs.length)(F:Uh c.P T sz=true):PJ c ⟨od,.slice T x (some o) (some p) (some q),ty,pos,aft,g⟩ Γ H any:=S9 λf X a m W _ L e=>by
  have z:a.eval x=v:=(OR.1 (hx f a (e x Ye))).1;have A:=VJ (h1 f a (e o Ye));have B:=VJ (h2 f a (e p Ye));have C:=VJ (E f a (e q Ye));obtain⟨S,U,_,I,_⟩:=L.pick G;obtain⟨P,y,N,V⟩:=own.shape I;subst N;obtain⟨Q,M,J⟩:=HY F;have O:=Po J m;have h:∀(b:Int)(n:Nat)(r:BoundsCode),0<=b->b<=n->(Instr.sliceBound (.int .i64 b) n r).run c.P m=.ok b.toNat m:=by intro b n r D h1;simp[Instr.sliceBound,asIntOf,D,h1]
  have t:=h k y .slice3Acap Y Y;have u:=h j k.toNat .slice3B Y Y;have w:=h i j.toNat .slice3C Y Y;exact⟨_,by simp only[execOp,z,A,B,C,Jm,Ym,Instr.sliceAt,WB M,YJ,Instr.slice,Instr.sliceBounds,Sc,Option.isSome_some,t,u,w,Y5,O];rfl,trivial⟩
def slV(b lo n sz:Nat):Xi:=⟨λ_ v=>∃a e,v=.slice a n e/\(0<n->a=some ⟨b,lo*sz,none⟩),λ_ f=>f⟩
theorem ZcL{T b n cap sz j:Nat}{x y}(hx:Yo Γ x (val (.slice (some ⟨b,0,none⟩) n cap)))(q:Yo Γ y (i64.slot j))(h1:j<=n)(h2:n<=cap)(o:Uh c.P T sz=true):PJ c ⟨od,.slice T x (some y) none none,ty,pos,aft,g⟩ Γ H (slV b j (n-j) sz):=S9 λf t a r s _ _ e=>by have i:a.eval x=_:=hx f a (e x Ye);have k:=VJ (q f a (e y Ye));have p:=fK (P:=c.P) o (a:=some ⟨b,0,none⟩) (len:=n) (cap:=cap) (lo:=some (.int .i64 (j:Int))) (hi:=none) (l:=some (j:Int)) (h:=none) (.inr ⟨.i64,j,rfl,rfl⟩) (.inl ⟨rfl,rfl⟩) Zb WI WI r;refine⟨_,by simp only[execOp,i,k,Dh,Jm,Ym,p];rfl,_,_,rfl,λm=>?_⟩;simp only[nF,dZ,Vz]at m⊢;rw[Yg Y];simp[SE]
theorem Zfw{x}{b lo N}{T}{R:ZM α}{i}{xs}(hx:Yo Γ x (slV b lo N R.n))(s:Uz H (L5 b T R i) H')(C:xs.length=N)(h:(i.drop lo).take xs.length=xs.map some):bR c Γ H x R N xs:=by
 intro z w j F r y q;obtain⟨k,m,o,p⟩:=hx z j q;obtain⟨A,B,u,⟨n,rfl,v⟩,_⟩:=y.pick s;have t:(b,T,n)∈w:=u.mem_iff.2 Zb;have f:=((v.cut lo).2.cut xs.length).1;rw[h]at f;refine⟨k,m,o,?_⟩;rcases Nat.eq_zero_or_pos xs.length with e|e;·exact .inl (dP e)
 ·refine .inr ⟨b,lo*R.n,_,p Y,VO.to f,λD E a=>?_⟩;rw[Ps]at a;split at a;·rw[Rt]at a;exact r.cells t _ _ a
  ·cases a
end
end Go.Sl
namespace Go.Sl
open Go.Proofs
theorem Zad{α:Type}(s:List α)(i j a)(h1:i<=j)(h2:j<=s.length):let b:=(s.map some++List.replicate a none).take i++(s.drop j).map some++(s.map some++List.replicate a none).drop (i+(s.drop j).length)
  b.take (i+(s.drop j).length)++List.replicate (s.length-(i+(s.drop j).length)) none++b.drop (i+(s.drop j).length+(s.length-(i+(s.drop j).length)))=(s.take i++s.drop j).map some++List.replicate (j-i+a) none:=by
 intro b;have f:(s.drop j).length=s.length-j:=Wn;have e:(s.map some++List.replicate a (none:Option α)).take i=(s.take i).map some:=by rw[MT WI,List.map_take]
 have c:((s.take i).map some++(s.drop j).map (some:α->Option α)).length=i+(s.drop j).length:=WI;have d:b=(s.take i).map some++(s.drop j).map some++(s.map some++List.replicate a (none:Option α)).drop (i+(s.drop j).length):=by show _++_++_=_;rw[e]
 rw[d,Gv c,<-UV,oT c,UV,show i+(s.drop j).length+(s.length-(i+(s.drop j).length))=(s.map (some:α->Option α)).length by simp;omega,oT rfl,Vg,Z5,List.replicate_append_replicate];congr 2;omega
set_option maxHeartbeats 4000000in
theorem Zig{G}{T}{a}{i j:Nat}{e}(h1:i<=j)(h2:j<=a.length):QU Tryz.prog G 64 [ov e,i64.slot i,i64.slot j] [own T (Go.R.OS true 2 nofun) e a] (λk=>ov k) λk=>[own T (Go.R.OS true 2 nofun) k (a.take i++a.drop j)]:=by
 refine lX Tryz.func64 rfl 33 rfl rfl λt v s=>?_;show Xy _ _ _ [(0,ov e),(1,i64.slot (i:Int)),(2,i64.slot (j:Int))] _;refine Vb ?_;refine VQ ?_;refine sc (T:=136) (Go.R.OS true 2 nofun) rfl λu=>?_;refine W9 ?_;refine Vb ?_;refine VQ ?_;refine Yz (Va (ZJ rfl)) rfl rfl rfl ?_;refine Yz (Va (ZJ rfl)) rfl rfl rfl ?_;refine Yz (Va (ZJ rfl)) rfl rfl rfl ?_;refine Yz (Va (ZJ rfl)) rfl rfl rfl ?_;refine Yz (iz (sz:=2) (ZJ rfl) (.next .here) ZD) rfl rfl rfl ?_;refine Yz (ZcK (sz:=2) (ZJ rfl) (.next .here) (ZJ rfl) (ZJ rfl) (ZJ rfl) Y Y Y Y ZD) rfl rfl rfl ?_;refine W9 ?_;refine Vb ?_;refine Vb ?_;refine VQ ?_;refine Yz (Va (ZJ rfl)) rfl rfl rfl ?_;refine Yz (Va (ZJ rfl)) rfl rfl rfl ?_;refine Yz (ir (ZJ rfl) (ZJ rfl)) rfl rfl rfl ?_;refine W9 ?_;refine Bb (ZJ rfl) (λf=>?_) λf=>?_
 ·have l:i=j:=by have:=IA f;omega
  subst l;rw[Sb];refine Vb ?_;refine VQ ?_;refine Yz (Va (ZJ rfl)) rfl rfl rfl ?_;refine Yz (Qe (ZJ rfl)) rfl rfl rfl ?_;refine W9 ?_;exact EA λm r h=>yU h rfl (.tmp rfl) e (λ_ _ d=>d) (.cons (.next .here)<|.nil)
 ·have l:i<j:=by have:=nN f;omega
  have p:a≠[]:=by intro d;rw[d]at h2;simp at h2;omega
  have g:(a.drop j).length=a.length-j:=Wn;refine Bc ?_;refine Vb ?_;refine VQ ?_;refine Zbm (.next .here) p λb c q=>?_;subst q;refine Yz (Va (ZJ rfl)) rfl rfl rfl ?_;refine Yz (qe (sz:=2) (Ci (ZJ rfl)) ZD) rfl rfl rfl ?_;refine Yz (Qe (ZJ rfl)) rfl rfl rfl ?_;refine W9 ?_;refine Vb ?_;refine xt (n:=6) ZD ZD ZD ZD (.read (.plain rfl (Va (ZJ rfl)))<|.read (.plain rfl (Va (ZJ rfl)))<|.read (.plain rfl (qf (sz:=2) (Ci (ZJ rfl)) .no (.yes (ZJ rfl) PP) 0 i rfl rfl Y Y Y ZD))<|.read (.plain rfl (Va (ZJ rfl)))<|.read (.plain rfl (Va (ZJ rfl)))<|.read (.plain rfl (ZcL (sz:=2) (Ci (ZJ rfl)) (ZJ rfl) h2 Y ZD))<|.nil) ?_;refine Zbj (T:=T) (E:=136) (EX:=136) (b:=b) (i:=i) (cap:=a.length+c) (R:=Go.R.OS true 2 nofun) (xs:=a.drop j) (ZJ rfl) .here (by rw[g];exact Zfw (b:=b) (lo:=j) (ZJ rfl) .here g (by rw[OZ (by simpa using h2),g,Gv Zb,List.map_drop])) Y WI ZD ZD ZD ?_;refine Yz (Qe (ZJ rfl)) rfl rfl rfl ?_;refine W9 ?_;refine Vb ?_;refine VQ ?_;refine Yz (Va (ZJ rfl)) rfl rfl rfl ?_;refine Yz (Va (ZJ rfl)) rfl rfl rfl ?_;refine Yz (qe (sz:=2) (ZJ rfl) ZD) rfl rfl rfl ?_;refine Yz (Va (ZJ rfl)) rfl rfl rfl ?_;refine Yz (qf (sz:=2) (cap:=a.length+c) (ZJ rfl) (.yes (ZJ rfl) PP) (.yes (ZJ rfl) PP) (i+(a.drop j).length) a.length rfl rfl Y Y Y ZD) rfl rfl rfl ?_;refine Zbl (T:=T) (E:=136) (b:=b) (o:=i+(a.drop j).length) (R:=Go.R.OS true 2 nofun) (ZJ rfl) .here Y WI ZD ZD ?_;refine W9 ?_;refine Vb ?_;refine VQ ?_;refine Yz (Va (ZJ rfl)) rfl rfl rfl ?_;refine Yz (Qe (ZJ rfl)) rfl rfl rfl ?_;refine W9 ?_;refine Ze5 (a.take i++a.drop j) (j-i+c) (i+(a.drop j).length) (a.length+c) .here (Zad a i j c h1 h2) WI WI ?_;exact EA λm r h=>yU h rfl (.tmp rfl) (.slice (some ⟨b,0,none⟩) (i+(a.drop j).length) (a.length+c)) (λ_ _ d=>OR.2 ⟨d,rfl⟩) (.cons .here<|.nil)
set_option maxHeartbeats 4000000in
theorem Zih{G}{T}{a}{i j:Nat}{e}(h1:i<=j)(h2:j<=a.length):QU Tryz.prog G 252 [ov e,i64.slot i,i64.slot j] [own T (Go.R.OS true 279 nofun) e a] (λk=>ov k) λk=>[own T (Go.R.OS true 279 nofun) k (a.take i++a.drop j)]:=by
 refine lX Tryz.func252 rfl 33 rfl rfl λt v s=>?_;show Xy _ _ _ [(0,ov e),(1,i64.slot (i:Int)),(2,i64.slot (j:Int))] _;refine Vb ?_;refine VQ ?_;refine sc (T:=124) (Go.R.OS true 279 nofun) rfl λu=>?_;refine W9 ?_;refine Vb ?_;refine VQ ?_;refine Yz (Va (ZJ rfl)) rfl rfl rfl ?_;refine Yz (Va (ZJ rfl)) rfl rfl rfl ?_;refine Yz (Va (ZJ rfl)) rfl rfl rfl ?_;refine Yz (Va (ZJ rfl)) rfl rfl rfl ?_;refine Yz (iz (sz:=279) (ZJ rfl) (.next .here) ZD) rfl rfl rfl ?_;refine Yz (ZcK (sz:=279) (ZJ rfl) (.next .here) (ZJ rfl) (ZJ rfl) (ZJ rfl) Y Y Y Y ZD) rfl rfl rfl ?_;refine W9 ?_;refine Vb ?_;refine Vb ?_;refine VQ ?_;refine Yz (Va (ZJ rfl)) rfl rfl rfl ?_;refine Yz (Va (ZJ rfl)) rfl rfl rfl ?_;refine Yz (ir (ZJ rfl) (ZJ rfl)) rfl rfl rfl ?_;refine W9 ?_;refine Bb (ZJ rfl) (λf=>?_) λf=>?_
 ·have l:i=j:=by have:=IA f;omega
  subst l;rw[Sb];refine Vb ?_;refine VQ ?_;refine Yz (Va (ZJ rfl)) rfl rfl rfl ?_;refine Yz (Qe (ZJ rfl)) rfl rfl rfl ?_;refine W9 ?_;exact EA λm r h=>yU h rfl (.tmp rfl) e (λ_ _ d=>d) (.cons (.next .here)<|.nil)
 ·have l:i<j:=by have:=nN f;omega
  have p:a≠[]:=by intro d;rw[d]at h2;simp at h2;omega
  have g:(a.drop j).length=a.length-j:=Wn;refine Bc ?_;refine Vb ?_;refine VQ ?_;refine Zbm (.next .here) p λb c q=>?_;subst q;refine Yz (Va (ZJ rfl)) rfl rfl rfl ?_;refine Yz (qe (sz:=279) (Ci (ZJ rfl)) ZD) rfl rfl rfl ?_;refine Yz (Qe (ZJ rfl)) rfl rfl rfl ?_;refine W9 ?_;refine Vb ?_;refine xt (n:=6) ZD ZD ZD ZD (.read (.plain rfl (Va (ZJ rfl)))<|.read (.plain rfl (Va (ZJ rfl)))<|.read (.plain rfl (qf (sz:=279) (Ci (ZJ rfl)) .no (.yes (ZJ rfl) PP) 0 i rfl rfl Y Y Y ZD))<|.read (.plain rfl (Va (ZJ rfl)))<|.read (.plain rfl (Va (ZJ rfl)))<|.read (.plain rfl (ZcL (sz:=279) (Ci (ZJ rfl)) (ZJ rfl) h2 Y ZD))<|.nil) ?_;refine Zbj (T:=T) (E:=124) (EX:=124) (b:=b) (i:=i) (cap:=a.length+c) (R:=Go.R.OS true 279 nofun) (xs:=a.drop j) (ZJ rfl) .here (by rw[g];exact Zfw (b:=b) (lo:=j) (ZJ rfl) .here g (by rw[OZ (by simpa using h2),g,Gv Zb,List.map_drop])) Y WI ZD ZD ZD ?_;refine Yz (Qe (ZJ rfl)) rfl rfl rfl ?_;refine W9 ?_;refine Vb ?_;refine VQ ?_;refine Yz (Va (ZJ rfl)) rfl rfl rfl ?_;refine Yz (Va (ZJ rfl)) rfl rfl rfl ?_;refine Yz (qe (sz:=279) (ZJ rfl) ZD) rfl rfl rfl ?_;refine Yz (Va (ZJ rfl)) rfl rfl rfl ?_;refine Yz (qf (sz:=279) (cap:=a.length+c) (ZJ rfl) (.yes (ZJ rfl) PP) (.yes (ZJ rfl) PP) (i+(a.drop j).length) a.length rfl rfl Y Y Y ZD) rfl rfl rfl ?_;refine Zbl (T:=T) (E:=124) (b:=b) (o:=i+(a.drop j).length) (R:=Go.R.OS true 279 nofun) (ZJ rfl) .here Y WI ZD ZD ?_;refine W9 ?_;refine Vb ?_;refine VQ ?_;refine Yz (Va (ZJ rfl)) rfl rfl rfl ?_;refine Yz (Qe (ZJ rfl)) rfl rfl rfl ?_;refine W9 ?_;refine Ze5 (a.take i++a.drop j) (j-i+c) (i+(a.drop j).length) (a.length+c) .here (Zad a i j c h1 h2) WI WI ?_;exact EA λm r h=>yU h rfl (.tmp rfl) (.slice (some ⟨b,0,none⟩) (i+(a.drop j).length) (a.length+c)) (λ_ _ d=>OR.2 ⟨d,rfl⟩) (.cons .here<|.nil)
end Go.Sl
namespace Go.R
open Go.Sl Go.Proofs
def vo(K:KK)(t:Ty):List (List Value)->List t.den->Prop:=F2 λa b=>rel K t [] a b
theorem F2.ZfE{α β}{P}:∀(i){xs:List α}{ys:List β},F2 P xs ys->F2 P (xs.take i) (ys.take i)|0,_,_,_=>by simp[F2]|_+1,[],_,h=>by cases h;simp[F2]|i+1,_::_,_,⟨y,ys,e,p,q⟩=>by subst e;exact⟨y,_,rfl,p,F2.ZfE i q⟩
theorem F2.Zal{α β}{P}:∀(i){xs:List α}{ys:List β},F2 P xs ys->F2 P (xs.drop i) (ys.drop i)|0,_,_,h=>h|_+1,[],_,h=>by cases h;simp[F2]|i+1,_::_,_,⟨y,ys,e,p,q⟩=>by subst e;exact F2.Zal i q
theorem F2.W7{α β}{P}:∀{xs}{ys:List β}{a:List α}{vs},F2 P xs ys->F2 P a vs->F2 P (xs++a) (ys++vs)|[],_,_,_,h,k=>by cases h;exact k|_::_,_,_,_,⟨y,ys,e,p,q⟩,k=>by subst e;exact⟨y,_,rfl,p,F2.W7 q k⟩
theorem F2.Ct{α β}{P}:∀{xs:List α}{ys:List β},F2 P xs ys->xs.length=ys.length|[],_,h=>by cases h;rfl|_::_,_,⟨y,ys,e,p,q⟩=>by subst e;simp[F2.Ct q]
abbrev xy(n:Nat):ZM (List Value):=OS true n nofun
theorem Zes{K}{t}(a:∀hs cs x,rel K t hs cs x->hs=[]):∀{xs}{hs}{cs},Row t.n (rel K t) hs cs xs->∃rs,YT (xy t.n) K.m cs rs/\vo K t rs xs|[],_,_,h=>⟨[],h.1,rfl⟩|x::xs,_,_,⟨c,c',g,f,e,_,l,p,q⟩=>by obtain⟨rs,b,d⟩:=Zes a q;obtain rfl:=a _ _ _ p;exact⟨c::rs,⟨c,c',e,⟨rfl,l,RD p⟩,b⟩,x,xs,rfl,p,d⟩
theorem Zet{K}{t}{m}:∀{rs}{xs}{cs},YT (xy t.n) m cs rs->vo K t rs xs->Row t.n (rel K t) [] cs xs|[],_,_,h,k=>by cases k;exact⟨h,rfl⟩|_::_,_,_,⟨c,c',e,p,q⟩,⟨y,ys,a,p2,d⟩=>by subst a;obtain⟨rfl,b,_⟩:=p;exact⟨_,c',[],[],e,rfl,b,p2,Zet q d⟩
theorem Zac{f}{t}(x1:Q7 Tryz.prog f=true)(U:∀K hs cs x,rel K t hs cs x->hs=[])(hc:∀(T)(ps)(i j:Nat)(v),i<=j->j<=ps.length->QU Tryz.prog GT f [ov v,i64.slot i,i64.slot j] [own T (xy t.n) v ps] (λN=>ov N) λN=>[own T (xy t.n) N (ps.take i++ps.drop j)]):UG Z0 ⟨f,a3 (.full t) .int .int,[],a1 (.full t),[],List t.den,false,λa _=>DX a.1 a.2.1 a.2.2.1,λr=>((r,()),())⟩:=by
 refine⟨x1,λa x r q K hA s y cs vs z w yt hv y0 yx ys=>?_⟩;obtain⟨l,i,j,⟨⟩⟩:=a;have q:DX l i j=some r:=q;unfold DX at q;split at q;case isFalse=>cases q
 rename_i J;cases q;obtain⟨i,rfl⟩:=Qo J.1;obtain⟨j,rfl⟩:=Qo (Int.le_trans J.1 J.2.1);have h1:i<=j:=Y;have h2:j<=l.length:=Y;rw[Vz,Vz];obtain⟨Z,y2,v,z0,rfl,rfl,x6,rfl,c2,y3,v2,z1,rfl,rfl,x7,rfl,c3,y4,v3,z2,rfl,rfl,x8,rfl,rfl,rfl⟩:=hv;obtain⟨A,y9,d1,y5,rfl,G,R,Q,yf,d2,y6,rfl,rfl,⟨rfl,rfl⟩,g3,yl,d3,y7,rfl,rfl,⟨rfl,rfl⟩,rfl,rfl⟩:=y0;obtain⟨rfl,e1⟩:=NK G (by rw[x6];exact(WH R).symm);obtain⟨rfl,e2⟩:=NK e1 (by rw[x7];rfl);obtain⟨rfl,e3⟩:=NK e2 (by rw[x8];rfl);obtain⟨v,T,h,o,rfl,V,H,x5,x0⟩:∃v T h o,Z=[v]/\(own T (xy t.n) v h).p K.m o/\vo K t h l/\Go.Sl.Good K.m o z/\Hp.bs o=HP.bs A:=by
  rcases R with⟨rfl,rfl,E,rfl⟩|⟨b,T,F,e,g,h',rfl,rfl,D,I,y1⟩;·exact⟨_,0,[],[],rfl,.inl ⟨rfl,rfl,E,rfl⟩,rfl,⟨w.mem,by simp[Hp.bs],Zb,Zb⟩,rfl⟩
  ·obtain rfl:h'=[]:=Row.Lo (U K) D;obtain⟨h,r1,M⟩:=Zes (U K) D;refine⟨_,T,h,[(b,T,e++g)],rfl,.inr ⟨b,F,e,g,by rw[F2.Ct M],rfl,r1,by rw[F2.Ct M];exact I,y1⟩,M,⟨w.mem,by simp[Hp.bs],λx k=>?_,λx k=>?_⟩,rfl⟩;·rw[YZ k];exact w.YY (b,0,cellsOf (e++g) T) Zb
   ·intro L;rw[YZ k];exact w.free (b,0,cellsOf (e++g) T) Zb L (VD _)
 have x3:GD K.m (A++(s++y)) z:=w.perm (by classical rw[VS];intro X;simp only[VR,Ok];omega);refine(hc T h i j v h1 (by rw[F2.Ct H];exact h2) K.m z [v,.int .i64 (i:Int),.int .i64 (j:Int)] o x5 trivial ⟨v,_,rfl,OR.2 ⟨rfl,own.one V⟩,_,_,rfl,WN.2 rfl,_,_,rfl,WN.2 rfl,rfl⟩ ⟨o,[],(Xp _).symm,V,rfl⟩).mono ?_;rintro y8 O⟨n,m,yv,yy,rfl,C,xk,⟨q1,q2,P,xs,rfl⟩,B⟩;refine⟨n,rfl,?_⟩;rw[Xp]at P;subst P;obtain rfl:=(OR.1 xk).1;have S:K.le ⟨K.nm,K.fm,m⟩:=⟨λ_ _ c=>c,λ_ _ _ c=>c,B.le⟩;have u:vo ⟨K.nm,K.fm,m⟩ t (h.take i++h.drop j) (l.take i++l.drop j):=F2.imp (λ_ _ c=>Xl S c) (F2.W7 (F2.ZfE i H) (F2.Zal j H));rw[x0]at B;obtain⟨d,x4,x2,xv⟩:∃d,GD m d O/\ZG z O K.m m (HP.bs A) (HP.bs d)/\rel ⟨K.nm,K.fm,m⟩ (.full t) d [n] (l.take i++l.drop j):=by
  rcases xs with⟨G,rfl,E,rfl⟩|⟨b,F,e,g,rfl,rfl,D,I,x9⟩;·rw[G]at u;exact⟨[],⟨C.mem,by simp[HP.bs],Zb,Zb⟩,B,.inl ⟨u,rfl,E,rfl⟩⟩
  ·refine⟨[(b,0,cellsOf (e++g) T)],⟨C.mem,by simp[HP.bs],λx k=>?_,λx k L _=>?_⟩,B,.inr ⟨b,T,F,e,g,[],by rw[F2.Ct u],rfl,Zet D u,by rw[<-F2.Ct u];exact I,x9⟩⟩;·rw[YZ k];exact C.YY (b,T,e++g) Zb
   ·rw[YZ k];exact C.free (b,T,e++g) Zb L
 obtain⟨Q,f2⟩:=GD.frame x3 x4 x2;have W:(d++(s++y)).Perm (d++[]++y++s):=by classical rw[VS];intro X;simp only[VR,Ok];omega
 refine⟨⟨K.nm,K.fm,m⟩,d,[],S,rfl,⟨[n],[n],rfl,⟨[n],[],n,[],rfl,rfl,rfl,rfl,rfl,rfl⟩,⟨d,[],[n],[],Zb,Zb,xv,rfl,rfl⟩⟩,λ_=>⟨(Q.perm W).left,?_,trivial,λ_ _ _ c=>(by cases c),λ_ _=>rfl⟩,λc=>by cases c⟩;have f3:=ZG.QI W (show ZG z O K.m m (HP.bs (A++(s++y))) (HP.bs (d++(s++y)))from f2);refine(ZG.RB ?_ f3).sub λbb hb=>?_;·classical rw[VS];intro X;simp only[VR,Ok];omega
 ·rw[HP.XL];exact Yd (.inl hb)
theorem Zi0:UG Z0 ⟨64,a3 (.full (.pair .int (.YM 6 (.full (.un .u8 8))))) .int .int,[],a1 (.full (.pair .int (.YM 6 (.full (.un .u8 8))))),[],_,false,λa _=>DX a.1 a.2.1 a.2.2.1,λr=>((r,()),())⟩:=Zac ZD λg n k s⟨l,m,i,j,b,_,e,f⟩=>by rw[b,e.1,f.1];rfl λh q o p v c d=>Go.Sl.Zig c d
noncomputable section
def ZdZ:=mk 25 .nl [] (a1 t162) [] (λ_ _=>xl) ZX ZY Tryz.f25 [] []
def ZnG:=mk 47 (a1 t162) [] XH [] (X2 lM) ZX ZY Tryz.f47 [] []
def ZnT:=mk 48 Xe B0 (a2 t27 .int) B0 (MF kg) R8 Qa Tryz.f48 [] []
def qE:=mk 187 oO [] (a1 NJ) [] (WQ Hm) ZX ZY Tryz.f187 [⟨0,[hi 5 .int,hi 14 .int]⟩,⟨2,[hi 8 NJ,hi 32 .int]⟩] []
def Zdz:=mk 328 (a2 Ux .int) [] (a1 Ux) [] (WQ Np) ZX ZY Tryz.f328 [] []
def Zn9:=mk 327 UU [] (a1 oM) [] (X2 tO) ZX ZY Tryz.f327 [⟨0,[hi 12 .int,hb 3 t0]⟩,⟨2,[hi 6 .int,hb 3 t0]⟩] [Zdz]
def Zoa:=mk 272 (a2 By Xn) [] (a1 By) [] (WQ Cj) ZX ZY Tryz.f272 [⟨0,[hi 16 .int,hb 6 t1]⟩,⟨2,[hi 102 .int,hb 2 t1]⟩] [Zn9,Zdz]
def KN:=mk 186 UU [] TA [] (X2 Ml) ZX ZY Tryz.f186 [⟨0,[hi 0 Xn,hb 3 t1]⟩,⟨10024,[hi 6 .int]⟩,⟨2,[hi 31 .int,hb 5 (.own (.vec 128 QS))]⟩,⟨10050,[hb 3 t1]⟩,⟨4,[hi 54 .int,hb 8 t2]⟩] [Zoa]
def yP:=mk 124 oO [] TA [] (WQ Lh) ZX ZY Tryz.f124 [] [KN,qE]
def yQ:=mk 178 Xe [] (a2 t258 .bool) [] (X2 Ti) WR WT Tryz.f178 [] []
def Zoi:=mk 177 Xe [] Xe [] (X2 ZbC) ZX ZY Tryz.f177 [] [yQ]
def gw:=mk 115 Jd [] XH [] (WQ CA) ZX ZY Tryz.f115 [] [Zoi]
def gk:=mk 116 Xe [] Xe [] (X2 zP) ZX ZY Tryz.f116 [] [yQ]
def go:=mk 79 Jd [] Xe [] (WQ zR) ZX ZY Tryz.f79 [] [gk,gw]
def Zdo:=mk 171 (a2 Xm Xn) [] (a2 Oh Xm) [] (WQ zC) WR WT Tryz.f171 [⟨10012,[hi 6 t3]⟩] [yP] (fz:=[2,7])
def yR:=mk 180 (a4 Oh Ux .int t257) [] TA [] (Im Kr) ZX ZY Tryz.f180 [⟨0,[hi 9 NJ,hi 37 .int]⟩] [KN]
def Zds:=mk 263 (a4 Oh Ux .int Xm) [] TA [] (Im zQ) ZX ZY Tryz.f263 [] [yR]
def Zdr:=mk 182 (a1 t258) [] Xe [] (X2 Kq) ZX ZY Tryz.f182 [] []
def gn:=mk 181 (a6 Oh Ux .int Xm .int .int) [] TA [] (λa _=>Cw a.1 a.2.1 a.2.2.1 a.2.2.2.1 a.2.2.2.2.1 a.2.2.2.2.2.1) ZX ZY Tryz.f181 [⟨0,[hi 13 .int,hb 9 t2]⟩] [yR]
def Zdp:=mk 183 (a3 Oh Ux t77) [] TA [] (Of Cx) ZX ZY Tryz.f183 [⟨0,[hi 7 NJ,hi 16 .int]⟩] [yR]
def Zoj:=mk 262 (a4 .int Oh Ux Xm) [] wj [] (Im su) WR WT Tryz.f262 [⟨0,[hi 27 .int,hb 24 t4]⟩] [gn,Zdp,Zdr,yQ,Zds]
def My:=mk 74 Gt B1 .nl B1 (Y4 Tp) Ub Uc Tryz.f74 [⟨10012,[hb 0 t6]⟩] []
def Et:=mk 112 (a3 Xd Qn .int) B1 .nl B1 (Rq Jb) Ub Uc Tryz.f112 [⟨0,[hi 6 .int,hb 0 t6]⟩] []
def KQ:=mk 73 (a2 Xd Ux) B1 .nl B1 (Y4 SU) Ub Uc Tryz.f73 [] [Et]
def qQ:=mk 206 wh B1 XH B1 (Rq EZ) Wu Wv Tryz.f206 [⟨10015,[hb 0 t6]⟩] []
def Zen:=mk 271 Vc B1 .nl B1 (Y4 we) Ub Uc Tryz.f271 [⟨10006,[hb 0 t6]⟩] [Et,qQ]
def Nw:=mk 75 Wz B1 MJ [] (Ws QR) WR WT Tryz.f75 [] [] (u:=true)
def Zdy:=mk 185 (a4 Oh .int .int t257) [] TA [] (Im zW) ZX ZY Tryz.f185 [⟨0,[hi 28 .int,hb 15 t6]⟩] [KN,Nw,My,Zen,KQ]
def Zdx:=mk 120 (a3 Oh .int Xm) [] TA [] (Of zV) ZX ZY Tryz.f120 [] [Zdy]
def Zdw:=mk 184 (a4 Oh .int Xm Xm) [] TA [] (Im zU) ZX ZY Tryz.f184 [] [Zdy]
def Zdt:=mk 172 (a4 .int .int Oh Xm) [] (a2 t82 .int) [] (Im FR) WR WT Tryz.f172 [⟨0,[hi 32 .int,hb 30 t11]⟩,⟨2,[hi 15 .int,hb 30 t11]⟩] [Zoj,Zdw,Zdx,gw]
def Zod:=mk 123 (a4 .int .int .int Xm) [] (a2 (.opt t87) .int) [] (Im kR) WR WT Tryz.f123 [] [Zdo,Zdt,go]
def iT:=mk 188 Wz B2 Xe [] (Ws I6) ZX ZY Tryz.f188 [] [] (u:=true)
def Zc3:=mk 336 Wz B2 XH [] (Ws AS) ZX ZY Tryz.f336 [] [] (u:=true)
def Zc8:=mk 329 Vc B2 Xe [] (Y4 AV) ZX ZY Tryz.f329 [] [Zc3] (u:=true)
def Zc5:=mk 273 Vc B2 MJ [] (Y4 uP) WR WT Tryz.f273 [] [Zc8] (u:=true)
def Lt:=mk 76 UU [] (a1 t13) [] (X2 Pp) ZX ZY Tryz.f76 [] []
def qP:=mk 176 Vc B3 (a2 Qn .bool) [] (Y4 EW) WR WT Tryz.f176 [⟨0,[hi 6 Qn,hi 33 .int]⟩] [] (u:=true)
def gL:=mk 114 Vc B3 UU B3 (Y4 Bv) Wu Wv Tryz.f114 [] []
def Ep:=mk 113 Vc B3 Gs B3 (Y4 Ja) Wu Wv Tryz.f113 [] [qP,gL]
end
noncomputable section
def Zel:=mk 330 Wz B3 Gs B3 (Ws Is) Wu Wv Tryz.f330 [] [Ep]
def gJ:=mk 80 Wz B3 Xe [] (Ws EV) ZX ZY Tryz.f80 [] [] (u:=true)
def gK:=mk 310 Wz B3 .nl B3 (Ws EY) Ub Uc Tryz.f310 [⟨10003,[hb 0 t13]⟩] []
def yX:=mk 235 Vc B3 UU B3 (Y4 Lz) Wu Wv Tryz.f235 [] [gJ,Ep,qP,gK,gL]
def KP:=mk 81 Wz B3 XH [] (Ws QQ) ZX ZY Tryz.f81 [] [] (u:=true)
def Mx:=mk 78 Vc B3 UU B3 (Y4 TK) Wu Wv Tryz.f78 [] [gL]
def Eo:=mk 100 Wz B3 XH [] (Ws Ly) ZX ZY Tryz.f100 [] [KP,gJ] (u:=true)
def Zqj:=mk 274 UU [] (a3 Qn Xn .bool) [] (X2 Gb) DV D8 Tryz.f274 [] [Lt,Eo,KP,Mx,yX,Zel]
def Zd3:=mk 189 Vc B2 (a3 Qn Xn .int) [] (Y4 xE) DV D8 Tryz.f189 [⟨0,[hi 7 Qn,hi 8 Xn,hi 17 .int]⟩,⟨10049,[hi 7 Qn,hi 8 Xn]⟩] [Zc5,Zqj] (u:=true)
def Zek:=mk 241 Wz B3 XH B3 (Ws Bu) Wu Wv Tryz.f241 [⟨10015,[hb 0 t13]⟩] [Ep,qP,gK]
def J9:=mk 77 Wz B3 (a1 Ux) B3 (Ws Tz) Wu Wv Tryz.f77 [] [Ep]
def Zqw:=mk 190 UU [] (a2 t71 .bool) [] (X2 Bq) WR WT Tryz.f190 [] [Lt,Eo,Zek,J9]
def Zem:=mk 291 (a2 Xd .bool) B1 .nl B1 (Y4 wd) Ub Uc Tryz.f291 [⟨10005,[hi 4 Qn]⟩] [Et]
def Zqx:=mk 276 (a1 t71) [] UU [] (X2 ow) ZX ZY Tryz.f276 [] [Zem,Nw,KQ]
def Zeo:=mk 333 (a2 Xd Qn) B1 .nl B1 (Y4 Gq) Ub Uc Tryz.f333 [] [Et]
def yZ:=mk 222 Gt B1 .nl B1 (Y4 NG) Ub Uc Tryz.f222 [⟨10007,[hb 0 t6]⟩] [My,Et,qQ]
def Zqk:=mk 331 (a2 Qn Xn) [] MJ [] (WQ pQ) WR WT Tryz.f331 [] [Nw,My,yZ,Zeo]
def Zc7:=mk 335 Wz B2 XH B2 (Ws uQ) Wu Wv Tryz.f335 [⟨10012,[hb 0 t21]⟩,⟨10003,[hb 0 t21]⟩] []
def Zc6:=mk 294 dx B2 Xe B2 (Rq AU) Wu Wv Tryz.f294 [] [Zc7,Zc8]
def Zc4:=mk 296 Wz B2 Xe B2 (Ws AT) Wu Wv Tryz.f296 [⟨0,[hi 17 .int,hi 15 t22,hb 0 t21]⟩] [Zc3,Zc7] (sp:=[7])
def Zqi:=mk 275 dx B2 (a2 Qn .int) B2 (Rq pP) R8 Qa Tryz.f275 [] [Zc4,Zc6,Zd3,Zqk]
def qO:=mk 201 Vc B4 Xe B4 (Y4 Gm) Wu Wv Tryz.f201 [] []
def Zee:=mk 191 (a2 Xd t71) B5 Xe B5 (QM Gn) PM PO Tryz.f191 [] [Zqi,qO,Zqx]
def qN:=mk 194 Wz B5 Xe [] (λ_ a=>K7 a.1 a.2.1) ZX ZY Tryz.f194 [] [iT] (u:=true)
def Zed:=mk 193 (a2 Xd .bool) B5 Xe [] (QM ES) ZX ZY Tryz.f193 [] [qN] (u:=true)
def Zqz:=mk 277 (a5 Xd .int .int Ux Ux) B2 XH [] (λa b=>oE b.1 a.2.1 a.2.2.1 a.2.2.2.1 a.2.2.2.2.1) ZX ZY Tryz.f277 [] [iT] (u:=true)
def yY:=mk 96 Wz B3 Xe B3 (Ws K9) Wu Wv Tryz.f96 [] [Ep]
def ZqC:=mk 278 (a3 Xn .int Ux) [] (a2 t25 .bool) [] (Of oH) WR WT Tryz.f278 [⟨0,[hi 43 .int,hb 6 t26]⟩] [Lt,Eo,Mx,Zel,yY]
def Zei:=mk 192 (a5 t27 .int .int Ux Ux) B0 (a3 t72 t257 .int) [] (λa b=>Ir b.1 a.1 a.2.1 a.2.2.1 a.2.2.2.1 a.2.2.2.2.1) DV D8 Tryz.f192 [⟨0,[hi 3 Ux,hi 14 t3,hi 15 .int,hb 34 t32]⟩,⟨2,[hi 3 Ux,hi 14 t3,hi 15 .int,hi 16 NJ,hi 17 Ux,hb 34 t32]⟩,⟨10060,[hi 60 .bool]⟩] [Zc5,Zqz,ZqC] (u:=true)
def Zd9:=mk 125 (a1 t27) B0 (a3 (.opt t75) t257 .int) B0 (MF xS) aV ZaE Tryz.f125 [] [iT,Zd3,qN,Zed,Zee,Zqw,Zei]
def qD:=mk 126 TA [] (a1 t68) [] (X2 JM) ZX ZY Tryz.f126 [] []
def Em:=mk 240 Vc B3 Xe B3 (Y4 MH) Wu Wv Tryz.f240 [] [Ep,qP,gK]
def Zpn:=mk 195 UU [] (a3 .int t259 .bool) [] (X2 J7) DV D8 Tryz.f195 [⟨0,[hi 7 (.full t35),hi 16 .int,hb 10 t13]⟩] [Lt,Em,Eo,yX,J9]
def ZdO:=mk 91 Vc B6 XH [] (Y4 yJ) ZX ZY Tryz.f91 [] [] (u:=true)
def C0:=mk 39 Wz B7 Xe [] (Ws I7) ZX ZY Tryz.f39 [] [] (u:=true)
def KO:=mk 11 Wz B6 Xe [] (Ws QJ) ZX ZY Tryz.f11 [] [C0] (u:=true)
def Zdu:=mk 135 (a1 t82) [] Xe [] (X2 zS) ZX ZY Tryz.f135 [] []
def gj:=mk 90 Wz B8 Xe [] (Ws FK) ZX ZY Tryz.f90 [] [Zdu] (u:=true)
def Zpm:=mk 279 (a2 t35 Bw) B9 XH [] (MF iH) ZX ZY Tryz.f279 [] [] (u:=true)
def Zqg:=mk 242 (a2 t259 t262) B9 Xe [] (MF ew) ZX ZY Tryz.f242 [⟨0,[hi 8 .int]⟩] [Zpm] (u:=true)
end
noncomputable section
def Zp9:=mk 157 (a2 t259 t262) B9 XH [] (MF pO) ZX ZY Tryz.f157 [] [Zqg] (u:=true)
def Zpl:=mk 196 (a1 t259) [] XH [] (X2 qt) ZX ZY Tryz.f196 [⟨0,[hi 7 .int]⟩] [Zp9]
def Zpp:=mk 140 (a1 t259) [] (a1 t263) [] (X2 iI) ZX ZY Tryz.f140 [⟨0,[hi 3 (.full t33),hi 8 .int]⟩] []
def iW:=mk 226 Gt B7 (a1 t42) [] (Y4 A7) ZX ZY Tryz.f226 [] [] (u:=true)
def ZcW:=mk 297 UU [] XH [] (X2 AK) ZX ZY Tryz.f297 [] []
def ZcV:=mk 338 Xe [] (a1 NJ) [] (X2 DQ) ZX ZY Tryz.f338 [] []
def Znq:=mk 337 (a2 Xn t39) [] (a1 NJ) [] (WQ uh) ZX ZY Tryz.f337 [] [ZcV,qE]
def qB:=mk 299 (a2 Xn t39) [] TA [] (WQ Ff) ZX ZY Tryz.f299 [] [Znq,KN]
def qC:=mk 298 (a2 Xn t42) [] XH [] (WQ Fg) ZX ZY Tryz.f298 [⟨0,[hi 6 .int,hi 19 .int,hb 5 t2]⟩] [qB,ZcW]
def Znp:=mk 300 (a3 Xm Xn .int) [] TA [] (Of AJ) ZX ZY Tryz.f300 [] [ZcV,yP]
def Zno:=mk 225 (a5 Xm Xn t42 .int Xn) [] (a2 t42 .int) [] (λa _=>ug a.1 a.2.1 a.2.2.1 a.2.2.2.1 a.2.2.2.2.1) WR WT Tryz.f225 [] [qB,qC,Znp,ZcW]
def iY:=mk 227 (a3 Xd .int t41) B7 (a2 t264 .bool) [] (Rq Lf) WR WT Tryz.f227 [⟨0,[hi 18 .int,hb 6 t45,hb 8 t45,hb 15 t46]⟩] [qC,iW] (u:=true) (sp:=[43,50])
def yW:=mk 228 Wz SF Xe [] (Ws ND) ZX ZY Tryz.f228 [] [] (u:=true)
def Zdc:=mk 301 Wz B7 Xe [] (Ws D5) ZX ZY Tryz.f301 [] [] (u:=true)
def iP:=mk 303 UU [] TA [] (X2 DP) ZX ZY Tryz.f303 [] [yP]
def Zd7:=mk 339 Vc SF XH [] (Y4 xM) ZX ZY Tryz.f339 [] [] (u:=true)
def qJ:=mk 350 wj [] (a1 t47) [] (WQ Eg) ZX ZY Tryz.f350 [⟨0,[hi 10 .int,hb 2 t2]⟩,⟨10020,[hb 2 t2]⟩] []
def C4:=mk 312 (a1 t47) [] XH [] (X2 KL) ZX ZY Tryz.f312 [] [qJ]
def qK:=mk 352 (a2 t47 Xm) [] XH [] (WQ J6) ZX ZY Tryz.f352 [] [qJ,C4]
def C3:=mk 343 wj [] Xe [] (WQ J5) ZX ZY Tryz.f343 [] []
def Zqs:=mk 340 (a3 Xd .int Xm) SF (a2 (.sl .int) .int) [] (Rq oh) WR WT Tryz.f340 [⟨0,[hi 1 .int,hi 8 It]⟩,⟨10053,[hi 1 .int]⟩] [C3,qK] (u:=true)
def gI:=mk 362 (a3 t52 Xm Xm) [] UU [] (Of Bl) ZX ZY Tryz.f362 [] [qE]
def gH:=mk 341 (a2 Xd t52) SF Xe SF (Y4 Ii) Wu Wv Tryz.f341 [⟨10012,[hb 5 t53,hb 6 t2,hb 7 t2]⟩] [KN,gI]
def Zd8:=mk 363 (a1 t52) [] (a1 t47) [] (X2 Bk) ZX ZY Tryz.f363 [] [qJ]
def Zou:=mk 399 (a1 QS) [] Xe [] (X2 jy) ZX ZY Tryz.f399 [] []
def Zoq:=mk 397 (a1 QS) [] Xe [] (X2 sN) ZX ZY Tryz.f397 [] [Zou]
def Zo7:=mk 383 (a2 Xm Xm) [] Xe [] (WQ qi) ZX ZY Tryz.f383 [⟨0,[hi 7 .int]⟩] [Zoq]
def Zo6:=mk 364 (a2 t47 t47) [] (a1 t47) [] (WQ qh) ZX ZY Tryz.f364 [] [qJ,C4,Zo7]
def Zqr:=mk 342 wh SF Xe SF (Rq og) Wu Wv Tryz.f342 [⟨10034,[hi 1 .int,hi 2 .int]⟩] [C3,Zo6,gH,Zd8]
def Zqq:=mk 302 (a4 Xd .int Xm Xm) SF Jd SF (Gk oc) R8 Qa Tryz.f302 [⟨10065,[hi 12 .int,hb 0 t56]⟩,⟨0,[hi 12 .int,hi 13 .int,hb 0 t56]⟩,⟨10092,[hb 14 t53]⟩] [C3,gH,Zd7,Zqr,Zqs]
def Zda:=mk 229 (a2 Xd t41) B7 Jd B7 (Y4 Fz) R8 Qa Tryz.f229 [⟨0,[hi 6 .int,hi 15 .int,hb 0 t68]⟩] [qB,iP,Zdc,Zqq]
def Zqp:=mk 344 .nl [] TA [] (λ_ _=>eN) ZX ZY Tryz.f344 [] [yP]
def yV:=mk 304 Vc SF wj [] (Y4 Ih) WR WT Tryz.f304 [] [Zqp,Zd7] (u:=true)
def qM:CO:=⟨_,ZiJ⟩
def Zn6:=mk 345 UU [] TA [] (X2 tE) ZX ZY Tryz.f345 [] [KN,qM]
def gi:=mk 305 (a2 .int Xm) [] TA [] (WQ Ck) ZX ZY Tryz.f305 [] [Zn6,Nw,My,KQ]
def Zdd:=mk 233 (a1 t41) [] (a1 t69) [] (X2 tm) ZX ZY Tryz.f233 [⟨0,[hi 3 t69,hi 8 .int]⟩] []
def iX:=mk 230 (a4 Xd .int .int t264) B7 .nl B7 (Gk Fx) Ub Uc Tryz.f230 [⟨0,[hi 27 .int,hb 0 t68]⟩,⟨10044,[hi 12 .int,hb 0 t68]⟩] [Zdd,gi,yV]
def Zn2:=mk 139 (a2 Xd t263) B7 Xe B7 (Y4 OF) Wu Wv Tryz.f139 [⟨1,[hi 6 t69,hi 31 .int]⟩] [Zno,iW,iX,iY,Zda,yW]
def ZdP:=mk 93 (a3 Xd .int t259) B6 Xe B6 (Rq yK) Wu Wv Tryz.f93 [⟨0,[hi 32 .int,hb 0 t98]⟩] [Zn2,KO,Zpp]
end
noncomputable section
def Zpk:=mk 127 Gt B6 XH B6 (Y4 qs) Wu Wv Tryz.f127 [⟨0,[hi 43 .int]⟩] [gj,KO,ZdO,ZdP,Zpl,Zpn]
def Zo8:=mk 85 (a2 t27 t157) cB (a2 t164 .int) cB (λa b=>qk b.1 b.2.1 a.1 a.2.1) DW D9 Tryz.f85 [⟨0,[hi 49 .int,hb 1005 t99,hb 46 t98]⟩] [qD,yP,Zod,Zpk,Zd9]
def Zo9:=mk 11 (a1 .V4) [] Xe [] (λ_ _=>iF) ZX ZY Tryz.f11 [] []
def ZpL:=mk 280 Wz B3 (a1 t40) B3 (Ws pg) Wu Wv Tryz.f280 [] [Mx,yX,J9]
def Zdl:=mk 72 (a1 t102) [] XH [] (X2 Hn) ZX ZY Tryz.f72 [] []
def Zob:=mk 236 UU [] (a2 t102 .int) [] (X2 kP) WR WT Tryz.f236 [] [Zdl,Lt,Mx,J9]
def Zdn:=mk 146 Wz B3 (a1 t103) B3 (Ws zy) Wu Wv Tryz.f146 [] [Zob,KP,Mx,yX]
def ZpJ:=mk 197 Gt cC XH cC (Y4 pe) Wu Wv Tryz.f197 [⟨1,[hi 29 .int,hb 0 t109,hb 8 t13]⟩] [Zdn,ZpL,Lt,Em,Eo,KP,Mx,yY]
def ZpK:=mk 128 (a1 t257) [] (a3 t112 .int .bool) [] (X2 C8) DV D8 Tryz.f128 [⟨0,[hi 7 .int,hi 12 .int,hb 2 t109,hb 5 t109,hb 6 t113]⟩,⟨10024,[hi 7 .int,hb 6 t113]⟩] [ZpJ]
def gh:=mk 42 (a1 t102) [] MJ [] (X2 Li) WR WT Tryz.f42 [] [Zdl,Nw,My,KQ]
def Zop:=mk 117 (a3 Xn .int .int) [] (a2 t265 .bool) [] (Of sK) WR WT Tryz.f117 [⟨0,[hi 32 .int,hb 9 (.own t115),hb 19 t13]⟩] [gk,go,Lt,Eo,Mx,J9] (sp:=[47,52,59])
def Zdq:CO:=⟨_,Zi5⟩
def Zok:=mk 118 (a4 Oh Ux Xn Xn) [] (a2 Xm .bool) [] (Im sy) WR WT Tryz.f118 [⟨0,[hi 53 .int,hb 19 t13,hb 43 t4]⟩] [gk,gn,Zdp,Zdq,Zdr,yQ,yR,Lt,Mx,J9]
def Zoo:=mk 119 (a4 Oh .int Xm t77) [] TA [] (Im sJ) ZX ZY Tryz.f119 [⟨0,[hi 1 .int,hi 15 .int,hb 6 t2]⟩,⟨10023,[hb 11 t2,hb 12 t2]⟩] [Zdw]
def Zqd:=mk 121 (a2 Xn Xn) [] XH [] (WQ ee) ZX ZY Tryz.f121 [⟨0,[hi 13 .int]⟩] []
def Zon:=mk 82 (a3 Xn Xn Xn) [] XH [] (Of Cz) ZX ZY Tryz.f82 [] [Zok,Zoo,Zdx,gw,Zop,Zqd,Lt,Mx,J9]
def Zoh:=mk 43 (a3 Xn Xn Xn) [] XH [] (Of Cm) ZX ZY Tryz.f43 [] [go,Zon,Lt,KP,gJ,Mx,J9]
def qF:=mk 13 (a2 t103 Xn) [] XH [] (WQ Kl) ZX ZY Tryz.f13 [] [gh,Zoh]
def Zdb:=mk 281 (a4 Xd .int t41 Xm) B7 (a3 .int t264 .bool) B7 (Gk tj) aV ZaE Tryz.f281 [] [iY,Zda,yV]
def yO:=mk 111 Wz B7 (a1 t4) [] (Ws Fy) ZX ZY Tryz.f111 [⟨0,[hi 3 t4,hi 11 .int]⟩] [] (u:=true)
def Zdf:=mk 267 (a2 Xm Xm) [] TA [] (WQ zn) ZX ZY Tryz.f267 [] [KN,qM]
def Zdk:=mk 264 (a2 t116 t48) [] (a1 t116) [] (WQ Cd) ZX ZY Tryz.f264 [⟨0,[hi 0 t116,hb 3 (.own t48)]⟩] [Zdf]
def Zdj:=mk 265 (a1 (.sl t48)) [] (a1 t77) [] (X2 tG) ZX ZY Tryz.f265 [⟨0,[hi 3 t4,hi 8 .int]⟩] []
def Zdg:=mk 174 (a2 .int t77) [] (a2 t254 .int) [] (WQ zo) WR WT Tryz.f174 [⟨0,[hi 6 t116,hi 25 .int]⟩] [Zdj,Zdk]
def Zdi:=mk 324 Jd [] XH [] (WQ zq) ZX ZY Tryz.f324 [] []
def Zos:=mk 374 (a1 Ux) [] Xe [] (X2 Zli) ZX ZY Tryz.f374 [⟨10004,H0⟩,⟨10008,H0⟩] []
def Zot:=mk 375 Gs [] Xe [] (X2 jx) ZX ZY Tryz.f375 [⟨10004,H1⟩,⟨10008,H1⟩,⟨10014,H1⟩] []
def Zor:=mk 348 Gs [] Xe [] (X2 sO) ZX ZY Tryz.f348 [] [Zos,Zot]
def Zow:=mk 395 (a1 Ux) [] Xe [] (X2 Zlj) ZX ZY Tryz.f395 [] []
def Zox:=mk 396 Gs [] Xe [] (X2 jz) ZX ZY Tryz.f396 [] []
def Zov:=mk 382 Gs [] Xe [] (X2 sP) ZX ZY Tryz.f382 [] [Zow,Zox]
def Zn7:=mk 361 Jd [] Xe [] (WQ tF) ZX ZY Tryz.f361 [⟨10014,[hi 5 .int]⟩] [Zor,Zov]
def Zdh:=mk 325 Jd [] (a1 (.sl .int)) [] (WQ Hj) ZX ZY Tryz.f325 [⟨0,[hi 0 .int,hi 5 It]⟩] [Zdi,Zn7]
def Zde:=mk 266 (a1 t254) [] XH [] (X2 Cc) ZX ZY Tryz.f266 [] [Zdh,Zdi]
def ge:=mk 175 (a1 t254) [] wj [] (X2 zp) WR WT Tryz.f175 [⟨0,[hi 6 .int,hb 5 t2]⟩] [Zde,Zdf,KN]
def ga:=mk 110 (a1 t77) [] TA [] (X2 I8) ZX ZY Tryz.f110 [] [Zdg,ge]
def ZnY:=mk 282 Vc B7 (a1 t102) [] (Y4 th) ZX ZY Tryz.f282 [] [C0,yO,ga] (u:=true)
def Zc9:=mk 198 (a3 t102 t41 t77) [] (a2 t266 .int) [] (Of Fv) WR WT Tryz.f198 [⟨0,[hi 1 t41,hi 26 .int,hb 23 t68]⟩,⟨2,[hi 11 .int]⟩] [qD,ZnY,iX,Zdb,yW]
def ZpF:=mk 129 (a2 Xd t112) cD XH cD (Y4 gW) Wu Wv Tryz.f129 [] [Zc9,qF]
def Zej:=mk 283 Xe [] Xe [] (X2 oD) ZX ZY Tryz.f283 [] []
end
noncomputable section
def Zqv:=mk 199 (a2 Xd t257) B5 Xe [] (QM ou) ZX ZY Tryz.f199 [⟨0,[hi 5 .int,hi 10 .int]⟩] [qN,Zej] (u:=true)
def Zqy:=mk 292 Wz nU Xe [] (Ws oC) ZX ZY Tryz.f292 [] [] (u:=true)
def ZqA:=mk 334 (a1 t25) [] Gs [] (X2 oF) ZX ZY Tryz.f334 [] []
def HQ:=mk 133 Vc B1 .nl B1 (Y4 Pq) Ub Uc Tryz.f133 [⟨10006,[hb 0 t6]⟩] [Et,qQ]
def ZqB:=mk 293 (a1 t25) [] MJ [] (X2 oG) WR WT Tryz.f293 [] [ZqA,Nw,My,Zeo,HQ]
def Zeh:=mk 295 Vc nU Xe nU (Y4 xZ) Wu Wv Tryz.f295 [] []
def Zef:=mk 223 Gt wY Xe wY (QM xY) PM PO Tryz.f223 [⟨1,[hi 33 .int,hb 1000 t117,hb 0 t32]⟩,⟨10059,[hb 7 t26]⟩,⟨10067,[hb 7 t26]⟩] [Zc6,Zqy,Zeh,Zej,ZqB]
def Zeg:=mk 224 Wz wY Xe wY (λ_ a=>oB a.1 a.2.1) PM PO Tryz.f224 [] [Zc4,Zeh]
def Zqu:=mk 200 (a3 Xd t71 t257) B5 (a2 t72 .int) B5 (λa b=>ot b.1 b.2.1 a.2.1 a.2.2.1) DW D9 Tryz.f200 [⟨0,[hi 39 .int,hb 1000 t117,hb 31 t32]⟩] [qN,Zed,Zef,Zeg,Zei]
def Zec:=mk 130 (a2 Xd t257) B5 Xe B5 (QM Gl) PM PO Tryz.f130 [] [qO,Zqu,Zqv,Zee]
def yT:=mk 21 Wz O3 Xe [] (Ws RE) ZX ZY Tryz.f21 [] [C0] (u:=true)
def Zpw:=mk 86 (a4 t27 Xn .int .int) cE (a2 t165 .int) cE (λa b=>C7 b.1 b.2.1 a.1 a.2.1 a.2.2.1 a.2.2.2.1) DW D9 Tryz.f86 [⟨10053,[hi 15 .int,hb 1001 t156]⟩] [qD,yT,ZpF,ZpK,Zd9,Zec] (sp:=[44,47])
def Zc0:=mk 49 Vc wZ Xe wZ (λb a=>Kd a.1 a.2.1 a.2.2.1 a.2.2.2.1 b.2.1) Fl FA Tryz.f49 [⟨0,[hb 0 t216]⟩] [Zo8,KO,Zo9,Zpw]
def Zdv:=mk 84 (a1 t82) [] UU [] (X2 sI) ZX ZY Tryz.f84 [] [Nw,My,KQ]
def Zoe:=mk 44 Wz B8 UU [] (Ws FM) ZX ZY Tryz.f44 [] [Zdv,qM] (u:=true)
def ZdM:=mk 14 Wz B6 UU [] (Ws CW) ZX ZY Tryz.f14 [] [Zoe] (u:=true)
def Zp1:=mk 50 (a3 .int Xn .int) cF (a1 t175) cF (λa b=>fP b.1 a.1 a.2.1 a.2.2.1) Wu Wv Tryz.f50 [] []
def Zc1:=mk 24 (a1 t162) w9 (a2 (.opt t215) .int) w9 (λb a=>AM a.1 a.2.1 a.2.2.1 a.2.2.2.1 a.2.2.2.2.1 b.1) ZiX ZjC Tryz.f24 [⟨0,hi 31 .int::H5⟩,⟨2,[hi 8 .int,hb 1000 t117,hb 1001 t156,hb 1002 t217,hb 1003 t218,hb 1005 t99,hb 27 t216]⟩,⟨4,hi 80 .int::H5⟩] [Zc0,ZnG,ZnT,ZdM,Zp1]
def ZcY:=mk 10 Wz O4 (a1 t164) [] (Ws Fi) ZX ZY Tryz.f10 [] [] (u:=true)
def ZnA:=mk 27 oP O4 MI O4 (Y4 lJ) Wu Wv Tryz.f27 [] []
def ZcZ:=mk 52 Vc O4 (a1 t187) [] (Y4 uw) ZX ZY Tryz.f52 [] [] (u:=true)
def Zp4:=mk 88 (a4 Xd .int Xn .int) Jn wl Jn (Gk fR) R8 Qa Tryz.f88 [⟨10010,[hi 10 .bool]⟩,⟨10010,[hi 10 .bool]⟩,⟨10010,[hi 10 .bool]⟩,⟨10010,[hi 10 .bool]⟩,⟨10010,[hi 10 .bool]⟩,⟨10010,[hi 10 .bool]⟩] []
def ZdF:=mk 97 Xe [] (a1 (.nz .int)) [] (X2 z8) ZX ZY Tryz.f97 [] []
def ZdA:=mk 98 wl [] XH [] (WQ CE) ZX ZY Tryz.f98 [] []
def yS:=mk 287 Wz B1 .nl B1 (Ws Hy) Ub Uc Tryz.f287 [] [HQ]
def ZdD:=mk 207 Vc B1 .nl B1 (Y4 OP) Ub Uc Tryz.f207 [] [yS,KQ]
def ZoH:=mk 208 Vc B1 .nl B1 (Y4 sY) Ub Uc Tryz.f208 [] [yS,HQ]
def gC:=mk 209 Gt B1 .nl B1 (Y4 Hz) Ub Uc Tryz.f209 [] [yS,yZ]
def Zdm:=mk 210 (a2 Xd t103) B1 .nl B1 (Y4 FI) Ub Uc Tryz.f210 [] [gh,My,yZ,HQ]
def Er:=mk 221 Vc B1 .nl B1 (Y4 OX) Ub Uc Tryz.f221 [⟨10006,[hb 0 t6]⟩] [Et,qQ]
def Ek:=mk 212 (a2 Xd Xm) B1 .nl B1 (Y4 Pj) Ub Uc Tryz.f212 [] [My]
def ZdH:=mk 220 (a3 Xd t77 (.fn 212 t269 .nl)) B1 .nl B1 (Y4 ya) Ub Uc Tryz.f220 [⟨0,H6⟩] [Ek,Er]
def ZoN:=mk 211 (a2 Xd t118) B1 .nl B1 (Y4 rf) Ub Uc Tryz.f211 [] [ZdH]
def gB:=mk 290 (a2 Xd t47) B1 .nl B1 (Y4 z7) Ub Uc Tryz.f290 [] [Ek,yS,C4,Zen]
def ZoM:=mk 289 (a2 Xd t119) B1 .nl B1 (Y4 jG) Ub Uc Tryz.f289 [] [Ek,gB]
def ZoV:=mk 288 (a3 Xd t120 (.fn 289 t269 .nl)) B1 .nl B1 (Y4 rm) Ub Uc Tryz.f288 [⟨0,H6⟩] [ZoM,Er]
def ZoK:=mk 213 (a2 Xd t125) B1 .nl B1 (Y4 sZ) Ub Uc Tryz.f213 [⟨10034,H7⟩,⟨10020,H7⟩,⟨10014,H7⟩] [Ek,gB,yS,ZoV,HQ]
def ZdE:=mk 215 (a2 Xd t39) B1 .nl B1 (Y4 rg) Ub Uc Tryz.f215 [] [Ek,ZdD,gC]
def ZoS:=mk 214 (a3 Xd t42 (.fn 215 t269 .nl)) B1 .nl B1 (Y4 jI) Ub Uc Tryz.f214 [⟨0,H6⟩] [ZdE,Er]
def ZoL:=mk 217 (a2 Xd t126) B1 .nl B1 (Y4 re) Ub Uc Tryz.f217 [] [Ek,gB,Zem]
end
noncomputable section
def ZoT:=mk 216 (a3 Xd t127 (.fn 217 t269 .nl)) B1 .nl B1 (Y4 yb) Ub Uc Tryz.f216 [⟨0,H6⟩] [ZoL,Er]
def ZoJ:=mk 219 (a2 Xd t40) B1 .nl B1 (Y4 jF) Ub Uc Tryz.f219 [] [gC,ZdE]
def ZoU:=mk 218 (a3 Xd t41 (.fn 219 t269 .nl)) B1 .nl B1 (Y4 yc) Ub Uc Tryz.f218 [⟨0,H6⟩] [ZoJ,Er]
def ZoI:=mk 134 dy B1 .nl B1 (Rq FX) Ub Uc Tryz.f134 [⟨10111,H8⟩,⟨10103,H8⟩,⟨10095,H8⟩,⟨10087,H8⟩,⟨10081,H8⟩,⟨10075,H8⟩,⟨10069,H8⟩,⟨10063,H8⟩,⟨10055,H8⟩,⟨10049,H8⟩,⟨10043,H8⟩,⟨10037,H8⟩,⟨10031,H8⟩,⟨10025,H8⟩,⟨10019,H8⟩,⟨10013,H8⟩,⟨10007,H8⟩] [Zdm,ZoH,Ek,ZdD,ZoK,gC,ZoN,ZdH,ZoS,ZoT,ZoU]
def Zoz:=mk 89 (a1 t144) [] MJ [] (X2 Hx) WR WT Tryz.f89 [⟨0,[hi 25 .int,hb 1 t221,hb 16 t6]⟩] [ZdA,ZoI,ZdF,Nw,HQ]
def gD:=mk 36 (a3 (.Ue 0 [41,2,2,2,2,2,2,2,0]) .int Xn) Pv XH Pv (λa b=>CI b.1 b.2.1 a.2.1 a.2.2.1) PM PO Tryz.f36 [] []
def yN:=mk 55 (a3 Xd .int t144) Pv .nl Pv (λa b=>R6 b.1 b.2.1 a.2.1 a.2.2.1) AN ze Tryz.f55 [⟨10014,H9⟩] [Zoz,gD]
def Zny:=mk 54 (a3 Xd (.hole 1) t267) cG MI cG (λb a=>uz a.1 a.2.1 a.2.2.1 a.2.2.2.1 b.2.2.1) Fl FA Tryz.f54 [] [yN,Zp4]
def Znv:=mk 28 oP cH MI cH (λb a=>uu a.1 a.2.1 a.2.2.1 a.2.2.2.1 b.2.1) Fl FA Tryz.f28 [] [ZcZ,Zny,yN]
def iQ:=mk 56 Vc O4 Xe [] (Y4 AL) ZX ZY Tryz.f56 [] [] (u:=true)
def iV:=mk 70 Wz B7 (a1 t77) [] (Ws AZ) ZX ZY Tryz.f70 [⟨0,bk⟩] [C0] (u:=true)
def ZnZ:=mk 71 Vc B7 TA [] (Y4 kw) ZX ZY Tryz.f71 [] [C0,yO,ga] (u:=true)
def Zpi:=mk 41 Vc B6 (a1 t102) [] (Y4 qq) ZX ZY Tryz.f41 [] [ZnZ,iV] (u:=true)
def Zog:=mk 108 Vc B8 (a2 t82 .int) B8 (Y4 kS) R8 Qa Tryz.f108 [] [Zdo,Zdt]
def Zol:=mk 173 (a5 .int Oh Ux Xm Xn) [] MJ [] (λa _=>sA a.1 a.2.1 a.2.2.1 a.2.2.2.1 a.2.2.2.2.1) WR WT Tryz.f173 [⟨0,[hi 48 .int,hb 31 t6]⟩] [gn,Zdq,yQ,Zds,yR,Nw,My,KQ]
def Zom:=mk 109 (a3 t82 .int Xn) [] MJ [] (Of zT) WR WT Tryz.f109 [⟨1,[hi 11 .int,hb 47 t6]⟩] [Zol,Zdu,Nw,My,KQ]
def Zof:=mk 69 dx B8 MJ B8 (Rq tU) R8 Qa Tryz.f69 [] [gj,Zog,Zdv,Zom,qM]
def Zoc:=mk 40 (a3 Xd .int t102) B8 (a2 t103 .int) B8 (Rq tP) R8 Qa Tryz.f40 [] [gh,Zof]
def qL:=mk 12 Vc B6 (a2 t103 .int) B6 (Y4 Eh) R8 Qa Tryz.f12 [] [Zoc,KO,Zpi]
def Zpo:=mk 136 (a2 .int t259) [] MJ [] (WQ qu) WR WT Tryz.f136 [⟨0,[hi 21 .int,hb 10 t6]⟩] [Er,Nw,yZ,KQ]
def Zea:=mk 137 Gt B5 Xe B5 (QM Bo) PM PO Tryz.f137 [] [qO,Zef]
def Zeb:=mk 138 Wz B5 Xe B5 (λ_ a=>Bp a.1 a.2.1) PM PO Tryz.f138 [] [qO,Zeg]
def Zpj:=mk 92 (a3 Xd .int t259) ve Xe ve (λa b=>qr b.1 b.2.1 a.2.1 a.2.2.1) PM PO Tryz.f92 [] [Zpo,Zea,Zeb]
def ZdQ:=mk 94 (a3 t144 .int .int) [] Bz [] (Of HN) WR WT Tryz.f94 [] []
def iZ:=mk 231 Vc B7 XH [] (Y4 A8) ZX ZY Tryz.f231 [] [C0] (u:=true)
def HO:=mk 346 Vc SF (a2 t52 .bool) [] (Y4 ME) WR WT Tryz.f346 [] [yW] (u:=true)
def ZnL:=mk 307 (a2 .int Bw) nV XH [] (MF l9) ZX ZY Tryz.f307 [] [] (u:=true)
def ZnO:=mk 306 (a3 Xd .int (.fn 307 .nl t261)) B28 (a1 It) [] (QM uN) ZX ZY Tryz.f306 [⟨0,bm⟩,⟨10048,[hi 8 It]⟩] [ZnL,HO] (u:=true)
def Zqh:CO:=⟨_,Zr7⟩
def iS:=mk 349 Vc SF TA [] (Y4 I5) ZX ZY Tryz.f349 [] [HO] (u:=true)
def ZnQ:=mk 309 Vc SF (a1 t126) [] (Y4 ke) ZX ZY Tryz.f309 [] [iS,HO] (u:=true)
def ZnK:=mk 232 wh SF (a2 t127 .int) [] (Rq uM) WR WT Tryz.f232 [⟨0,[hi 11 t223,hi 34 .int]⟩] [ZnO,ZnQ,Zqh,yV] (u:=true)
def Zn1:=mk 141 Vc B7 (a1 t127) [] (Y4 D4) ZX ZY Tryz.f141 [] [ZnK,iZ] (u:=true)
def iU:=mk 142 Vc B7 (a1 t41) [] (Y4 Fw) ZX ZY Tryz.f142 [] [iZ,Zdd] (u:=true)
def ZdN:=mk 95 Vc B6 wl B6 (Y4 yI) R8 Qa Tryz.f95 [] [iU,Zn1,qL]
def Zpa:=mk 57 Vc ve (a2 t252 .int) ve (QM CY) DW D9 Tryz.f57 [⟨1,[hi 9 t224,hi 77 .int]⟩] [gj,KO,ZdN,ZdO,Zpj,ZdP,ZdQ]
def Znz:=mk 29 Wz cI MI cI (λ_ a=>Fj a.1 a.2.1 a.2.2.1 a.2.2.2.1) Fl FA Tryz.f29 [⟨0,hi 73 .int::H9⟩,⟨2,[hi 90 .int,hb 1006 t222,hb 0 t216,hb 10 t221]⟩] [iQ,yN,KO,Zpa,qL]
def qI:=mk 63 (a2 (.Ue 0 [41,2,2,2,2,2,2,2,0]) .int) O4 XH [] (Y4 F1) ZX ZY Tryz.f63 [] [] (u:=true)
def ZdJ:=mk 65 (a2 (.Ue 0 [41,2,2,2,2,2,2,2,0]) .int) Pv (a2 t23 .bool) [] (QM rI) WR WT Tryz.f65 [] [qI] (u:=true)
def Zqb:CO:=⟨_,Zi0⟩
end
noncomputable section
def ZdI:=mk 32 (a2 (.Ue 0 [41,2,2,2,2,2,2,2,0]) .int) O4 XH O4 (Y4 rH) Wu Wv Tryz.f32 [] [qI,Zqb]
def Zo4:=mk 58 (a2 (.Ue 0 [41,2,2,2,2,2,2,2,0]) .int) Pv (a2 t23 .bool) Pv (QM jV) DW D9 Tryz.f58 [] [ZdI,ZdJ] (sp:=[16])
def qH:=mk 234 Wz Um .nl Um (Ws FV) Ub Uc Tryz.f234 [] [Mx]
def ZdB:=mk 143 Wz Um Xe Um (Ws Kv) Wu Wv Tryz.f143 [] [qH,J9]
def ZoA:=mk 144 Wz Um Xe Um (Ws sT) Wu Wv Tryz.f144 [] [qH,yY]
def gA:=mk 145 Wz Um UU Um (Ws FW) Wu Wv Tryz.f145 [] [yX]
def Ej:=mk 148 Wz Um TA Um (Ws Ph) Wu Wv Tryz.f148 [] [Mx]
def ZdG:=mk 156 (a2 Xd (.fn 148 t269 .nl)) Um (a1 t77) Um (Ws z9) Wu Wv Tryz.f156 [⟨0,hi 5 t4::Ah⟩] [Ej,Em,KP]
def ZoG:=mk 147 Wz Um (a1 t118) Um (Ws sW) Wu Wv Tryz.f147 [] [ZdG]
def ZqD:=mk 311 Wz B3 Xe B3 (Ws oJ) Wu Wv Tryz.f311 [] [Ep]
def gz:=mk 239 Wz Um (a1 t47) Um (Ws CF) Wu Wv Tryz.f239 [] [qH,Ej,C4,ZqD]
def ZoF:=mk 238 Wz Um (a1 t119) Um (Ws jE) Wu Wv Tryz.f238 [] [Ej,gz]
def ZoR:=mk 237 (a2 Xd (.fn 238 t269 .nl)) Um (a1 t120) Um (Ws jH) Wu Wv Tryz.f237 [⟨0,hi 5 t227::Ah⟩] [ZoF,Em,KP]
def ZoD:=mk 149 Wz Um (a1 t125) Um (Ws jD) Wu Wv Tryz.f149 [⟨10029,mf⟩,⟨10021,mf⟩,⟨10019,mf⟩] [qH,Ej,gz,ZoR,yY]
def ZdC:=mk 151 Wz Um (a1 t39) Um (Ws sX) Wu Wv Tryz.f151 [] [Ej,ZdB,gA]
def ZoO:=mk 150 (a2 Xd (.fn 151 t269 .nl)) Um (a1 t42) Um (Ws rh) Wu Wv Tryz.f150 [⟨0,hi 5 t228::Ah⟩] [ZdC,Em,KP]
def ZoE:=mk 153 Wz Um (a1 t126) Um (Ws sV) Wu Wv Tryz.f153 [] [Ej,gz,Zek]
def ZoP:=mk 152 (a2 Xd (.fn 153 t269 .nl)) Um (a1 t127) Um (Ws ri) Wu Wv Tryz.f152 [⟨0,hi 5 t223::Ah⟩] [ZoE,Em,KP]
def ZoC:=mk 155 Wz Um (a1 t40) Um (Ws jC) Wu Wv Tryz.f155 [] [gA,ZdC]
def ZoQ:=mk 154 (a2 Xd (.fn 155 t269 .nl)) Um (a1 t41) Um (Ws rj) Wu Wv Tryz.f154 [⟨0,hi 5 t69::Ah⟩] [ZoC,Em,KP]
def ZoB:=mk 99 (a3 Xd (.hole 1) .int) cJ .nl cJ (λb a=>sU a.1 a.2.1 b.2.2.1) AN ze Tryz.f99 [⟨10128,Qs⟩,⟨10119,Qs⟩,⟨10110,Qs⟩,⟨10101,Qs⟩,⟨10094,Qs⟩,⟨10087,Qs⟩,⟨10080,Qs⟩,⟨10073,Qs⟩,⟨10063,Qs⟩,⟨10056,Qs⟩,⟨10049,Qs⟩,⟨10042,Qs⟩,⟨10035,Qs⟩,⟨10028,Qs⟩,⟨10021,Qs⟩,⟨10014,Qs⟩,⟨10007,Qs⟩] [Zdn,ZoA,Ej,ZdB,ZoD,gA,ZoG,ZdG,ZoO,ZoP,ZoQ]
def Zoy:=mk 59 UU [] wl [] (X2 sS) WR WT Tryz.f59 [⟨0,[hi 27 .int,hb 5 t221,hb 12 t226]⟩] [ZdA,ZoB,ZdF,Lt,Eo,yY]
def iO:=mk 159 (a2 Xn Xn) [] XH [] (WQ Fe) ZX ZY Tryz.f159 [] []
def Zpf:=mk 158 (a2 t35 Bw) nW XH [] (MF qo) ZX ZY Tryz.f158 [] [iO] (u:=true)
def Zqf:=mk 242 (a2 t259 t270) nW Xe [] (MF ei) ZX ZY Tryz.f242 [⟨0,[hi 8 .int]⟩] [Zpf] (u:=true)
def Zp8:=mk 157 (a2 t259 t270) nW XH [] (MF pN) ZX ZY Tryz.f157 [] [Zqf] (u:=true)
def Zpe:=mk 101 LA B6 Bz B6 (Y4 qn) R8 Qa Tryz.f101 [⟨0,[hi 76 .int,hb 4 t221]⟩] [ZdQ,Zp8]
def Zpg:=mk 101 oN [] Bz [] (λa _=>iG a.2.1) WR WT Tryz.f101 [⟨0,[hi 76 .int,hb 3 t221,hb 4 t221]⟩] []
def iR:=mk 102 LA Pv .nl Pv (QM La) AN ze Tryz.f102 [⟨10016,[hb 1006 t222,hb 0 t216,hb 3 t221]⟩] [yN]
def Zpc:=mk 160 (a4 t144 .int Bw (.hole 501)) cK .nl cK (λa b=>ql b.1 b.2.1 a.1 a.2.1) AN ze Tryz.f160 [⟨10007,[hb 3 t229,hb 4 t221]⟩] []
def Zph:=mk 161 Wz B6 wl B6 (Ws qp) R8 Qa Tryz.f161 [⟨0,[hi 7 .int,hb 6 (.own t246)]⟩] [iU,iV,KO,qL]
def Zpb:=mk 103 LA B6 (a1 t252) B6 (Y4 yH) Wu Wv Tryz.f103 [⟨1,hi 7 .int::mg⟩,⟨10034,mg⟩,⟨10042,mg⟩] [KO,Zpc,Zph,ZdN]
def Zpd:=mk 103 oN [] (a1 t252) [] (λa _=>qm a.2.1) ZX ZY Tryz.f103 [⟨1,hi 7 .int::vw⟩,⟨10034,vw⟩,⟨10042,vw⟩] []
def ZnC:=mk 60 LA cL .nl cL (λb a=>uB a.1 a.2.1 a.2.2.1 b.2.1) ZiU Zjz Tryz.f60 [⟨10017,[hb 1006 t222,hb 0 t216,hb 4 t221]⟩,⟨0,hi 28 .int::H9⟩] [iR,Zpb,Zpd,Zpe,Zpg]
def Zd4:=mk 351 (a3 t77 .int .int) [] (a1 t77) [] (Of EK) ZX ZY Tryz.f351 [] [Zdg]
def Zqm:=mk 313 (a2 t77 .int) [] oQ [] (WQ oa) WR WT Tryz.f313 [] [Zd4]
def ZnX:=mk 243 wh B7 oQ [] (Rq kv) WR WT Tryz.f243 [⟨10012,[hi 12 .bool]⟩,⟨10012,[hi 12 .bool]⟩] [yO,Zqm] (u:=true)
def Zql:=mk 314 (a2 t77 .int) [] oQ [] (WQ p9) WR WT Tryz.f314 [] [Zd4]
def Zn0:=mk 244 wh B7 oQ [] (Rq kx) WR WT Tryz.f244 [⟨10012,[hi 12 .bool]⟩,⟨10012,[hi 12 .bool]⟩] [yO,Zql] (u:=true)
def Zpv:=mk 353 Vc SF TA [] (Y4 yM) ZX ZY Tryz.f353 [] [HO] (u:=true)
end
noncomputable section
def Zpt:=mk 315 (a3 Xd .int Xm) SF (a2 t125 .int) [] (Rq qw) WR WT Tryz.f315 [⟨0,[hi 1 .int,hb 10 (.own t247)]⟩,⟨10074,[hi 13 .int,hi 14 .int]⟩] [C3,qK,Zpv,HO,yV] (u:=true)
def ZcU:=mk 258 (a2 t42 .int) [] (a1 t42) [] (WQ ui) ZX ZY Tryz.f258 [⟨0,[hi 5 .int]⟩] []
def Zn3:=mk 245 (a3 Xd Xn .int) B7 (a2 t271 .int) [] (Rq ky) WR WT Tryz.f245 [⟨10011,[hi 11 .bool]⟩,⟨10011,[hi 11 .bool]⟩] [iP,ZcU,iW,iZ,Zpt] (u:=true)
def ZpG:=mk 162 (a3 Xd (.hole 1) Xn) cM Xe cM (λb a=>pc a.1 a.2.1 b.2.2.1) PM PO Tryz.f162 [⟨10022,[hi 8 .int]⟩] [ZnX,Zn0,Zn3,yT]
def Zpx:=mk 104 LA O3 Bz O3 (Y4 gT) R8 Qa Tryz.f104 [] [ZpG]
def ZdW:=mk 246 (a2 Xm t41) [] MJ [] (WQ xj) WR WT Tryz.f246 [⟨0,[hi 22 .int,hb 10 t6]⟩] [Er,Nw,My,yZ,KQ,HQ]
def ZdX:=mk 247 (a1 t103) [] MJ [] (X2 pd) WR WT Tryz.f247 [] [Zdm,Nw,HQ]
def ZdT:=mk 248 Vc O3 Xe O3 (Y4 xg) Wu Wv Tryz.f248 [] []
def ZdV:=mk 249 (a3 Xd t68 t103) O3 .nl O3 (Rq xi) Ub Uc Tryz.f249 [] []
def Zqa:CO:=⟨_,Zac (t:=t144) ZD (λ_ _ _ _ a=>SD rfl a) λd g e f v b c=>Go.Sl.Zih b c⟩
def ZdK:=mk 390 (a2 t47 .int) [] (a2 t47 .bool) [] (WQ yG) WR WT Tryz.f390 [⟨10024,[hb 2 t248]⟩] [C4]
def ZdL:=mk 391 (a2 t47 t47) [] XH [] (WQ CV) ZX ZY Tryz.f391 [] [C4,qK]
def Zqt:=mk 376 (a4 Xd t47 .int .int) SF XH [] (Gk xN) ZX ZY Tryz.f376 [] [ZdK,ZdL,HO,Zd8] (u:=true)
def Zd6:=mk 354 (a2 Xd t52) SF Jd SF (Y4 xL) R8 Qa Tryz.f354 [] [gH,Zqt]
def ZnW:=mk 318 Wz B7 (a1 t68) [] (Ws tf) ZX ZY Tryz.f318 [⟨0,[hi 23 .int,hb 17 t68]⟩,⟨2,[hi 55 .int,hb 17 t68]⟩] [qD,Zd6,HO,yW] (u:=true)
def Zn4:=mk 356 (a4 Xd .int Xm Xm) B7 XH [] (Gk ti) ZX ZY Tryz.f356 [] [yO,ga,gi] (u:=true)
def ZnJ:=mk 377 Xe [] XH [] (X2 l8) ZX ZY Tryz.f377 [] []
def ZnP:=mk 306 (a3 Xd .int (.fn 377 .nl .nl)) SF (a1 It) [] (Y4 uO) ZX ZY Tryz.f306 [⟨0,bm⟩,⟨10048,[hi 8 It]⟩] [ZnJ,HO] (u:=true)
def ZnN:=mk 392 (a2 Xd t126) nX (a2 t52 .bool) [] (QM kc) WR WT Tryz.f392 [] [] (u:=true)
def ZnM:=mk 378 (a2 Xd t126) nX Jd nX (QM ka) DW D9 Tryz.f378 [] [iS,ZnN,Zd6]
def ZnI:=mk 357 (a4 Xd .int t127 Xm) SF Jd SF (Gk uL) R8 Qa Tryz.f357 [⟨0,hi 37 .int::bn⟩,⟨2,hi 1 .int::hi 52 .int::bn⟩] [iS,ZnM,ZnP,yV]
def ZnV:=mk 319 (a4 Xd t102 t127 t41) B7 Xe B7 (Gk te) Wu Wv Tryz.f319 [] [ZnI,iX,Zn4,iY,Zdb,Zdc,yW]
def ZpI:=mk 251 LA O3 (a2 t266 .int) [] (Y4 gY) WR WT Tryz.f251 [] [ZnV,ZnW] (u:=true)
def ZdS:=mk 165 LA IC Xe IC (QM xf) PM PO Tryz.f165 [⟨0,hi 46 .int::mh⟩] [ZdT,ZdV,ZpI,ZdW,ZdX,Zea,Zeb]
def ZdU:=mk 166 Wz IC Xe IC (λ_ a=>xh a.1 a.2.1) PM PO Tryz.f166 [⟨0,hi 2 .int::mh⟩,⟨2,hi 2 .int::hi 11 .int::hi 9 t252::mh⟩] [yT,ZdS,Zqa] (sp:=[49])
def ZpC:=mk 163 LA IC Xe IC (QM q9) PM PO Tryz.f163 [⟨0,[hi 7 t3,hi 30 .int]⟩] [Zc9,iU,iV,ZdT,ZdU,ZdV,ZdW,ZdX,Zec]
def ZpE:=mk 317 (a2 t144 Bw) nV XH [] (MF gV) ZX ZY Tryz.f317 [] [] (u:=true)
def Zqe:=mk 316 (a2 t252 (.fn 317 .nl t261)) nV Xe [] (MF Zfs) ZX ZY Tryz.f316 [⟨0,[hi 8 .int]⟩] [ZpE] (u:=true)
def ZpD:=mk 250 Vc O3 Xe [] (Y4 gU) ZX ZY Tryz.f250 [] [Zqe] (u:=true)
def ZpH:=mk 164 LA O3 Xe O3 (Y4 gX) Wu Wv Tryz.f164 [] [ZpD]
def Zpz:=mk 105 LA IC Xe IC (QM qY) PM PO Tryz.f105 [⟨10006,[hi 6 .bool]⟩,⟨10017,[hi 17 .bool]⟩] [qF,yT,ZdS,ZpC,ZdU,ZpH]
def ZnD:=mk 61 (a3 Xd (.hole 1) t144) cN .nl cN (λb a=>lK a.1 a.2.1 a.2.2.1 a.2.2.2.1 b.2.2.1) ZiV ZjA Tryz.f61 [⟨10017,mi⟩] [iR,Zpx,Zpz]
def Zpy:=mk 104 oN [] Bz [] (λa _=>ZeH a.2.1) WR WT Tryz.f104 [] []
def ZpA:=mk 105 oN [] Xe [] (λa _=>ZeI a.2.1) ZX ZY Tryz.f105 [⟨10006,[hi 6 .bool]⟩,⟨10017,[hi 17 .bool]⟩] []
def ZnE:=mk 61 (a3 Xd .V4 t144) Pv .nl Pv (λb a=>lL a.1 a.2.1 b.2.2.1) AN ze Tryz.f61 [⟨10017,mi⟩] [iR,Zpy,ZpA]
def Zp3:=mk 167 Vc Jn .nl Jn (Y4 fQ) Ub Uc Tryz.f167 [⟨10005,[hb 0 t174]⟩] []
def Znt:=mk 106 (a3 Xd (.hole 1) t144) cP MI cP (λb a=>lI a.1 a.2.1 a.2.2.1 b.2.2.1) aW ZaF Tryz.f106 [] [Zp3]
def Zp5:=mk 254 LA Jn XH [] (Y4 pF) ZX ZY Tryz.f254 [] [] (u:=true)
def Zp6:=mk 321 Wz Jn TA [] (Ws fS) ZX ZY Tryz.f321 [] [ge] (u:=true)
def Zn5:=mk 379 (a2 t254 t254) [] (a2 t254 .int) [] (WQ tD) WR WT Tryz.f379 [⟨0,[hi 6 t116,hi 32 .int]⟩,⟨2,[hi 6 t116,hi 9 .int,hi 44 .int]⟩] [Zde,Zdh,Zdj,Zdk]
end
noncomputable section
def Zd5:=mk 358 (a2 Xm (.sl t254)) [] XH [] (WQ xK) ZX ZY Tryz.f358 [⟨0,[hi 18 .int,hb 5 (.own t254)]⟩] [Zn5,ge]
def Zqo:=mk 320 (a5 t118 .int .int Xm Xm) [] XH [] (λa _=>eM a.1 a.2.1 a.2.2.1 a.2.2.2.1 a.2.2.2.2.1) ZX ZY Tryz.f320 [] [Zd5] (sp:=[15,20,37])
def Zqn:=mk 322 (a5 t118 .int .int Xm Xm) [] XH [] (λa _=>eK a.1 a.2.1 a.2.2.1 a.2.2.2.1 a.2.2.2.2.1) ZX ZY Tryz.f322 [] [Zd5]
def Zps:=mk 380 (a2 t125 Xm) [] XH [] (WQ qv) ZX ZY Tryz.f380 [⟨0,[hi 13 .int,hb 5 t248]⟩] [C3,ZdK,qK,ZdL]
def ZdR:=mk 394 (a3 t47 Xm Xm) [] UU [] (Of yL) ZX ZY Tryz.f394 [] [gI]
def Zpr:=mk 393 (a1 t125) [] (a2 Xn .bool) [] (X2 iK) WR WT Tryz.f393 [] [qE,ZdR,gI]
def Zpu:=mk 381 (a2 t125 Xm) [] (a1 t257) [] (WQ qx) ZX ZY Tryz.f381 [⟨0,[hi 5 Xn,hi 7 t3,hi 8 .int]⟩,⟨10040,[hi 5 Xn]⟩] [KN,C3,Zpr,ZdR]
def Zpq:=mk 359 (a3 t125 Xm Xm) [] (a3 Xm .bool .bool) [] (Of iJ) DV D8 Tryz.f359 [] [KN,Zps,Zpu]
def Znn:=mk 360 (a3 Xn t42 Xm) [] XH [] (Of lF) ZX ZY Tryz.f360 [] [qB,qC]
def ZnU:=mk 323 (a2 Xn t271) [] XH [] (WQ ku) ZX ZY Tryz.f323 [] [Znn,iP,Zpq]
def Zp7:=mk 255 dy Jn XH [] (Rq fT) ZX ZY Tryz.f255 [] [ZnU,gi,Zp6,Zqn,Zqo] (u:=true)
def Zp2:=mk 168 dy Jn (a2 t195 .int) Jn (Rq pE) R8 Qa Tryz.f168 [⟨10036,[hi 10 .int]⟩,⟨10112,[hb 0 t174]⟩] [qF,Zp5,Zp7]
def ZoY:=mk 169 UU cQ (a1 t179) cQ (MF jO) Wu Wv Tryz.f169 [] []
def ZoX:=mk 257 (a2 Xd t195) nY XH [] (Y4 jN) ZX ZY Tryz.f257 [] [qC] (u:=true)
def Zo0:=mk 260 (a2 t39 t39) [] XH [] (WQ rz) ZX ZY Tryz.f260 [] [iO]
def Zqc:=mk 259 (a3 t42 t42 (.fn 260 .nl .nl)) [] XH [] (WQ fZ) ZX ZY Tryz.f259 [⟨0,[hi 17 .int]⟩] [Zo0]
def ZoZ:=mk 261 (a1 t42) [] (a1 t228) [] (X2 yg) ZX ZY Tryz.f261 [⟨0,[hi 3 t228,hi 8 .int]⟩] []
def ZoW:=mk 170 (a2 Xd t195) nY (a2 t42 .int) nY (Y4 ry) R8 Qa Tryz.f170 [⟨10007,[hi 7 .bool]⟩,⟨10007,[hi 7 .bool]⟩] [iO,ZcU,ZoX,ZoZ,Zqc]
def Znu:=mk 107 (a4 Xd .int (.hole 2) t144) cR MI cR (λb a=>ur a.1 a.2.1 a.2.2.1 a.2.2.2.1 b.2.1 b.2.2.2.1) Fl FA Tryz.f107 [⟨10075,[hi 11 t179,hb 1004 t255,hb 2 t186,hb 9 (.own t195)]⟩] [iQ,ZoW,ZoY,Zp2]
def ZnB:=mk 62 (a3 Xd .int t144) cS MI cS (λb a=>uA a.1 a.2.1 a.2.2.1 a.2.2.2.1 b.2.1 b.2.2.1) Fl FA Tryz.f62 [] [Znt,Znu,ZcZ]
def Znw:=mk 30 Vc vf MI vf (λb a=>ux a.1 a.2.1 a.2.2.1 a.2.2.2.1 a.2.2.2.2.1 a.2.2.2.2.2.1 a.2.2.2.2.2.2.1 a.2.2.2.2.2.2.2.1 b.2.1) aY ZaH Tryz.f30 [] [ZnB,ZnC,ZnD,ZnE,Zoy,Zo4]
def Zc2:=mk 31 XH [] MI [] (X2 I1) ZX ZY Tryz.f31 [] []
def Zo1:=mk 33 (a2 (.Ue 0 [41,2,2,2,2,2,2,2,0]) .int) Pv XH Pv (QM jT) PM PO Tryz.f33 [] [ZdJ,gD] (sp:=[14])
def Zo3:=mk 34 (a3 (.Ue 0 [41,2,2,2,2,2,2,2,0]) .int .int) O4 XH O4 (Rq rJ) Wu Wv Tryz.f34 [] [qI]
def Zo5:=mk 35 (a4 (.Ue 0 [41,2,2,2,2,2,2,2,0]) .int .int QS) Pv XH Pv (λa b=>rK b.1 b.2.1 a.2.1 a.2.2.1 a.2.2.2.1) PM PO Tryz.f35 [] [qI]
def Zns:=mk 18 Vc O4 (a1 t165) [] (Y4 lH) ZX ZY Tryz.f18 [] [] (u:=true)
def ZpB:=mk 66 Vc O3 Bz O3 (Y4 qZ) R8 Qa Tryz.f66 [] [yT]
def ZnF:=mk 37 Vc cT MI cT (λb a=>uC a.1 a.2.1 a.2.2.1 b.2.1) aW ZaF Tryz.f37 [⟨10023,mi⟩] [Zns,iQ,yN,Zc2,ZpB]
def ZnS:=mk 67 Vc B2 .nl B2 (Y4 Zaf) Ub Uc Tryz.f67 [⟨10005,[hb 0 t21]⟩] []
def ZnR:=mk 68 (a2 Xd (.sl .int)) B2 .nl B2 (Y4 DY) Ub Uc Tryz.f68 [⟨0,[hi 14 .int,hi 12 t22,hb 0 t21]⟩,⟨10022,[hi 6 .int]⟩] []
def Znx:=mk 38 oP wZ MI wZ (λb a=>uy a.1 a.2.1 a.2.2.1 a.2.2.2.1 b.2.1) Fl FA Tryz.f38 [] [Zc0,ZnR,ZnS]
def ZcX:=mk 9 oP vf MI vf (λb a=>Fh a.1 a.2.1 a.2.2.1 a.2.2.2.1 a.2.2.2.2.1 a.2.2.2.2.2.1 a.2.2.2.2.2.2.1 a.2.2.2.2.2.2.2.1 b.2.1) aY ZaH Tryz.f9 [⟨10026,[hi 26 .bool]⟩,⟨10026,[hi 26 .bool]⟩,⟨10077,[hi 5 QS]⟩,⟨10123,[hi 123 .bool]⟩] [Znv,Znw,Znx,Znz,ZnA,ZnF,Zc2,Zo1,ZdI,gD,Zo3,Zo5]
def Zo2:=mk 45 (a1 (.Ue 0 [41,2,2,2,2,2,2,2,0])) O4 Xe [] (Ws jU) ZX ZY Tryz.f45 [] [] (u:=true)
def Znr:=mk 22 Wz O4 Xe [] (Ws uq) ZX ZY Tryz.f22 [] [Zo2] (u:=true)
def ZpZ:=mk 6 .nl vh XH vh (λ_ a=>xn a.1 a.2.1 a.2.2.1 a.2.2.2.1 a.2.2.2.2.1 a.2.2.2.2.2.1 a.2.2.2.2.2.2.1) aX ZaG Tryz.f6 [] [ZcX,Znr,ZcY,Zc1,KO,ZdZ]
def Zd0:=mk 205 (a2 Qn .int) [] UU [] (WQ xm) ZX ZY Tryz.f205 [⟨0,[hi 0 Qn,hi 5 NJ,hi 7 .int]⟩,⟨2,[hi 6 NJ,hi 8 .int]⟩] []
def ZpT:=mk 132 oO [] UU [] (WQ fi) ZX ZY Tryz.f132 [⟨0,[hi 5 NJ,hi 6 .int]⟩] [Zd0]
def ZpQ:=mk 202 .nl [] (a1 By) [] (λ_ _=>fh) ZX ZY Tryz.f202 [] []
def ZpP:=mk 203 UU [] UU [] (X2 fg) ZX ZY Tryz.f203 [⟨0,[hi 3 NJ]⟩] [Zd0]
def ZpN:=mk 332 UU [] Gs [] (X2 fa) ZX ZY Tryz.f332 [⟨0,[hi 3 Qn,hi 4 .int]⟩] []
end
noncomputable section
def Zd2:=mk 286 (a2 Ux Ux) [] (a1 Ux) [] (WQ Nz) ZX ZY Tryz.f286 [] []
def ZpV:=mk 284 UU [] (a1 oM) [] (X2 pl) ZX ZY Tryz.f284 [⟨0,[hi 4 .int,hb 3 t0]⟩,⟨2,[hi 5 .int,hb 3 t0]⟩] [ZpN,Zd2]
def ZpO:=mk 285 .nl [] (a1 oM) [] (λ_ _=>fe) ZX ZY Tryz.f285 [] []
def ZpU:=mk 204 (a2 By Xn) [] (a1 By) [] (WQ fj) ZX ZY Tryz.f204 [⟨0,[hi 8 .int,hb 7 t1]⟩,⟨2,[hi 13 .int,hb 2 t1]⟩] [ZpO,Zd2,ZpV]
def ZpR:=mk 131 UU [] TA [] (X2 pj) ZX ZY Tryz.f131 [⟨0,[hi 5 .int,hb 3 t1]⟩,⟨2,[hi 7 .int,hb 6 t2]⟩] [ZpP,ZpQ,ZpU]
def ZpS:=mk 87 oO [] TA [] (WQ ZeM) ZX ZY Tryz.f87 [] [ZpR,ZpT]
def ZpW:=mk 51 UU [] TA [] (X2 fo) ZX ZY Tryz.f51 [] [ZpS]
def Zd1:=mk 15 (a2 Xn Xn) [] XH [] (WQ pi) ZX ZY Tryz.f15 [⟨0,[hi 5 .int]⟩] []
def ZpX:=mk 26 (a1 t257) [] XH [] (X2 pm) ZX ZY Tryz.f26 [⟨0,bk⟩,⟨2,[hi 5 .int]⟩] [Zd1,ZpW]
def ZpY:=mk 7 (a2 t273 .int) [] XH [] (WQ pn) ZX ZY Tryz.f7 [⟨0,[hi 5 t3,hi 6 .int]⟩] [ZpX] (sp:=[11,24,33,54])
def Zp0:=mk 8 .nl w9 (a1 t216) w9 (λ_ a=>po a.1 a.2.1 a.2.2.1 a.2.2.2.1 a.2.2.2.2.1) ZiW ZjB Tryz.f8 [] [Zc1,ZdZ]
def gG:=mk 3 (a1 t273) vh XH vh (λb a=>fp a.1 a.2.1 a.2.2.1 a.2.2.2.1 a.2.2.2.2.1 a.2.2.2.2.2.1 a.2.2.2.2.2.2.1 b.1) aX ZaG Tryz.f3 [⟨0,[hi 4 t256,hi 5 .int,hb 1000 t117,hb 1001 t156,hb 1002 t217,hb 1003 t218,hb 1004 t255,hb 1005 t99,hb 1006 t222,hb 19 t216]⟩,⟨2,[hi 4 t256,hi 8 .int,hb 1005 t99]⟩,⟨10076,[hi 4 t256]⟩] [ZcX,ZcY,qF,KO,ZdM,qL,Zd1,ZpY,ZpZ,Zp0]
end
end Go.R
