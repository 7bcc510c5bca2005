import Derived.Test.YtnboodbndkcnaaaGreatDoorG6
set_option linter.all false
namespace Go.Sl
def jx:=@decide_true
end Go.Sl
namespace Go.R
open Go.Sl
variable {l g:L Zt}{B i:Z5}{z:L Yz}{A:L Y6}{b:Nat->Nat}{C:L Xn}{o:Int->Int}{D:L WZ}{E:L YY}{j c d f y G:Nat}{s F:Int}{a:Yy}{e:Rx}{r:Int->Zt->Prop}{p:Y6}{x:Zt}{k:Yz}{H:Nj}{I:L Ux}{J:Type}
def Zj5{b}(a:b.length<=64)(c:x.length<=1000000):Lj (x,false) b=some (x++RC b,false):=by refine Vp (Zr ⟨Zp,λ_=>?_⟩);rw[be (kv Y Y)];exact Zb rfl
def Dm(c:0<=s)(h1:s<2147483648):SU (w4 (Yl 32 s)++x,false)=some ((x,false),s):=by
 have b:(Yl 32 s).toNat=s:=by rw[kY];omega
 refine Vp ?_;unfold SU;rw[be (zu _ _)];refine Zr ⟨λa=>?_,λ_=>Zb Xk⟩;·simp at a;have:=BitVec.le_def.1 a;grind
theorem ZnR(c:0<=s)(h1:s<=13):DK ([BitVec.ofNat 8 s.toNat]++x,false)=some ((x,false),s):=by refine Vp (W.Zs _ (uq (Q:=λa=>a=((x,false),s)) Zc λe d b=>Zp) λa rfl=>Zr ⟨Zp,λ_=>Zb rfl⟩)
def ZdT{l}(b:x.length<=64)(a:l.length<=4000000000):Ml (RC x++l,false)=some ((l,false),x):=by unfold Ml RC;rw[Yc,mC Y Y a,bs]
def Zem:Mm 1=some [0,1,2,6,7]:=by unfold Mm;rw[PX,XD]
def Zen:Mm 2=some [0,1,2,3,5]:=by unfold Mm;rw[Np Zc,Xp,PX,XD]
def rg(x:Int):Prop:=0<=x/\x<2147483648
def xU(m:Yy):Nat->Zt|0=>w4 (Yl 32 m.2.1)|1=>w4 (Yl 32 m.2.2.1)|2=>w4 (Yl 32 m.2.2.2.1)|3=>RC m.2.2.2.2.2.2.2.1|4=>RC m.2.2.2.2.2.2.2.2.1|_=>[]
def mU(m:Yy):Nat->Yy|0=>Mn 1|1=>(1,m.2.1,(Mn 1).2.2)|2=>(1,m.2.1,m.2.2.1,(Mn 1).2.2.2)|3=>(1,m.2.1,m.2.2.1,m.2.2.2.1,(Mn 1).2.2.2.2)|4=>(1,m.2.1,m.2.2.1,m.2.2.2.1,0,0,0,m.2.2.2.2.2.2.2.1,(Mn 1).2.2.2.2.2.2.2.2)|_=>(1,m.2.1,m.2.2.1,m.2.2.2.1,0,0,0,m.2.2.2.2.2.2.2.1,m.2.2.2.2.2.2.2.2.1,(Mn 1).2.2.2.2.2.2.2.2.2)
def ZcM{m}(l:m.1=1)(h1:rg m.2.1)(h2:rg m.2.2.1)(g:rg m.2.2.2.1)(h:m.2.2.2.2.2.2.2.1.length<=64)(i:m.2.2.2.2.2.2.2.2.1.length<=64):∃b,UP m=some (b,0)/\RY b=some (mU m 5,0)/\b.length<=1001:=by
 have f:∀a,(xU m a).length<=200:=λa=>by match a with|0|1|2=>simp[xU,UD]|3|4=>simp only[xU,zF];omega|_+5=>simp[xU]
 have j:∀(a:Nat)(c:Int),([0,1,2,6,7]:L Int)[a]?=some c->a=0/\c=0\/a=1/\c=1\/a=2/\c=2\/a=3/\c=6\/a=4/\c=7:=λa c d=>by match a with|0|1|2|3|4=>simp at d;omega|_+5=>simp at d
 refine⟨_,Zb5 (X:=xU m) Y Y (by rw[l];exact Zem) Zc Zc (λa c d e f=>?_) f,?_,?_⟩
 ·obtain⟨rfl,rfl⟩|⟨rfl,rfl⟩|⟨rfl,rfl⟩|⟨rfl,rfl⟩|⟨rfl,rfl⟩:=j a c d;·rw[ef0];exact Hh h1.1 h1.2 Y
  ·rw[ef1];exact Hh h2.1 h2.2 Y
  ·rw[ef2];exact Hh g.1 g.2 Y
  ·rw[ef6];exact Zj5 h Y
  ·rw[ef7];exact Zj5 i Y
 ·rw[l];refine Zb0 (M:=mU m) (k:=BitVec.ofInt 8 1) YI Zem Zc Zc rfl (λa=>?_) (λa c d e f=>?_) f;·match a with|0|1|2|3|4=>rfl|_+5=>rfl
  ·obtain⟨rfl,rfl⟩|⟨rfl,rfl⟩|⟨rfl,rfl⟩|⟨rfl,rfl⟩|⟨rfl,rfl⟩:=j a c d;·rw[df0];show O (SU (w4 (Yl 32 m.2.1)++e,false)) _=_;rw[Dm h1.1 h1.2,bs];rfl
   ·rw[df1];show O (SU (w4 (Yl 32 m.2.2.1)++e,false)) _=_;rw[Dm h2.1 h2.2,bs];rfl
   ·rw[df2];show O (SU (w4 (Yl 32 m.2.2.2.1)++e,false)) _=_;rw[Dm g.1 g.2,bs];rfl
   ·rw[df6];show O (Ml (RC m.2.2.2.2.2.2.2.1++e,false)) _=_;rw[ZdT h Y,bs];rfl
   ·rw[df7];show O (Ml (RC m.2.2.2.2.2.2.2.2.1++e,false)) _=_;rw[ZdT i Y,bs];rfl
 ·have:=zk f 5;rw[Wl];exact Nat.succ_le_succ this
def xA(m:Yy):Nat->Zt|0=>w4 (Yl 32 m.2.1)|1=>w4 (Yl 32 m.2.2.1)|2=>w4 (Yl 32 m.2.2.2.1)|3=>w4 (Yl 32 m.2.2.2.2.1)|4=>[BitVec.ofNat 8 m.2.2.2.2.2.2.1.toNat]|_=>[]
def mA(m:Yy):Nat->Yy|0=>Mn 2|1=>(2,m.2.1,(Mn 2).2.2)|2=>(2,m.2.1,m.2.2.1,(Mn 2).2.2.2)|3=>(2,m.2.1,m.2.2.1,m.2.2.2.1,(Mn 2).2.2.2.2)|4=>(2,m.2.1,m.2.2.1,m.2.2.2.1,m.2.2.2.2.1,(Mn 2).2.2.2.2.2)|_=>(2,m.2.1,m.2.2.1,m.2.2.2.1,m.2.2.2.2.1,0,m.2.2.2.2.2.2.1,(Mn 2).2.2.2.2.2.2.2)
def sV{m}(l:m.1=2)(h1:rg m.2.1)(h2:rg m.2.2.1)(g:rg m.2.2.2.1)(h:rg m.2.2.2.2.1)(i:0<=m.2.2.2.2.2.2.1/\m.2.2.2.2.2.2.1<=13):∃b,UP m=some (b,0)/\RY b=some (mA m 5,0)/\b.length<=1001:=by
 have f:∀a,(xA m a).length<=200:=λa=>by match a with|0|1|2|3=>simp[xA,UD]|4=>simp[xA]|_+5=>simp[xA]
 have j:∀(a:Nat)(c:Int),([0,1,2,3,5]:L Int)[a]?=some c->a=0/\c=0\/a=1/\c=1\/a=2/\c=2\/a=3/\c=3\/a=4/\c=5:=λa c d=>by match a with|0|1|2|3|4=>simp at d;omega|_+5=>simp at d
 refine⟨_,Zb5 (X:=xA m) Y Y (by rw[l];exact Zen) Zc Zc (λa c d e f=>?_) f,?_,?_⟩
 ·obtain⟨rfl,rfl⟩|⟨rfl,rfl⟩|⟨rfl,rfl⟩|⟨rfl,rfl⟩|⟨rfl,rfl⟩:=j a c d;·rw[ef0];exact Hh h1.1 h1.2 Y
  ·rw[ef1];exact Hh h2.1 h2.2 Y
  ·rw[ef2];exact Hh g.1 g.2 Y
  ·rw[ef3];exact Hh h.1 h.2 Y
  ·rw[ef5];exact ZoD i.1 i.2 Y
 ·rw[l];refine Zb0 (M:=mA m) (k:=BitVec.ofInt 8 2) YI Zen Zc Zc rfl (λa=>?_) (λa c d e f=>?_) f;·match a with|0|1|2|3|4=>rfl|_+5=>rfl
  ·obtain⟨rfl,rfl⟩|⟨rfl,rfl⟩|⟨rfl,rfl⟩|⟨rfl,rfl⟩|⟨rfl,rfl⟩:=j a c d;·rw[df0];show O (SU (w4 (Yl 32 m.2.1)++e,false)) _=_;rw[Dm h1.1 h1.2,bs];rfl
   ·rw[df1];show O (SU (w4 (Yl 32 m.2.2.1)++e,false)) _=_;rw[Dm h2.1 h2.2,bs];rfl
   ·rw[df2];show O (SU (w4 (Yl 32 m.2.2.2.1)++e,false)) _=_;rw[Dm g.1 g.2,bs];rfl
   ·rw[df3];show O (SU (w4 (Yl 32 m.2.2.2.2.1)++e,false)) _=_;rw[Dm h.1 h.2,bs];rfl
   ·rw[df5];show O (DK ([BitVec.ofNat 8 m.2.2.2.2.2.2.1.toNat]++e,false)) _=_;rw[ZnR i.1 i.2,bs];rfl
 ·have:=zk f 5;rw[Wl];exact Nat.succ_le_succ this
def NF(F:Int->Zt->Prop)(n:Nj)(bs:L Zt):Prop:=∀a c b,a∈n.1->a.2=some c->bs[c]?=some b->F a.1 b
def NF.mono{a}(h:NF r H l)(g:∀t b,r t b->a t b):NF a H l:=λc i b d e f=>g _ _ (h c i b d e f)
def NF.sub{n'}(h:NF r H l)(hs:∀f∈n'.1,f∈H.1):NF r n' l:=λf e a b c d=>h f e a (hs f b) c d
def NF.app(h:NF r H l)(j:NI H l):NF r H (l++g):=λb k f c d e=>by obtain⟨-,m,a,i⟩:=j.2.1 b c;rw[d]at a;cases a;rw[VE i]at e;exact h b k f c d e
def ZcF(h:NF r (nt B) l)(e:NI (nt B) l)(i:r s x):V (DR B l s x) λo=>NF r (nt o.1) o.2.1:=by
 refine V.Zs _ V.true λ_ _=>Z8.2 ⟨λ_=>ZD.2 h,λ_=>Th.2 λ_=>Th.2 λ_=>ZD.2 λa f g b c d=>?_⟩;obtain q|q:=ZY b;·exact h.app e a f g q c d
 ·have rfl:=YV q;simp_all
def Zb3{c}(h:NF r (nt c) l)(d:NI (nt c) l):V (za c s) λo=>NF r (nt o.1) l:=by
 refine(yT d).v.mono λo e=>?_;obtain⟨-,a,-⟩|⟨rfl,-⟩:=e;·rw[a];exact h.sub λf b=>yu b
 ·omega
def ZkU(h:NF r (nt B) l)(a:NI (nt B) l):V (oR B l s) λo=>NF r (nt o.1) o.2.1:=by
 refine V.Zs _ (j7 a).v λn j=>Z8.2 ⟨λm=>?_,λ_=>ZD.2 h⟩;obtain⟨p,-⟩|⟨-,-,g,k,b,c,-,d,e,f⟩:=j;·simp_all
 ·rw[f];exact V.Zs _ (ZcF h a (h g k b (X2 c) d e)) λo i=>ZD.2 i
def ZlU(h:NF r (nt B) l):V (vF B s F) λo=>NF r (nt o.1) l:=by
 refine V.Zs _ V.true λ_ _=>V.Zs _ V.true λ_ _=>Z8.2 ⟨λ_=>ZD.2 h,λ_=>N0.2 λ_=>Sx.2 (Ru.2 λ_ f c=>N0.2 λ_=>Sx.2 (Ru.2 λ_ g d=>N0.2 λ_=>N0.2 λ_=>ZD.2 (h.sub λe b=>?_)))⟩;obtain a|rfl:=yx b
 ·obtain a|rfl:=yx a;·exact a
  ·exact X2 c
 ·exact X2 d
def Df{F}{c}(h:NF F (nt c) l)(g:NI (nt c) l)(e:∀b,UP a=some (b,0)->F s b):V (Uh c l s a) λo=>NF F (nt o.1) o.2:=by refine V.Zs _ V.self λk f=>V.Zs _ (Z8.2 ⟨λd=>?_,λ_=>ZD.2 h⟩) λm j=>ZD.2 j;simp at d;exact V.Zs _ (ZcF h g (e _ (by rw[f,<-d]))) λo i=>ZD.2 i
def UQ(qb:Int->Int)(m:Yy):Prop:=(m.2.1=3\/m.2.1=4)/\m.2.2.2.1<=qb m.2.1/\(1<=m.2.2.2.2.2.2.2.1.length/\m.2.2.2.2.2.2.2.1.length<=32)/\m.2.2.2.2.2.2.2.2.1.length<=64
def FR(qb:Int->Int)(t:Int)(b:Zt):Prop:=∀a,RY b=some (a,0)->(a.1=1->UQ qb a)/\(a.1=2->a.2.2.2.2.2.2.1=0->1<=a.2.2.2.2.1)
def FR.mono{c}(j:∀i,o i<=c i)(h:FR o s x):FR c s x:=λb a=>⟨λg=>by have⟨d,e,f⟩:=(h b a).1 g;exact⟨d,jc e (j _),f⟩,(h b a).2⟩
def FR.of{m}(h1:m.1=1->(rg m.2.2.1/\rg m.2.2.2.1)/\UQ o m)(h2:m.1=2->(rg m.2.1/\rg m.2.2.1/\rg m.2.2.2.1/\rg m.2.2.2.2.1)/\(0<=m.2.2.2.2.2.2.1/\m.2.2.2.2.2.2.1<=13)/\(m.2.2.2.2.2.2.1=0->1<=m.2.2.2.2.1))(d:UP m=some (x,0)):FR o s x:=by
 have⟨r,t,l⟩:=Zb6 _ d rfl;subst l;intro p e;have q:p.1=m.1:=by rw[Zb1 _ e rfl,kY];omega
 refine⟨λn=>?_,λn=>?_⟩;·have⟨⟨f,g⟩,h,i,j,c⟩:=h1 Y;obtain⟨k,a,b,-⟩:=ZcM Y (by unfold rg;omega) f g Y c;rw[d]at a;cases a;rw[e]at b;cases b;exact⟨h,i,j,c⟩
 ·have⟨⟨f,g,h,i⟩,j,c⟩:=h2 Y;obtain⟨k,a,b,-⟩:=sV Y f g h i j;rw[d]at a;cases a;rw[e]at b;cases b;exact c
def FR.ot(h1:a.1≠1)(h2:a.1≠2)(c:UP a=some (x,0)):FR o s x:=FR.of Y (λb=>(h2 b).elim) c
def KO(m:Yy):Prop:=m.1≠1/\m.1≠2
def k0:(0:Int)≠1/\(0:Int)≠2:=Zc
def k3:(3:Int)≠1/\(3:Int)≠2:=Zc
def k4:(4:Int)≠1/\(4:Int)≠2:=Zc
def k5:(5:Int)≠1/\(5:Int)≠2:=Zc
def k6:(6:Int)≠1/\(6:Int)≠2:=Zc
def k7:(7:Int)≠1/\(7:Int)≠2:=Zc
def k8:(8:Int)≠1/\(8:Int)≠2:=Zc
def ZkP{s}{n}:V (lv s n x F) λo=>KO o.2.1:=by refine V.Zs _ V.true λ_ _=>Z8.2 ⟨λ_=>ZD.2 k0,λ_=>Z8.2 ⟨λ_=>ZD.2 k0,λ_=>Th.2 λ_=>?_⟩⟩;simp[Vx];repeat' first|exact k3|simp|simp
def Zxt{r}(h:KO a):V (uC r a x) λo=>KO o.2.1:=by refine V.Zs _ V.true λ_ _=>V.Zs _ V.true λ_ _=>V.Zs _ V.true λ_ _=>Z8.2 ⟨λ_=>ZD.2 h,λ_=>Z8.2 ⟨λ_=>ZD.2 h,λ_=>V.Zs _ V.true λ_ _=>Z8.2 ⟨λ_=>ZD.2 h,λ_=>V.Zs _ V.true λ_ _=>Z8.2 ⟨λ_=>ZD.2 h,λ_=>V.Zs _ V.true λ_ _=>V.Zs _ V.true λ_ _=>V.Zs _ V.true λ_ _=>V.Zs _ V.true λ_ _=>V.Zs _ V.true λ_ _=>Z8.2 ⟨λ_=>ZD.2 h,λ_=>ZD.2 h⟩⟩⟩⟩⟩
def ZkL{r}:V (mK r a) λo=>KO o.2.1:=by refine Z8.2 ⟨λ_=>ZD.2 k0,λ_=>?_⟩;repeat' first|refine V.Zs _ (Zxt k4) λc b=>ZD.2 b|simp
def Zma{r}:V (ux r s) λo=>KO o.2.1:=by refine V.Zs _ V.true λ_ _=>Z8.2 ⟨λ_=>ZD.2 k0,λ_=>L6.2 λ_=>V.Zs _ V.true λ_ _=>Z8.2 ⟨λ_=>ZD.2 k0,λ_=>V.Zs _ V.true λ_ _=>Z8.2 ⟨λ_=>ZD.2 k7,λ_=>V.Zs _ V.true λ_ _=>ZD.2 k6⟩⟩⟩
def Zot:V (D9 k s) λo=>KO o.2.1:=by refine V.Zs _ V.true λ_ _=>Z8.2 ⟨λ_=>ZD.2 k0,λ_=>V.Zs _ V.true λ_ _=>V.Zs _ V.true λ_ _=>ZD.2 k5⟩
def Zmi:V (zm k) λo=>KO o.2.1:=by refine V.Zs _ V.true λ_ _=>V.Zs _ V.true λ_ _=>Z8.2 ⟨λ_=>ZD.2 k0,λ_=>V.Zs _ V.true λ_ _=>V.Zs _ (V.lp (λb=>KO b.2) k8 λb a=>V.Zs _ V.true λ_ _=>Z8.2 ⟨λ_=>V.Zs _ V.true λ_ _=>Th.2 λ_=>ZD.2 a,λ_=>ZD.2 a⟩) λb a=>ZD.2 a⟩
def ZiZ{x}{l}(hx:KO x)(b:∀y∈l,KO y):V (vU a l x s) λo=>∀y∈o.2,KO y:=by
 refine V.Zs _ (Z8.2 ⟨λ_=>Th.2 λ_=>ZD.2 λy d=>?_,λ_=>ZD.2 b⟩) λe c=>ZD.2 c;obtain q|q:=ZY d;·exact b y q
 ·rw[YV q];exact hx
def ZlJ:V (FG k a) λo=>∀y∈o.2,KO y:=by refine Z8.2 ⟨λ_=>V.Zs _ (V.lp (λg=>∀y∈g.2.2.2,KO y) Zc λg b=>Z8.2 ⟨λ_=>V.Zs _ V.true λ_ _=>V.Zs _ (Z8.2 ⟨λ_=>V.Zs _ Zot λh c=>V.Zs _ (ZiZ c b) λi d=>ZD.2 d,λ_=>ZD.2 b⟩) λj e=>ZD.2 e,λ_=>ZD.2 b⟩) λg b=>ZD.2 b,λ_=>V.Zs _ (Z8.2 ⟨λ_=>V.Zs _ Zmi λh c=>V.Zs _ (ZiZ c λy f=>by cases f) λi d=>ZD.2 d,λ_=>ZD.2 λy f=>by cases f⟩) λj e=>ZD.2 e⟩
def ZcS:V (Dd B p C a) λr=>r.1=B/\r.2.1=p/\r.2.2.2.2.2.1=0/\(p.2.2.2.1=-1\/a.2.1≠0\/a.2.2.2.1≠p.2.2.2.2.1\/a.2.2.2.2.2.2.1≠0)\/(0<=p.2.2.2.1/\p.2.2.2.1≠-1)/\a.2.1=0/\a.2.2.2.1=p.2.2.2.2.1/\a.2.2.2.2.2.2.1=0/\∃y,(ud B)[p.2.2.2.1.toNat]?=some y/\r.1=wU B ((ud B).set p.2.2.2.1.toNat (y.1,y.2.1,y.2.2.1,a.2.2.2.2.1,y.2.2.2.2))/\r.2.1=(p.1,p.2.1,p.2.2.1,-1,p.2.2.2.2)/\r.2.2.2.2.2.1=a.2.2.2.2.1:=by
 unfold Dd;refine V.Zs (λe=>e=true↔p.2.2.2.1=-1\/a.2.1≠0) (by refine Z8.2 ⟨λb=>ZD.2 ?_,λb=>ZD.2 ?_⟩<;>simp only[Wx]at b⊢<;>simp[b]) λe j=>V.Zs (λf=>f=true↔p.2.2.2.1=-1\/a.2.1≠0\/a.2.2.2.1≠p.2.2.2.2.1) ?_ λf k=>V.Zs (λg=>g=true↔p.2.2.2.1=-1\/a.2.1≠0\/a.2.2.2.1≠p.2.2.2.2.1\/a.2.2.2.2.2.2.1≠0) ?_ λg h=>Z8.2 ⟨λc=>ZD.2 (.inl ⟨rfl,rfl,rfl,h.1 c⟩),λc=>?_⟩;·refine Z8.2 ⟨λb=>ZD.2<|by have:=j.1 b;simp only[true_iff];obtain w|w:=this<;>simp[w],λb=>ZD.2 Xk⟩
 ·refine Z8.2 ⟨λb=>ZD.2 (by have:=k.1 b;simp only[true_iff];obtain w|w|w:=this<;>simp[w]),λb=>ZD.2 Zp⟩
 ·have d:¬(p.2.2.2.1=-1\/a.2.1≠0\/a.2.2.2.1≠p.2.2.2.2.1\/a.2.2.2.2.2.2.1≠0):=λi=>by rw[h.2 i]at c;cases c
  refine N0.2 λl=>Sx.2 (Ru.2 λ_ y m=>EW.2 ⟨λ_=>BO.2 trivial,λo n=>V.Zs (λ_=>True) V.true λ_ _=>V.Zs (λ_=>True) V.true λ_ _=>ZD.2 (.inr<|⟨⟨l.1,λw=>d (.inl w)⟩,sc λw=>d (.inr (.inl w)),sc λw=>d (.inr (.inr (.inl w))),sc λw=>d (.inr (.inr (.inr w))),y,m,rfl,rfl,rfl⟩)⟩)
def vm(i s:Int)(l v:Zt):Yy:=(1,i,0,s,0,0,0,l,v,z0,([],[]),([],[]),zH,z1,[],[],[],[])
theorem i7(h:B.2.2.2.2.2.2.1.length=2):V (xC B s) λa=>a=none/\¬(0<=s/\s<2)\/∃k:Nat,s=k/\k<2/\B.2.2.2.2.2.2.1[k]?=some a:=by refine V.Zs (λc=>c=true↔¬(0<=s/\s<2)) (by refine Z8.2 ⟨λb=>ZD.2 ?_,λb=>ZD.2 ?_⟩<;>simp only[Wx]at b⊢<;>simp<;>omega) λc d=>Z8.2 ⟨λb=>ZD.2 (.inl ⟨rfl,d.1 b⟩),λb=>N0.2 λ_=>Sx.2 (Ru.2 λ_ a e=>ZD.2 (.inr ⟨s.toNat,Zp⟩))⟩
def Zex(a:B.2.2.2.2.2.1.length=2)(hi:0<=s/\s<2):Zm (Zv (Zm (Zv 1 (Zi (Zj B.2.2.2.2.2.1)))) s)=3+s:=by rw[show Zi _=2by grind];simp only[Wx];rw[ZK (n:=1+2) Zc,ZK Y];omega
def az{l:L J}{x y}:(l.set j x).set j y=l.set j y:=T6 _
def Zc3(q:B.2.2.2.2.2.1.length=2)(h2:B.2.2.2.2.2.2.1.length=2)(o:e.2.1=j)(y:j<2)(t:B.2.2.2.2.2.2.1[j]?=some (some c))(hx:A[c]?=some p)(hs:0<=p.2.2.2.2.1/\p.2.2.2.2.1<1000000):V (Jo B A C l e) λr=>(e.1=3->p.2.2.2.1≠-1->r=(B,A,C,l,13,XB))/\(e.1=3->p.2.2.2.1=-1->∃z,Uh (wU B (ud B++[((j:Int),p.2.2.2.2.1+1,B.2.1,0,e.2.2.2.2.1,e.2.2.2.2.2.1)])) l 0 (vm (3+j) (p.2.2.2.2.1+1) e.2.2.2.2.1 e.2.2.2.2.2.1)=some z/\r=(z.1,A.set c (p.1,p.2.1,p.2.2.1,(ud B).length,p.2.2.2.2.1+1,p.2.2.2.2.2),C,z.2,0,XB))/\(e.1=4->p.2.2.2.1=-1->r=(B,A,C,l,12,XB))/\(e.1=4->p.2.2.2.1≠-1->∃u z,0<=p.2.2.2.1/\(ud B)[p.2.2.2.1.toNat]?=some u/\Uh B l 0 (vm (3+j) u.2.1 u.2.2.2.2.1 u.2.2.2.2.2)=some z/\r=(z.1,A,C,z.2,0,XB))/\(e.1=5->∃z,De B p C l e=some z/\r=(z.1,A.set c z.2.1,z.2.2)):=by
 unfold Jo;refine V.Zs _ (i7 h2) λx s=>?_;obtain⟨w,m,-,n⟩:=s.resolve_left λi=>i.2 Y;have:w=j:=Y;subst this;rw[t]at n;cases n;have m:Zm (Zv p.2.2.2.2.1 1)=p.2.2.2.2.1+1:=by simp only[Wx];exact ZK Y
 rw[ko,gt hx];refine Z8.2 ⟨λh=>?_,λh=>Z8.2 ⟨λb=>?_,λb=>Z8.2 ⟨λd=>?_,λd=>?_⟩⟩⟩
 ·rw[ko,gt hx,gt hx];rw[Ur]at h;refine Z8.2 ⟨λb=>ZD.2 ⟨λ_ _=>rfl,λ_ a=>?_,λa=>Y,λa=>Y,λa=>Y⟩,λb=>?_⟩;·simp only[Wx]at b;exact(b a).elim
  simp only[Wx]at b;rw[ko,gt hx,gt hx,ko,gt hx,gt hx,ko,gt (X0 hx),gt (X0 hx),ko,gt (X0 (X0 hx)),gt (X0 (X0 hx))];refine Th.2 λ_=>Th.2 λ_=>Th.2 λ_=>?_;rw[ko,gt (X0 (X0 hx)),gt (X0 (X0 hx))];refine N0.2 λ_=>Sx.2 (Ru.2 λ_ k f=>V.Zs _ V.self λz g=>ZD.2 ⟨λ_ i=>(i b).elim,λ_ _=>⟨z,?_,?_⟩,λa=>Y,λa=>Y,λa=>Y⟩)
  ·have f:k=(e.2.1,Zm (Zv p.2.2.2.2.1 1),B.2.1,0,e.2.2.2.2.1,e.2.2.2.2.2.1):=by have f:(ud B++[(e.2.1,Zm (Zv p.2.2.2.2.1 1),B.2.1,0,e.2.2.2.2.1,e.2.2.2.2.2.1)])[(ud B).length]?=some k:=f;rw[MK (YA _),yF]at f;cases f;rfl
   subst f;rw[Zex q Y,o]at g;rwa[m]at g
  ·show(z.1,List.set (List.set A c _) c _,C,z.2,(0:Int),XB)=_;rw[az,m];rfl
 ·rw[ko,gt hx,gt hx];rw[Ur]at b;refine Z8.2 ⟨λd=>ZD.2 ⟨λa=>Y,λa=>Y,λ_ _=>rfl,λ_ a=>?_,λa=>Y⟩,λd=>?_⟩;·simp only[Wx]at d;exact(a d).elim
  simp only[Wx]at d;rw[ko,gt hx,gt hx];refine N0.2 λv=>Sx.2 (Ru.2 λ_ k f=>V.Zs _ V.self λz g=>ZD.2 ⟨λa=>Y,λa=>Y,λ_ i=>(d i).elim,λ_ _=>⟨k,z,v.1,f,?_,rfl⟩,λa=>Y⟩);rwa[Zex q Y,o]at g
 ·rw[ko,gt hx];rw[Ur]at d;exact V.Zs _ V.self λz g=>ZD.2 ⟨λa=>Y,λa=>Y,λa=>Y,λa=>Y,λ_=>⟨z,g,rfl⟩⟩
 ·rw[M9]at h b d;exactλr _=>⟨λa=>(h a).elim,λa=>(h a).elim,λa=>(b a).elim,λa=>(b a).elim,λa=>(d a).elim⟩
def Zmz(h2:B.2.2.2.2.2.2.1.length=2)(f:¬(0<=e.2.1/\e.2.1<2)):V (Jo B A C l e) λr=>r=(B,A,C,l,1,XB):=by
 refine V.Zs _ (i7 h2) λb a=>?_;obtain⟨rfl,-⟩|⟨g,c,d,-⟩:=a;·rw[Mq];exact ZD.2 rfl
 ·omega
def Bp(qb:Int->Int)(u:L Jt)(i:Nat)(x:Y6):Prop:=(0<=x.2.2.2.2.1/\x.2.2.2.2.1<=u.length)/\x.2.2.2.2.1=qb (3+(i:Int))/\(x.2.2.2.1=-1\/∃(b:Nat)(a:Jt),x.2.2.2.1=b/\u[b]?=some a/\a.2.1=x.2.2.2.2.1/\(1<=a.2.2.2.2.1.length/\a.2.2.2.2.1.length<=32)/\a.2.2.2.2.2.length<=64)
def PC(b:Nat->Nat)(qb:Int->Int)(c:Z5)(cs:L Y6):Prop:=b 0≠b 1/\(∀a,a<2->c.2.2.2.2.2.2.1[a]?=some (some (b a))/\∃d,cs[b a]?=some d/\Bp qb (ud c) a d)/\∀(f:Nat)(e:Jt),(ud c)[f]?=some e->1<=e.2.2.2.1\/∃(a:Nat)(d:Y6),a<2/\e.1=a/\cs[b a]?=some d/\d.2.2.2.1=f
def Bp.up{b}{u a:L Jt}(h:Bp o u j p)(r:b (3+j)=o (3+j))(q:u.length<=a.length)(k:∀(n:Nat)(y),u[n]?=some y->∃e,a[n]?=some (y.1,y.2.1,y.2.2.1,e,y.2.2.2.2)):Bp b a j p:=by have⟨l,m,i⟩:=h;refine⟨Y,Y,i.imp id λ⟨n,y,c,d,f⟩=>?_⟩;have⟨e,g⟩:=k n y d;exact⟨n,_,c,g,f⟩
def PC.put{q}{c}(h:PC b o B A)(hi:j<2)(hx:A[b j]?=some p)(x:i.2.2.2.2.2.2.1=B.2.2.2.2.2.2.1)(h':Bp q (ud i) j c)(C:∀i',i'≠j->q (3+i')=o (3+i'))(z:(ud B).length<=(ud i).length)(D:∀(n:Nat)(y),(ud B)[n]?=some y->∃e,(ud i)[n]?=some (y.1,y.2.1,y.2.2.1,e,y.2.2.2.2))(E:∀(n:Nat)(y),(ud i)[n]?=some y->1<=y.2.2.2.1\/y.1=j/\c.2.2.2.1=n\/(ud B)[n]?=some y/\(p.2.2.2.1=n->c.2.2.2.1=n)):PC b q i (A.set (b j) c):=by
 obtain⟨g,t,w⟩:=h;have u:∀i',i'<2->i'≠j->b j≠b i':=λi' F G e=>by
  obtain⟨rfl,rfl⟩|⟨rfl,rfl⟩:=(by omega:j=0/\i'=1\/j=1/\i'=0);·exact g e
  ·exact g e.symm
 refine⟨g,λi' k=>⟨by rw[x];exact(t i' k).1,?_⟩,λn y e=>?_⟩
 ·by_cases a:i'=j;·subst a;exact⟨c,X0 hx,h'⟩
  ·obtain⟨-,r,d,f⟩:=t i' k;exact⟨r,by rw[Ly (u i' k a)];exact d,f.up (C i' a) z D⟩
 ·obtain a|⟨l,m⟩|⟨l,m⟩:=E n y e;·exact .inl a
  ·exact .inr ⟨j,c,hi,l,X0 hx,m⟩
  ·refine(w n y l).imp id<|λ⟨i',r,d,f,s,v⟩=>?_;by_cases a:i'=j;·subst a;rw[hx]at s;cases s;exact⟨i',c,hi,f,X0 hx,m v⟩
   ·exact⟨i',r,d,f,by rw[Ly (u i' d a)];exact s,v⟩
def PC.same{a}(h:PC b o B A)(hi:j<2)(hx:A[b j]?=some p)(k:i.2.2.2.2.2.2.1=B.2.2.2.2.2.2.1)(e:ud i=ud B)(h1:a.2.2.2.1=p.2.2.2.1)(h2:a.2.2.2.2.1=p.2.2.2.2.1):PC b o i (A.set (b j) a):=by obtain⟨-,m,d,g⟩:=h.2.1 j hi;rw[hx]at d;cases d;refine h.put hi hx k ?_ (λ_ _=>rfl) Xk (λl f c=>⟨f.2.2.2.1,by rw[e];exact c⟩) λl f c=>.inr Xk;rw[e];unfold Bp;rw[h1,h2];exact g
def PC.eq(h:PC b o B A)(a:i.2.2.2.2.2.2.1=B.2.2.2.2.2.2.1)(c:ud i=ud B):PC b o i A:=by unfold PC at h⊢;rw[a,c];exact h
def RN(p:Yz):Prop:=∀a v,XJ a p.2.2.2.2.1=some v->1<=v.2/\v.2<=100
structure UX(J:Nat->Nat)(qb:Int->Int)(c:Z5)(cs:List Y6)(ps:List Yz)(bs:List Zt):Prop where
 nf:NF (FR qb) (nt c) bs
 cu:PC J qb c cs
 wi:∀j p,c.2.2.2.2.1=some j->ps[j]?=some p->(p.2.2.2.2.2.2=0->WI qb p)/\RN p
def zY(qb:Int->Int)(a:Int):Int->Int:=λb=>if b=a then qb b+1 else qb b
def ZaB(i):o i<=zY o s i:=by unfold zY;split<;>omega
def NF.q{a}(b:∀i,o i<=a i)(h:NF (FR o) H l):NF (FR a) H l:=h.mono λ_ _ c=>c.mono b
def FR.up{t s}{v}(hi:F=3\/F=4)(hs:0<=s/\s<1000000000)(e:s<=o F)(d:1<=x.length/\x.length<=32)(hv:v.length<=64){b}(c:UP (vm F s x v)=some (b,0)):FR o t b:=FR.of (λ_=>⟨⟨by show rg 0;unfold rg;omega,by show rg s;unfold rg;omega⟩,hi,e,d,hv⟩) (λa=>absurd (show(1:Int)=2from a) Zc) c
def Ah:V (Uh B l s a) λo=>∃n,o.1=wN B n:=by refine V.Zs _ V.true λ_ _=>V.Zs _ (Z8.2 ⟨λ_=>V.Zs _ (V.Zs _ V.true λ_ _=>Z8.2 ⟨λ_=>ZD.2 ⟨_,rfl⟩,λ_=>Th.2 λ_=>Th.2 λ_=>ZD.2 ⟨_,rfl⟩⟩) λc b=>ZD.2 b,λ_=>ZD.2 ⟨nt B,rfl⟩⟩) λc b=>ZD.2 b
def UX.TT(h:UX b o B A z l)(a:NF (FR o) H g):UX b o (wN B H) A z g:=⟨a,h.cu,h.wi⟩
def ZmB(h:UX b o B A z l)(s:NI (nt B) l)(hr:B.2.2.2.2.2.1.length=2)(h2:B.2.2.2.2.2.2.1.length=2)(hU:(ud B).length<=1000)(hk:e.1=3\/e.1=4\/e.1=5)(Z:e.1=3->(1<=e.2.2.2.2.1.length/\e.2.2.2.2.1.length<=32)/\e.2.2.2.2.2.1.length<=64):V (Jo B A C l e) λr=>∃t,(∀i,o i<=t i)/\UX b t r.1 r.2.1 z r.2.2.2.1:=by
 have G:∃t,(∀i,o i<=t i)/\UX b t B A z l:=⟨o,λ_=>HY _,h⟩;by_cases M:0<=e.2.1/\e.2.1<2
 ·obtain⟨j,W⟩:=Qt M.1;have w:j<2:=Y;obtain⟨S,g,E,c3,c4,T⟩:=h.cu.2.1 j w;refine(Zc3 hr h2 W w S E Y).mono λr⟨r1,r2,r3,r4,r5⟩=>?_;obtain hk|hk|hk:=hk
  ·by_cases m:g.2.2.2.1=-1
   ·obtain⟨O,P⟩:=Z hk;obtain⟨a,k,rfl⟩:=r2 hk m;obtain⟨f,D⟩:=Ah _ k;have N:zY o (3+(j:Int)) (3+(j:Int))=o (3+(j:Int))+1:=by unfold zY;rw[Y4 rfl]
    have v:=Df (F:=FR (zY o (3+(j:Int)))) (c:=wU B (ud B++[((j:Int),g.2.2.2.2.1+1,B.2.1,0,e.2.2.2.2.1,e.2.2.2.2.2.1)])) (h.nf.q ZaB) s (λI p=>FR.up Y Y (by rw[N];omega) O P p) a k;refine⟨_,ZaB,v,?_,?_⟩
    ·show PC b _ a.1 _;rw[D];refine h.cu.put w E rfl ?_ λi' q=>by unfold zY;rw[Ys Y] ?_ (λf u c=>⟨u.2.2.2.1,?_⟩) λf u c=>?_
     ·refine⟨?_,?_,.inr ⟨(ud B).length,((j:Int),g.2.2.2.2.1+1,B.2.1,0,e.2.2.2.2.1,e.2.2.2.2.2.1),rfl,?_,rfl,O,P⟩⟩;·show 0<=g.2.2.2.2.1+1/\g.2.2.2.2.1+1<=(((ud B++[_]).length:Nat):Int);rw[YM,VJ];omega
      ·show g.2.2.2.2.1+1=_;rw[N];omega
      ·show(ud B++[_])[_]?=_;rw[MK (YA _),yF];rfl
     ·show(ud B).length<=(ud B++[_]).length;simp
     ·show(ud B++[_])[f]?=_;rw[VE (X8 c).1];exact c
     ·have c:(ud B++[((j:Int),g.2.2.2.2.1+1,B.2.1,0,e.2.2.2.2.1,e.2.2.2.2.2.1)])[f]?=some u:=c;by_cases s:f<(ud B).length;·rw[VE s]at c;exact .inr (.inr ⟨c,λq=>Y⟩)
      ·have X:=(X8 c).1;rw[YM,VJ]at X;have:f=(ud B).length:=Y;subst this;rw[MK (YA _),yF]at c;cases c;exact .inr (.inl ⟨rfl,rfl⟩)
    ·intro n y d J;have d:a.1.2.2.2.2.1=some n:=d;rw[D]at d;exact⟨λU=>((h.wi n y d J).1 U).mono ZaB,(h.wi n y d J).2⟩
   ·rw[r1 hk m];exact G
  ·by_cases m:g.2.2.2.1=-1;·rw[r3 hk m];exact G
   ·obtain⟨x2,a,u0,Q,k,rfl⟩:=r4 hk m;obtain⟨f,u,y1,y2,y3,y4,y5⟩:=T.resolve_left m;rw[y1,WL,y2]at Q;cases Q;obtain⟨n',D⟩:=Ah _ k;have v:=Df (F:=FR o) h.nf s (λI p=>FR.up Y Y Y y4 y5 p) a k;refine⟨o,λ_=>HY _,?_⟩;show UX b o a.1 A z a.2;dsimp only at v;rw[D]at v⊢;exact h.TT v
  ·obtain⟨a,k,rfl⟩:=r5 hk;refine⟨o,λ_=>HY _,?_⟩;have x:V (De B g C l e) λr=>(∃f,r.1=wN B f)/\r.2.1.2.2.2=g.2.2.2/\NF (FR o) (nt r.1) r.2.2.2.1:=by unfold De;refine V.Zs (λ_=>True) V.true λ_ _=>Z8.2 ⟨λ_=>ZD.2 ⟨⟨nt B,rfl⟩,rfl,h.nf⟩,λ_=>EW.2 ⟨λ_=>BO.2 trivial,λx1 _=>V.Zs (λ_=>True) V.true λu _=>V.Zs _ ZkP λx0 K=>Z8.2 ⟨λ_=>ZD.2 ⟨⟨nt B,rfl⟩,rfl,h.nf⟩,λ_=>V.Zs _ (Ah.and (Df h.nf s λI p=>FR.ot K.1 K.2 p)) λa x=>ZD.2 ⟨x.1,rfl,x.2⟩⟩⟩⟩
   obtain⟨⟨f,H⟩,R,w3⟩:=x a k;refine⟨w3,by refine h.cu.same w E (by show a.1.2.2.2.2.2.2.1=_;rw[H];rfl) (by show ud a.1=_;rw[H];rfl) (by rw[R]) (by rw[R]),?_⟩;·intro n y d;have d:a.1.2.2.2.2.1=some n:=d;rw[H]at d;exact h.wi n y d
 ·exact(Zmz h2 M).mono λr c=>by rw[c];exact G
def ZlS:V (Hv k a) λo=>o.2.2=true->∃e r,o.2.1=PQ a e r/\(0<=r/\r<=13)/\(r=0->∃v,XJ a.2.1 k.2.2.2.2.1=some v/\e=v.2)/\(r≠0->e=0):=by
 have c:∀r:Int,0<r/\r<=13->∃d b,PQ a 0 r=PQ a d b/\(0<=b/\b<=13)/\(b=0->∃v,XJ a.2.1 k.2.2.2.2.1=some v/\d=v.2)/\(b≠0->d=0):=λr j=>⟨0,r,rfl,Y,λe=>Y,λ_=>rfl⟩;unfold Hv;simp only[be E0,Go.R.bs];refine Z8.2 ⟨λ_=>ZD.2 λe=>(by cases e),λ_=>V.Zs (λg=>g=true->∃v,XJ a.2.1 k.2.2.2.2.1=some v) (Z8.2 ⟨λf=>ZD.2 λ_=>Bb f,λ_=>ZD.2 λe=>by cases e⟩) λg i=>Z8.2 ⟨λf=>Z8.2 ⟨λ_=>ZD.2 λ_=>?_,λ_=>ZD.2 λ_=>c 11 YI⟩,λ_=>?_⟩⟩;·obtain⟨v,h⟩:=i f;exact⟨_,0,rfl,YI,λ_=>⟨v,h,by rw[h];rfl⟩,λe=>(e rfl).elim⟩
 ·refine V.Zs (λ_=>True) V.true λ_ _=>V.Zs (λ_=>True) V.true λ_ _=>Z8.2 ⟨λ_=>ZD.2 λ_=>c 1 YI,λ_=>BP.2 (V.Pk (λ_=>True) trivial λl _=>Z8.2 ⟨λ_=>N0.2 λ_=>V.Zs (λ_=>True) V.true λm _=>V.Zs (λ_=>True) V.true λ_ _=>Z8.2 ⟨λ_=>ZD.2 λe=>(by cases e),λ_=>Z8.2 ⟨λ_=>ZD.2 λ_=>c 13 YI,λ_=>ZD.2 trivial⟩⟩,λ_=>ZD.2 (V.Zs (λ_=>True) V.true λ_ _=>Z8.2 ⟨λ_=>ZD.2 λ_=>c 13 YI,λ_=>Th.2 λ_=>Th.2 λ_=>Th.2 λ_=>ZD.2 λe=>by cases e⟩)⟩)⟩
def ZcH:V (D8 k s) λo=>o.1.2.2=k.2.2:=by exact V.Zs _ V.true λ_ _=>Z8.2 ⟨λ_=>ZD.2 rfl,λ_=>V.Zs _ V.true λ_ _=>V.Zs _ V.true λ_ _=>ZD.2 rfl⟩
def Zd9:V (D9 k s) λo=>o.1.2.2=k.2.2:=by exact V.Zs _ ZcH λb a=>Z8.2 ⟨λ_=>ZD.2 a,λ_=>V.Zs _ V.true λ_ _=>V.Zs _ V.true λ_ _=>ZD.2 a⟩
def RN.JK{a:L Rf}{l}{e}(c:1<=e/\e<=100)(h:∀k v,XJ k a=some v->1<=v.2/\v.2<=100):∀k v,XJ k (JK a l e)=some v->1<=v.2/\v.2<=100:=λk v b=>by
 obtain⟨b,-,-,rfl⟩|w:=dA b;·omega
 ·exact h k v w
def ZlH{sd}{ds}(h:PI sd k)(a:RN k):V (NA k ds s) λo=>RN o.1:=by
 obtain⟨w,p,x,y,-,z,-⟩:=h;unfold NA;refine Z8.2 ⟨λ_=>ZD.2 a,λ_=>V.Zs (λ_=>True) V.true λ_ _=>V.Zs (λ_=>True) V.true λ_ _=>Z8.2 ⟨λ_=>ZD.2 a,λ_=>V.Zs (λ_=>True) V.true λ_ _=>Z8.2 ⟨λ_=>ZD.2 a,λ_=>?_⟩⟩⟩;have j:V (zn k ds s k.2.2.2.2.2.1) λo=>o.1.2=k.2:=by unfold zn;exact V.Zs (λ_=>True) V.true λ_ _=>Z8.2 ⟨λ_=>ZD.2 rfl,λ_=>V.Zs (λ_=>True) V.true λ_ _=>Z8.2 ⟨λ_=>ZD.2 rfl,λ_=>V.Zs (λ_=>True) V.true λ_ _=>ZD.2 rfl⟩⟩
 refine V.Zs _ j λo f=>Z8.2 ⟨λ_=>ZD.2 ?_,λ_=>?_⟩;·rw[f];exact a
 rw[f];refine V.Zs (λg=>RN g.1) ?_ λg e=>Z8.2 ⟨λ_=>ZD.2 e,λ_=>V.Zs (λ_=>True) V.true λ_ _=>V.Zs (λ_=>True) V.true λ_ _=>V.Zs _ Zd9 λc b=>Z8.2 ⟨λ_=>ZD.2 ?_,λ_=>Th.2 λ_=>ZD.2 ?_⟩⟩
 ·refine(cD (p:=(o.1.1,k.2.1,k.2.2.1,k.2.2.2.1,k.2.2.2.2.1,[],k.2.2.2.2.2.2)) (t:=s) (l:=k.2.2.2.2.2.1) p Zp (by show k.2.2.2.1.length<=_;omega) Y).v.mono λA n=>?_;obtain⟨t,c,-,-,-,-,q,r⟩:=n;by_cases b:c=0;·obtain⟨⟨u,d⟩,i⟩:=q b;have d:t.2.2.1=k.2.2.1.2.2.1++[u]:=d;have m:=WX List.length d;rw[YM,VJ]at m;rw[i];exact RN.JK Y a
  ·rw[(r b).2];exact a
 ·show RN c.1;unfold RN;rw[b];exact e
 ·show RN c.1;unfold RN;rw[b];exact e
def ZlK:V (FG k a) λo=>o.1.2.2=k.2.2:=by
 have b:∀{k:Yz},V (zm k) λo=>o.1.2.2=k.2.2:=λ{k}=>by exact V.Zs _ V.true λ_ _=>V.Zs _ ZcH λi g=>Z8.2 ⟨λ_=>ZD.2 g,λ_=>V.Zs _ V.true λ_ _=>V.Zs _ V.true λ_ _=>ZD.2 g⟩
 refine Z8.2 ⟨λ_=>V.Zs _ (V.lp (λf=>f.2.1.2.2=k.2.2) rfl λf c=>Z8.2 ⟨λ_=>V.Zs _ V.true λ_ _=>V.Zs _ (Z8.2 ⟨λ_=>V.Zs _ Zd9 λh b=>V.Zs _ V.true λ_ _=>ZD.2 (b.trans c),λ_=>ZD.2 c⟩) λe d=>ZD.2 d,λ_=>ZD.2 c⟩) λf c=>ZD.2 c,λ_=>V.Zs (λe=>e.1.2.2=k.2.2) (Z8.2 ⟨λ_=>V.Zs _ b λh b=>V.Zs _ V.true λ_ _=>ZD.2 b,λ_=>ZD.2 rfl⟩) λe d=>ZD.2 d⟩
def FR.PQ{r}(b:rg a.2.1/\rg a.2.2.1/\rg a.2.2.2.1)(g:RN k)(h:0<=r/\r<=13)(e:r=0->∃v,XJ a.2.1 k.2.2.2.2.1=some v/\F=v.2)(h1:r≠0->F=0)(f:UP (Go.R.PQ a F r)=some (x,0)):FR o s x:=by
 have c:rg F/\(r=0->1<=F):=by
  by_cases d:r=0;·obtain⟨v,i,rfl⟩:=e d;have:=g _ _ i;unfold rg;omega
  ·exact⟨by unfold rg;omega,Y⟩
 exact FR.of (m:=Go.R.PQ a F r) (λF=>absurd (show(2:Int)=1from F) Zc) (λ_=>⟨⟨b.2.1,b.1,b.2.2,c.1⟩,h,c.2⟩) f
def SN(F:Int->Zt->Prop)(c:Z5)(bs:L Zt)(c':Z5)(a:L Zt):Prop:=(∃b d,c'=wN c b/\a=bs++d/\NI b a)/\NF F (nt c') a/\∃e,(nt c').1=(nt c).1++e
def SN.refl(h:NF r (nt B) l)(a:NI (nt B) l):SN r B l B l:=⟨⟨nt B,[],rfl,Zc,a⟩,h,[],Zc⟩
def SN.ni(h:SN r B l i g):NI (nt i) g:=by obtain⟨⟨b,c,rfl,rfl,a⟩,-⟩:=h;exact a
def SN.trans{b}{a}(h:SN r B l i g)(k:SN r i g b a):SN r B l b a:=by obtain⟨⟨q,f,rfl,rfl,-⟩,-,m,o⟩:=h;obtain⟨⟨c,j,rfl,rfl,e⟩,d,n,p⟩:=k;exact⟨⟨c,f++j,rfl,Zc,e⟩,d,m++n,Xk⟩
def Zdt:V (Uh B l s a) λo=>∃y,(nt o.1).1=(nt B).1++y:=by have c:∃y,(nt B).1=(nt B).1++y:=⟨[],Zc⟩;refine V.Zs _ V.true λ_ _=>V.Zs _ (Z8.2 ⟨λ_=>V.Zs _ (V.Zs _ V.true λ_ _=>Z8.2 ⟨λ_=>ZD.2 c,λ_=>Th.2 λ_=>Th.2 λ_=>ZD.2 ⟨_,rfl⟩⟩) λd b=>ZD.2 b,λ_=>ZD.2 c⟩) λd b=>ZD.2 b
def Zdu(h:NF r (nt B) l)(c:NI (nt B) l)(g:0<=s)(f:MO a)(e:∀b,UP a=some (b,0)->r s b):V (Uh B l s a) λo=>SN r B l o.1 o.2:=((Jr c g f).v.and ((Df h c e).and Zdt)).mono λo d=>⟨d.1.1,d.2⟩
def Zip(h:NF r (nt B) l)(d:NI (nt B) l)(f:MO a)(e:∀b,UP a=some (b,0)->r a.2.2.1 b):V (RU B l a) λo=>SN r B l o.1 o.2:=by refine((xG d f).v.and (V.Zs _ V.true λb _=>V.Zs _ (Z8.2 ⟨λ_=>V.Zs _ ((Df h d e).and Zdt) λo c=>ZD.2 c,λ_=>ZD.2 ⟨h,[],Zc⟩⟩) λo c=>ZD.2 c)).mono λo c=>⟨c.1,c.2⟩
def Zin{bs}{l}(h:NF r (nt B) bs)(i:NI (nt B) bs)(g:∀m∈l,MO m)(f:∀m∈l,∀b,UP m=some (b,0)->r m.2.2.1 b):V (YE (λa=>Zf (ZC a.1 (Zi (Zj l))) (O (ZF l a.1) λk=>O (RU a.2.2 a.2.1 k) λe=>some (LR.next (Zm (Zv a.1 1),e.2,e.1))) (some (.brk a))) (0,bs,B)) λu=>SN r B bs u.2.2 u.2.1/\(l=[]->u.2=(bs,B)):=by refine V.lp _ ⟨SN.refl h i,λ_=>rfl⟩ λu d=>Z8.2 ⟨λo=>Sx.2 (Ru.2 λ_ m c=>?_),λ_=>ZD.2 d⟩;have c:=X2 c;refine V.Zs _ (Zip d.1.2.1 d.1.ni (g m c) (f m c)) λp j=>ZD.2 ⟨d.1.trans j,λn=>?_⟩;simp_all
def ZlT(h:a.1≠1):V (Hv k a) λo=>o.1=k/\o.2.2=false:=by unfold Hv;rw[Np h,show ZA _=true from rfl,XD];exact ZD.2 ⟨rfl,rfl⟩
noncomputable abbrev RL(l:L Yy)(s:Int×L Zt×Z5):Zg (Int×L Zt×Z5):=YE (λ(a:Int×L Zt×Z5)=>Zf (ZC a.1 (Zi (Zj l))) (O (ZF l a.1) λc=>O (RU a.2.2 a.2.1 c) λb=>some (LR.next (ρ:=Empty) (Zm (Zv a.1 1),b.2,b.1))) (some (.brk a))) s
def Zj3{bs}:V (IY B z bs a) λr=>(B.2.2.2.2.1=none/\r.2.1=z/\∃u,RL [] (0,bs,B)=some u/\r.1=u.2.2/\r.2.2=u.2.1)\/∃j p s v e d u,B.2.2.2.2.1=some j/\z[j]?=some p/\Hv p a=some s/\FG s.1 a=some v/\(s.2.2=true/\RU B bs s.2.1=some (e,d)\/s.2.2=false/\e=B/\d=bs)/\RL v.2 (0,d,e)=some u/\r=(u.2.2,z.set j v.1,u.2.1):=by
 have n:∀{B:Z5}{bs:L Zt}{a:Yy},V (RU B bs a) λb=>b.1.2.2.2.2.1=B.2.2.2.2.1:=λ{B bs a}=>by unfold RU;refine V.Zs (λ_=>True) V.true λw _=>V.Zs (λb=>b.2.1.2.2.2.2.1=B.2.2.2.2.1) (Z8.2 ⟨λ_=>V.Zs _ Ah λb g=>ZD.2 ?_,λ_=>ZD.2 rfl⟩) λb g=>ZD.2 g;obtain⟨x,m⟩:=g;show b.1.2.2.2.2.1=_;rw[m];rfl
 unfold IY;obtain c|⟨j,c⟩:=C9 B.2.2.2.2.1;·rw[Hc c,show nO a=some (_,false)from rfl,Go.R.bs,Xp,Go.R.bs];dsimp only;rw[Hc c,ZcG,Go.R.bs];exact V.Zs _ V.self λu i=>ZD.2 (.inl ⟨c,rfl,u,i,rfl,rfl⟩)
 ·rw[V1 c,V1 c];refine Sx.2 (Ru.2 λ_ p h=>V.Zs _ V.self λs o=>?_);rw[show(Zi j).toNat=j from WL j]at h;refine V.Zs (λb=>(s.2.2=true/\RU B bs s.2.1=some (b.2.1,b.1)\/s.2.2=false/\b.2.1=B/\b.1=bs)/\b.2.1.2.2.2.2.1=some j) (Z8.2 ⟨λf=>V.Zs _ (V.self.and n) λy k=>ZD.2 ⟨.inl ⟨f,k.1⟩,by rw[<-c];exact k.2⟩,λf=>ZD.2 ⟨.inr ⟨f,rfl,rfl⟩,c⟩⟩) λb⟨t,l⟩=>?_;rw[V1 l,V1 l,gt (X0 h)];refine V.Zs _ V.self λv q=>V.Zs _ V.self λu i=>ZD.2 (.inr ⟨j,p,s,v,b.2.1,b.1,u,c,h,o,q,t,i,?_⟩);show(u.2.2,List.set (List.set z j s.1) j v.1,u.2.1)=_;rw[az]
def UX.sn{c:Z5}(h:UX b o c A z l)(hs:SN (FR o) c l B g):UX b o B A z g:=by obtain⟨⟨d,e,rfl,-,-⟩,a,-⟩:=hs;exact h.TT a
def UX.ZgB(h:UX b o B A z l){a}(e:B.2.2.2.2.1=some j)(f:z[j]?=some k)(g:(a.2.2.2.2.2.2=0->WI o a)/\RN a):UX b o B A (z.set j a) l:=by refine⟨h.nf,h.cu,λi m c d=>?_⟩;rw[e]at c;cases c;rw[X0 f]at d;cases d;exact g
def ZAe(h:UX b o B A z l)(s:NI (nt B) l)(O:∀j p,B.2.2.2.2.1=some j->z[j]?=some p->PI S4 p)(f:Qi a)(D:a.1=1->UQ o a):V (IY B z l a) λr=>UX b o r.1 A r.2.1 r.2.2:=by
 refine Zj3.mono λr Q=>?_;obtain⟨-,Z,C,u1,u2,u3⟩|⟨j,p,c,v,M,K,C,q,t,u,y,d,R,rfl⟩:=Q;·rw[u2,u3,Z];exact h.sn ((Zin h.nf s Zc Zc) C u1).1
 obtain⟨n,k⟩:=h.wi j p q t;obtain⟨s1,s2,s3,s4,s5⟩:=(dR (O j p q t) f).v c u;have i:=ZlS c u;have x:SN (FR o) B l M K:=by
  obtain⟨N,e⟩|⟨-,rfl,rfl⟩:=d;·refine Zip h.nf s s4 (λJ g=>?_) _ e;obtain⟨e',r',T,U,W,X⟩:=i N;rw[T]at g;exact FR.PQ ⟨f.1,f.2.1,f.2.2.1⟩ k U W X g
  ·exact SN.refl h.nf s
 have E:(c.1.2.2.2.2.2.2=0->WI o c.1)/\RN c.1:=by
  by_cases d:a.1=1
  ·have P:c.1=p\/c.1=(p.1,p.2.1,p.2.2.1,p.2.2.2.1,p.2.2.2.2.1,p.2.2.2.2.2.1++[Lx a],p.2.2.2.2.2.2):=by
    obtain⟨-,e,-⟩|⟨-,-,⟨e,-⟩|e⟩:=s5 d;·exact .inl e
    ·exact .inl e
    ·exact .inr e
   obtain e|e:=P;·rw[e];exact⟨n,k⟩
   ·refine⟨λI=>⟨s3 (n (by rwa[e]at I)).1,λG m=>?_⟩,by rw[e];exact k⟩;have m:G∈c.1.2.2.2.2.2.1:=m;rw[e]at m;obtain w|w:=ZY m;·exact(n (by rwa[e]at I)).2 G w
    ·rw[YV w];exact⟨(D d).1,(D d).2.1⟩
  ·rw[(ZlT d c u).1];exact⟨n,k⟩
 have S:(v.1.2.2.2.2.2.2=0->WI o v.1)/\RN v.1:=by unfold WI BI RN at E⊢;rw[ZlK v y];exact E
 have i:=ZlJ v y;exact(h.ZgB q t S).sn (x.trans (Zin x.2.1 x.ni ((dQ s1 f).v v y).2.1 (λH F J g=>FR.ot (i H F).1 (i H F).2 g) C R).1)
def Zmn:V (Ae B p C D s a) λr=>(∃u,r.1=wL B u)/\r.2.1.2.2.2.1=p.2.2.2.1/\r.2.1.2.2.2.2.1=p.2.2.2.2.1:=by refine V.Zs _ V.true λ_ _=>EW.2 ⟨λ_=>BO.2 trivial,λe _=>V.Zs _ V.true λ_ _=>V.Zs _ V.true λd _=>Z8.2 ⟨λ_=>ZD.2 ⟨⟨lk B,rfl⟩,rfl,rfl⟩,λ_=>Th.2 λ_=>V.Zs (λb=>b.2.2.1.2.2.2.1=p.2.2.2.1/\b.2.2.1.2.2.2.2.1=p.2.2.2.2.1) (Z8.2 ⟨λ_=>V.Zs _ V.true λ_ _=>ZD.2 ⟨rfl,rfl⟩,λ_=>ZD.2 ⟨rfl,rfl⟩⟩) λb c=>EW.2 ⟨λ_=>BO.2 trivial,λ_ _=>V.Zs _ V.true λ_ _=>V.Zs _ V.true λ_ _=>ZD.2 ⟨⟨_,rfl⟩,c⟩⟩⟩⟩
def Zj2(h:PC b o B A)(h2:B.2.2.2.2.2.2.1.length=2):V (IX B A C D s a) λr=>r=(B,A,C,D,0,XB)/\(a.1≠2/\a.1≠4\/¬(0<=s/\s<2))\/∃(k:Nat)(x:Y6),s=k/\k<2/\A[b k]?=some x/\((a.1=2/\∃q,Dd B x C a=some q/\r=(q.1,A.set (b k) q.2.1,q.2.2.1,D,q.2.2.2))\/a.1=4/\∃q,Ae B x C D s a=some q/\r=(q.1,A.set (b k) q.2.1,q.2.2)):=by
 unfold IX;refine V.Zs _ (i7 h2) λm e=>?_;obtain⟨rfl,d⟩|⟨k,d,f,e⟩:=e;·rw[Mq];exact ZD.2 (.inl ⟨rfl,.inr d⟩)
 ·obtain⟨i,x,c,-⟩:=h.2.1 k f;rw[e]at i;cases i;rw[ko,gt c];refine Z8.2 ⟨λj=>?_,λj=>Z8.2 ⟨λl=>?_,λl=>ZD.2 (.inl ⟨rfl,Xk⟩)⟩⟩;·rw[ko,gt c];exact V.Zs _ V.self λq g=>ZD.2 (.inr ⟨k,x,d,f,c,.inl ⟨by rwa[Ur]at j,q,g,rfl⟩⟩)
  ·rw[ko,gt c];exact V.Zs _ V.self λq g=>ZD.2 (.inr ⟨k,x,d,f,c,.inr ⟨by rwa[Ur]at l,q,g,rfl⟩⟩)
def ZwD(h:NF r (nt B) l)(e:NI (nt B) l)(d:∀b,UP a=some (b,0)->r a.2.2.1 b):V (RU B l a) λo=>(∃n,o.1=wN B n)/\NF r (nt o.1) o.2:=by refine V.Zs _ V.true λb _=>V.Zs _ (Z8.2 ⟨λ_=>V.Zs _ (Ah.and (Df h e d)) λo c=>ZD.2 c,λ_=>ZD.2 ⟨⟨nt B,rfl⟩,h⟩⟩) λo c=>ZD.2 c
def ZAi{F}{r}{ds}(h:NF F (nt B) l)(i:NI (nt B) l)(e:∀a b,KO a->UP a=some (b,0)->F a.2.2.1 b):V (qp B r ds l a) λo=>(∃n,o.1=wN B n)/\NF F (nt o.1) o.2.2.2/\(a.1≠3->o.1=B/\o.2.2.2=l):=by refine Z8.2 ⟨λd=>V.Zs _ ZkL λk f=>V.Zs (λo=>(∃n,o.2.1=wN B n)/\NF F (nt o.2.1) o.1) (Z8.2 ⟨λ_=>V.Zs _ (ZwD h i λb g=>e _ b f g) λo c=>ZD.2 c,λ_=>ZD.2 ⟨⟨nt B,rfl⟩,h⟩⟩) λo c=>ZD.2 ⟨c.1,c.2,λj=>(j (by rwa[Ur]at d)).elim⟩,λ_=>V.Zs _ V.true λ_ _=>ZD.2 ⟨⟨nt B,rfl⟩,h,Zc⟩⟩
def ZAg{bs}(h:NF r (nt B) bs):V (qq B bs a) λo=>o=(B,bs):=by refine Z8.2 ⟨λ_=>V.Zs (λb=>b.2=false) (ZD.2 rfl) λb c=>?_,λ_=>V.Zs _ V.true λ_ _=>ZD.2 rfl⟩;rw[c,Xp,Go.R.bs];exact ZD.2 rfl
def gK{F}{ds}(L:NF F (nt B) l)(S:NI (nt B) l)(hr:B.2.2.2.2.2.1.length=2)(Z:∀m b,KO m->UP m=some (b,0)->F m.2.2.1 b):V (Jp B ds E A C D z l s) λr=>¬(0<=s/\s<(nt B).1.length)/\r=(B,ds,E,A,C,D,z,l,12,XB)\/∃f b e,(0<=s/\s<(nt B).1.length)/\(nt B).1[s.toNat]?=some f/\(∃j,f.2=some j/\l[j]?=some b)/\e=wN B ((nt B).1.eraseIdx s.toNat,(nt B).2)/\(r=(e,ds,E,A,C,D,z,l,0,XB)/\(∀m,RY b≠some (m,0))\/∃m,RY b=some (m,0)/\Qi m/\((f.1=0/\∃q,IY e z l m=some q/\r=(q.1,ds,E,A,C,D,q.2.1,q.2.2,0,XB))\/(f.1≠0/\f.1<=2/\∃a h k c,r=(a,h,k,A,C,D,z,c,0,XB)/\(∃n,a=wN B n)/\NF F (nt a) c/\(m.1≠3->a=e/\c=l))\/2<f.1/\∃q,IX e A C D (Zm (ZX (Zm (ZX f.1 1)) 2)) m=some q/\r=(q.1,ds,E,q.2.1,q.2.2.1,q.2.2.2.1,z,l,q.2.2.2.2))):=by
 unfold Jp;refine V.Zs _ (ZcK (i:=s) S).v λg N=>?_;obtain⟨T,N⟩:=N;obtain⟨O,o,P⟩|⟨O,o,P,y,f,j,b,G,t7,H,t,x1⟩:=N;·rw[O,T,o];exact Z8.2 ⟨λ_=>ZD.2 (.inl ⟨P,rfl⟩),λi=>by cases i⟩
 have M:NF F (nt g.1) l:=by rw[o];exact L.sub λf L=>yu L
 have x2:g.1.2.2.2.2.2.1.length=2:=by rw[o];exact hr
 rw[O,T,x1];refine Z8.2 ⟨λi=>(by cases i),λ_=>V.Zs _ (V.self.and (Zb2 (b:=b) (by have:=S.2.2 b (X2 t);omega)).v) λm p=>Z8.2 ⟨λX=>ZD.2 (.inr ⟨f,b,g.1,y,G,⟨j,H,t⟩,o,.inl ⟨rfl,λm' w=>?_⟩⟩),λi=>?_⟩⟩;·rw[p.1]at w;cases w;simp only[Wx]at X
 have x:m.2=0:=by simpa only[Wx]using i
 have K:RY b=some (m.1,0):=by rw[p.1,<-x]
 have he:Zi (Zj g.1.2.2.2.2.2.1)=2:=by simp only[Wx];omega
 rw[he];refine Z8.2 ⟨λi=>V.Zs _ V.self λq d=>ZD.2 (.inr ⟨f,b,g.1,y,G,⟨j,H,t⟩,o,.inr ⟨m.1,K,p.2 x,.inl ⟨by rwa[Ur]at i,q,d,rfl⟩⟩⟩),λi=>Z8.2 ⟨λJ=>?_,λJ=>V.Zs _ V.self λq d=>ZD.2 (.inr ⟨f,b,g.1,y,G,⟨j,H,t⟩,o,.inr ⟨m.1,K,p.2 x,.inr (.inr ⟨by simpa only[Wx]using J,q,d,rfl⟩)⟩⟩)⟩⟩
 ·have Q:∀{a h k c},(∃n,a=wN g.1 n)/\NF F (nt a) c/\(m.1.1≠3->a=g.1/\c=l)->¬(0<=s/\s<(nt B).1.length)/\(a,h,k,A,C,D,z,c,(0:Int),XB)=(B,ds,E,A,C,D,z,l,12,XB)\/∃f b e,(0<=s/\s<(nt B).1.length)/\(nt B).1[s.toNat]?=some f/\(∃j,f.2=some j/\l[j]?=some b)/\e=wN B ((nt B).1.eraseIdx s.toNat,(nt B).2)/\((a,h,k,A,C,D,z,c,(0:Int),XB)=(e,ds,E,A,C,D,z,l,0,XB)/\(∀m,RY b≠some (m,0))\/∃m,RY b=some (m,0)/\Qi m/\((f.1=0/\∃q,IY e z l m=some q/\(a,h,k,A,C,D,z,c,(0:Int),XB)=(q.1,ds,E,A,C,D,q.2.1,q.2.2,0,XB))\/(f.1≠0/\f.1<=2/\∃u W x0 I,(a,h,k,A,C,D,z,c,(0:Int),XB)=(u,W,x0,A,C,D,z,I,0,XB)/\(∃n,u=wN B n)/\NF F (nt u) I/\(m.1≠3->u=e/\I=l))\/2<f.1/\∃q,IX e A C D (Zm (ZX (Zm (ZX f.1 1)) 2)) m=some q/\(a,h,k,A,C,D,z,c,(0:Int),XB)=(q.1,ds,E,q.2.1,q.2.2.1,q.2.2.2.1,z,l,q.2.2.2.2))):=λ{a h k c}d=>.inr ⟨f,b,g.1,y,G,⟨j,H,t⟩,o,.inr ⟨m.1,K,p.2 x,.inr (.inl ⟨by rwa[M9]at i,by simpa only[Wx]using J,a,h,k,c,rfl,by obtain⟨⟨n,w⟩,-⟩:=d;exact⟨n,by rw[w,o];rfl⟩,d.2⟩)⟩⟩;refine N0.2 λ_=>Sx.2 (Ru.2 λ_ U ha=>?_);obtain rfl|⟨j2,R⟩:=C9 U;·rw[Hc rfl];exact V.Zs _ (ZAg M) λq d=>ZD.2 (Q ⟨⟨nt g.1,by rw[d];rfl⟩,by rw[d];exact M,λ_=>by rw[d];exact⟨rfl,rfl⟩⟩)
  ·rw[V1 R,V1 R];exact V.Zs (λ_=>True) V.true λr2 _=>V.Zs _ (ZAi M P Z) λq d=>ZD.2 (Q d)
def Zmd(h:PC b o B A)(i:j<2)(hx:A[b j]?=some p)(q:a.1=2->a.2.2.2.2.2.2.1=0->1<=a.2.2.2.2.1)(h2:a.1=2):V (Dd B p C a) λr=>PC b o r.1 (A.set (b j) r.2.1)/\∃u,r.1=wU B u:=by
 refine ZcS.mono λr t=>?_;obtain⟨k,l,-⟩|⟨⟨z,D⟩,-,-,w,g,v,k,l,-⟩:=t;·rw[k,l];exact⟨h.same i hx rfl rfl rfl rfl,ud B,rfl⟩
 ·rw[k,l];obtain⟨-,y,c,m⟩:=h.2.1 j i;rw[hx]at c;cases c;have n:=(X8 v).1;have s:∀(e:Nat)(d:Jt),(ud B)[e]?=some d->∃c,((ud B).set p.2.2.2.1.toNat (g.1,g.2.1,g.2.2.1,a.2.2.2.2.1,g.2.2.2.2))[e]?=some (d.1,d.2.1,d.2.2.1,c,d.2.2.2.2):=λe d c=>by
   by_cases f:p.2.2.2.1.toNat=e;·simp_all
   ·exact⟨d.2.2.2.1,by rw[Ly f];exact c⟩
  refine⟨h.put i hx rfl ⟨?_,m.2.1,.inl rfl⟩ (λ_ _=>rfl) ?_ s λe d c=>?_,_,rfl⟩;·have:=m.1;show 0<=p.2.2.2.2.1/\p.2.2.2.2.1<=(((ud B).set _ _).length:Nat);rw[Pz];exact this
  ·show(ud B).length<=((ud B).set _ _).length;rw[Pz];exact YA _
  ·have c:((ud B).set p.2.2.2.1.toNat _)[e]?=some d:=c;by_cases f:p.2.2.2.1.toNat=e;·subst f;rw[su n]at c;cases c;exact .inl (q h2 w)
   ·rw[Ly f]at c;exact .inr (.inr ⟨c,λx=>Y⟩)
def ZAb(h:UX b o B A z l)(h2:B.2.2.2.2.2.2.1.length=2)(n:a.1=2->a.2.2.2.2.2.2.1=0->1<=a.2.2.2.2.1):V (IX B A C D s a) λr=>UX b o r.1 r.2.1 z l:=by
 refine(Zj2 h.cu h2).mono λr q=>?_;obtain⟨rfl,-⟩|⟨v,w,-,k,m,⟨p,j,f,rfl⟩|⟨-,j,f,rfl⟩⟩:=q;·exact h
 ·have⟨c,u,e⟩:=Zmd h.cu k m n p j f;refine⟨by rw[e];exact h.nf,c,?_⟩;·intro g i d;rw[e]at d;exact h.wi g i d
 ·have⟨⟨u,c⟩,e,t⟩:=Zmn j f;refine⟨by rw[c];exact h.nf,h.cu.same k m (by rw[c];rfl) (by rw[c];rfl) e t,?_⟩;·intro g i d;rw[c]at d;exact h.wi g i d
def ZnP{ds}(h:UX b o B A z l)(e:NI (nt B) l)(x:B.2.2.2.2.2.1.length=2)(h2:B.2.2.2.2.2.2.1.length=2)(t:∀j p,B.2.2.2.2.1=some j->z[j]?=some p->PI S4 p):V (Jp B ds E A C D z l s) λr=>UX b o r.1 r.2.2.2.1 r.2.2.2.2.2.2.1 r.2.2.2.2.2.2.2.1:=by
 refine(gK h.nf e x λf i m u=>FR.ot m.1 m.2 u).mono λr a=>?_;obtain⟨-,rfl⟩|⟨d,i,I,M,q,⟨j,F,G⟩,rfl,a⟩:=a;·omega
 have c:=h.nf d j i (X2 q) F G;have y:NF _ ((nt B).1.eraseIdx s.toNat,(nt B).2) _:=h.nf.sub λd c=>yu c;have n:=h.TT y;obtain⟨rfl,-⟩|⟨f,k,v,⟨-,g,a,rfl⟩|⟨-,-,J,K,O,H,rfl,⟨N,rfl⟩,w,-⟩|⟨-,g,a,rfl⟩⟩:=a;·omega
 ·exact ZAe n ⟨WB (List.length_eraseIdx_le ..) e.1,λd c=>e.2.1 d (yu c),e.2.2⟩ t v (c f k).1 g a
 ·exact h.TT w
 ·exact ZAb n h2 (c f k).2 g a
def Zxn{bs}{l}{A:Z5->L Zt->Zg J}{Q}(h:NF r (nt B) bs)(hn:NI (nt B) bs)(hr:B.2.2.2.2.2.1.length=2)(hl:l.length<=100)(K:∀m∈l,MO m)(M:∀m∈l,m.1=2->0<=m.2.2.1/\∀b,UP m=some (b,0)->r m.2.2.1 b)(hE:∀m∈l,m.1≠2->∀t b,1<=t/\t<=2->UP (m.1,m.2.1,t,m.2.2.2)=some (b,0)->r t b)(hk:∀c' d,SN r B bs c' d->(∀a i,l=a::i->a.1=2->∃z,Uh B bs a.2.2.1 a=some z/\SN r z.1 z.2 c' d)->V (A c' d) Q):V (X4 (X3 (λf=>Zf (ZC f.1 (Zi (Zj l))) (O (ZF l f.1) λE=>Zf (Zw E.1 2) (O (Uh f.2.2 f.2.1 E.2.2.1 E) λU=>some (.next (Zm (Zv f.1 1),U.2,U.1))) (O (YE (λ(c:Int×L Zt×Z5×Yy)=>Zf (ZC c.1 (Zi (Zj f.2.2.2.2.2.2.2.1))) (O (Uh c.2.2.1 c.2.1 (Zm (Zv c.1 1)) (c.2.2.2.1,c.2.2.2.2.1,Zm (Zv c.1 1),c.2.2.2.2.2.2)) λW=>some (.next (Zm (Zv c.1 1),W.2,W.1,c.2.2.2.1,c.2.2.2.2.1,Zm (Zv c.1 1),c.2.2.2.2.2.2))) (some (.brk c))) (0,f.2.1,f.2.2,E)) λX=>some (.next (Zm (Zv f.1 1),X.2.1,X.2.2.1)))) (some (.brk f))) (0,bs,B)) λZ=>A Z.2.2 Z.2.1) Q:=by
 have x1:∀{c' d},SN r B bs c' d->c'.2.2.2.2.2.1.length=2:=λ{c' d}h=>by obtain⟨⟨x4,x5,x0,-⟩,-⟩:=h;rw[x0];exact hr
 refine BP.2 (V.Pk (λp=>∃j:Nat,p.1=j/\j<=l.length/\SN r B bs p.2.2 p.2.1/\(j=0/\p.2=(bs,B)\/1<=j/\∀a i,l=a::i->a.1=2->∃z,Uh B bs a.2.2.1 a=some z/\SN r z.1 z.2 p.2.2 p.2.1)) ⟨0,rfl,Y,SN.refl h hn,.inl ⟨rfl,rfl⟩⟩ λ⟨u1,G,D⟩⟨j,H,e2,g,e⟩=>?_);dsimp only at H g e;subst H;refine Z8.2 ⟨λx=>Sx.2 (Ru.2 λ_ m o=>?_),λx=>ZD.2 (hk _ _ g λa i q=>?_)⟩
 ·simp only[Wx]at x;have x3:=o;have s:=X2 o;dsimp only at o;rw[WL]at o;have N:∀{c' d},SN r D G c' d->(j=0->m.1=2->∃z,Uh B bs m.2.2.1 m=some z/\SN r z.1 z.2 c' d)->∀a i,l=a::i->a.1=2->∃z,Uh B bs a.2.2.1 a=some z/\SN r z.1 z.2 c' d:=λ{c' d}k1 k2 a i q y=>by
   obtain⟨rfl,-⟩|⟨-,e⟩:=e;·rw[q]at o;cases o;exact k2 rfl y
   ·obtain⟨z,z1,z2⟩:=e a i q y;exact⟨z,z1,z2.trans k1⟩
  refine Z8.2 ⟨λk=>?_,λk=>?_⟩
  ·rw[Ur]at k;refine V.Zs _ ((Zdu g.2.1 g.ni (M m s k).1 (K m s) (M m s k).2).and V.self) λz n=>ZD.2 ⟨j+1,wS Y,Y,g.trans n.1,.inr ⟨Y,N n.1 λi0 _=>⟨z,?_,SN.refl n.1.2.1 n.1.ni⟩⟩⟩;obtain⟨-,e⟩|⟨e,-⟩:=e;·cases e;exact n.2
   ·omega
  ·rw[M9]at k;refine V.Zs (λv=>SN r D G v.2.2.1 v.2.1) (V.lp (λv=>∃u:Nat,v.1=u/\SN r D G v.2.2.1 v.2.1/\MO v.2.2.2/\v.2.2.2.1=m.1/\v.2.2.2.2.1=m.2.1/\v.2.2.2.2.2.2=m.2.2.2) ⟨0,rfl,SN.refl g.2.1 g.ni,K m s,rfl,rfl,rfl⟩ λv C=>?_) λv C=>ZD.2 ⟨j+1,wS Y,Y,g.trans C,.inr ⟨Y,N C λ_ x2=>(k x2).elim⟩⟩;obtain⟨v1,v2,v3,v4,v5,v6,v7⟩:=v;obtain⟨u,P,w,F,R,S,T⟩:=C;dsimp only at P w F R S T;subst P R S T;refine Z8.2 ⟨λI=>?_,λ_=>ZD.2 w⟩;have I:(u:Int)<2:=by have:ZC (u:Int) (Zi D.2.2.2.2.2.1.length)=true:=I;rw[x1 g]at this;simp only[Wx]at this;omega
   dsimp only;rw[wS Y];exact V.Zs _ (Zdu w.2.1 w.ni Y (BC F _ _ _) λb hb=>hE m s k _ _ Y hb) λz n=>ZD.2 ⟨u+1,rfl,w.trans n,BC F _ _ _,rfl,rfl,rfl⟩
 ·intro y;obtain⟨rfl,-⟩|⟨-,e⟩:=e;·rw[q]at x;simp only[Wx,Wl]at x;omega
  ·exact e a i q y
def SM(F:Int->Zt->Prop)(l:L Yy):Prop:=l.length<=100/\∀a∈l,MO a/\(a.1=2->0<=a.2.2.1/\∀b,UP a=some (b,0)->F a.2.2.1 b)/\(a.1≠2->∀c b,1<=c/\c<=2->UP (a.1,a.2.1,c,a.2.2.2)=some (b,0)->F c b)
def SR(F:Int->Zt->Prop)(c:Z5)(ds:L Yb)(ps:L Yz)(bs:L Zt)(j:Nat)(p:Yz)(t:Int)(r:Z5×L Yb×L Yz×L Zt×OG):Prop:=∃a,NA p ds t=some a/\(a.2.2.2≠0/\r=(c,a.2.1,ps.set j a.1,bs,a.2.2.2,XB)\/a.2.2.2=0/\∃e d,r=(e,a.2.1,ps.set j a.1,d,0,XB)/\SN F (SD c (sl c++[c.2.1])) bs e d/\∀b g,a.2.2.1=b::g->b.1=2->∃f,Uh (SD c (sl c++[c.2.1])) bs b.2.2.1 b=some f/\SN F f.1 f.2 e d)
def ZiV{ds:L Yb}{ps:L Yz}{j:Nat}{p:Yz}{t:Int}(h:NF r (nt B) l)(y:NI (nt B) l)(z:B.2.2.2.2.2.1.length=2)(x:∀s,NA p ds t=some s->s.2.2.2=0->SM r s.2.2.1):V (O (NA p ds t) λc=>Zf (ZA (Zw c.2.2.2 0)) (some (B,c.2.1,Xc ps j c.1,l,c.2.2.2,XB)) (Yt (Zj B.2.2.2.2.2.2.2.2.2.2.2) (Zj [B.2.1]) (X4 (X3 (λb=>Zf (ZC b.1 (Zi (Zj c.2.2.1))) (O (ZF c.2.2.1 b.1) λf=>Zf (Zw f.1 2) (O (Uh b.2.2 b.2.1 f.2.2.1 f) λm=>some (.next (Zm (Zv b.1 1),m.2,m.1))) (O (YE (λ(a:Int×L Zt×Z5×Yy)=>Zf (ZC a.1 (Zi (Zj b.2.2.2.2.2.2.2.1))) (O (Uh a.2.2.1 a.2.1 (Zm (Zv a.1 1)) (a.2.2.2.1,a.2.2.2.2.1,Zm (Zv a.1 1),a.2.2.2.2.2.2)) λn=>some (.next (Zm (Zv a.1 1),n.2,n.1,a.2.2.2.1,a.2.2.2.2.1,Zm (Zv a.1 1),a.2.2.2.2.2.2))) (some (.brk a))) (0,b.2.1,b.2.2,f)) λo=>some (.next (Zm (Zv b.1 1),o.2.1,o.2.2.1)))) (some (.brk b))) (0,l,B.1,B.2.1,B.2.2.1,B.2.2.2.1,B.2.2.2.2.1,B.2.2.2.2.2.1,B.2.2.2.2.2.2.1,B.2.2.2.2.2.2.2.1,B.2.2.2.2.2.2.2.2.1,B.2.2.2.2.2.2.2.2.2.1,B.2.2.2.2.2.2.2.2.2.2.1,Ye B.2.2.2.2.2.2.2.2.2.2.2 [B.2.1])) λq=>some (q.2.2,c.2.1,Xc ps j c.1,q.2.1,0,XB)))) (SR r B ds ps l j p t):=by refine V.Zs _ V.self λs g=>Z8.2 ⟨λw=>ZD.2 ⟨s,g,.inl ⟨Zp,rfl⟩⟩,λw=>Th.2 λ_=>?_⟩;have k:s.2.2.2=0:=Xk;obtain⟨E,i⟩:=x s g k;exact Zxn (A:=λF G=>some (F,s.2.1,Xc _ j _,G,0,XB)) h y z E (λe d=>(i e d).1) (λe d=>(i e d).2.1) (λe d=>(i e d).2.2) λv u C D=>ZD.2 ⟨s,g,.inr ⟨k,v,u,rfl,C,D⟩⟩
def ZiX{F:Int->Zt->Prop}{ds:L Yb}(d:B.2.2.2.2.1=some j)(g:z[j]?=some k)(n:PI S4 k)(w:B.2.2.1.length=5/\∀x∈B.2.2.1,-2<=x/\x<=2)(G:0<=B.2.1/\B.2.1<=1000000000)(h:NF F (nt B) l)(y:NI (nt B) l)(b:B.2.2.2.2.2.1.length=2)(u:∀a t s,GS S4 a->RG k.2.2.2.1 t->NA (k.1,a,k.2.2) ds t=some s->s.2.2.2=0->SM F s.2.2.1):V (M5 B ds z l) λr=>∃a t,GS S4 a/\RG k.2.2.2.1 t/\SR F B ds z l j (k.1,a,k.2.2) t r:=by
 obtain⟨A,O,J,P,Q,-⟩:=id n;unfold M5;rw[V1 d,gt g];refine V.Zs _ (xz w.1 Y Y w.2 G).v λq E=>?_;rw[V1 d,gt g,be Oc];refine Z8.2 ⟨λm=>?_,λm=>?_⟩
 ·simp only[Wx]at m;rw[V1 d,gt g];refine V.Zs _ (nu n).v λs i=>?_;obtain⟨⟨a,C,K⟩,p,-⟩:=i;have p:s.2=((Sj k.2.2.1.2.2.1 k.2.2.2.1 k.2.2.1.2.2.1.length,uS S4 (Sj k.2.2.1.2.2.1 k.2.2.2.1 k.2.2.1.2.2.1.length)),0):=by
   obtain⟨-,R⟩|⟨H,N,-,-,I⟩:=p;·omega
   ·have:H=k.2.2.1.2.2.1.length:=Y;subst this;exact I
  have M:=n.tick (e:=k.2.2.1.2.2.1.length) Y (YA _);rw[p];refine Z8.2 ⟨λD=>by simp only[Wx]at D,λ_=>?_⟩;rw[V1 d,show Xc z j s.1=z.set j s.1from rfl,gt (X0 g),K];have f:RG k.2.2.2.1 (V3 q (Sj k.2.2.1.2.2.1 k.2.2.2.1 k.2.2.1.2.2.1.length).2.1):=by
   have c:∀x,k.2.2.2.1.getLast?=some x->(Sj k.2.2.1.2.2.1 k.2.2.2.1 k.2.2.1.2.2.1.length).2.1=x:=λx c=>by rw[ZeD,J]at c;unfold Sj;rw[Rm,c];rfl
   rw[ow];refine⟨Y,Y,λx e=>?_⟩;rw[<-c x e];omega
  refine(ZiV (ps:=z.set j (k.1,a,k.2.2)) (j:=j) h y b λs i o=>u a _ s C f i o).mono λr b=>⟨a,_,C,f,?_⟩;unfold SR at b⊢;simpa only[az]using b
 ·rw[V1 d,gt g];simp only[Wx]at m;have f:RG k.2.2.2.1 q:=⟨E.1,Y,λx c=>by have:k.2.2.2.1=[]:=Ok Y;rw[this]at c;cases c⟩;exact(ZiV (p:=k) (t:=q) (ps:=z) (j:=j) h y b λs i o=>u k.2.1 _ s A f i o).mono λr b=>⟨k.2.1,_,A,f,b⟩
def SM.fr{sd}{b}(u:1<=j/\j<=9)(v:I.length<=16)(n:∀q∈I,Pr q)(l:EM sd k j a)(i:∀m∈b,MO m)(hL:b=I.map (λq=>MZ q j)++[a]):SM (FR o) b:=by
 refine⟨by rw[hL];simp;omega,λm d=>⟨i m d,?_⟩⟩;rw[hL]at d;obtain y|y:=ZY d;·obtain⟨q,h,rfl⟩:=VR y;obtain⟨⟨f,p⟩,⟨r,s⟩,-⟩:=n q h;refine⟨λ_=>⟨f,λg c=>FR.of Y (λ_=>⟨⟨by show rg 0;unfold rg;omega,by show rg q.1;unfold rg;omega,by show rg q.2.1;unfold rg;omega,by show rg (j:Int);unfold rg;omega⟩,by show(0:Int)<=0/\(0:Int)<=13;omega,λ_=>by show(1:Int)<=j;omega⟩) c⟩,λe=>(e rfl).elim⟩
 ·rw[YV y];have t:=l.fv;exact⟨λe=>Y,λ_ w g _ c=>FR.ot (by show a.1≠1;omega) (by show a.1≠2;omega) c⟩
def Zxi{ds:L Yb}(h:XE (BU o) j c d f y l B ds E A C D z g)(q:UX b o B A z g)(hT:j<=1000):V (M5 B ds z g) λr=>UX b o r.1 A r.2.2.1 r.2.2.2.1:=by
 obtain k|⟨J,k⟩:=C9 B.2.2.2.2.1;·unfold M5;rw[Hc k];exact ZD.2 q
 obtain⟨x6,x8,fd,Z,q2,q3⟩:=h.pr;obtain⟨p,w,r2,u,r4⟩:=q3 J k;obtain⟨-,S,R,-⟩:=id h.cb;obtain⟨w1,w2⟩:=q.wi J p k w;have H:∀{i},GS S4 i->PI S4 (p.1,i,p.2.2):=λa=>⟨a,u.2⟩;have I:∀i t a,GS S4 i->NA (p.1,i,p.2.2) ds t=some a->(a.1=(p.1,i,p.2.2)\/¬a.1.2.2.2.2.2.2=0\/a.1.2.2.2.2.2.1=[])/\RN a.1/\(a.2.2.2=0->SM (FR o) a.2.2.1):=λi t a m n=>by obtain⟨d',n',x7,R',o1,o2,K,o4,o5,⟨x0,x4,x1,-,x2,x3⟩,W,o8,X,o9,U,x9⟩:=(rQ (p:=(p.1,i,p.2.2)) (t:=t) Z (q2.mono (B':=λ_=>True) λ_ _=>trivial) r2 (H m) (show ZAV Wa l (p.1,i,p.2.2)from r4) λ_ _ _=>trivial).v a n;refine⟨X,ZlH (H m) w2 a n,λG=>?_⟩;obtain⟨-,em,M,N⟩:=U G;have:=WX List.length x1;rw[YM,x3 G]at this;have h8:=K.2.2.1;have h9:=K.2.2.2.1;exact SM.fr Y u.2.2.2.2.2.1 u.2.2.2.2.2.2 M W N
 refine(ZiX (F:=FR o) k w u R ⟨S.1,Y⟩ q.nf h.ni h.rl λi t a m _ n=>(I i t a m n).2.2).mono λr⟨i,t,O,g2,a,P,Q⟩=>?_;obtain⟨s1,s2,-⟩:=I i t a O P;have T:(a.1.2.2.2.2.2.2=0->WI o a.1)/\RN a.1:=by
  refine⟨λx=>?_,s2⟩;obtain e|e|e:=s1;·rw[e]at x⊢;exact w1 x
  ·exact(e x).elim
  ·refine⟨⟨⟨?_,?_⟩,?_,?_⟩,?_⟩<;>rw[e]<;>simp
 have s:=q.ZgB k w T;obtain⟨-,rfl⟩|⟨-,c',x5,rfl,d,-⟩:=Q;·exact s
 ·exact UX.sn (c:=SD B (sl B++[B.2.1])) ⟨s.nf,s.cu,s.wi⟩ d
def UX.of(h:UX b o B A z l){a}(h1:nt i=nt B)(h2:i.2.2.2.2.2.2.1=B.2.2.2.2.2.2.1)(c:ud i=ud B)(d:∀j p,i.2.2.2.2.1=some j->a[j]?=some p->(p.2.2.2.2.2.2=0->WI o p)/\RN p):UX b o i A a l:=⟨by rw[h1];exact h.nf,h.cu.eq h2 c,d⟩
def WI.nil{qb}{p}(h:p.2.2.2.2.2.1=[]):WI qb p:=⟨⟨⟨Xk,Xk⟩,Xk,Xk⟩,Xk⟩
def UI.mpp{qb:Int->Int}(h:UI qb (UB k)):RN k:=λb v a=>by have c:=h.mp b v a;have d:=h.le;omega
def Zq4(c:∃s,VG o (s0 Wa) l s)(h1:k.2.2.2.2.2=([],0))(h2:UU (s0 Wa) l (UB k)):(k.2.2.2.2.2.2=0->WI o k)/\RN k:=by have⟨s,a⟩:=c;have b:=VG.ui UI.s0 a;rw[<-UU.uniq h2 a.mE.rec]at b;exact⟨λ_=>WI.nil (by rw[h1]),b.mpp⟩
def RX.u(a:∃s,VG o (s0 Wa) l s)(h:RX (BU o) l g):∃s,VG o (s0 Wa) g s:=by have⟨s,c⟩:=a;obtain⟨d,rfl,b⟩:=h;exact c.ext b
def Zgz{ds:L Yb}(h:XE (BU o) j c d f y l B ds E A C D z g)(n:UX b o B A z g)(X:∃s,VG o (s0 Wa) l s)(Z:j<=230):V (Jq B ds E z e) λr=>UX b o r.1 A r.2.2.2.1 g:=by
 unfold Jq;have x0:B.2.2.2.1.length=3:=by rw[h.dv];rfl
 refine V.Zs (λK=>K=false->0<=e.2.1/\e.2.1<3) (Z8.2 ⟨λ_=>ZD.2 λG=>(by cases G),λI=>ZD.2 λG=>?_⟩) λK hb=>Z8.2 ⟨λ_=>ZD.2 n,λI=>?_⟩;·simp only[Wx]at I G;rw[x0]at G;omega
 have N:=hb I;obtain⟨i,Q⟩:=Qt N.1;have x3:i<3:=Y;obtain⟨k,m⟩:∃k,B.2.2.2.1[i]?=some (some k):=by
  rw[h.dv];obtain rfl|rfl|rfl:=(by omega:i=0\/i=1\/i=2);·exact⟨c,rfl⟩
  ·exact⟨d,rfl⟩
  ·exact⟨f,rfl⟩
 have P:∀{S:Type}{H:Zg Nat->Zg S},O (ZF B.2.2.2.1 e.2.1) H=H (some k):=λ{S H}=>be (Sy N.1 (by rw[Q,WL];exact m));refine Z8.2 ⟨λW=>N0.2 λ_=>?_,λW=>N0.2 λ_=>?_⟩;·rw[P,ko];exact V.Zs (λ_=>True) V.true λ_ _=>V.Zs (λ_=>True) V.true λ_ _=>ZD.2 n
 ·rw[P,ko,Q];obtain rfl|rfl|rfl:=(by omega:i=0\/i=1\/i=2)
  ·obtain⟨M,t,u⟩:=bJ (cuts:=e.2.2.2.2.2.2) h Z;have:k=c:=by rw[h.dv]at m;exact(X9 (X9 m)).symm
   subst this;rw[gt t];refine u.v.mono λr v=>?_;obtain⟨R',R,F,-,⟨-,a⟩,-,x2,J⟩:=v;refine n.of (by rw[J];rfl) (by rw[J];rfl) (by rw[J];rfl) λw x p q=>?_;obtain⟨T,U,-⟩:=a w x p q;exact Zq4 (RX.u X F.1) T U
  ·obtain⟨M,t,u⟩:=uE (cuts:=e.2.2.2.2.2.2) h Y (i:=0) (k:=d) (.inl ⟨rfl,rfl⟩);have:k=d:=by rw[h.dv]at m;exact(X9 (X9 m)).symm
   subst this;rw[gt t];refine u.v.mono λr v=>?_;obtain⟨R,F,⟨x1,a⟩,-⟩:=v;exact n.of (by rw[a];rfl) (by rw[a];rfl) (by rw[a];rfl) λw x p q=>n.wi w x (by rwa[a]at p) (by rwa[F]at q)
  ·obtain⟨M,t,u⟩:=uE (cuts:=e.2.2.2.2.2.2) h Y (i:=1) (k:=f) (.inr ⟨rfl,rfl⟩);have:k=f:=by rw[h.dv]at m;exact(X9 (X9 m)).symm
   subst this;rw[gt t];refine u.v.mono λr v=>?_;obtain⟨R,F,⟨x1,a⟩,-⟩:=v;exact n.of (by rw[a];rfl) (by rw[a];rfl) (by rw[a];rfl) λw x p q=>n.wi w x (by rwa[a]at p) (by rwa[F]at q)
def ZAI(a:UX b o B A z l)(h:NI (nt B) l):V (xE B E l s) λr=>UX b o r.1 A z r.2.2.1:=by refine V.Zs _ V.true λj _=>EW.2 ⟨λ_=>ZD.2 a,λp _=>V.Zs _ V.true λ_ _=>V.Zs _ V.true λ_ _=>EW.2 ⟨Xk,λq _=>V.Zs _ V.true λ_ _=>V.Zs _ Zma λn e=>V.Zs (λc=>UX b _ c.2.1 _ _ c.1) (Z8.2 ⟨λ_=>V.Zs _ (Ah.and (Df a.nf h λk g=>FR.ot e.1 e.2 g)) λc d=>ZD.2 ?_,λ_=>ZD.2 a⟩) λc d=>V.Zs _ V.true λ_ _=>ZD.2 d⟩⟩;have⟨⟨m,i⟩,f⟩:=d;rw[i]at f⊢;exact a.TT f
def Zoa{ds:L Yb}(h:XE (BU o) j c d f y l B ds E A C D z g)(k:UX b o B A z g)(Q:∃s,VG o (s0 Wa) l s)(R:j<=230)(J:e.1≠11/\e.1≠12)(S:e.1=3->(1<=e.2.2.2.2.1.length/\e.2.2.2.2.1.length<=32)/\e.2.2.2.2.2.1.length<=64):V (UK B ds E A C D z g e) λr=>∃u,(∀i,o i<=u i)/\UX b u r.1 r.2.2.2.1 r.2.2.2.2.2.2.1 r.2.2.2.2.2.2.2.1:=by
 have I:=h.cb;have n:∀{B A z g},UX b o B A z g->∃u,(∀i,o i<=u i)/\UX b u B A z g:=λU=>⟨o,λ_=>HY _,U⟩;have P:∀x F,B.2.2.2.2.1=some x->z[x]?=some F->PI S4 F:=λx F M N=>by obtain⟨W,K,X,-,-,m⟩:=h.pr;obtain⟨p',G,-,O,-⟩:=m x M;rw[N]at G;cases G;exact O
 have H:B.2.2.2.2.2.2.1.length=2:=h.cl.1;unfold UK;refine Z8.2 ⟨λ_=>ZD.2 (n ⟨k.nf,k.cu,k.wi⟩),λ_=>Z8.2 ⟨λ_=>V.Zs _ (Zi3 I).v λs a=>ZD.2 ?_,λ_=>?_⟩⟩;·obtain⟨Z,p,-⟩:=a;dsimp only;rw[p];exact n ⟨k.nf,k.cu,k.wi⟩
 refine V.Zs (λt=>t=true->e.1=3\/e.1=4\/e.1=5) (Z8.2 ⟨λm=>ZD.2 λ_=>.inl (by rwa[Ur]at m),λ_=>V.Zs (λt=>t=true->e.1=3\/e.1=4\/e.1=5) (Z8.2 ⟨λm=>ZD.2 λ_=>.inr (.inl (by rwa[Ur]at m)),λ_=>ZD.2 λm=>.inr (.inr (by rwa[Ur]at m))⟩) λt w=>ZD.2 w⟩) λt w=>Z8.2 ⟨λm=>V.Zs _ (ZmB k h.ni h.rl H (by have:=I.2.2.2.2.2.1;omega) (w m) S) λs a=>ZD.2 a,λ_=>Z8.2 ⟨λ_=>V.Zs _ (Zxi h k Y) λs a=>ZD.2 (n a),λ_=>Z8.2 ⟨λ_=>V.Zs _ (ZnP k h.ni h.rl H P) λs a=>ZD.2 (n a),λ_=>Z8.2 ⟨λ_=>V.Zs _ ((yT h.ni).v.and (Zb3 k.nf h.ni)) λs a=>V.Zs (λ_=>True) V.true λ_ _=>ZD.2 ?_,λ_=>Z8.2 ⟨λ_=>V.Zs _ ((ZbZ h.ni).v.and (ZkU k.nf h.ni)) λs a=>V.Zs (λ_=>True) V.true λ_ _=>ZD.2 ?_,λ_=>Z8.2 ⟨λ_=>V.Zs _ ((ZcJ h.ni).v.and (ZlU k.nf)) λs a=>V.Zs (λ_=>True) V.true λ_ _=>ZD.2 ?_,λ_=>Z8.2 ⟨λm=>by rw[Ur]at m;exact(J.1 m).elim,λ_=>Z8.2 ⟨λm=>by rw[Ur]at m;exact(J.2 m).elim,λ_=>Z8.2 ⟨λ_=>V.Zs _ (ZAI k h.ni) λs a=>ZD.2 (n a),λ_=>V.Zs (λ_=>True) V.true λt w=>Z8.2 ⟨λm=>V.Zs _ (Zgz h k Q R) λs a=>ZD.2 (n a),λ_=>ZD.2 (n k)⟩⟩⟩⟩⟩⟩⟩⟩⟩⟩
 ·obtain⟨a,q⟩:=a;obtain⟨-,p,-⟩|⟨p,-⟩:=a;·dsimp only;rw[p]at q⊢;exact n (k.TT q)
  ·dsimp only;rw[p];exact n k
 ·obtain⟨⟨K,x0,p,T,-⟩,q⟩:=a;dsimp only;rw[p]at q⊢;exact n (k.TT q)
 ·obtain⟨⟨K,p,T,-⟩,q⟩:=a;dsimp only;rw[p]at q⊢;exact n (k.TT q)
def Zn9{ds:L Yb}(h:XE (BU o) j c d f y l B ds E A C D z g)(t:UX b o B A z g)(m:∃s,VG o (s0 Wa) l s)(q:j<=230)(N:Hm e)(K:e.1≠11/\e.1≠12)(M:e.1=3->(1<=e.2.2.2.2.1.length/\e.2.2.2.2.1.length<=32)/\e.2.2.2.2.2.1.length<=64):W (UK B ds E A C D z g e) λr=>∃a k i,XE (BU a) (j+1) c d f k i r.1 r.2.1 r.2.2.1 r.2.2.2.1 r.2.2.2.2.1 r.2.2.2.2.2.1 r.2.2.2.2.2.2.1 r.2.2.2.2.2.2.2.1/\UX b a r.1 r.2.2.2.1 r.2.2.2.2.2.2.1 r.2.2.2.2.2.2.2.1/\∃s,VG a (s0 Wa) i s:=by have⟨s,O⟩:=id m;refine((Zob h q N λQ R T u v w x F G n=>(Zdf O w x ((t.wi Q R u v).1 n) F G n).1).vw (Zoa h t m q K M)).mono λr⟨⟨k,i,H,I⟩,a,p,J⟩=>?_;have⟨S,P⟩:=RX.u m I.1;exact⟨a,k,i,H.mono λ_ _=>BU.mono p,J,S,P.mono p⟩
def qW:Zw s F=decide (s=F):=Zc
def Zn8{ds:L Yb}{bs:L Zt}(a:e.1=8):UK B ds E A C D z bs e=O (za B e.2.2.1) λx=>O (IZ x.2) λy=>some (x.1,ds,E,A,C,D,z,bs,y):=by unfold UK;simp[a,qW,Go.R.bs,XD,Xp,jx,sQ,Int.reduceEq]
def Zn6{ds:L Yb}{bs:L Zt}(a:e.1=14):UK B ds E A C D z bs e=O (Jq B ds E z e) λx=>some (x.1,x.2.1,x.2.2.1,A,C,D,x.2.2.2.1,bs,x.2.2.2.2):=by unfold UK;simp[a,qW,Go.R.bs,XD,Xp,jx,sQ,Int.reduceEq]
def gU{ds:L Yb}{bs:L Zt}(a:e.1=7):UK B ds E A C D z bs e=O (Jp B ds E A C D z bs e.2.2.1) λx=>some x:=by unfold UK;simp[a,qW,Go.R.bs,XD,Xp,jx,sQ,Int.reduceEq]
def Zn7{ds:L Yb}{bs:L Zt}(a:e.1=3\/e.1=4):UK B ds E A C D z bs e=O (Jo B A C bs e) λx=>some (x.1,ds,E,x.2.1,x.2.2.1,D,z,x.2.2.2):=by unfold UK;obtain a|a:=a<;>simp[a,qW,Go.R.bs,XD,Xp,jx,sQ,Int.reduceEq]
def FP(e g:Nat)(c:Z5)(ds:L Yb)(ps:L Yz):Prop:=∃d a b f,c.2.2.2.2.1=some d/\ps[d]?=some a/\a.2.2.2.2.2=([],0)/\VM e g f false a.1/\ds[e]?=some b/\b.2.2.2=(-1,false)
def ZsJ{ds:L Yb}{i:Nat}(h:XE (BU o) j c d f y l B ds E A C D z g)(hu:UX b o B A z g)(I:∃s,VG o (s0 Wa) l s)(S:j<=230)(ho:e.1=14)(hi:e.2.1=i)(x5:i<3)(hf:0<i->FP c y B ds z):W (Jq B ds E z e) λr=>∃k a,XE (BU o) (j+1) c d f k a r.1 r.2.1 r.2.2.1 A C D r.2.2.2.1 g/\UX b o r.1 A r.2.2.2.1 g/\(∃s,VG o (s0 Wa) a s)/\nt r.1=nt B/\FP c k r.1 r.2.1 r.2.2.2.1:=by
 have hw:W (Jq B ds E z e) λr=>∃k a,XE (BU o) (j+1) c d f k a r.1 r.2.1 r.2.2.1 A C D r.2.2.2.1 g/\(∃s,VG o (s0 Wa) a s)/\nt r.1=nt B/\FP c k r.1 r.2.1 r.2.2.2.1:=by
  unfold Jq;have T:B.2.2.2.1.length=3:=by rw[h.dv];rfl
  obtain⟨n,m⟩:∃n,B.2.2.2.1[i]?=some (some n):=by
   rw[h.dv];obtain rfl|rfl|rfl:=(by omega:i=0\/i=1\/i=2);·exact⟨c,rfl⟩
   ·exact⟨d,rfl⟩
   ·exact⟨f,rfl⟩
  have x0:∀{α:Type}{H:Zg Nat->Zg α},O (ZF B.2.2.2.1 e.2.1) H=H (some n):=λ{α H}=>be (Sy Y (by rw[hi,WL];exact m));refine Yu (λP=>P=false) λu=>by simp only[Wx]at u;omega (λgq=>Zb (by simp only[Wx];rw[T];omega)) λP hb=>Zr ⟨λu=>(by rw[hb]at u;cases u),λgq=>(Zr ⟨λR=>by rw[Ur]at R;omega,λR=>XC ⟨by simp only[Wx];rw[T];omega,?_⟩⟩)⟩;rw[x0,ko,hi];have U:∀{i':Nat}{t:Nat},i=i'+1->i'=0/\t=d\/i'=1/\t=f->n=t->W (O (ZF ds (Zi n)) λx2=>O (Dl x2 e.2.2.2.2.2.2) λx3=>O (Kb B (Xc ds n x3) E z (i:Int)) λq=>some (q.1,q.2.1,q.2.2.1,q.2.2.2.1,q.2.2.2.2,XB)) λr=>∃k a,XE (BU o) (j+1) c d f k a r.1 r.2.1 r.2.2.1 A C D r.2.2.2.1 g/\(∃s,VG o (s0 Wa) a s)/\nt r.1=nt B/\FP c k r.1 r.2.1 r.2.2.2.1:=λ{i' t}e1 e2 e3=>by subst e3 e1;obtain⟨x,F,G⟩:=uE (cuts:=e.2.2.2.2.2.2) h Y e2;rw[gt F];refine G.mono λr J=>?_;obtain⟨v,M,⟨x6,w⟩,N⟩:=J;obtain⟨x1,p,x,K,f1,f2,f3,f4,f5,f6⟩:=hf Y;exact⟨y,l,v,I,by rw[w];rfl,x1,p,x,K,by rw[w];exact f1,by rw[M];exact f2,f3,f4,by rw[N];exact f5,f6⟩
  obtain rfl|rfl|rfl:=(by omega:i=0\/i=1\/i=2)
  ·obtain⟨x,F,G⟩:=bJ (cuts:=e.2.2.2.2.2.2) h S;have:n=c:=by rw[h.dv]at m;exact(X9 (X9 m)).symm
   subst this;rw[gt F];refine G.mono λr J=>?_;obtain⟨a,v,M,-,⟨w,N⟩,r5,x4,r6⟩:=J;obtain⟨s,V⟩:=RX.u I M.1;obtain⟨p,X,p2⟩:=w s V.mE;have Z:r.2.2.2.1[z.length]?=some p:=by rw[p2];simp
   obtain⟨p4,-,K,p5⟩:=N _ p X Z;obtain⟨Q,-,-,q1,-⟩:=v.pr;exact⟨y+1,a,v,⟨s,V⟩,by rw[r6];rfl,_,p,Q,K,X,Z,p4,p5,q1,(r5 Q q1).1⟩
  ·exact U (i':=0) rfl (.inl ⟨rfl,rfl⟩) (by rw[h.dv]at m;exact(X9 (X9 m)).symm)
  ·exact U (i':=1) rfl (.inr ⟨rfl,rfl⟩) (by rw[h.dv]at m;exact(X9 (X9 m)).symm)
 refine(hw.vw (Zgz h hu I S)).mono λr⟨⟨k,a,h1,h2,h3,h4⟩,h5⟩=>⟨k,a,h1,h5,h2,h3,h4⟩
def ZwF{ds:L Yb}{bs:L Zt}(h:XE (BU o) j c d f y l B ds E A C D z bs)(H:UX b o B A z bs)(O:∃s,VG o (s0 Wa) l s)(hT:j<=200):W (mW B ds E A C D z bs) λr=>r.2.2.2.2.1=C/\r.2.2.2.2.2.1=D/\∃k g,XE (BU o) (j+3) c d f k g r.1 r.2.1 r.2.2.1 r.2.2.2.1 r.2.2.2.2.1 r.2.2.2.2.2.1 r.2.2.2.2.2.2.1 r.2.2.2.2.2.2.2/\UX b o r.1 r.2.2.2.1 r.2.2.2.2.2.2.1 r.2.2.2.2.2.2.2/\(∃s,VG o (s0 Wa) g s)/\(nt r.1).1=[]/\FP c k r.1 r.2.1 r.2.2.2.2.2.2.1:=by
 unfold mW;refine Zn (W.Tl (λa=>∃e,a=(ds,E,A,C,D,z,bs,wN B e)/\NI e bs/\NF (FR o) e bs) (λa=>∃e,a=(ds,E,A,C,D,z,bs,wN B e)/\NI e bs/\NF (FR o) e bs/\e.1=[]) (λa=>(nt a.2.2.2.2.2.2.2).1.length) ⟨nt B,rfl,h.ni,H.nf⟩ (by dsimp only;have:=h.ni.1;omega) (λa n=>?_) λa n=>?_)
 ·obtain⟨e,rfl,t,u⟩:=n;dsimp only;rw[show Ka (wN B e)=some ((e.1.length:Nat):Int)by unfold Ka vE;rw[Go.R.bs];rfl,Go.R.bs];refine Zr ⟨λm=>?_,λm=>Zb ⟨e,rfl,t,u,?_⟩⟩
  ·simp only[Wx]at m;rw[Zn8 rfl];refine Zn (Zn (((yT (c:=wN B e) t).vw (Zb3 (c:=wN B e) u t)).mono λs P=>Zn (Do.mono λ_ _=>Zb (Zb ?_))));obtain⟨⟨-,Z,-,-,I⟩|⟨-,R⟩,J⟩:=P;·dsimp only;rw[Z]at I J⊢;refine⟨⟨_,rfl,I,J⟩,?_⟩;show(e.1.eraseIdx 0).length<e.1.length;rw[List.length_eraseIdx];split<;>omega
   ·refine(R ⟨HY _,?_⟩).elim;show(0:Int)<(e.1.length:Int);omega
  ·simp only[Wx]at m;exact Ok Y
 ·obtain⟨e,rfl,t,u,Q⟩:=n;refine Zn (W.Tl (λa=>∃(i k:Nat)(g:L Zt),a.1=i/\i<=3/\(a.2.2.2.2.1=C/\a.2.2.2.2.2.1=D)/\XE (BU o) (j+i) c d f k g a.2.2.2.2.2.2.2.2 a.2.1 a.2.2.1 a.2.2.2.1 a.2.2.2.2.1 a.2.2.2.2.2.1 a.2.2.2.2.2.2.1 a.2.2.2.2.2.2.2.1/\UX b o a.2.2.2.2.2.2.2.2 a.2.2.2.1 a.2.2.2.2.2.2.1 a.2.2.2.2.2.2.2.1/\(∃s,VG o (s0 Wa) g s)/\(nt a.2.2.2.2.2.2.2.2).1=[]/\(0<i->FP c k a.2.2.2.2.2.2.2.2 a.2.1 a.2.2.2.2.2.2.1)) (λa=>∃(k:Nat)(g:L Zt),(a.2.2.2.2.1=C/\a.2.2.2.2.2.1=D)/\XE (BU o) (j+3) c d f k g a.2.2.2.2.2.2.2.2 a.2.1 a.2.2.1 a.2.2.2.1 a.2.2.2.2.1 a.2.2.2.2.2.1 a.2.2.2.2.2.2.1 a.2.2.2.2.2.2.2.1/\UX b o a.2.2.2.2.2.2.2.2 a.2.2.2.1 a.2.2.2.2.2.2.1 a.2.2.2.2.2.2.2.1/\(∃s,VG o (s0 Wa) g s)/\(nt a.2.2.2.2.2.2.2.2).1=[]/\FP c k a.2.2.2.2.2.2.2.2 a.2.1 a.2.2.2.2.2.2.1) (λa=>(3-a.1).toNat) ⟨0,y,l,rfl,Y,⟨rfl,rfl⟩,h.TT t,H.TT u,O,Q,λM=>(Zbp _ M).elim⟩ ZB (λa n=>?_) λa n=>Zb ?_)
  ·obtain⟨u1,x2,x5,x1,x6,x3,x4,x0,ci⟩:=a;obtain⟨i,k,g,G,e2,p,q,v,w,x,F⟩:=n;dsimp only at G p q v w x F;subst G;refine Zr ⟨λm=>?_,λm=>?_⟩;·simp only[Wx]at m;dsimp only;rw[Zn6 rfl,wS Y];refine Zn (Zn ((ZsJ (i:=i) q v w Y rfl rfl Y F).mono λr⟨N,K,S,T,U,V,X⟩=>Zb (Zb<|⟨⟨i+1,N,K,rfl,Y,p,S,T,U,by dsimp only;rw[V];exact x,λ_=>X⟩,ZB⟩)))
   ·simp only[Wx]at m;have:i=3:=Y;subst this;exact Zb ⟨k,g,p,q,v,w,x,F Y⟩
  ·obtain⟨k,g,p,q⟩:=n;exact⟨p.1,p.2,k,g,q⟩
def gF{c:Z5}{t}(f:NI (nt c) l)(h:0<=t)(e:MO a)(d:UP a=some (x,0))(h2:x.length<=20000)(b:(nt c).1=[]):V (Uh c l t a) λo=>o=(wN c ([(t,some l.length)],(nt c).2),l++[x]):=(Jr f h e).v.mono λo g=>by have:=g.2 x d h2 (by rw[b];decide);rw[this,b];rfl
def NM(c:Z5)(bs:L Zt)(t:Int)(m:Yy):Prop:=∃b a,(nt c).1=[(t,some b)]/\bs[b]?=some a/\RY a=some (m,0)
def NM.ZiY(b:RY x=some (a,0)):NM (wN B ([(F,some l.length)],s)) (l++[x]) F a:=⟨l.length,x,rfl,Zc,b⟩
def OP(k:Nat)(s:Int)(c:Z5)(bs:L Zt):Prop:=∃a,NM c bs 0 a/\a.1=1/\a.2.1=3+(k:Int)/\a.2.2.1=0/\a.2.2.2.1=s/\1<=a.2.2.2.2.2.2.2.1.length/\a.2.2.2.2.2.2.2.1.length<=32
def Zfo{c:Z5}{s}{v}(f:NI (nt c) l)(d:(nt c).1=[])(k:j<2)(hs:0<=s/\s<1000000000)(e:1<=x.length/\x.length<=32)(hv:v.length<=64):V (Uh c l 0 (vm (3+j) s x v)) λz=>(∃n,z.1=wN c n)/\OP j s z.1 z.2:=by obtain⟨h,a,b,i⟩:=ZcM (m:=vm _ s x v) rfl (by show rg (3+j);unfold rg;omega) (by show rg 0;unfold rg;omega) (by show rg s;unfold rg;omega) (by show x.length<=64;omega) hv;refine(gF f Zc (Qg Zc) a Y d).mono λz g=>?_;rw[g];exact⟨⟨_,rfl⟩,_,NM.ZiY b,rfl,rfl,rfl,rfl,e⟩
def ZmA(h:UX b o B A z l)(t:NI (nt B) l)(E:B.2.2.2.2.2.1.length=2)(h2:B.2.2.2.2.2.2.1.length=2)(S:(ud B).length<=1000)(c:j<2)(D:e.2.1=j)(q:(nt B).1=[])(hx:A[b j]?=some p):V (Jo B A C l e) λr=>(e.1=4->p.2.2.2.1=-1->r=(B,A,C,l,12,XB))/\(e.1=4/\p.2.2.2.1≠-1\/e.1=3/\p.2.2.2.1=-1/\(1<=e.2.2.2.2.1.length/\e.2.2.2.2.1.length<=32)/\e.2.2.2.2.2.1.length<=64->r.2.2.2.2.1=0/\r.1.2.2.2.2.1=B.2.2.2.2.1/\∃f,r.2.1[b j]?=some f/\f.2.2.2.1≠-1/\OP j f.2.2.2.2.1 r.1 r.2.2.2.1):=by
 obtain⟨v,Z,n,Q,R,w⟩:=h.cu.2.1 j c;rw[hx]at n;cases n;refine(Zc3 E h2 D c v hx Y).mono λr F=>?_;obtain⟨U,H,I,J,-⟩:=F;refine⟨I,?_⟩;rintro(⟨d,a⟩|⟨d,a,x,y⟩);·obtain⟨W,g,X,u,i,rfl⟩:=J d a;obtain⟨T,x1,K,M,N,O,P⟩:=w.resolve_left a;rw[K,WL,M]at u;cases u;obtain⟨⟨G,k⟩,m⟩:=Zfo t q c Y O P g i;refine⟨rfl,by dsimp only;rw[k];rfl,p,hx,a,?_⟩;rw[<-N];exact m
 ·obtain⟨g,i,rfl⟩:=H d a;obtain⟨⟨G,k⟩,m⟩:=Zfo (c:=wU B (ud B++[((j:Int),p.2.2.2.2.1+1,B.2.1,0,e.2.2.2.2.1,e.2.2.2.2.2.1)])) (s:=p.2.2.2.2.1+1) t q c Y x y g i;exact⟨rfl,by dsimp only;rw[k];rfl,_,X0 hx,ZB,m⟩
def PW(e:Nat)(c:Z5)(ds:L Yb)(ps:L Yz)(w:L Ux)(E:Nat):Prop:=∃d a b f g,c.2.2.2.2.1=some d/\ps[d]?=some a/\a.2.2.2.2.2=(w,0)/\VM e f g false a.1/\ds[e]?=some b/\b.2.2.2=(-1,false)/\a.2.2.1.2.2.1.length=E
def FP.pw{ds:L Yb}(h:FP j c B ds z):∃E,PW j B ds z [] E:=by obtain⟨k,m,a,l,b,d,e,f,g,i⟩:=h;exact⟨_,k,m,a,c,l,b,d,e,f,g,i,rfl⟩
def AM(s e:Int)(m:Yy):Prop:=m.1=2/\m.2.1=0/\m.2.2.2.1=s/\m.2.2.2.2.1=e/\m.2.2.2.2.2.2.1=0
def AM.mA{m}(h1:m.1=2)(h2:m.2.1=0)(a:m.2.2.2.2.2.2.1=0):AM m.2.2.2.1 m.2.2.2.2.1 (mA m 5):=⟨rfl,h2,rfl,rfl,a⟩
def ZwE{m}(f:NI (nt B) l)(i:B.2.2.1.length=5)(g:0<=m.2.2.1/\m.2.2.1<5)(e:MO m)(d:UP m=some (x,0))(h2:x.length<=20000)(c:(nt B).1=[]):V (RU B l m) λo=>o=(wN B ([(m.2.2.1,some l.length)],(nt B).2),l++[x]):=by refine V.Zs (λb=>b=true) (Z8.2 ⟨λ_=>ZD.2 Xk,Xk⟩) λb j=>V.Zs _ (Z8.2 ⟨λ_=>V.Zs _ (gF f g.1 e d h2 c) λh a=>ZD.2 a,Xk⟩) λh a=>ZD.2 a
def Zly{s}(h:s.1=0):V (RL [] s) λu=>u=s:=by refine V.lp (λu=>u=s) rfl λu a=>Z8.2 ⟨λb=>?_,λ_=>ZD.2 a⟩;simp_all
def Zns{ds:L Yb}{rs:L YY}{E}(h:XE (BU o) j c d f y l B ds rs A C D z g)(hR:∃a,VG o (s0 Wa) l a)(hk:G<2)(hq:s=o (3+G))(hO:OP G s B g)(hW:PW c B ds z [] E):V (Jp B ds rs A C D z g 0) λr=>∃c' x6 x0 w,r=(c',ds,rs,A,C,D,x6,x0,0,XB)/\PW c c' ds x6 w E/\(∃n,c'=wN B n)/\((w=[]/\∃e m,1<=e/\e<=(E:Int)/\NM c' x0 (3+G) m/\AM s e m)\/(nt c').1=[]/\∃q,w=[q]/\q.1=3+G/\q.2.1=s):=by
 obtain⟨m,⟨jb,xa,x2,x8,x3⟩,m1,W,m0,m3,m4⟩:=hO;obtain⟨U,H,x1,gf,n,J,R,S,w4,w5,w6,Z⟩:=hW;obtain⟨d0,n0,xh,-,-,q3⟩:=h.pr;obtain⟨p',r1,r2,r3,r4⟩:=q3 U J;rw[R]at r1;cases r1;obtain⟨a,ha⟩:=hR;have P:=VG.ui UI.s0 ha;rw[<-r4.eq ha (by rw[S])]at P;refine(gK (F:=λ_ _=>True) (λ_ _ _ _ _ _=>trivial) h.ni h.rl λ_ _ _ _=>trivial).mono λr hr=>?_;obtain⟨b,-⟩|⟨x7,b',c1,-,z2,⟨j',z3,z4⟩,i,b⟩:=hr;·refine(b ⟨HY _,?_⟩).elim;rw[x2];exact Int.one_pos
 rw[x2]at z2 i;cases z2;cases z3;rw[x8]at z4;cases z4;have i:c1=wN B ([],(nt B).2):=i;obtain⟨-,b⟩|⟨m',K,M,b⟩:=b;·exact(b m x3).elim
 rw[x3]at K;cases K;obtain⟨-,q,q1,rfl⟩|⟨b,-⟩|⟨b,-⟩:=b
 ·obtain⟨b,-⟩|⟨j2,p2,sb,X,c2,xb,x9,Q,t2,t3,t4,k,I,rfl⟩:=Zj3 q q1;·rw[i]at b;have b:B.2.2.2.2.1=none:=b;rw[J]at b;cases b
  have Q:B.2.2.2.2.1=some j2:=by rwa[i]at Q
  rw[J]at Q;cases Q;rw[R]at t2;cases t2;obtain⟨s1,-,-,s4,s5⟩:=(dR r3 M).v sb t3;obtain⟨⟨sg,-,t⟩,-,-,v2⟩:=(dQ s1 M).v X t4;rw[v2 m1]at I;have I:=Zly rfl x9 I;have x5:H.2.2.2.2.2.1=[]:=WX Prod.fst S;obtain⟨T,N,e,rr,a3,a4,a5⟩|⟨T,N,a3⟩:=s5 m1
  ·have x4:rr=0:=by
    obtain e|⟨-,u,p⟩|⟨-,u⟩:=a5 m4.2 m4.1;·exact e
    ·obtain⟨v,x⟩:=Bb u;rw[x]at p;have p:m.2.2.2.1<v.1:=p;have:=(P.mp _ v x).1;rw[W,<-hq]at this;omega
    ·exact(u x5).elim
   obtain⟨u,p⟩:=a4 x4;obtain⟨v,x⟩:=Bb u;rw[x]at p;have p:v=(m.2.2.2.1,e):=p;have O:=P.mp _ v x;rw[p]at O;obtain⟨-,k⟩|⟨k,-⟩:=k;·subst x4;rw[a3]at k;obtain⟨b2,b3,b4,b5⟩:=sV (m:=PQ m e 0) rfl (by show rg m.2.2.1;exact M.2.1) (by show rg m.2.1;exact M.1) (by show rg m.2.2.2.1;exact M.2.2.1) (by have e5:(H.2.2.1.2.2.1.length:Int)<=8:=Int.ofNat_le.2 P.le;have e6:1<=e/\e<=(H.2.2.1.2.2.1.length:Int):=O.2;show rg e;unfold rg;omega) (by show(0:Int)<=0/\(0:Int)<=13;omega);cases ZwE (m:=PQ m e 0) (by rw[i];exact⟨W7 _,(λx7 hf=>by cases hf),h.ni.2.2⟩) (by rw[i];exact h.cb.2.2.1.1) (by show 0<=m.2.1/\m.2.1<5;omega) Gn b3 Y (by rw[i];rfl) _ k;subst I;refine⟨_,_,_,[],rfl,⟨U,X.1,x1,gf,n,by rw[i];exact J,X0 R,by rw[t,N];exact S,by rw[t,N];exact w4,w5,w6,by rw[t,N];exact Z⟩,⟨_,by rw[i];rfl⟩,.inl ⟨rfl,e,mA (PQ m e 0) 5,O.2.1,by rw[<-Z];exact O.2.2,?_,⟨rfl,m0,m3,rfl,rfl⟩⟩⟩;·show NM _ _ (3+(G:Int)) (mA (PQ m e 0) 5);rw[<-W];exact NM.ZiY b4
   ·rw[T]at k;cases k
  ·obtain⟨k,-⟩|⟨-,rfl,rfl⟩:=k;·rw[T]at k;cases k
   subst I;obtain⟨-,xi,K,-⟩|a3:=a3;·rw[x5]at K;cases K
   ·refine⟨_,_,_,[Lx m],rfl,⟨U,X.1,x1,gf,n,by rw[i];exact J,X0 R,?_,by rw[t,a3];exact w4,w5,w6,by rw[t,a3];exact Z⟩,⟨_,i⟩,.inr ⟨by rw[i];rfl,Lx m,rfl,W,m3⟩⟩;rw[t,a3];show(H.2.2.2.2.2.1++[Lx m],H.2.2.2.2.2.2)=_;rw[S];rfl
 ·exact(b rfl).elim
 ·have b:(2:Int)<0:=b;omega
def GF(k:Nat)(s e:Int)(t:Int)(b:Zt):Prop:=((t=1\/t=2)/\∀a,RY b=some (a,0)->a.1≠3)\/t=3+(k:Int)/\∃a,RY b=some (a,0)/\AM s e a
def AF(k:Nat)(c:Z5):Prop:=∃a∈(nt c).1,a.1=3+(k:Int)
def ZeE{ds:L Yb}{e:Int}(x1:PC b o B A)(hn:NI (nt B) l)(hr:B.2.2.2.2.2.1.length=2)(h2:B.2.2.2.2.2.2.1.length=2)(hk:j<2)(hx:A[b j]?=some p)(hs:p.2.2.2.2.1=s)(O:NF (GF j s e) (nt B) l)(h1:0<(nt B).1.length):V (Jp B ds E A C D z l 0) λr=>r.2.2.2.2.2.2.1=z/\r.1.2.2.2.2.1=B.2.2.2.2.1/\NF (GF j s e) (nt r.1) r.2.2.2.2.2.2.2.1/\(nt r.1).1.length+1=(nt B).1.length/\((∀f∈(nt B).1,2<f.1)->r.2.1=ds)/\∃q,r.2.2.2.1[b j]?=some q/\q.2.2.2.2.1=s/\(q.2.2.2.1=p.2.2.2.1/\r.2.2.2.2.2.2.2.2.2.2.1=0/\(AF j B->p.2.2.2.1≠-1->AF j r.1)\/p.2.2.2.1≠-1/\q.2.2.2.1=-1/\r.2.2.2.2.2.2.2.2.2.2.1=e):=by
 refine(gK (F:=λ_ _=>True) (λ_ _ _ _ _ _=>trivial) hn hr λ_ _ _ _=>trivial).mono λr hq=>?_;obtain⟨d,-⟩|⟨f,x0,i,-,H,⟨x3,z3,z4⟩,c,d⟩:=hq;·exact(d ⟨HY _,Int.ofNat_lt.2 h1⟩).elim
 obtain⟨k,h⟩:∃k,(nt B).1=f::k:=by match M:(nt B).1with|[]=>rw[M]at H;cases H|y::k=>rw[M]at H;cases H;exact⟨k,rfl⟩
 rw[h]at c;have c:i=wN B (k,(nt B).2):=c;have u:NF (GF j s e) (nt i) l:=by rw[c];exact O.sub λy hy=>by rw[h];exact XY _ hy
 have v:(nt i).1.length+1=(nt B).1.length:=by rw[c,h];rfl
 have t:i.2.2.2.2.1=B.2.2.2.2.1:=by rw[c];rfl
 have K:f.1≠3+(j:Int)->AF j B->AF j i:=λa⟨y,g,G⟩=>by
  rw[h]at g;obtain rfl|w:=XL g;·exact(a G).elim
  ·exact⟨y,by rw[c];exact w,G⟩
 obtain⟨S,x⟩|⟨S,m0,x,⟨a1,X,Z,a4,a5⟩⟩:=O f x3 x0 (by rw[h];exact XQ) z3 z4
 ·have P:f.1≠3+(j:Int):=Y;have N:¬∀y∈(nt B).1,2<y.1:=λa=>by have:=a f (by rw[h];exact XQ);omega
  obtain⟨rfl,-⟩|⟨Q,g,G,⟨J,-⟩|⟨-,-,c2,x6,x7,x5,rfl,-,-,y4⟩|⟨J,-⟩⟩:=d;·exact⟨rfl,t,u,v,λa=>(N a).elim,p,hx,hs,.inl ⟨rfl,rfl,λa _=>K P a⟩⟩
  ·omega
  ·obtain⟨rfl,rfl⟩:=y4 (x Q g);exact⟨rfl,t,u,v,λa=>(N a).elim,p,hx,hs,.inl ⟨rfl,rfl,λa _=>K P a⟩⟩
  ·omega
 ·obtain⟨-,d⟩|⟨Q,g,G,d⟩:=d;·exact(d m0 x).elim
  rw[x]at g;cases g;obtain⟨J,-⟩|⟨-,J,-⟩|⟨-,x4,R,rfl⟩:=d;·omega
  ·omega
  have hw:Zm (ZX (Zm (ZX f.1 1)) 2)=j:=by rw[S];simp only[Wx];rw[ZK (n:=3+(j:Int)-1) Y,ZK Y];omega
  rw[hw]at R;obtain⟨-,y⟩|⟨k',q,w1,w2,W,w4⟩:=Zj2 (x1.eq (by rw[c];rfl) (by rw[c];rfl)) (by rw[c];exact h2) x4 R;·omega
  have:k'=j:=Y;subst this;rw[hx]at W;cases W;obtain⟨-,T,u1,rfl⟩|⟨y,-⟩:=w4
  ·obtain⟨m,v2,v3,v4⟩|⟨⟨v0,m⟩,-,-,-,yy,-,I,U,v7⟩:=ZcS T u1
   ·have x2:p.2.2.2.1=-1:=by
     obtain e|e|e|e:=v4;·exact e
     ·exact(e X).elim
     ·exact(e (Z.trans hs.symm)).elim
     ·exact(e a5).elim
    refine⟨rfl,by dsimp only;rw[m];exact t,by dsimp only;rw[m];exact u,by dsimp only;rw[m];exact v,λ_=>rfl,p,by dsimp only;rw[v2];exact X0 hx,hs,.inl ⟨rfl,v3,λ_ a=>(a x2).elim⟩⟩
   ·refine⟨rfl,by dsimp only;rw[I];exact t,by dsimp only;rw[I];exact u,by dsimp only;rw[I];exact v,λ_=>rfl,T.2.1,X0 hx,by rw[U];exact hs,.inr ⟨m,by rw[U],by dsimp only;rw[v7];exact a4⟩⟩
  ·omega
def Oy.zg{l}{m g}(h:Oy l j c d m x f g):f<=d+55:=by
 obtain⟨r,s,t,u,k,v⟩:=h;have y:∀a,a<f-d->(Mc l j d a).length=110*a:=λa=>by induction a with|zero=>intro _;rfl|succ a A=>
   intro z;obtain⟨⟨o,p,q,b,-⟩,-,-,i⟩:=k (d+a) Y Y;have n:ll (YQ l (j+(d+a)))=110:=by
    obtain e|e:=b;·exact e
    ·have:=i.1 e;omega
   rw[xw,YM];show _+(((YQ l (j+(d+a))).drop 10).take _).length=_;rw[UF,VF,zi,n];omega
 have w:=iW l j d (f-d-1) 1;grind
def Qf.zg{l}:∀{R}{pos a}{m b},Qf l j c pos m R a b->a<=pos+55*R.length|[],_,_,_,_,⟨rfl,_⟩=>Nat.le_add_right _ _|_::R,_,_,_,_,⟨p,g,h1,h2⟩=>by have:=h1.zg;have:=h2.zg;grind
def PV.zg{n}{B}{fd}{d}(h:PV j c B l n fd d):n<=55*l.length:=by obtain⟨-,⟨b,-,a⟩,-⟩:=h;have:=a.1.zg;omega
def VG.len:∀{R}{s a},UI o s->VG o s R a->a.1.2.2.1.length=s.1.2.2.1.length+R.length|[],_,_,_,rfl=>rfl|r::R,s,a,h,⟨n,h1,h2⟩=>by have f:=h2.len (h.step h1);obtain⟨⟨⟨q,l,p,g,i,j,b,rfl⟩,-⟩,t,m,c,d,e⟩:=h1;have⟨u,k⟩:=((BJ h.ei.si Y).v _ b).2.2.1 rfl;grind
def Zqa{b}(d:UP a=some (x,0))(e:RY x=some (b,0)):b.1=a.1:=by have⟨f,g,c⟩:=Zb6 _ d rfl;subst c;rw[Zb1 _ e rfl,kY];omega
def EP(c:Z5)(ps:L Yz)(N:Nat):Prop:=∃a b,c.2.2.2.2.1=some a/\ps[a]?=some b/\b.2.2.1.2.2.1.length=N
def WK(k:Nat)(s:Int)(w:L Ux):Prop:=w=[]\/∃a:Ux,w=[a]/\a.1=3+(k:Int)/\a.2.1=s
def SM.gf{sd}{b}(A:j<2)(z:c<=9)(hs:rg s)(h:WK j s I)(r:EM sd k c a)(o:∀m∈b,MO m)(hL:b=I.map (λq=>MZ q c)++[a]):SM (GF j s c) b:=by
 refine⟨by rw[hL];obtain rfl|⟨q,rfl,-⟩:=h<;>simp,λm e=>⟨o m e,?_⟩⟩;rw[hL]at e;obtain y|y:=ZY e
 ·obtain rfl|⟨q,rfl,u,i⟩:=h;·cases y
  have:m=MZ q (c:Int):=by simpa using y
  subst this;refine⟨λ_=>⟨by show 0<=q.1;omega,λl d=>.inr ⟨u,?_⟩⟩,λg=>(g rfl).elim⟩;obtain⟨v,f,n,w⟩:=sV (m:=MZ q (c:Int)) rfl (by show rg 0;unfold rg;omega) (by show rg q.1;unfold rg;omega) (by show rg q.2.1;rw[i];exact hs) (by show rg (c:Int);unfold rg;omega) (by show(0:Int)<=0/\(0:Int)<=13;omega);rw[d]at f;cases f;exact⟨_,n,rfl,rfl,i,rfl,rfl⟩
 ·rw[YV y];have x:=r.fv;refine⟨λg=>Y,λ_ C l B d=>.inl ⟨Y,λt p=>?_⟩⟩;have:=Zqa d p;have:t.1=a.1:=this;omega
def Zxk{ds:L Yb}{rs:L YY}{E}(h:XE (BU o) j c d f y l B ds rs A C D z g)(hu:UX b o B A z g)(hR:∃a,VG o (s0 Wa) l a)(hT:j<=200)(hk:G<2)(hs:rg s)(W:(nt B).1=[])(hW:PW c B ds z I E)(hE:E<8)(hw:WK G s I):V (M5 B ds z g) λr=>(∃n,r.1=wN (SD B (sl B++[B.2.1])) n)/\EP r.1 r.2.2.1 (E+1)/\NF (GF G s (E+1:Nat)) (nt r.1) r.2.2.2.1/\(I≠[]->AF G r.1):=by
 obtain⟨H,p,xx,gf,n,J,K,w3,⟨R,u,-⟩,w5,w6,w7⟩:=hW;obtain⟨d0,n0,x4,q1,q2,q3⟩:=h.pr;obtain⟨p',r1,r2,r3,S⟩:=q3 H J;rw[K]at r1;cases r1;rw[w5]at q1;cases q1;have x5:x4=false:=by obtain⟨n2,k,-⟩:=r2;rw[u]at k;exact(WX (λv:Tk=>v.2.2.2) k).symm
 subst x5;obtain⟨a,P⟩:=hR;have F:p.2.2.2.2.2.2=0:=by rw[w3]
 have x9:p.2.2.2.2.2.1=I:=by rw[w3]
 have Q:=P.len UI.s0;rw[<-S.eq P F]at Q;have Q:p.2.2.1.2.2.1.length=0+l.length:=Q;have y2:=q2.zg;obtain⟨-,x8,x6,-⟩:=id h.cb;have Z:∀{e},GS S4 e->PI S4 (p.1,e,p.2.2):=λs=>⟨s,r3.2⟩;have hS:∀e t i,GS S4 e->RG p.2.2.2.1 t->NA (p.1,e,p.2.2) ds t=some i->i.2.2.2=0/\i.1.2.2.1.2.2.1.length=E+1/\SM (GF G s ((E+1:Nat):Int)) i.2.2.1/\∃w,i.2.2.1=I.map (λq=>MZ q ((E+1:Nat):Int))++[w]:=λe t i X ht h2=>by
  obtain⟨d',R,y1,R',o1,o2,o3,o4,o5,⟨xh,xi,x2,-,-,x3⟩,o7,o8,y3,o9,xa,xb⟩:=(rQ (p:=(p.1,e,p.2.2)) (t:=t) w5 (q2.mono (B':=λ_=>True) λ_ _=>trivial) r2 (Z X) (show ZAV Wa l (p.1,e,p.2.2)from S) λ_ _ _=>trivial).v i h2;obtain⟨T,-⟩:=xb rfl (by rw[w6];decide) (by rw[w6]) Y F (by show p.2.2.1.2.2.1.length<8;omega) ht (Zdf (p:=(p.1,e,p.2.2)) (t:=t) P (show ZAV Wa l (p.1,e,p.2.2)from S) (Z X) (show WI o p from(hu.wi H p J K).1 F) ht (by show p.2.2.1.2.2.1.length<8;omega) F).2;obtain⟨-,w,u,k⟩:=xa T;have x:=WX List.length x2;rw[YM,x3 T]at x;have x:i.1.2.2.1.2.2.1.length=E+1:=by rw[x];show p.2.2.1.2.2.1.length+1=_;omega
  rw[x]at u k;have k:i.2.2.1=p.2.2.2.2.2.1.map (λq=>MZ q ((E+1:Nat):Int))++[w]:=k;rw[x9]at k;exact⟨T,x,SM.gf hk Y hs hw u o7 k,w,k⟩
 refine(ZiX J K r3 x6 ⟨x8.1,Y⟩ (λy0 H xs hf=>by rw[W]at hf;cases hf) h.ni h.rl λe t i M N O _=>(hS e t i M N O).2.2.1).mono λr⟨e,t,M,N,i,O,g4⟩=>?_;obtain⟨s1,s2,s3,w,s4⟩:=hS e t i M N O;obtain⟨U,-⟩|⟨-,c',xv,rfl,⟨⟨R,x',d,-,-⟩,f,-⟩,k3⟩:=g4;·exact(U s1).elim
 refine⟨⟨R,d⟩,⟨H,i.1,by dsimp only;rw[d];exact J,X0 K,s2⟩,f,λx7=>?_⟩;obtain x0|⟨q,rfl,u,k⟩:=hw;·exact(x7 x0).elim
 obtain⟨U,z1,-,-,y4,z2⟩:=k3 (MZ q ((E+1:Nat):Int)) [w] s4 rfl;obtain⟨b2,b3,b4,b5⟩:=sV (m:=MZ q ((E+1:Nat):Int)) rfl (by show rg 0;unfold rg;omega) (by show rg q.1;unfold rg;omega) (by show rg q.2.1;rw[k];exact hs) (by show rg ((E+1:Nat):Int);unfold rg;omega) (by show(0:Int)<=0/\(0:Int)<=13;omega);rw[gF (c:=SD B (sl B++[B.2.1])) (t:=q.1) h.ni Y Gn b3 Y W U z1]at z2;refine⟨(q.1,some g.length),?_,u⟩;show _∈(nt c').1;rw[z2];exact List.mem_append_left _ XQ
def LS(d:Nat->Nat)(f g h T:Nat)(c:Z5)(ds:L Yb)(rs:L YY)(cs:L Y6)(ss:L Xn)(ms:L WZ)(ps:L Yz)(bs:L Zt):Prop:=∃a e b,XE (BU a) T f g h e b c ds rs cs ss ms ps bs/\UX d a c cs ps bs/\∃i,VG a (s0 Wa) b i
def LS.do{ds:L Yb}{o:Rx}(h:LS b c d f j B ds E A C D z l)(n:j<=230)(s:Hm o)(p:o.1≠11/\o.1≠12)(q:o.1=3->(1<=o.2.2.2.2.1.length/\o.2.2.2.2.1.length<=32)/\o.2.2.2.2.2.1.length<=64):W (UK B ds E A C D z l o) λr=>LS b c d f (j+1) r.1 r.2.1 r.2.2.1 r.2.2.2.1 r.2.2.2.2.1 r.2.2.2.2.2.1 r.2.2.2.2.2.2.1 r.2.2.2.2.2.2.2.1:=by have⟨w,v,u,i,k,m⟩:=h;exact(Zn9 i k m n s p q).mono λr⟨t,g,a,e⟩=>⟨t,g,a,e⟩
def LS.cx{ds:L Yb}(h:LS b c d f j B ds E A C D z l)(g:y<2):∃x,A[b y]?=some x:=by have⟨o,k,i,m,e,n⟩:=h;obtain⟨-,x,a,-⟩:=e.cu.2.1 y g;exact⟨x,a⟩
def LS.seq{ds:L Yb}(h:LS b c d f j B ds E A C D z l)(q:j<=230)(i:y<2)(hx:A[b y]?=some p):rg p.2.2.2.2.1:=by have⟨r,n,k,e,g,o⟩:=h;obtain⟨-,s,a,m,-⟩:=g.cu.2.1 y i;rw[hx]at a;cases a;have:=e.cb.2.2.2.2.2.1;unfold rg;omega
def Zc2{ds:L Yb}{o:Rx}(h:LS b c d f j B ds E A C D z l)(Q:j<=230)(F:y<2)(H:o.2.1=y)(u:(nt B).1=[])(hx:A[b y]?=some p)(x:PW c B ds z [] G):V (UK B ds E A C D z l o) λr=>(o.1=4->p.2.2.2.1=-1->r=(B,ds,E,A,C,D,z,l,12,XB))/\(o.1=4/\p.2.2.2.1≠-1\/o.1=3/\p.2.2.2.1=-1/\(1<=o.2.2.2.2.1.length/\o.2.2.2.2.1.length<=32)/\o.2.2.2.2.2.1.length<=64->r.2.2.2.2.2.2.2.2.1=0/\PW c r.1 r.2.1 r.2.2.2.2.2.2.1 [] G/\∃g,r.2.2.2.1[b y]?=some g/\g.2.2.2.1≠-1/\OP y g.2.2.2.2.1 r.1 r.2.2.2.2.2.2.2.1):=by
 by_cases w:o.1=3\/o.1=4;·rw[Zn7 w];have⟨R,i,O,a,v,P⟩:=h;refine V.Zs _ (ZmA v a.ni a.rl a.cl.1 (by have:=a.cb.2.2.2.2.2.1;omega) F H u hx) λr k=>ZD.2 ⟨λe m=>by rw[k.1 e m],λe=>?_⟩;·have⟨n,q,s⟩:=k.2 e;have⟨I,K,t,i,J,N,M⟩:=x;exact⟨n,⟨I,K,t,i,J,q.trans N,M⟩,s⟩
 ·exactλr _=>⟨Y,Y⟩
def rL(e:Nat->Nat)(f k E:Nat)(s a:Int)(c:Z5)(ds:L Yb)(cs:L Y6)(ps:L Yz):Prop:=∃b d,cs[e k]?=some b/\b.2.2.2.2.1=s/\(nt c).1=[]/\PW f c ds ps d E/\WK k s d/\(b.2.2.2.1≠-1/\a=0/\d≠[]\/b.2.2.2.1=-1/\1<=a/\a<=(E:Int))
def AT(e:Nat->Nat)(f k E:Nat)(s:Int)(c:Z5)(ds:L Yb)(cs:L Y6)(ps:L Yz)(bs:L Zt):Prop:=∃b a d,cs[e k]?=some b/\b.2.2.2.2.1=s/\b.2.2.2.1≠-1/\PW f c ds ps [] E/\1<=a/\a<=(E:Int)/\NM c bs (3+(k:Int)) d/\AM s a d
def Znr{ds:L Yb}{o:Rx}(h:LS b c d f j B ds E A C D z l)(m:y<2)(J:o.1=7)(K:o.2.2.1=0)(hx:A[b y]?=some p)(n:p.2.2.2.1≠-1)(H:OP y p.2.2.2.2.1 B l)(I:PW c B ds z [] G):V (UK B ds E A C D z l o) λr=>r.2.2.2.2.2.2.2.2.2.2.1=0/\(rL b c y G p.2.2.2.2.1 0 r.1 r.2.1 r.2.2.2.1 r.2.2.2.2.2.2.1\/0<(nt r.1).1.length/\AT b c y G p.2.2.2.2.1 r.1 r.2.1 r.2.2.2.1 r.2.2.2.2.2.2.1 r.2.2.2.2.2.2.2.1):=by
 have⟨W,S,O,w,x,F⟩:=h;obtain⟨-,Z,k,-,u,-⟩:=x.cu.2.1 y m;rw[hx]at k;cases k;rw[gU J,K];refine V.Zs _ (Zns w F m u H I) λr M=>ZD.2 ?_;obtain⟨R,U,Q,X,rfl,i,-,⟨rfl,v,N,e,g,a,s⟩|⟨e,q,rfl,g,a⟩⟩:=M;·refine⟨rfl,.inr ⟨?_,p,v,N,hx,rfl,n,i,e,g,a,s⟩⟩;obtain⟨T,P,t,-⟩:=a;rw[t];exact Nat.one_pos
 ·exact⟨rfl,.inl ⟨p,[q],hx,rfl,e,i,.inr ⟨q,rfl,g,a⟩,.inl ⟨n,rfl,Zc⟩⟩⟩
def Zmc{ds:L Yb}{o:Rx}(h:LS b c d f j B ds E A C D z l)(O:y<2)(P:o.1=7)(Q:o.2.2.1=0)(M:AT b c y G s B ds A z l):V (UK B ds E A C D z l o) λr=>rL b c y G s r.2.2.2.2.2.2.2.2.2.2.1 r.1 r.2.1 r.2.2.2.1 r.2.2.2.2.2.2.1:=by
 obtain⟨qb,x2,x0,i,K,h3⟩:=h;obtain⟨x3,e,S,t,u,v,⟨q,U,H,J,T,w1,w2,w3,w4,w5,w6,w7⟩,a5,a6,⟨R,x1,a,x,F⟩,w⟩:=M;rw[gU P,Q];refine V.Zs _ (ZeE (e:=e) K.cu i.ni i.rl i.cl.1 O t u (λm q b' g I k=>?_) (by rw[a];exact Nat.one_pos)) λr⟨X,Z,r3,r4,r5,x',r6,r7,r8⟩=>ZD.2 ?_;·rw[a]at g;obtain rfl:=YV g;cases I;rw[x]at k;cases k;exact .inr ⟨rfl,S,F,w⟩
 ·have N:r.2.1=ds:=r5 λm g=>by rw[a]at g;rw[YV g];omega
  have p:(nt r.1).1=[]:=Ok (by rw[a,VJ]at r4;omega);refine⟨x',[],r6,r7,p,⟨q,U,H,J,T,Z.trans w1,by rw[X];exact w2,w3,w4,by rw[N];exact w5,w6,w7⟩,.inl rfl,?_⟩;obtain⟨-,-,W⟩|⟨-,q1,q2⟩:=r8;·obtain⟨m,n,-⟩:=W ⟨(3+(y:Int),some R),by rw[a];exact XQ,rfl⟩ v;rw[p]at n;cases n
  ·omega
def yU(d:Nat->Nat)(k N:Nat)(s a:Int)(c:Z5)(cs:L Y6)(ps:L Yz)(bs:L Zt):Prop:=EP c ps N/\NF (GF k s (N:Int)) (nt c) bs/\∃b,cs[d k]?=some b/\b.2.2.2.2.1=s/\(b.2.2.2.1≠-1/\a=0/\AF k c\/b.2.2.2.1=-1/\1<=a/\a<=(N:Int))
def Zxj{ds:L Yb}{o:Rx}(h:LS b c d f j B ds E A C D z l)(w:j<=200)(x:y<2)(hs:rg s)(u:G<8)(H:o.1=6)(v:rL b c y G s F B ds A z):V (UK B ds E A C D z l o) λr=>yU b y (G+1) s F r.1 r.2.2.2.1 r.2.2.2.2.2.2.1 r.2.2.2.2.2.2.2.1:=by have⟨Q,P,O,p,q,t⟩:=h;have⟨N,R,e,g,i,k,m,n⟩:=v;rw[ZdO H];refine V.Zs _ (Zxk p q t w x hs i k u m) λr I=>ZD.2 ?_;obtain⟨-,J,K,M⟩:=I;refine⟨J,K,N,e,g,n.imp (λa=>⟨a.1,a.2.1,M a.2.2⟩) λa=>⟨a.1,a.2.1,Y⟩⟩
def Zpm{ds:L Yb}{o:Rx}(h:LS b c d f j B ds E A C D z l)(v:y<2)(hN:1<=G)(w:o.1=7)(x:o.2.2.1=0)(q:0<(nt B).1.length)(u:yU b y G s F B A z l):V (UK B ds E A C D z l o) λr=>(nt r.1).1.length+1=(nt B).1.length/\yU b y G s (V3 F r.2.2.2.2.2.2.2.2.2.2.1) r.1 r.2.2.2.1 r.2.2.2.2.2.2.1 r.2.2.2.2.2.2.2.1:=by
 have⟨qb,x1,x0,a,t,h3⟩:=h;have⟨⟨I,J,m,n,p⟩,e,x2,g,i,k⟩:=u;rw[gU w,x];refine V.Zs _ (ZeE t.cu a.ni a.rl a.cl.1 v g i e q) λr H=>ZD.2 ?_;obtain⟨O,P,Q,R,-,W,S,T,U⟩:=H;refine⟨R,⟨I,J,P.trans m,by rw[O];exact n,p⟩,Q,W,S,T,?_⟩;rw[ow];obtain⟨K,M,N⟩|⟨K,M,N⟩:=U
 ·obtain⟨X,Z,y3⟩|⟨X,Z,y3⟩:=k;·simp_all
  ·omega
 ·omega
def Zev:Ka B=some ((nt B).1.length:Int):=by unfold Ka vE;rw[Go.R.bs];rfl
def PW.ep{ds:L Yb}(h:PW j B ds z I c):EP B z c:=by obtain⟨e,f,g,i,k,a,b,-,-,-,-,d⟩:=h;exact⟨e,f,a,b,d⟩
def LS.up{ds:L Yb}(h:LS b c d f j B ds E A C D z l){T'}(k:j<=T'):LS b c d f T' B ds E A C D z l:=by have⟨m,e,a,g,i⟩:=h;exact⟨m,e,a,g.up k,i⟩
def ZpC:W (bU e) λb=>b=true->e.1≠11/\e.1≠12:=by refine Yu _ (λd=>Zb λa=>?_) (λ_=>Zb λa=>Zp) λb c=>Zb c;grind
def ZmI{ds:L Yb}(h:XE (BU λ_=>0) 1 j c d 1 [] B ds E A C D (z++[k]) l)(h1:B.2.2.2.2.1=some z.length)(h2:UB k=s0 Wa)(b:k.2.2.2.2.2=([],0))(w:nt B=([],0))(x:B.2.2.2.2.2.2.1.length=2)(e:CN f B.2.2.2.2.2.2.1 A)(y:ud B=[]):LS (λi=>f+i) j c d 1 B ds E A C D (z++[k]) l:=by
 refine⟨λ_=>0,1,[],h,⟨λv g s F=>Xk,⟨Zc,λi G=>?_,λf H t=>Xk⟩,λg m a u=>?_⟩,s0 _,rfl⟩;·have⟨n,o,p,q,r⟩:=e.2 i Y;exact⟨o,n,p,Y,r,.inl q⟩
 ·rw[h1]at a;have:m=k:=Xk;subst this;exact⟨λ_=>WI.nil (by rw[b]),UI.mpp (qb:=λ_=>0) (by rw[h2];exact UI.s0)⟩
def ZlZ{ds:L Yb}{rs:L YY}{cs:L Y6}{ss:L Xn}{ms:L WZ}{ps:L Yz}{bs:L Zt}{ops}{who}(hb:∀b∈bs,b.length<=20000):W (bT ds rs cs ss ms ps bs ops who) λo=>o.2.2.2.2.2.2.2=true:=by
 unfold bT;refine Zn ((Zc5 hb).mono λC⟨a1,a2⟩=>Yu (λe=>e=false->(ops.length:Int)<=20/\∀o∈ops,Hm o) (λI=>by rw[a1]at I;simp only[Wx]at I) (λ_=>Zn ((Zk0 Y).mono λz5 hf=>Zb λc=>hf (by simpa only[Wx]using c))) λe r=>Zr ⟨λ_=>Zn ((Zc5 a2).mono λo ho=>Zb ho.1),λI=>?_⟩);obtain⟨bt,zv⟩:=r I;refine Zn ((ZmJ (B:=BU λ_=>0) (ms:=C.2.2.2.2.1) a2).mono λo ho=>?_);obtain⟨j,t,u,c5,bb,o1,o2,o3,o4,o5,-,-,-,-,o6,-,-,o7,o8,o9⟩:=ho;rw[o3]at o1;have U:=ZmI o1 o2 o4 o5 o6 o7 o8 o9;rw[<-o3]at U;generalize hJ:(λd=>C.2.2.1.length+d:Nat->Nat)=i at U;have n:(who%2#8).toNat<2:=by rw[kZ];exact Ez _ YI
 refine Zn (W.Tl (λa=>∃d:Nat,a.1=d/\d<=ops.length/\LS i j t u (1+d) a.2.2.2.2.2.2.2.2 a.2.1 a.2.2.1 a.2.2.2.1 a.2.2.2.2.1 a.2.2.2.2.2.1 a.2.2.2.2.2.2.1 a.2.2.2.2.2.2.2.1) (λa=>LS i j t u (1+ops.length) a.2.2.2.2.2.2.2.2 a.2.1 a.2.2.1 a.2.2.2.1 a.2.2.2.2.1 a.2.2.2.2.2.1 a.2.2.2.2.2.2.1 a.2.2.2.2.2.2.2.1) (λa=>(ops.length-a.1).toNat) ⟨0,rfl,W7 _,U⟩ ZB (λa h=>?_) λa h=>?_)
 ·obtain⟨u1,xa,yt,x9,yv,yf,ys,x8,E⟩:=a;obtain⟨d,w,N,m⟩:=h;dsimp only at w m;subst w;refine Zr ⟨λF=>?_,λF=>Zb ?_⟩
  ·simp only[Wx]at F;refine Zn (YN ⟨ZB,λg G=>Yu (λe=>e=false->g.1=3->(1<=g.2.2.2.2.1.length/\g.2.2.2.2.1.length<=32)/\g.2.2.2.2.2.1.length<=64) (λq=>?_) (λq=>Zb λ_ c=>?_) λz1 ab=>Yu (λe=>e=false->(g.1=3->(1<=g.2.2.2.2.1.length/\g.2.2.2.2.1.length<=32)/\g.2.2.2.2.2.1.length<=64)/\g.1≠11/\g.1≠12) (λq=>Zb λc=>by cases c) (λq=>Zn (ZpC.mono λp x=>Zb λc=>⟨ab q,x (by simpa only[Wx]using c)⟩)) λz2 ad=>?_⟩);·refine Yu (λe=>e=false->1<=g.2.2.2.2.1.length/\g.2.2.2.2.1.length<=32) (λ_=>Zb λc=>by cases c) (λz=>Zb λc=>by simp only[Wx]at z c;omega) λp x=>Yu (λe=>e=false->(1<=g.2.2.2.2.1.length/\g.2.2.2.2.1.length<=32)/\g.2.2.2.2.2.1.length<=64) (λ_=>Zb λc=>by cases c) (λz=>Zb λc=>⟨x z,by simp only[Wx]at c;omega⟩) λy2 a8=>Zb λc _=>a8 c
   ·rw[M9]at q;exact(q c).elim
   ·dsimp only;rw[wS Y];refine Zr ⟨λ_=>Zb ⟨⟨d+1,rfl,Y,m.up (T':=1+(d+1)) Y⟩,ZB⟩,λq=>?_⟩;obtain⟨y1,y2⟩:=ad q;refine Zn ((m.do Y (zv g (X2 G)) y2 y1).mono λcc hr=>Zb ⟨⟨d+1,rfl,Y,hr⟩,ZB⟩)
  ·simp only[Wx]at F;have:d=ops.length:=Y;subst this;exact m
 obtain⟨u1,xa,yt,x9,yv,yf,ys,x8,E⟩:=a;dsimp only at h⊢;obtain⟨qb,z6,R,S,h2,h3⟩:=h;refine Zn ((ZwF S h2 h3 Y).mono λ⟨v,z4,ar,z3,av,ag,al,z0⟩hr=>?_);obtain⟨-,-,g',R',r1,r2,r3,M,r5⟩:=hr;dsimp only at r1 r2 r3 M r5⊢;obtain⟨A,hW⟩:=r5.pw;have K:LS i j t u 24 v z4 ar z3 av ag al z0:=LS.up ⟨qb,g',R',r1,r2,r3⟩ Y;obtain⟨bx,p1,d1,gf,n1,w1,w2,w3,w4,w5,w6,w7⟩:=id hW;refine Gx.2 ⟨YI,?_⟩;have zz:Jn v=some v.2.2.2.2.1:=rfl;rw[zz,Go.R.bs,V1 w1,gt w2,Go.R.bs,V1 w1,gt w2,be Oc,w7];refine Zr ⟨λ_=>Zb rfl,λgE=>?_⟩;generalize y6:Zi (Z7 (Nx who 2#8))=kk;have y5:kk=(((who%2#8).toNat:Nat):Int):=y6.symm;clear y6;generalize(who%2#8).toNat=k at n y5;subst y5;obtain⟨yy,hx⟩:=K.cx n;have G:∀{C b:Int},Hm (C,b,0,0,[],[],[]):=λ{C b}=>⟨W7 _,W7 _,W7 _⟩;refine Zn (((K.do (o:=(4,(k:Int),0,0,[],[],[])) Y G ⟨(by decide:(4:Int)≠11),(by decide:(4:Int)≠12)⟩ λc=>absurd (show(4:Int)=3from c) YI).vw (Zc2 K Y n rfl M hx hW)).mono λq⟨q1,z,q3⟩=>?_);refine Yu (λa=>LS i j t u 26 a.2.2.2.2.2.2.2 a.1 a.2.1 a.2.2.1 a.2.2.2.1 a.2.2.2.2.1 a.2.2.2.2.2.1 a.2.2.2.2.2.2.1/\PW j a.2.2.2.2.2.2.2 a.1 a.2.2.2.2.2.1 [] A/\∃x',a.2.2.1[i k]?=some x'/\x'.2.2.2.1≠-1/\OP k x'.2.2.2.2.1 a.2.2.2.2.2.2.2 a.2.2.2.2.2.2.1) (λf=>?_) (λf=>Zb ?_) λa h=>?_
 ·by_cases y:yy.2.2.2.1=-1;·have c:=z rfl y;subst c;have hl:(1<=([122#8,101#8,100#8]:Zt).length/\([122#8,101#8,100#8]:Zt).length<=32)/\([118#8]:Zt).length<=64:=YI;refine Zn (((q1.do (o:=(3,(k:Int),0,0,[122#8,101#8,100#8],[118#8],[])) Y ⟨by show(3:Nat)<=100;decide,by show(1:Nat)<=9000;decide,W7 _⟩ ⟨(by decide:(3:Int)≠11),(by decide:(3:Int)≠12)⟩ λ_=>hl).vw (Zc2 (o:=(3,(k:Int),0,0,[122#8,101#8,100#8],[118#8],[])) K Y n rfl M hx hW)).mono λq' a0=>Zb ?_);obtain⟨y1,-,y3⟩:=a0;obtain⟨-,D,H⟩:=y3 (.inr ⟨rfl,y,hl⟩);exact⟨y1,D,H⟩
  ·have:=(q3 (.inl ⟨rfl,y⟩)).1;rw[this]at f;simp only[Wx]at f
 ·by_cases y:yy.2.2.2.1=-1;·have c:=z rfl y;rw[c]at f;simp only[Wx]at f;omega
  ·obtain⟨-,D,H⟩:=q3 (.inl ⟨rfl,y⟩);exact⟨q1.up Y,D,H⟩
 obtain⟨bh,cd,b6,cl,c0,c7,b0,c2⟩:=a;obtain⟨J,y4,x2,x4,a7,x1⟩:=h;dsimp only at J y4 x4 x1⊢;have y7:=J.seq Y n x4;generalize hs:x2.2.2.2.2.1=s at x1 y7;have x3:Hm (7,0,0,0,[],[],[]):=G;have T:(7:Int)≠11/\(7:Int)≠12:=YI;refine Zn (((J.do (o:=(7,0,0,0,[],[],[])) Y x3 T λc=>absurd (show(7:Int)=3from c) YI).vw (Znr (o:=(7,0,0,0,[],[],[])) J n rfl rfl x4 a7 (by rw[hs];exact x1) y4)).mono λr3⟨V,z7,x0⟩=>?_);rw[hs]at x0;rw[Zev,Go.R.bs];refine Yu (λa=>LS i j t u 28 a.2.2.2.2.2.2.2.2 a.2.1 a.2.2.1 a.2.2.2.1 a.2.2.2.2.1 a.2.2.2.2.2.1 a.2.2.2.2.2.2.1 a.2.2.2.2.2.2.2.1/\rL i j k A s a.1 a.2.2.2.2.2.2.2.2 a.2.1 a.2.2.2.1 a.2.2.2.2.2.2.1) (λf=>?_) (λf=>Zb ?_) λa h=>?_
 ·simp only[Wx]at f;obtain⟨xx,cp,-,-,c,-⟩|⟨-,zc⟩:=x0;·rw[c]at f;simp at f
  ·exact Zn (((V.do (o:=(7,0,0,0,[],[],[])) Y x3 T λc=>absurd (show(7:Int)=3from c) YI).vw (Zmc (o:=(7,0,0,0,[],[],[])) V n rfl rfl zc)).mono λM a3=>Zb a3)
 ·simp only[Wx]at f;obtain hM|⟨c,-⟩:=x0;·exact⟨V.up Y,by dsimp only;rw[z7];exact hM⟩
  ·omega
 obtain⟨a4,bi,ch,b7,cm,c1,c8,b4,c4⟩:=a;obtain⟨X,xv⟩:=h;dsimp only at X xv⊢;refine Zn (((X.do (o:=(6,0,0,0,[],[],[])) Y G (by decide:(6:Int)≠11/\(6:Int)≠12) λc=>absurd (show(6:Int)=3from c) YI).vw (Zxj (o:=(6,0,0,0,[],[],[])) X Y n y7 (by simp only[Wx]at gE;omega) rfl xv)).mono λr5⟨Z,zs⟩=>?_);have y0:∀{x7 v ds rs cs ss ms ps bs},LS i j t u x7 v ds rs cs ss ms ps bs->(nt v).1.length<=64:=λ{x7 v ds rs cs ss ms ps bs}P=>by obtain⟨qb,z6,R,S,-⟩:=P;exact S.ni.1
 refine Zn (W.Tl (λa=>∃d:Nat,a.2.1=d/\(nt a.2.2.2.2.2.2.2.2.2).1.length+d<=64/\LS i j t u (29+d) a.2.2.2.2.2.2.2.2.2 a.2.2.1 a.2.2.2.1 a.2.2.2.2.1 a.2.2.2.2.2.1 a.2.2.2.2.2.2.1 a.2.2.2.2.2.2.2.1 a.2.2.2.2.2.2.2.2.1/\yU i k (A+1) s a.1 a.2.2.2.2.2.2.2.2.2 a.2.2.2.2.1 a.2.2.2.2.2.2.2.1 a.2.2.2.2.2.2.2.2.1) (λa=>(nt a.2.2.2.2.2.2.2.2.2).1=[]/\LS i j t u 93 a.2.2.2.2.2.2.2.2.2 a.2.2.1 a.2.2.2.1 a.2.2.2.2.1 a.2.2.2.2.2.1 a.2.2.2.2.2.2.1 a.2.2.2.2.2.2.2.1 a.2.2.2.2.2.2.2.2.1/\yU i k (A+1) s a.1 a.2.2.2.2.2.2.2.2.2 a.2.2.2.2.1 a.2.2.2.2.2.2.2.1 a.2.2.2.2.2.2.2.2.1) (λa=>(nt a.2.2.2.2.2.2.2.2.2).1.length) ⟨0,rfl,y0 Z,Z,zs⟩ (by have:=y0 Z;dsimp only;omega) (λa h=>?_) λa h=>?_)
 ·obtain⟨ai,ui,xa,yt,x9,yv,yf,ys,x8,E⟩:=a;obtain⟨d,w,N,m,O⟩:=h;dsimp only at w N m O;subst w;refine Yu (λe=>e=true↔0<(nt E).1.length) (λ_=>?_) λf=>by simp only[Wx]at f;omega λe r=>Zr ⟨λf=>?_,λf=>Zb ?_⟩;·rw[Zev,Go.R.bs];refine Zb ?_;simp only[Wx];omega
  ·have Q:=r.1 f;refine Zn (((m.do (o:=(7,0,0,0,[],[],[])) Y x3 T λc=>absurd (show(7:Int)=3from c) YI).vw (Zpm (o:=(7,0,0,0,[],[],[])) m n (Nat.succ_pos _) rfl rfl Q O)).mono λr6⟨D,H,b3⟩=>Zb ?_);dsimp only;rw[wS Y];exact⟨⟨d+1,rfl,ZB,D,b3⟩,ZB⟩
  ·have Q:(nt E).1=[]:=Ok (by
    have:¬0<(nt E).1.length:=λP=>by rw[r.2 P]at f;cases f
    omega);exact⟨Q,m.up Y,O⟩
 obtain⟨a6,u6,bl,ck,b8,cn,c3,ca,b5,l⟩:=a;obtain⟨xb,⟨cb,g6,R6,xh,xs,-⟩,⟨j6,p6,v1,v2,v3⟩,-,x6,v4,v5,v6⟩:=h;dsimp only at xb xh xs v1 v2 v3 v4 v6⊢;obtain⟨v6,v7,v8⟩:x6.2.2.2.1=-1/\1<=a6/\a6<=((A+1:Nat):Int):=by
  obtain⟨-,-,z5,f1,-⟩|q:=v6;·rw[xb]at f1;cases f1
  ·exact q
 have a5:∀(x5:Nat)(p:Jt),(ud l)[x5]?=some p->p.1=k->p.2.2.2.1≠0:=λx5 p w N=>by
  obtain q|⟨d,xi,t1,t2,t3,t4⟩:=xs.cu.2.2 x5 p w;·omega
  ·have:d=k:=Y;subst this;rw[v4]at t3;cases t3;omega
 have bv:(ud l).length<=1000:=by have:=xh.cb.2.2.2.2.2.1;omega
 rw[show ga l=Yt 0 (Zj (ud l)) (some (ud l))from rfl];refine Zn (Xi ⟨by simp only[Wx];omega,Zb (WM (W.VQ (λa=>∃d:Nat,a=d/\d<=(ud l).length) (λ_=>True) (λa=>((ud l).length-a).toNat) (λ_=>False) ⟨0,rfl,W7 _⟩ Y (λa h=>?_) (λa _=>?_) λ_ c=>c.elim))⟩)
 ·obtain⟨d,rfl,hi⟩:=h;refine Zr ⟨λF=>?_,λ_=>Zb trivial⟩;simp only[Wx]at F;refine Zn (YN ⟨Y,λp x=>?_⟩);rw[WL]at x;refine Yu (λe=>e=false) (λgk=>Zn (YN ⟨Y,λy' y8=>Zb ?_⟩)) (λ_=>Zb rfl) λe r=>Zr ⟨λq=>(by rw[r]at q;cases q),λ_=>Zb ?_⟩;·rw[WL,x]at y8;cases y8;rw[M9];exact a5 d p x (by rwa[Ur]at gk)
  ·rw[wS Y];exact⟨⟨d+1,rfl,Y⟩,ZB⟩
 ·dsimp only;rw[show Jn l=some l.2.2.2.2.1from rfl,Go.R.bs,V1 v1,gt v2,be Oc,v3];refine Yu (λe=>e=true) (λ_=>Zb (by simp only[Wx];exact v8)) λq=>by simp only[Wx]at q;omega λe r=>Zb r
end Go.R
