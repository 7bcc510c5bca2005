import Derived.Test.YtnboodbndkcnaaaGreatDoorProg
import Derived.Test.YtnboodbndkcnaaaGreatDoorG6
set_option linter.all false
namespace Go.Sl
def wV:=@Option.eq_none_or_eq_some
def nv:=@List.mem_or_eq_of_mem_set
def dM:=@List.getElem?_map
def dN:=@List.getElem?_replicate
def Zgk:=@Classical.byContradiction
def Zgo:=@List.eraseIdx_eq_take_drop_succ
def Zgp:=@List.mem_of_mem_eraseIdx
end Go.Sl
namespace Go.R
open Go.Sl
def P8(q:Tf):Prop:=(0<=q.1/\q.1<2147483648)/\(0<=q.2.1/\q.2.1<2147483648)/\q.2.2.1.length<=32/\q.2.2.2.length<=64
def OT(b:Zt):Zt:=Y6 (BitVec.ofInt 64 (b.length:Int)) 2++b
def Pb(q:Tf):Zt:=w4 (Z6 32 q.1)++(w4 (Z6 32 q.2.1)++(OT q.2.2.1++OT q.2.2.2))
def UC(t:Int)(l:List Tf):Zt:=w4 (Z6 32 t)++(Y6 (BitVec.ofInt 64 (l.length:Int)) 2++(l.map Pb).flatten)
theorem xH(b):(OT b).length=2+b.length:=by unfold OT;simp[WY]
theorem Zjh{q}(h:P8 q):(Pb q).length<=108:=by have:=h.2.2;unfold Pb;simp[Yw,WW,xH];omega
theorem AW:∀{l:List Tf},(∀q∈l,P8 q)->(l.map Pb).flatten.length<=108*l.length|[],_=>Zb|q::l,h=>by have c:=Zjh (h q Zb);have d:=AW λb a=>h b (XG _ a);grind
theorem kq{t}{l}(a:l.length<=16)(h:∀q∈l,P8 q):(UC t l).length<=1734:=by have:=AW h;unfold UC;simp only[Yw,WW,WY];omega
theorem di{l b}(h:l.length<=3000000000)(a:b.length<=8192):NG (l,false) b=some (l++OT b,false):=by
 rw[vH Zm];have:W2 (l,false) b.length 8192=(l,false):=by unfold W2;rw[Yg Y]
 rw[this];rfl
theorem dg{l}{n:Nat}(h:l.length<=3000000000)(a:n<=4096):OX (l,false) n=some (l++Y6 (BitVec.ofInt 64 n) 2,false):=by
 rw[mb Zm];have:W2 (l,false) n 4096=(l,false):=by unfold W2;rw[Yg Y]
 rw[this];rfl
theorem rdC{n:Nat}{l}{m:Int}(h:n<=m)(h2:n<=4096):MH (Y6 (BitVec.ofInt 64 n) 2++l,false) m=some ((l,false),(n:Int)):=by rw[xa];unfold Md;rw[pk2 Y,Zcf (n:=n) Y,Yg Zm,KX _ _ (by rfl)]
theorem Zmc{t}{l}(j:l.length<=16)(h:∀q∈l,P8 q):qu t l=some (UC t l,0):=by
 have s:=AW h;unfold qu;rw[be (OW Zb),be (dg (n:=l.length) (by simp[WW]) Y)];refine Vo (Zj (W.UQ (λb=>∃a:Nat,b.1=a/\a<=l.length/\b.2=([]++w4 (Z6 32 t)++Y6 (BitVec.ofInt 64 (l.length:Int)) 2++((l.take a).map Pb).flatten,false)) (λb=>b.2=(UC t l,false)) (λb=>(l.length-b.1).toNat) ⟨0,rfl,Y,Zb⟩ Zw (λb e=>?_) λb e=>?_))
 ·obtain⟨u,v⟩:=b;obtain⟨a,f,o,g⟩:=e;dsimp only at f g;subst f g;refine Zp ⟨λd=>?_,λd=>J ?_⟩
  ·simp only[Wx]at d;refine Zj (YF ⟨Zw,λq c=>?_⟩);rw[Vz]at c;have k:=AW (l:=l.take a) λm c=>h m (wI c);rw[UF]at k;generalize i:[]++w4 (Z6 32 t)++Y6 (BitVec.ofInt 64 (l.length:Int)) 2++((l.take a).map Pb).flatten=P;have p:P.length<=100000:=by rw[<-i];simp only[Yw,Vf,WW,WY];omega
   have r:=(h q (X6 c)).2.2;rw[be (OW Y),be (OW (by simp only[Yw,WW];omega)),be (di (by simp only[Yw,WW];omega) Y),be (di (by simp only[Yw,WW,xH];omega) Y),show Zk (Zu (a:Int) 1)=((a+1:Nat):Int)by simp only[Wx];rw[ZK Y];rfl];refine J ⟨⟨a+1,rfl,Y,?_⟩,Zw⟩;rw[O2,c];simp only[Option.toList,Vg,nr,XF,O1,LC,wB,Xp];rw[<-Z5,i];unfold Pb;simp only[Z5]
  ·simp only[Wx]at d;show(([]++w4 (Z6 32 t)++Y6 (BitVec.ofInt 64 (l.length:Int)) 2++((l.take a).map Pb).flatten,false):ZO)=(UC t l,false);rw[VT Y];unfold UC;simp only[UW,Z5]
 ·rw[e,be (Iq (by have:=kq (t:=t) j h;omega))];exact J rfl
theorem j8{b}(hb:b.length<=4000000):W (J7 b) λo=>(0<=o.1/\o.1<4294967296)/\(o.2.1.length<=16/\∀q∈o.2.1,P8 q)/\∀t l,l.length<=16->(∀q∈l,P8 q)->0<=t->t<4294967296->b=UC t l->o=(t,l,true):=by
 unfold J7;rw[be (QN Y),be RC,be xa];obtain⟨c1,E,c3⟩:=@lN (tk ((b,false):ZO) 4).1 16 Y;have c0:=(@UT ((b,false):ZO) 4).1;dsimp only at c0 c1 E c3⊢;have y:∀t l,l.length<=16->(∀q∈l,P8 q)->0<=t->t<4294967296->b=UC t l->(pk ((b,false):ZO) 4).1.setWidth 32=Z6 32 t/\Md (tk ((b,false):ZO) 4).1 16=(((l.map Pb).flatten,false),(l.length:Int)):=by intro t l g d e f c;have v:=Lu (Z6 32 t) (Y6 (BitVec.ofInt 64 (l.length:Int)) 2++(l.map Pb).flatten);rw[RC]at v;have v:=XD v;have R:=rdC (n:=l.length) (l:=(l.map Pb).flatten) (m:=16) Y Y;rw[xa]at R;have r3:(tk ((UC t l,false):ZO) 4).1=(Y6 (BitVec.ofInt 64 (l.length:Int)) 2++(l.map Pb).flatten,false):=X7 Prod.fst v;rw[c,r3];exact⟨X7 Prod.snd v,XD R⟩
 generalize Md (tk ((b,false):ZO) 4).1 16=C at*;refine Wo (W.Vy (λh=>∃a:Nat,h.2.1=a/\(a:Int)<=C.2/\h.1.length=a/\(∀q∈h.1,P8 q)/\h.2.2.1.length<=b.length/\∀t l,l.length<=16->(∀q∈l,P8 q)->0<=t->t<4294967296->b=UC t l->h.1=l.take a/\h.2.2=(((l.drop a).map Pb).flatten,false)) (λh=>h.1.length<=16/\(∀q∈h.1,P8 q)/\h.2.2.1.length<=b.length/\∀t l,l.length<=16->(∀q∈l,P8 q)->0<=t->t<4294967296->b=UC t l->h.1=l/\h.2.2=([],false)) (λh=>(C.2-h.2.1).toNat) (λQ=>Q=(0,[],false)/\∀t l,l.length<=16->(∀q∈l,P8 q)->0<=t->t<4294967296->b=UC t l->False) ?_ Zw (λh u=>?_) (λh u=>?_) λQ B=>⟨by rw[B.1];simp,by rw[B.1];simp,λt l g d e f c=>(B.2 t l g d e f c).elim⟩);·refine⟨0,rfl,E,rfl,Zb,Zw,λt l g d e f c=>⟨rfl,?_⟩⟩;rw[(y t l g d e f c).2];rfl
 ·obtain⟨u1,u2,i⟩:=h;obtain⟨a,F,G,e3,z,H,w⟩:=u;dsimp only at F e3 z H w;subst F;refine Zp ⟨λp=>?_,λp=>J ⟨by simp only[Wx]at p;dsimp only;omega,z,H,λt l g d e f c=>?_⟩⟩
  ·simp only[Wx]at p;rw[be RC,be RC];have k1:=@UT i 4;have k2:=@UT (tk i 4).1 4;rw[be (KS Zw)];have N:=@Bh (tk (tk i 4).1 4).1 32 Y;rw[be (KS Zw)];have O:=@Bh (TJ (tk (tk i 4).1 4).1 32).1 64 Y;dsimp only;have P:∀t l,l.length<=16->(∀q∈l,P8 q)->0<=t->t<4294967296->b=UC t l->∃q,l[a]?=some q/\q.1=Ze (Z4 ((pk i 4).1.setWidth 32))/\q.2.1=Ze (Z4 ((pk (tk i 4).1 4).1.setWidth 32))/\q.2.2.1=(TJ (tk (tk i 4).1 4).1 32).2/\q.2.2.2=(TJ (TJ (tk (tk i 4).1 4).1 32).1 64).2/\(TJ (TJ (tk (tk i 4).1 4).1 32).1 64).1=(((l.drop (a+1)).map Pb).flatten,false):=by
    intro t l g d e f c;rw[(y t l g d e f c).2]at p;have A:a<l.length:=by dsimp only at p;omega
    have x:l[a]?=some l[a]:=VB A;have r:=d l[a] (List.getElem_mem A);refine⟨l[a],x,?_⟩;have I:=(w t l g d e f c).2;rw[O0 A,XF,LC]at I;generalize x1:((l.drop (a+1)).map Pb).flatten=rest at*;have x3:rest.length<=3000000000:=by rw[<-x1];have:=AW (l:=l.drop (a+1)) λx2 hx=>d x2 (wH hx);rw[Wn]at this;omega
    have hk:=r.2.2;have S:Tz i=some ((w4 (Z6 32 l[a].2.1)++(OT l[a].2.2.1++(OT l[a].2.2.2++rest)),false),Z6 32 l[a].1):=by rw[I];have:=Lu (Z6 32 l[a].1) (w4 (Z6 32 l[a].2.1)++(OT l[a].2.2.1++(OT l[a].2.2.2++rest)));unfold Pb;simp only[Z5];exact this
    rw[RC]at S;have T:=Lu (Z6 32 l[a].2.1) (OT l[a].2.2.1++(OT l[a].2.2.2++rest));rw[RC]at T;obtain⟨t1,t2⟩:=Prod.mk.inj (XD S);obtain⟨X,Z⟩:=Prod.mk.inj (XD T);rw[<-t1]at X Z;have U:=gQ (b:=l[a].2.2.1) (l:=OT l[a].2.2.2++rest) (m:=32) Y Y (by simp only[Yw,xH];omega);rw[<-Z5,KS (by simp only[Yw,WY,xH];omega)]at U;have V:=gQ (b:=l[a].2.2.2) (l:=rest) (m:=64) Y Y Y;rw[<-Z5,KS (by simp only[Yw,WY];omega)]at V;have t5:TJ (tk (tk i 4).1 4).1 32=((OT l[a].2.2.2++rest,false),l[a].2.2.1):=by rw[X];exact XD U
    have t6:TJ (TJ (tk (tk i 4).1 4).1 32).1 64=((rest,false),l[a].2.2.2):=by rw[t5];exact XD V
    rw[t6,t2,Z,t5];exact⟨(EI r.1.1 (Int.lt_trans r.1.2 YP)).symm,(EI r.2.1.1 (Int.lt_trans r.2.1.2 YP)).symm,rfl,rfl,rfl⟩
   refine Yu (λx0=>x0=false↔Ze (Z4 ((pk i 4).1.setWidth 32))<2147483648/\Ze (Z4 ((pk (tk i 4).1 4).1.setWidth 32))<2147483648) (λk=>J ?_) (λk=>J ?_) λx0 K=>?_;·simp only[Wx]at k⊢;exact⟨λc=>c.elim,λc=>Y⟩
   ·simp only[Wx]at k⊢;exact⟨λc=>⟨k,c⟩,λc=>c.2⟩
   refine Zp ⟨λk=>?_,λk=>?_⟩;·rw[bs];refine J ⟨rfl,λt l g d e f c=>?_⟩;obtain⟨q,D,j,s,-⟩:=P t l g d e f c;have r:=d q (X6 D);rw[K.2 ⟨by rw[<-j];exact r.1.2,by rw[<-s];exact r.2.1.2⟩]at k;cases k
   ·have M:=K.1 k;refine Xa ⟨by simp only[Wx,V9];omega,?_⟩;rw[show Zk (Zu (a:Int) 1)=((a+1:Nat):Int)by simp only[Wx];rw[ZK Y];rfl];refine J ⟨⟨a+1,rfl,Y,by simp only[Wx,Yw,V9];omega,λq x=>?_,by have:=O.1;have:=N.1;dsimp only;omega,λt l g d e f c=>?_⟩,Zw⟩
    ·simp only[Wx]at x;rcases Z1 x with j|j;·exact z q j
     ·rw[YZ j];exact⟨⟨Oi _,M.1⟩,⟨Oi _,M.2⟩,by have:=N.2.1;dsimp only;omega,by have:=O.2.1;dsimp only;omega⟩
    ·obtain⟨q,D,j,s,q3,q4,q5⟩:=P t l g d e f c;refine⟨?_,q5⟩;show u1++[_]=_;rw[O2,D,<-(w t l g d e f c).1,<-j,<-s,<-q3,<-q4];rfl
  ·simp only[Wx]at p;have:=(y t l g d e f c).2;rw[this]at p G;obtain⟨j,s⟩:=w t l g d e f c;dsimp only at p G;exact⟨by rw[j,VT Y],by rw[s,Re Y];rfl⟩
 ·dsimp only;rw[be KR];refine J ⟨?_,⟨u.1,u.2.1⟩,λt l g d e f c=>?_⟩;·have:=((pk ((b,false):ZO) 4).1.setWidth 32).isLt;simp only[Wx];omega
  ·obtain⟨j,s⟩:=u.2.2.2 t l g d e f c;rw[(y t l g d e f c).1,j,s,EI e f];rfl
noncomputable def lr(l:List ZI):ZI:=(I8 l).getD (Zn 32 0#8)
theorem Zk8(l):I8 l=some (lr l):=by obtain⟨b,a,-⟩:=jk;unfold lr;rw[a];rfl
noncomputable def Tt(E:List uJ)(a:List Int)(e:Nat):Ni:=((e:Int),a.getD (e-1) 0,(E.map (·.2.1)).getD (e-1) (Zn 32 0#8),lr ((E.map (·.2.2.2.1)).take e))
theorem Zki{E b}{a c}{e}(h1:1<=e)(h2:e<=E.length)(d:a.length=E.length):Tt (E++b) (a++c) e=Tt E a e:=by unfold Tt;simp only[Vg,Rf];rw[Uy Y,Uy Zm,MT Zm]
theorem Zkk{p}{e:Nat}(hs:p.2.2.1.2.2.1.length<=1000)(g:p.2.2.2.1.length=p.2.2.1.2.2.1.length)(h1:1<=e)(h2:e<=p.2.2.1.2.2.1.length):qq p e=some (Tt p.2.2.1.2.2.1 p.2.2.2.1 e):=by
 unfold qq;rw[show Zk (ZU (e:Int) 1)=((e-1:Nat):Int)by simp only[Wx];rw[ZK Y];omega];refine Vo (Xo ⟨by simp only[Wx];omega,Zj (YF ⟨Y,λi c=>Zj ((mK Y).mono λf a=>Zj (YF ⟨by rw[a];simp;omega,λj d=>?_⟩))⟩)⟩);unfold kw;refine Zj (Zj ((AX Y).mono λh b=>?_));rw[be Du];refine GW.2 ⟨by simp only[Wx];rw[b];simp;omega,?_⟩;rw[be (Zk8 _)];refine J (J ?_);rw[Vz]at c d;unfold Tt;have:(Tj (Uo (e:Int) 0) ((p.2.2.1.2.2.1.length:Nat):Int)).toNat=e:=by simp only[Wx];omega
 grind
theorem bI{l}{h:ZI}{α}{g:ZO->Option α}(a:l.length<=3000000000):O (Tp (l,false) (Xc 0 (YC 32 (Xw h)))) g=g (l++tl h,false):=be (xW a)
theorem Za1{h}(h1:1<=h.1)(h2:h.1<2147483648)(c:1<=h.2.1)(d:h.2.1<2147483648):∃b,Li h=some (b,0)/\b.length=72:=by
 unfold Li;have:Hn h=some true:=by unfold Hn;refine Vo (Yu (λb=>b=true) (λa=>J<|by simp only[Wx];exact h2) λa=>by simp only[Wx]at a;omega λb e=>Yu (λb=>b=true) (λa=>J (by simp only[Wx];exact c)) (λa=>by rw[e]at a;cases a) λi f=>Yu (λb=>b=true) (λa=>J<|by simp only[Wx];exact d) (λa=>by rw[f]at a;cases a) λj g=>J g)
 rw[be this];refine⟨[]++w4 (Z6 32 h.1)++w4 (Z6 32 h.2.1)++tl h.2.2.1++tl h.2.2.2,Vo (Zp ⟨λa=>(by cases a),λ_=>?_⟩),by simp only[Yw,Vf,WW,To]⟩;rw[be (OW Zb),be (OW (by simp[WW]))];refine Ul ⟨YP,?_⟩;rw[bI (by simp[WW])];refine Ul ⟨YP,?_⟩;rw[bI (by simp only[Yw,Vf,WW,To];omega),be (Iq (by simp only[Yw,Vf,WW,To];omega))];exact J rfl
abbrev GS(sd:ZI)(s:Nk):Prop:=GI 1 2 3 sd s
theorem ZlP:Ti 3=some (((4,67,4):Nh),true):=by refine Vo (Yu (λa=>a=false) (λb=>Zm) (λb=>J<|Zb) λa d=>Zp ⟨Zm,λ_=>Zj (Ax.2 ⟨Zb,λe c=>J (by cases c;rfl)⟩)⟩)
theorem rQ:∃f,Ti 3=some (f,true)/\Us f/\f=(4,67,4):=⟨_,ZlP,.inr Zb,rfl⟩
theorem br{sd}{s}(h:GS sd s):FK s=some 8:=by obtain⟨c,a,b,-⟩:=rQ;exact bu Zb Zb Zb Zb a b h
theorem Aq(sd)(h):∃b,1<=h.1->h.1<=8->1<=h.2.1->h.2.1<2147483648->b.length<=5000/\(∀s,GS sd s->W (tP s (h.1-1) h) λo=>GS sd o.1/\o.2=((h,b),0))/\∀s WG,GS sd s->FM s=some WG->W (Kl (h,b) WG) λc=>c=true:=by
 by_cases d:1<=h.1/\h.1<=8/\1<=h.2.1/\h.2.1<2147483648
 ·obtain⟨u,n,p,v⟩:=rQ;obtain⟨m,j,w⟩:=Za1 (h:=h) d.1 Y d.2.2.1 d.2.2.2;obtain⟨b,r,k,l⟩:=Zkf (a:=1) (h:=2) (t:=3) (sd:=sd) (i:=h.1-1) (m:=m) Y Y Y Y n p Y (by have:=d.2.1;simp;omega) Y;refine⟨b,λ_ _ _ _=>⟨Zm,λs f=>?_,λs WG f q=>?_⟩⟩;·unfold tP;rw[be j];refine Zp ⟨λe=>by simp only[Wx]at e,λ_=>Zj ((k s f).mono λo g=>?_)⟩;rw[g.2];exact Zp ⟨λe=>by simp only[Wx]at e,λ_=>J ⟨g.1,rfl⟩⟩
  ·unfold Kl;rw[be j];exact Yu (λc=>c=true) (λ_=>Zj ((l s WG f q).mono λc d=>J d)) (λe=>by simp only[Wx]at e) λc d=>J d
 ·exact⟨[],Y⟩
noncomputable def HW(sd:ZI)(h:Ni):Zt:=(Aq sd h).choose
def PI(sd:ZI)(p:Y8):Prop:=GS sd p.2.1/\Vt p.2.2.1/\p.2.2.2.1.length=p.2.2.1.2.2.1.length/\p.2.2.2.1.length<=8/\(∀a∈p.2.2.2.1,1<=a/\a<2147483648)/\p.2.2.2.2.2.1.length<=16/\∀b∈p.2.2.2.2.2.1,P8 b
theorem PI.tick{sd}{p}{e}(h:PI sd p)(h1:1<=e)(h2:e<=p.2.2.1.2.2.1.length):1<=(Tt p.2.2.1.2.2.1 p.2.2.2.1 e).2.1/\(Tt p.2.2.1.2.2.1 p.2.2.2.1 e).2.1<2147483648:=by
 have b:=h.2.2.1;have a:p.2.2.2.1[e-1]?=some _:=VB Y;have:(Tt p.2.2.1.2.2.1 p.2.2.2.1 e).2.1=p.2.2.2.1[e-1]:=by unfold Tt;grind
 rw[this];exact h.2.2.2.2.1 _ Zb
theorem P5{p}:QJ p=some (p.2.2.1.2.2.1.length:Int):=by unfold QJ;rw[be Du]
theorem rY{sd}{p}{e}(h:PI sd p):W (Eh p e) λo=>(∃s,GS sd s/\o.1=(p.1,s,p.2.2))/\(o.2=(((0,0,Zn 32 0#8,Zn 32 0#8),[]),4)/\(e<1\/p.2.2.1.2.2.1.length<e)\/∃k:Nat,e=k/\1<=k/\k<=p.2.2.1.2.2.1.length/\o.2=((Tt p.2.2.1.2.2.1 p.2.2.2.1 k,HW sd (Tt p.2.2.1.2.2.1 p.2.2.2.1 k)),0))/\o.2.1.2.length<=5000:=by
 have m:=h.2.2.1;have r:=h.2.2.2.1;unfold Eh;refine Yu (λf=>f=true↔e<1\/p.2.2.1.2.2.1.length<e) (λa=>J<|Zm) (λa=>?_) λf g=>Zp ⟨λa=>J ⟨⟨p.2.1,h.1,rfl⟩,.inl ⟨rfl,g.1 a⟩,Zb⟩,λa=>?_⟩;·rw[be P5];simp only[Wx]at a⊢;omega
 ·have t:¬(e<1\/p.2.2.1.2.2.1.length<e):=λn=>by rw[g.2 n]at a;cases a
  obtain⟨k,rfl⟩:=Qo (show 0<=e by omega);have b:1<=k:=Y;have c:k<=p.2.2.1.2.2.1.length:=Y;rw[be (Zkk Y m b c)];have i:=h.tick b c;obtain⟨j,l,q⟩:=(Aq sd _).choose_spec (show(1:Int)<=k by omega) (show(k:Int)<=8by omega) i.1 i.2;rw[show Zk (ZU (k:Int) 1)=(Tt p.2.2.1.2.2.1 p.2.2.2.1 k).1-1by simp only[Wx];rw[ZK Y];rfl];refine Zj ((l p.2.1 h.1).mono λo d=>J ⟨⟨o.1,d.1,rfl⟩,.inr ⟨k,rfl,b,c,d.2⟩,?_⟩);dsimp only;rw[d.2];exact j
theorem j9(sd):∃WG,WG.length<=1000/\∀p,GS sd p.2.1->FM p.2.1=some WG/\CW p=some WG:=by have⟨k,b,c,l⟩:=rQ;obtain⟨a,i,m⟩:=(EL (h:=1) _ Zb Zb b c).2;refine⟨w4 2#32++QE 1 3 (ch sd []).1 (nd a 1),by have:=zY (h:=1) (t:=3) (id:=(ch sd []).1) (x:=nd a 1);rw[Yw,WW];omega,λp g=>?_⟩;have⟨j,e,n,d⟩:=Zfh Zb Zb b c g;rw[i]at e;have f:=X7 (λx=>x.2.2.2.2) (XD e);subst f;exact⟨d,by unfold CW;rw[be d];rfl⟩
theorem Zme{sd}{p d}{e}{WG}(h:PI sd p)(h1:1<=e)(h2:e<=p.2.2.1.2.2.1.length)(a:GS sd d.2.1)(g:CW d=some WG):W (Kl (Tt p.2.2.1.2.2.1 p.2.2.2.1 e,HW sd (Tt p.2.2.1.2.2.1 p.2.2.2.1 e)) WG) λc=>c=true:=by have o:=h.2.2.1;have n:=h.2.2.2.1;have b:=h.tick h1 h2;have⟨l,m,f⟩:=(Aq sd _).choose_spec (show(1:Int)<=e by omega) (show(e:Int)<=8by omega) b.1 b.2;refine f _ WG a ?_;obtain⟨q,-,i⟩:=j9 _;have⟨j,k⟩:=i _ a;rw[j,<-g,k]
def Ob(b:List Int)(t:Int):Prop:=1<=t/\t<2147483648/\∀a,b.getLast?=some a->a<=t
theorem Zj4{α:Type}{l:List α}:l.getLast?=l[l.length-1]?:=by rw[List.getLast?_eq_getElem?]
theorem ZaQ{p}{t}(h:p.2.2.2.1.length<=1000000):W (yJ p t) λb=>b=true↔Ob p.2.2.2.1 t:=by
 unfold yJ;refine Yu (λb=>b=true↔1<=t/\t<2147483648) (λc=>J<|XA) (λc=>J<|Zm) λb f=>Yu _ (λc=>?_) (λc=>J ⟨λa=>(by cases a),λa=>?_⟩) λm i=>J i
 ·have d:=f.1 c;refine Yu _ (λe=>J ?_) (λe=>?_) λn j=>J j;·simp only[Wx]at e;have:p.2.2.2.1=[]:=MR Y;exact⟨λ_=>⟨d.1,d.2,Zm⟩,λ_=>rfl⟩
  ·simp only[Wx]at e;have k:Zk (ZU (Ze (Zf p.2.2.2.1)) 1)=((p.2.2.2.1.length-1:Nat):Int):=by simp only[Wx];rw[ZK Y];omega
   rw[k];refine Xo ⟨by simp only[Wx];omega,Zj (YF ⟨Y,λl g=>J ?_⟩)⟩;rw[Vz,<-Zj4]at g;simp only[Wx];exact⟨λa=>⟨d.1,d.2,Zm⟩,λa=>a.2.2 l g⟩
 ·have:=f.2 ⟨a.1,a.2.1⟩;rw[this]at c;cases c
theorem ZiL{x}{l}(h:l.length<=1000000):W (pO x l) λb=>b=true↔∃y∈l,y.1=x.1:=by
 unfold pO ew;refine Zj (Wo (W.Vy (λa=>0<=a/\a<=l.length/\∀y∈l.take a.toNat,¬y.1=x.1) (λa=>∀y∈l,¬y.1=x.1) (λa=>(l.length-a).toNat) (λg=>0<=g/\∃y∈l,y.1=x.1) Zb Y (λa e=>?_) (λa e=>J (J<|Zm)) λg m=>J<|Zm))
 ·obtain⟨j,n,k⟩:=e;refine Zp ⟨λc=>?_,λc=>J ?_⟩
  ·simp only[Wx]at c;refine Zj (YF ⟨Y,λy f=>?_⟩);unfold iH;rw[bs];refine Zp ⟨λd=>?_,λd=>J ?_⟩;·rw[bs];simp only[Wx]at d;exact J ⟨j,y,X6 f,d⟩
   ·rw[show Zk (Zu a 1)=a+1by simp only[Wx];rw[ZK Y]];refine⟨⟨Y,Y,λo i=>?_⟩,Zw⟩;rw[show(a+1).toNat=a.toNat+1by omega,O2,f]at i;grind
  ·simp only[Wx]at c;rwa[VT Y]at k
theorem ZhJ{l}(h:l.length<=1000000):W (qt l) λb=>((l.map (·.1)).Nodup->b=true):=by
 unfold qt;refine Wo (W.Vy (λa=>0<=a/\a<=l.length) (λa=>True) (λa=>(l.length-a).toNat) _ ⟨Zb,Y⟩ Y (λa o=>Zp ⟨λc=>?_,λc=>J trivial⟩) (λa o=>J λ_=>rfl) λv n=>n);simp only[Wx]at c;refine Zj (YF ⟨Y,λq p=>Zj (N0.2 ⟨Y,Zj ((ZiL (by rw[Wn,UF];omega)).mono λb j=>Zp ⟨λd=>?_,λd=>J ?_⟩)⟩)⟩)
 ·rw[bs];refine J λm=>?_;exfalso;obtain⟨r,f,s⟩:=j.1 d;rw[show(0:Int).toNat=0from rfl,wA]at f;obtain⟨e,k,t⟩:=List.getElem_of_mem f;rw[UF]at k;have g:(l.map (·.1))[e]?=some r.1:=by grind
  have i:(l.map (·.1))[a.toNat]?=some q.1:=by rw[dM,p];rfl
  have u:e=a.toNat:=by have:=(List.getElem?_inj WI m).1 (g.trans (by rw[s,<-i]));exact this
  omega
 ·rw[show Zk (Zu a 1)=a+1by simp only[Wx];rw[ZK Y]];exact⟨⟨Y,Y⟩,Zw⟩
theorem ZsF{l}(h:l.length<=1000000):W (iI l) λr=>r=l.map (·.2.2):=by
 refine Zj (W.UQ (λb=>∃a:Nat,b.2=a/\a<=l.length/\b.1=(l.take a).map (·.2.2)) _ (λb=>(l.length-b.2).toNat) ⟨0,rfl,Y,rfl⟩ Zw (λb d=>?_) λb d=>J d);obtain⟨j,k⟩:=b;obtain⟨a,f,i,g⟩:=d;subst f g;refine Zp ⟨λc=>?_,λc=>J ?_⟩;·simp only[Wx]at c;refine Zj (YF ⟨Zw,λm e=>Xa ⟨Zm,?_⟩⟩);rw[show Zk _=((a+1:Nat):Int)by simp only[Wx];rw[ZK Y];rfl];rw[Vz]at e;refine J ⟨⟨a+1,rfl,Y,?_⟩,Zw⟩;rw[O2,e,Vg];rfl
 ·simp only[Wx]at c;show List.map (·.2.2) (List.take a l)=_;rw[VT Y]
def CH(c:List Nh)(l:List Tf)(e:Int):List Nh:=l.foldl (λb a=>KC a.1 (a.2.1,e) b) c
theorem ZcP{p}{t}{l}(hs:Vt p.2.2.1)(w:p.2.2.1.2.2.1.length<=1000000)(y:p.2.2.2.1.length<=1000000)(q:l.length<=1000000):W (yK p t l) λo=>∃f e,OF p.2.2.1 (l.map (·.2.2))=some (f,e)/\o.2=e/\Vt f/\f.1=p.2.2.1.1/\(e=0->(∃x,f.2.2.1=p.2.2.1.2.2.1++[x])/\o.1=(p.1,p.2.1,f,p.2.2.2.1++[t],CH p.2.2.2.2.1 l (f.2.2.1.length:Nat),p.2.2.2.2.2))/\(¬e=0->f.2.2=p.2.2.1.2.2/\o.1=(p.1,p.2.1,f,p.2.2.2)):=by
 unfold yK;refine Zj ((ZsF q).mono λb g=>?_);subst g;refine Zj ((bQ (l:=l.map (·.2.2)) hs Y).self.mono λd⟨k,m,n,s,u⟩=>Zp ⟨λa=>J ⟨d.1,d.2,k,rfl,m,n,λe=>?_,λe=>⟨u e,rfl⟩⟩,λa=>?_⟩);·simp only[Wx]at a;exact(a e).elim
 simp only[Wx]at a;obtain⟨x,r⟩:=s a;refine Xa ⟨by simp only[Wx,V9];omega,Zj (W.UQ (λb=>∃c:Nat,b.1=c/\c<=l.length/\b.2=(p.1,p.2.1,d.1,p.2.2.2.1++[t],CH p.2.2.2.2.1 (l.take c) ((d.1.2.2.1.length:Nat):Int),p.2.2.2.2.2)) (λb=>b.2=(p.1,p.2.1,d.1,p.2.2.2.1++[t],CH p.2.2.2.2.1 l ((d.1.2.2.1.length:Nat):Int),p.2.2.2.2.2)) (λb=>(l.length-b.1).toNat) ⟨0,rfl,Y,rfl⟩ Zw (λb g=>?_) λb g=>J ⟨d.1,0,by rw[k,<-a],rfl,m,n,λ_=>⟨⟨x,r⟩,g⟩,λe=>(e rfl).elim⟩)⟩;obtain⟨z,A⟩:=b;obtain⟨c,h,v,i⟩:=g;dsimp only at h i;subst h i;refine Zp ⟨λa=>?_,λa=>J ?_⟩;·simp only[Wx]at a;refine Zj (YF ⟨Zw,λB j=>?_⟩);rw[be P5,show Zk (Zu (c:Int) 1)=((c+1:Nat):Int)by simp only[Wx];rw[ZK Y];rfl];rw[Vz]at j;refine J ⟨⟨c+1,rfl,Y,?_⟩,Zw⟩;dsimp only;rw[O2,j];unfold CH;rw[ns];rfl
 ·simp only[Wx]at a;show((p.1,p.2.1,d.1,p.2.2.2.1++[t],CH p.2.2.2.2.1 (l.take c) _,p.2.2.2.2.2):Y8)=_;rw[VT Y]
abbrev M4:Type:=WZ×List Int×List Nh
def LZ(s:M4)(r:Zt)(s':M4):Prop:=∃c a b,J7 r=some (c,a,true)/\Ob s.2.1 c/\s.1.2.2.1.length<8/\OF s.1 (a.map (·.2.2))=some (b,0)/\s'=(b,s.2.1++[c],CH s.2.2 a ((b.2.2.1.length:Nat):Int))
def Td:M4->List Zt->M4->Prop|s,[],s'=>s'=s|s,r::R,s'=>∃a,LZ s r a/\Td a R s'
theorem LZ.uniq{s}{r}{a b}(h:LZ s r a)(h':LZ s r b):a=b:=by obtain⟨p,l,n,c,e,g,j,rfl⟩:=h;obtain⟨q,m,o,d,f,i,k,rfl⟩:=h';simp_all
theorem Td.snoc{r}:∀{R}{s a b},Td s R a->LZ a r b->Td s (R++[r]) b|[],_,_,_,rfl,h=>⟨_,h,rfl⟩|_::_,_,_,_,⟨q,h1,h2⟩,h=>⟨q,h1,h2.snoc h⟩
theorem Td.uniq:∀{R}{s a b},Td s R a->Td s R b->a=b|[],_,_,_,rfl,rfl=>rfl|_::_,_,_,_,⟨q,h1,h2⟩,⟨d,h1',c⟩=>by obtain rfl:=h1.uniq h1';exact h2.uniq c
theorem Td.split:∀{R c}{s a},Td s (R++c) a->∃b,Td s R b/\Td b c a|[],_,s,_,h=>⟨s,rfl,h⟩|_::_,_,_,_,⟨q,h1,h2⟩=>by have⟨b,d,e⟩:=h2.split;exact⟨b,⟨q,h1,d⟩,e⟩
def U7(p:Y8):M4:=(p.2.2.1,p.2.2.2.1,p.2.2.2.2.1)
theorem Zq0{sd}{p}{r}(h:PI sd p)(hr:r.length<=6000):W (qs p r) λo=>PI sd o.1/\o.1.1=p.1/\o.1.2.2.2.2.2=p.2.2.2.2.2/\(o.2=true->LZ (U7 p) r (U7 o.1))/\∀t l n,J7 r=some (t,l,true)->Ob p.2.2.2.1 t->p.2.2.1.2.2.1.length<8->(l.map (·.1)).Nodup->(∀q∈l,UE (W0 q.1 p.2.2.2.2.1)=true->(U5 (W0 q.1 p.2.2.2.2.1) (0,0)).1<q.2.1)->OF p.2.2.1 (l.map (·.2.2))=some (n,0)->o.2=true:=by
 obtain⟨F,p2,p3,p4,Q,R,S⟩:=id h;unfold qs;refine Zj ((j8 (b:=r) Y).self.mono λd hd=>?_);obtain⟨I,x4,⟨x5,x6⟩,-⟩:=hd;refine Yu (λb=>b=false↔d.2.2=true/\Ob p.2.2.2.1 d.1) (λc=>J ?_) (λc=>?_) λb s=>Yu (λj=>j=false↔b=false/\p.2.2.1.2.2.1.length<8) (λc=>J ?_) (λc=>?_) λj H=>Yu (λG=>(j=true->G=true)/\(G=true->j=false->¬(d.2.1.map (·.1)).Nodup)) (λc=>J ⟨λ_=>rfl,λ_ a=>?_⟩) (λc=>?_) λG N=>?_;·simp only[Wx]at c;exact⟨λa=>(by cases a),λa=>by rw[a.1]at c;cases c⟩
 ·simp only[Wx]at c;refine Zj ((ZaQ Y).mono λU v=>J ?_);simp only[Wx];rw[v];exact⟨λa=>⟨c,a⟩,λa=>a.2⟩
 ·exact⟨λa=>(by cases a),λa=>by rw[a.1]at c;cases c⟩
 ·rw[be P5,be (br F)];refine J ?_;simp only[Wx];exact⟨λa=>⟨c,Y⟩,λa=>Y⟩
 ·rw[c]at a;cases a
 ·refine Zj ((ZhJ Y).mono λU v=>J ⟨λa=>(by rw[c]at a;cases a),λa _ hn=>?_⟩);have:=v hn;rw[this]at a;cases a
 have D:∀t l,J7 r=some (t,l,true)->Ob p.2.2.2.1 t->p.2.2.1.2.2.1.length<8->d=(t,l,true)/\j=false:=λt l f g i=>by have:d=(t,l,true):=XD (I.symm.trans f);exact⟨this,H.2 ⟨s.2 ⟨by rw[this],by rw[this];exact g⟩,i⟩⟩
 refine Zp ⟨λc=>J ⟨h,rfl,rfl,λa=>(by cases a),λt l n f g i w x y=>?_⟩,λc=>?_⟩;·obtain⟨a,V⟩:=D t l f g i;have:=N.2 c V;rw[a]at this;exact(this w).elim
 have x1:j=false:=by
  cases x0:j;·rfl
  ·rw[N.1 x0]at c;cases c
 obtain⟨Z,x3⟩:=H.1 x1;obtain⟨x2,C⟩:=s.1 Z;refine Wo (W.Vy (λe=>0<=e/\e<=d.2.1.length) (λe=>True) (λe=>(d.2.1.length-e).toNat) (λo=>o=(p,false)/\¬∀q∈d.2.1,UE (W0 q.1 p.2.2.2.2.1)=true->(U5 (W0 q.1 p.2.2.2.2.1) ((0:Int),(0:Int))).1<q.2.1) ⟨Zb,Y⟩ Y (λe M=>?_) (λe M=>?_) λo u=>?_)
 ·obtain⟨u1,u2⟩:=M;refine Zp ⟨λc=>?_,λc=>J trivial⟩;simp only[Wx]at c;refine Zj (YF ⟨Y,λz hy=>Yu (λb=>b=true->UE (W0 z.1 p.2.2.2.2.1)=true/\z.2.1<=(U5 (W0 z.1 p.2.2.2.2.1) ((0:Int),(0:Int))).1) (λk=>J λa=>⟨k,by simpa only[Wx]using a⟩) (λk=>J λa=>by cases a) λb s=>Zp ⟨λk=>?_,λk=>J ?_⟩⟩);·rw[bs];refine J ⟨rfl,λX=>?_⟩;have:=X z (X6 hy) (s k).1;have:=(s k).2;omega
  ·rw[show Zk (Zu e 1)=e+1by simp only[Wx];rw[ZK Y]];exact⟨⟨Y,Y⟩,Zw⟩
 ·refine Zj ((ZcP (t:=d.1) (l:=d.2.1) p2 Y Y Y).mono λo u=>J ?_);obtain⟨n,a,E,O,P,o4,o5,o6⟩:=u;by_cases m:a=0
  ·obtain⟨⟨U,v⟩,u⟩:=o5 m;rw[u];refine⟨⟨F,P,?_,?_,λt ht=>?_,R,S⟩,rfl,rfl,λ_=>⟨d.1,d.2.1,n,by rw[I,<-x2],C,x3,m▸E,rfl⟩,λt l T f g i w x y=>by rw[O,m];simp only[Wx]⟩;·show(p.2.2.2.1++[d.1]).length=n.2.2.1.length;rw[v];simp;omega
   ·show(p.2.2.2.1++[d.1]).length<=8;simp;omega
   ·rcases Z1 ht with q|q;·exact Q t q
    ·rw[YZ q];exact⟨C.1,C.2.1⟩
  ·obtain⟨q1,q2⟩:=o6 m;rw[q2];refine⟨⟨F,P,?_,p4,Q,R,S⟩,rfl,rfl,λA=>by rw[O]at A;simp only[Wx]at A;exact(m A).elim,λt l T f g i w x y=>?_⟩;·show p.2.2.2.1.length=n.2.2.1.length;rw[q1];exact p3
   ·obtain⟨B,-⟩:=D t l f g i;rw[B,y]at E;have:=X7 Prod.snd (XD E);exact(m this.symm).elim
 ·obtain⟨rfl,K⟩:=u;refine⟨h,rfl,rfl,λa=>(by cases a),λt l T f g i w x y=>?_⟩;obtain⟨B,-⟩:=D t l f g i;rw[B]at K;exact(K x).elim
noncomputable def NA(seed:ZI):ZI:=(Lh 112#8 [Xc 0 (YC 32 (Xw seed))]).getD (Zn 32 0#8)
theorem ZrJ(seed:ZI):Lh 112#8 [Xc 0 (YC 32 (Xw seed))]=some (NA seed):=by obtain⟨b,a,-⟩:=DD (ps:=[Xc 0 (YC 32 (Xw seed))]) Zb Zb;unfold NA;rw[a];rfl
def s0(seed:ZI):M4:=((seed,[],[],[],[]),[],[])
def Fr(b:List Nh)(l:List Tf):Prop:=(l.map (·.1)).Nodup/\∀a∈l,UE (W0 a.1 b)=true->(U5 (W0 a.1 b) ((0:Int),(0:Int))).1<a.2.1
def bS(s:M4)(r:Zt)(s':M4):Prop:=LZ s r s'/\∃b a,J7 r=some (b,a,true)/\Fr s.2.2 a
def NX:M4->List Zt->M4->Prop|s,[],s'=>s'=s|s,r::R,s'=>∃a,bS s r a/\NX a R s'
theorem NX.snoc{r}:∀{R}{s a b},NX s R a->bS a r b->NX s (R++[r]) b|[],_,_,_,rfl,h=>⟨_,h,rfl⟩|_::_,_,_,_,⟨q,h1,h2⟩,h=>⟨q,h1,h2.snoc h⟩
theorem NX.rec:∀{R}{s a},NX s R a->Td s R a|[],_,_,h=>h|_::_,_,_,⟨q,h1,h2⟩=>⟨q,h1.1,h2.rec⟩
theorem Zmd{N c k}{ds}{ps}{d}{seed}(hk:ds[k]?=some d)(hd:DI N c d)(hN:4<=N)(Z:N<=4096)(hc:c<1000000000):W (qk ds ps (some k) (1,2,3,seed)) λo=>∃d',o.1=ds.set k d'/\DI N (c+1) d'/\(o.2.1=ps/\o.2.2.1=none/\¬o.2.2.2=0\/∃p,o.2.1=ps++[p]/\o.2.2.1=some ps.length/\o.2.2.2=0/\PI (NA seed) p/\VW N k p.1/\p.2.2.2.2.2=([],0))/\(d.2.2.2.1<0->d.2.2.2.2=false->d'.2.2.2=d.2.2.2)/\∀g R n m,N=900->g<250->d.2.2.1=[]->d.2.2.2.1<0->d.2.2.2.2=false->Sd d.1 g (g+1) R n m->d'.2.2.1=[]/\Sd d'.1 (g+1) (g+1) R n m/\(∀p,o.2.1=ps++[p]->p.1=Io k (g+1) n false/\Td (s0 seed) R (U7 p))/\∀s',NX (s0 seed) R s'->o.2.2.2=0:=by
 have xk:=Zfu Z;unfold qk;refine Ul ⟨YP,?_⟩;rw[be (ZrJ seed)];obtain⟨x9,f1,f2,-⟩:=rQ;refine Zj ((Zke (a:=1) (h:=2) (sd:=NA seed) Y Y Y Y f1 f2).mono λxv⟨x4,sg,x5,x6⟩=>Zp ⟨λg=>by rw[x4]at g;simp only[Wx]at g,λ_=>Zj ((eY hk hd hN Z hc).mono λv⟨d',O,P,v3,v4,v5,v6,Q,v8⟩=>Zp ⟨λg=>J ⟨d',O,P,.inl ⟨rfl,rfl,by simpa only[Wx]using g⟩,Q,λz R n m l q r s t u=>?_⟩,λg=>?_⟩)⟩);·simp only[Wx]at g;exact(g (v8 z R n m l q r s t u).1).elim
 simp only[Wx]at g;obtain⟨S,w1,w2⟩:=v5 g;rw[show JM seed=some (seed,[],[],[],[])from rfl,bs,w1,ko,x5,ko];have x3:∀g R n m,N=900->g<250->d.2.2.1=[]->d.2.2.2.1<0->d.2.2.2.2=false->Sd d.1 g (g+1) R n m->v.2.2.1=R/\d'.2.2.1=[]/\Sd d'.1 (g+1) (g+1) R n m/\S=Io k (g+1) n false:=λg R n m l q r s t u=>by obtain⟨-,x,y,B,T⟩:=v8 g R n m l q r s t u;rw[w1]at T;exact⟨x,y,B,XD T⟩
 refine Wo (W.Vy (λb=>∃f:Nat,b.1=f/\f<=v.2.2.1.length/\b.2.1=ps/\PI (NA seed) b.2.2/\b.2.2.1=S/\b.2.2.2.2.2.2.2=([],0)/\Td (s0 seed) (v.2.2.1.take f) (U7 b.2.2)/\∀s',NX (s0 seed) v.2.2.1 s'->NX (U7 b.2.2) (v.2.2.1.drop f) s') (λb=>b.2.1=ps/\PI (NA seed) b.2.2/\b.2.2.1=S/\b.2.2.2.2.2.2.2=([],0)/\Td (s0 seed) v.2.2.1 (U7 b.2.2)) (λb=>(v.2.2.1.length-b.1).toNat) (λA=>A=(v.1,ps,none,2)/\∀s',¬NX (s0 seed) v.2.2.1 s') ?_ Zw (λb i=>?_) (λb i=>J ⟨d',O,P,.inr ⟨b.2.2,by rw[i.1],by rw[i.1],rfl,i.2.1,by rw[i.2.2.1];exact w2,i.2.2.2.1⟩,Q,λz R n m l q r s t u=>?_⟩) λA e=>⟨d',by rw[e.1];exact O,P,.inl ⟨by rw[e.1],by rw[e.1],by rw[e.1];simp⟩,Q,λz R n m l q r s t u=>?_⟩);·refine⟨0,rfl,Y,rfl,⟨x6,GR,rfl,Zb,Zb,Zb,Zb⟩,rfl,rfl,rfl,λs' h=>h⟩
 ·obtain⟨u1,u2,u3⟩:=b;obtain⟨f,U,e2,V,F,G,H,I,K⟩:=i;dsimp only at U V F G H I K;subst U V;refine Zp ⟨λg=>?_,λg=>J ⟨rfl,F,G,H,?_⟩⟩
  ·simp only[Wx]at g;refine Zj (YF ⟨Zw,λA e=>?_⟩);rw[Vz]at e;have x1:f<v.2.2.1.length:=Y;have x0:v.2.2.1.drop f=A::v.2.2.1.drop (f+1):=by rw[O0 x1,XD ((VB x1).symm.trans e)]
   refine Zj ((Zq0 F (v4 A (X6 e))).mono λxs⟨q1,q2,q3,q4,q5⟩=>Zp ⟨λC=>?_,λC=>?_⟩);·rw[bs];refine J ⟨rfl,λs' w=>?_⟩;have:=K s' w;rw[x0]at this;obtain⟨s1,⟨⟨x8,x7,st,D,M,h3,h4,h5⟩,t',l',X,h6,h7⟩,-⟩:=this;rw[D]at X;cases X;rw[q5 x8 x7 st D M h3 h6 h7 h4]at C;simp only[Wx]at C
   ·have x2:=q4 (by simpa only[Wx]using C);rw[show Zk (Zu (f:Int) 1)=((f+1:Nat):Int)by simp only[Wx];rw[ZK Y];rfl];refine J ⟨⟨f+1,rfl,Y,rfl,q1,by rw[q2,G],by rw[q3,H],?_,λs' w=>?_⟩,Zw⟩;·rw[O2,e];exact I.snoc x2
    ·have:=K s' w;rw[x0]at this;obtain⟨s1,D,M⟩:=this;rw[<-D.1.uniq x2];exact M
  ·simp only[Wx]at g;rwa[VT Y]at I
 ·obtain⟨E,x,y,B⟩:=x3 z R n m l q r s t u;refine⟨x,y,λp j=>?_,λs' _=>rfl⟩;have j:b.2.2=p:=by have j:b.2.1++[b.2.2]=ps++[p]:=j;rw[i.1]at j;simpa using j
  rw[<-j,i.2.2.1,B,<-E];exact⟨rfl,i.2.2.2.2⟩
 ·obtain⟨E,x,y,B⟩:=x3 z R n m l q r s t u;refine⟨x,y,λp j=>?_,λs' w=>?_⟩;·rw[e.1]at j;have:=X7 List.length (show ps=ps++[p]from j);simp at this
  ·rw[<-E]at w;exact(e.2 s' w).elim
def MO(m:YN):Prop:=jr m/\m.2.2.2.2.2.2.2.2.2.1.2.length<=100000
abbrev z0:SL:=((0,0,Zn 32 0#8,Zn 32 0#8),[])
abbrev z1:Lb:=([],0,Zn 32 0#8,Zn 32 0#8,(0,Zn 32 0#8),Zn 32 0#8,Zn 32 0#8)
theorem RY{a b c d e f g}{x y}{s}(hs:s.2.length<=100000):MO (a,b,c,d,e,f,g,x,y,s,([],[]),([],[]),Zn 32 0#8,z1,[],[],[],[]):=by refine⟨⟨?_,?_,?_,?_,?_,?_,?_,?_,?_,?_⟩,hs⟩<;>first|exact VD _|grind
def EM(sd:ZI)(p:Y8)(e:Int)(m:YN):Prop:=∃(a:Nat)(c:List QA)(b:List UB),e=a/\D4 p.2.2.1 e=some c/\Fw p.2.2.1 e=some b/\m=(5,0,0,0,0,0,0,[],[],(Tt p.2.2.1.2.2.1 p.2.2.2.1 a,HW sd (Tt p.2.2.1.2.2.1 p.2.2.2.1 a)),([],[]),([],[]),Zn 32 0#8,z1,[],c,b,[])
theorem EM.ZjQ{sd}{p}{e}{m}(h:EM sd p e m):m.1=5:=by obtain⟨a,b,c,-,-,-,rfl⟩:=h;rfl
theorem Zcz{sd}{p}{e}(h:PI sd p):W (yI p e) λo=>(∃s,GS sd s/\o.1=(p.1,s,p.2.2))/\MO o.2.1/\(1<=e->e<=p.2.2.1.2.2.1.length->o.2.2=0/\EM sd p e o.2.1):=by
 unfold yI;refine Zj ((rY h).mono λo⟨⟨s,j,k⟩,c,r⟩=>Zp ⟨λb=>J ⟨⟨s,j,k⟩,RY Zb,λm n=>?_⟩,λb=>?_⟩)
 ·rcases c with⟨-,a⟩|⟨g,-,-,-,a⟩;·omega
  ·rw[a]at b;simp only[Wx]at b
 ·rw[k];refine Zj ((Zhc h.2.1).self.mono λi d=>Zj ((mC h.2.1).self.mono λl f=>J ⟨⟨s,j,rfl⟩,?_,λm n=>⟨rfl,?_⟩⟩));·have:=f.2.1;have:=d.2;refine⟨⟨by show o.2.1.2.length<=_;omega,VD _,VD _,VD _,VD _,VD _,VD _,by show i.length<=_;omega,by show l.length<=_;omega,VD _⟩,by show o.2.1.2.length<=_;omega⟩
  ·rcases c with⟨-,a⟩|⟨g,q,-,-,a⟩;·omega
   ·refine⟨g,i,l,q,d.1,f.1,?_⟩;rw[a]
def Az(m:YN)(e r:Int):YN:=(2,m.2.2.1,m.2.1,m.2.2.2.1,e,0,r,[],[],z0,([],[]),([],[]),Zn 32 0#8,z1,[],[],[],[])
theorem DH{m}{e r}:HN m e r=some (Az m e r,true):=rfl
theorem DA{m}{e r}:MO (Az m e r):=RY Zb
def vL(q:Tf)(e:Int):YN:=Az (0,q.1,0,q.2.1,0,0,0,[],[],z0,([],[]),([],[]),Zn 32 0#8,z1,[],[],[],[]) e 0
def YD(seed:ZI)(R:List Zt)(p:Y8):Prop:=∃b c a,R=b++c/\Td (s0 seed) b a/\p.2.2.1.2.2.1=a.1.2.2.1/\p.2.2.2.1=a.2.1/\(p.2.2.2.2.2.2=0->c=[]/\U7 p=a)
theorem ZkR{p}{ds}{t}{l}{Q}(d:l.length<=16)(h:∀q∈l,P8 q)(c:W (kp p.1 ds (UC t l)) λo=>Q ((o.1,p.2),o.2)):W (qr p ds t l) Q:=by unfold qr;rw[be (Zmc d h)];refine Zp ⟨Zb,λ_=>Zj ((Zi.1 c).mono λf b=>Zp ⟨λa=>J (L (Q:=λ(o:Tg×List _×Int)=>Q ((o.1,p.2),o.2)).1 ((Zo.1 b).1 a)),λa=>Zj (((Zo.1 b).2 a).mono λg e=>J e)⟩)⟩
theorem bP{k g n}{B}{R}{fd}{seed}{ds}{d}{p}{t}(hk:ds[k]?=some d)(hV:PV k g B R n fd d)(hM:VM k g n fd p.1)(hP:PI (NA seed) p)(hR:YD seed R p)(hB:Ob p.2.2.2.1 t->p.2.2.1.2.2.1.length<8->p.2.2.2.2.2.2=0->B (UC t p.2.2.2.2.2.1)):W (CY p ds t) λo=>∃d' n' u i,o.2.1=ds.set k d'/\VM k g n' u o.1.1/\PI (NA seed) o.1/\YD seed i o.1/\(∃X,i=R++X)/\(∃X Z,o.1.2.2.1.2.2.1=p.2.2.1.2.2.1++X/\o.1.2.2.2.1=p.2.2.2.1++Z/\X.length<=1/\(o.2.2.2=0->X.length=1))/\(∀m∈o.2.2.1,MO m)/\o.2.2.1.length<=17/\(o.1=p\/¬o.1.2.2.2.2.2.2=0\/o.1.2.2.2.2.2.1=[])/\(i=R/\PV k g B R n' u d'\/(∃s',Td (s0 seed) R (U7 p)/\(o.2.2.2=0->LZ (U7 p) (UC t p.2.2.2.2.2.1) s'/\U7 o.1=s'))/\Ob p.2.2.2.1 t/\p.2.2.1.2.2.1.length<8/\p.2.2.2.2.2.2=0/\i=R++[UC t p.2.2.2.2.2.1]/\∀V,PV k g V i n' u d')/\(o.2.2.2=0->o.1.2.2.2.2.2=([],0)/\∃G,EM (NA seed) o.1 (o.1.2.2.1.2.2.1.length:Int) G/\o.2.2.1=p.2.2.2.2.2.1.map (λq=>vL q (o.1.2.2.1.2.2.1.length:Nat))++[G])/\(fd=false->d.2.2.2.1<0->d.2.2.2.2=false->n+16<=449->p.2.2.2.2.2.2=0->p.2.2.1.2.2.1.length<8->Ob p.2.2.2.1 t->(∃f,OF p.2.2.1 (p.2.2.2.2.2.1.map (·.2.2))=some (f,0))->o.2.2.2=0/\d'.2.2.2=d.2.2.2):=by
 obtain⟨p1,p2,p3,p4,p5,p6,p7⟩:=id hP;obtain⟨R1,R2,s1,r1,I,r3,r4,r5⟩:=id hR;unfold CY;have x3:∀{a:Int},¬a=0->(fd=false->d.2.2.2.1<0->d.2.2.2.2=false->n+16<=449->p.2.2.2.2.2.2=0->p.2.2.1.2.2.1.length<8->Ob p.2.2.2.1 t->(∃f,OF p.2.2.1 (p.2.2.2.2.2.1.map (·.2.2))=some (f,0))->False)->∃d' n' u i,((p,ds,([]:List YN),a):Y8×List Yi×List YN×Int).2.1=ds.set k d'/\VM k g n' u p.1/\PI (NA seed) p/\YD seed i p/\(∃X,i=R++X)/\(∃X Z,p.2.2.1.2.2.1=p.2.2.1.2.2.1++X/\p.2.2.2.1=p.2.2.2.1++Z/\X.length<=1/\(a=0->X.length=1))/\(∀m∈([]:List YN),MO m)/\([]:List YN).length<=17/\(p=p\/¬p.2.2.2.2.2.2=0\/p.2.2.2.2.2.1=[])/\(i=R/\PV k g B R n' u d'\/(∃s',Td (s0 seed) R (U7 p)/\(a=0->LZ (U7 p) (UC t p.2.2.2.2.2.1) s'/\U7 p=s'))/\Ob p.2.2.2.1 t/\p.2.2.1.2.2.1.length<8/\p.2.2.2.2.2.2=0/\i=R++[UC t p.2.2.2.2.2.1]/\∀V,PV k g V i n' u d')/\(a=0->p.2.2.2.2.2=([],0)/\∃G,EM (NA seed) p ((p.2.2.1.2.2.1.length:Nat):Int) G/\([]:List YN)=p.2.2.2.2.2.1.map (λq=>vL q ((p.2.2.1.2.2.1.length:Nat):Int))++[G])/\(fd=false->d.2.2.2.1<0->d.2.2.2.2=false->n+16<=449->p.2.2.2.2.2.2=0->p.2.2.1.2.2.1.length<8->Ob p.2.2.2.1 t->(∃f,OF p.2.2.1 (p.2.2.2.2.2.1.map (·.2.2))=some (f,0))->a=0/\d'.2.2.2=d.2.2.2):=λ{a}e xk=>⟨d,n,fd,R,P9 hk,hM,hP,hR,⟨[],Zb⟩,⟨[],[],Zb,Zb,Zb,λq=>(e q).elim⟩,Zb,Zb,.inl rfl,.inl ⟨rfl,hV⟩,λq=>(e q).elim,λC D E K M N O a8=>(xk C D E K M N O a8).elim⟩;refine Zp ⟨λj=>J (x3 (by simpa only[Wx]using j) λ_ _ _ _ a=>?_),λj=>?_⟩;·simp only[Wx]at j;exactλ_ _ _=>j a
 simp only[Wx]at j;rw[be P5,be (br p1)];refine Zp ⟨λg1=>J (x3 YP λ_ _ _ _ _ a=>?_),λg1=>?_⟩;·simp only[Wx]at g1;intro _ _;omega
 simp only[Wx]at g1;refine Zj ((ZaQ (t:=t) Y).mono λfw x6=>Zp ⟨λP=>J (x3 YP λ_ _ _ _ _ _ a=>?_),λP=>?_⟩);·rw[x6.2 a]at P;simp only[Wx]at P
 have A:Ob p.2.2.2.1 t:=x6.1 (by simpa only[Wx]using P);have Q:p.2.2.1.2.2.1.length<8:=Y;obtain⟨rfl,x0⟩:=r5 j;rw[Xp]at r1;subst r1;have hb:=kq (t:=t) p6 p7;refine Zj (ZkR p6 p7 ((ZkW hM hk hV Y (hB A Q j)).mono λo⟨d',o1,o2,o3⟩=>Zp ⟨λr=>J ?_,λr=>?_⟩))
 ·simp only[Wx]at r;rcases o2 with⟨a,-⟩|⟨-,u,m1,H⟩;·exact(r a).elim
  ·refine⟨d',n,u,R,o1,m1,hP,⟨R,[],s1,Zb,I,r3,r4,λa=>(r a).elim⟩,⟨[],Zb⟩,⟨[],[],Zb,Zb,Zb,λq=>(r q).elim⟩,Zb,Zb,.inr (.inl r),.inl ⟨rfl,H⟩,λq=>(r q).elim,λC D E K M N O a8=>?_⟩;have xs:Y9 (UC t p.2.2.2.2.2.1).length<=16:=by unfold Y9;omega
   exact(r (o3 C D E Y Y).1).elim
 simp only[Wx]at r;obtain⟨-,m1,H⟩:=o2.resolve_right λq=>q.1 r;have x5:VM k g (n+Y9 (UC t p.2.2.2.2.2.1).length) false o.1:=⟨_,m1,by obtain⟨_,_,⟨_,_,_,_,q,_⟩,_⟩:=H λ_=>True;omega,λ_=>rfl⟩;refine Zj ((ZcP (p:=(o.1,p.2.1,p.2.2.1,p.2.2.2.1,p.2.2.2.2.1,[],p.2.2.2.2.2.2)) (t:=t) (l:=p.2.2.2.2.2.1) p2 (by show p.2.2.1.2.2.1.length<=_;omega) (by show p.2.2.2.1.length<=_;omega) Y).mono λq s=>?_);obtain⟨f,a,T,U,q3,q4,q5,q6⟩:=s;dsimp only at T U q3 q4 q5 q6;have x9:J7 (UC t p.2.2.2.2.2.1)=some (t,p.2.2.2.2.2.1,true):=by obtain⟨x8,x1,-,-,x2⟩:=j8 (b:=UC t p.2.2.2.2.2.1) Y;rw[x1,x2 t _ p6 p7 (by have:=A.1;omega) (by have:=A.2.1;omega) rfl]
 by_cases e:a=0
 ·obtain⟨⟨x8,hx⟩,s⟩:=q5 e;refine Zp ⟨λc=>by rw[U,e]at c;simp only[Wx]at c,λ_=>?_⟩;have x4:PI (NA seed) q.1:=by
   rw[s];refine⟨p1,q3,?_,?_,λt' ht=>?_,Zb,Zb⟩;·show(p.2.2.2.1++[t]).length=f.2.2.1.length;rw[hx];simp;omega
   ·show(p.2.2.2.1++[t]).length<=8;simp;omega
   ·rcases Z1 ht with z|z;·exact p5 t' z
    ·rw[YZ z];exact⟨A.1,A.2.1⟩
  have hE:q.1.2.2.1.2.2.1.length=p.2.2.1.2.2.1.length+1:=by rw[s];show f.2.2.1.length=_;rw[hx];simp
  refine Zj (W.UQ (λh=>∃v:Nat,h.2=v/\v<=p.2.2.2.2.2.1.length/\h.1=(p.2.2.2.2.2.1.take v).map λy=>vL y ((q.1.2.2.1.2.2.1.length:Nat):Int)) (λh=>h.1=p.2.2.2.2.2.1.map λy=>vL y ((q.1.2.2.1.2.2.1.length:Nat):Int)) (λh=>(p.2.2.2.2.2.1.length-h.2).toNat) ⟨0,rfl,Y,rfl⟩ Zw (λh F=>?_) λh F=>?_)
  ·obtain⟨u1,u2⟩:=h;obtain⟨v,e1,x,e3⟩:=F;dsimp only at e1 e3;subst e1 e3;refine Zp ⟨λc=>?_,λc=>J ?_⟩;·simp only[Wx]at c;refine Xo ⟨by simp only[Wx];omega,Zj (YF ⟨Zw,λy hy=>?_⟩)⟩;rw[be P5,be DH];refine Xa ⟨by simp only[Wx,Jj,UF,V9];omega,?_⟩;rw[show Zk (Zu (v:Int) 1)=((v+1:Nat):Int)by simp only[Wx];rw[ZK Y];rfl];rw[Vz]at hy;refine J ⟨⟨v+1,rfl,Y,?_⟩,Zw⟩;show List.map _ (List.take v p.2.2.2.2.2.1)++[_]=_;rw[O2,hy,Vg];rfl
   ·simp only[Wx]at c;show List.map _ (List.take v p.2.2.2.2.2.1)=_;rw[VT Y]
  ·rw[be P5];refine Zj ((Zcz x4).mono λz⟨⟨sg,z1,w⟩,z3,z4⟩=>?_);obtain⟨z5,z6⟩:=z4 Y Y;refine Zp ⟨λc=>by rw[z5]at c;simp only[Wx]at c,λ_=>Xa ⟨by rw[F];simp only[Wx,Jj,V9];omega,J ?_⟩⟩;have x7:LZ (U7 p) (UC t p.2.2.2.2.2.1) (U7 z.1):=⟨t,_,f,x9,A,Q,e▸T,by rw[w,s];rfl⟩;refine⟨d',_,false,R++[UC t p.2.2.2.2.2.1],o1,by rw[w,s];exact x5,by rw[w];exact⟨z1,x4.2⟩,⟨_,[],U7 z.1,Zb,(x0▸I:Td (s0 seed) R (U7 p)).snoc x7,rfl,rfl,λ_=>⟨rfl,rfl⟩⟩,⟨_,rfl⟩,⟨[x8],[t],by rw[w,s];exact hx,by rw[w,s],Zb,λ_=>rfl⟩,?_,?_,.inr (.inr (by rw[w,s])),.inr ⟨⟨U7 z.1,x0▸I,λ_=>⟨x7,rfl⟩⟩,A,Q,j,rfl,H⟩,λ_=>⟨?_,z.2.1,by rw[w];exact z6,?_⟩,λC D E K M N O a8=>⟨rfl,?_⟩⟩
   ·intro m S;have S:m∈h.1++[z.2.1]:=S;rw[F]at S;rcases Z1 S with y|y;·obtain⟨y0,-,rfl⟩:=Uj y;exact DA
    ·rw[YZ y];exact z3
   ·show(h.1++[z.2.1]).length<=17;rw[F];simp;omega
   ·rw[w,s];show(([]:List Tf),p.2.2.2.2.2.2)=_;rw[j]
   ·show h.1++[z.2.1]=_;rw[F,w]
   ·have xs:Y9 (UC t p.2.2.2.2.2.1).length<=16:=by unfold Y9;omega
    exact(o3 C D E Y Y).2
 ·obtain⟨y1,y2⟩:=q6 e;refine Zp ⟨λ_=>J ?_,λc=>by rw[U]at c;simp only[Wx]at c;exact(e c).elim⟩;rw[y2,U];refine⟨d',_,false,R++[UC t p.2.2.2.2.2.1],o1,x5,⟨p1,q3,?_,p4,p5,Zb,Zb⟩,⟨R,[UC t p.2.2.2.2.2.1],s1,rfl,I,?_,r4,λx=>(e x).elim⟩,⟨_,rfl⟩,⟨[],[],?_,Zb,Zb,λx=>(e x).elim⟩,Zb,Zb,.inr (.inr rfl),.inr ⟨⟨U7 p,x0▸I,λx=>(e x).elim⟩,A,Q,j,rfl,H⟩,λx=>(e x).elim,λC D E K M N O⟨xv,h9⟩=>?_⟩;·show p.2.2.2.1.length=f.2.2.1.length;rw[y1];exact p3
  ·show f.2.2.1=_;rw[y1];exact r3
  ·show f.2.2.1=_;rw[y1];simp
  ·rw[h9]at T;exact(e (X7 Prod.snd (XD T)).symm).elim
theorem ZiK{m}{l}(h:l.length<=1000000):W (pN m l) λb=>b=true↔∃y∈l,y.2.2.1=m.2.2.2.2.2.2.2.1:=by
 unfold pN ei;refine Zj (Wo (W.Vy (λa=>0<=a/\a<=l.length/\∀y∈l.take a.toNat,¬y.2.2.1=m.2.2.2.2.2.2.2.1) (λa=>∀y∈l,¬y.2.2.1=m.2.2.2.2.2.2.2.1) (λa=>(l.length-a).toNat) (λi=>0<=i/\∃y∈l,y.2.2.1=m.2.2.2.2.2.2.2.1) ⟨Zb,Y,Zb⟩ Y (λa f=>?_) (λa f=>J (J<|Zm)) λi e=>J ?_))
 ·obtain⟨k,o,n⟩:=f;refine Zp ⟨λd=>?_,λd=>J ?_⟩
  ·simp only[Wx]at d;refine Zj (YF ⟨Y,λy g=>?_⟩);rw[show qo m y=some _ by unfold qo Fe;rw[bs],bs];refine Zp ⟨λc=>?_,λc=>J ?_⟩;·rw[bs];rw[Ri]at c;exact J ⟨k,y,X6 g,c⟩
   ·rw[Ha]at c;rw[show Zk (Zu a 1)=a+1by simp only[Wx];rw[ZK Y]];refine⟨⟨Y,Y,λp j=>?_⟩,Zw⟩;rw[show(a+1).toNat=a.toNat+1by omega,O2,g]at j;grind
  ·simp only[Wx]at d;rwa[VT Y]at n
 ·simp only[Wx];exact⟨λ_=>e.2,λ_=>e.1⟩
def BI(p:Y8):Prop:=Fr p.2.2.2.2.1 p.2.2.2.2.2.1/\(p.2.2.2.2.2.1.map (·.2.2.1)).Nodup/\∀a∈p.2.2.2.2.2.1,1<=a.2.2.1.length
def HU(m:YN):Tf:=(m.2.1,m.2.2.2.1,m.2.2.2.2.2.2.2.1,m.2.2.2.2.2.2.2.2.1)
theorem Zmh{sd}{p}{m}(h:PI sd p)(A:Q9 m):W (qn p m) λo=>PI sd o.1/\(o.1=p\/∃b,o.1=(p.1,p.2.1,p.2.2.1,p.2.2.2.1,p.2.2.2.2.1,b,p.2.2.2.2.2.2))/\(BI p->BI o.1)/\MO o.2.1/\(m.1=1->(o.2.2=true/\o.1=p/\∃e r,o.2.1=Az m e r/\(r=0->UE (W0 m.2.1 p.2.2.2.2.1)=true/\U5 (W0 m.2.1 p.2.2.2.2.1) (0,0)=(m.2.2.2.1,e))/\(m.2.2.2.2.2.2.2.1.length<=32->1<=m.2.2.2.2.2.2.2.1.length->r=0\/r=11/\UE (W0 m.2.1 p.2.2.2.2.1)=true/\m.2.2.2.1<(U5 (W0 m.2.1 p.2.2.2.2.1) (0,0)).1\/r=13/\p.2.2.2.2.2.1≠[]))\/o.2.2=false/\¬(UE (W0 m.2.1 p.2.2.2.2.1)=true/\m.2.2.2.1<=(U5 (W0 m.2.1 p.2.2.2.2.1) (0,0)).1)/\(o.1=p/\(∃y∈p.2.2.2.2.2.1,y.1=m.2.1/\y.2.1=m.2.2.2.1)\/o.1=(p.1,p.2.1,p.2.2.1,p.2.2.2.1,p.2.2.2.2.1,p.2.2.2.2.2.1++[HU m],p.2.2.2.2.2.2))):=by
 obtain⟨p1,p2,p3,p4,p5,p6,p7⟩:=id h;unfold qn;refine Zp ⟨λv=>J ⟨h,.inl rfl,id,RY Zb,λe=>?_⟩,λv=>?_⟩;·simp only[Wx]at v;exact(v e).elim
 refine Yu (λb=>b=true↔UE (W0 m.2.1 p.2.2.2.2.1)=true/\m.2.2.2.1<=(U5 (W0 m.2.1 p.2.2.2.2.1) ((0:Int),(0:Int))).1) (λf=>J ?_) (λf=>J ?_) λb k=>?_;·rw[f];simp only[Wx]
 ·rw[f];simp
 refine Zp ⟨λf=>?_,λf=>?_⟩
 ·obtain⟨O,k2⟩:=k.1 f;refine Zp ⟨λa=>?_,λa=>?_⟩;·rw[be DH];simp only[Wx]at a;exact J ⟨h,.inl rfl,id,DA,λ_=>.inl ⟨rfl,rfl,_,_,rfl,λ_=>⟨O,by rw[<-a]⟩,λ_ _=>.inl rfl⟩⟩
  ·rw[be DH];simp only[Wx]at a;exact J ⟨h,.inl rfl,id,DA,λ_=>.inl ⟨rfl,rfl,_,_,rfl,λe=>absurd e YP,λ_ _=>.inr (.inl ⟨rfl,O,Y⟩)⟩⟩
 ·have C:¬(UE (W0 m.2.1 p.2.2.2.2.1)=true/\m.2.2.2.1<=(U5 (W0 m.2.1 p.2.2.2.2.1) ((0:Int),(0:Int))).1):=λq=>by rw[k.2 q]at f;cases f
  refine Yu (λj=>j=true↔¬(1<=m.2.2.2.2.2.2.2.1.length/\m.2.2.2.2.2.2.2.1.length<=32)) (λa=>J ?_) (λa=>J ?_) λj K=>Yu (λn=>(n=true->j=false->64<m.2.2.2.2.2.2.2.2.1.length)/\(n=false->j=false)) (λa=>J ⟨λ_ e=>(by rw[a]at e;cases e),λe=>by cases e⟩) (λa=>J ⟨λe _=>?_,λ_=>a⟩) λn l=>?_;·simp only[Wx]at a⊢;exact⟨λ_=>Y,λ_=>trivial⟩
  ·simp only[Wx]at a⊢;omega
  ·simp only[Wx]at e;omega
  have V:=A.2.2.2.2.2.2.2.1;refine Zp ⟨λa=>?_,λa=>?_⟩
  ·rw[be DH];refine J ⟨h,.inl rfl,id,DA,λ_=>.inl ⟨rfl,rfl,_,_,rfl,λe=>absurd e YP,λR S=>?_⟩⟩;exfalso;have t:j=false:=by
    cases U:j;·rfl
    ·exact(K.1 U ⟨S,R⟩).elim
   have:=l.1 a t;omega
  have t:=l.2 a;have M:1<=m.2.2.2.2.2.2.2.1.length/\m.2.2.2.2.2.2.2.1.length<=32:=by apply Zgk;intro q;rw[K.2 q]at t;cases t
  refine Wo (W.Vy (λd=>0<=d.1/\d.1<=p.2.2.2.2.2.1.length/\∀y∈p.2.2.2.2.2.1.take d.1.toNat,¬y.1=m.2.1) (λd=>∀y∈p.2.2.2.2.2.1,¬y.1=m.2.1) (λd=>(p.2.2.2.2.2.1.length-d.1).toNat) (λo=>o.1=p/\MO o.2.1/\p.2.2.2.2.2.1≠[]/\((o.2.2=false/\∃y∈p.2.2.2.2.2.1,y.1=m.2.1/\y.2.1=m.2.2.2.1)\/o.2.2=true/\o.2.1=Az m 0 13)) ⟨Zb,Zw,Zb⟩ Zw (λd E=>?_) (λd E=>?_) λo⟨rfl,X,Z,o4⟩=>?_)
  ·obtain⟨u1,u2,P⟩:=E;refine Zp ⟨λc=>?_,λc=>J ?_⟩
   ·simp only[Wx]at c;refine Xo ⟨by simp only[Wx];omega,Zj (YF ⟨Y,λy u=>?_⟩)⟩;have B:=X6 u;refine Yu (λb=>b=true↔y.1=m.2.1/\y.2.1=m.2.2.2.1) (λg=>J ?_) (λg=>J ?_) λT z=>Zp ⟨λg=>?_,λg=>Zp ⟨λw=>?_,λw=>J ?_⟩⟩;·simp only[Wx]at g⊢;exact⟨λe=>⟨g,e⟩,λe=>e.2⟩
    ·simp only[Wx]at g⊢;exact⟨λe=>e.elim,λe=>g e.1⟩
    ·rw[bs];exact J ⟨rfl,RY Zb,List.ne_nil_of_mem B,.inl ⟨rfl,y,B,z.1 g⟩⟩
    ·rw[be DH,bs];exact J ⟨rfl,DA,List.ne_nil_of_mem B,.inr ⟨rfl,rfl⟩⟩
    ·simp only[Wx]at w;rw[show Zk (Zu d.1 1)=d.1+1by simp only[Wx];rw[ZK Y]];refine⟨⟨Zw,Zw,λn l=>?_⟩,Zw⟩;dsimp only at l;rw[show(d.1+1).toNat=d.1.toNat+1by omega,O2,u]at l;rcases Z1 l with q|q;·exact P n q
     ·rw[YZ q];exact w
   ·simp only[Wx]at c;rwa[VT Y]at P
  ·refine Yu (λb=>b=true↔16<=p.2.2.2.2.2.1.length\/∃y∈p.2.2.2.2.2.1,y.2.2.1=m.2.2.2.2.2.2.2.1) (λc=>J ?_) (λc=>Zj ((ZiK (m:=m) Y).mono λT z=>J ?_)) λb3 I=>Zp ⟨λc=>?_,λc=>?_⟩;·simp only[Wx]at c;exact⟨λ_=>.inl Y,λ_=>rfl⟩
   ·simp only[Wx]at c;rw[z];exact⟨.inr,λe=>e.resolve_left Y⟩
   ·rw[be DH];refine J ⟨h,.inl rfl,id,DA,λ_=>.inl ⟨rfl,rfl,_,_,rfl,λe=>absurd e YP,λ_ _=>.inr (.inr ⟨rfl,λe=>?_⟩)⟩⟩;rcases I.1 c with q|⟨y,q,-⟩;·rw[e]at q;simp at q
    ·rw[e]at q;cases q
   ·have N:¬(16<=p.2.2.2.2.2.1.length\/∃y∈p.2.2.2.2.2.1,y.2.2.1=m.2.2.2.2.2.2.2.1):=λq=>by rw[I.2 q]at c;cases c
    have x0:p.2.2.2.2.2.1.length<16:=Nat.lt_of_not_le λq=>N (.inl q);refine Xa ⟨by simp only[Wx];omega,Xa ⟨by simp only[Wx];omega,Xa ⟨by simp only[Wx,V9];omega,J ⟨⟨p1,p2,p3,p4,p5,?_,?_⟩,.inr ⟨_,rfl⟩,λs=>⟨⟨?_,?_⟩,?_,?_⟩,RY Zb,λ_=>.inr ⟨rfl,C,.inr rfl⟩⟩⟩⟩⟩;·show(p.2.2.2.2.2.1++[_]).length<=16;simp;omega
    ·intro q i;change q∈p.2.2.2.2.2.1++[HU m]at i;rcases Z1 i with y|y;·exact p7 q y
     ·rw[YZ y];exact⟨A.1,A.2.2.1,M.2,V⟩
    ·show((p.2.2.2.2.2.1++[HU m]).map (·.1)).Nodup;rw[Vg,TM];refine⟨s.1.1,Zb,λQ x b k=>?_⟩;obtain⟨y,H,rfl⟩:=Uj x;rw[show b=m.2.1by simpa[HU]using k];exact E y H
    ·intro q i D;change q∈p.2.2.2.2.2.1++[HU m]at i;rcases Z1 i with y|y;·exact s.1.2 q y D
     ·rw[YZ y]at D⊢;have:¬m.2.2.2.1<=(U5 (W0 m.2.1 p.2.2.2.2.1) ((0:Int),(0:Int))).1:=λe=>C ⟨D,e⟩;exact Int.lt_of_not_ge this
    ·show((p.2.2.2.2.2.1++[HU m]).map (·.2.2.1)).Nodup;rw[Vg,TM];refine⟨s.2.1,Zb,λQ x b k=>?_⟩;obtain⟨y,H,rfl⟩:=Uj x;rw[show b=m.2.2.2.2.2.2.2.1by simpa[HU]using k];exact(λy u e=>N (.inr ⟨y,u,e⟩)) y H
    ·intro q i;change q∈p.2.2.2.2.2.1++[HU m]at i;rcases Z1 i with y|y;·exact s.2.2 q y
     ·rw[YZ y];exact M.1
  ·refine⟨h,.inl rfl,id,X,λ_=>?_⟩;rcases o4 with⟨F,G⟩|⟨F,G⟩;·exact .inr ⟨F,C,.inl ⟨rfl,G⟩⟩
   ·exact .inl ⟨F,rfl,0,13,G,λe=>absurd e YP,λ_ _=>.inr (.inr ⟨rfl,Z⟩)⟩
theorem vC{m}(h:MO m)(a b c):MO (a,b,c,m.2.2.2):=h
theorem Zfk{m x}{l}{e}(d:l.length<=1000000)(hx:MO x)(a:∀y∈l,MO y):W (ql m l x e) λo=>o.1=m/\o.2.length<=l.length+1/\∀y∈o.2,MO y:=by
 refine Yu _ (λ_=>Xa ⟨by simp[Wx,V9];omega,J ⟨Zb,λy c=>?_⟩⟩) (λ_=>J ⟨Zb,a⟩) λo b=>J ⟨rfl,b⟩;rcases Z1 c with q|q;·exact a y q
 ·rw[YZ q];exact vC hx _ _ _
theorem Zml{sd}{p}(h:PI sd p):W (qp p) λo=>(∃s,GS sd s/\o.1=(p.1,s,p.2.2))/\MO o.2.1:=by
 unfold qp;rw[be P5];refine Zj ((rY h).mono λo⟨⟨s,n,q⟩,v,w⟩=>Zp ⟨λr=>J ⟨⟨s,n,q⟩,RY Zb⟩,λr=>?_⟩);rw[q];have x:=h.2.2.2.1;have y:=h.2.2.1;refine Zj ((mK (s:=p.2.2.1) Y).mono λe t=>Zj (W.lp (λb=>∃(a:Nat)(c:List UB),b.1=a/\1<=a/\a<=9/\b.2=(8,0,0,0,0,0,0,[],[],o.2.1,([],[]),([],[]),Zn 32 0#8,z1,[],[],c,e)/\c.length<=100000*a) (λb=>(9-b.1).toNat) ⟨1,[],rfl,Y,Y,rfl,Zb⟩ Zw (λb g=>?_) λb g=>J ⟨⟨s,n,rfl⟩,?_⟩));·obtain⟨A,B⟩:=b;obtain⟨a,c,f,i,j,d,k⟩:=g;dsimp only at f d;subst f d;rw[be P5];refine Zp ⟨λl=>?_,λl=>J ⟨a,c,rfl,i,j,rfl,k⟩⟩;simp only[Wx]at l;refine Zj ((mC h.2.1).mono λu m=>Xa ⟨by have:=m.1;simp only[Wx];omega,?_⟩);rw[show Zk (Zu (a:Int) 1)=((a+1:Nat):Int)by simp only[Wx];rw[ZK Y];rfl];exact J ⟨⟨a+1,c++u,rfl,Y,Y,rfl,by have:=m.1;rw[Yw];omega⟩,Zw⟩
 ·obtain⟨a,c,f,i,j,d,k⟩:=g;show MO b.2;rw[d];have z:e.length<=8:=by rw[t];simp;omega
  refine⟨⟨by show o.2.1.2.length<=_;omega,VD _,VD _,VD _,VD _,VD _,VD _,VD _,by show c.length<=_;omega,by show e.length<=_;omega⟩,by show o.2.1.2.length<=_;omega⟩
theorem Zmf{sd}{p}{m}(h:PI sd p)(u:Q9 m):W (yH p m) λo=>(∃s,GS sd s/\o.1=(p.1,s,p.2.2))/\(∀x∈o.2,MO x)/\o.2.length<=8/\(m.1=1->o.2=[]):=by
 have I:=u.2.2.2.1;have K:=u.2.2.2.2.1;unfold yH;refine Zp ⟨λt=>?_,λt=>?_⟩
 ·simp only[Wx]at t;refine Zj (W.lp (λb=>∃(a:Nat)(s:Nk),b.1=a/\a<=8/\b.2.1=(p.1,s,p.2.2)/\GS sd s/\b.2.2.1=m/\b.2.2.2.length<=a/\∀x∈b.2.2.2,MO x) (λb=>(8-b.1).toNat) ⟨0,p.2.1,rfl,Y,rfl,h.1,rfl,Zb,Zb⟩ Zw (λb q=>?_) λb q=>J ?_);·obtain⟨M,N,E,O⟩:=b;obtain⟨a,s,j,r,i,e,k,l,c⟩:=q;dsimp only at j i k l c;subst j i k;refine Zp ⟨λf=>?_,λf=>J ⟨a,s,rfl,r,rfl,e,rfl,l,c⟩⟩;simp only[Wx]at f;have w:PI sd (p.1,s,p.2.2):=⟨e,h.2⟩;refine Uu (λ_=>by rw[be P5];exact J trivial) (λ_=>J trivial) λH=>Yu (λo=>(∃s,GS sd s/\o.1=(p.1,s,p.2.2))/\o.2.1=E/\o.2.2.length<=a+1/\∀x∈o.2.2,MO x) (λ_=>Zj ((Zcz w).mono λG g=>Zj ((Zfk Y g.2.1 c).mono λF d=>J ⟨g.1,d.1,by have:=d.2.1;dsimp only;omega,d.2.2⟩))) (λ_=>J ⟨⟨s,e,rfl⟩,rfl,Zw,c⟩) λo n=>?_;·obtain⟨⟨D,y,z⟩,A,B,C⟩:=n;rw[show Zk (Zu (a:Int) 1)=((a+1:Nat):Int)by simp only[Wx];rw[ZK Y];rfl];exact J ⟨⟨a+1,D,rfl,Y,z,y,A,B,C⟩,Zw⟩
  ·obtain⟨a,s,j,r,i,e,k,l,c⟩:=q;exact⟨⟨s,e,i⟩,c,Zw,λv=>Y⟩
 ·refine Yu (λo=>(∃s,GS sd s/\o.1=(p.1,s,p.2.2))/\(∀x∈o.2.2,MO x)/\o.2.2.length<=8/\(m.1=1->o.2.2=[])) (λf=>Zj ((Zml h).mono λG g=>Zj ((Zfk Zb g.2 Zb).mono λF d=>J ⟨g.1,d.2.2,by have:=d.2.1;simp at this;dsimp only;omega,λv=>?_⟩))) (λf=>J ⟨⟨p.2.1,h.1,rfl⟩,Zb,Zb,λ_=>rfl⟩) λo n=>J n;simp only[Wx]at f;omega
def wN(c:Yn)(n:Nj):Yn:=(c.1,c.2.1,c.2.2.1,c.2.2.2.1,c.2.2.2.2.1,c.2.2.2.2.2.1,c.2.2.2.2.2.2.1,c.2.2.2.2.2.2.2.1,n,c.2.2.2.2.2.2.2.2.2)
def nt(c:Yn):Nj:=c.2.2.2.2.2.2.2.2.1
def NI(n:Nj)(bs:List Zt):Prop:=n.1.length<=64/\(∀a∈n.1,0<=a.1/\∃b,a.2=some b/\b<bs.length)/\∀c∈bs,c.length<=20000
theorem NI.more{n}{bs}{b}(h:NI n bs)(k:b.length<=20000):NI n (bs++[b]):=by
 refine⟨h.1,λa e=>?_,λi f=>?_⟩;·obtain⟨c,g,d,j⟩:=h.2.1 a e;exact⟨c,g,d,Zm⟩
 ·rcases Z1 f with q|q;·exact h.2.2 i q
  ·grind
theorem mI{c}{bs}{t}{b}(h:NI (nt c) bs)(s:0<=t)(r:b.length<=1000000000):W (CI c bs t b) λo=>(∃n x,o.1=wN c n/\o.2.1=bs++x/\NI n o.2.1)/\(b.length<=20000->(nt c).1.length<64->o=(wN c ((nt c).1++[(t,some bs.length)],(nt c).2),bs++[b],true)):=by
 obtain⟨k,l,m⟩:=id h;unfold CI;refine Yu (λf=>f=false↔b.length<=20000/\(nt c).1.length<64) (λa=>J ?_) (λa=>J ?_) λf e=>Zp ⟨λa=>J ⟨⟨_,[],rfl,Zb,k,l,m⟩,λg i=>by rw[e.2 ⟨g,i⟩]at a;cases a⟩,λa=>?_⟩;·simp only[Wx]at a⊢;exact⟨λd=>d.elim,λd=>Y⟩
 ·change YH 64 (((nt c).1.length:Nat):Int)=false↔_;simp only[Wx]at a⊢;omega
 ·obtain⟨q,u⟩:=e.1 a;refine Xa ⟨by simp only[Wx];omega,Xa ⟨by show(nt c).1.length+1<=_;omega,J ⟨⟨_,[b],rfl,rfl,⟨?_,λj p=>?_,(h.more q).2.2⟩⟩,λ_ _=>rfl⟩⟩⟩;·show((nt c).1++[_]).length<=64;simp;omega
  ·change j∈(nt c).1++[_]at p;grind
theorem I2{c}{bs}{t}{m}(h:NI (nt c) bs)(l:0<=t)(i:MO m):W (R6 c bs t m) λo=>(∃n x,o.1=wN c n/\o.2=bs++x/\NI n o.2)/\∀b,Hx m=some (b,0)->b.length<=20000->(nt c).1.length<64->o=(wN c ((nt c).1++[(t,some bs.length)],(nt c).2),bs++[b]):=by
 refine Zj ((ZgI i.1 i.2).self.mono λj⟨g,p⟩=>Yu (λo=>(∃n x,o.2=wN c n/\o.1=bs++x/\NI n o.1)/\∀b,Hx m=some (b,0)->b.length<=20000->(nt c).1.length<64->o=(bs++[b],wN c ((nt c).1++[(t,some bs.length)],(nt c).2))) (λk=>Zj ((mI h l Y).mono λo d=>J ⟨d.1,λb a e f=>?_⟩)) (λk=>J ⟨⟨nt c,[],rfl,Zb,h⟩,λb a=>?_⟩) λo d=>J ⟨d.1,λb a e f=>by rw[d.2 b a e f]⟩);·have j:=XD (g.symm.trans a);simp_all
 ·rw[g]at a;simp_all
theorem zw{c}{i}:W (F1 c i) λb=>b=true↔0<=i/\i<(nt c).1.length:=by
 refine Yu _ (λa=>J ?_) (λa=>J ?_) λb d=>J d;·change Zz i ((nt c).1.length:Nat)=true↔_;simp_all
 ·simp only[Wx]at a⊢;exact⟨Zb,Y⟩
theorem bH{c}{bs}{i}(h:NI (nt c) bs):W (rI c bs i) λo=>o.2=false/\¬(0<=i/\i<(nt c).1.length)\/o.2=true/\(0<=i/\i<(nt c).1.length)/\∃f j b,(nt c).1[i.toNat]?=some f/\0<=f.1/\f.2=some j/\bs[j]?=some b/\o.1=(f.1,b):=by refine Zj (zw.mono λq m=>Zp ⟨λl=>J (.inl ⟨rfl,λa=>Zm⟩),λl=>?_⟩);·have a:=m.1 XA;refine Xo ⟨a,Zj (YF ⟨a,λf g=>?_⟩)⟩;obtain⟨k,j,d,n⟩:=h.2.1 f (X6 g);rw[d,ko];refine Zj (YF ⟨XA,λb e=>?_⟩);have p:=h.2.2 b (X6 e);exact Xa ⟨by simp only[Wx];omega,J (.inr ⟨rfl,a,f,j,b,g,k,d,e,rfl⟩)⟩
theorem cY{c}{bs}{i}(h:NI (nt c) bs):W (rH c i) λo=>o.2=true/\o.1=wN c ((nt c).1.eraseIdx i.toNat,(nt c).2)/\0<=i/\i<(nt c).1.length/\NI (nt o.1) bs\/o=(c,false)/\¬(0<=i/\i<(nt c).1.length):=by
 have j:=h.1;refine Zj (zw.mono λk g=>Zp ⟨λe=>J (.inr ⟨rfl,λa=>XA⟩),λe=>?_⟩)
 ·have a:=g.1 XA;rw[show Zk (Zu i 1)=i+1by simp only[Wx];rw[ZK Y]];have b:fY (nt c).1 i (i+1)=some ((nt c).1.eraseIdx i.toNat):=by show(if 0<=i/\i<=i+1/\i+1<=((nt c).1.length:Int)then some _ else none)=_;rw[YW Y,show(i+1).toNat=i.toNat+1by omega,Zgo]
  change W (O (fY (nt c).1 i (i+1)) _) _;rw[be b];refine J (.inl ⟨rfl,rfl,a.1,a.2,?_,λd f=>h.2.1 d (Zgp f),h.2.2⟩);show((nt c).1.eraseIdx i.toNat).length<=64;grind
theorem Zhr{c}{bs}{i}(h:NI (nt c) bs):W (jV c bs i) λo=>o.2.1=bs/\(o.2.2.2=false/\o.1=c/\¬(0<=i/\i<(nt c).1.length)\/o.2.2.2=true/\o.1=wN c ((nt c).1.eraseIdx i.toNat,(nt c).2)/\NI (nt o.1) bs/\(0<=i/\i<(nt c).1.length)/\∃f j b,(nt c).1[i.toNat]?=some f/\0<=f.1/\f.2=some j/\bs[j]?=some b/\o.2.2.1=(f.1,b)):=by
 refine Zj ((bH h).mono λv k=>?_);rcases k with⟨a,d⟩|⟨a,d,f,j,b,n,p,q,r,s⟩;·rw[a,Wi];exact J ⟨rfl,.inl ⟨rfl,rfl,d⟩⟩
 ·rw[a,WU];refine Zj ((cY h).mono λo g=>?_);rcases g with⟨l,e,t,u,m⟩|⟨-,e⟩;·exact J ⟨rfl,.inr ⟨l,e,m,d,f,j,b,n,p,q,r,s⟩⟩
  ·omega
theorem ZgE{c}{bs}{i}(h:NI (nt c) bs):W (jT c bs i) λo=>∃n x,o.1=wN c n/\o.2.1=bs++x/\NI n o.2.1:=by
 refine Zj ((bH h).mono λp e=>?_);rcases e with⟨a,f⟩|⟨a,f,l,m,b,q,g,r,j,k⟩;·rw[a,Wi];exact J ⟨nt c,[],rfl,Zb,h⟩
 ·rw[a,WU,k];have:=h.2.2 b (X6 j);exact Zj ((mI h g Zw).mono λo d=>J d.1)
theorem Zho{c}{bs}{i j}(h:NI (nt c) bs):W (rJ c i j) λo=>∃n,o.1=wN c n/\NI n bs/\n.1.length=(nt c).1.length:=by
 unfold rJ;refine Zj (zw.mono λu t=>Yu (λk=>k=false->(0<=i/\i<(nt c).1.length)/\0<=j/\j<(nt c).1.length) (λb=>J λa=>by cases a) (λb=>Zj (zw.mono λk d=>J λa=>⟨Zm,d.1 (by simpa only[Wx]using a)⟩)) λk d=>Zp ⟨λ_=>J ⟨nt c,rfl,h,rfl⟩,λb=>?_⟩);obtain⟨e,f⟩:=d b;refine Xo ⟨f,Zj (YF ⟨f,λl q=>Xo ⟨e,Zj (YF ⟨e,λm r=>Xo ⟨e,Xo ⟨?_,J ⟨(((nt c).1.set i.toNat l).set j.toNat m,(nt c).2),rfl,⟨?_,λp s=>?_,h.2.2⟩,Zb⟩⟩⟩⟩)⟩⟩)⟩;·show 0<=j/\j<(((nt c).1.set i.toNat l).length:Nat);rw[Ol];exact f
 ·dsimp only;rw[Ol,Ol];exact h.1
 ·rcases nv s with g|rfl
  ·rcases nv g with g|rfl;·exact h.2.1 p g
   ·exact h.2.1 _ (X6 q)
  ·exact h.2.1 _ (X6 r)
theorem Zhu{c}{bs}{i k}{x}(h:NI (nt c) bs):W (rK c bs i k x) λo=>o.1=c/\NI (nt c) o.2.1:=by
 unfold rK;have Q:∀{l:Type}{u:l->Prop}{b:uI}{g:Zt->Option l},b∈(nt c).1->(∀a d,b.2=some a->bs[a]?=some d->W (g d) u)->W (Yq b.2 none λT=>O (ZA bs (Ze T)) g) u:=λ{l u b g}e H=>by obtain⟨v,a,r,C⟩:=h.2.1 b e;rw[r,ko];exact Zj (YF ⟨by simp only[Wx];omega,λd I=>H a d r (by rwa[show(Ze a).toNat=a from Vz a]at I)⟩)
 refine Zj (zw.mono λX P=>Yu (λt=>t=false->(0<=i/\i<(nt c).1.length)/\0<=k) (λf=>J λj=>by cases j) (λf=>J λj=>⟨P.1 (by simpa only[Wx]using f),by simpa only[Wx]using j⟩) λt y=>Yu (λE=>E=false->t=false/\∀b a d,(nt c).1[i.toNat]?=some b->b.2=some a->bs[a]?=some d->k<d.length) (λf=>J λj=>by cases j) (λf=>?_) λE N=>Zp ⟨λ_=>J ⟨rfl,h⟩,λf=>?_⟩);·obtain⟨n,s⟩:=y f;refine Xo ⟨n,Zj (YF ⟨n,λb e=>Q (X6 e) λa d p m=>J λj=>⟨f,λV D U z A B=>?_⟩⟩)⟩;change(nt c).1[i.toNat]?=some b at e;rw[e]at z;cases z;rw[p]at A;cases A;rw[m]at B;cases B;simpa only[Wx]using j
 ·obtain⟨G,K⟩:=N f;obtain⟨n,s⟩:=y G;refine Xo ⟨n,Zj (YF ⟨n,λb e=>?_⟩)⟩;obtain⟨v,a,p,F⟩:=h.2.1 b (X6 e);obtain⟨d,m⟩:∃d,bs[a]?=some d:=⟨bs[a],VB F⟩;have w:=K b a d e p m;rw[p,ko];have q:∀{l:Type}{g:Zt->Option l},O (ZA bs (Ze a)) g=g d:=λ{l g}=>be (Sz (Oi _) (by rw[show(Ze a).toNat=a from Vz a];exact m));rw[q];refine Xo ⟨⟨s,w⟩,?_⟩;rw[q];refine Zj (YF ⟨⟨s,w⟩,λt y=>?_⟩);rw[ko,q];refine Xo ⟨⟨s,w⟩,?_⟩;rw[q];refine J ⟨rfl,h.1,λb e=>?_,λR M=>?_⟩;·obtain⟨v,D,r,C⟩:=h.2.1 b e;exact⟨v,D,r,by simpa[Y3]using C⟩
  ·rcases nv M with S|rfl;·exact h.2.2 R S
   ·simp only[Wx,Ol];exact h.2.2 d (X6 m)
theorem DZ{b}:W (I1 b) λ_=>True:=by exact Zp ⟨λ_=>J trivial,λ_=>J trivial⟩
def SI(s:XZ):Prop:=s.2.2.2.2.2.2.2.2.2.2.2.2.2.2.1.length<=64
def VL(l:List VH):Prop:=l.length<=4096/\∀v∈l,v.2.2.2.2.length<=64
def FO(f:Fo):Prop:=f.1.length<=64/\VL f.2.2.2
theorem ZgA{s}{n k}{l}(h:SI s):W (fR s n l k) λo=>SI o.1/\MO o.2.1:=by
 refine Zj (W.mono (P:=λa=>a=false->l.length<=32) ?_ λa c=>Zp ⟨λ_=>J ⟨h,RY Zb⟩,λb=>Zp ⟨λ_=>J ⟨h,RY Zb⟩,λ_=>?_⟩⟩);·simp[Wx];omega
 ·have:=c b;exact Xa ⟨by simp[Wx];omega,J ⟨by show l.length<=64;omega,RY Zb⟩⟩
theorem ZjP{s}{m}:W (pF s m) λ_=>True:=by unfold pF;simp only[Wx]
theorem Zk4{s}:W (fS s) λ_=>True:=by exact Zp ⟨λ_=>J trivial,λ_=>Zj (mG.mono λ_ _=>J trivial)⟩
theorem Znh{s}{m}{e}(b:Q9 m):W (fT s m e) λ_=>True:=by obtain⟨-,-,-,-,-,-,-,-,-,-,-,c,⟨d,-⟩,-⟩:=b;refine Zj (Zk4.mono λ_ _=>Zj (Zky.mono λ_ _=>Zp ⟨λ_=>J trivial,λ_=>Zj (tK.mono λ_ _=>Zj (Zkx.mono λ_ _=>Zp ⟨λ_=>J trivial,λ_=>Uu (λ_=>J trivial) (λ_=>J trivial) λ_=>Zp ⟨λ_=>J trivial,λ_=>Zj ((Zhj (by show m.2.2.2.2.2.2.2.2.2.2.2.2.2.1.1.length<=_;omega) (by show m.2.2.2.2.2.2.2.2.2.2.2.2.2.2.1.length<=_;omega)).mono λ_ _=>Zp ⟨λ_=>J trivial,λ_=>Uu (λ_=>J trivial) (λa=>?_) λ_=>J trivial⟩)⟩⟩))⟩));·simp only[Wx]at a;rw[show Zk _=m.2.2.2.2.2.2.2.2.2.2.2.2.2.2.1.length-1by simp only[Wx];rw[ZK Y]];exact Zj (YF ⟨Y,λ_ _=>J trivial⟩)
theorem Zgv{s}{m}{t}(h:SI s)(d:Q9 m):W (pE s m t) λo=>SI o.1/\FO o.2.1:=by
 have a:FO ([],0,(0,0,Zn 32 0#8,Zn 32 0#8),[]):=⟨Zb,Zb,Zb⟩;obtain⟨-,-,-,-,-,-,-,-,j,-,-,i,⟨c,e⟩,-⟩:=id d;unfold pE;refine Zj (ZjP.mono λ_ _=>Zp ⟨λ_=>J ⟨h,a⟩,λ_=>Uu (λ_=>J trivial) (λ_=>J trivial) λg=>Zp ⟨λ_=>J ⟨h,a⟩,λ_=>Zj ((bL Y).mono λ_ _=>Zp ⟨λ_=>J ⟨h,a⟩,λ_=>Zp ⟨λ_=>J ⟨h,a⟩,λ_=>Zp ⟨λ_=>J ⟨h,a⟩,λ_=>Zj ((Znh d).mono λ_ _=>Zp ⟨λ_=>J ⟨h,a⟩,λ_=>Uu (λ_=>J trivial) (λ_=>J trivial) λ_=>Zp ⟨λ_=>J ⟨h,a⟩,λ_=>Uu (λ_=>Uu (λ_=>J trivial) (λ_=>J trivial) λ_=>J trivial) (λ_=>J trivial) λ_=>Zp ⟨λ_=>J ⟨h,a⟩,λ_=>Yu SI (λ_=>J h) (λ_=>J h) λf b=>Xa ⟨?_,Xa ⟨?_,J ⟨b,b,c,e⟩⟩⟩⟩⟩⟩)⟩⟩⟩)⟩⟩);·have:f.2.2.2.2.2.2.2.2.2.2.2.2.2.2.1.length<=64:=b;simp only[Wx];omega
 ·have:=c;simp only[Wx];unfold LL at this;omega
theorem ZjT{m}{f}(b:FO f):W (jN m f) λ_=>True:=by have c:=b.2.1;refine Uu (λ_=>J trivial) (λa=>Zj ((vq Y).mono λ_ _=>Uu (λ_=>?_) (λ_=>J trivial) λ_=>J trivial)) λ_=>J trivial;simp only[Wx]at a;rw[show Zk _=f.2.2.2.length-1by simp[Wx];rw[ZK Y]];exact Zj (YF ⟨Y,λ_ _=>J trivial⟩)
theorem ZrH{a b}:W (rz a b) λ_=>True:=by unfold rz Fe;simp[Wx]
theorem Zjl{a b}(h:a.length<=1000000):W (fZ a b) λ_=>True:=by refine Zp ⟨λ_=>J trivial,λe=>?_⟩;simp[Wx]at e;refine Wo (W.Ku (λc=>0<=c/\c<=a.length) (λc=>(a.length-c).toNat) (λ_=>True) ⟨Zb,Y⟩ Y (λc d=>?_) (λc d=>J trivial) λ_ _=>trivial);obtain⟨g,i⟩:=d;refine Zp ⟨λf=>?_,λ_=>J ⟨g,i⟩⟩;simp[Wx]at f;refine Zj (YF ⟨Y,λ_ _=>Zj (YF ⟨Y,λ_ _=>Zj (ZrH.mono λ_ _=>Zp ⟨λ_=>by rw[bs];exact J trivial,λ_=>J ?_⟩)⟩)⟩);rw[show Zk _=c+1by simp[Wx];rw[ZK Y]];exact⟨Y,Zm⟩
theorem ZbQ{l}(h:VL l):W (yg l) VL:=by have k:=h.1;unfold yg;refine Zj (W.lp (λa=>0<=a.2/\a.2<=l.length/\a.1.length=a.2/\∀v∈a.1,v.2.2.2.2.length<=64) (λa=>(l.length-a.2).toNat) ⟨Zb,Zw,Zb,Zb⟩ Zw (λa b=>?_) λa b=>J ⟨Y,b.2.2.2⟩);obtain⟨e,f,g,i⟩:=b;refine Zp ⟨λc=>?_,λ_=>J ⟨e,f,g,i⟩⟩;simp only[Wx]at c;refine Zj (YF ⟨Y,λj d=>?_⟩);have n:=h.2 j (X6 d);rw[show Zk (Zu a.2 1)=a.2+1by simp only[Wx];rw[ZK Y]];refine Xa ⟨by simp only[Wx];omega,Xa ⟨Zm,J ⟨⟨Zw,Zw,Zm,λv m=>?_⟩,Zw⟩⟩⟩;grind
theorem ZgZ{m}{f}(a:FO f):W (ry m f) λ_=>True:=by have b:=a.2.1;unfold ry Fe;rw[bs];refine Uu (λ_=>J trivial) (λ_=>J trivial) λ_=>Zp ⟨λ_=>J trivial,λ_=>Zj ((ZjT a).mono λ_ _=>Zp ⟨λ_=>J trivial,λ_=>Zp ⟨λ_=>J trivial,λ_=>Zj ((bU Y).mono λe c=>Zj ((Zjl Y).mono λ_ _=>Zp ⟨λ_=>J trivial,λ_=>Zj ((ZbQ a.2).mono λ_ _=>Zj (N0.2 ⟨Zm,Zj ((ZbQ ?_).mono λ_ _=>J trivial)⟩))⟩))⟩⟩)⟩;·refine⟨?_,λv d=>a.2.2 v Zm⟩;grind
def ud(c:Yn):List l7:=c.2.2.2.2.2.2.2.2.2.2.1
def wU(c:Yn)(u:List l7):Yn:=(c.1,c.2.1,c.2.2.1,c.2.2.2.1,c.2.2.2.2.1,c.2.2.2.2.2.1,c.2.2.2.2.2.2.1,c.2.2.2.2.2.2.2.1,c.2.2.2.2.2.2.2.2.1,c.2.2.2.2.2.2.2.2.2.1,u,c.2.2.2.2.2.2.2.2.2.2.2)
def lk(c:Yn):List l0:=c.2.2.2.2.2.2.2.2.2.1
def wL(c:Yn)(u:List l0):Yn:=(c.1,c.2.1,c.2.2.1,c.2.2.2.1,c.2.2.2.2.1,c.2.2.2.2.2.1,c.2.2.2.2.2.2.1,c.2.2.2.2.2.2.2.1,c.2.2.2.2.2.2.2.2.1,u,c.2.2.2.2.2.2.2.2.2.2)
def Pn(ss:List XZ)(s:Nat):Prop:=∃a,ss[s]?=some a/\SI a
def CX(U:Nat)(ss:List XZ)(M:Nat)(x:WS):Prop:=(∃b,x.1=some b/\Pn ss b)/\(x.2.2.2.1=-1\/0<=x.2.2.2.1/\x.2.2.2.1<U)/\∀c∈x.2.2.2.2.2,∃a,c.2=some a/\a<M
def CL(c:Yn)(cs:List WS)(ss:List XZ)(M:Nat):Prop:=c.2.2.2.2.2.2.1.length=2/\∀(e:Nat)(a:Option Nat),c.2.2.2.2.2.2.1[e]?=some a->∃(b:Nat)(d:WS),a=some b/\cs[b]?=some d/\CX (ud c).length ss M d
theorem Gc{ss}{s s'}{y}(h:Pn ss s)(c:SI y):Pn (ss.set s' y) s:=by
 have⟨d,a,b⟩:=h;have f:=(Wm a).1;by_cases e:s'=s;·exact⟨y,XA,c⟩
 ·exact⟨d,XA,b⟩
theorem CX.up{U b}{ss}{M a}{x}(h:CX U ss M x)(k:U<=b)(j:M<=a):CX b ss a x:=⟨h.1,h.2.1.imp id λg=>⟨g.1,Y⟩,λf d=>by have⟨e,c,i⟩:=h.2.2 f d;exact⟨e,c,Y⟩⟩
theorem CX.ss{U}{ss a}{M}{x}(h:CX U ss M x)(hs:∀s,Pn ss s->Pn a s):CX U a M x:=by have⟨⟨s,b,c⟩,d⟩:=h;exact⟨⟨s,b,hs s c⟩,d⟩
theorem CL.put{c c'}{cs}{ss d}{M a j}{x}(h:CL c cs ss M)(g:c'.2.2.2.2.2.2.1=c.2.2.2.2.2.2.1)(o:(ud c).length<=(ud c').length)(n:M<=a)(hs:∀s,Pn ss s->Pn d s)(hx:CX (ud c').length d a x):CL c' (cs.set j x) d a:=by
 refine⟨by rw[g];exact h.1,λp i f=>?_⟩;rw[g]at f;have⟨b,q,e,l,m⟩:=h.2 p i f;by_cases k:j=b;·exact⟨b,x,e,by rw[k,dO (Wm l).1],hx⟩
 ·exact⟨b,q,e,XA,(m.up o n).ss hs⟩
theorem CL.up{c c'}{cs}{ss e}{M a}(h:CL c cs ss M)(d:c'.2.2.2.2.2.2.1=c.2.2.2.2.2.2.1)(l:(ud c).length<=(ud c').length)(k:M<=a)(hs:∀s,Pn ss s->Pn e s):CL c' cs e a:=by refine⟨by rw[d];exact h.1,λm f b=>?_⟩;rw[d]at b;have⟨n,o,g,i,j⟩:=h.2 m f b;exact⟨n,o,g,i,(j.up l k).ss hs⟩
theorem gt{α β}{l}{k}{x}{a:α->Option β}(h:l[k]?=some x):O (ZA l (Ze k)) a=a x:=be (Sz Zb (by exact h))
theorem aJ{c}{i}(h:c.2.2.2.2.2.2.1.length=2):W (uw c i) λa=>a=none\/∃k:Nat,i=k/\c.2.2.2.2.2.2.1[k]?=some a:=by refine Yu (λb=>b=false->0<=i/\i<2) (λ_=>J λd=>by cases d) (λe=>J λd=>Zm) λb g=>Zp ⟨λ_=>J (.inl rfl),λe=>?_⟩;·have:=g e;refine Xo ⟨XA,Zj (YF ⟨Y,λa f=>J (.inr ⟨i.toNat,Y,f⟩)⟩)⟩
theorem uk{c}{i}(h:c.2.2.1.length=5)(d:0<=i)(e:i<5)(a:∀x∈c.2.2.1,-2<=x/\x<=2)(f:0<=c.2.1/\c.2.1<=1000000000):W (AL c i) λt=>1<=t/\t<=c.2.1+3:=by refine Xo ⟨Zm,Zj (YF ⟨Y,λx b=>J ?_⟩)⟩;have:=a x (X6 b);simp[Wx];rw[ZK Y];omega
theorem uF{c}{bs}{m}(h:NI (nt c) bs)(g:MO m):W (La c bs m) λo=>∃n x,o.1=wN c n/\o.2=bs++x/\NI n o.2:=by refine Yu (λd=>d=true->0<=m.2.2.1) (λa=>J λ_=>XA) (λa=>J λe=>by cases e) λd f=>Yu _ (λa=>Zj ((I2 h (f a) g).mono λo b=>J b.1)) (λa=>J ⟨nt c,[],rfl,Zb,h⟩) λo b=>J b
theorem ZqE{c}{x}{ss}{bs}{o}{s}(h:NI (nt c) bs)(v:c.2.2.2.2.2.1.length=2)(hx:x.1=some s)(hs:Pn ss s):W (uz c x ss bs o) λr=>∃n b,r.1=wN c n/\r.2.2.2.1=bs++b/\NI n (bs++b)/\(∀s,Pn ss s->Pn r.2.2.1 s)/\r.2.1.1=x.1/\r.2.1.2.2.2=x.2.2.2:=by
 obtain⟨w,m,p⟩:=hs;have k:∃n b,c=wN c n/\bs=bs++b/\NI n (bs++b):=⟨nt c,[],rfl,Zb,by simpa using h⟩;unfold uz;refine Yu (λb=>b=false->0<=o.2.2.1/\o.2.2.1<2) (λ_=>J λi=>by cases i) (λj=>J λi=>XA) λb l=>Zp ⟨λ_=>J<|XA,λj=>?_⟩
 ·have u:=l j;rw[hx,ko,gt m];refine Zj ((ZgA p).mono λt f=>Zp ⟨λ_=>J ?_,λ_=>?_⟩);·obtain⟨n,b,d,a,e⟩:=k;exact⟨n,b,d,a,e,λ_ g=>Gc g f.1,by rw[hx],rfl⟩
  ·rw[show Zk (Zu o.2.2.1 1)=o.2.2.1+1by simp only[Wx];rw[ZK Y]];refine Zj ((I2 h Y f.2).mono λy q=>J ?_);obtain⟨n,b,d,a,e⟩:=q.1;exact⟨n,b,d,a,by rw[<-a];exact e,λ_ g=>Gc g f.1,rfl,rfl⟩
def CP(c:Yn)(bs:List Zt)(cs:List WS)(ss:List XZ)(M:Nat)(c':Yn)(f:List WS)(g:List XZ)(a:List Zt):Prop:=∃b d e,c'=wU (wN c b) (ud c++d)/\a=bs++e/\NI b a/\d.length<=1/\CL c' f g M
theorem ZhU{c}{cs}{ss}{bs}{o}{M}(h:NI (nt c) bs)(E:c.2.2.2.2.2.1.length=2)(hC:CL c cs ss M)(I:(ud c).length<=100000000)(P:o.2.2.2.2.1.length<=100000/\o.2.2.2.2.2.1.length<=100000)(N:o.1=3\/o.1=4\/o.1=5):W (uu c cs ss bs o) λr=>CP c bs cs ss M r.1 r.2.1 r.2.2.1 r.2.2.2.1:=by
 have m:CP c bs cs ss M c cs ss bs:=⟨nt c,[],[],by rw[Xp];rfl,Zb,h,Zb,hC⟩;unfold uu;refine Zj ((aJ hC.1).mono λA C=>?_);rcases C with rfl|⟨G,O,D⟩;·rw[KJ];exact J m
 obtain⟨p,Q,rfl,a,k⟩:=hC.2 G A D;have K:=(Wm a).1;rw[ko,gt a];refine Zp ⟨λs=>?_,λs=>Zp ⟨λl=>?_,λl=>Zp ⟨λg=>?_,λg=>?_⟩⟩⟩
 ·rw[ko,gt a,gt a];refine Zp ⟨λ_=>J m,λl=>?_⟩;rw[ko,gt a,gt a,ko,gt a,gt a,ko,gt (Vl a),gt (Vl a),ko,gt (Vl (Vl a)),gt (Vl (Vl a))];refine Xa ⟨by simp only[Wx];omega,Xa ⟨by simp only[Wx];omega,Xa ⟨by show(ud c).length+1<=_;omega,?_⟩⟩⟩;rw[ko,gt (Vl (Vl a)),gt (Vl (Vl a))];refine Xo ⟨?_,Zj (YF ⟨?_,λH F=>?_⟩)⟩;·show 0<=(((ud c).length:Nat):Int)/\(((ud c).length:Nat):Int)<(((ud c++[_]).length:Nat):Int);rw[Yw,V9];omega
  ·show 0<=(((ud c).length:Nat):Int)/\(((ud c).length:Nat):Int)<(((ud c++[_]).length:Nat):Int);rw[Yw,V9];omega
  ·refine Zj ((I2 (c:=wU c (ud c++[_])) h Y (RY Zb)).mono λd n=>J ?_);obtain⟨j,f,b,e,i⟩:=n.1;refine⟨j,[_],f,by rw[b];rfl,e,i,Zb,?_⟩;show CL d.1 (List.set (List.set cs p _) p _) ss M;rw[b,Sa];refine hC.put rfl ?_ (YG _) (λ_ q=>q) ⟨k.1,.inr ?_,k.2.2⟩;·show(ud c).length<=(ud c++[_]).length;simp
   ·show 0<=(((ud c).length:Nat):Int)/\(((ud c).length:Nat):Int)<(((ud c++[_]).length:Nat):Int);rw[Yw,V9];omega
 ·rw[ko,gt a,gt a];refine Zp ⟨λ_=>J m,λg=>?_⟩;simp only[Wx]at g;have w:=k.2.1.resolve_left g;rw[ko,gt a,gt a];refine Xo ⟨w,Zj (YF ⟨w,λH F=>Zj ((I2 h Y (RY Zb)).mono λd n=>J ?_)⟩)⟩;obtain⟨j,f,b,e,i⟩:=n.1;refine⟨j,[],f,by rw[b,Xp];rfl,e,i,Zb,?_⟩;show CL d.1 cs ss M;rw[b];exact hC.up rfl (YG _) (YG _) λ_ q=>q
 ·rw[ko,gt a];obtain⟨⟨x,y,z⟩,v⟩:=id k;refine Zj ((ZqE h E y z).mono λd⟨j,f,b,e,i,t,B,u⟩=>J ⟨j,[],f,by rw[b,Xp];rfl,e,by rw[e];exact i,Zb,?_⟩);show CL d.1 (cs.set p d.2.1) d.2.2.1 M;rw[b];exact hC.put rfl (YG _) (YG _) t ⟨⟨x,by rw[B,y],t x z⟩,by rw[u];exact v.1,by rw[u];exact v.2⟩
 ·simp only[Wx]at s l g;omega
theorem ZhC{c}{x}{ss}{m}{M}(h:CX (ud c).length ss M x):W (lI c x ss m) λr=>∃u,r.1=wU c u/\u.length=(ud c).length/\CX (ud c).length r.2.2.1 M r.2.1/\∀s,Pn ss s->Pn r.2.2.1 s:=by have⟨⟨s,n,o,j,g⟩,k,l⟩:=id h;refine Yu (λa=>a=false->¬x.2.2.2.1=-1) (λ_=>J λd=>by cases d) (λb=>J λ_=>XA) λa e=>Yu (λa=>a=false->¬x.2.2.2.1=-1) (λ_=>J λd=>by cases d) (λb=>J λ_=>e b) λa e=>Yu (λa=>a=false->¬x.2.2.2.1=-1) (λ_=>J λd=>by cases d) (λb=>J λ_=>e b) λa e=>Zp ⟨λ_=>J ⟨ud c,rfl,rfl,h,λ_ f=>f⟩,λb=>?_⟩;have i:=k.resolve_left (e b);refine Xo ⟨i,Zj (YF ⟨i,λq p=>?_⟩)⟩;rw[n,ko,gt j];unfold fQ;rw[bs];refine J ⟨(ud c).set _ _,rfl,Zb,⟨⟨s,rfl,Gc ⟨o,j,g⟩ g⟩,.inl rfl,l⟩,λ_ f=>Gc f g⟩
theorem Zlf{α}{x:Zt}{y:α}{l}(h:W0 x l=some y):∃a,(a,y)∈l:=jK h
theorem Zlg{α}{x:Zt}{y:α}{l}{p}(h:p∈KC x y l):p.2=y\/p∈l:=rA h
theorem ZhI{c}{x}{ss}{ms}{i}{m}(C:CX (ud c).length ss ms.length x)(H:c.2.2.2.2.2.1.length=2)(E:c.2.2.1.length=5)(hs:∀x∈c.2.2.1,-2<=x/\x<=2)(G:0<=c.2.1/\c.2.1<=1000000000)(T:0<=i)(h2:i<2)(hL:(lk c).length<=1000000000)(F:Q9 m):W (ur c x ss ms i m) λr=>∃u l,r.1=wL c (lk c++u)/\u.length<=1/\r.2.2.2.1.length=ms.length+l/\CX (ud c).length r.2.2.1 r.2.2.2.1.length r.2.1/\∀s,Pn ss s->Pn r.2.2.1 s:=by
 obtain⟨⟨s,o,B,w,y⟩,A,h⟩:=id C;unfold ur;rw[show Zk (Zu (Zk (Zu 1 (Ze (Zf c.2.2.2.2.2.1)))) i)=3+i by simp only[Wx];rw[H,ZK (n:=1+((2:Nat):Int)) Y,ZK Y];omega];refine Zj ((uk E Y Y hs G).mono λV _=>?_);rw[o,ko,gt w];refine Zj ((Zgv y F).mono λz b=>Zp ⟨λ_=>J ⟨[],0,by rw[Xp];rfl,Zb,rfl,⟨⟨s,o,Gc ⟨B,w,y⟩ b.1⟩,A,h⟩,λ_ q=>Gc q b.1⟩,λ_=>Xa ⟨by show(lk c).length+1<=_;omega,Yu (λa=>∃d l,a.1=some d/\d<a.2.1.length/\a.2.1.length=ms.length+l/\a.2.2.2=z.2.1/\a.2.2.1.1=x.1/\a.2.2.1.2.2.2.1=x.2.2.2.1/\∀f∈a.2.2.1.2.2.2.2.2,∃m,f.2=some m/\m<a.2.1.length) (λp=>?_) (λp=>J ?_) λa⟨d,l,K,M,N,O,P,Q,R⟩=>?_⟩⟩)
 ·unfold jO;have U:=b.2.1;refine Zj (Xa ⟨by simp only[Wx];omega,J (J ⟨ms.length,1,rfl,Zb,Zb,rfl,o.symm,rfl,λf t=>?_⟩)⟩);rcases Zlg t with q|q;·exact⟨ms.length,q,Zb⟩
  ·obtain⟨j,g,k⟩:=h f q;exact⟨j,g,WI⟩
 ·cases e:W0 z.2.1.1 x.2.2.2.2.2with|none=>rw[e]at p;cases p|some v=>obtain⟨S,D⟩:=Zlf e;obtain⟨d,g,k⟩:=h _ D;exact⟨d,0,by show v=_;exact g,k,rfl,rfl,rfl,rfl,h⟩
 ·obtain⟨v,I⟩:∃v,a.2.1[d]?=some v:=⟨_,VB M⟩;rw[K,ko,gt I,O];refine Zj ((ZgZ b.2).mono λX _=>J ⟨[_],l,rfl,Zb,?_,⟨⟨s,by rw[P];exact o,Gc ⟨B,w,y⟩ b.1⟩,?_,λf t=>?_⟩,λ_ q=>Gc q b.1⟩);·show(List.set _ _ _).length=_;rw[Ol,N]
  ·show a.2.2.1.2.2.2.1=-1\/_;rw[Q];exact A
  ·obtain⟨j,g,k⟩:=R f t;exact⟨j,g,by show j<(List.set _ _ _).length;rw[Ol];exact k⟩
def CQ(c:Yn)(cs:List WS)(ss:List XZ)(ms:List UO)(c':Yn)(d:List WS)(f:List XZ)(e:List UO):Prop:=∃b a,c'=wL (wU c b) (lk c++a)/\b.length=(ud c).length/\a.length<=1/\CL c' d f e.length
theorem Zsp{c}{cs}{ss}{ms}{i}{m}(hC:CL c cs ss ms.length)(u:c.2.2.2.2.2.1.length=2)(p:c.2.2.1.length=5)(hs:∀x∈c.2.2.1,-2<=x/\x<=2)(t:0<=c.2.1/\c.2.1<=1000000000)(hL:(lk c).length<=1000000000)(s:Q9 m):W (uA c cs ss ms i m) λr=>CQ c cs ss ms r.1 r.2.1 r.2.2.1 r.2.2.2.1:=by
 have g:CQ c cs ss ms c cs ss ms:=⟨ud c,[],by rw[Xp];rfl,rfl,Zb,hC⟩;unfold uA;refine Zj ((aJ hC.1).mono λl o=>?_);rcases o with rfl|⟨w,B,j⟩;·rw[KJ];exact J g
 obtain⟨v,x,rfl,e,h⟩:=hC.2 w l j;have q:=(Wm j).1;rw[hC.1]at q;rw[ko,gt e];refine Zp ⟨λn=>?_,λn=>Zp ⟨λA=>?_,λ_=>J g⟩⟩;·rw[ko,gt e];refine Zj ((ZhC h).mono λr⟨d,a,b,k,f⟩=>J ⟨d,[],by rw[a,Xp];rfl,b,Zb,?_⟩);rw[a];have z:(ud (wU c d)).length=(ud c).length:=b;exact hC.put rfl Y (YG _) f (k.up Y (YG _))
 ·rw[ko,gt e];refine Zj ((ZhI h u p hs t Y Y hL s).mono λr⟨d,C,a,b,k,f,y⟩=>J ⟨ud c,d,by rw[a];rfl,rfl,b,?_⟩);show CL r.1 (cs.set v r.2.1) r.2.2.1 r.2.2.2.1.length;rw[a];exact hC.put rfl (YG _) Y y f
theorem Zb2{w}{b}(h:w.1.length<=2000000000)(a:b.length<=2000000000):W (NG w b) (XC 8194 w):=by
 rw[vH Y];refine J ?_;by_cases c:b.length<=8192;·have:=XC.W2 (w:=w) (x:=b.length) (m:=8192).trans (XC.put (l:=Y6 (BitVec.ofInt _ b.length) 2++b));exact this.le (by rw[Yw,WY];omega)
 ·rw[Ei (by unfold W2;rw[YW Y])];exact(XC.W2).le Zb
theorem ZbJ{w}{x}(h:w.1.length<=2000000000):W (SU w x) (XC 4 w):=by rw[DE Y];exact J (XC.put.le (by rw[WY];omega))
theorem jq{w}{x:ZI}(h:w.1.length<=2000000000):W (Tp w (Xc 0 (YC 32 (Xw x)))) (XC 32 w):=by have:(Xc 0 _).length=32:=To x;exact(yh h Zb).mono λb a=>a.le Zb
theorem Zat{h}{l}(p:KG l):W (xj h l) λo=>o.1.length<=100000000:=by
 unfold xj;refine Zj ((Hv Zb).mono λI v=>Ul ⟨YP,Zj ((jq (by have:=v.2;simp at this;omega)).mono λd B=>?_)⟩);have G:=(v.trans B).2;simp only[Vf]at G;rw[be (mb (x:=Ze (Zf l)) Y)];have C:XC 2 d (put (W2 d (Ze (Zf l)) 4096) (Y6 (BitVec.ofInt 64 (Ze (Zf l))) 2)):=(XC.W2 (w:=d) (x:=Ze (Zf l)) (m:=4096).trans (XC.put (w:=W2 d (Ze (Zf l)) 4096) (l:=Y6 (BitVec.ofInt 64 (Ze (Zf l))) 2))).le (by rw[WY];omega);have E:4096<l.length->(put (W2 d (Ze (Zf l)) 4096) (Y6 (BitVec.ofInt 64 (Ze (Zf l))) 2)).2=true:=λa=>by
  have r:(W2 d (Ze (Zf l)) 4096).2=true:=by unfold W2;rw[YW (by simp only[Wx];omega)]
  rw[Ei r];exact r
 generalize put (W2 d (Ze (Zf l)) 4096) (Y6 (BitVec.ofInt 64 (Ze (Zf l))) 2)=z at*;have O:=C.2;refine Zj (W.lp (λc=>∃b:Nat,c.1=b/\b<=l.length/\(4096<l.length->c.2=z)/\(l.length<=4096->c.2.1.length<=100+17000*b)) (λc=>(l.length-c.1).toNat) ⟨0,rfl,Y,λ_=>rfl,λ_=>Zw⟩ (by have:=p.1;dsimp only;omega) (λc q=>?_) λc q=>?_)
 ·obtain⟨P,H⟩:=c;obtain⟨b,k,s,e,f⟩:=q;dsimp only at k e f;subst k;have M:=p.1;have D:H.1.length<=80000000:=by
   by_cases a:4096<l.length;·rw[e a];omega
   ·have:=f Y;omega
  refine Zp ⟨λt=>?_,λt=>J ⟨b,rfl,s,e,f⟩⟩;simp only[Wx]at t;refine Zj (YF ⟨Zw,λx F=>?_⟩);have N:=p.2 x (X6 F);refine Zj ((Zb2 Zw Y).mono λQ g=>Zj ((ZbJ (by have:=g.2;dsimp only at this;omega)).mono λR i=>Zj ((ZbJ (by have:=g.2;have:=i.2;dsimp only at*;omega)).mono λS j=>Ul ⟨YP,Zj ((jq (by have:=g.2;have:=i.2;have:=j.2;dsimp only at*;omega)).mono λT n=>Ul ⟨YP,Zj ((jq (by have:=g.2;have:=i.2;have:=j.2;have:=n.2;dsimp only at*;omega)).mono λU u=>Zj ((Zb2 (by have:=g.2;have:=i.2;have:=j.2;have:=n.2;have:=u.2;dsimp only at*;omega) Y).mono λV A=>J ?_))⟩)⟩)));have y:=(((((g.trans i).trans j).trans n).trans u).trans A).le (show 8194+4+4+32+32+8194<=16500by decide);rw[show Zk (Zu (b:Int) 1)=((b+1:Nat):Int)by simp only[Wx];rw[ZK Y];rfl];refine⟨⟨b+1,rfl,Y,λa=>?_,λa=>?_⟩,Zw⟩;·have:=y.1;dsimp only at this⊢;rw[this (by rw[e a];exact E a)];exact e a
  ·have K:=f a;exact WX y.2 Zw
 ·obtain⟨b,k,s,e,f⟩:=q;have D:c.2.1.length<=80000000:=by
   by_cases a:4096<l.length;·rw[e a];omega
   ·have:=f Y;omega
  rw[be (GL Y)];refine J ?_;split;·simp
  ·dsimp only;omega
theorem Zau{s}(h:s.2.length<=1000000):W (pd s) λo=>o.1.length<=100000000:=by refine Zj ((Hv Zb).mono λc a=>Zj ((Za2 (by have:=a.2;grind) Y).mono λd b=>?_));have:=a.2;have:=b.2;simp at*;rw[be (GL Y)];refine J ?_;grind
theorem Zq9{r}(h:r.1.length<=1000000):W (pg r) λo=>(o.2.1.length<=64/\o.2.2.2.2.2.2.length<=64)/\o.1.1.length<=r.1.length/\(o.1.2=false->o.1.1.length+64<=r.1.length):=by
 unfold pg;have d:∀(a:ZO)(c:Int),(tk a c).1.2=false->a.2=false/\0<=c/\c<=a.1.length/\(tk a c).1.1=a.1.drop c.toNat:=λa c b=>by unfold tk at b⊢;grind
 have i:∀(a:ZO)(e:Int),(TJ a e).1.2=false->a.2=false:=λa e b=>by
  unfold TJ at b;split at b;·cases b
  ·exact(d _ _ (d _ _ b).1).1
 rw[be (KS Y)];have f:=@Bh r 64 Y;rw[be RC,be RC];have j:=@UT (TJ r 64).1 4;have k:=@UT (tk (TJ r 64).1 4).1 4;refine Ul ⟨YP,?_⟩;rw[be Rm];have l:=@UT (tk (tk (TJ r 64).1 4).1 4).1 32;refine Ul ⟨YP,?_⟩;rw[be Rm];have m:=@UT (tk (tk (tk (TJ r 64).1 4).1 4).1 32).1 32;dsimp only;rw[be (KS Y)];have g:=@Bh (tk (tk (tk (tk (TJ r 64).1 4).1 4).1 32).1 32).1 64 Y;refine J ⟨⟨by have:=f.2.1;dsimp only;omega,by have:=g.2.1;dsimp only;omega⟩,Zw,λb=>?_⟩;grind
def KI(n:Nat)(k:JH):Prop:=k.2.1.2.length<=8192/\k.2.2.1.length<=n/\k.2.2.2.length<=94*n/\∀a∈k.2.2.2,a.1.length<=64/\a.2.2.2.2.2.length<=64
theorem KI.up{n m}{k}(h:KI n k)(a:n<=m):KI m k:=⟨h.1,by have:=h.2.1;omega,by have:=h.2.2.1;omega,h.2.2.2⟩
theorem ZkQ{n}{k}{b}(h:KI n k)(Q:b.length<=6000)(R:n<=10000):W (pe k b) λo=>KI (n+1) o.1/\(o.2=true->b≠[]):=by
 obtain⟨D,O,P,x⟩:=id h;unfold pe;rw[be (QN Y),be xb];have z:∀s:Int,1<=s->(((pk ((b,false):ZO) 1).1.toNat:Nat):Int)=s->b≠[]:=λs S c u=>by
  rw[u]at c;have:(pk (([],false):ZO) 1).1.toNat=0:=by unfold pk;simp
  rw[this]at c;omega
 have F:=@UT ((b,false):ZO) 1;dsimp only at F⊢;refine Zp ⟨λl=>Ul ⟨YP,?_⟩,λl=>Zp ⟨λe=>?_,λ_=>J ⟨h.up Y,λc=>by cases c⟩⟩⟩
 ·rw[Ri]at l;rw[be Rm];have T:=@UT (tk ((b,false):ZO) 1).1 32;refine Xa ⟨by simp only[Wx,V9];omega,?_⟩;rw[be xa];have G:=@lN (tk (tk ((b,false):ZO) 1).1 32).1 4096 Y;refine Wo (W.Vy (λa=>∃d:Nat,a.1=d/\d<=94/\(d:Int)<=(Md (tk (tk ((b,false):ZO) 1).1 32).1 4096).2/\a.2.2.1.length<=6000/\(a.2.2.2=false->64*d+a.2.2.1.length<=6000)/\a.2.1.2.1=k.2.1/\a.2.1.2.2.1.length<=n+1/\a.2.1.2.2.2.length=k.2.2.2.length+d/\∀f∈a.2.1.2.2.2,f.1.length<=64/\f.2.2.2.2.2.length<=64) (λa=>KI (n+1) a.2.1) (λa=>(94-a.1).toNat+1) (λr=>KI (n+1) r.1/\r.2=false) ⟨0,rfl,Y,G.2.1,Zw,λ_=>Zw,rfl,by simp[Z9];omega,Zb,x⟩ Zw (λa p=>?_) (λa p=>?_) λr A=>⟨A.1,λc=>by rw[A.2]at c;cases c⟩)
  ·obtain⟨V,K,X⟩:=a;obtain⟨d,t,u,M,B,v,g,i,C,j⟩:=p;dsimp only at t B v g i C j;subst t;have y:KI (n+1) K:=⟨by rw[g];exact D,i,Y,j⟩;refine Zp ⟨λe=>?_,λ_=>J y⟩;simp only[Wx]at e;rw[be md];refine Zp ⟨λw=>by rw[bs];exact J ⟨y,rfl⟩,λw=>?_⟩;have N:=v w;dsimp only;refine Zj ((Zq9 Y).mono λo m=>Xa ⟨by simp only[Wx,V9];omega,?_⟩);obtain⟨H,U,I⟩:=m;rw[show Zk (Zu (d:Int) 1)=((d+1:Nat):Int)by simp only[Wx];rw[ZK Y];rfl];refine J ⟨⟨d+1,rfl,Y,Y,Zw,λc=>by have:=I c;dsimp only;omega,g,i,by simp[Z9];omega,λf E=>?_⟩,Zw⟩
   ·rcases Z1 E with q|q;·exact j f q
    ·rw[YZ q];exact H
  ·dsimp only;rw[be KR];exact J ⟨p,λ_=>z 1 Y l⟩
 ·rw[Ri]at e;refine Zj ((Za3 Y).mono λo m=>?_);rw[be KR];exact J ⟨⟨m.2,Zw,Zw,x⟩,λ_=>z 2 Y e⟩
theorem ZkT{R}(u:R.length<=5000)(h:∀r∈R,r.length<=6000):W (C8 R) λo=>KI R.length o.1/\0<=o.2.1/\o.2.1<=R.length:=by
 have i:KI 0 (false,z0,[],[]):=⟨Zb,Zb,Zb,Zb⟩;unfold C8;refine Wo (W.Vy (λa=>∃b:Nat,a.2.1=b/\b<=R.length/\0<=a.1/\a.1<=b/\KI b a.2.2.2.1/\KI b a.2.2.2.2) (λa=>0<=a.1/\a.1<=R.length/\KI R.length a.2.2.2.2) (λa=>(R.length-a.2.1).toNat) _ ⟨0,rfl,Y,Zb,Zb,i,i⟩ Zw (λa c=>?_) (λa c=>J ⟨c.2.2,c.1,c.2.1⟩) λr h=>h);obtain⟨x,y,z,A,B⟩:=a;obtain⟨b,j,t,e,p,k,f⟩:=c;dsimp only at j e p k f;subst j;refine Zp ⟨λl=>?_,λl=>J ⟨e,Zw,f.up Y⟩⟩;simp only[Wx]at l;refine Zj (YF ⟨Zw,λn s=>Zj ((ZkQ k (h n (X6 s)) Y).mono λo m=>Zp ⟨λ_=>?_,λq=>?_⟩)⟩);·rw[bs];exact J ⟨i.up Y,Zb,Zb⟩
 ·have v:=List.length_pos_iff.2 (m.2 (by simpa only[Wx]using q));rw[show Zk (Zu (b:Int) 1)=((b+1:Nat):Int)by simp only[Wx];rw[ZK Y];rfl];refine Zj (YF ⟨Y,λC w=>Yu (λd=>0<=d.1/\d.1<=((b+1:Nat):Int)/\KI (b+1) d.2) (λ_=>Sp ⟨by simp only[Wx];omega,mN.2 ⟨Y,Sp ⟨by simp only[Wx];omega,mN.2 ⟨Y,J ⟨Zw,Zw,?_⟩⟩⟩⟩⟩) (λ_=>J ⟨e,Zw,f.up Y⟩) λd g=>J ⟨⟨b+1,rfl,Y,g.1,g.2.1,m.1,g.2.2⟩,Zw⟩⟩);simp_all
def Zap(m:YN):Prop:=Q9 m/\m.2.2.2.2.2.2.2.2.2.1.1.1<2147483648
def RI(N k T:Nat)(r:Xj):Prop:=VW N k r.1/\r.2.1.length<=100000/\Vt r.2.2.2.2.1/\r.2.2.2.2.2.1.2.length<=8192/\r.2.2.2.2.2.2.1.length<=8/\(∀a∈r.2.2.2.2.2.2.1,Zap a)/\0<=r.2.2.2.2.2.2.2.2.1/\r.2.2.2.2.2.2.2.2.1<=T
theorem Nx{r}:RE r=some (r.2.2.2.2.1.2.2.1.length:Int):=by unfold RE;rw[be Du]
theorem ZkS{WG}{a b}{c}{k}{n}(g:KI n k)(q:n<=1000)(hs:Vt c):W (gW ((),WG,a,b,c,z0,[],0,0,0,false) k) λo=>∃e s,o.1=((),WG,a,b,e,s,[],0,0,0,false)/\Vt e/\s.2.length<=8192:=by have⟨f,l,m,p⟩:=g;refine Zj ((bL Y).mono λ_ _=>Zp ⟨λ_=>J ⟨c,z0,rfl,hs,Zb⟩,λ_=>Zj ((bC ⟨Y,Zm⟩ Y).mono λo h=>Zp ⟨λ_=>J ⟨c,z0,rfl,hs,Zb⟩,λd=>?_⟩)⟩);simp at d;obtain⟨s,i,j,-⟩:=h d;rw[i,ko];exact J ⟨s,k.2.1,rfl,j,f⟩
theorem ZqI{N c k}{ds}{rs}{d}{WG}{a b}(C:ds[k]?=some d)(P:DI N c d)(M:4<=N)(x5:N<=1000)(hc:c<80000000)(Q:WG.length<=100000):W (C7 ds rs (some k) WG a b) λo=>∃d',o.1=ds.set k d'/\DI N (c+6000) d'/\(o.2.1=rs/\o.2.2.1=none\/∃r,o.2.1=rs++[r]/\o.2.2.1=some rs.length/\RI N k 0 r):=by
 unfold C7;refine Zj ((eY C P M Y Y).mono λv S=>?_);obtain⟨d',j,l,v3,H,X,v6,-⟩:=S;refine Zp ⟨λt=>J ⟨d',j,l.le Y,.inl ⟨rfl,rfl⟩⟩,λt=>?_⟩;simp only[Wx]at t;obtain⟨vv,p,q⟩:=X t;have x6:Ro N<=500:=by unfold Ro;omega
 have h:Vt (Zn 32 0#8,[],[],[],[]):=GR;refine Xa ⟨by simp only[Wx];omega,?_⟩;rw[show JM (Zn 32 0#8)=some (Zn 32 0#8,[],[],[],[])from rfl,bs];have m:∀(v:Tg)(f:WZ)(e:SL)(B:Int),VW N k v->Vt f->e.2.length<=8192->RI N k 0 (v,WG,a,b,f,e,[],B,0,0,false):=λv f e B x y z=>⟨x,Q,y,z,Zb,Zb,Zb,Zb⟩;have s:∀(n:Int)(f:WZ)(e:SL),0<=n->n<=v.2.2.1.length->Vt f->e.2.length<=8192->W (O (SN v.2.2.1 0 n) λZ=>Yq v.2.1 none λx0=>O (Gl x0 v.1 Z) λg=>Zc (Zy (Zs g.2.2 0)) (some (g.2.1,rs,(none:Option Nat),g.2.2)) (O (RE (g.1,WG,a,b,f,e,[],0,0,0,false)) λx1=>some (g.2.1,Z9 rs [(g.1,WG,a,b,f,e,[],x1,0,0,false)],some (Zf rs),0))) λo=>∃d',o.1=ds.set k d'/\DI N (c+6000) d'/\(o.2.1=rs/\o.2.2.1=none\/∃r,o.2.1=rs++[r]/\o.2.2.1=some rs.length/\RI N k 0 r):=λn f e h0 h1 u w=>by refine Zj (N0.2 ⟨Y,?_⟩);rw[p,ko,j];refine Zj ((ZfX q (Vl C) l Y Y (by rw[Wn,UF];omega) Y λr R=>by have:=H r (wI (wH R));omega).mono λx7⟨A,I,K,z3⟩=>Zp ⟨λ_=>J ⟨A,by rw[I,Sa],K.le Y,.inl ⟨rfl,rfl⟩⟩,λ_=>?_⟩);rw[be Nx];exact J ⟨A,by rw[I,Sa],K.le Y,.inr ⟨_,rfl,rfl,m _ _ _ _ z3 u w⟩⟩
 have V:∀(f:WZ)(e:SL),Vt f->e.2.length<=8192->W (Yq v.2.1 none λx2=>O (RE (x2,WG,a,b,f,e,[],0,0,0,false)) λx3=>Yq v.2.1 none λx4=>some (v.1,Z9 rs [(x4,WG,a,b,f,e,[],x3,0,0,false)],some (Zf rs),(0:Int))) λo=>∃d',o.1=ds.set k d'/\DI N (c+6000) d'/\(o.2.1=rs/\o.2.2.1=none\/∃r,o.2.1=rs++[r]/\o.2.2.1=some rs.length/\RI N k 0 r):=λf e u w=>by rw[p,ko,be Nx,ko];exact J ⟨d',j,l.le Y,.inr ⟨_,rfl,rfl,m _ _ _ _ q u w⟩⟩
 refine Zj ((ZkT Y H).mono λkp⟨U,F,G⟩=>Zp ⟨λ_=>Zp ⟨λ_=>s 0 _ z0 Y Y h Zb,λ_=>?_⟩,λ_=>Zp ⟨λ_=>?_,λ_=>Zp ⟨λ_=>s _ _ z0 F G h Zb,λ_=>?_⟩⟩⟩);·rw[p,ko,be Nx];exact J ⟨d',j,l.le Y,.inr ⟨_,rfl,rfl,m _ _ _ _ q h Zb⟩⟩
 ·refine Zj ((ZkS U Y h).mono λo⟨f,e,T,D,E⟩=>Yu (λi=>i.2=rs/\0<=i.1/\i.1<=v.2.2.1.length) (λ_=>J ⟨rfl,Zb,Zb⟩) (λ_=>J ⟨rfl,F,G⟩) λi⟨x,y,z⟩=>?_);rw[T,x];exact Zp ⟨λ_=>s i.1 f e y z D E,λ_=>V f e D E⟩
 ·rw[p,ko,be Nx];exact J ⟨d',j,l.le Y,.inr ⟨_,rfl,rfl,m _ _ _ _ q h Zb⟩⟩
theorem RI.up{N k T T'}{r}(h:RI N k T r)(a:T<=T'):RI N k T' r:=⟨h.1,h.2.1,h.2.2.1,h.2.2.2.1,h.2.2.2.2.1,h.2.2.2.2.2.1,h.2.2.2.2.2.2.1,by have:=h.2.2.2.2.2.2.2;omega⟩
theorem ZrW{N k T}{r}{a b c e f}{x}{l}(h:RI N k T r):W (pc r (a,b,c,e,f,x,0,[],[],z0,([],[]),([],[]),Zn 32 0#8,z1,[],[],[],[]) l) λo=>o.1=r/\MO o.2.1:=by obtain⟨-,-,j,q,-⟩:=h;have i:=j.2.1;have d:MO (a,b,c,e,f,x,0,[],[],z0,([],[]),([],[]),Zn 32 0#8,z1,[],[],[],[]):=RY Zb;unfold pc;rw[be Nx];refine Uu (λ_=>J trivial) (λ_=>J trivial) λ_=>Uu (λ_=>J trivial) (λ_=>J trivial) λ_=>Zp ⟨λ_=>J ⟨rfl,d⟩,λ_=>Zp ⟨λ_=>J ⟨rfl,d⟩,λ_=>Uu (λ_=>J trivial) (λ_=>J trivial) λ_=>Zp ⟨λ_=>J ⟨rfl,d⟩,λ_=>Uu (λ_=>J trivial) (λ_=>J trivial) λ_=>Zp ⟨λ_=>J ⟨rfl,d⟩,λ_=>Zj ((ZgN i).mono λg p=>Zj ((Zg3 i).mono λm s=>Zj ((Zhi j).mono λn t=>Uu (λ_=>J trivial) (λ_=>J trivial) λ_=>Uu (λ_=>J trivial) (λ_=>J trivial) λ_=>Zp ⟨λ_=>J ⟨rfl,d⟩,λ_=>J ⟨rfl,⟨Zm,by show g.1.1.length<=_;omega,by show g.1.2.length<=_;omega,by show m.1.1.length<=_;omega,by show m.1.2.length<=_;omega,by show n.1.2.1.1.length<=_;omega,by show n.1.2.2.length<=_;omega,VD _,VD _,VD _⟩,by show r.2.2.2.2.2.1.2.length<=_;omega⟩⟩)))⟩⟩⟩⟩
theorem Zgx{N k T}{r}{m}(h:RI N k T r):W (gT r m) λo=>o.1=r/\MO o.2.1:=by exact Zp ⟨λ_=>J ⟨rfl,RY Zb⟩,λ_=>Zj ((ZrW h).mono λo a=>J ⟨a.1,a.2⟩)⟩
theorem Zhb{s}{WG}(hs:s.2.length<=1000000):W (Kl s WG) λb=>b=true->1<=s.1.1/\s.1.1<2147483648:=by refine Zj (kN.self.mono λc i=>?_);obtain⟨d,e,f⟩:=Zba;refine Yu _ (λj=>Zj ((Za4 Y hs).mono λ_ _=>J λ_=>?_)) (λ_=>J λc=>Zm) λb g=>J λc=>f (g c);cases h:d with|true=>rfl|false=>have a:=i.1;unfold Li at a;rw[be e,h]at a;change Zc true _ _=_ at a;rw[WU]at a;grind
theorem gR{r}{e}:W (xg r e) λo=>∃b,o.1=(r.1,r.2.1,r.2.2.1,r.2.2.2.1,r.2.2.2.2.1,r.2.2.2.2.2.1,r.2.2.2.2.2.2.1,r.2.2.2.2.2.2.2.1,r.2.2.2.2.2.2.2.2.1,r.2.2.2.2.2.2.2.2.2.1,b):=by exact Uu (λ_=>J trivial) (λ_=>J trivial) λb=>J ⟨b,rfl⟩
theorem b9{N k T c}{r}{ds}{d}{m}(h:RI N k T r)(B:ds[k]?=some d)(M:DI N c d)(hc:c<=80000000)(hN:N<=1000)(hm:Zap m)(X:r.2.2.2.2.1.2.2.1.length<2147483647):W (xf r ds m) λo=>∃d',o.2.1=ds.set k d'/\DI N (c+9000) d'/\RI N k T o.1/\o.1.2.2.2.2.2.2.1=r.2.2.2.2.2.2.1:=by
 have R:=P9 B;have F:∀u:Int,∃d',((r,ds,u):Xj×List Yi×Int).2.1=ds.set k d'/\DI N (c+9000) d'/\RI N k T r/\r.2.2.2.2.2.2.1=r.2.2.2.2.2.2.1:=λ_=>⟨d,R,M.le Y,h,rfl⟩;obtain⟨V,x,y,H,z,A,I,K⟩:=id h;obtain⟨C,x7⟩:=hm;have x1:m.2.2.2.2.2.2.2.2.2.1.2.length<=8192:=C.2.2.2.2.2.2.2.2.1;have x8:m.2.2.2.2.2.2.2.2.2.2.2.2.2.2.2.1.length<=4096:=C.2.2.2.2.2.2.2.2.2.2.2.2.2.1;have O:KG m.2.2.2.2.2.2.2.2.2.2.2.2.2.2.2.2.1:=C.2.2.2.2.2.2.2.2.2.2.2.2.2.2.1;unfold xf;refine Zj (W.mono (P:=λo=>o.2=0->∃G,o.1=some G/\Vt G) ?_ λwt x2=>Zp ⟨λ_=>J (F _),λp=>?_⟩);·unfold gY;refine Zj ((ZgD y).mono λxk Q=>Zj ((Zgw Q.1 Y O.1 (by rw[Q.2];exact X)).mono λo D=>Zp ⟨λ_=>J λu=>(by cases u),λp=>J λ_=>⟨_,rfl,(D (by simpa only[Wx]using p)).1⟩⟩))
 simp only[Wx]at p;obtain⟨G,x3,x4⟩:=x2 p;refine Zj ((Zat O).mono λe1 Z=>Zp ⟨λ_=>J (F _),λ_=>Zj ((Zau Y).mono λe2 x0=>Zp ⟨λ_=>J (F _),λ_=>Wo (W.Vy (λa=>∃(e:Nat)(d':Yi)(v:Tg),a.1=e/\e<=2/\a.2.1=ds.set k d'/\DI N (c+4096*e) d'/\VW N k v/\a.2.2=(v,r.2)) (λa=>∃(d':Yi)(v:Tg),a.2.1=ds.set k d'/\DI N (c+8192) d'/\VW N k v/\a.2.2=(v,r.2)) (λa=>(2-a.1).toNat) (λo=>∃d',o.2.1=ds.set k d'/\DI N (c+9000) d'/\RI N k T o.1/\o.1.2.2.2.2.2.2.1=r.2.2.2.2.2.2.1) ⟨0,d,r.1,rfl,Y,R,M,V,rfl⟩ Zb (λa E=>?_) (λa E=>?_) λo D=>D)⟩)⟩)
 ·obtain⟨u1,u2,u3⟩:=a;obtain⟨e,d',v,S,q2,l,s,t,n⟩:=E;dsimp only at S l n;subst S l n;refine Zp ⟨λw=>?_,λw=>J ⟨d',v,rfl,s.le Y,t,rfl⟩⟩;have w:(e:Int)<2:=by simp only[Wx,WA,Vf]at w;omega
  refine Xo ⟨⟨Zw,by simp only[Wx,WA,Vf];omega⟩,Zj (YF ⟨⟨Zw,by simp only[WA,Vf];omega⟩,λx5 hx=>?_⟩)⟩;have x9:x5.length<=100000000:=by
   rcases XB (X6 hx)with q|q;·rw[q];exact Z
   ·rw[YZ q];exact x0
  refine Zj ((ZsG t (Vl B) s Y Y Y).mono λo⟨f,g,i,j⟩=>Zp ⟨λ_=>Zj (gR.mono λx6 b=>?_),λ_=>?_⟩);·rw[bs];obtain⟨U,b⟩:=b;refine J ⟨f,by rw[g,Sa],i.le Y,?_,by rw[b]⟩;rw[b];exact⟨j,x,y,H,z,A,I,K⟩
  ·rw[show Zk (Zu (e:Int) 1)=((e+1:Nat):Int)by simp only[Wx];rw[ZK Y];rfl];exact J ⟨⟨e+1,f,o.1,rfl,Y,by rw[g,Sa],i.le Y,j,rfl⟩,Zw⟩
 ·obtain⟨u1,u2,u3⟩:=a;obtain⟨d',v,l,s,t,n⟩:=E;dsimp only at l n;subst l n;refine Zj ((ZsM t (Vl B) s Y).mono λo⟨f,g,i,j⟩=>Zp ⟨λ_=>Zj (gR.mono λx6 b=>J ?_),λ_=>?_⟩);·obtain⟨U,b⟩:=b;refine⟨f,by rw[g,Sa],i.le Y,?_,by rw[b]⟩;rw[b];exact⟨j,x,y,H,z,A,I,K⟩
  ·rw[x3,ko];unfold xi;rw[bs];exact J ⟨f,by rw[g,Sa],i.le Y,⟨j,x,x4,x1,z,A,Zb,Zb⟩,rfl⟩
theorem Zi1{l}{i:Nat}(h:i<l.length):Zfr l i (i+1)=some (l.eraseIdx i):=by show(if 0<=(i:Int)/\i<=(i:Int)+1/\i+1<=(l.length:Int)then some _ else none)=_;rw[YW Y,show((i:Int)+1).toNat=i+1by simp,Vz,Zgo]
theorem Zai{N k T c}{r}{ds}{d}(h:RI N k T r)(A:ds[k]?=some d)(X:DI N c d)(hc:c<=70000000)(V:N<=1000):W (xh r ds) λo=>∃d',o.2.1=ds.set k d'/\DI N (c+72000) d'/\RI N k T o.1:=by
 unfold xh;refine Wo (W.Vy (λe=>∃d',e.2.1=ds.set k d'/\RI N k T e.2.2/\DI N (c+9000*(8-e.2.2.2.2.2.2.2.2.1.length)) d') (λ_=>False) (λe=>e.2.2.2.2.2.2.2.2.1.length) _ ⟨d,P9 A,h,X.le Y⟩ (by have:=h.2.2.2.2.1;dsimp only;omega) (λe p=>?_) (λe p=>p.elim) λo n=>n);obtain⟨u1,u2,f⟩:=e;obtain⟨d',u,j,g⟩:=p;dsimp only at u j g⊢;subst u;obtain⟨P,Q,x,R,h5,y,S,U⟩:=id j;refine Wo (W.Vy (λv=>∃b:Nat,v.2.1=b/\b<=f.2.2.2.2.2.2.1.length/\v.2.2.1=f.2.2.2.2.2.2.1/\v.2.2.2.1=ds.set k d'/\v.2.2.2.2=f) (λv=>v.2.2.2.1=ds.set k d'/\v.2.2.2.2=f) (λv=>(f.2.2.2.2.2.2.1.length-v.2.1).toNat) _ ⟨0,rfl,Y,rfl,rfl,rfl⟩ Zw (λv q=>?_) (λv q=>?_) λo n=>n)
 ·obtain⟨v1,v2,v3,v4,a⟩:=v;obtain⟨b,i,G,H,I,K⟩:=q;dsimp only at i H I K;subst i H I K;refine Zp ⟨λM=>?_,λ_=>J ⟨rfl,rfl⟩⟩;simp only[Wx]at M;refine Zj (YF ⟨Zw,λs m=>?_⟩);have B:=y s (X6 m);rw[be Nx];have hE:=x.2.1;refine Zp ⟨λO=>?_,λO=>Xa ⟨by simp only[Wx];omega,?_⟩⟩;·rw[show Zk (Zu (b:Int) 1)=((b+1:Nat):Int)by simp only[Wx];rw[ZK Y];rfl];exact J ⟨⟨b+1,rfl,Y,rfl,rfl,rfl⟩,Zw⟩
  ·rw[show Zk (Zu (b:Int) 1)=(b:Int)+1by simp only[Wx];rw[ZK Y]];dsimp only;rw[be (Zi1 Y)];have Z:(a.2.2.2.2.2.2.1.eraseIdx b).length=a.2.2.2.2.2.2.1.length-1:=by rw[List.length_eraseIdx,YW Y]
   have z:RI N k T (a.1,a.2.1,a.2.2.1,a.2.2.2.1,a.2.2.2.2.1,a.2.2.2.2.2.1,a.2.2.2.2.2.2.1.eraseIdx b,a.2.2.2.2.2.2.2):=⟨P,Q,x,R,by show(a.2.2.2.2.2.2.1.eraseIdx b).length<=8;omega,λs m=>y s (Zgp m),S,U⟩;rw[be Nx];dsimp only;refine Zp ⟨λl=>?_,λl=>?_⟩
   ·simp only[Wx]at l;rw[ZK Y]at l;refine Zj ((b9 z (Vl A) g Y V B (by have:=B.2;dsimp only;omega)).mono λo⟨t,C,D,E,F⟩=>?_);have F:o.1.2.2.2.2.2.2.1.length=a.2.2.2.2.2.2.1.length-1:=by rw[F];exact Z
    have w:∃d',o.2.1=ds.set k d'/\DI N (c+72000) d'/\RI N k T o.1:=⟨t,by rw[C,Sa],D.le Y,E⟩;refine Zp ⟨λ_=>by rw[bs,bs];exact J w,λ_=>Zp ⟨λ_=>by rw[bs,bs];exact J w,λ_=>?_⟩⟩;·rw[bs];exact J ⟨⟨t,by rw[C,Sa],E,D.le Zw⟩,Zw⟩
   ·rw[bs];exact J ⟨⟨d',rfl,z,g.le Zw⟩,Zw⟩
 ·dsimp only;rw[bs];obtain⟨i,G⟩:=q;exact J ⟨d',i,g.le Y,by show RI N k T v.2.2.2.2;rw[G];exact j⟩
theorem ZgY{h}{l}{a}{o}(e:Fv h l a=some o)(b:o.2=0):h.1=a.length:=by apply Zgk;intro c;unfold Fv at e;have:Zy (Zs h.1 (Ze (Zf a)))=true:=XA;rw[this,WU]at e;grind
theorem ZhF{N k T c}{r}{ds}{d}{m}(h:RI N k T r)(j:ds[k]?=some d)(A:DI N c d)(hc:c<=60000000)(R:N<=1000)(S:2<=N)(l:Q9 m):W (q9 r ds m) λo=>∃d',o.2.1=ds.set k d'/\DI N (c+80000) d'/\RI N k T o.1:=by
 have t:∀w:Int,∃d',((r,ds,w):Xj×List Yi×Int).2.1=ds.set k d'/\DI N (c+80000) d'/\RI N k T r:=λ_=>⟨d,P9 j,A.le Y,h⟩;obtain⟨K,x,M,O,y,z,P,Q⟩:=id h;have Z:m.2.2.2.2.2.2.2.2.2.1.2.length<=8192:=l.2.2.2.2.2.2.2.2.1;have x7:m.2.2.2.2.2.2.2.2.2.2.2.2.2.2.2.2.2.length<=4096:=l.2.2.2.2.2.2.2.2.2.2.2.2.2.2.2;unfold q9;refine Zj ((bC l.2.2.2.2.2.2.2.2.2.2.2.2.2.2.1 Y).self.mono λo n=>Zp ⟨λ_=>J (t _),λi=>?_⟩);simp only[Wx]at i;obtain⟨V,X⟩:=n;obtain⟨st,x1,u,x8⟩:=X i;have x5:=ZgY V i;rw[x1,ko];refine Zj ((mK (by have:=u.2.1;omega)).mono λv x0=>?_);have x6:v.length<=4096:=by rw[x0,Jj];omega
 refine Wo (W.Vy (λa=>∃b:Nat,a.2=b/\b<=v.length/\a.1.length=b/\∀e∈a.1,e.length<=100000000) (λa=>a.1.length<=4096/\∀e∈a.1,e.length<=100000000) (λa=>(v.length-a.2).toNat) (λo=>∃d',o.2.1=ds.set k d'/\DI N (c+80000) d'/\RI N k T o.1) ⟨0,rfl,Y,rfl,Zb⟩ Zw (λa f=>?_) (λa f=>?_) λo n=>n)
 ·obtain⟨u1,u2⟩:=a;obtain⟨b,B,q2,q3,s⟩:=f;dsimp only at B q3 s;subst B;refine Zp ⟨λI=>?_,λ_=>J ⟨Zw,s⟩⟩;simp only[Wx]at I;refine Zj (YF ⟨Zw,λC g=>?_⟩);rw[ko];refine Zj ((mC u).mono λx9 hw=>Zj ((Zat hw).mono λw U=>Zp ⟨λ_=>by rw[bs];exact J (t _),λ_=>Xa ⟨by simp only[Wx,V9];omega,?_⟩⟩));rw[show Zk (Zu (b:Int) 1)=((b+1:Nat):Int)by simp only[Wx];rw[ZK Y];rfl];refine J ⟨⟨b+1,rfl,Y,by simp[Z9];omega,λe p=>?_⟩,Zw⟩;rcases Z1 p with q|q;·exact s e q
  ·rw[YZ q];exact U
 ·refine Zj ((Zau Y).mono λe2 x4=>Zp ⟨λ_=>J (t _),λ_=>Xa ⟨by have:=f.1;simp only[Wx,V9];omega,(Zj ((ZfX K j A S Y (by have:=f.1;simp[Z9];omega) Y λe p=>?_).mono λx2⟨G,D,E,F⟩=>?_))⟩⟩)
  ·rcases Z1 p with q|q;·have:=f.2 e q;omega
   ·rw[YZ q];omega
  refine Zp ⟨λ_=>Zj (gR.mono λC g=>J ?_),λ_=>?_⟩;·obtain⟨x3,g⟩:=g;refine⟨G,D,E.le Y,?_⟩;rw[g];exact⟨F,x,M,O,y,z,P,Q⟩
  ·rw[ko];unfold xi;rw[bs,D];refine Zj ((Zai (T:=T) (r:=(x2.1,r.2.1,r.2.2.1,r.2.2.2.1,st,m.2.2.2.2.2.2.2.2.2.1,r.2.2.2.2.2.2.1,r.2.2.2.2.2.2.2.1,0,r.2.2.2.2.2.2.2.2.2)) ⟨F,x,u,Z,y,z,Zb,Zb⟩ (Vl j) E Y R).mono λC⟨H,y1,y2,y3⟩=>J ⟨H,by rw[y1,Sa],y2.le Y,y3⟩)
theorem ZhW{r}{e}(h:r.2.2.2.2.2.2.1.length<=1000):W (gU r e) λ_=>True:=by refine Zj (Wo (W.Ku (λa=>0<=a/\a<=r.2.2.2.2.2.2.1.length) (λa=>(r.2.2.2.2.2.2.1.length-a).toNat) (λ_=>W (some 0) λ_=>True) ⟨Zb,Zb⟩ Y (λa b=>?_) (λa b=>J (J trivial)) λ_ _=>J trivial));have⟨d,f⟩:=b;refine Zp ⟨λc=>?_,λ_=>J ⟨d,f⟩⟩;simp[Wx]at c;refine Zj (YF ⟨Y,λi g=>?_⟩);unfold gV;rw[bs];refine Zp ⟨λ_=>by rw[bs];exact J (J trivial),λ_=>?_⟩;rw[show Zk _=a+1by simp[Wx];rw[ZK Y]];exact J ⟨Y,Zw⟩
theorem Zg7{N k T c}{r}{ds}{d}{m}(h:RI N k T r)(j:ds[k]?=some d)(f:DI N c d)(O:c<=50000000)(t:N<=1000)(B:2<=N)(l:Q9 m):W (qY r ds m) λo=>∃d',o.2.1=ds.set k d'/\DI N (c+100000) d'/\RI N k T o.1:=by
 have v:=P9 j;have w:∀e:Int,∃d',((r,ds,e):Xj×List Yi×Int).2.1=ds.set k d'/\DI N (c+100000) d'/\RI N k T r:=λ_=>⟨d,v,f.le Y,h⟩;have R:m.2.2.2.2.2.2.2.2.2.1.2.length<=8192:=l.2.2.2.2.2.2.2.2.1;unfold qY;refine Uu (λ_=>J trivial) (λ_=>J trivial) λ_=>Zp ⟨λ_=>J (w _),λ_=>Zj ((Zhb Y).mono λi u=>Yu (λx=>x=false->i=true) (λb=>J λe=>by rw[b]at e;cases e) (λb=>J λ_=>by simpa only[Wx]using b) λx D=>Zp ⟨λ_=>J (w _),λb=>Zp ⟨λ_=>J (w _),λ_=>?_⟩⟩)⟩;obtain⟨I,y⟩:=u (D b);have a:RI N k T (r.1,r.2.1,r.2.2.1,r.2.2.2.1,r.2.2.2.2.1,r.2.2.2.2.2.1,r.2.2.2.2.2.2.1,Uo r.2.2.2.2.2.2.2.1 m.2.2.2.2.2.2.2.2.2.1.1.1,r.2.2.2.2.2.2.2.2):=h;generalize Q:((r.1,r.2.1,r.2.2.1,r.2.2.2.1,r.2.2.2.2.1,r.2.2.2.2.2.1,r.2.2.2.2.2.2.1,Uo r.2.2.2.2.2.2.2.1 m.2.2.2.2.2.2.2.2.2.1.1.1,r.2.2.2.2.2.2.2.2):Xj)=r' at*;have M:=a.2.2.1.2.1;rw[be Nx];refine Zp ⟨λ_=>J ⟨d,v,f.le Y,a⟩,λA=>Zp ⟨λ_=>Zj ((ZhF a j f Y t B l).mono λo g=>J ?_),λ_=>?_⟩⟩;·obtain⟨d',n,p,s⟩:=g;exact⟨d',n,p.le Y,s⟩
 ·simp only[Wx]at A;rw[be Nx];refine Zp ⟨λ_=>?_,λ_=>Zj ((b9 a j f Y t ⟨l,y⟩ Y).mono λo g=>?_)⟩
  ·refine Zj (W.mono (P:=λo=>RI N k T o.1) ?_ λo g=>J ⟨d,v,f.le Y,g⟩);have K:=a.2.2.2.2.1;unfold gX;refine Yu (λi=>i=false->r'.2.2.2.2.2.2.1.length<8) (λ_=>J λe=>by cases e) (λb=>Zj ((ZhW Y).mono λ_ _=>J λ_=>by simp only[Wx]at b;omega)) λi u=>Zp ⟨λ_=>J a,λb=>Xa ⟨by simp only[Wx,V9];omega,J ?_⟩⟩
   ·have:=u b;refine⟨a.1,a.2.1,a.2.2.1,a.2.2.2.1,by simp[Z9];omega,λE C=>?_,a.2.2.2.2.2.2⟩;rcases Z1 C with q|q;·exact a.2.2.2.2.2.1 E q
    ·rw[YZ q];exact⟨l,y⟩
  ·obtain⟨d',n,p,s,-⟩:=g;refine Zp ⟨λ_=>J ⟨d',n,p.le Y,s⟩,λ_=>?_⟩;rw[n];refine Zj ((Zai s (Vl j) p Y t).mono λx⟨z,F,G,H⟩=>J ⟨z,by rw[F,Sa],G.le Y,H⟩)
theorem ZhB{N k T}{r}{n}(h:RI N k T r)(m:T<=100000000):W (qZ r n) λo=>RI N k (T+1) o.1/\MO o.2.1:=by
 have a:=h.up (T':=T+1) Y;obtain⟨c,d,e,f,g,i,j,l⟩:=id h;unfold qZ;rw[be Nx];refine Zp ⟨λ_=>J ⟨a,RY Zb⟩,λ_=>Sp ⟨by simp only[Wx];omega,Uu (λ_=>J trivial) (λ_=>J trivial) λ_=>Zp ⟨λ_=>J ⟨a,RY Zb⟩,λ_=>?_⟩⟩⟩;have b:RI N k (T+1) (r.1,r.2.1,r.2.2.1,r.2.2.2.1,r.2.2.2.2.1,r.2.2.2.2.2.1,r.2.2.2.2.2.2.1,r.2.2.2.2.2.2.2.1,Zk (Zu r.2.2.2.2.2.2.2.2.1 1),n,r.2.2.2.2.2.2.2.2.2.2):=by refine⟨c,d,e,f,g,i,by simp only[Wx];rw[ZK Y];omega,by simp only[Wx];rw[ZK Y];omega⟩
 rw[be Nx];refine Zp ⟨λ_=>J ⟨b,RY Zb⟩,λ_=>?_⟩;rw[be Nx];exact J ⟨b,RY Zb⟩
theorem Zss{N k T C}{c}{r}{ds}{bs}{d}{m}(h:RI N k T r)(l:ds[k]?=some d)(j:DI N C d)(s:C<=50000000)(p:N<=1000)(q:2<=N)(t:Q9 m)(b:NI (nt c) bs):W (lK c r ds bs m) λo=>∃d' n x,o.1=wN c n/\RI N k T o.2.1/\o.2.2.1=ds.set k d'/\DI N (C+100000) d'/\o.2.2.2=bs++x/\NI n o.2.2.2:=by
 refine Zp ⟨λ_=>Zj ((Zgx h).mono λu i=>Yu (λo=>∃n x,o.2.1=wN c n/\o.1=bs++x/\NI n o.1) (λ_=>Zj ((uF b i.2).mono λo a=>J a)) (λ_=>J ⟨nt c,[],rfl,Zb,b⟩) λo a=>J ?_),λ_=>Zj ((Zg7 h l j s p q t).mono λo a=>J ?_)⟩;·have⟨n,x,e,f,g⟩:=a;exact⟨d,n,x,e,by rw[i.1];exact h,P9 l,j.le Zb,f,g⟩
 ·have⟨d',e,f,g⟩:=a;exact⟨d',nt c,[],rfl,g,e,f,Zb,b⟩
theorem PV.lV{k g n}{B}{R}{fd}{d d':Yi}(h:PV k g B R n fd d)(A:g<240)(f:Nc d.1 d.2.2.1 d'.1):∃e n' r,Sd d'.1 g (g+1) e n' r/\(e=R\/∃b,B b/\e=R++[b]):=by
 obtain⟨i,⟨q,⟨x,y,E⟩,o⟩,⟨b,D,s,t,u,v⟩,-⟩:=h;rw[s]at f;obtain⟨w,-⟩:=eJ (by rw[i.1];omega) f;have z:(BitVec.ofNat 32 g).toNat=g:=WI;have j:LY d'.1 (BitVec.ofNat 64 g) (if g=0then[]else Le false 1#32 (BitVec.ofNat 32 g)):=by
  have p:∀c,c<2->YI d'.1 c=YI d.1 c:=λc C=>by unfold YI;rw[w c Y]
  refine⟨λm=>?_,y,Zm⟩;rw[p _ (De _ Y)];exact x m
 rcases o.lV (by rw[i.1];omega) Y Y t u Y f with a|⟨l,a⟩;·rw[CK Y]at a;exact⟨R,n,q,⟨j,a⟩,.inl rfl⟩
 ·rw[CK Y]at a;exact⟨_,_,_,⟨j,a⟩,.inr ⟨b,(v l).2.2,rfl⟩⟩
theorem Sd.pv{k g n}{B}{R}{m}{c}{d}(h:Sd d.1 g g R n m)(b:DI 900 c d)(a:d.2.2.1=[]):PV k g B R n false d:=⟨b.sm Zm,⟨m,h⟩,LV.nil a (by have:=h.2.2.2.2.1;omega),λ_=>a⟩
theorem Td.grow:∀{R}{s s'},Td s R s'->Vt s.1->s.2.1.length=s.1.2.2.1.length->Vt s'.1/\s'.1.1=s.1.1/\s'.2.1.length=s'.1.2.2.1.length/\∃X a,s'.1.2.2.1=s.1.2.2.1++X/\s'.2.1=s.2.1++a|[],s,s',e,h,b=>by rw[e];exact⟨h,rfl,b,[],[],Zb,Zb⟩|r::R,s,s',⟨y,⟨t,l,st,h1,h2,u,c,d⟩,f⟩,h,b=>by obtain⟨v,i,j,w,k,x⟩:=bQ h Y;have:=XD (i.symm.trans c);subst this;have⟨z,g⟩:=k rfl;subst d;have⟨n,m,o,X,a,p,q⟩:=f.grow j (by rw[g];simp;omega);grind
def Oo(sd:ZI)(E:List uJ)(c:List Int)(b:List SL):Prop:=b.length<=E.length/\c.length=E.length/\∀a:Nat,a<b.length->b[a]?=some (Tt E c (a+1),HW sd (Tt E c (a+1)))
theorem Oo.app{sd}{E X}{a c}{b}(h:Oo sd E a b)(i:(a++c).length=(E++X).length):Oo sd (E++X) (a++c) b:=by have⟨j,e,f⟩:=h;refine⟨Zm,i,λd g=>?_⟩;rw[Zki Zb Y e];exact f d g
theorem Oo.snoc{sd}{E}{b}{a}(h:Oo sd E b a)(i:a.length<E.length):Oo sd E b (a++[(Tt E b (a.length+1),HW sd (Tt E b (a.length+1)))]):=by
 have⟨f,d,g⟩:=h;refine⟨WI,d,λc e=>?_⟩;by_cases j:c<a.length;·grind
 ·have:c=a.length:=by simp at e;omega
  subst this;simp
def Told(sd seed:ZI)(R:List Zt)(c:List SL):Prop:=∃b d a,R=b++d/\Td (s0 seed) b a/\Oo sd a.1.2.2.1 a.2.1 c
theorem Told.more{sd seed}{R X}{a}(h:Told sd seed R a):Told sd seed (R++X) a:=by have⟨b,c,f,g,d,e⟩:=h;exact⟨b,c++X,f,XA,d,e⟩
theorem Told.of{sd seed}{R}{s}{a}(h:Told sd seed R a)(hs:Td (s0 seed) R s):Oo sd s.1.2.2.1 s.2.1 a:=by have⟨m,n,t,g,i,j⟩:=h;rw[g]at hs;have⟨q,b,d⟩:=hs.split;obtain rfl:=b.uniq i;obtain⟨e,r,f,-⟩:=b.grow GR rfl;obtain⟨-,-,c,o,p,k,l⟩:=d.grow e f;rw[k,l]at c⊢;exact j.app c
theorem Told.mem{sd seed}{R}{p}{a}(h:YD seed R p)(b:Oo sd p.2.2.1.2.2.1 p.2.2.2.1 a):Told sd seed R a:=by obtain⟨c,d,j,e,f,g,i,-⟩:=h;rw[g,i]at b;exact⟨c,d,j,e,f,b⟩
theorem jR{n}:0<=Ze n:=Oi n
theorem wS{n}(h:-1000000000000<=n/\n<1000000000000):Zk (Zu n 1)=n+1:=by simp[Wx];exact ZK Y
theorem Zep{x}{n:Nat}(h:n<=100):W (xm x n) λr=>r.length=n:=by
 unfold xm;refine Zj (W.UQ (λa=>∃c:Nat,a.2.2=c/\c<=n/\a.2.1.length=c) (λa=>a.2.1.length=n) (λa=>(n-a.2.2).toNat) ⟨0,rfl,Y,rfl⟩ Zw (λa e=>?_) λa e=>Zj (W.UQ (λv=>-1<=v.2/\v.2<n/\(v.1.length:Int)=n-1-v.2) (λv=>v.1.length=n) (λv=>(v.2+1).toNat) ?_ ?_ (λv d=>?_) λv d=>J d))
 ·obtain⟨c,f,g,i⟩:=e;refine Zp ⟨λb=>GX.2 ⟨YP,Xa ⟨by simp only[Wx,V9];omega,GX.2 ⟨YP,J ?_⟩⟩⟩,λb=>J ?_⟩;·simp only[Wx]at b;rw[f,wS Y];exact⟨⟨c+1,rfl,Y,by simp[Z9];omega⟩,Zw⟩
  ·simp only[Wx]at b;show a.2.1.length=n;omega
 ·rw[show Zk (ZU (n:Int) 1)=(n:Int)-1by simp only[Wx];rw[ZK Y]];exact⟨Zw,Zw,Zb⟩
 ·rw[show Zk (ZU (n:Int) 1)=(n:Int)-1by simp only[Wx];rw[ZK Y]];dsimp only;omega
 ·obtain⟨k,l,m⟩:=d;refine Zp ⟨λb=>?_,λb=>J ?_⟩;·simp only[Wx]at b;refine Xo ⟨by simp only[Wx];omega,Zj (YF ⟨Y,λo j=>Xa ⟨by simp only[Wx,V9];omega,J ?_⟩⟩)⟩;rw[show Zk (ZU v.2 1)=v.2-1by simp only[Wx];rw[ZK Y]];exact⟨⟨Zw,Zw,by simp[Z9];omega⟩,Zw⟩
  ·simp only[Wx]at b;show v.1.length=n;omega
theorem ZqN{x}{l}(o:l.length<=1000)(h:∀b∈l,b.length<=100000):W (fi x l) λr=>r.length<=200000000:=by refine Zj (W.lp (λa=>∃c:Nat,a.2=c/\c<=l.length/\a.1.length<=1+100004*c) (λa=>(l.length-a.2).toNat) ⟨0,rfl,Zb,Zb⟩ Y (λa g=>?_) λa g=>J Zm);have⟨s,t⟩:=a;have⟨c,d,j,e⟩:=g;dsimp only at d e;subst d;refine Zp ⟨λf=>?_,λf=>J ⟨c,rfl,j,e⟩⟩;simp[Wx]at f;refine Zj (YF ⟨Zm,λb k=>Zj ((Zep (n:=4) Zb).mono λq p=>Xa ⟨Zm,Zj (YF ⟨Y,λi m=>?_⟩)⟩)⟩);have:=h i Zm;rw[wS Y];exact Xa ⟨Zm,J ⟨⟨c+1,rfl,Y,Zm⟩,Zm⟩⟩
theorem ZqJ{b}(h:b.length<=200000000):W (fg b) λr=>r.length%64=0/\r.length<=300000000:=by
 refine Xa ⟨Zm,Xa ⟨Zm,Zj (W.UQ (λa=>a.length+(120-a.length%64)%64<=250000000) (λa=>a.length%64=56/\a.length<=250000000) (λa=>(120-a.length%64)%64) Zm Y (λa d=>?_) λa d=>?_)⟩⟩
 ·have e:Pk (Ze (Zf a)) 64=(a.length%64:Nat):=by simp only[Wx];rw[ye Y];rfl
  refine L2.2 ⟨Zb,Zp ⟨λc=>Xa ⟨Zm,J ?_⟩,λc=>J ?_⟩⟩;·simp at c;have f:(Z9 a [0#8]).length=a.length+1:=Zb;refine⟨Y,Zm⟩
  ·simp at c;exact⟨Y,Y⟩
 ·refine Zj ((Zep (n:=8) Y).mono λi g=>Xa ⟨Zm,J ?_⟩);grind
theorem ZqQ{b}(h:b.length<=1000):W (fa b) λ_=>True:=by refine Zj (W.lp (λa=>0<=a.2/\a.2<=b.length) (λa=>(b.length-a.2).toNat) ⟨Zb,Zb⟩ Y (λa d=>?_) λa d=>J trivial);have⟨e,f⟩:=d;refine Zp ⟨λc=>?_,λc=>J ⟨e,f⟩⟩;simp[Wx]at c;refine Zj (YF ⟨Y,λ_ _=>J ?_⟩);rw[wS Y];exact⟨Y,Zm⟩
theorem ZqO{x y}:W (Nz x y) λ_=>True:=by exact Sp ⟨jR,Sp ⟨jR,J trivial⟩⟩
theorem vg{n}{v:Vector (BitVec 32) n}{i:Int}{α}{f}{Q:α->Prop}(h:0<=i/\i<n)(a:∀x,W (f x) Q):W (O (YV v i) f) Q:=Zj (Ax.2 ⟨h,λx _=>a x⟩)
theorem rt{x y}{α}{f}{Q:α->Prop}(a:∀x,W (f x) Q):W (O (Nz x y) f) Q:=Zj (ZqO.mono λx _=>a x)
theorem ZqR{b}(h:b.length=64):W (pl b) λ_=>True:=by
 unfold pl;refine Zj (W.lp (λa=>0<=a.1/\a.1<=16) (λa=>(16-a.1).toNat) ⟨Zb,Zb⟩ Zw (λa f=>?_) λa f=>Zj (W.lp (λv=>16<=v.1/\v.1<=64) (λv=>(64-v.1).toNat) ⟨Zb,Zb⟩ Zw (λv g=>?_) λv g=>J trivial));·obtain⟨i,j⟩:=f;refine Zp ⟨λc=>?_,λc=>J ⟨i,j⟩⟩;simp only[Wx]at c;rw[show Zk (Vq 4 a.1)=4*a.1by simp only[Wx];rw[ZK Y],show Zk (Zu (4*a.1) 4)=4*a.1+4by simp only[Wx];rw[ZK Y]];refine Zj (N0.2 ⟨Y,Zj ((ZqQ (by rw[Wn,UF];omega)).mono λ_ _=>Xo ⟨Y,J ?_⟩)⟩);rw[wS Y];exact⟨⟨Zw,Zw⟩,Zw⟩
 ·obtain⟨k,l⟩:=g;refine Zp ⟨λc=>?_,λc=>J ⟨k,l⟩⟩;simp only[Wx]at c;have e:∀d:Int,0<=d->d<=16->Zk (ZU v.1 d)=v.1-d:=λd m n=>by simp only[Wx];rw[ZK Y]
  rw[e 15 Y Y,e 2 Y Y,e 16 Y Y,e 7 Y Y,wS Y];refine Xo ⟨Y,vg Y λ_=>Xo ⟨Y,vg Y λ_=>Xo ⟨Y,vg Y λ_=>rt λ_=>rt λ_=>GX.2 ⟨YP,Xo ⟨Y,vg Y λ_=>rt λ_=>rt λ_=>GX.2 ⟨YP,Xo ⟨Y,J ⟨⟨Zw,Zw⟩,Zw⟩⟩⟩⟩⟩⟩⟩⟩
theorem vc{n}{v:Vector (BitVec 32) n}{i}{k:Int}{α}{f}{Q:α->Prop}(h:0<=i/\i<k)(b:k=n)(a:∀x,W (f x) Q):W (ZZ i k (O (YV v i) f)) Q:=Xo ⟨h,vg Y a⟩
theorem ZqM{s}{b}(h:b.length=64):W (fj s b) λ_=>True:=by
 refine Zj ((ZqR h).mono λk _=>?_);rw[show fe=some _ from rfl,bs];refine Zj (W.lp (λa=>0<=a.1/\a.1<=64) (λa=>(64-a.1).toNat) ⟨Zb,Zb⟩ Zb (λa d=>?_) λa d=>Zj (W.lp (λv=>0<=v.1/\v.1<=8) (λv=>(8-v.1).toNat) ⟨Zb,Zb⟩ Zb (λv e=>?_) λv e=>J trivial))
 ·obtain⟨f,g⟩:=d;refine Zp ⟨λc=>?_,λc=>J ⟨f,g⟩⟩;simp only[Wx]at c;rw[wS Y];repeat(first|refine vc Y rfl λ_=>?_|refine rt λ_=>?_)
  exact J ⟨Y,Zm⟩
 ·obtain⟨i,j⟩:=e;refine Zp ⟨λc=>?_,λc=>J ⟨i,j⟩⟩;simp at c;rw[wS Y];exact vc Y rfl λ_=>vc Y rfl λ_=>Xo ⟨Y,J ⟨Y,Zm⟩⟩
theorem ZqL{b}(h:b.length<=200000000):W (pj b) λ_=>True:=by
 unfold pj;rw[show fh=some _ from rfl,bs];refine Zj ((ZqJ h).mono λg m=>Zj (W.lp (λc=>∃a:Nat,c.1=a/\a<=g.length/\a%64=0) (λc=>(g.length-c.1).toNat) ⟨0,rfl,Y,rfl⟩ Zw (λc e=>?_) λc e=>Zj (W.lp (λv=>0<=v.1/\v.1<=32) (λv=>(32-v.1).toNat) ⟨Zb,Zb⟩ Zw (λv f=>?_) λv f=>J trivial)));·obtain⟨o,p⟩:=c;obtain⟨a,rfl,j,k⟩:=e;refine Zp ⟨λd=>?_,λd=>J ⟨a,rfl,j,k⟩⟩;simp only[Wx]at d;rw[show Zk (Zu (a:Int) 64)=((a+64:Nat):Int)by simp only[Wx];rw[ZK Y];rfl];exact Zj (N0.2 ⟨Zw,Zj ((ZqM Zm).mono λ_ _=>J ⟨⟨a+64,rfl,Y,Y⟩,Zw⟩)⟩)
 ·obtain⟨i,l⟩:=f;refine Zp ⟨λd=>?_,λd=>J ⟨i,l⟩⟩;simp only[Wx]at d;rw[wS Y,JK i,ZK (n:=v.1/4) Y];exact L2.2 ⟨YP,vc Y rfl λ_=>L2.2 ⟨YP,Sp ⟨jR,Xo ⟨Y,J ⟨Y,Zw⟩⟩⟩⟩⟩
theorem ZqG{b}(h:b.length<=100000):W (fo b) λ_=>True:=by exact Zj (Zj ((ZqN Zb Zm).mono λc a=>Zj ((ZqL a).mono λ_ _=>J (J trivial))))
theorem bO{a b}(h:a.length<=1000000000):W (pi a b) λr=>r=true↔a=b:=by
 refine Zp ⟨λe=>J ?_,λe=>?_⟩;·grind
 simp only[Wx]at e;refine Wo (W.Vy (λc=>0<=c/\c<=a.length/\∀d:Nat,d<c.toNat->a[d]?=b[d]?) _ (λc=>(a.length-c).toNat) (λr=>r=false/\¬a=b) ⟨Zb,Y,Zb⟩ Y (λc g=>Zp ⟨λf=>?_,λf=>J ?_⟩) (λc g=>J ⟨λ_=>g,λ_=>rfl⟩) λr k=>⟨Zm,λi=>(k.2 i).elim⟩)
 ·simp only[Wx]at f;refine Zj (YF ⟨Y,λo m=>Zj (YF ⟨Y,λp n=>Zp ⟨λj=>?_,λj=>J ?_⟩⟩)⟩);·rw[bs];exact J ⟨rfl,Zm⟩
  ·rw[wS Y];refine⟨⟨Y,Y,λd l=>?_⟩,Zm⟩;grind
 ·apply BC;grind
theorem Zgy{l}(A:l.length<=1000)(h:∀b∈l,b.length<=100000):W (pm l) λ_=>True:=by
 unfold pm;refine Wo (W.Ku (λa=>0<=a.2/\a.2<=l.length/\a.1.length=a.2) (λa=>(l.length-a.2).toNat) (λ_=>True) ⟨Zb,Zw,Zb⟩ Zw (λa p=>?_) (λa p=>J trivial) λ_ _=>trivial);obtain⟨e,d⟩:=a;obtain⟨c,m,n⟩:=p;dsimp only at c m n;refine Zp ⟨λf=>?_,λ_=>J ⟨c,m,n⟩⟩;simp only[Wx]at f;refine Zj (YF ⟨⟨c,f⟩,λz u=>Zj ((ZqG (h z (X6 u))).mono λg _=>Xa ⟨by simp only[Wx,V9];omega,?_⟩)⟩);have o:(Z9 e [g]).length=e.length+1:=by simp[Z9]
 refine Wo (W.Ku (λv=>0<=v/\v<=d) (λv=>(d-v).toNat) (λi=>LQ (λa:List ZI×Int=>0<=a.2/\a.2<=l.length/\(a.1.length:Int)=a.2) (λa:List ZI×Int=>(l.length-a.2).toNat) (l.length-d).toNat (λa:List ZI×Int=>0<=a.2/\a.2<=l.length/\(a.1.length:Int)=a.2) (λ_:Bool=>True) i) ⟨Zb,c⟩ Y (λv q=>?_) (λv q=>J ?_) λi s=>s)
 ·obtain⟨x,y⟩:=q;refine Zp ⟨λr=>?_,λ_=>J ⟨x,y⟩⟩;simp only[Wx]at r;have j:0<=v/\v<(((Z9 e [g]).length:Nat):Int):=by rw[o];omega
  have k:0<=d/\d<(((Z9 e [g]).length:Nat):Int):=by rw[o];omega
  refine Xo ⟨j,Zj (YF ⟨j,λC _=>Xo ⟨k,Zj (YF ⟨k,λi _=>Uu (λ_=>by refine Zj (YF ⟨Y,λw t=>Zj (YF ⟨⟨c,f⟩,λD B=>Zj ((bO (by have:=h w (X6 t);omega)).mono λ_ _=>J trivial)⟩)⟩)) (λ_=>J trivial) λE=>Zp ⟨λ_=>by rw[bs,bs];exact J trivial,λ_=>J ?_⟩⟩)⟩⟩)⟩;·rw[wS Y];exact⟨⟨Y,Y⟩,Zw⟩
 ·dsimp only;rw[wS Y];exact⟨Zm,Zw⟩
def yp(o:Ke):Prop:=o.2.2.2.2.1.length<=100/\o.2.2.2.2.2.1.length<=9000/\o.2.2.2.2.2.2.length<=200
theorem ZgL{l}{n}(C:n<=200):W (pn l n) λb=>b=true->l.length<=n/\∀o∈l,yp o:=by
 unfold pn;refine Wo (W.Vy (λa=>∃c:Nat,a.2=c/\c<=l.length/\c<=200/\a.1.length=c/\(∀b∈a.1,b.length<=100)/\∀o∈l.take c,yp o) (λa=>a.1.length<=200/\(∀b∈a.1,b.length<=100)/\((l.length:Int)<=200->∀o∈l,yp o)) (λa=>(200-a.2).toNat) (λt=>t=false) ⟨0,rfl,Y,Y,rfl,Zb,Zb⟩ Zw (λa e=>?_) (λa e=>?_) λt z=>λf=>by rw[z]at f;cases f)
 ·obtain⟨D,E⟩:=a;obtain⟨c,m,A,B,v,g,p⟩:=e;dsimp only at m v g;subst m;refine Zp ⟨λd=>Zp ⟨λj=>?_,λj=>J ⟨Zw,g,λq=>by simp only[Wx]at d j;omega⟩⟩,λd=>J ⟨Zw,g,λ_=>?_⟩⟩
  ·simp only[Wx]at d j;have r:c<l.length:=Y;have h:∀{u:Type}{i:Ke->Option u},O (ZA l (c:Int)) i=i l[c]:=λ{u i}=>be (Sz (Oi _) (by rw[Vz];exact VB r));dsimp only;rw[h];refine Zp ⟨λ_=>by rw[bs];exact J rfl,λw=>?_⟩;rw[h];refine Zp ⟨λ_=>by rw[bs];exact J rfl,λx=>?_⟩;rw[h];refine Zp ⟨λ_=>by rw[bs];exact J rfl,λy=>?_⟩;rw[h];simp only[Wx]at w x y;rw[wS Y];refine Xa ⟨by simp only[Wx,V9];omega,J ⟨⟨c+1,rfl,Y,Y,by simp[Z9];omega,λb k=>?_,λo s=>?_⟩,Zw⟩⟩
   ·rcases Z1 k with q|q;·exact g b q
    ·rw[YZ q];omega
   ·rw[O2,VB r]at s;rcases Z1 s with q|q;·exact p o q
    ·rw[YZ q];exact⟨Y,Y,Y⟩
  ·simp only[Wx]at d;rwa[VT Y]at p
 ·refine Zp ⟨λd=>Zj ((Zgy (by have:=e.1;omega) λb k=>by have:=e.2.1 b k;omega).mono λb _=>J λ_=>?_),λ_=>J λf=>by cases f⟩;simp only[Wx]at d;exact⟨d,e.2.2 Y⟩
def Ug:ZI:=YA (Zn 32 0#8) 0 42#8
def R5:Fm:=(2,2,6,2,900,1,2,3,Ug)
noncomputable def SR:ZI:=NA Ug
def RV(ds:List Yi)(k T:Nat):Prop:=∃a,ds[k]?=some a/\DI 900 (100000*T) a
def S4(rs:List Xj)(a:Option Nat)(k T:Nat):Prop:=∀b,a=some b->∃c,rs[b]?=some c/\RI 900 k T c
def M6(B:List Zt->Zt->Prop)(ds:List Yi)(ps:List Y8)(a:Option Nat)(k g:Nat)(R:List Zt):Prop:=∃c f d,ds[k]?=some c/\PV k g (B R) R f d c/\∀e,a=some e->∃b,ps[e]?=some b/\VM k g f d b.1/\PI SR b/\YD Ug R b
def sl(c:Yn):List Int:=c.2.2.2.2.2.2.2.2.2.2.2
def CB(T:Nat)(c:Yn):Prop:=c.1=R5/\(0<=c.2.1/\c.2.1<=T+1)/\(c.2.2.1.length=5/\∀a∈c.2.2.1,-2<=a/\a<=2)/\c.2.2.2.2.2.2.2.1.length<=1000/\(lk c).length<=T/\(ud c).length<=T/\(sl c).length<=T+8
structure Wp(B:List Zt->Zt->Prop)(T:Nat)(k0 k1 k2 g:Nat)(R:List Zt)(c:Yn)(ds:List Yi)(rs:List Xj)(cs:List WS)(ss:List XZ)(ms:List UO)(ps:List Y8)(bs:List Zt):Prop where
 cb:CB T c
 dv:c.2.2.2.1=[some k0,some k1,some k2]ne:k0≠k1/\k0≠k2/\k1≠k2
 d1:RV ds k1 T
 d2:RV ds k2 T
 pr:M6 B ds ps c.2.2.2.2.1 k0 g R
 rp:∃a1 a2,c.2.2.2.2.2.1=[a1,a2]/\S4 rs a1 k1 T/\S4 rs a2 k2 T
 ni:NI (nt c) bs
 cl:CL c cs ss ms.length
 hg:g<=T
theorem RV.up{ds}{k T T'}(h:RV ds k T)(d:T<=T'):RV ds k T':=by have⟨a,b,c⟩:=h;exact⟨a,b,c.le Y⟩
theorem S4.up{rs}{a}{k T T'}(h:S4 rs a k T)(d:T<=T'):S4 rs a k T':=λf e=>by have⟨g,b,c⟩:=h f e;exact⟨g,b,c.up d⟩
theorem CB.up{T T'}{c}(h:CB T c)(j:T<=T'):CB T' c:=by have⟨a,e,b,d,f,g,i⟩:=h;exact⟨a,Y,b,d,Y,Y,Y⟩
variable{B:List Zt->Zt->Prop}{T Z W V g:Nat}{R:List Zt}{c c':Yn}{ds:List Yi}{rs:List Xj}{cs:List WS}{ss:List XZ}{ms:List UO}{ps:List Y8}{bs:List Zt}
theorem Wp.up(h:Wp B T Z W V g R c ds rs cs ss ms ps bs){T'}(a:T<=T'):Wp B T' Z W V g R c ds rs cs ss ms ps bs:=⟨h.cb.up a,h.dv,h.ne,h.d1.up a,h.d2.up a,h.pr,by have⟨b,d,e,f,i⟩:=h.rp;exact⟨b,d,e,f.up a,i.up a⟩,h.ni,h.cl,by have:=h.hg;omega⟩
theorem Wp.P0(h:Wp B T Z W V g R c ds rs cs ss ms ps bs){n}{a}(b:NI n a):Wp B T Z W V g R (wN c n) ds rs cs ss ms ps a:=⟨h.cb,h.dv,h.ne,h.d1,h.d2,h.pr,h.rp,b,h.cl.up rfl (YG _) Zb λ_ d=>d,h.hg⟩
theorem ED{α:Type}{l:List α}{i j}{x}(h:i≠j):(l.set i x)[j]?=l[j]?:=List.getElem?_set_ne h
theorem RV.set{k T k'}{d}(h:RV ds k T)(f:k'≠k):RV (ds.set k' d) k T:=by obtain⟨a,e,b⟩:=h;exact⟨a,XA,b⟩
theorem Wp.pri(h:Wp B T Z W V g R c ds rs cs ss ms ps bs){a}{d}{b}(e:M6 B (ds.set Z d) b c.2.2.2.2.1 Z g a):Wp B T Z W V g a c (ds.set Z d) rs cs ss ms b bs:=⟨h.cb,h.dv,h.ne,h.d1.set h.ne.1,h.d2.set h.ne.2.1,e,h.rp,h.ni,h.cl,h.hg⟩
theorem Wp.qj(h:Wp B T Z W V g R c ds rs cs ss ms ps bs){a}{b}(d:M6 B ds b c.2.2.2.2.1 Z g a):Wp B T Z W V g a c ds rs cs ss ms b bs:=⟨h.cb,h.dv,h.ne,h.d1,h.d2,d,h.rp,h.ni,h.cl,h.hg⟩
theorem M6.put{a}{k g j}{p b}(h:M6 B ds ps a k g R)(d:a=some j)(f:ps[j]?=some p)(h1:b.1=p.1)(h2:PI SR b)(n:YD Ug R p->YD Ug R b):M6 B ds (ps.set j b) a k g R:=by have⟨l,o,m,q,r,s⟩:=h;refine⟨l,o,m,q,r,λv e=>?_⟩;rw[d]at e;cases e;have⟨w,i,t,x,u⟩:=s j d;rw[f]at i;cases i;exact⟨b,Vl f,by rw[h1];exact t,h2,n u⟩
def VV(R:List Zt)(c:Yn)(ps:List Y8)(e:List Zt)(c':Yn)(j:List Y8):Prop:=(∃b,e=R++b)/\∀h a,c'.2.2.2.2.1=some h->j[h]?=some a->Td (s0 Ug) e (U7 a)\/∃f d b i,c.2.2.2.2.1=some f/\ps[f]?=some d/\a.2.2.1.2.2.1=d.2.2.1.2.2.1++b/\a.2.2.2.1=d.2.2.2.1++i
theorem VV.same{c'}(h:c'.2.2.2.2.1=c.2.2.2.2.1):VV R c ps R c' ps:=⟨Zb,λb d e a=>.inr ⟨b,d,[],[],XA,a,Zb,Zb⟩⟩
theorem VV.put{c'}{d}{j}{p b}(h:c'.2.2.2.2.1=c.2.2.2.2.1)(i:c.2.2.2.2.1=some j)(k:ps[j]?=some p)(o:∃X,d=R++X)(n:∃X a,b.2.2.1.2.2.1=p.2.2.1.2.2.1++X/\b.2.2.2.1=p.2.2.2.1++a):VV R c ps d c' (ps.set j b):=by refine⟨o,λq r e f=>.inr ?_⟩;rw[h,i]at e;cases e;rw[Vl k]at f;cases f;have⟨X,a,l,m⟩:=n;exact⟨j,p,X,a,i,k,l,m⟩
theorem VV.trans{f a i}{k b l}{m d n}(h:VV f k m a b d)(h':VV a b d i l n)(C:∀j p,b.2.2.2.2.1=some j->d[j]?=some p->Td (s0 Ug) a (U7 p)->False):VV f k m i l n:=by
 have⟨⟨v,z⟩,h⟩:=h;have⟨⟨w,A⟩,h'⟩:=h';refine⟨⟨v++w,by rw[A,z,Z5]⟩,λL M x y=>?_⟩;rcases h' _ _ x y with e|⟨j,p,r,t,o,q,F,G⟩;·exact .inl e
 ·rcases h j p o q with e|⟨D,E,s,u,H,I,J,K⟩;·exact(C j p o q e).elim
  ·exact .inr ⟨D,E,s++r,u++t,H,I,by rw[F,J,Z5],by rw[G,K,Z5]⟩
end Go.R
namespace Go.R
open Go.Sl
def RG(c:Yn)(u:List Int):Yn:=(c.1,c.2.1,c.2.2.1,c.2.2.2.1,c.2.2.2.2.1,c.2.2.2.2.2.1,c.2.2.2.2.2.2.1,c.2.2.2.2.2.2.2.1,c.2.2.2.2.2.2.2.2.1,c.2.2.2.2.2.2.2.2.2.1,c.2.2.2.2.2.2.2.2.2.2.1,u)
theorem Th{α β}{o}{a:β}{n:Option α}{s}(h:o=some a):Yq o n s=s a:=by rw[h,ko]
theorem Cs{α β}{o:Option β}{n:Option α}{s}(h:o=none):Yq o n s=n:=by rw[h,KJ]
theorem ZrP{c}{bs}{l}{A:Yn->List Zt->Option (Yn×List Yi×List Y8×List Zt×OC)}{Q}(h:NI (nt c) bs)(hr:c.2.2.2.2.2.1.length=2)(hl:l.length<=100)(K:∀m∈l,MO m)(V:∀m∈l,m.1=2->0<=m.2.2.1)(X:∀n x,NI n (bs++x)->W (A (wN c n) (bs++x)) Q):W (XY (XO (λd=>Zc (Zz d.1 (Ze (Zf l))) (O (ZA l d.1) λu=>Zc (Zs u.1 2) (O (R6 d.2.2 d.2.1 u.2.2.1 u) λN=>some (.next (Zk (Zu d.1 1),N.2,N.1))) (O (YK (λ(a:Int×List Zt×Yn×YN)=>Zc (Zz a.1 (Ze (Zf d.2.2.2.2.2.2.2.1))) (O (R6 a.2.2.1 a.2.1 (Zk (Zu a.1 1)) (a.2.2.2.1,a.2.2.2.2.1,Zk (Zu a.1 1),a.2.2.2.2.2.2)) λP=>some (.next (Zk (Zu a.1 1),P.2,P.1,a.2.2.2.1,a.2.2.2.2.1,Zk (Zu a.1 1),a.2.2.2.2.2.2))) (some (.brk a))) (0,d.2.1,d.2.2,u)) λR=>some (.next (Zk (Zu d.1 1),R.2.1,R.2.2.1)))) (some (.brk d))) (0,bs,c)) λS=>A S.2.2 S.2.1) Q:=by
 refine Wo (W.Vy (λb=>∃(i:Nat)(n:Nj)(x:List Zt),b.1=i/\i<=l.length/\b.2.1=bs++x/\b.2.2=wN c n/\NI n (bs++x)) (λb=>∃(n:Nj)(x:List Zt),b.2.1=bs++x/\b.2.2=wN c n/\NI n (bs++x)) (λb=>(l.length-b.1).toNat) (λ_=>False) ⟨0,nt c,[],rfl,Y,Zb,rfl,by simpa using h⟩ Zw (λb B=>?_) (λb B=>?_) λ_ T=>T.elim)
 ·obtain⟨u1,u2,u3⟩:=b;obtain⟨i,n,x,p,G,q,H,w⟩:=B;dsimp only at p q H;subst p q H;refine Zp ⟨λU=>?_,λ_=>J ⟨n,x,rfl,rfl,w⟩⟩;simp only[Wx]at U;refine Zj (YF ⟨Zw,λm Z=>?_⟩);have z:=X6 Z;rw[wS Y];refine Zp ⟨λy=>?_,λy=>?_⟩;·simp only[Wx]at y;refine Zj ((I2 (c:=wN c n) w (V m z y) (K m z)).mono λx0 D=>J ?_);obtain⟨e,f,F,k,o⟩:=D.1;rw[k,Z5]at o;exact⟨⟨i+1,e,x++f,rfl,Y,by dsimp only;rw[k,Z5],by dsimp only;rw[F];rfl,o⟩,Zw⟩
  ·refine Zj (W.lp (λv=>∃(g:Nat)(e:Nj)(f:List Zt),v.1=g/\g<=2/\v.2.1=bs++f/\v.2.2.1=wN c e/\NI e (bs++f)/\MO v.2.2.2) (λv=>(2-v.1).toNat) ⟨0,n,x,rfl,Y,rfl,rfl,w,K m z⟩ Zw (λv C=>?_) λv C=>J ?_)
   ·obtain⟨v1,v2,v3,v4⟩:=v;obtain⟨g,e,f,E,M,r,s,t,j⟩:=C;dsimp only at E r s j;subst E r s;refine Zp ⟨λI=>?_,λ_=>J ⟨g,e,f,rfl,M,rfl,rfl,t,j⟩⟩;have I:(g:Int)<2:=by have:Zz (g:Int) (Ze c.2.2.2.2.2.1.length)=true:=I;rw[hr]at this;simp only[Wx]at this;omega
    rw[wS Zw];dsimp only;refine Zj ((I2 (c:=wN c e) t Y (vC j _ _ _)).mono λx0 D=>J ?_);obtain⟨n2,y2,F,k,o⟩:=D.1;rw[k,Z5]at o;exact⟨⟨g+1,n2,f++y2,rfl,Y,by dsimp only;rw[k,Z5],by dsimp only;rw[F];rfl,o,vC j _ _ _⟩,Zw⟩
   ·obtain⟨g,e,f,E,M,r,s,t,j⟩:=C;exact⟨⟨i+1,e,f,rfl,Y,r,s,t⟩,Zw⟩
 ·obtain⟨n,x,p,G,q⟩:=B;dsimp only;rw[p,G];exact X n x q
variable{B:List Zt->Zt->Prop}{T Z X V g:Nat}{R:List Zt}{c:Yn}{ds:List Yi}{rs:List Xj}{cs:List WS}{ss:List XZ}{ms:List UO}{ps:List Y8}{bs:List Zt}
abbrev D6:Fo×Int×List VH:=(([],0,(0,0,Zn 32 0#8,Zn 32 0#8),[]),0,[])
theorem Zfj{j}{p}{t}(h:Wp B T Z X V g R c ds rs cs ss ms ps bs)(r:c.2.2.2.2.1=some j)(s:ps[j]?=some p)(hT:T<=1000)(hB:YD Ug R p->Ob p.2.2.2.1 t->p.2.2.1.2.2.1.length<8->p.2.2.2.2.2.2=0->B R (UC t p.2.2.2.2.2.1))(xk:∀R b d,B R b->d=R->B d b):W (O (CY p ds t) λi=>Zc (Zy (Zs i.2.2.2 0)) (some (c,i.2.1,Y3 ps j i.1,bs,i.2.2.2,D6)) (Yp (Zf c.2.2.2.2.2.2.2.2.2.2.2) (Zf [c.2.1]) (XY (XO (λf=>Zc (Zz f.1 (Ze (Zf i.2.2.1))) (O (ZA i.2.2.1 f.1) λn=>Zc (Zs n.1 2) (O (R6 f.2.2 f.2.1 n.2.2.1 n) λM=>some (.next (Zk (Zu f.1 1),M.2,M.1))) (O (YK (λ(a:Int×List Zt×Yn×YN)=>Zc (Zz a.1 (Ze (Zf f.2.2.2.2.2.2.2.1))) (O (R6 a.2.2.1 a.2.1 (Zk (Zu a.1 1)) (a.2.2.2.1,a.2.2.2.2.1,Zk (Zu a.1 1),a.2.2.2.2.2.2)) λN=>some (.next (Zk (Zu a.1 1),N.2,N.1,a.2.2.2.1,a.2.2.2.2.1,Zk (Zu a.1 1),a.2.2.2.2.2.2))) (some (.brk a))) (0,f.2.1,f.2.2,n)) λP=>some (.next (Zk (Zu f.1 1),P.2.1,P.2.2.1)))) (some (.brk f))) (0,bs,c.1,c.2.1,c.2.2.1,c.2.2.2.1,c.2.2.2.2.1,c.2.2.2.2.2.1,c.2.2.2.2.2.2.1,c.2.2.2.2.2.2.2.1,c.2.2.2.2.2.2.2.2.1,c.2.2.2.2.2.2.2.2.2.1,c.2.2.2.2.2.2.2.2.2.2.1,Z9 c.2.2.2.2.2.2.2.2.2.2.2 [c.2.1])) λQ=>some (Q.2.2,i.2.1,Y3 ps j i.1,Q.2.1,0,D6)))) λo=>∃d,Wp B (T+1) Z X V g d o.1 o.2.1 rs cs ss ms o.2.2.1 o.2.2.2.1/\VV R c ps d o.1 o.2.2.1:=by
 obtain⟨x9,x7,fd,F,q2,q3⟩:=h.pr;obtain⟨p',G,r2,H,I⟩:=q3 j r;rw[s]at G;cases G;refine Zj ((bP (t:=t) F q2 r2 H I (hB I)).mono λo ho=>?_);obtain⟨k,E,v,d,o1,o2,o3,o4,o5,⟨S,U,e1,l,-⟩,o7,o8,-,o9,x8,-⟩:=ho;have x3:PV Z g (B d) d E v k:=by
  rcases o9 with⟨m,l⟩|⟨-,-,-,-,m,l⟩;·rw[m];exact l
  ·exact l _
 have x5:M6 B (ds.set Z k) (ps.set j o.1) c.2.2.2.2.1 Z g d:=by refine⟨k,E,v,Vl F,x3,λj' z=>?_⟩;rw[r]at z;cases z;exact⟨o.1,Vl s,o2,o3,o4⟩
 have e:=(h.pri x5).up (T':=T+1) Y;have x:∀q:Yn,q.2.2.2.2.1=c.2.2.2.2.1->VV R c ps d q (ps.set j o.1):=λq x4=>VV.put x4 r s o5 (by exact⟨S,U,e1,l⟩);rw[o1];refine Zp ⟨λ_=>J ⟨d,e,x c rfl⟩,λw=>?_⟩;simp only[Wx]at w;obtain⟨-,em,x0,x1⟩:=x8 w;have xs:=h.cb.2.2.2.2.2.2;refine Xa ⟨by show(sl c).length+1<=_;omega,?_⟩;have x6:c.2.2.2.2.2.1.length=2:=by obtain⟨a1,a2,m,-⟩:=h.rp;rw[m];rfl
 refine ZrP (c:=RG c (sl c++[c.2.1])) (A:=λK y=>some (K,ds.set Z k,Y3 ps j o.1,y,(0:Int),D6)) h.ni x6 Y o7 (λxv D C=>?_) λx7 K hn=>J ⟨d,?_,x _ rfl⟩
 ·rw[x1]at D;rcases Z1 D with y|y;·obtain⟨u,hq,rfl⟩:=Uj y;exact(H.2.2.2.2.2.2 u hq).1.1
  ·rw[YZ y,x0.ZjQ]at C;cases C
 ·have x2:Wp B (T+1) Z X V g d (RG c (sl c++[c.2.1])) (ds.set Z k) rs cs ss ms (ps.set j o.1) bs:=⟨by obtain⟨c1,c2,c3,c4,c5,c6,c7⟩:=e.cb;exact⟨c1,c2,c3,c4,c5,c6,by show(sl c++[_]).length<=_;simp;omega⟩,e.dv,e.ne,e.d1,e.d2,e.pr,e.rp,e.ni,e.cl.up rfl (YG _) (YG _) λ_ u=>u,e.hg⟩;exact x2.P0 hn
theorem ZiR(h:Wp B T Z X V g R c ds rs cs ss ms ps bs)(u:T<=1000)(s:∀j p t,c.2.2.2.2.1=some j->ps[j]?=some p->YD Ug R p->PI SR p->Ob p.2.2.2.1 t->p.2.2.1.2.2.1.length<8->p.2.2.2.2.2.2=0->B R (UC t p.2.2.2.2.2.1)):W (Fj c ds ps bs) λo=>∃f,Wp B (T+1) Z X V g f o.1 o.2.1 rs cs ss ms o.2.2.1 o.2.2.2.1/\VV R c ps f o.1 o.2.2.1:=by
 unfold Fj;rcases wV c.2.2.2.2.1with a|⟨j,a⟩;·rw[Cs a];exact J ⟨R,h.up Y,VV.same rfl⟩
 ·obtain⟨x1,x3,fd,q1,q2,U⟩:=h.pr;obtain⟨p,b,r2,i,v⟩:=U j a;obtain⟨-,N,⟨K,M⟩,-⟩:=id h.cb;rw[Th a,gt b];refine Zj ((uk K Y Y M ⟨N.1,Y⟩).mono λt ht=>?_);rw[Th a,gt b,be P5];refine Zp ⟨λI=>?_,λI=>?_⟩
  ·rw[Th a,gt b];refine Zj ((rY i).mono λq O=>?_);obtain⟨⟨sg,s1,d⟩,-⟩:=O;have r:Wp B T Z X V g R c ds rs cs ss ms (ps.set j q.1) bs:=h.qj (h.pr.put a b (by rw[d]) (by rw[d];exact⟨s1,i.2⟩) λe=>by rw[d];exact e);refine Zp ⟨λ_=>J ⟨R,r.up Y,VV.put rfl a b ⟨[],Zb⟩ ⟨[],[],by rw[d];simp,by rw[d];simp⟩⟩,λ_=>?_⟩;rw[Th a,gt (Vl b)];have:=Zfj (t:=Uo t q.2.1.1.2.1) r a (Vl b) u (λQ l m n=>by have:=s j p (Uo t q.2.1.1.2.1) a b v i (by rwa[d]at l) (by rwa[d]at m) (by rwa[d]at n);rw[d];exact this) λ_ _ _ e k=>by rw[k];exact e
   refine this.mono λo⟨f,D,E,F⟩=>⟨f,D,E,λP S G H=>?_⟩;rcases F P S G H with x0|⟨x2,p1,A,C,w,x,y,z⟩;·exact .inl x0
   ·rw[a]at w;cases w;rw[Vl b]at x;cases x;rw[d]at y z;exact .inr ⟨j,p,A,C,a,b,y,z⟩
  ·rw[Th a,gt b];exact Zfj (t:=t) h a b u (λQ l m n=>s j p t a b v i l m n) λ_ _ _ e k=>by rw[k];exact e
end Go.R
namespace Go.R
open Go.Sl
theorem S4.set{rs}{a}{k k' T j}{r x}(h:S4 rs a k T)(g:rs[j]?=some r)(n:r.1.1=some k')(o:k≠k'):S4 (rs.set j x) a k T:=λi e=>by
 have⟨l,b,c⟩:=h _ e;have f:j≠i:=λd=>by subst d;rw[g]at b;have m:=c.1.1;simp_all
 exact⟨l,by rw[ED f];exact b,c⟩
theorem S4.put{rs:List Xj}{a}{k T j}{r x}(c:a=some j)(d:rs[j]?=some r)(hx:RI 900 k T x):S4 (rs.set j x) a k T:=λe b=>by rw[c]at b;cases b;exact⟨x,Vl d,hx⟩
variable{B:List Zt->Zt->Prop}{T Z X V g:Nat}{R:List Zt}{c:Yn}{ds:List Yi}{rs:List Xj}{cs:List WS}{ss:List XZ}{ms:List UO}{ps:List Y8}{bs:List Zt}
theorem RV.put{k T}{d d'}{ds:List Yi}(a:ds[k]?=some d)(h:DI 900 (100000*T) d'):RV (ds.set k d') k T:=⟨d',Vl a,h⟩
theorem Wp.rep(h:Wp B T Z X V g R c ds rs cs ss ms ps bs){i j:Nat}{a}{r:Xj}(hi:c.2.2.2.2.2.1[i]?=some a)(l:a=some j):∃k d r,Z≠k/\(k=X\/k=V)/\ds[k]?=some d/\DI 900 (100000*T) d/\rs[j]?=some r/\RI 900 k T r/\∀T' d' x,T<=T'->DI 900 (100000*T') d'->RI 900 k T' x->Wp B T' Z X V g R c (ds.set k d') (rs.set j x) cs ss ms ps bs:=by
 obtain⟨n,o,p,w,y⟩:=h.rp;obtain⟨u,v,m⟩:=h.ne;have t:∀{k:Nat}{d':Yi},Z≠k->M6 B (ds.set k d') ps c.2.2.2.2.1 Z g R:=λ{k d'}A=>by obtain⟨d,C,z,D,E,F⟩:=h.pr;exact⟨d,C,z,by rw[ED (Iy A)];exact D,E,F⟩
 rw[p]at hi;match i,hi with|0,hi=>have hi:n=a:=XD hi;subst hi;obtain⟨r,e,f⟩:=w j l;obtain⟨d,d1,d2⟩:=h.d1;refine⟨X,d,r,u,.inl rfl,d1,d2,e,f,λT' d' x b q s=>⟨h.cb.up b,h.dv,h.ne,RV.put d1 q,(h.d2.set m).up b,t u,⟨n,o,p,S4.put l e s,(y.set e f.1.1 (Iy m)).up b⟩,h.ni,h.cl,by have:=h.hg;omega⟩⟩|1,hi=>have hi:o=a:=XD hi;subst hi;obtain⟨r,e,f⟩:=y j l;obtain⟨d,d1,d2⟩:=h.d2;refine⟨V,d,r,v,.inr rfl,d1,d2,e,f,λT' d' x b q s=>⟨h.cb.up b,h.dv,h.ne,(h.d1.set (Iy m)).up b,RV.put d1 q,t v,⟨n,o,p,(w.set e f.1.1 m).up b,S4.put l e s⟩,h.ni,h.cl,by have:=h.hg;omega⟩⟩|i+2,hi=>cases hi
theorem Zg9{c}{i}(h:c.2.2.2.2.2.1.length=2):W (lH c i) λa=>a=none\/∃k:Nat,i=k/\k<2/\c.2.2.2.2.2.1[k]?=some a:=by refine Yu (λb=>b=false->0<=i/\i<2) (λ_=>J λd=>by cases d) (λg=>J λd=>Zm) λb f=>Zp ⟨λ_=>J (.inl rfl),λg=>?_⟩;·have:=f g;refine Xo ⟨XA,Zj (YF ⟨Y,λa e=>J (.inr ⟨i.toNat,Y,Y,e⟩)⟩)⟩
theorem Wp.rl(h:Wp B T Z X V g R c ds rs cs ss ms ps bs):c.2.2.2.2.2.1.length=2:=by obtain⟨b,d,a,-⟩:=h.rp;rw[a];rfl
theorem ZiT{i}(h:Wp B T Z X V g R c ds rs cs ss ms ps bs)(K:T<=1000):W (uC c rs bs i) λo=>Wp B (T+1) Z X V g R o.1 ds o.2.1 cs ss ms ps o.2.2.1/\o.1.2.2.2.2.1=c.2.2.2.2.1:=by
 obtain⟨-,y,⟨w,x⟩,-⟩:=id h.cb;unfold uC;refine Zj ((Zg9 h.rl).mono λm v=>?_);rcases wV m with rfl|⟨N,d⟩;·rw[Cs rfl];exact J ⟨h.up Y,rfl⟩
 obtain⟨P,s,H,t⟩:=v.resolve_left (by rw[d];simp);obtain⟨O,n,r,-,-,p,q,k,D,u⟩:=h.rep (r:=(default:Xj)) t d;rw[Th d,gt k,s,wS Y];refine Zj ((uk w Y Y x ⟨y.1,Y⟩).mono λQ M=>?_);rw[Th d,gt k];refine Zj ((ZhB D Y).mono λE f=>?_);have e:=u (T+1) n E.1 Y (q.le Y) f.1;rw[<-P9 p]at e;refine Yu (λo=>∃a b,o.2.1=wN c a/\o.1=bs++b/\NI a (bs++b)) (λ_=>Zj ((I2 h.ni Y f.2).mono λS z=>J ?_)) (λ_=>J ⟨nt c,[],rfl,Zb,by simpa using h.ni⟩) λo⟨a,b,j,A,C⟩=>Zj (DZ.mono λI _=>J ?_);·obtain⟨a,b,F,l,G⟩:=z.1;exact⟨a,b,F,l,by rw[<-l];exact G⟩
 ·refine⟨?_,by show o.2.1.2.2.2.2.1=_;rw[j];rfl⟩;rw[j,A];exact e.P0 C
end Go.R
namespace Go.R
open Go.Sl
theorem ii(n i):YI (List.replicate n Uf) i=List.replicate 128 0#8:=by
 unfold YI;have:(List.replicate n Uf).getD i Uf=Uf:=by rw[Rf,dN];split<;>rfl
 simp_all
theorem dA(i):(List.replicate 128 0#8).getD i 0#8=0#8:=by rw[Rf,dN];split<;>rfl
theorem cZ:Sd (List.replicate 900 Uf) 0 1 [] 0 1#32:=by
 refine⟨⟨λa=>(a rfl).elim,λ_=>rfl,λd _ _ i c e=>?_⟩,⟨rfl,rfl⟩,eA (oX _) λ_=>?_,oX _,Y,λd _ _=>?_⟩;·rw[ii]at c;obtain⟨j,a,-,f⟩:=Zff (b:=List.replicate 128 0#8) Zb;rw[c]at a;cases a;obtain⟨g,h⟩:=f e;refine(g ?_).elim;rw[h,yF Zb];rfl
 ·rw[ii];exact⟨Zm,Zb,YP⟩
 ·rw[ii];exact⟨λd _=>⟨dA _,dA _⟩,YP,by rw[dA];decide⟩
theorem ZqH{k}{ds}{rs}{d}{WG}{a b}(m:ds[k]?=some d)(g:DI 900 0 d)(z:WG.length<=100000)(l:d.2.2.2.1<0)(j:d.2.2.2.2=false)(i:Sd d.1 0 1 [] 0 1#32):W (C7 ds rs (some k) WG a b) λo=>o.2.2.2=0:=by
 unfold C7;refine Zj ((eY m g Y Y Y).mono λv p=>?_);obtain⟨y,A,B,C,D,E,F,-,t⟩:=p;obtain⟨u,w,G,H,x⟩:=t 0 [] 0 1#32 rfl Y (MR (by have:=g.2.2.2;omega)) l j i;refine Zp ⟨λc=>by rw[u]at c;simp only[Wx]at c,λ_=>Xa ⟨by simp only[Wx];omega,?_⟩⟩;rw[show JM (Zn 32 0#8)=some (Zn 32 0#8,[],[],[],[])from rfl,bs,w];have n:W (C8 []) λo=>o.1.1=false/\o.2.1=0/\o.2.2=true:=by unfold C8;refine Wo (W.Vy (λe=>e.1=0/\e.2.1=0/\e.2.2.2.2.1=false) (λe=>e.1=0/\e.2.2.2.2.1=false) (λe=>0) (λ_=>False) ⟨rfl,rfl,rfl⟩ Zb (λe f=>Zp ⟨λc=>?_,λ_=>J ⟨f.1,f.2.2⟩⟩) (λe f=>J ⟨f.2,f.1,rfl⟩) λ_ h=>h.elim);simp_all
 refine Zj (n.mono λo⟨q,r,s⟩=>Zp ⟨λc=>by rw[s]at c;simp only[Wx]at c,λ_=>Zp ⟨λc=>(by rw[q]at c;cases c),λ_=>Zp ⟨λc=>by rw[r]at c;simp only[Wx,Vf]at c;omega,λ_=>?_⟩⟩⟩);·rw[Th x,be Nx];exact J rfl
theorem zh{w}{m}{f}{Q}(x:f≠4/\¬(9<=f/\f<=13)/\f≠16/\0<=f/\f<=15)(o:f=0->W (OP w m.2.1) Q)(h1:f=1->W (OP w m.2.2.1) Q)(h2:f=2->W (OP w m.2.2.2.1) Q)(r:f=3->W (OP w m.2.2.2.2.1) Q)(s:f=5->W (sY w m.2.2.2.2.2.2.1) Q)(t:f=6->W (Hz w m.2.2.2.2.2.2.2.1) Q)(u:f=7->W (Hz w m.2.2.2.2.2.2.2.2.1) Q)(v:f=8->W (FI w m.2.2.2.2.2.2.2.2.2.1) Q)(p:f=14->W (yb w m.2.2.2.2.2.2.2.2.2.2.2.2.2.2.2.1) Q)(q:f=15->W (yc w m.2.2.2.2.2.2.2.2.2.2.2.2.2.2.2.2.1) Q):W (FX w m f) Q:=by have c:∀{j:Option ZO},W j Q->W (O j λd=>some (d,m)) λk=>Q k.1:=λh=>Zj (h.mono λd z=>J z);refine W.ZV _ ?_ λk y=>J y;have b:∀{l d:Int}{i:Prop},Zs l d=true->(l=d->i)->i:=λa h=>h (by rwa[Ri]at a);obtain⟨n,g,B,-,A⟩:=id x;refine Zp ⟨λa=>c (b a o),λC=>jn (λa=>c (b a h1)) λD=>jn (λa=>c (b a h2)) λG=>jn (λa=>c (b a r)) λH=>jn (λa=>b a λe=>(n e).elim) λ_=>jn (λa=>c (b a s)) λI=>jn (λa=>c (b a t)) λK=>jn (λa=>c (b a u)) λM=>jn (λa=>c (b a v)) λN=>jn Zm λ_=>jn (λa=>b a λe=>(g Y).elim) λ_=>jn (λa=>b a λe=>(g Y).elim) λ_=>jn Zm λ_=>jn (λa=>b a λe=>(g Y).elim) λ_=>jn (λa=>c (b a p)) λE=>jn (λa=>c (b a q)) λF=>?_⟩;grind
theorem Zcj{l}{x}(c:0<=x)(h1:x<2147483648)(e:l.length<=1000000):OP (l,false) x=some (l++w4 (Z6 32 x),false):=by refine Vo (Yu (λa=>a=false) (λb=>Zm) (λb=>J<|Zm) λa d=>Zp ⟨Zm,λ_=>by rw[be (OW Y)];exact J rfl⟩)
theorem Zkl{l}{s}{b}(h:Li s.1=some (b,0))(a:b.length<=100)(hs:s.2.length<=8192)(c:l.length<=1000000):FI (l,false) s=some (l++b++OT s.2,false):=by unfold FI;rw[be h];refine Vo (Zp ⟨Zb,λ_=>?_⟩);rw[be (Gp Zm),be (di Zm hs)];exact J rfl
theorem Zre{l}(d:l.length<=1000000):W (yb (l,false) []) λr=>r=(l++Y6 (BitVec.ofInt 64 (0:Nat)) 2,false):=by have:=dg (l:=l) (n:=0) Y Zb;change W (O (OX _ (0:Nat)) _) _;rw[be this];refine Zj (W.lp (λa=>a=(0,(l++Y6 _ 2,false))) (λ_=>0) rfl Zb (λa b=>Zp ⟨λc=>?_,λ_=>J b⟩) λa b=>J Zm);grind
theorem ZlC{l}(d:l.length<=1000000):W (yc (l,false) []) λr=>r=(l++Y6 (BitVec.ofInt 64 (0:Nat)) 2,false):=by have:=dg (l:=l) (n:=0) Y Zb;change W (O (OX _ (0:Nat)) _) _;rw[be this];refine Zj (W.lp (λb=>b=(0,(l++Y6 _ 2,false))) (λ_=>0) rfl Zb (λb a=>Zp ⟨λc=>?_,λ_=>J a⟩) λb a=>J (by rw[a]));grind
theorem ZjM:z8 5=some [0,1,8,14,15]:=by exact Vo (Zp ⟨Zb,λ_=>Zp ⟨Zb,λ_=>Zp ⟨Zb,λ_=>Zp ⟨Zb,λ_=>Zp ⟨λ_=>J rfl,Zb⟩⟩⟩⟩⟩)
theorem ZgH{m}{b}(B:m.1=5)(h1:0<=m.2.1/\m.2.1<2147483648)(h2:0<=m.2.2.1/\m.2.2.1<2147483648)(A:Li m.2.2.2.2.2.2.2.2.2.1.1=some (b,0))(y:b.length<=100)(hs:m.2.2.2.2.2.2.2.2.2.1.2.length<=5000)(f:m.2.2.2.2.2.2.2.2.2.2.2.2.2.2.2.1=[])(C:m.2.2.2.2.2.2.2.2.2.2.2.2.2.2.2.2.1=[]):W (Hx m) λo=>o.2=0/\o.1.length<=20000:=by
 unfold Hx;rw[B,be ZjM];refine Zp ⟨λi=>by simp[yk]at i,λ_=>?_⟩;rw[be (dk (x:=5) (k:=5#8) rfl Zb)];refine Zj (W.UQ (λe=>∃(c:Nat)(d:Zt),e.1=c/\c<=5/\e.2.1=m/\e.2.2=(d,false)/\d.length<=1+6000*(if c<=2then 0 else 1)+4*c) (λe=>∃d:Zt,e.2.2=(d,false)/\d.length<=20000) (λe=>(5-e.1).toNat) ⟨0,_,rfl,Y,rfl,rfl,Zb⟩ Zw (λe r=>?_) λe r=>?_)
 ·obtain⟨M,h,N⟩:=e;obtain⟨c,d,l,s,t,u,g⟩:=r;dsimp only at l t u;subst l t u;have K:d.length<=7000:=by split at g<;>omega
  refine Zp ⟨λi=>?_,λ_=>J ⟨d,rfl,Y⟩⟩;simp only[Wx,WA,Vf]at i;have I:c<5:=Y;rw[wS Zw];have j:∀(q:Int)(H:ZO->Prop),([0,1,8,14,15]:List Int)[c]?=some q->W (FX (d,false) h q) (λp=>∃n,p=(n,false)/\n.length<=1+6000*(if c+1<=2then 0 else 1)+4*(c+1))->W (O (ZA ([0,1,8,14,15]:List Int) (c:Int)) λv=>O (CE h v) λF=>Zc F (some (.brk ((c:Int),h,(d,false)))) (O (FX (d,false) h v) λG=>some (.next ((c:Int)+1,h,G)))) (LQ (λe:Int×YN×ZO=>∃(c:Nat)(d:Zt),e.1=c/\c<=5/\e.2.1=h/\e.2.2=(d,false)/\d.length<=1+6000*(if c<=2then 0 else 1)+4*c) (λe=>(5-e.1).toNat) (5-(c:Int)).toNat (λe=>∃d:Zt,e.2.2=(d,false)/\d.length<=20000) λ_:Empty=>True):=λq _ z w=>by rw[be (Sz (Oi _) (by rw[Vz];exact z))];refine Zj (eB.mono λP _=>Zp ⟨λ_=>J ⟨d,rfl,Y⟩,λ_=>Zj (w.mono λp f=>J ?_)⟩);obtain⟨n,D,E⟩:=f;exact⟨⟨c+1,n,rfl,Y,rfl,D,E⟩,Zw⟩
  rcases(by omega:c=0\/c=1\/c=2\/c=3\/c=4)with rfl|rfl|rfl|rfl|rfl;·refine j 0 (λ_=>True) rfl (zh Y (λ_=>?_) (λa=>Y) (λa=>Y) (λa=>Y) (λa=>Y) (λa=>Y) (λa=>Y) (λa=>Y) (λa=>Y) λa=>Y);rw[Zcj h1.1 h1.2 Y];exact J ⟨_,rfl,by rw[Yw,WW];simpa using g⟩
  ·refine j 1 (λ_=>True) rfl (zh Y (λa=>Y) (λ_=>?_) (λa=>Y) (λa=>Y) (λa=>Y) (λa=>Y) (λa=>Y) (λa=>Y) (λa=>Y) λa=>Y);rw[Zcj h2.1 h2.2 Y];refine J ⟨_,rfl,?_⟩;rw[Yw,WW];simp at g⊢;omega
  ·refine j 8 (λ_=>True) rfl (zh Y (λa=>Y) (λa=>Y) (λa=>Y) (λa=>Y) (λa=>Y) (λa=>Y) (λa=>Y) (λ_=>?_) (λa=>Y) λa=>Y);rw[Zkl A y Y Y];refine J ⟨_,rfl,?_⟩;rw[Yw,Yw,xH];simp at g⊢;omega
  ·refine j 14 (λ_=>True) rfl (zh Y (λa=>Y) (λa=>Y) (λa=>Y) (λa=>Y) (λa=>Y) (λa=>Y) (λa=>Y) (λa=>Y) (λ_=>?_) λa=>Y);rw[f];refine(Zre Y).mono λp f=>⟨_,f,?_⟩;rw[Yw,WY];simp at g⊢;omega
  ·refine j 15 (λ_=>True) rfl (zh Y (λa=>Y) (λa=>Y) (λa=>Y) (λa=>Y) (λa=>Y) (λa=>Y) (λa=>Y) (λa=>Y) (λa=>Y) λ_=>?_);rw[C];refine(ZlC Y).mono λp f=>⟨_,f,?_⟩;rw[Yw,WY];simp at g⊢;omega
 ·obtain⟨d,l,s⟩:=r;rw[l,be (Iq Y)];exact Zp ⟨λi=>by simp only[Wx]at i,λ_=>J ⟨rfl,s⟩⟩
theorem ZrM{h}:W (OF (h,[],[],[],[]) []) λr=>r.2=0/\r.1.2.1=[]:=by
 unfold OF;refine Zp ⟨Zb,λ_=>Wo (W.Vy (λa=>a=([],0)) (λa=>a=([],0)) (λ_=>0) (λ_=>False) rfl Zb (λa b=>Zp ⟨λd=>Zm,λ_=>J b⟩) (λa b=>?_) λ_ e=>e.elim)⟩
 ·subst b;have c:W (Lf (h,[],[],[],[]) (Zk (Zu (Ze (Zf ([]:List uJ))) 1)) []) λd=>d.2=true/\d.1=([],[]):=by unfold Lf;refine Wo (W.Vy (λa=>a.1=0/\a.2.2.1=([],[])) (λa=>a.2.2.1=([],[])) (λ_=>0) (λ_=>False) ⟨rfl,rfl⟩ Zb (λa b=>Zp ⟨λd=>?_,λ_=>J b.2⟩) (λa b=>J ⟨rfl,b⟩) λ_ e=>e.elim);grind
  refine Zj (c.mono λd c=>Zp ⟨λf=>by rw[c.1]at f;simp only[Wx]at f,λ_=>?_⟩);rw[show ND ([]:Vj)=some _ from rfl,bs];have g:W (Fz (h,[],[],[],[]) []) λi=>i=((h,[],[],[],[]),-1,0):=by unfold Fz;rw[show D5 (h,[],[],[],[])=some (-1)by unfold D5;exact Vo (Zp ⟨λ_=>J rfl,Zb⟩),bs];refine Wo (W.Vy (λa=>a=(-1,0,(h,[],[],[],[]))) (λa=>a=(-1,0,(h,[],[],[],[]))) (λ_=>0) (λ_=>False) rfl Zb (λa b=>Zp ⟨λd=>?_,λ_=>J b⟩) (λa b=>J (by rw[b])) λ_ e=>e.elim);grind
  refine Zj (g.mono λi g=>?_);subst g;refine Zp ⟨λf=>by simp only[Wx]at f,λ_=>Zj ((uo GR (by show(-1:Int)<=-1;omega) Zb (by rw[c.2];rfl) (by rw[c.2];simp) (by rw[c.2];exact⟨Zb,Zb⟩) (by rw[c.2];simp) Zb).mono λr j=>J ⟨rfl,?_⟩)⟩;grind
theorem Zrf{s}{e}(h:Vt s)(g:s.2.1=[]):W (D4 s e) λr=>r=[]:=by
 have n:=h.2.1;unfold D4;refine Zj (zx.mono λj k=>Zp ⟨λ_=>J rfl,λd=>?_⟩);have o:=k.1 (by simpa only[Wx]using d);rw[show Zk (ZU e 1)=e-1by simp only[Wx];rw[ZK Y]];refine Xo ⟨by simp only[Wx];omega,Zj (YF ⟨Y,λt p=>Xo ⟨by simp only[Wx];omega,Zj (YF ⟨Y,λu q=>?_⟩)⟩⟩)⟩;rw[g];unfold uM;refine Zj (Zj (He.mono λr _=>Uu (λ_=>J trivial) (λ_=>J trivial) λj=>Zp ⟨λ_=>J (J rfl),λ_=>Zj ((Zck (f:=[]) (by have:=h.1;rwa[g]at this)).mono λb l=>?_)⟩));have m:b=[]:=by cases b with|nil=>rfl|cons i b=>have:=l.2 i Zb;simp at this;omega
 subst m;rw[show Ga []=some []by unfold Ga;simp,bs];refine Zj (W.lp (λc=>c=([],0)) (λ_=>0) rfl Zb (λc a=>Zp ⟨λd=>?_,λ_=>J a⟩) λc a=>J (J (by rw[a])));grind
def QP(c:Yn)(a:Option Nat):Yn:=(c.1,c.2.1,c.2.2.1,c.2.2.2.1,a,c.2.2.2.2.2)
def Lx(c:Yn)(l:List (Option Nat)):Yn:=(c.1,c.2.1,c.2.2.1,c.2.2.2.1,c.2.2.2.2.1,l,c.2.2.2.2.2.2)
theorem ZgG:iF=some 0:=rfl
theorem Zcr{C k}{c}{ds}{rs}{ps}{d}(Q:ds[k]?=some d)(M:DI 900 C d)(hC:C<80000000)(hv:c.2.2.2.1[0]?=some (some k))(K:c.1=R5)(hs:(sl c).length<=1000000):W (Kd c ds rs ps 0) λo=>∃d' a b,o.1=RG (QP c a) (sl c++b)/\b.length<=8-(sl c).length/\o.2.1=ds.set k d'/\o.2.2.1=rs/\DI 900 (C+1) d'/\(o.2.2.2.1=ps/\a=none/\¬o.2.2.2.2=0\/∃p,o.2.2.2.1=ps++[p]/\a=some ps.length/\o.2.2.2.2=0/\PI SR p/\VW 900 k p.1/\p.2.2.2.2.2=([],0))/\(d.2.2.2.1<0->d.2.2.2.2=false->d'.2.2.2=d.2.2.2)/\∀g R n m,g<250->d.2.2.1=[]->d.2.2.2.1<0->d.2.2.2.2=false->Sd d.1 g (g+1) R n m->d'.2.2.1=[]/\Sd d'.1 (g+1) (g+1) R n m/\(∀p,o.2.2.2.1=ps++[p]->p.1=Io k (g+1) n false/\Td (s0 Ug) R (U7 p))/\∀s',NX (s0 Ug) R s'->o.2.2.2.2=0:=by
 have X:=(Wm hv).1;unfold Kd;refine Zp ⟨λ_=>Xo ⟨by simp only[Wx];omega,?_⟩,λg=>by rw[Ha]at g;exact absurd rfl g⟩;rw[be (Sz (i:=0) Y hv),show c.1.2.2.2.2.2=(1,2,3,Ug)by rw[K];rfl];refine Zj ((Zmd (seed:=Ug) Q M Y Y Y).mono λo⟨d',D,E,S,F,G⟩=>?_);have B:∀(h:Nat),h<=8->W (YK (λ(e:Yn)=>Zc (Zz (Ze (Zf e.2.2.2.2.2.2.2.2.2.2.2)) (h:Int)) (Yp (Zf e.2.2.2.2.2.2.2.2.2.2.2) (Zf [e.2.1]) (some (LR.next (ρ:=Empty) (e.1,e.2.1,e.2.2.1,e.2.2.2.1,e.2.2.2.2.1,e.2.2.2.2.2.1,e.2.2.2.2.2.2.1,e.2.2.2.2.2.2.2.1,e.2.2.2.2.2.2.2.2.1,e.2.2.2.2.2.2.2.2.2.1,e.2.2.2.2.2.2.2.2.2.2.1,Z9 e.2.2.2.2.2.2.2.2.2.2.2 [e.2.1])))) (some (.brk e))) (QP c o.2.2.1)) λf=>∃b,f=RG (QP c o.2.2.1) (sl c++b)/\b.length<=8-(sl c).length:=λh V=>by
  refine W.lp (λf=>∃b,f=RG (QP c o.2.2.1) (sl c++b)/\b.length<=8-(sl c).length) (λf=>8-(sl f).length) ⟨[],by rw[Xp];rfl,Zb⟩ Y (λf w=>?_) λf w=>w;obtain⟨b,rfl,I⟩:=w;refine Zp ⟨λg=>?_,λ_=>J ⟨b,rfl,I⟩⟩;have g:(sl c++b).length<h:=by have:Zz (((sl c++b).length:Nat):Int) (h:Int)=true:=g;simp only[Wx]at this;omega
  rw[Yw]at g;refine Xa ⟨by show(sl c++b).length+1<=_;rw[Yw];omega,J ⟨⟨b++[c.2.1],?_,WI⟩,?_⟩⟩;·show RG (QP c o.2.2.1) (sl c++b++[c.2.1])=_;rw[Z5]
  ·show 8-(sl c++b++[c.2.1]).length<8-(sl c++b).length;simp only[Yw,V9];omega
 rcases S with⟨l,j,x⟩|⟨p,l,j,x,y,T,U⟩
 ·refine Zj (W.mono (P:=λf=>∃b,f=RG (QP c o.2.2.1) (sl c++b)/\b.length<=8-(sl c).length) ?_ λf⟨b,z,A⟩=>?_);·have:=B 0 Y;rw[j]at this⊢;simp only[KJ,ZgG,bs];exact this
  ·refine J ⟨d',o.2.2.1,b,z,A,D,rfl,E,.inl ⟨l,j,x⟩,F,λg R n m q r s t u=>G g R n m rfl q r s t u⟩
 ·refine Zj (W.mono (P:=λf=>∃b,f=RG (QP c o.2.2.1) (sl c++b)/\b.length<=8-(sl c).length) ?_ λf⟨b,z,A⟩=>?_);·have:=B p.2.2.1.2.2.1.length (by have:=y.2.2.2.1;have:=y.2.2.1;omega);have N:∀{H:Type}{v:Y8->Option H},O (ZA o.2.1 (Ze ps.length)) v=v p:=λ{H v}=>gt (by rw[l];simp);rw[j]at this⊢;simp only[KJ,N,P5,bs];exact this
  ·refine J ⟨d',o.2.2.1,b,z,A,D,rfl,E,.inr ⟨p,l,j,x,y,T,U⟩,F,λg R n m q r s t u=>G g R n m rfl q r s t u⟩
theorem Zct{C k i}{c}{ds}{rs}{ps}{d}(hi:i=0\/i=1)(f:ds[k]?=some d)(e:DI 900 C d)(hC:C<80000000)(hv:c.2.2.2.1[i+1]?=some (some k))(n:c.2.2.2.2.2.1.length=2)(u:c.2.2.2.2.2.2.2.1.length<=1000):W (Kd c ds rs ps (i+1:Nat)) λo=>∃d' a,o.1=Lx c (c.2.2.2.2.2.1.set i a)/\o.2.1=ds.set k d'/\o.2.2.2.1=ps/\DI 900 (C+6000) d'/\(o.2.2.1=rs/\a=none\/∃r,o.2.2.1=rs++[r]/\a=some rs.length/\RI 900 k 0 r)/\(C=0->d.2.2.2.1<0->d.2.2.2.2=false->Sd d.1 0 1 [] 0 1#32->o.2.2.2.2=0):=by
 have v:=(Wm hv).1;unfold Kd;refine Zp ⟨λg=>by rw[Ri]at g;omega,λ_=>Xo ⟨by simp only[Wx];omega,?_⟩⟩;rw[be (Sz Y (by rw[Vz];exact hv))];refine Zj ((ZqI (rs:=rs) (a:=0) f e Y Y Y Y).self.mono λo⟨x,d',p,q,s⟩=>?_);rw[show Zk _=(i:Int)by simp only[Wx];rw[ZK Y];omega];refine Xo ⟨by simp only[Wx];rw[n];omega,J ⟨d',o.2.2.1,?_,p,rfl,q,s,λh j l m=>?_⟩⟩;·show Lx c _=_;rw[show Yf (i:Int)=i from Vz i]
 ·subst h;obtain⟨w,t,y⟩:=ZqH (rs:=rs) (WG:=c.2.2.2.2.2.2.2.1) (a:=0) (b:=((i+1:Nat):Int)) f e Y j l m;grind
variable{B:List Zt->Zt->Prop}{T Z X V g:Nat}{R:List Zt}{c:Yn}{ds:List Yi}{rs:List Xj}{cs:List WS}{ss:List XZ}{ms:List UO}{ps:List Y8}{bs:List Zt}
theorem Zhn{m}:W (iG m) λo=>o.2=false:=⟨_,rfl,rfl⟩
theorem Zhg{m}:qm m=some []:=rfl
theorem ZeJ{c}{bs}{l}(h:NI (nt c) bs)(C:l.length<=100)(s:∀m∈l,MO m):W (YK (λb=>Zc (Zz b.1 (Ze (Zf l))) (O (ZA l b.1) λw=>O (La b.2.2 b.2.1 w) λf=>some (LR.next (Zk (Zu b.1 1),f.2,f.1))) (some (.brk b))) (0,bs,c)) λu=>∃n x,u.2.2=wN c n/\u.2.1=bs++x/\NI n (bs++x)/\(l=[]->u=(0,bs,c)):=by refine W.lp (λu=>∃(a:Nat)(n:Nj)(x:List Zt),u.1=a/\a<=l.length/\u.2.2=wN c n/\u.2.1=bs++x/\NI n (bs++x)/\(l=[]->u=(0,bs,c))) (λu=>(l.length-u.1).toNat) ⟨0,nt c,[],rfl,Y,rfl,Zb,by simpa using h,λ_=>rfl⟩ Y (λu d=>?_) λu⟨a,n,x,d⟩=>⟨n,x,d.2.2⟩;obtain⟨D,E,F⟩:=u;obtain⟨a,n,x,k,o,p,q,e,r⟩:=d;subst k p q;refine Zp ⟨λg=>?_,λ_=>J ⟨a,n,x,rfl,o,rfl,rfl,e,r⟩⟩;simp only[Wx]at g;refine Zj (YF ⟨Y,λm t=>?_⟩);rw[wS Y];refine Zj ((uF (c:=wN c n) e (s m (X6 t))).mono λG⟨v,y,z,i,j⟩=>J ?_);rw[i,Z5]at j;refine⟨⟨a+1,v,x++y,rfl,Y,by rw[z];rfl,by rw[i,Z5],j,λA=>?_⟩,Zw⟩;simp_all
theorem Zsq{m}(h:Wp B T Z X V g R c ds rs cs ss ms ps bs)(z:Q9 m):W (uB c ps bs m) λo=>Wp B T Z X V g R o.1 ds rs cs ss ms o.2.1 o.2.2/\VV R c ps R o.1 o.2.1:=by
 unfold uB;rcases wV c.2.2.2.2.1with a|⟨k,a⟩;·rw[Cs a];refine Zj (Zhn.mono λb q=>?_);rw[q,Wi,Go.R.bs];dsimp only;rw[Cs a,Zhg,Go.R.bs];refine Zj ((ZeJ h.ni Zb Zb).mono λD r=>J ?_);obtain⟨d,j,f,u,w,-⟩:=r;exact⟨by rw[f,u];exact h.P0 w,VV.same (by rw[f];rfl)⟩
 ·rw[Th a,Th a];obtain⟨x0,d,fd,q1,q2,I⟩:=id h.pr;obtain⟨p,e,r2,K,r4⟩:=I k a;rw[gt e];refine Zj ((Zmh K z).mono λb q=>?_);obtain⟨t,M,-,N,-⟩:=q;have l:b.1.1=p.1/\b.1.2.2.1=p.2.2.1/\b.1.2.2.2.1=p.2.2.2.1/\(YD Ug R p->YD Ug R b.1):=by
   rcases M with n|⟨U,n⟩;·rw[n];exact⟨rfl,rfl,rfl,id⟩
   ·rw[n];exact⟨rfl,rfl,rfl,λs=>s⟩
  refine Yu (λo=>∃d j,o.2.1=wN c d/\o.1=bs++j/\NI d (bs++j)) (λ_=>Zj ((uF h.ni N).mono λx3⟨d,j,Q,E,S⟩=>J<|⟨d,j,Q,E,by rw[<-E];exact S⟩)) (λ_=>J ⟨nt c,[],rfl,Zb,by simpa using h.ni⟩) λo⟨G,x1,A,H,C⟩=>?_
  ·have y:=(h.qj (h.pr.put a e l.1 t l.2.2.2)).P0 C;have x:o.2.1.2.2.2.2.1=some k:=by rw[A];exact a
   rw[Th x,Th x,gt (Vl e)];refine Zj ((Zmf t z).mono λv F=>?_);obtain⟨⟨sg,O,i⟩,P,v4,-⟩:=F;rw[A,H];refine Zj ((ZeJ (c:=wN c G) C Y P).mono λD r=>J ?_);obtain⟨n2,x2,f,u,w,-⟩:=r;refine⟨by rw[f,u];exact(y.qj (y.pr.put (p:=b.1) a (Vl e) (by rw[i]) (by rw[i];exact⟨O,t.2⟩) λs=>by rw[i];exact s)).P0 w,?_⟩;show VV R c ps R D.2.2 (List.set (List.set ps k b.1) k v.1);rw[Sa];exact VV.put (by rw[f];rfl) a e ⟨[],Zb⟩ ⟨[],[],by rw[i];show b.1.2.2.1.2.2.1=_;rw[l.2.1];simp,by rw[i];show b.1.2.2.2.1=_;rw[l.2.2.1];simp⟩
theorem Zsr{m}{c}{bs}(h:NI (nt c) bs):W (lL c bs m) λo=>∃n x,o.1=wN c n/\o.2=bs++x/\NI n (bs++x):=by have a:∃n x,c=wN c n/\bs=bs++x/\NI n (bs++x):=⟨nt c,[],rfl,Zb,XA⟩;refine Zp ⟨λ_=>Zj (W.mono ⟨_,rfl,RY Zb⟩ λi b=>Yu _ (λ_=>Zj ((uF h b).mono λj⟨n,x,e,f,k⟩=>J ⟨n,x,e,f,XA⟩)) (λ_=>J a) λo d=>J d),λ_=>Zj (W.mono (P:=λ_=>True) ⟨_,rfl,Zb⟩ λ_ _=>J a)⟩
theorem Zi2{i}(h:Wp B T Z X V g R c ds rs cs ss ms ps bs)(hT:T<=400):W (ux c ds rs cs ss ms ps bs i) λo=>Wp B (T+1) Z X V g R o.1 o.2.1 o.2.2.1 o.2.2.2.1 o.2.2.2.2.1 o.2.2.2.2.2.1 o.2.2.2.2.2.2.1 o.2.2.2.2.2.2.2.1/\VV R c ps R o.1 o.2.2.2.2.2.2.1:=by
 unfold ux;refine Zj ((Zhr (i:=i) h.ni).mono λy w=>?_);obtain⟨D,w⟩:=w;rcases w with⟨z,f,-⟩|⟨z,f,E,-,j,x9,b,-,t6,-,t8,t9⟩;·refine Zp ⟨λ_=>J ?_,λg=>by rw[z]at g;simp only[Wx]at g⟩;dsimp only;rw[f,D];exact⟨h.up Y,VV.same rfl⟩
 refine Zp ⟨λg=>by rw[z]at g;simp only[Wx]at g,λ_=>?_⟩;have hb:=h.ni.2.2 b (X6 t8);have a:Wp B T Z X V g R y.1 ds rs cs ss ms ps bs:=by rw[f]at E⊢;exact h.P0 E
 rw[D,t9];refine Zj ((ZgF (b:=b) Y).mono λo ho=>Zp ⟨λ_=>J ⟨a.up Y,VV.same (by rw[f];rfl)⟩,λgq=>?_⟩);have u:=ho (by simpa only[Wx]using gq);have k:=a.rl;refine Zp ⟨λ_=>Zj ((Zsq a u).mono λe v=>J ⟨v.1.up Y,?_⟩),λq=>Zp ⟨λs=>?_,λs=>?_⟩⟩
 ·refine⟨v.2.1,λj' p' n p=>?_⟩;rcases v.2.2 j' p' n p with x6|⟨i,p1,F,G,y1,y2,y3,y4⟩;·exact .inl x6
  ·exact .inr ⟨i,p1,F,G,by rwa[f]at y1,y2,y3,y4⟩
 ·rw[Ha]at q;have s:j.1<=2:=by have:YH j.1 (Ze (Zf y.1.2.2.2.2.2.1))=true:=s;simp only[Wx]at this;rw[k]at this;omega
  have q:¬j.1=0:=q;dsimp only;rw[show Zk (ZU j.1 1)=j.1-1by simp only[Wx];rw[ZK Y]];refine Xo ⟨by simp only[Wx];rw[k];omega,Zj (YF ⟨by rw[k];omega,λH ha=>?_⟩)⟩;rcases wV H with rfl|⟨j2,t⟩;·rw[Cs rfl];refine Zj ((Zsr a.ni).mono λe⟨x3,x5,d,l,m⟩=>J ⟨?_,VV.same (by dsimp only;rw[d,f];rfl)⟩);dsimp only;rw[d,l];exact(a.up Y).P0 m
  ·rw[Th t,Th t];obtain⟨xk,x7,r,-,-,d1,d2,r1,r2,hR⟩:=a.rep (r:=(default:Xj)) ha t;rw[gt r1];refine Zj ((Zss r2 d1 d2 Y Y Y u a.ni).mono λe⟨P,x3,x5,d,l,m,x,A,C⟩=>J ⟨?_,VV.same (by rw[d,f];rfl)⟩);show Wp B (T+1) Z X V g R e.1 e.2.2.1 (rs.set j2 e.2.1) cs ss ms ps e.2.2.2;rw[d,m,A];rw[A]at C;exact(hR (T+1) P e.2.1 Y (x.le Y) (l.up Y)).P0 C
 ·obtain⟨-,hn,⟨x0,x1⟩,-,x8,-⟩:=id a.cb;refine Zj ((Zsp a.cl k x0 x1 ⟨hn.1,Y⟩ Y u).mono λe⟨x4,x2,d,l,m,x⟩=>J ⟨⟨?_,by rw[d];exact a.dv,a.ne,a.d1.up Y,a.d2.up Y,by rw[d];exact a.pr,?_,by rw[d];exact a.ni,x,by have:=a.hg;omega⟩,VV.same (by rw[d,f];rfl)⟩)
  ·obtain⟨I,K,M,N,c5,c6,O⟩:=a.cb.up (T':=T+1) Y;dsimp only;rw[d];refine⟨I,K,M,N,?_,?_,O⟩;·show(lk y.1++x2).length<=_;rw[Yw];omega
   ·show x4.length<=_;omega
  ·obtain⟨n,p,Q,S,U⟩:=(a.up (T':=T+1) Y).rp;exact⟨n,p,by rw[d];exact Q,S,U⟩
end Go.R
namespace Go.R
open Go.Sl
variable{B:List Zt->Zt->Prop}{T Z X V g:Nat}{R:List Zt}{c:Yn}{ds:List Yi}{rs:List Xj}{cs:List WS}{ss:List XZ}{ms:List UO}{ps:List Y8}{bs:List Zt}
theorem S4.app{a}{k T}{x}(h:S4 rs a k T):S4 (rs++x) a k T:=λf e=>by have⟨i,b,d⟩:=h f e;have:=(Wm b).1;exact⟨i,by rw[Uy this];exact b,d⟩
theorem ZjZ{o:Ke}(h:Wp B T Z X V g R c ds rs cs ss ms ps bs){k}{i:Nat}(hi:c.2.2.2.1[i]?=some (some k)):∃d,ds[k]?=some d/\∀d',(∀C,DI 900 C d->DI 900 C d')->d'.1=d.1->d'.2.2.1=d.2.2.1->Wp B T Z X V g R c (ds.set k d') rs cs ss ms ps bs:=by
 obtain⟨u,v,p⟩:=h.ne;have n:∀{k:Nat}{d':Yi},Z≠k->M6 B (ds.set k d') ps _ Z g R:=λ{k d'}r=>by obtain⟨d,l,j,e,w,m⟩:=h.pr;exact⟨d,l,j,by rw[ED (Iy r)];exact e,w,m⟩
 rw[h.dv]at hi;match i,hi with|0,hi=>obtain rfl:Z=k:=XD (XD hi);obtain⟨d,l,j,e,⟨x,⟨t,y⟩,⟨q,s,z,A⟩,D⟩,m⟩:=h.pr;refine⟨d,e,λd' a f b=>h.pri ⟨d',l,j,Vl e,⟨a _ x,⟨t,by rw[f];exact y⟩,⟨q,s,by rw[b];exact z,A⟩,by rw[b];exact D⟩,m⟩⟩|1,hi=>obtain rfl:X=k:=XD (XD hi);obtain⟨d,d1,d2⟩:=h.d1;exact⟨d,d1,λd' a f b=>⟨h.cb,h.dv,h.ne,RV.put d1 (a _ d2),h.d2.set p,n u,h.rp,h.ni,h.cl,h.hg⟩⟩|2,hi=>obtain rfl:V=k:=XD (XD hi);obtain⟨d,d1,d2⟩:=h.d2;exact⟨d,d1,λd' a f b=>⟨h.cb,h.dv,h.ne,h.d1.set (Iy p),RV.put d1 (a _ d2),n v,h.rp,h.ni,h.cl,h.hg⟩⟩|i+3,hi=>cases hi
theorem Zq7{cuts}(h:Wp B T Z X V g R c ds rs cs ss ms ps bs)(hT:T<=230):∃d,ds[Z]?=some d/\W (O (DY d cuts) λx2=>O (Kd c (Y3 ds Z x2) rs ps 0) λn=>some (n.1,n.2.1,n.2.2.1,n.2.2.2.1,n.2.2.2.2,D6)) λo=>∃a,Wp B (T+1) Z X V (g+1) a o.1 o.2.1 o.2.2.1 cs ss ms o.2.2.2.1 bs/\VV R c ps a o.1 o.2.2.2.1/\(a=R\/∃b,B R b/\a=R++[b])/\((∀s,NX (s0 Ug) a s->∃p,o.1.2.2.2.2.1=some ps.length/\o.2.2.2.1=ps++[p])/\∀j p,o.1.2.2.2.2.1=some j->o.2.2.2.1[j]?=some p->p.2.2.2.2.2=([],0)/\Td (s0 Ug) a (U7 p))/\(∀d,o.2.1[Z]?=some d->d.2.2.2=(-1,false)/\d.2.2.1=[])/\∃q,o.1=RG (QP c o.1.2.2.2.2.1) (sl c++q):=by
 obtain⟨d,x4,fd,v,Q,p3⟩:=id h.pr;have hg:=h.hg;refine⟨d,v,Zj ((bK Q.1 Y).mono λw⟨r1,x,r3⟩=>?_)⟩;obtain⟨a,t,m',H,I⟩:=Q.lV (d':=w) Y r3;have N:=h.cb;have x3:=N.2.2.2.2.2.2;have K:w.2.2.2.1=-1:=by rw[x]
 have M:w.2.2.2.2=false:=by rw[x]
 refine Zj ((Zcr (rs:=rs) (ps:=ps) (Vl v) r1 Y (by rw[h.dv];rfl) N.1 Y).mono λo⟨d',y,q,F,o2,o3,o4,o5,G,o7,o8⟩=>J ?_);obtain⟨S,v2,v3,v4⟩:=o8 g a t m' Y (by rw[x]) (by rw[K];decide) M H;have P:o.2.1=ds.set Z d':=by rw[o3];show List.set (List.set ds Z w) Z d'=_;rw[Sa]
 have hX:∃U,a=R++U:=by
  rcases I with C|⟨b,-,C⟩;·exact⟨[],by rw[C];simp⟩
  ·exact⟨[b],C⟩
 have r:o.1.2.2.2.2.1=y:=by rw[F];rfl
 have E:∀j p,y=some j->o.2.2.2.1[j]?=some p->PI SR p/\VM Z (g+1) t false p.1/\p.2.2.2.2.2=([],0)/\Td (s0 Ug) a (U7 p):=λj p f l=>by
  rcases G with⟨-,i,-⟩|⟨u,k,m,-,q4,-,q6⟩;·rw[i]at f;cases f
  ·rw[m]at f;cases f;rw[k]at l;have:u=p:=by simpa using l
   subst this;obtain⟨w1,w2⟩:=v3 u k;exact⟨q4,⟨t,w1,by have:=H.2.2.2.2.1;omega,λ_=>rfl⟩,q6,w2⟩
 have x1:M6 B (ds.set Z d') o.2.2.2.1 y Z (g+1) a:=by
  refine⟨d',t,false,Vl v,v2.pv o5 S,λj f=>?_⟩;rcases G with⟨-,i,-⟩|⟨p,k,m,-⟩;·rw[i]at f;cases f
  ·have x0:j=ps.length:=by rw[m]at f;exact(XD f).symm
   have l:o.2.2.2.1[j]?=some p:=by rw[k,x0];simp
   obtain⟨y1,y2,-,y3⟩:=E j p f l;exact⟨p,l,y2,y1,a,[],U7 p,Zb,y3,rfl,rfl,λ_=>⟨rfl,rfl⟩⟩
 refine⟨a,?_,⟨hX,λj' u z A=>.inl (E j' u (by rw[<-r];exact z) A).2.2.2⟩,I,⟨λs hs=>?_,λj p z A=>(E j p (by rw[<-r];exact z) A).2.2⟩,λd2 D=>?_,q,by rw[r];exact F⟩;·dsimp only;rw[P,o4,F];have e:=h.up (T':=T+1) Y;obtain⟨b1,b2,b3,b4,b5,b6,b7⟩:=e.cb;exact⟨⟨b1,b2,b3,b4,b5,b6,by show(sl c++q).length<=_;rw[Yw];omega⟩,e.dv,e.ne,e.d1.set e.ne.1,e.d2.set e.ne.2.1,x1,e.rp,e.ni,e.cl.up rfl (YG _) (YG _) λ_ i=>i,Y⟩
 ·rcases G with⟨-,-,i⟩|⟨p,k,m,-⟩;·exact(i (v4 s hs)).elim
  ·exact⟨p,by rw[<-m];exact r,k⟩
 ·dsimp only at D;rw[P,Vl v]at D;cases D;refine⟨?_,S⟩;rw[o7 (by rw[K];decide) M,x]
theorem ZeL{cuts}(h:Wp B T Z X V g R c ds rs cs ss ms ps bs)(hT:T<=1000){i k}(hi:i=0/\k=X\/i=1/\k=V):∃d,ds[k]?=some d/\W (O (DY d cuts) λx0=>O (Kd c (Y3 ds k x0) rs ps (i+1:Nat)) λm=>some (m.1,m.2.1,m.2.2.1,m.2.2.2.1,m.2.2.2.2,D6)) λo=>Wp B (T+1) Z X V g R o.1 o.2.1 o.2.2.1 cs ss ms o.2.2.2.1 bs/\o.2.2.2.1=ps/\∃l,o.1=Lx c l:=by
 obtain⟨N,P,u⟩:=h.ne;have a:=h.up (T':=T+1) Y;have t:∀{k:Nat}{f:Yi},Z≠k->M6 B (ds.set k f) ps c.2.2.2.2.1 Z g R:=λ{k f}G=>by obtain⟨d,M,E,U,p2,p3⟩:=h.pr;exact⟨d,M,E,by rw[ED (Iy G)];exact U,p2,p3⟩
 have⟨⟨d,d1,d2⟩,K,F⟩:RV ds k T/\c.2.2.2.1[i+1]?=some (some k)/\(i=0\/i=1):=by
  rcases hi with⟨rfl,rfl⟩|⟨rfl,rfl⟩;·exact⟨h.d1,by rw[h.dv];rfl,.inl rfl⟩
  ·exact⟨h.d2,by rw[h.dv];rfl,.inr rfl⟩
 refine⟨d,d1,Zj ((bK d2 Y).mono λp⟨r1,r2,r3⟩=>Zj ((Zct (rs:=rs) (ps:=ps) F (Vl d1) r1 Y K h.rl h.cb.2.2.2.1).mono λo H=>J ?_))⟩;obtain⟨f,b,v,Q,w,S,x,-⟩:=H;have I:o.2.1=ds.set k f:=by rw[Q];show List.set (List.set ds k p) k f=_;rw[Sa]
 refine⟨?_,w,_,v⟩;dsimp only;rw[I,w,v];obtain⟨y,z,e,q1,q2⟩:=a.rp;have q:DI 900 (100000*(T+1)) f:=S.le Y;have s:∀{b:Option Nat}{k:Nat},S4 rs b k (T+1)->S4 o.2.2.1 b k (T+1):=λ{b k}j=>by
  rcases x with⟨e,-⟩|⟨p,e,-⟩;·rw[e];exact j
  ·rw[e];exact j.app
 have r:S4 o.2.2.1 b k (T+1):=by
  intro x1 n;rcases x with⟨-,e⟩|⟨p,A,C,D⟩;·rw[e]at n;cases n
  ·rw[C]at n;cases n;exact⟨p,by rw[A];simp,D.up Y⟩
 rcases hi with⟨rfl,rfl⟩|⟨rfl,rfl⟩;·exact⟨a.cb,a.dv,a.ne,RV.put d1 q,a.d2.set u,t N,⟨b,z,by show c.2.2.2.2.2.1.set 0 b=_;rw[e];rfl,r,s q2⟩,a.ni,a.cl.up rfl (YG _) (YG _) λ_ j=>j,a.hg⟩
 ·exact⟨a.cb,a.dv,a.ne,a.d1.set (Iy u),RV.put d1 q,t P,⟨y,b,by show c.2.2.2.2.2.1.set 1 b=_;rw[e];rfl,s q1,r⟩,a.ni,a.cl.up rfl (YG _) (YG _) λ_ j=>j,a.hg⟩
end Go.R
namespace Go.R
open Go.Sl
variable{B:List Zt->Zt->Prop}{T V Z X g:Nat}{R:List Zt}{c:Yn}{ds:List Yi}{rs:List Xj}{cs:List WS}{ss:List XZ}{ms:List UO}{ps:List Y8}{bs:List Zt}
theorem Zng{o}(h:Wp B T V Z X g R c ds rs cs ss ms ps bs)(F:T<=230)(M:o.1=14\/o.1=15):W (uy c ds rs ps o) λr=>∃C m,Wp B (T+1) V Z X C m r.1 r.2.1 r.2.2.1 cs ss ms r.2.2.2.1 bs/\VV R c ps m r.1 r.2.2.2.1:=by
 unfold uy;have u:c.2.2.2.1.length=3:=by rw[h.dv];rfl
 refine Yu (λw=>w=false->0<=o.2.1/\o.2.1<3) (λ_=>J λn=>by cases n) (λs=>J λn=>?_) λw G=>Zp ⟨λ_=>J ⟨g,R,h.up Y,VV.same rfl⟩,λs=>?_⟩;·simp only[Wx]at s n;rw[u]at n;omega
 have x:=G s;obtain⟨i,z⟩:=Qo x.1;have K:i<3:=Y;obtain⟨k,a⟩:∃k,c.2.2.2.1[i]?=some (some k):=by
  rw[h.dv];rcases(by omega:i=0\/i=1\/i=2)with rfl|rfl|rfl;·exact⟨V,rfl⟩
  ·exact⟨Z,rfl⟩
  ·exact⟨X,rfl⟩
 have y:∀{A:Type}{q:Option Nat->Option A},O (ZA c.2.2.2.1 o.2.1) q=q (some k):=λ{A q}=>be (Sz x.1 (by rw[z,Vz];exact a));refine Zp ⟨λD=>Xo ⟨by simp only[Wx];rw[u];omega,?_⟩,λD=>Xo ⟨by simp only[Wx];rw[u];omega,?_⟩⟩;·rw[y,ko];obtain⟨e,b,d⟩:=ZjZ (o:=o) h a;rw[gt b];refine Zj (W.mono (P:=λf:Yi=>(∀p,DI 900 p e->DI 900 p f)/\f.1=e.1/\f.2.2.1=e.2.2.1) (J ⟨λp E=>E,rfl,rfl⟩) λf t=>J ⟨g,R,(d f t.1 t.2.1 t.2.2).up Y,VV.same rfl⟩)
 ·rw[y,ko,z];rcases(by omega:i=0\/i=1\/i=2)with rfl|rfl|rfl
  ·obtain⟨e,b,d⟩:=Zq7 (cuts:=o.2.2.2.2.2.2) h F;have:k=V:=by rw[h.dv]at a;exact(XD (XD a)).symm
   subst this;rw[gt b];refine d.mono λr H=>?_;obtain⟨m,j,l,-⟩:=H;exact⟨g+1,m,j,l⟩
  ·obtain⟨e,b,d⟩:=ZeL (cuts:=o.2.2.2.2.2.2) h Y (i:=0) (k:=Z) (.inl ⟨rfl,rfl⟩);have:k=Z:=by rw[h.dv]at a;exact(XD (XD a)).symm
   subst this;rw[gt b];refine d.mono λr⟨j,l,I,v⟩=>⟨g,R,j,by rw[l];exact VV.same (by rw[v];rfl)⟩
  ·obtain⟨e,b,d⟩:=ZeL (cuts:=o.2.2.2.2.2.2) h Y (i:=1) (k:=X) (.inr ⟨rfl,rfl⟩);have:k=X:=by rw[h.dv]at a;exact(XD (XD a)).symm
   subst this;rw[gt b];refine d.mono λr⟨j,l,I,v⟩=>⟨g,R,j,by rw[l];exact VV.same (by rw[v];rfl)⟩
theorem ZrZ{o}(h:CB T c):W (lJ c o) λr=>∃l,r.1=(c.1,c.2.1,l,c.2.2.2)/\l.length=5/\∀x∈l,-2<=x/\x<=2:=by
 obtain⟨i,-,⟨d,e⟩,-⟩:=h;refine Yu (λb=>b=false->0<=o.2.1/\o.2.1<5) (λ_=>J λa=>by cases a) (λf=>J λa=>Zm) λb m=>Zp ⟨λ_=>J ⟨c.2.2.1,rfl,d,e⟩,λf=>Xo ⟨XA,J ⟨_,rfl,by simp;exact d,λx j=>?_⟩⟩⟩
 ·rcases nv j with k|rfl;·exact e x k
  ·have a:c.1.2.2.2.1=2:=by rw[i];rfl
   simp only[Wx];rw[ZK Y];omega
theorem Zja{o}(h:Wp B T V Z X g R c ds rs cs ss ms ps bs)(K:T<=230)(E:yp o)(I:∀j p t,c.2.2.2.2.1=some j->ps[j]?=some p->YD Ug R p->PI SR p->Ob p.2.2.2.1 t->p.2.2.1.2.2.1.length<8->p.2.2.2.2.2.2=0->B R (UC t p.2.2.2.2.2.1)):W (Fh c ds rs cs ss ms ps bs o) λr=>∃w l,Wp B (T+1) V Z X w l r.1 r.2.1 r.2.2.1 r.2.2.2.1 r.2.2.2.2.1 r.2.2.2.2.2.1 r.2.2.2.2.2.2.1 r.2.2.2.2.2.2.2.1/\VV R c ps l r.1 r.2.2.2.2.2.2.1:=by
 have x:=h.cb;obtain⟨-,x0,-⟩:=id x;have y:∀{F:Yn},F.2.2.2.2.1=c.2.2.2.2.1->VV R c ps R F ps:=λv=>VV.same v;have a:=h.up (T':=T+1) Y;have D:∃w l,Wp B (T+1) V Z X w l c ds rs cs ss ms ps bs/\VV R c ps l c ps:=⟨g,R,a,y rfl⟩;have P0:∀{n:Nj}{s:List Zt},NI n s->∃w l,Wp B (T+1) V Z X w l (wN c n) ds rs cs ss ms ps s/\VV R c ps l (wN c n) ps:=λN=>⟨g,R,a.P0 N,y rfl⟩;unfold Fh;refine Zp ⟨λ_=>J ⟨g,R,?_,y rfl⟩,λ_=>Zp ⟨λ_=>Zj ((ZrZ x).mono λi b=>J ?_),λ_=>?_⟩⟩;·dsimp only;rw[wS Y];obtain⟨u,z,A⟩:=a.cb;exact⟨⟨u,Zw,A⟩,a.dv,a.ne,a.d1,a.d2,a.pr,a.rp,a.ni,a.cl.up rfl (YG _) (YG _) λ_ d=>d,a.hg⟩
 ·obtain⟨x1,e,k,q⟩:=b;refine⟨g,R,?_,y (by dsimp only;rw[e])⟩;dsimp only;rw[e];obtain⟨u,z,A,C⟩:=a.cb;exact⟨⟨u,z,⟨k,q⟩,C⟩,a.dv,a.ne,a.d1,a.d2,a.pr,a.rp,a.ni,a.cl.up rfl (YG _) (YG _) λ_ d=>d,a.hg⟩
 refine Yu (λf=>f=true->o.1=3\/o.1=4\/o.1=5) (λd=>J λ_=>.inl (by rwa[Ri]at d)) (λ_=>Yu (λf=>f=true->o.1=3\/o.1=4\/o.1=5) (λd=>J λ_=>.inr (.inl (by rwa[Ri]at d))) (λ_=>J λd=>.inr (.inr (by rwa[Ri]at d))) λf m=>J m) λf m=>Zp ⟨λd=>Zj ((ZhU h.ni h.rl h.cl (by have:=x.2.2.2.2.2.1;omega) ⟨by have:=E.1;omega,by have:=E.2.1;omega⟩ (m d)).mono λi b=>J ?_),λ_=>Zp ⟨λ_=>Zj ((ZiR h Y I).mono λi b=>J ?_),λ_=>Zp ⟨λ_=>Zj ((Zi2 h Y).mono λi b=>J ⟨g,R,b⟩),λ_=>Zp ⟨λ_=>Zj ((cY h.ni).mono λi b=>Zj (DZ.mono λ_ _=>J ?_)),λ_=>Zp ⟨λ_=>Zj ((ZgE h.ni).mono λi b=>Zj (DZ.mono λ_ _=>J ?_)),λ_=>Zp ⟨λ_=>Zj ((Zho h.ni).mono λi b=>Zj (DZ.mono λ_ _=>J ?_)),λ_=>Zp ⟨λ_=>?_,λ_=>Zp ⟨λ_=>?_,λ_=>Zp ⟨λ_=>Zj ((ZiT h Y).mono λi b=>J ⟨g,R,b.1,VV.same b.2⟩),λ_=>?_⟩⟩⟩⟩⟩⟩⟩⟩⟩
 ·obtain⟨n,S,s,e,k,q,s4,Q⟩:=b;refine⟨g,R,?_,y (by dsimp only;rw[e];rfl)⟩;dsimp only;have M:CB (T+1) i.1:=by rw[e];obtain⟨u,z,A,C,U,c6,c7⟩:=x;refine⟨u,⟨z.1,by show c.2.1<=_;omega⟩,A,C,by show(lk c).length<=_;omega,by show(ud c++S).length<=_;rw[Yw];omega,by show(sl c).length<=_;omega⟩
  exact⟨M,by rw[e];exact a.dv,a.ne,a.d1,a.d2,by rw[e];exact a.pr,by obtain⟨G,H,v,O,P⟩:=a.rp;exact⟨G,H,by rw[e];exact v,O,P⟩,by rw[e];exact q,Q,a.hg⟩
 ·obtain⟨l,e,k⟩:=b;exact⟨g,l,e,k⟩
 ·rcases b with⟨-,e,-,-,k⟩|⟨e,-⟩;·dsimp only;rw[e]at k⊢;exact P0 k
  ·dsimp only;rw[e];exact D
 ·obtain⟨n,s,e,k,q⟩:=b;dsimp only;rw[e];exact P0 q
 ·obtain⟨n,e,k,-⟩:=b;dsimp only;rw[e];exact P0 k
 ·refine Uu (λd=>?_) (λ_=>J trivial) λs=>Zj ((Zhu h.ni).mono λi b=>Zj (DZ.mono λ_ _=>J ?_));·simp only[Wx]at d;exact Zj (YF ⟨Y,λ_ _=>J trivial⟩)
  ·dsimp only;rw[b.1];have:=P0 b.2;exact this
 ·have h5:c.2.2.1.length=5:=x.2.2.1.1;refine Yu (λf=>f=false->0<=o.2.1) (λ_=>J λv=>by cases v) (λd=>J λ_=>by simpa only[Wx]using d) λf m=>Zp ⟨λ_=>J D,λd=>Zj ((mI h.ni (m d) (by have:=E.2.1;omega)).mono λi b=>Zj (DZ.mono λ_ _=>J ?_))⟩;obtain⟨n,s,e,k,q⟩:=b.1;dsimp only;rw[e];exact P0 q
 ·refine Yu (λf=>f=true->o.1=14\/o.1=15) (λd=>J λ_=>.inl (by rwa[Ri]at d)) (λ_=>J λd=>.inr (by rwa[Ri]at d)) λf m=>Zp ⟨λd=>Zj ((Zng h K (m d)).mono λi b=>J b),λ_=>J D⟩
end Go.R
namespace Go.R
open Go.Sl
def Nl:Yi:=(List.replicate 900 Uf,List.replicate 900 Uf,[],-1,false)
theorem Zae:DI 900 0 Nl:=⟨E9,rfl,(λb a=>by cases a),YG _⟩
def Ng(l:List (Option Nat)):Yn:=(R5,1,List.replicate 5 0,l,none,[none,none],[],[],([],0),[],[],[])
theorem Zlk:lM R5=some true:=by
 have a:∀{b:Option _}{c:Bool}{d:Bool->Option Bool},c=true->b=some true->O (Zc c b (some false)) d=d _:=λf e=>by rw[f,WU,e,bs]
 exact(a rfl rfl).trans ((a rfl rfl).trans ((a rfl rfl).trans ((a rfl rfl).trans ((a rfl rfl).trans ((a rfl rfl).trans ((a rfl rfl).trans ((a rfl rfl).trans (a rfl rfl))))))))
def xV(c:Yn)(l:List (Option Nat)):Yn:=(c.1,c.2.1,c.2.2.1,c.2.2.2.1,c.2.2.2.2.1,c.2.2.2.2.2.1,l,c.2.2.2.2.2.2.2)
def RP(n i:Nat)(c:Yi)(ds:List Yi)(rs:List Xj)(l:List (Option Nat)):Prop:=ds[n]?=some c/\(∀a,a<2->i<=a->ds[n+1+a]?=some Nl)/\(∀a,a<2->a<i->RV ds (n+1+a) 1/\∀b,l[a]?=some b->S4 rs b (n+1+a) 1)/\l.length=2
theorem RP.step{n i}{o d}{ds}{rs j}{l}{a}(h:RP n i o ds rs l)(hi:i<2)(z:DI 900 6000 d)(q:j=rs/\a=none\/∃r,j=rs++[r]/\a=some rs.length/\RI 900 (n+1+i) 0 r):RP n (i+1) o (ds.set (n+1+i) d) j (l.set i a):=by
 obtain⟨w,p,x,y⟩:=h;have D:∀{c:Option Nat}{m:Nat},S4 rs c m 1->S4 j c m 1:=λ{c m}s=>by
  rcases q with⟨b,-⟩|⟨r,b,-⟩;·rw[b];exact s
  ·rw[b];exact s.app
 refine⟨by rw[ED Y];exact w,λe g B=>by rw[ED Y];exact p e g Y,λe g C=>?_,by simp[y]⟩;by_cases b:e=i
 ·subst b;refine⟨⟨d,Vl (p e g (YG _)),z.le Y⟩,λc k=>?_⟩;rw[dO Y]at k;cases k;intro E f;rcases q with⟨-,b⟩|⟨r,t,u,v⟩;·rw[b]at f;cases f
  ·rw[u]at f;cases f;exact⟨r,by rw[t];simp,v.up Y⟩
 ·obtain⟨A,F⟩:=x e g Y;refine⟨A.set Y,λc k=>?_⟩;grind
theorem az{B}{ds}{rs}{cs}{ss}{ms}{ps}{bs}(hb:∀b∈bs,b.length<=20000):W (AM ds rs cs ss ps R5) λo=>o.2.2.2.2.2.2=0/\∃c N k1 k2 p d,o.2.2.2.2.2.1=some c/\Wp B 1 N k1 k2 1 [] c o.1 o.2.1 o.2.2.1 o.2.2.2.1 ms o.2.2.2.2.1 bs/\c.2.2.2.2.1=some ps.length/\o.2.2.2.2.1=ps++[p]/\U7 p=s0 Ug/\p.2.2.2.2.2=([],0)/\o.1[N]?=some d/\d.2.2.2=(-1,false)/\PV N 1 (B []) [] 0 false d/\VM N 1 0 false p.1/\nt c=([],0)/\c.2.1=1/\c.2.2.1=List.replicate 5 0:=by
 unfold AM;rw[be Zlk];refine Zp ⟨λe=>by simp only[Wx]at e,λ_=>?_⟩;rw[show Zk (Zu (Zk (Zu 1 R5.1)) R5.2.1)=5by simp only[Wx];show Zk (Zk (1+2)+2)=5;rw[ZK (n:=1+2) Y,ZK Y];rfl];refine M8.2 ⟨Y,M8.2 ⟨YP,Wo (W.Vy (λh=>∃i:Nat,i<=3/\h=((i:Int),ds++List.replicate i Nl,cs,ss,R5,Ng ((List.range i).map λj=>some (ds.length+j)))) (λh=>h.2=(ds++List.replicate 3 Nl,cs,ss,R5,Ng [some ds.length,some (ds.length+1),some (ds.length+2)])) (λh=>(3-h.1).toNat) (λ_=>False) ⟨0,Y,by rw[dU,Xp];rfl⟩ Zw (λh q=>?_) (λh q=>?_) λ_ D=>D.elim)⟩⟩
 ·obtain⟨i,hi,rfl⟩:=q;dsimp only;rw[show Zk (Zu 1 R5.1)=3by simp only[Wx];show Zk (1+2)=3;rw[ZK Y];rfl];refine Zp ⟨λe=>?_,λe=>J ?_⟩
  ·simp only[Wx]at e;refine Zj ((ZiY (ds:=ds++List.replicate i Nl) (n:=R5.2.2.2.2.1) YP YP).mono λo⟨O,o2,T⟩=>Zp ⟨λa=>by rw[O]at a;simp only[Wx]at a,λ_=>Xa ⟨?_,J ?_⟩⟩);·show((List.range i).map λj=>some (ds.length+j)).length+1<=_;simp;omega
   ·rw[wS Y];refine⟨⟨i+1,Y,?_⟩,Zw⟩;rw[T,o2];show((i:Int)+1,ds++List.replicate i Nl++[Nl],cs,ss,R5,Ng (((List.range i).map λj=>some (ds.length+j))++[some (ds++List.replicate i Nl).length]))=_;rw[Z5,<-oU,nw,Vg,Yw,E9];rfl
  ·simp only[Wx]at e;have:i=3:=Y;subst this;rfl
 ·obtain⟨u1,u2⟩:=h;dsimp only at q;subst q;generalize hn:ds.length=n;have y7:(ds++List.replicate 3 Nl).length=n+3:=WI;have x6:∀A,A<3->(ds++List.replicate 3 Nl)[n+A]?=some Nl:=λA hm=>by rw[BD Y,dN,YW Y]
  have x8:(ds++List.replicate 3 Nl)[n]?=some Nl:=x6 0 Y;dsimp only;refine Zj ((Zcr (c:=Ng [some n,some (n+1),some (n+2)]) (rs:=rs) (ps:=ps) x8 Zae Y rfl rfl (by show([]:List Int).length<=_;simp)).mono λo⟨C,s,k,O,o2,T,o4,o5,o6,o7,o8⟩=>?_);obtain⟨v1,v2,v3,v4⟩:=o8 0 [] 0 1#32 Y rfl YP rfl cZ;have x7:=v4 (s0 Ug) rfl;obtain⟨p,V,q2,-,q4,-,q6⟩:=o6.resolve_left λa=>a.2.2 x7;obtain⟨w1,w2⟩:=v3 p V;have K:U7 p=s0 Ug:=w2;refine Zp ⟨λa=>by rw[x7]at a;simp only[Wx]at a,λ_=>?_⟩;obtain⟨U,S,xv⟩:=j9 SR;have xs:o.2.2.2.1[ps.length]?=some p:=by rw[V];simp
  rw[Th (by rw[O,q2];rfl),gt xs,be (xv p q4.1).2];have hc:o.1=RG (QP (Ng [some n,some (n+1),some (n+2)]) (some ps.length)) k:=by rw[O,q2];rfl
  rw[T,o4,V,hc];generalize x5:(((RG (QP (Ng [some n,some (n+1),some (n+2)]) (some ps.length)) k).1,(RG (QP (Ng [some n,some (n+1),some (n+2)]) (some ps.length)) k).2.1,(RG (QP (Ng [some n,some (n+1),some (n+2)]) (some ps.length)) k).2.2.1,(RG (QP (Ng [some n,some (n+1),some (n+2)]) (some ps.length)) k).2.2.2.1,(RG (QP (Ng [some n,some (n+1),some (n+2)]) (some ps.length)) k).2.2.2.2.1,(RG (QP (Ng [some n,some (n+1),some (n+2)]) (some ps.length)) k).2.2.2.2.2.1,(RG (QP (Ng [some n,some (n+1),some (n+2)]) (some ps.length)) k).2.2.2.2.2.2.1,U,(RG (QP (Ng [some n,some (n+1),some (n+2)]) (some ps.length)) k).2.2.2.2.2.2.2.2):Yn)=l;have E:l=(R5,1,List.replicate 5 0,[some n,some (n+1),some (n+2)],some ps.length,[none,none],[],U,([],0),[],[],k):=x5.symm;refine Wo (W.Vy (λh=>∃(i:Nat)(f:List (Option Nat))(t:List Yi)(u:List Xj),i<=2/\h=(((i+1:Nat):Int),t,u,cs,ss,ps++[p],Lx l f)/\RP n i C t u f) (λh=>∃(f:List (Option Nat))(t:List Yi)(u:List Xj),h.2=(t,u,cs,ss,ps++[p],Lx l f)/\RP n 2 C t u f) (λh=>(3-h.1).toNat) (λ_=>False) ⟨0,[none,none],_,_,Y,by rw[<-x5];rfl,⟨Vl x8,λA hm _=>by rw[ED Y];have:=x6 (1+A) Y;rwa[<-BF]at this,λA _ x0=>Y,rfl⟩⟩ Zw (λh q=>?_) (λ⟨u1,u2⟩q=>?_) λ_ D=>D.elim)
  ·obtain⟨i,f,t,u,hi,rfl,H⟩:=q;refine Zp ⟨λe=>?_,λe=>J ?_⟩
   ·have e:i<2:=by have:YH ((i+1:Nat):Int) 2=true:=e;simp only[Wx]at this;omega
    dsimp only;refine Zj ((Zct (c:=Lx l f) (rs:=u) (ps:=ps++[p]) (i:=i) Y (H.2.1 i e (YG _)) Zae Y ?_ H.2.2.2 ?_).mono λy9⟨d2,w,z1,z2,z3,z4,z5,z6⟩=>?_);·show l.2.2.2.1[i+1]?=_;rw[E];rcases(by omega:i=0\/i=1)with rfl|rfl<;>rfl
    ·show l.2.2.2.2.2.2.2.1.length<=_;rw[E];exact S
    ·refine Zp ⟨λa=>(by rw[z6 rfl YP rfl cZ]at a;simp only[Wx]at a),λ_=>J ?_⟩;rw[show Zk (Zu ((i+1:Nat):Int) 1)=((i+1+1:Nat):Int)by rw[wS Y];rfl];refine⟨⟨i+1,f.set i w,_,_,Y,?_,H.step e (z4.le Y) z5⟩,Zw⟩;rw[z1,z2,z3];rfl
   ·have e:¬i<2:=by have:YH ((i+1:Nat):Int) 2=false:=e;simp only[Wx]at this;omega
    have:i=2:=Y;subst this;exact⟨f,t,u,rfl,H⟩
  ·obtain⟨f,t,u,q,⟨P,X,Q,x4⟩⟩:=q;dsimp only at q;subst q;dsimp only;refine Zj (W.UQ (λv=>∃(r:Nat)(g:List WS)(m:List XZ)(a:List (Option Nat)),r<=2/\v=((r:Int),t,g,m,R5,xV (Lx l f) a)/\a.length=r/\∀(i:Nat)(s:Option Nat),a[i]?=some s->∃(x:Nat)(j:WS),s=some x/\g[x]?=some j/\CX 0 m ms.length j) (λv=>∃(g:List WS)(m:List XZ)(a:List (Option Nat)),v.2=(t,g,m,R5,xV (Lx l f) a)/\a.length=2/\∀(i:Nat)(s:Option Nat),a[i]?=some s->∃(x:Nat)(j:WS),s=some x/\g[x]?=some j/\CX 0 m ms.length j) (λv=>(2-v.1).toNat) ⟨0,cs,ss,[],Y,by rw[E];rfl,rfl,λi s x0=>by simp at x0⟩ Zw (λv z=>?_) λ⟨t1,t2⟩z=>J ?_)
   ·obtain⟨r,g,m,a,hj,rfl,M,G⟩:=z;refine Zp ⟨λe=>?_,λe=>J ?_⟩
    ·have e:r<2:=by have:Zz (r:Int) 2=true:=e;simp only[Wx]at this;omega
     have y8:(xV (Lx l f) a).2.2.2.2.2.2.2.1.length<=1000:=by show l.2.2.2.2.2.2.2.1.length<=_;rw[E];exact S
     refine Zj ⟨_,by unfold fP;exact Vo (Xa ⟨by dsimp only;simp only[Wx];omega,J rfl⟩),Xa ⟨by show a.length+1<=_;omega,J ?_⟩⟩;rw[wS Zw];refine⟨⟨r+1,_,_,a++[some g.length],Y,rfl,by simp[M],λi s I=>?_⟩,Zw⟩;by_cases D:i<a.length;·rw[Uy D]at I;obtain⟨x,j,P,X,Q⟩:=G i s I;have:=(Wm X).1;refine⟨x,j,P,by rw[show Z9 g _=g++_ from rfl,Uy this];exact X,Q.ss λy4⟨y5,R,Z⟩=>?_⟩;have:=(Wm R).1;exact⟨y5,by show(m++_)[y4]?=_;rw[Uy this];exact R,Z⟩
     ·have:i=a.length:=by have:=(Wm I).1;simp at this;omega
      subst this;have:some g.length=s:=by simpa using I
      subst this;refine⟨g.length,_,rfl,by show(g++_)[g.length]?=_;simp;rfl,⟨m.length,rfl,_,by show(m++_)[m.length]?=_;simp;rfl,?_⟩,.inl rfl,Zb⟩;show([]:Zt).length<=64;simp
    ·have e:¬r<2:=by have:Zz (r:Int) 2=false:=e;simp only[Wx]at this;omega
     have:r=2:=Y;subst this;exact⟨g,m,a,rfl,M,G⟩
   ·obtain⟨g,m,a,z,M,G⟩:=z;dsimp only at z;subst z;have F:xV (Lx l f) a=(R5,1,List.replicate 5 0,[some n,some (n+1),some (n+2)],some ps.length,f,a,U,([],0),[],[],k):=by rw[E];rfl
    have x9:PV n 1 (B []) [] 0 false C:=v2.pv o5 v1;have xk:VM n 1 0 false p.1:=⟨0,w1,Y,λ_=>rfl⟩;obtain⟨y0,R⟩:=Q 0 Y Y;obtain⟨Z,y3⟩:=Q 1 Y Y;refine⟨rfl,xV (Lx l f) a,n,n+1,n+1+1,p,C,rfl,?_,by rw[F],rfl,K,q6,P,by rw[o7 YP rfl];rfl,x9,xk,by rw[F];rfl,by rw[F],by rw[F]⟩
    ·dsimp only;rw[F];obtain⟨y,w,rfl⟩:∃y w,f=[y,w]:=by match f,x4 with|[y,w],_=>exact⟨y,w,rfl⟩
     refine⟨⟨rfl,Zw,⟨rfl,λj hx=>by rw[(List.mem_replicate.1 hx).2];omega⟩,S,VD _,VD _,by show k.length<=_;omega⟩,rfl,⟨Y,Y,Y⟩,y0,Z,?_,⟨y,w,rfl,R y rfl,y3 w rfl⟩,⟨VD _,(λy6 hf=>by cases hf),hb⟩,⟨M,G⟩,YG _⟩;·refine⟨C,0,false,P,x9,λr hj=>?_⟩;cases hj;exact⟨p,Zb,xk,q4,[],[],s0 Ug,rfl,rfl,by rw[<-K];rfl,by rw[<-K];rfl,λ_=>⟨rfl,K⟩⟩
theorem ZiD{s}{t z}(h:s.2.2.1.length<=1000):W (Fx s t z ([],[])) λr=>∃x,r.2.2.1=s.2.2.1++[x]/\x.2.2.2.2=[]:=by refine Zj (He.mono λr _=>Zj (W.lp _ (λ_=>0) rfl Zb (λb a=>Zp ⟨λc=>Zm,λ_=>J a⟩) λb a=>?_));·subst a;refine Zj (tK.mono λe _=>Zj (W.mono (Zj (W.lp (λb=>b=([],0)) (λ_=>0) rfl Zb (λb a=>Zp ⟨λc=>?_,λ_=>J a⟩) λb a=>J (by rw[a]))) λf d=>Xa ⟨Zm,J ⟨_,rfl,d⟩⟩));grind
theorem ZrL{h}:W (OF (h,[],[],[],[]) []) λr=>r.2=0/\r.1.2.1=[]/\∃x,r.1.2.2.1=[x]/\x.2.2.2.2=[]:=by
 have f:Vt (h,[],[],[],[]):=GR;obtain⟨r,i,j,p⟩:=ZrM (h:=h);refine⟨r,i,j,p,?_⟩;have l:W (some r) λr=>r.2=0->∃x,r.1.2.2.1=[x]/\x.2.2.2.2=[]:=by
  rw[<-i];refine Zp ⟨λ_=>J λa=>(by cases a),λ_=>Wo (W.Vy (λb=>b=([],0)) (λb=>b=([],0)) (λ_=>0) (λ_=>False) rfl Zb (λb d=>Zp ⟨λc=>by rw[d]at c;simp only[Wx,Vf]at c;omega,λ_=>J d⟩) (λb d=>?_) λ_ a=>a.elim)⟩
  ·subst d;refine Zj ((kM f Zb).self.mono λc m=>Zp ⟨λ_=>J λa=>(by cases a),λv=>?_⟩);have e:=m.2 Zm;rw[show ND ([]:Vj)=some _ from rfl,bs];refine Zj ((iE f Zb Zb).mono λs n=>Zp ⟨λg=>J λa=>by simp only[Wx]at g;exact(g a).elim,λ_=>?_⟩)
   ·obtain⟨t,u,o,-⟩:=n;have k:c.1=([],[]):=by exact Prod.ext e.1 (MR (by rw[e.2.1];rfl))
    rw[k];refine Zj ((ZiD (by rw[o];simp)).mono λw q=>J λ_=>?_);grind
 exact(L.1 l) j
theorem ZlD{s}{x}{e}(h:s.2.2.1=[x])(hx:x.2.2.2.2=[]):W (Fw s e) λr=>r=[]:=by refine Zj (zx.mono λk g=>Zp ⟨λ_=>J rfl,λf=>?_⟩);have c:=g.1 Zm;rw[h]at c;simp at c;have i:e=1:=Y;subst i;rw[show Zk _=0 by simp only[Wx];rw[ZK Y];rfl];refine Xo ⟨Zm,Zj (YF ⟨Zm,λm d=>?_⟩)⟩;rw[h]at d;cases d;refine Zj (W.mono (Zj (W.lp (λb=>b=([],0)) (λ_=>0) rfl Zb (λb a=>Zp ⟨λf=>?_,λ_=>J a⟩) λb a=>J (by rw[a]))) λl j=>J j);grind
variable{B:List Zt->Zt->Prop}{T k0 k1 k2 g:Nat}{R:List Zt}{c:Yn}{ds:List Yi}{rs:List Xj}{cs:List WS}{ss:List XZ}{ms:List UO}{ps:List Y8}{bs:List Zt}
theorem Zi9{o}(b:o.1=6):Fh c ds rs cs ss ms ps bs o=O (Fj c ds ps bs) λa=>some (a.1,a.2.1,rs,cs,ss,ms,a.2.2):=by unfold Fh;rw[b,show Zs (6:Int) 1=false from rfl,Wi,show Zs (6:Int) 2=false from rfl,Wi,show Zs (6:Int) 3=false from rfl,show Zs (6:Int) 4=false from rfl,show Zs (6:Int) 5=false from rfl,show Zs (6:Int) 6=true from rfl,Wi,Wi,Go.R.bs,Go.R.bs,Wi,WU]
theorem ZrO{c}{bs}{m}{b}{A:Yn->List Zt->Option (Yn×List Yi×List Y8×List Zt×OC)}{Q}(h:NI (nt c) bs)(U:nt c=([],0))(G:c.2.2.2.2.2.1.length=2)(E:m.1=5)(V:MO m)(hf:m.2.1=0)(Z:Li m.2.2.2.2.2.2.2.2.2.1.1=some (b,0))(X:b.length<=100)(hs:m.2.2.2.2.2.2.2.2.2.1.2.length<=5000)(x0:m.2.2.2.2.2.2.2.2.2.2.2.2.2.2.2.1=[])(hn:m.2.2.2.2.2.2.2.2.2.2.2.2.2.2.2.2.1=[])(hk:∀n x,n.1.length=2->NI n (bs++x)->W (A (wN c n) (bs++x)) Q):W (XY (XO (λj=>Zc (Zz j.1 (Ze (Zf [m]))) (O (ZA [m] j.1) λz=>Zc (Zs z.1 2) (O (R6 j.2.2 j.2.1 z.2.2.1 z) λK=>some (.next (Zk (Zu j.1 1),K.2,K.1))) (O (YK (λ(e:Int×List Zt×Yn×YN)=>Zc (Zz e.1 (Ze (Zf j.2.2.2.2.2.2.2.1))) (O (R6 e.2.2.1 e.2.1 (Zk (Zu e.1 1)) (e.2.2.2.1,e.2.2.2.2.1,Zk (Zu e.1 1),e.2.2.2.2.2.2)) λM=>some (.next (Zk (Zu e.1 1),M.2,M.1,e.2.2.2.1,e.2.2.2.2.1,Zk (Zu e.1 1),e.2.2.2.2.2.2))) (some (.brk e))) (0,j.2.1,j.2.2,z)) λN=>some (.next (Zk (Zu j.1 1),N.2.1,N.2.2.1)))) (some (.brk j))) (0,bs,c)) λP=>A P.2.2 P.2.1) Q:=by
 refine Wo (W.Vy (λk=>k=(0,bs,c)\/∃(n:Nj)(x:List Zt),k=(1,bs++x,wN c n)/\n.1.length=2/\NI n (bs++x)) (λk=>∃(n:Nj)(x:List Zt),k=(1,bs++x,wN c n)/\n.1.length=2/\NI n (bs++x)) (λk=>(1-k.1).toNat) (λ_=>False) (.inl rfl) Zw (λk C=>?_) (λk C=>?_) λ_ u=>u.elim)
 ·rcases C with rfl|⟨n,x,rfl,o,p⟩
  ·refine Zp ⟨λ_=>?_,λr=>by simp only[Wx,V9]at r;omega⟩;rw[be (Sz (i:=0) Y (show([m]:List YN)[(0:Int).toNat]?=some m from rfl))];refine Zp ⟨λr=>by rw[E,Ri]at r;omega,λ_=>Zj (W.UQ (λv=>∃(d:Nat)(a:Nj)(f:List Zt)(l:Int),d<=2/\v=((d:Int),bs++f,wN c a,m.1,m.2.1,l,m.2.2.2)/\a.1.length=d/\NI a (bs++f)) (λv=>∃(a:Nj)(f:List Zt)(l:Int),v.2=(bs++f,wN c a,m.1,m.2.1,l,m.2.2.2)/\a.1.length=2/\NI a (bs++f)) (λv=>(2-v.1).toNat) ⟨0,nt c,[],m.2.2.1,Y,by rw[Xp];rfl,by rw[U];rfl,by rw[Xp];exact h⟩ Zw (λv s=>?_) λ⟨v1,v2⟩s=>J ?_)⟩
   ·obtain⟨d,a,f,l,D,rfl,w,y⟩:=s;refine Zp ⟨λq=>?_,λq=>J ?_⟩
    ·have q:(d:Int)<2:=by have:Zz (d:Int) (Ze c.2.2.2.2.2.1.length)=true:=q;rw[G]at this;simp only[Wx]at this;omega
     rw[wS Zw];dsimp only;obtain⟨u,S,o,p⟩:=ZgH (m:=(m.1,m.2.1,(d:Int)+1,m.2.2.2)) E Zw Zw Z X hs x0 hn;refine Zj ((I2 (c:=wN c a) (t:=(d:Int)+1) y Y (vC V _ _ _)).mono λx1 F=>J ?_);have s:=F.2 u.1 (by rw[S,<-o]) p (by show a.1.length<64;omega);obtain⟨n2,y2,H,o2,I⟩:=F.1;rw[s]at H o2 I⊢;refine⟨⟨d+1,(a.1++[((d:Int)+1,some (bs++f).length)],a.2),f++[u.1],(d:Int)+1,Y,?_,by simp[w],?_⟩,Zw⟩;·dsimp only;rw[Z5];rfl
     ·have:n2=(a.1++[((d:Int)+1,some (bs++f).length)],a.2):=(X7 nt H).symm;rw[<-this,<-Z5];exact I
    ·have q:¬(d:Int)<2:=by have:Zz (d:Int) (Ze c.2.2.2.2.2.1.length)=false:=q;rw[G]at this;simp only[Wx]at this;omega
     have:d=2:=Y;subst this;exact⟨a,f,l,rfl,w,y⟩
   ·obtain⟨a,f,l,D,w,y⟩:=s;dsimp only at D;subst D;rw[wS Y];exact⟨.inr ⟨a,f,rfl,w,y⟩,Zw⟩
  ·exact Zp ⟨λr=>by simp only[Wx,V9]at r;omega,λ_=>J ⟨n,x,rfl,o,p⟩⟩
 ·obtain⟨n,x,rfl,o,p⟩:=C;exact hk n x o p
end Go.R
namespace Go.R
open Go.Sl
variable{ds:List Yi}{rs:List Xj}{cs:List WS}{ss:List XZ}{ms:List UO}{ps:List Y8}{bs:List Zt}
abbrev BT:List Zt->Zt->Prop:=λ_ _=>True
theorem ZrK{s k1 k2}{c}{p}{d}(h:Wp BT 1 s k1 k2 1 [] c ds rs cs ss ms (ps++[p]) bs)(j:c.2.2.2.2.1=some ps.length)(K:U7 p=s0 Ug)(M:p.2.2.2.2.2=([],0))(hd:ds[s]?=some d)(H:d.2.2.2=(-1,false))(hV:PV s 1 (BT []) [] 0 false d)(hM:VM s 1 0 false p.1)(hn:nt c=([],0)):W (Fj c ds (ps++[p]) bs) λo=>o.2.2.2.2.1=0/\o.1.2.2.2.2.1=some ps.length/\(∃R,o.2.2.1[ps.length]?=some R/\R.2.2.1.2.2.1.length=1)/\(nt o.1).1.length=2/\∀b∈o.2.2.2.1,b.length<=20000:=by
 have k:(ps++[p])[ps.length]?=some p:=Zb;obtain⟨d0,ys,fd,q1,q2,q3⟩:=h.pr;obtain⟨p',S,-,r3,r4⟩:=q3 _ j;rw[k]at S;cases S;have N:p.2.2.1=(Ug,[],[],[],[]):=X7 Prod.fst K;have xk:p.2.2.2.1=[]:=X7 (λw:M4=>w.2.1) K;have i:p.2.2.2.2.2.1=[]:=X7 Prod.fst M;obtain⟨-,x7,⟨x1,x2⟩,-⟩:=id h.cb;unfold Fj;rw[Th j,gt k];refine Zj ((uk x1 Y Y x2 ⟨x7.1,Y⟩).mono λt ht=>?_);rw[Th j,gt k,be P5];have x:p.2.2.1.2.2.1=[]:=by rw[N]
 refine Zp ⟨λg=>by rw[x]at g;simp only[Wx,Vf]at g;omega,λ_=>?_⟩;rw[Th j,gt k];obtain⟨z,z0,z1,z2,w,z3,z4⟩:=ZrL (h:=Ug);have B:OF p.2.2.1 (p.2.2.2.2.2.1.map (·.2.2))=some (z.1,0):=by rw[N,i,<-z1];exact z0
 refine Zj ((bP (t:=t) hd hV hM r3 r4 λ_ _ _=>trivial).mono λo ho=>?_);obtain⟨d',n',y9,R',o1,o2,Q,⟨C,R2,s1,D,U,V,-⟩,o5,⟨y7,y8,n,-,-,T⟩,o7,o8,-,o9,y0,y3⟩:=ho;obtain⟨u,-⟩:=y3 rfl (by rw[H];decide) (by rw[H]) Y (X7 Prod.snd M) (by rw[x];simp) ⟨ht.1,Y,λw P=>by rw[xk]at P;cases P⟩ ⟨z.1,B⟩;refine Zp ⟨λg=>by rw[u]at g;simp only[Wx]at g,λ_=>?_⟩;have yl:=h.cb.2.2.2.2.2.2;refine Xa ⟨by show(sl c).length+1<=_;omega,?_⟩;obtain⟨-,G,⟨xs,y5,xv,E,Z,e3,f⟩,F⟩:=y0 u;rw[i]at F;have I:o.2.2.1=[G]:=F;obtain⟨s',-,x9⟩:=(o9.resolve_left λy4=>by
  rw[y4.1]at D;have:C=[]:=by cases C with|nil=>rfl|cons _ _=>cases D
  subst this;have:s1=s0 Ug:=U;subst this;rw[V]at n;have:=X7 List.length n;simp[x,s0,T u]at this).1;obtain⟨⟨t',l',st,f1,f2,f3,f4,f5⟩,f6⟩:=x9 u;have x3:l'=[]:=by obtain⟨y,a,-,-,m⟩:=j8 (b:=UC t p.2.2.2.2.2.1) (by rw[i];have:=kq (t:=t) (l:=[]) Zb Zb;omega);rw[m t [] Zb Zb Y Y (by rw[i]),f1]at a;cases a;rfl
 subst x3;have O:o.1.2.2.1=z.1:=by
  have n:o.1.2.2.1=st:=by have:=f6.trans f5;exact X7 Prod.fst this
  rw[i]at B;rw[n];exact X7 Prod.fst (XD (f4.symm.trans B))
 have q:o.1.2.2.1.2.2.1=[w]:=by rw[O];exact z3
 have x8:y5=[]:=by obtain⟨y,a,m⟩:=Zrf (e:=((o.1.2.2.1.2.2.1.length:Nat):Int)) Q.2.1 (by rw[O];exact z2);rw[Z]at a;rw[XD a];exact m
 have x5:xv=[]:=by obtain⟨y,a,m⟩:=ZlD (e:=((o.1.2.2.1.2.2.1.length:Nat):Int)) q z4;rw[e3]at a;rw[XD a];exact m
 have hk:xs=1:=by rw[q]at E;simp at E;omega
 subst hk;have r:=Q.tick (e:=1) Y (by rw[q];simp);obtain⟨hb,x0,yf⟩:=Za1 (h:=Tt o.1.2.2.1.2.2.1 o.1.2.2.2.1 1) (by show(1:Int)<=((1:Nat):Int);omega) (by show((1:Nat):Int)<_;omega) r.1 r.2;obtain⟨X,-⟩:=(Aq SR (Tt o.1.2.2.1.2.2.1 o.1.2.2.2.1 1)).choose_spec (show(1:Int)<=((1:Nat):Int)by omega) (show((1:Nat):Int)<=8by omega) r.1 r.2;rw[I];refine ZrO (c:=RG c (sl c++[c.2.1])) (b:=hb) (A:=λy6 v=>some (y6,o.2.1,Y3 (ps++[p]) ps.length o.1,v,(0:Int),D6)) h.ni hn h.rl (by rw[f]) (o7 G (by rw[I];simp)) (by rw[f]) (by rw[f];exact x0) Y (by rw[f];exact X) (by rw[f];exact x8) (by rw[f];exact x5) λn2 y x4 x6=>J ⟨rfl,j,⟨o.1,?_,by rw[q];rfl⟩,x4,x6.2.2⟩;show(List.set (ps++[p]) ps.length o.1)[ps.length]?=_;exact Vl k
theorem am(l:∀b∈bs,b.length<=20000):W (xn ds rs cs ss ms ps bs) λo=>o.2.2.2.2.2.2.2=true/\∀b∈o.2.2.2.2.2.2.1,b.length<=20000:=by
 unfold xn;rw[show xl=some R5 from rfl,Go.R.bs];refine Zj ((az (B:=BT) (ms:=ms) l).mono λo m=>?_);obtain⟨I,d,F,G,H,x,E,g,h,i,j,t,u,v,w,q,r,s,-⟩:=m;have n:o.2.2.2.2.1[ps.length]?=some x:=by rw[j];simp
 refine Yu (λa=>a=false) XA (λ_=>?_) λa f=>Zp ⟨XA,λ_=>?_⟩;·rw[Th g,show Fi d=some d.2.2.2.2.1from rfl,Go.R.bs,Th i,gt n];exact J rfl
 rw[Th g,Zi9 rfl];rw[j]at h⊢;refine Zj (Zj ((ZrK h i t u v w q r s).mono λc⟨M,y,⟨K,z,A⟩,C,D⟩=>J ?_));dsimp only;refine Yu (λa=>a=true) (λ_=>?_) XA λa f=>Yu (λk=>k=true) (λ_=>?_) (λe=>by rw[f]at e;cases e) λk p=>J ⟨p,D⟩;·rw[show Fi c.1=some c.1.2.2.2.2.1from rfl,Go.R.bs,Th y,gt z,be P5,A];exact J rfl
 ·rw[show uq c.1=some (((nt c.1).1.length:Nat):Int)by unfold uq jU;rw[Go.R.bs];rfl,Go.R.bs,C];exact J rfl
end Go.R
namespace Go.R
open Go.Sl
theorem ZrU{sd}{p}{e}(h:PI sd p)(h1:1<=e)(h2:e<=p.2.2.1.2.2.1.length):(HW sd (Tt p.2.2.1.2.2.1 p.2.2.2.1 e)).length<=5000:=by have c:=h.2.2.1;have b:=h.2.2.2.1;have a:=h.tick h1 h2;exact((Aq _ _).choose_spec (show(1:Int)<=e by omega) (show(e:Int)<=8by omega) a.1 a.2).1
def mn(c:Yn)(ps:List Y8)(d:List SL):Prop:=∀b a,c.2.2.2.2.1=some b->ps[b]?=some a->Oo SR a.2.2.1.2.2.1 a.2.2.2.1 d
theorem Zsd{B}{T q r s g}{R b}{c c'}{ds}{rs}{cs}{ss}{ms}{ps d}{bs}{a}(n:Wp B T q r s g b c' ds rs cs ss ms d bs)(p:VV R c ps b c' d)(e:Told SR Ug R a)(o:mn c ps a):Told SR Ug b a/\mn c' d a:=by
 obtain⟨⟨l,rfl⟩,m⟩:=p;refine⟨e.more,λj t f i=>?_⟩;rcases m j t f i with u|⟨F,H,l,C,v,w,x,y⟩;·exact(e.more).of u
 ·obtain⟨D,G,E,-,-,z⟩:=n.pr;obtain⟨I,k,-,A,-⟩:=z j f;rw[i]at k;cases k;have h:=A.2.2.1;rw[x,y]at h⊢;exact(o _ _ v w).app h
variable{ds:List Yi}{rs:List Xj}{cs:List WS}{ss:List XZ}{ms:List UO}{ps:List Y8}{bs:List Zt}
theorem Zh0{B}(f:∀b∈bs,b.length<=20000):W (po ds rs cs ss ps) λo=>∃a c e p d,Wp B 1 a c e 1 [] o.2.2.2.2.2 o.1 o.2.1 o.2.2.1 o.2.2.2.1 ms o.2.2.2.2.1 bs/\o.2.2.2.2.2.2.2.2.2.1=some ps.length/\o.2.2.2.2.1=ps++[p]/\U7 p=s0 Ug/\p.2.2.2.2.2=([],0)/\o.1[a]?=some d/\d.2.2.2=(-1,false)/\PV a 1 (B []) [] 0 false d/\VM a 1 0 false p.1/\nt o.2.2.2.2.2=([],0)/\o.2.2.2.2.2.2.1=1/\o.2.2.2.2.2.2.2.1=List.replicate 5 0:=by unfold po;rw[show xl=some R5 from rfl,Go.R.bs];refine Zj ((az (B:=B) (ms:=ms) f).mono λo⟨j,i,a,c,e,p,d,g,h⟩=>?_);rw[Th g];exact J ⟨a,c,e,p,d,h⟩
theorem Zht{ops}(hb:∀b∈bs,b.length<=20000):W (fp ds rs cs ss ms ps bs ops) λo=>o.2.2.2.2.2.2.2=true:=by
 unfold fp;refine Zj ((am hb).mono λx9⟨a1,a2⟩=>Yu (λq=>q=false->(ops.length:Int)<=20/\∀o∈ops,yp o) (λd=>by rw[a1]at d;simp only[Wx]at d) (λ_=>Zj ((ZgL Y).mono λm U=>J λe=>U (by simpa only[Wx]using e))) λq A=>Zp ⟨λ_=>Zj ((am a2).mono λo V=>J V.1),λd=>?_⟩);obtain⟨yl,y1⟩:=A d;refine Zj ((Zh0 (B:=BT) (ms:=x9.2.2.2.2.1) a2).mono λo V=>?_);obtain⟨N,C,P,c,y9,o1,o2,o3,o4,o5,-⟩:=V;refine Wo (W.Vy (λg=>∃(j:Nat)(x2:Nat)(R:List Zt),g.2.1=j/\j<=ops.length/\Wp BT (1+j) N C P x2 R g.2.2.2.2.2.2.2.2.2 g.2.2.1 g.2.2.2.1 g.2.2.2.2.1 g.2.2.2.2.2.1 g.2.2.2.2.2.2.1 g.2.2.2.2.2.2.2.1 g.2.2.2.2.2.2.2.2.1/\Told SR Ug R g.1/\mn g.2.2.2.2.2.2.2.2.2 g.2.2.2.2.2.2.2.1 g.1/\g.1.length<=8) (λ_=>True) (λg=>(ops.length-g.2.1).toNat) (λa=>a.2.2.2.2.2.2.2=true) ?_ Zw (λg⟨j,x2,R,e1,e2,e3,e4,e5,e6⟩=>?_) (λg _=>J rfl) λa u=>u);·refine⟨0,1,[],rfl,Y,o1,⟨[],[],s0 Ug,rfl,rfl,Zb,rfl,Zb⟩,λf p' h n=>?_,Zb⟩;obtain⟨dd,y4,fd,-,-,x1⟩:=o1.pr;obtain⟨p1,x,-,w2,-⟩:=x1 f h;have n:o.2.2.2.2.1[f]?=some p':=n;rw[n]at x;cases x;exact⟨VD _,w2.2.2.1,λe he=>by simp at he⟩
 ·obtain⟨x8,u2,yf,yx,y8,yy,ys,yt,y6,ci⟩:=g;dsimp only at e1 e3 e4 e5 e6;subst e1;refine Zp ⟨λg1=>?_,λ_=>J trivial⟩;simp only[Wx]at g1;refine Zj (YF ⟨Zw,λop y0=>(Zj ((Zja e3 Y (y1 op (X6 y0)) λ_ _ _ _ _ _ _ _ _ _=>trivial).mono λa u=>?_))⟩);obtain⟨z,l,w,r2⟩:=u;have T:=Zsd w r2 e4 e5;have w:Wp BT (1+(j+1)) N C P z l a.1 a.2.1 a.2.2.1 a.2.2.2.1 a.2.2.2.2.1 a.2.2.2.2.2.1 a.2.2.2.2.2.2.1 a.2.2.2.2.2.2.2.1:=by rw[<-BF];exact w
  rw[show Fi a.1=some a.1.2.2.2.2.1from rfl,Go.R.bs];dsimp only;rw[wS Y];have hg:∀{f:Nat}{y:Type}{m:Y8->Option y}{S:y->Prop},a.1.2.2.2.2.1=some f->(∀c,a.2.2.2.2.2.2.1[f]?=some c->PI SR c->YD Ug l c->Oo SR c.2.2.1.2.2.1 c.2.2.2.1 x8->W (m c) S)->W (O (ZA a.2.2.2.2.2.2.1 (Ze f)) m) S:=λ{f y m S}h U=>by obtain⟨dd,y4,fd,-,-,x1⟩:=w.pr;obtain⟨p1,x,-,w2,w3⟩:=x1 f h;rw[gt x];exact U p1 x w2 w3 (T.2 f p1 h x)
  refine Uu (λ_=>J trivial) (λ_=>J trivial) λy5=>Yu (λx7=>x7=false->∃f,a.1.2.2.2.2.1=some f) (λ_=>J λe=>by cases e) (λ_=>?_) λx7 hx=>Zp ⟨λ_=>J ⟨⟨j+1,z,l,rfl,Y,w,T.1,T.2,e6⟩,Zw⟩,λgx=>?_⟩
  ·rcases wV a.1.2.2.2.2.1with h|⟨f,h⟩;·rw[Cs h];exact J λe=>by cases e
   ·rw[Th h];exact hg h λc _ _ _ _=>J λ_=>⟨f,h⟩
  obtain⟨f,h⟩:=hx gx;rw[Th h];refine hg h λc hp I hM hH=>?_;rw[be P5];obtain⟨h1,h2,h3⟩:=id hH;have h8:c.2.2.1.2.2.1.length<=8:=by have:=I.2.2.1;have:=I.2.2.2.1;omega
  refine Zp ⟨λd=>by simp only[Wx]at d;omega,λ_=>Wo (W.Vy (λv=>∃(e:Nat)(i:Y8),v.2.1=e/\1<=e/\e<=c.2.2.1.2.2.1.length+1/\Wp BT (1+(j+1)) N C P z l a.1 a.2.1 a.2.2.1 a.2.2.2.1 a.2.2.2.2.1 a.2.2.2.2.2.1 v.2.2 a.2.2.2.2.2.2.2.1/\v.2.2[f]?=some i/\PI SR i/\YD Ug l i/\i.2.2.1.2.2.1=c.2.2.1.2.2.1/\i.2.2.2.1=c.2.2.2.1/\Oo SR c.2.2.1.2.2.1 c.2.2.2.1 v.1/\e-1<=v.1.length) (λv=>∃(i:Y8),Wp BT (1+(j+1)) N C P z l a.1 a.2.1 a.2.2.1 a.2.2.2.1 a.2.2.2.2.1 a.2.2.2.2.2.1 v.2.2 a.2.2.2.2.2.2.2.1/\v.2.2[f]?=some i/\YD Ug l i/\Oo SR i.2.2.1.2.2.1 i.2.2.2.1 v.1/\v.1.length<=8) (λv=>(c.2.2.1.2.2.1.length+1-v.2.1).toNat) (λ_=>False) ⟨1,c,rfl,Y,Y,w,hp,I,hM,rfl,rfl,hH,Y⟩ Zw (λv Z=>?_) (λv Z=>J ?_) λ_ e=>e.elim)⟩
  ·obtain⟨L',v2,x0⟩:=v;obtain⟨e,i,f1,E,f3,F,s,G,f7,t,H,r,xk⟩:=Z;dsimp only at f1 F s r xk;subst f1;dsimp only;rw[Th h,gt s,be P5,t];refine Zp ⟨λd=>?_,λ_=>J ⟨i,F,s,f7,by rw[t,H];exact r,by have:=r.1;dsimp only;omega⟩⟩;simp only[Wx]at d;rw[Th h,gt s];have xv:((c.2.2.1.2.2.1.length:Int)+1-((e+1:Nat):Int)).toNat<((c.2.2.1.2.2.1.length:Int)+1-(e:Int)).toNat:=Y;have xs:Zk (ZU (e:Int) 1)=((e-1:Nat):Int):=by simp only[Wx];rw[ZK Y];omega
   refine Zj ((rY (e:=(e:Int)) G).mono λk hs=>?_);obtain⟨⟨sg,s1,p⟩,Q,-⟩:=hs;rw[t,H]at Q;have Q:k.2=((Tt c.2.2.1.2.2.1 c.2.2.2.1 e,HW SR (Tt c.2.2.1.2.2.1 c.2.2.2.1 e)),0):=by
    rcases Q with⟨-,i⟩|⟨y2,C,-,-,k4⟩;·omega
    ·have:y2=e:=Y;subst this;exact k4
   rw[Q];obtain⟨yv,-,x6⟩:=j9 SR;have x5:(x0.set f k.1)[f]?=some k.1:=Vl s;refine Yu (λq=>q=false) (λd=>by simp only[Wx]at d) (λ_=>?_) λq A=>Zp ⟨λd=>(by rw[A]at d;cases d),λ_=>?_⟩
   ·rw[Th h];have X:GS SR k.1.2.1:=by rw[p];exact s1
    rw[show Y3 x0 f k.1=x0.set f k.1from rfl,gt x5,be (x6 k.1 X).2];have u:=Zme (e:=e) G Y (by rw[t];omega) X (x6 k.1 X).2;rw[t,H]at u;refine Zj (u.mono λy7 hc=>J (by rw[hc];rfl))
   refine Yu (λD=>Oo SR c.2.2.1.2.2.1 c.2.2.2.1 D/\e<=D.length) (λd=>Xa ⟨by have:=r.1;simp only[Wx,V9];omega,J ?_⟩) (λd=>J ⟨r,by simp only[Wx]at d;omega⟩) λD⟨l1,l2⟩=>?_;·simp only[Wx]at d;have M:L'.length+1=e:=Y;have:=r.snoc Y;rw[M]at this;exact⟨this,by simp[Z9];omega⟩
   have M:=l1.2.2 (e-1) (BG (Nat.sub_lt E YP) l2);rw[show e-1+1=e from Nat.sub_add_cancel E]at M;rw[xs];have x4:∀{y:Type}{m:SL->Option y},O (ZA D ((e-1:Nat):Int)) m=m (Tt c.2.2.1.2.2.1 c.2.2.2.1 e,HW SR (Tt c.2.2.1.2.2.1 c.2.2.2.1 e)):=λ{y m}=>be (Sz (Oi _) (by rw[Vz];exact M));have x3:0<=((e-1:Nat):Int)/\((e-1:Nat):Int)<Ze (Zf D):=⟨Oi _,Int.ofNat_lt.2 (BG (Nat.sub_lt E YP) l2)⟩;refine Xo ⟨x3,?_⟩;rw[x4];refine Yu (λq=>q=false) (λd=>by simp only[Wx]at d) (λ_=>Xo ⟨x3,?_⟩) λq A=>Zp ⟨λd=>(by rw[A]at d;cases d),λ_=>J ?_⟩;·rw[x4];refine Zj ((bO (WX (ZrU I E (show e<=c.2.2.1.2.2.1.length by omega)) YP)).mono λy5 hy=>J ?_);rw[hy.2 rfl];rfl
   ·rw[wS Y];exact⟨⟨e+1,k.1,rfl,Nat.le_add_left _ _,Y,F.qj (F.pr.put h s (by rw[p]) (by rw[p];exact⟨s1,G.2⟩) λy3=>by rw[p];exact y3),x5,by rw[p];exact⟨s1,G.2⟩,by rw[p];exact f7,by rw[p];exact t,by rw[p];exact H,l1,l2⟩,xv⟩
  ·obtain⟨i,v1,v2,v3,v4,v5⟩:=Z;refine⟨⟨j+1,z,l,rfl,Y,v1,Told.mem v3 v4,λj' p' K n=>?_,v5⟩,Zw⟩;have K:a.1.2.2.2.2.1=some j':=K;rw[h]at K;cases K;have n:v.2.2[f]?=some p':=n;rw[v2]at n;cases n;exact v4
end Go.R
set_option maxRecDepth 100000
namespace Go.R
open Go.Sl Go.Proofs
abbrev QS:Ty:=.un .u8 8
abbrev Xm:Ty:=.vec 32 QS
abbrev Xd:Ty:=.hole 0
abbrev Xn:Ty:=.sl QS
abbrev Ux:Ty:=.un .u32 32
abbrev Qn:Ty:=.un .u64 64
abbrev Oh:Ty:=.vec 16 QS
abbrev NJ:Ty:=.full QS
abbrev It:Ty:=.full .int
abbrev By:Ty:=.vec 8 Ux
abbrev Bw:Ty:=.hole 500
abbrev oM:Ty:=.vec 64 Ux
abbrev t0:Ty:=.own oM
abbrev t1:Ty:=.own By
abbrev t2:Ty:=.own Xm
abbrev t3:Ty:=.full Xn
abbrev t4:Ty:=.full Xm
abbrev t5:Ty:=.pair (.YO QS) .bool
abbrev t6:Ty:=.own t5
abbrev t7:Ty:=.pair Xm t4
abbrev t8:Ty:=.pair Oh t7
abbrev t9:Ty:=.pair .int t8
abbrev t10:Ty:=.pair .int t9
abbrev t11:Ty:=.own t10
abbrev t12:Ty:=.pair Xn .bool
abbrev t13:Ty:=.own t12
abbrev t14:Ty:=.full (.vec 128 QS)
abbrev t15:Ty:=.pair .int (.vec 128 QS)
abbrev t16:Ty:=.YO t15
abbrev t17:Ty:=.pair .int .bool
abbrev t18:Ty:=.pair t16 t17
abbrev t19:Ty:=.pair t14 t18
abbrev t20:Ty:=.pair t14 t19
abbrev t21:Ty:=.own t20
abbrev t22:Ty:=.sl t15
abbrev t23:Ty:=.pair .int Xn
abbrev t24:Ty:=.pair .int t23
abbrev t25:Ty:=.pair Ux t24
abbrev t26:Ty:=.own t25
abbrev t27:Ty:=.YM 0 t21
abbrev t28:Ty:=.pair Ux t17
abbrev t29:Ty:=.pair .int t28
abbrev t30:Ty:=.pair .int t29
abbrev t31:Ty:=.pair t27 t30
abbrev t32:Ty:=.own t31
abbrev t33:Ty:=.pair Xn Xn
abbrev t34:Ty:=.pair .int t33
abbrev t35:Ty:=.pair .int t34
abbrev t36:Ty:=.pair Xm Xn
abbrev t37:Ty:=.pair Xm t36
abbrev t38:Ty:=.pair .int t37
abbrev t39:Ty:=.pair .int t38
abbrev t40:Ty:=.pair Xn t39
abbrev t41:Ty:=.sl t40
abbrev t42:Ty:=.sl t39
abbrev t43:Ty:=.YO t42
abbrev t44:Ty:=.pair t41 t43
abbrev t45:Ty:=.own t44
abbrev t46:Ty:=.map .str .int
abbrev t47:Ty:=.pair .int Xm
abbrev t48:Ty:=.pair .int t47
abbrev t49:Ty:=.pair t47 t48
abbrev t50:Ty:=.pair Xm t49
abbrev t51:Ty:=.pair Xm t50
abbrev t52:Ty:=.pair .bool t51
abbrev t53:Ty:=.own t52
abbrev t54:Ty:=.YO t52
abbrev t55:Ty:=.only t54
abbrev t56:Ty:=.own t55
abbrev t57:Ty:=.pair Xm t41
abbrev t58:Ty:=.pair .int t57
abbrev t59:Ty:=.pair Xm t58
abbrev t60:Ty:=.pair .int t59
abbrev t61:Ty:=.YO t60
abbrev t62:Ty:=.pair Xn t42
abbrev t63:Ty:=.full t62
abbrev t64:Ty:=.pair t63 t46
abbrev t65:Ty:=.pair t61 t64
abbrev t66:Ty:=.pair t56 t65
abbrev t67:Ty:=.pair Xm t66
abbrev t68:Ty:=.own t67
abbrev t69:Ty:=.full t40
abbrev t70:Ty:=.pair Ux Ux
abbrev t71:Ty:=.pair .bool t70
abbrev t72:Ty:=.opt t31
abbrev t73:Ty:=.pair t72 .bool
abbrev t74:Ty:=.pair t71 t73
abbrev t75:Ty:=.pair t27 t74
abbrev t76:Ty:=.own t75
abbrev t77:Ty:=.sl Xm
abbrev t78:Ty:=.pair Xm t77
abbrev t79:Ty:=.pair Oh t78
abbrev t80:Ty:=.pair .int t79
abbrev t81:Ty:=.pair .int t80
abbrev t82:Ty:=.ptr t81
abbrev t83:Ty:=.pair t82 .int
abbrev t84:Ty:=.pair t82 t83
abbrev t85:Ty:=.pair Xm t84
abbrev t86:Ty:=.pair .int t85
abbrev t87:Ty:=.pair .int t86
abbrev t88:Ty:=.own t87
abbrev t89:Ty:=.pair .int .int
abbrev t90:Ty:=.map .int t89
abbrev t91:Ty:=.YO t35
abbrev t92:Ty:=.pair t91 .int
abbrev t93:Ty:=.pair t90 t92
abbrev t94:Ty:=.pair (.YO .int) t93
abbrev t95:Ty:=.pair t68 t94
abbrev t96:Ty:=.pair t88 t95
abbrev t97:Ty:=.pair t76 t96
abbrev t98:Ty:=.own t97
abbrev t99:Ty:=.YL 5 t98
abbrev t100:Ty:=.pair Xm Xm
abbrev t101:Ty:=.pair .int t100
abbrev t102:Ty:=.pair .int t101
abbrev t103:Ty:=.pair t102 Xn
abbrev t104:Ty:=.YO Xm
abbrev t105:Ty:=.YO t40
abbrev t106:Ty:=.pair t104 t105
abbrev t107:Ty:=.pair t103 t106
abbrev t108:Ty:=.pair .bool t107
abbrev t109:Ty:=.own t108
abbrev t110:Ty:=.pair t77 t41
abbrev t111:Ty:=.pair t103 t110
abbrev t112:Ty:=.pair .bool t111
abbrev t113:Ty:=.own t112
abbrev t114:Ty:=.pair Xn t4
abbrev t115:Ty:=.pair .int t114
abbrev t116:Ty:=.full t48
abbrev t117:Ty:=.YL 0 t21
abbrev t118:Ty:=.pair t77 t77
abbrev t119:Ty:=.pair t47 Xm
abbrev t120:Ty:=.sl t119
abbrev t121:Ty:=.pair t47 t100
abbrev t122:Ty:=.pair Xm t121
abbrev t123:Ty:=.pair Xm t122
abbrev t124:Ty:=.pair .int t123
abbrev t125:Ty:=.pair t120 t124
abbrev t126:Ty:=.pair .bool t123
abbrev t127:Ty:=.sl t126
abbrev t128:Ty:=.pair t41 t77
abbrev t129:Ty:=.pair t127 t128
abbrev t130:Ty:=.pair t42 t129
abbrev t131:Ty:=.pair t125 t130
abbrev t132:Ty:=.pair Xm t131
abbrev t133:Ty:=.pair t118 t132
abbrev t134:Ty:=.pair t118 t133
abbrev t135:Ty:=.pair t103 t134
abbrev t136:Ty:=.pair Xn t135
abbrev t137:Ty:=.pair Xn t136
abbrev t138:Ty:=.pair .int t137
abbrev t139:Ty:=.pair .int t138
abbrev t140:Ty:=.pair .int t139
abbrev t141:Ty:=.pair .int t140
abbrev t142:Ty:=.pair .int t141
abbrev t143:Ty:=.pair .int t142
abbrev t144:Ty:=.pair .int t143
abbrev t145:Ty:=.YO t144
abbrev t146:Ty:=.pair .int t17
abbrev t147:Ty:=.pair .int t146
abbrev t148:Ty:=.pair t145 t147
abbrev t149:Ty:=.pair t103 t148
abbrev t150:Ty:=.pair t68 t149
abbrev t151:Ty:=.pair .int t150
abbrev t152:Ty:=.pair .int t151
abbrev t153:Ty:=.pair Xn t152
abbrev t154:Ty:=.pair t76 t153
abbrev t155:Ty:=.own t154
abbrev t156:Ty:=.YL 1 t155
abbrev t157:Ty:=.pair .int t48
abbrev t158:Ty:=.pair .int t157
abbrev t159:Ty:=.pair .int t158
abbrev t160:Ty:=.pair .int t159
abbrev t161:Ty:=.pair .int t160
abbrev t162:Ty:=.pair .int t161
abbrev t163:Ty:=.YO t27
abbrev t164:Ty:=.YM 5 t98
abbrev t165:Ty:=.YM 1 t155
abbrev t166:Ty:=.full t165
abbrev t167:Ty:=.pair .bool t144
abbrev t168:Ty:=.pair .int t167
abbrev t169:Ty:=.pair .int t168
abbrev t170:Ty:=.pair t102 t169
abbrev t171:Ty:=.pair .int t170
abbrev t172:Ty:=.pair Xn t171
abbrev t173:Ty:=.pair .int t172
abbrev t174:Ty:=.own t173
abbrev t175:Ty:=.YM 3 t174
abbrev t176:Ty:=.pair .int t42
abbrev t177:Ty:=.pair Xn t176
abbrev t178:Ty:=.own t177
abbrev t179:Ty:=.YM 4 t178
abbrev t180:Ty:=.map .str t179
abbrev t181:Ty:=.pair .int t180
abbrev t182:Ty:=.pair .int t181
abbrev t183:Ty:=.pair .int t182
abbrev t184:Ty:=.pair t144 t183
abbrev t185:Ty:=.pair t175 t184
abbrev t186:Ty:=.own t185
abbrev t187:Ty:=.YM 2 t186
abbrev t188:Ty:=.YO t187
abbrev t189:Ty:=.YM 6 NJ
abbrev t190:Ty:=.pair .int t189
abbrev t191:Ty:=.full t190
abbrev t192:Ty:=.pair t191 .int
abbrev t193:Ty:=.pair t102 t42
abbrev t194:Ty:=.pair .int t193
abbrev t195:Ty:=.pair Xn t194
abbrev t196:Ty:=.pair t144 t195
abbrev t197:Ty:=.pair t144 t196
abbrev t198:Ty:=.pair .int t197
abbrev t199:Ty:=.pair .int t198
abbrev t200:Ty:=.pair .int t199
abbrev t201:Ty:=.YO t200
abbrev t202:Ty:=.pair .int t35
abbrev t203:Ty:=.pair .int t202
abbrev t204:Ty:=.full t203
abbrev t205:Ty:=.pair t204 (.YO .int)
abbrev t206:Ty:=.pair t201 t205
abbrev t207:Ty:=.pair t192 t206
abbrev t208:Ty:=.pair Xn t207
abbrev t209:Ty:=.pair t188 t208
abbrev t210:Ty:=.pair t166 t209
abbrev t211:Ty:=.pair t164 t210
abbrev t212:Ty:=.pair t163 t211
abbrev t213:Ty:=.pair It t212
abbrev t214:Ty:=.pair .int t213
abbrev t215:Ty:=.pair t162 t214
abbrev t216:Ty:=.own t215
abbrev t217:Ty:=.YL 2 t186
abbrev t218:Ty:=.YL 3 t174
abbrev t219:Ty:=.own t162
abbrev t220:Ty:=.own t125
abbrev t221:Ty:=.own t144
abbrev t222:Ty:=.YL 6 NJ
abbrev t223:Ty:=.full t126
abbrev t224:Ty:=.full t144
abbrev t225:Ty:=.only t13
abbrev t226:Ty:=.own t225
abbrev t227:Ty:=.full t119
abbrev t228:Ty:=.full t39
abbrev t229:Ty:=.own t224
abbrev t230:Ty:=.pair t69 t77
abbrev t231:Ty:=.pair t127 t230
abbrev t232:Ty:=.pair t42 t231
abbrev t233:Ty:=.pair t125 t232
abbrev t234:Ty:=.pair Xm t233
abbrev t235:Ty:=.pair t118 t234
abbrev t236:Ty:=.pair t118 t235
abbrev t237:Ty:=.pair t103 t236
abbrev t238:Ty:=.pair Xn t237
abbrev t239:Ty:=.pair Xn t238
abbrev t240:Ty:=.pair .int t239
abbrev t241:Ty:=.pair .int t240
abbrev t242:Ty:=.pair .int t241
abbrev t243:Ty:=.pair .int t242
abbrev t244:Ty:=.pair .int t243
abbrev t245:Ty:=.pair .int t244
abbrev t246:Ty:=.pair .int t245
abbrev t247:Ty:=.pair t227 t124
abbrev t248:Ty:=.own t47
abbrev t249:Ty:=.map Xm .int
abbrev t250:Ty:=.pair Xd t249
abbrev t251:Ty:=.own t250
abbrev t252:Ty:=.sl t144
abbrev t253:Ty:=.pair .int t77
abbrev t254:Ty:=.pair .int t253
abbrev t255:Ty:=.YL 4 t178
abbrev t256:Ty:=.full t103
abbrev t257:Ty:=.sl Xn
abbrev t258:Ty:=.pair .int t89
abbrev t259:Ty:=.sl t35
abbrev t260:Ty:=.own t35
abbrev t261:Ty:=.cons Bw .nl
abbrev t262:Ty:=.fn 279 .nl t261
abbrev t263:Ty:=.sl t33
abbrev t264:Ty:=.pair t41 (.sl t42)
abbrev t265:Ty:=.pair .int (.pair Xn t77)
abbrev t266:Ty:=.opt t67
abbrev t267:Ty:=.pair .int (.pair .int (.pair .int (.pair .int (.pair Xn (.pair Xn (.sl .int))))))
abbrev t268:Ty:=.pair .int (.pair t195 t176)
abbrev t269:Ty:=.cons Xd .nl
abbrev t270:Ty:=.fn 158 .nl t261
abbrev t271:Ty:=.pair Xm (.pair t125 t42)
abbrev t272:Ty:=.own (.pair (.hole 90) t249)
abbrev t273:Ty:=.sl t267
abbrev t274:Ty:=.pair t56 t249
abbrev a1(a:Ty):Ty:=.cons a .nl
abbrev a2(a b:Ty):Ty:=.cons a (.cons b .nl)
abbrev a3(a b c:Ty):Ty:=.cons a (.cons b (.cons c .nl))
abbrev a4(a b c d:Ty):Ty:=.cons a (.cons b (.cons c (.cons d .nl)))
abbrev a5(a b c d e:Ty):Ty:=.cons a (.cons b (.cons c (.cons d (.cons e .nl))))
abbrev a6(a b c d e f:Ty):Ty:=.cons a (.cons b (.cons c (.cons d (.cons e (.cons f .nl)))))
abbrev Vc:Ty:=a2 Xd .int
abbrev Xe:Ty:=a1 .int
abbrev XH:Ty:=a1 .bool
abbrev Wz:Ty:=a1 Xd
abbrev UU:Ty:=a1 Xn
abbrev TA:Ty:=a1 Xm
abbrev MJ:Ty:=a2 Xn .int
abbrev LA:Ty:=a2 Xd t144
abbrev Jd:Ty:=a2 .int .int
abbrev Gt:Ty:=a2 Xd Xn
abbrev wh:Ty:=a3 Xd .int .int
abbrev MI:Ty:=a1 t268
abbrev Bz:Ty:=a2 t144 .bool
abbrev wj:Ty:=a2 Xm .int
abbrev wl:Ty:=a2 t144 .int
abbrev Gs:Ty:=a1 Qn
abbrev oN:Ty:=a2 .V4 t144
abbrev oO:Ty:=a2 QS t257
abbrev dx:Ty:=a3 Xd .int Xn
abbrev oP:Ty:=a2 Xd t267
abbrev dy:Ty:=a3 Xd t144 .int
abbrev oQ:Ty:=a2 t118 .int
abbrev B0:List (Nat×Ty):=[(1000,t117)]
abbrev B1:List (Nat×Ty):=[(0,t6)]
abbrev B2:List (Nat×Ty):=[(0,t21)]
abbrev B3:List (Nat×Ty):=[(0,t13)]
abbrev B4:List (Nat×Ty):=[(0,t76)]
abbrev B5:List (Nat×Ty):=[(0,t76),(1000,t117)]
abbrev B6:List (Nat×Ty):=[(0,t98)]
abbrev B7:List (Nat×Ty):=[(0,t68)]
abbrev B8:List (Nat×Ty):=[(0,t88)]
abbrev B9:List (Nat×Ty):=[(500,t260)]
abbrev SF:List (Nat×Ty):=[(0,t56)]
abbrev cB:List (Nat×Ty):=[(1000,t117),(1005,t99)]
abbrev cC:List (Nat×Ty):=[(0,t109)]
abbrev cD:List (Nat×Ty):=[(0,.own (.pair (.hole 90) t153))]
abbrev nU:List (Nat×Ty):=[(0,t32)]
abbrev wY:List (Nat×Ty):=[(0,t32),(1000,t117)]
abbrev O3:List (Nat×Ty):=[(0,t155)]
abbrev cE:List (Nat×Ty):=[(1000,t117),(1001,t156)]
abbrev wZ:List (Nat×Ty):=[(0,t216),(1000,t117),(1001,t156),(1005,t99)]
abbrev cF:List (Nat×Ty):=[(1003,t218)]
abbrev w9:List (Nat×Ty):=[(1000,t117),(1001,t156),(1002,t217),(1003,t218),(1005,t99)]
abbrev O4:List (Nat×Ty):=[(0,t216)]
abbrev Jn:List (Nat×Ty):=[(0,t174)]
abbrev Pv:List (Nat×Ty):=[(0,t216),(1006,t222)]
abbrev cG:List (Nat×Ty):=[(0,t216),(1,t186),(1003,t218),(1006,t222)]
abbrev cH:List (Nat×Ty):=[(0,t216),(1002,t217),(1003,t218),(1006,t222)]
abbrev ve:List (Nat×Ty):=[(0,t98),(1000,t117)]
abbrev nV:List (Nat×Ty):=[(500,.own .int)]
abbrev B28:List (Nat×Ty):=[(0,t56),(500,.own .int)]
abbrev cI:List (Nat×Ty):=[(0,t216),(1000,t117),(1005,t99),(1006,t222)]
abbrev Um:List (Nat×Ty):=[(0,t226)]
abbrev cJ:List (Nat×Ty):=[(0,t226),(1,t221)]
abbrev nW:List (Nat×Ty):=[(500,t221)]
abbrev cK:List (Nat×Ty):=[(500,t221),(501,t229)]
abbrev cL:List (Nat×Ty):=[(0,t216),(1005,t99),(1006,t222)]
abbrev cM:List (Nat×Ty):=[(0,t155),(1,t221)]
abbrev nX:List (Nat×Ty):=[(0,t272),(90,t56)]
abbrev IC:List (Nat×Ty):=[(0,t155),(1000,t117)]
abbrev cN:List (Nat×Ty):=[(0,t216),(1,t155),(1000,t117),(1006,t222)]
abbrev cP:List (Nat×Ty):=[(0,t216),(1,t186),(1003,t218)]
abbrev cQ:List (Nat×Ty):=[(1004,t255)]
abbrev nY:List (Nat×Ty):=[(0,t178)]
abbrev cR:List (Nat×Ty):=[(0,t216),(2,t186),(1003,t218),(1004,t255)]
abbrev cS:List (Nat×Ty):=[(0,t216),(1002,t217),(1003,t218),(1004,t255)]
abbrev vf:List (Nat×Ty):=[(0,t216),(1000,t117),(1001,t156),(1002,t217),(1003,t218),(1004,t255),(1005,t99),(1006,t222)]
abbrev cT:List (Nat×Ty):=[(0,t216),(1001,t156),(1006,t222)]
abbrev vh:List (Nat×Ty):=[(1000,t117),(1001,t156),(1002,t217),(1003,t218),(1004,t255),(1005,t99),(1006,t222)]
abbrev X2{b X c R:Type}(f:b->Option R)(a:b×X)(_:c):=f a.1
abbrev MF{b c X d R:Type}(f:c->b->Option R)(a:b×X)(x:c×d):=f x.1 a.1
abbrev WQ{b c X d R:Type}(f:b->c->Option R)(a:b×c×X)(_:d):=f a.1 a.2.1
abbrev Im{b c d e X g R:Type}(f:b->c->d->e->Option R)(a:b×c×d×e×X)(_:g):=f a.1 a.2.1 a.2.2.1 a.2.2.2.1
abbrev Of{b c d X e R:Type}(f:b->c->d->Option R)(a:b×c×d×X)(_:e):=f a.1 a.2.1 a.2.2.1
abbrev Y4{d b c X e R:Type}(f:c->b->Option R)(a:d×b×X)(x:c×e):=f x.1 a.2.1
abbrev Rq{e b c d X g R:Type}(f:d->b->c->Option R)(a:e×b×c×X)(x:d×g):=f x.1 a.2.1 a.2.2.1
abbrev Ws{a X b R:Type}(f:a->Option R)(_:X)(x:a×b):=f x.1
abbrev QM{e b c d X g R:Type}(f:c->d->b->Option R)(a:e×b×X)(x:c×d×g):=f x.1 x.2.1 a.2.1
abbrev Gk{g b c d e X h R:Type}(f:e->b->c->d->Option R)(a:g×b×c×d×X)(x:e×h):=f x.1 a.2.1 a.2.2.1 a.2.2.2.1
abbrev hi(i:Nat)(t:Ty):HI:=⟨i,false,t⟩
abbrev hb(i:Nat)(t:Ty):HI:=⟨i,true,t⟩
abbrev H0:List HI:=[hi 0 Ux,hi 2 .int]
abbrev H1:List HI:=[hi 0 Qn,hi 2 .int]
abbrev H2:List HI:=[hb 1 t219,hb 27 t216]
abbrev H3:List HI:=hb 1003 t218::H2
abbrev H4:List HI:=hb 1002 t217::H3
abbrev H5:List HI:=hb 1000 t117::H4
abbrev H6:List HI:=[hi 16 .int,hb 0 t6]
abbrev H7:List HI:=[hb 0 t6,hb 3 t220]
abbrev H8:List HI:=[hb 0 t6,hb 4 t221]
abbrev H9:List HI:=[hb 1006 t222,hb 0 t216]
abbrev bk:List HI:=[hi 3 t4,hi 4 .int]
abbrev bm:List HI:=[hi 7 It,hi 8 It]
abbrev Ah:List HI:=[hi 12 .int,hb 0 t226]
abbrev mf:List HI:=[hb 0 t226,hb 3 t220]
abbrev Qs:List HI:=[hb 0 t226,hb 1 t221]
abbrev vw:List HI:=[hb 3 t221,hb 5 t229]
abbrev mg:List HI:=hb 0 t98::vw
abbrev bn:List HI:=[hb 0 t56,hb 32 t251]
abbrev mh:List HI:=[hb 1000 t117,hb 0 t155]
abbrev H19:List HI:=[hb 0 t216,hb 6 t221]
abbrev mi:List HI:=hb 1006 t222::H19
abbrev ZX{A:Type}(r:A):(A×Unit)×Unit:=((r,()),())
abbrev ZY{A:Type}(c:A×Unit)(_:Unit):A:=c.1
abbrev WR{A B:Type}(r:A×B):(A×B×Unit)×Unit:=((r.1,r.2,()),())
abbrev WT{A B:Type}(c:A×B×Unit)(_:Unit):A×B:=(c.1,c.2.1)
abbrev DV{A B C:Type}(r:A×B×C):(A×B×C×Unit)×Unit:=((r.1,r.2.1,r.2.2,()),())
abbrev D8{A B C:Type}(c:A×B×C×Unit)(_:Unit):A×B×C:=(c.1,c.2.1,c.2.2.1)
abbrev Ub{A:Type}(r:A):Unit×A×Unit:=((),(r,()))
abbrev Uc{A:Type}(_:Unit)(d:A×Unit):A:=d.1
abbrev Wu{A B:Type}(r:A×B):(B×Unit)×A×Unit:=((r.2,()),(r.1,()))
abbrev Wv{A B:Type}(c:B×Unit)(d:A×Unit):A×B:=(d.1,c.1)
abbrev R8{A B C:Type}(r:A×B×C):(B×C×Unit)×A×Unit:=((r.2.1,r.2.2,()),(r.1,()))
abbrev Qa{A B C:Type}(c:B×C×Unit)(d:A×Unit):A×B×C:=(d.1,c.1,c.2.1)
abbrev aV{A B C D:Type}(r:A×B×C×D):(B×C×D×Unit)×A×Unit:=((r.2.1,r.2.2.1,r.2.2.2,()),(r.1,()))
abbrev ZaE{A B C D:Type}(c:B×C×D×Unit)(d:A×Unit):A×B×C×D:=(d.1,c.1,c.2.1,c.2.2.1)
abbrev AN{A B:Type}(r:A×B):Unit×A×B×Unit:=((),(r.1,r.2,()))
abbrev ze{A B:Type}(_:Unit)(d:A×B×Unit):A×B:=(d.1,d.2.1)
abbrev PM{A B C:Type}(r:A×B×C):(C×Unit)×A×B×Unit:=((r.2.2,()),(r.1,r.2.1,()))
abbrev PO{A B C:Type}(c:C×Unit)(d:A×B×Unit):A×B×C:=(d.1,d.2.1,c.1)
abbrev DW{A B C D:Type}(r:A×B×C×D):(C×D×Unit)×A×B×Unit:=((r.2.2.1,r.2.2.2,()),(r.1,r.2.1,()))
abbrev D9{A B C D:Type}(c:C×D×Unit)(d:A×B×Unit):A×B×C×D:=(d.1,d.2.1,c.1,c.2.1)
abbrev ZiU{A B C:Type}(r:A×B×C):Unit×A×B×C×Unit:=((),(r.1,r.2.1,r.2.2,()))
abbrev Zjz{A B C:Type}(_:Unit)(d:A×B×C×Unit):A×B×C:=(d.1,d.2.1,d.2.2.1)
abbrev aW{A B C D:Type}(r:A×B×C×D):(D×Unit)×A×B×C×Unit:=((r.2.2.2,()),(r.1,r.2.1,r.2.2.1,()))
abbrev ZaF{A B C D:Type}(c:D×Unit)(d:A×B×C×Unit):A×B×C×D:=(d.1,d.2.1,d.2.2.1,c.1)
abbrev ZiV{A B C D:Type}(r:A×B×C×D):Unit×A×B×C×D×Unit:=((),(r.1,r.2.1,r.2.2.1,r.2.2.2,()))
abbrev ZjA{A B C D:Type}(_:Unit)(d:A×B×C×D×Unit):A×B×C×D:=(d.1,d.2.1,d.2.2.1,d.2.2.2.1)
abbrev Fl{A B C D E:Type}(r:A×B×C×D×E):(E×Unit)×A×B×C×D×Unit:=((r.2.2.2.2,()),(r.1,r.2.1,r.2.2.1,r.2.2.2.1,()))
abbrev FA{A B C D E:Type}(c:E×Unit)(d:A×B×C×D×Unit):A×B×C×D×E:=(d.1,d.2.1,d.2.2.1,d.2.2.2.1,c.1)
abbrev ZiW{A B C D E a:Type}(r:A×B×C×D×E×a):(a×Unit)×A×B×C×D×E×Unit:=((r.2.2.2.2.2,()),(r.1,r.2.1,r.2.2.1,r.2.2.2.1,r.2.2.2.2.1,()))
abbrev ZjB{A B C D E a:Type}(c:a×Unit)(d:A×B×C×D×E×Unit):A×B×C×D×E×a:=(d.1,d.2.1,d.2.2.1,d.2.2.2.1,d.2.2.2.2.1,c.1)
abbrev ZiX{A B C D E a G:Type}(r:A×B×C×D×E×a×G):(a×G×Unit)×A×B×C×D×E×Unit:=((r.2.2.2.2.2.1,r.2.2.2.2.2.2,()),(r.1,r.2.1,r.2.2.1,r.2.2.2.1,r.2.2.2.2.1,()))
abbrev ZjC{A B C D E a G:Type}(c:a×G×Unit)(d:A×B×C×D×E×Unit):A×B×C×D×E×a×G:=(d.1,d.2.1,d.2.2.1,d.2.2.2.1,d.2.2.2.2.1,c.1,c.2.1)
abbrev aX{A B C D E a G H:Type}(r:A×B×C×D×E×a×G×H):(H×Unit)×A×B×C×D×E×a×G×Unit:=((r.2.2.2.2.2.2.2,()),(r.1,r.2.1,r.2.2.1,r.2.2.2.1,r.2.2.2.2.1,r.2.2.2.2.2.1,r.2.2.2.2.2.2.1,()))
abbrev ZaG{A B C D E a G H:Type}(c:H×Unit)(d:A×B×C×D×E×a×G×Unit):A×B×C×D×E×a×G×H:=(d.1,d.2.1,d.2.2.1,d.2.2.2.1,d.2.2.2.2.1,d.2.2.2.2.2.1,d.2.2.2.2.2.2.1,c.1)
abbrev aY{A B C D E a G H I:Type}(r:A×B×C×D×E×a×G×H×I):(I×Unit)×A×B×C×D×E×a×G×H×Unit:=((r.2.2.2.2.2.2.2.2,()),(r.1,r.2.1,r.2.2.1,r.2.2.2.1,r.2.2.2.2.1,r.2.2.2.2.2.1,r.2.2.2.2.2.2.1,r.2.2.2.2.2.2.2.1,()))
abbrev ZaH{A B C D E a G H I:Type}(c:I×Unit)(d:A×B×C×D×E×a×G×H×Unit):A×B×C×D×E×a×G×H×I:=(d.1,d.2.1,d.2.2.1,d.2.2.2.1,d.2.2.2.2.1,d.2.2.2.2.2.1,d.2.2.2.2.2.2.1,d.2.2.2.2.2.2.2.1,c.1)
noncomputable def Z0:Xq:={P:=Tryz.prog,ov:=[(8,.pair .int (.pair .int (.pair .bool QS))),(14,.pair .str Qn),(25,t216),(31,t267),(36,t102),(39,t195),(41,t268),(43,t164),(47,t103),(56,t165),(62,t203),(67,t157),(69,t162),(78,t192),(81,t215),(89,t76),(90,t88),(91,t68),(92,t90),(95,t97),(103,t154),(105,t27),(109,t175),(111,t187),(112,t180),(115,t118),(118,t47),(120,t125),(124,t144),(126,t185),(136,t190),(144,.own t192),(150,t56),(153,t46),(155,t67),(159,t6),(161,t5),(166,t13),(172,t82),(174,t87),(178,t20),(184,t173),(190,t35),(193,t226),(195,t225),(201,.ptr t144),(209,t15),(213,t60),(218,t12),(223,t265),(232,t81),(241,t108),(247,t6),(249,t5),(258,t89),(267,t39),(271,t126),(275,t40),(287,t200),(288,t179),(299,t254),(307,t258),(320,t71),(323,t32),(325,t75),(332,t55),(358,t33),(363,t44),(376,t119),(383,t271),(396,t177),(407,t48),(423,t31),(425,t25),(428,t109),(446,t62),(472,t52),(502,.own t274),(503,t249),(505,t274),(515,.ptr .int),(525,.ptr Qn),(538,.ptr QS)],gl:=[(0,⟨.vec 5 (.pair .int (.pair .int .int)),Ae⟩),(1,⟨.vec 8 Ux,Ac⟩),(2,⟨.vec 64 Ux,Ad⟩),(3,⟨.vec 32 QS,Af⟩),(4,⟨.vec 64 QS,Dw⟩)],tb:=[],hs:=[],cl:=[46,53,253,256,355]}
structure CO where
 c:FC
 k:UG Z0 c
noncomputable def mk(f:Nat)(A:Ty)(B:List (Nat×Ty))(C:Ty)(D:List (Nat×Ty)){ρ:Type}(m:A.den->(Tw B).den->Option ρ)(dec:ρ->C.den×(Tw D).den)(b:C.den->(Tw D).den->ρ)(e:Func)(hs:List mo)(tb:List CO)(u:Bool:=false)(sp:List Nat:=[])(fz:List Nat:=[])(h:Tryz.prog.funcs[f]?=some e:=by kernel_rfl)(g:Q7 Tryz.prog f=true:=by kernel_rfl)(i:∀y z,dec (b y z)=(y,z):=by intros;rfl)(j:∀a x,jM {Z0 with tb:=tb.map CO.c,hs:=hs,sp:=sp,fz:=fz} e u A B C D b a x=m a x:=by intros;kernel_rfl):CO:=⟨⟨f,A,B,C,D,ρ,u,m,dec⟩,UG.cfg (Z:={Z0 with tb:=tb.map CO.c,hs:=hs,sp:=sp,fz:=fz}) rfl rfl (Zlq h g b i (λk d=>by obtain⟨c,_,rfl⟩:=Uj d;exact UG.cfg rfl rfl c.k) (ZlE ZD) ZiB (show Tryz.prog.follows .mixedOrders=true by kernel_rfl) λa x l d=>(j a x).trans d)⟩
end Go.R
