import Derived.Test.YtnboodbndkcnaaaGreatDoorG5
set_option linter.all false
namespace Go.Sl
def HY:=@Int.le_refl
def C9:=@Option.eq_none_or_eq_some
def yu:=@List.mem_of_mem_eraseIdx
def yx:=@List.mem_or_eq_of_mem_set
def yF:=@Nat.sub_self
def sc:=@Classical.byContradiction
def so:=@List.getElem?_map
def jc:=@Int.le_trans
def ji:=λ{a b c}=>(@List.mem_iff_getElem? a b c).1
def Zbi:=@List.getElem?_replicate
def Zbj:=@List.getElem?_set_ne
def ZkD:=@List.eraseIdx_eq_take_drop_succ
end Go.Sl
namespace Go.R
open Go.Sl
def Pr(q:Ux):Prop:=(0<=q.1/\q.1<2147483648)/\(0<=q.2.1/\q.2.1<2147483648)/\q.2.2.1.length<=32/\q.2.2.2.length<=64
def RC(b:Zt):Zt:=Xf (BitVec.ofInt 64 (b.length:Int)) 2++b
def PU(q:Ux):Zt:=w4 (Yl 32 q.1)++(w4 (Yl 32 q.2.1)++(RC q.2.2.1++RC q.2.2.2))
def Uj(t:Int)(l:L Ux):Zt:=w4 (Yl 32 t)++(Xf (BitVec.ofInt 64 (l.length:Int)) 2++(l.map PU).flatten)
def zF(b):(RC b).length=2+b.length:=by unfold RC;simp[Va]
def Zoo{q}(h:Pr q):(PU q).length<=108:=by have:=h.2.2;unfold PU;simp[YM,UD,zF];omega
def xR:∀{l:L Ux},(∀q∈l,Pr q)->(l.map PU).flatten.length<=108*l.length|[],_=>Zc|q::l,h=>by have c:=Zoo (h q Zc);have d:=xR λb a=>h b (XY _ a);grind
def qO{t}{l}(a:l.length<=16)(h:∀q∈l,Pr q):(Uj t l).length<=1734:=by have:=xR h;unfold Uj;simp only[YM,UD,Va];omega
variable {F:L Zt->Zt->Prop}{D e:L Zt}{z:L Yz}{G:L YY}{H:L Y6}{g:L Xn}{l y:Type}{E i:Z5}{B f c a K:Nat}{I:L WZ}{p M:Int}{j:l->Prop}{A:Zt}{s:ZP}{C:Yy}{o:Zg l}{J:ZN}{d:Yz}{k:Yb}{x:l}{r:L l}{N:YY}{Q:Zg y}{R:Rx}{P:Bool}{S:y->Zg l}{T:Y6}{U:Int->Int}{X:y}{b:W0}{Z:L Vb}{h:Zg Nat}
def kv{b}(h:A.length<=3000000000)(a:b.length<=8192):NO (A,false) b=some (A++RC b,false):=by
 rw[rR Zp];have:Vd (A,false) b.length 8192=(A,false):=by unfold Vd;rw[Ys Y]
 rw[this];rfl
def ZaK{l}{n:Nat}(h:l.length<=3000000000)(a:n<=4096):Oh (l,false) n=some (l++Xf (BitVec.ofInt 64 n) 2,false):=by
 rw[jL Zp];have:Vd (l,false) n 4096=(l,false):=by unfold Vd;rw[Ys Y]
 rw[this];rfl
def rdC{n:Nat}{l}{m:Int}(h:n<=m)(h2:n<=4096):LH (Xf (BitVec.ofInt 64 n) 2++l,false) m=some ((l,false),(n:Int)):=by rw[um];unfold M6;rw[pk2 Y,Zf0 (n:=n) Y,Ys Zp,Cx _ _ (by rfl)]
def ZrG{l}(j:l.length<=16)(h:∀q∈l,Pr q):nU p l=some (Uj p l,0):=by
 have t:=xR h;unfold nU;rw[be (NN Zc),be (ZaK (n:=l.length) (by simp[UD]) Y)];refine Vp (Zn (W.Tl (λb=>∃a:Nat,b.1=a/\a<=l.length/\b.2=([]++w4 (Yl 32 p)++Xf (BitVec.ofInt 64 (l.length:Int)) 2++((l.take a).map PU).flatten,false)) (λb=>b.2=(Uj p l,false)) (λb=>(l.length-b.1).toNat) ⟨0,rfl,Y,Zc⟩ ZB (λb e=>?_) λb e=>?_))
 ·obtain⟨u,v⟩:=b;obtain⟨a,f,o,g⟩:=e;dsimp only at f g;subst f g;refine Zr ⟨λd=>?_,λd=>Zb ?_⟩
  ·simp only[Wx]at d;refine Zn (YN ⟨ZB,λq c=>?_⟩);rw[WL]at c;have k:=xR (l:=l.take a) λm c=>h m (yw c);rw[UF]at k;generalize i:[]++w4 (Yl 32 p)++Xf (BitVec.ofInt 64 (l.length:Int)) 2++((l.take a).map PU).flatten=P;have r:P.length<=100000:=by rw[<-i];simp only[YM,W6,UD,Va];omega
   have s:=(h q (X2 c)).2.2;rw[be (NN Y),be (NN (by simp only[YM,UD];omega)),be (kv (by simp only[YM,UD];omega) Y),be (kv (by simp only[YM,UD,zF];omega) Y),show Zm (Zv (a:Int) 1)=((a+1:Nat):Int)by simp only[Wx];rw[ZK Y];rfl];refine Zb ⟨⟨a+1,rfl,Y,?_⟩,ZB⟩;rw[NS,c];simp only[Option.toList,WW,C0,Wb,NR,Iq,Zbg,XX];rw[<-Yc,i];unfold PU;simp only[Yc]
  ·simp only[Wx]at d;show(([]++w4 (Yl 32 p)++Xf (BitVec.ofInt 64 (l.length:Int)) 2++((l.take a).map PU).flatten,false):ZP)=(Uj p l,false);rw[UT Y];unfold Uj;simp only[UG,Yc]
 ·rw[e,be (Ig (by have:=qO (t:=p) j h;omega))];exact Zb rfl
def nr{b}(hb:b.length<=4000000):W (Kq b) λo=>(0<=o.1/\o.1<4294967296)/\(o.2.1.length<=16/\∀q∈o.2.1,Pr q)/\∀t l,l.length<=16->(∀q∈l,Pr q)->0<=t->t<4294967296->b=Uj t l->o=(t,l,true):=by
 unfold Kq;rw[be (O1 Y),be Pq,be um];obtain⟨c1,E,c3⟩:=@gj (tk ((b,false):ZP) 4).1 16 Y;have c0:=(@Te ((b,false):ZP) 4).1;dsimp only at c0 c1 E c3⊢;have y:∀t l,l.length<=16->(∀q∈l,Pr q)->0<=t->t<4294967296->b=Uj t l->(pk ((b,false):ZP) 4).1.setWidth 32=Yl 32 t/\M6 (tk ((b,false):ZP) 4).1 16=(((l.map PU).flatten,false),(l.length:Int)):=by intro t l g d e f c;have v:=zu (Yl 32 t) (Xf (BitVec.ofInt 64 (l.length:Int)) 2++(l.map PU).flatten);rw[Pq]at v;have v:=X9 v;have P:=rdC (n:=l.length) (l:=(l.map PU).flatten) (m:=16) Y Y;rw[um]at P;have r3:(tk ((Uj t l,false):ZP) 4).1=(Xf (BitVec.ofInt 64 (l.length:Int)) 2++(l.map PU).flatten,false):=WX Prod.fst v;rw[c,r3];exact⟨WX Prod.snd v,X9 P⟩
 generalize M6 (tk ((b,false):ZP) 4).1 16=C at*;refine WM (W.VQ (λh=>∃a:Nat,h.2.1=a/\(a:Int)<=C.2/\h.1.length=a/\(∀q∈h.1,Pr q)/\h.2.2.1.length<=b.length/\∀t l,l.length<=16->(∀q∈l,Pr q)->0<=t->t<4294967296->b=Uj t l->h.1=l.take a/\h.2.2=(((l.drop a).map PU).flatten,false)) (λh=>h.1.length<=16/\(∀q∈h.1,Pr q)/\h.2.2.1.length<=b.length/\∀t l,l.length<=16->(∀q∈l,Pr q)->0<=t->t<4294967296->b=Uj t l->h.1=l/\h.2.2=([],false)) (λh=>(C.2-h.2.1).toNat) (λO=>O=(0,[],false)/\∀t l,l.length<=16->(∀q∈l,Pr q)->0<=t->t<4294967296->b=Uj t l->False) ?_ ZB (λh u=>?_) (λh u=>?_) λO B=>⟨by rw[B.1];simp,by rw[B.1];simp,λt l g d e f c=>(B.2 t l g d e f c).elim⟩);·refine⟨0,rfl,E,rfl,Zc,ZB,λt l g d e f c=>⟨rfl,?_⟩⟩;rw[(y t l g d e f c).2];rfl
 ·obtain⟨u1,u2,i⟩:=h;obtain⟨a,F,G,e3,z,H,w⟩:=u;dsimp only at F e3 z H w;subst F;refine Zr ⟨λp=>?_,λp=>Zb ⟨by simp only[Wx]at p;dsimp only;omega,z,H,λt l g d e f c=>?_⟩⟩
  ·simp only[Wx]at p;rw[be Pq,be Pq];have k1:=@Te i 4;have k2:=@Te (tk i 4).1 4;rw[be (JX ZB)];have L:=@zI (tk (tk i 4).1 4).1 32 Y;rw[be (JX ZB)];have M:=@zI (TX (tk (tk i 4).1 4).1 32).1 64 Y;dsimp only;have N:∀t l,l.length<=16->(∀q∈l,Pr q)->0<=t->t<4294967296->b=Uj t l->∃q,l[a]?=some q/\q.1=Zi (Z7 ((pk i 4).1.setWidth 32))/\q.2.1=Zi (Z7 ((pk (tk i 4).1 4).1.setWidth 32))/\q.2.2.1=(TX (tk (tk i 4).1 4).1 32).2/\q.2.2.2=(TX (TX (tk (tk i 4).1 4).1 32).1 64).2/\(TX (TX (tk (tk i 4).1 4).1 32).1 64).1=(((l.drop (a+1)).map PU).flatten,false):=by
    intro t l g d e f c;rw[(y t l g d e f c).2]at p;have A:a<l.length:=by dsimp only at p;omega
    have x:l[a]?=some l[a]:=Ve A;have r:=d l[a] (List.getElem_mem A);refine⟨l[a],x,?_⟩;have I:=(w t l g d e f c).2;rw[KL A,Wb,Iq]at I;generalize x0:((l.drop (a+1)).map PU).flatten=rest at*;have x2:rest.length<=3000000000:=by rw[<-x0];have:=xR (l:=l.drop (a+1)) λx1 hx=>d x1 (sC hx);rw[VF]at this;omega
    have hk:=r.2.2;have Q:T4 i=some ((w4 (Yl 32 l[a].2.1)++(RC l[a].2.2.1++(RC l[a].2.2.2++rest)),false),Yl 32 l[a].1):=by rw[I];have:=zu (Yl 32 l[a].1) (w4 (Yl 32 l[a].2.1)++(RC l[a].2.2.1++(RC l[a].2.2.2++rest)));unfold PU;simp only[Yc];exact this
    rw[Pq]at Q;have R:=zu (Yl 32 l[a].2.1) (RC l[a].2.2.1++(RC l[a].2.2.2++rest));rw[Pq]at R;obtain⟨t1,t2⟩:=Prod.mk.inj (X9 Q);obtain⟨U,V⟩:=Prod.mk.inj (X9 R);rw[<-t1]at U V;have S:=mC (b:=l[a].2.2.1) (l:=RC l[a].2.2.2++rest) (m:=32) Y Y (by simp only[YM,zF];omega);rw[<-Yc,JX (by simp only[YM,Va,zF];omega)]at S;have T:=mC (b:=l[a].2.2.2) (l:=rest) (m:=64) Y Y Y;rw[<-Yc,JX (by simp only[YM,Va];omega)]at T;have X:TX (tk (tk i 4).1 4).1 32=((RC l[a].2.2.2++rest,false),l[a].2.2.1):=by rw[U];exact X9 S
    have t6:TX (TX (tk (tk i 4).1 4).1 32).1 64=((rest,false),l[a].2.2.2):=by rw[X];exact X9 T
    rw[t6,t2,V,X];exact⟨(lW r.1.1 (Int.lt_trans r.1.2 YI)).symm,(lW r.2.1.1 (Int.lt_trans r.2.1.2 YI)).symm,rfl,rfl,rfl⟩
   refine Yu (λZ=>Z=false↔Zi (Z7 ((pk i 4).1.setWidth 32))<2147483648/\Zi (Z7 ((pk (tk i 4).1 4).1.setWidth 32))<2147483648) (λk=>Zb ?_) (λk=>Zb ?_) λZ J=>?_;·simp only[Wx]at k⊢;exact⟨λc=>c.elim,λc=>Y⟩
   ·simp only[Wx]at k⊢;exact⟨λc=>⟨k,c⟩,λc=>c.2⟩
   refine Zr ⟨λk=>?_,λk=>?_⟩;·rw[bs];refine Zb ⟨rfl,λt l g d e f c=>?_⟩;obtain⟨q,D,j,s,-⟩:=N t l g d e f c;have r:=d q (X2 D);rw[J.2 ⟨by rw[<-j];exact r.1.2,by rw[<-s];exact r.2.1.2⟩]at k;cases k
   ·have K:=J.1 k;refine Xi ⟨by simp only[Wx,VJ];omega,?_⟩;rw[show Zm (Zv (a:Int) 1)=((a+1:Nat):Int)by simp only[Wx];rw[ZK Y];rfl];refine Zb ⟨⟨a+1,rfl,Y,by simp only[Wx,YM,VJ];omega,λq x=>?_,by have:=M.1;have:=L.1;dsimp only;omega,λt l g d e f c=>?_⟩,ZB⟩
    ·simp only[Wx]at x;obtain j|j:=ZY x;·exact z q j
     ·rw[YV j];exact⟨⟨MH _,K.1⟩,⟨MH _,K.2⟩,by have:=L.2.1;dsimp only;omega,by have:=M.2.1;dsimp only;omega⟩
    ·obtain⟨q,D,j,s,q3,q4,q5⟩:=N t l g d e f c;refine⟨?_,q5⟩;show u1++[_]=_;rw[NS,D,<-(w t l g d e f c).1,<-j,<-s,<-q3,<-q4];rfl
  ·simp only[Wx]at p;have:=(y t l g d e f c).2;rw[this]at p G;obtain⟨j,s⟩:=w t l g d e f c;dsimp only at p G;exact⟨by rw[j,UT Y],by rw[s,QZ Y];rfl⟩
 ·dsimp only;rw[be JW];refine Zb ⟨?_,⟨u.1,u.2.1⟩,λt l g d e f c=>?_⟩;·have:=((pk ((b,false):ZP) 4).1.setWidth 32).isLt;simp only[Wx];omega
  ·obtain⟨j,s⟩:=u.2.2.2 t l g d e f c;rw[(y t l g d e f c).1,j,s,lW e f];rfl
noncomputable def lr(l:L ZN):ZN:=(GY l).getD zH
def Zqo(l):GY l=some (lr l):=by obtain⟨b,a,-⟩:=eG;unfold lr;rw[a];rfl
noncomputable def Sj(E:L qu)(a:L Int)(e:Nat):OH:=((e:Int),a.getD (e-1) 0,(E.map (·.2.1)).getD (e-1) zH,lr ((E.map (·.2.2.2.1)).take e))
def Zpx{E b}{a c}(h1:1<=B)(h2:B<=E.length)(d:a.length=E.length):Sj (E++b) (a++c) B=Sj E a B:=by unfold Sj;simp only[WW,Rm];rw[VE Y,VE Zp,KQ Zp]
def Zpz(hs:d.2.2.1.2.2.1.length<=1000)(g:d.2.2.2.1.length=d.2.2.1.2.2.1.length)(h1:1<=B)(h2:B<=d.2.2.1.2.2.1.length):nQ d B=some (Sj d.2.2.1.2.2.1 d.2.2.2.1 B):=by
 unfold nQ;rw[show Zm (ZX (B:Int) 1)=((B-1:Nat):Int)by simp only[Wx];rw[ZK Y];omega];refine Vp (XC ⟨by simp only[Wx];omega,Zn (YN ⟨Y,λi c=>Zn ((io Y).mono λf a=>Zn (YN ⟨by rw[a];simp;omega,λj e=>?_⟩))⟩)⟩);unfold gZ;refine Zn (Zn ((xS Y).mono λh b=>?_));rw[be Bs];refine EY.2 ⟨by simp only[Wx];rw[b];simp;omega,?_⟩;rw[be (Zqo _)];refine Zb (Zb ?_);rw[WL]at c e;unfold Sj;have:(Tx (V3 (B:Int) 0) ((d.2.2.1.2.2.1.length:Nat):Int)).toNat=B:=by simp only[Wx];omega
 grind
def Zcx{g:ZP->Zg l}(a:A.length<=3000000000):O (Tp (A,false) (Xo 0 (YK 32 (XK J)))) g=g (A++tl J,false):=be (tJ a)
def ZeI{h}(h1:1<=h.1)(h2:h.1<2147483648)(c:1<=h.2.1)(d:h.2.1<2147483648):∃b,Kj h=some (b,0)/\b.length=72:=by
 unfold Kj;have:Fh h=some true:=by unfold Fh;refine Vp (Yu (λb=>b=true) (λa=>Zb<|by simp only[Wx];exact h2) λa=>by simp only[Wx]at a;omega λb e=>Yu (λb=>b=true) (λa=>Zb (by simp only[Wx];exact c)) (λa=>by rw[e]at a;cases a) λi f=>Yu (λb=>b=true) (λa=>Zb<|by simp only[Wx];exact d) (λa=>by rw[f]at a;cases a) λj g=>Zb g)
 rw[be this];refine⟨[]++w4 (Yl 32 h.1)++w4 (Yl 32 h.2.1)++tl h.2.2.1++tl h.2.2.2,Vp (Zr ⟨λa=>(by cases a),λ_=>?_⟩),by simp only[YM,W6,UD,Ef]⟩;rw[be (NN Zc),be (NN (by simp[UD]))];refine Up ⟨YI,?_⟩;rw[Zcx (by simp[UD])];refine Up ⟨YI,?_⟩;rw[Zcx (by simp only[YM,W6,UD,Ef];omega),be (Ig (by simp only[YM,W6,UD,Ef];omega))];exact Zb rfl
abbrev GS(sd:ZN)(s:Me):Prop:=GI 1 2 3 sd s
def Zri:Sm 3=some (((4,67,4):Rf),true):=by refine Vp (Yu (λa=>a=false) (λb=>Zp) (λb=>Zb<|Zc) λa d=>Zr ⟨Zp,λ_=>Zn (xk.2 ⟨Zc,λe c=>Zb (by cases c;rfl)⟩)⟩)
def oZ:∃f,Sm 3=some (f,true)/\TF f/\f=(4,67,4):=⟨_,Zri,.inr Zc,rfl⟩
def Zco{s}(h:GS J s):DD s=some 8:=by obtain⟨c,a,b,-⟩:=oZ;exact Zcp Zc Zc Zc Zc a b h
def ik(sd:ZN)(h:OH):∃b:Zt,1<=h.1->h.1<=8->1<=h.2.1->h.2.1<2147483648->b.length<=5000/\∀s,GS sd s->W (pE s (h.1-1) h) λo=>GS sd o.1/\o.2=((h,b),0):=by
 by_cases c:1<=h.1/\h.1<=8/\1<=h.2.1/\h.2.1<2147483648;·have⟨n,f,g,p⟩:=oZ;have⟨m,k,q⟩:=ZeI c.1 Y c.2.2.1 c.2.2.2;obtain⟨b,l,e⟩:=Zpv (a:=1) (h:=2) (i:=h.1-1) (m:=m) Y Zc Y Y f g Y Y Y;refine⟨b,λ_ _ _ _=>⟨Zp,λs j=>?_⟩⟩;unfold pE;rw[be k];refine Zr ⟨Zc,λ_=>Zn ((e s j).mono λo d=>?_)⟩;rw[d.2];exact Zr ⟨Zc,λ_=>Zb ⟨d.1,rfl⟩⟩
 ·exact⟨[],Y⟩
noncomputable def uS(sd:ZN)(h:OH):Zt:=(ik sd h).choose
def PI(sd:ZN)(p:Yz):Prop:=GS sd p.2.1/\Vz p.2.2.1/\p.2.2.2.1.length=p.2.2.1.2.2.1.length/\p.2.2.2.1.length<=8/\(∀a∈p.2.2.2.1,1<=a/\a<2147483648)/\p.2.2.2.2.2.1.length<=16/\∀b∈p.2.2.2.2.2.1,Pr b
def PI.tick{e}(h:PI J d)(h1:1<=e)(h2:e<=d.2.2.1.2.2.1.length):1<=(Sj d.2.2.1.2.2.1 d.2.2.2.1 e).2.1/\(Sj d.2.2.1.2.2.1 d.2.2.2.1 e).2.1<2147483648:=by
 have b:=h.2.2.1;have a:d.2.2.2.1[e-1]?=some _:=Ve Y;have:(Sj d.2.2.1.2.2.1 d.2.2.2.1 e).2.1=d.2.2.2.1[e-1]:=by unfold Sj;grind
 rw[this];exact h.2.2.2.2.1 _ Zc
def Oc:Po d=some (d.2.2.1.2.2.1.length:Int):=by unfold Po;rw[be Bs]
def nu(h:PI J d):W (D8 d p) λo=>(∃s,GS J s/\o.1=(d.1,s,d.2.2))/\(o.2=(z0,4)/\(p<1\/d.2.2.1.2.2.1.length<p)\/∃k:Nat,p=k/\1<=k/\k<=d.2.2.1.2.2.1.length/\o.2=((Sj d.2.2.1.2.2.1 d.2.2.2.1 k,uS J (Sj d.2.2.1.2.2.1 d.2.2.2.1 k)),0))/\o.2.1.2.length<=5000:=by
 have m:=h.2.2.1;have q:=h.2.2.2.1;unfold D8;refine Yu (λf=>f=true↔p<1\/d.2.2.1.2.2.1.length<p) (λa=>Zb ?_) (λa=>?_) λf g=>Zr ⟨λa=>Zb ⟨⟨d.2.1,h.1,rfl⟩,.inl ⟨rfl,g.1 a⟩,Zc⟩,λa=>?_⟩;·grind
 ·rw[be Oc];simp only[Wx]at a⊢;omega
 ·have r:¬(p<1\/d.2.2.1.2.2.1.length<p):=λn=>by rw[g.2 n]at a;cases a
  obtain⟨k,rfl⟩:=Qt (show 0<=p by omega);have b:1<=k:=Y;have c:k<=d.2.2.1.2.2.1.length:=Y;rw[be (Zpz Y m b c)];have i:=h.tick b c;obtain⟨j,l⟩:=(ik J _).choose_spec (show(1:Int)<=k by omega) (show(k:Int)<=8by omega) i.1 i.2;rw[show Zm (ZX (k:Int) 1)=(Sj d.2.2.1.2.2.1 d.2.2.2.1 k).1-1by simp only[Wx];rw[ZK Y];rfl];refine Zn ((l d.2.1 h.1).mono λo e=>Zb ⟨⟨o.1,e.1,rfl⟩,.inr ⟨k,rfl,b,c,e.2⟩,?_⟩);dsimp only;rw[e.2];exact j
def ZrI(sd:ZN):∃Tc:Zt,Tc.length<=1000/\∀p:Yz,GS sd p.2.1->wF p.2.1=some Tc/\nK p=some Tc:=by have⟨h,e,f,i⟩:=oZ;obtain⟨d,g,b⟩:=Zw9 (a:=1) Zc Zc e f;exact⟨d,g,λp c=>⟨b _ c,by unfold nK;rw[be (b _ c)]⟩⟩
def RG(b:L Int)(t:Int):Prop:=1<=t/\t<2147483648/\∀a,b.getLast?=some a->a<=t
def ZeD:r.getLast?=r[r.length-1]?:=by rw[List.getLast?_eq_getElem?]
def Zet{t}(h:d.2.2.2.1.length<=1000000):W (vV d t) λb=>b=true↔RG d.2.2.2.1 t:=by
 unfold vV;refine Yu (λb=>b=true↔1<=t/\t<2147483648) (λc=>Zb<|Xk) (λc=>Zb<|Zp) λb g=>Yu _ (λc=>?_) (λc=>Zb ⟨λa=>(by cases a),λa=>?_⟩) λn j=>Zb j
 ·have e:=g.1 c;refine Yu _ (λf=>Zb ?_) (λf=>?_) λo k=>Zb k;·simp only[Wx]at f;have:d.2.2.2.1=[]:=Ok Y;exact⟨λ_=>⟨e.1,e.2,Zp⟩,λ_=>rfl⟩
  ·simp only[Wx]at f;have l:Zm (ZX (Zi (Zj d.2.2.2.1)) 1)=((d.2.2.2.1.length-1:Nat):Int):=by simp only[Wx];rw[ZK Y];omega
   rw[l];refine XC ⟨by simp only[Wx];omega,Zn (YN ⟨Y,λm i=>Zb ?_⟩)⟩;rw[WL,<-ZeD]at i;simp only[Wx];exact⟨λa=>⟨e.1,e.2,Zp⟩,λa=>a.2.2 m i⟩
 ·have:=g.2 ⟨a.1,a.2.1⟩;rw[this]at c;cases c
def Znw{x}{l}(h:l.length<=1000000):W (lG x l) λb=>b=true↔∃y∈l,y.1=x.1:=by
 unfold lG aI;refine Zn (WM (W.VQ (λa=>0<=a/\a<=l.length/\∀y∈l.take a.toNat,¬y.1=x.1) (λa=>∀y∈l,¬y.1=x.1) (λa=>(l.length-a).toNat) (λg=>0<=g/\∃y∈l,y.1=x.1) Zc Y (λa e=>?_) (λa e=>Zb (Zb<|Zp)) λg m=>Zb<|Zp))
 ·obtain⟨j,n,k⟩:=e;refine Zr ⟨λc=>?_,λc=>Zb ?_⟩
  ·simp only[Wx]at c;refine Zn (YN ⟨Y,λy f=>?_⟩);unfold cw;rw[bs];refine Zr ⟨λd=>?_,λd=>Zb ?_⟩;·rw[bs];simp only[Wx]at d;exact Zb ⟨j,y,X2 f,d⟩
   ·rw[show Zm (Zv a 1)=a+1by simp only[Wx];rw[ZK Y]];refine⟨⟨Y,Y,λo i=>?_⟩,ZB⟩;rw[show(a+1).toNat=a.toNat+1by omega,NS,f]at i;grind
  ·simp only[Wx]at c;rwa[UT Y]at k
def Zmp{l}(h:l.length<=1000000):W (nT l) λb=>((l.map (·.1)).Nodup->b=true):=by
 unfold nT;refine WM (W.VQ (λa=>0<=a/\a<=l.length) (λa=>True) (λa=>(l.length-a).toNat) _ ⟨Zc,Y⟩ Y (λa o=>Zr ⟨λc=>?_,λc=>Zb trivial⟩) (λa o=>Zb λ_=>rfl) λv n=>n);simp only[Wx]at c;refine Zn (YN ⟨Y,λq p=>Zn (L9.2 ⟨Y,Zn ((Znw (by rw[VF,UF];omega)).mono λb j=>Zr ⟨λd=>?_,λd=>Zb ?_⟩)⟩)⟩)
 ·rw[bs];refine Zb λm=>?_;exfalso;obtain⟨r,f,s⟩:=j.1 d;rw[show(0:Int).toNat=0from rfl,Zbf]at f;obtain⟨e,k,t⟩:=List.getElem_of_mem f;rw[UF]at k;have g:(l.map (·.1))[e]?=some r.1:=by grind
  have i:(l.map (·.1))[a.toNat]?=some q.1:=by rw[so,p];rfl
  have u:e=a.toNat:=by have:=(List.getElem?_inj XV m).1 (g.trans (by rw[s,<-i]));exact this
  omega
 ·rw[show Zm (Zv a 1)=a+1by simp only[Wx];rw[ZK Y]];exact⟨⟨Y,Y⟩,ZB⟩
def ZAw{l}(h:l.length<=1000000):W (cA l) λr=>r=l.map (·.2.2):=by
 refine Zn (W.Tl (λb=>∃a:Nat,b.2=a/\a<=l.length/\b.1=(l.take a).map (·.2.2)) _ (λb=>(l.length-b.2).toNat) ⟨0,rfl,Y,rfl⟩ ZB (λb d=>?_) λb d=>Zb d);obtain⟨j,k⟩:=b;obtain⟨a,f,i,g⟩:=d;subst f g;refine Zr ⟨λc=>?_,λc=>Zb ?_⟩;·simp only[Wx]at c;refine Zn (YN ⟨ZB,λm e=>Xi ⟨Zp,?_⟩⟩);rw[show Zm _=((a+1:Nat):Int)by simp only[Wx];rw[ZK Y];rfl];rw[WL]at e;refine Zb ⟨⟨a+1,rfl,Y,?_⟩,ZB⟩;rw[NS,e,WW];rfl
 ·simp only[Wx]at c;show List.map (·.2.2) (List.take a l)=_;rw[UT Y]
def JK(c:L Rf)(l:L Ux)(e:Int):L Rf:=l.foldl (λb a=>Lk a.1 (a.2.1,e) b) c
def cD{p}{t}{l}(hs:Vz p.2.2.1)(w:p.2.2.1.2.2.1.length<=1000000)(y:p.2.2.2.1.length<=1000000)(q:l.length<=1000000):W (vW p t l) λo=>∃f e,QI p.2.2.1 (l.map (·.2.2))=some (f,e)/\o.2=e/\Vz f/\f.1=p.2.2.1.1/\(e=0->(∃x,f.2.2.1=p.2.2.1.2.2.1++[x])/\o.1=(p.1,p.2.1,f,p.2.2.2.1++[t],JK p.2.2.2.2.1 l (f.2.2.1.length:Nat),p.2.2.2.2.2))/\(¬e=0->f.2.2=p.2.2.1.2.2/\o.1=(p.1,p.2.1,f,p.2.2.2)):=by
 unfold vW;refine Zn ((ZAw q).mono λb g=>?_);subst g;refine Zn ((BJ (l:=l.map (·.2.2)) hs Y).self.mono λd⟨k,m,n,s,u⟩=>Zr ⟨λa=>Zb ⟨d.1,d.2,k,rfl,m,n,λe=>?_,λe=>⟨u e,rfl⟩⟩,λa=>?_⟩);·simp only[Wx]at a;exact(a e).elim
 simp only[Wx]at a;obtain⟨x,r⟩:=s a;refine Xi ⟨by simp only[Wx,VJ];omega,Zn (W.Tl (λb=>∃c:Nat,b.1=c/\c<=l.length/\b.2=(p.1,p.2.1,d.1,p.2.2.2.1++[t],JK p.2.2.2.2.1 (l.take c) ((d.1.2.2.1.length:Nat):Int),p.2.2.2.2.2)) (λb=>b.2=(p.1,p.2.1,d.1,p.2.2.2.1++[t],JK p.2.2.2.2.1 l ((d.1.2.2.1.length:Nat):Int),p.2.2.2.2.2)) (λb=>(l.length-b.1).toNat) ⟨0,rfl,Y,rfl⟩ ZB (λb g=>?_) λb g=>Zb ⟨d.1,0,by rw[k,<-a],rfl,m,n,λ_=>⟨⟨x,r⟩,g⟩,λe=>(e rfl).elim⟩)⟩;obtain⟨z,A⟩:=b;obtain⟨c,h,v,i⟩:=g;dsimp only at h i;subst h i;refine Zr ⟨λa=>?_,λa=>Zb ?_⟩;·simp only[Wx]at a;refine Zn (YN ⟨ZB,λB j=>?_⟩);rw[be Oc,show Zm (Zv (c:Int) 1)=((c+1:Nat):Int)by simp only[Wx];rw[ZK Y];rfl];rw[WL]at j;refine Zb ⟨⟨c+1,rfl,Y,?_⟩,ZB⟩;dsimp only;rw[NS,j];unfold JK;rw[sf];rfl
 ·simp only[Wx]at a;show((p.1,p.2.1,d.1,p.2.2.2.1++[t],JK p.2.2.2.2.1 (l.take c) _,p.2.2.2.2.2):Yz)=_;rw[UT Y]
abbrev PL:Type:=W0×L Int×L Rf
def Jc(s:PL)(r:Zt)(s':PL):Prop:=∃c a b,Kq r=some (c,a,true)/\RG s.2.1 c/\s.1.2.2.1.length<8/\QI s.1 (a.map (·.2.2))=some (b,0)/\s'=(b,s.2.1++[c],JK s.2.2 a ((b.2.2.1.length:Nat):Int))
def UU:PL->L Zt->PL->Prop|s,[],s'=>s'=s|s,r::R,s'=>∃a,Jc s r a/\UU a R s'
def Jc.uniq{s}{a b}(h:Jc s A a)(h':Jc s A b):a=b:=by obtain⟨p,l,n,c,e,g,j,rfl⟩:=h;obtain⟨q,m,o,d,f,i,k,rfl⟩:=h';simp_all
def UU.snoc:∀{R}{s a b},UU s R a->Jc a A b->UU s (R++[A]) b|[],_,_,_,rfl,h=>⟨_,h,rfl⟩|_::_,_,_,_,⟨q,h1,h2⟩,h=>⟨q,h1,h2.snoc h⟩
def UU.uniq:∀{R}{s a b},UU s R a->UU s R b->a=b|[],_,_,_,rfl,rfl=>rfl|_::_,_,_,_,⟨q,h1,h2⟩,⟨d,h1',c⟩=>by obtain rfl:=h1.uniq h1';exact h2.uniq c
def UU.split:∀{R c}{s a},UU s (R++c) a->∃b,UU s R b/\UU b c a|[],_,s,_,h=>⟨s,rfl,h⟩|_::_,_,_,_,⟨q,h1,h2⟩=>by have⟨b,d,e⟩:=h2.split;exact⟨b,⟨q,h1,d⟩,e⟩
def UB(p:Yz):PL:=(p.2.2.1,p.2.2.2.1,p.2.2.2.2.1)
def Zww(h:PI J d)(hr:A.length<=6000):W (nR d A) λo=>PI J o.1/\o.1.1=d.1/\o.1.2.2.2.2.2=d.2.2.2.2.2/\(o.2=true->Jc (UB d) A (UB o.1))/\∀t l p,Kq A=some (t,l,true)->RG d.2.2.2.1 t->d.2.2.1.2.2.1.length<8->(l.map (·.1)).Nodup->(∀q∈l,Ta (XJ q.1 d.2.2.2.2.1)=true->(UN (XJ q.1 d.2.2.2.2.1) (0,0)).1<q.2.1)->QI d.2.2.1 (l.map (·.2.2))=some (p,0)->o.2=true:=by
 obtain⟨F,p2,p3,p4,P,Q,R⟩:=id h;unfold nR;refine Zn ((nr (b:=A) Y).self.mono λe hd=>?_);obtain⟨I,x3,⟨x4,x5⟩,-⟩:=hd;refine Yu (λb=>b=false↔e.2.2=true/\RG d.2.2.2.1 e.1) (λc=>Zb ?_) (λc=>?_) λb r=>Yu (λk=>k=false↔b=false/\d.2.2.1.2.2.1.length<8) (λc=>Zb ?_) (λc=>?_) λk H=>Yu (λG=>(k=true->G=true)/\(G=true->k=false->¬(e.2.1.map (·.1)).Nodup)) (λc=>Zb ⟨λ_=>rfl,λ_ a=>?_⟩) (λc=>?_) λG M=>?_;·simp only[Wx]at c;exact⟨λa=>(by cases a),λa=>by rw[a.1]at c;cases c⟩
 ·simp only[Wx]at c;refine Zn ((Zet Y).mono λT u=>Zb ?_);simp only[Wx];rw[u];exact⟨λa=>⟨c,a⟩,λa=>a.2⟩
 ·exact⟨λa=>(by cases a),λa=>by rw[a.1]at c;cases c⟩
 ·rw[be Oc,be (Zco F)];refine Zb ?_;simp only[Wx];exact⟨λa=>⟨c,Y⟩,λa=>Y⟩
 ·rw[c]at a;cases a
 ·refine Zn ((Zmp Y).mono λT u=>Zb ⟨λa=>(by rw[c]at a;cases a),λa _ hn=>?_⟩);have:=u hn;rw[this]at a;cases a
 have D:∀t l,Kq A=some (t,l,true)->RG d.2.2.2.1 t->d.2.2.1.2.2.1.length<8->e=(t,l,true)/\k=false:=λt l g i j=>by have:e=(t,l,true):=X9 (I.symm.trans g);exact⟨this,H.2 ⟨r.2 ⟨by rw[this],by rw[this];exact i⟩,j⟩⟩
 refine Zr ⟨λc=>Zb ⟨h,rfl,rfl,λa=>(by cases a),λt l p g i j v w x=>?_⟩,λc=>?_⟩;·obtain⟨a,U⟩:=D t l g i j;have:=M.2 c U;rw[a]at this;exact(this v).elim
 have x0:k=false:=by
  cases Z:k;·rfl
  ·rw[M.1 Z]at c;cases c
 obtain⟨X,x2⟩:=H.1 x0;obtain⟨x1,C⟩:=r.1 X;refine WM (W.VQ (λf=>0<=f/\f<=e.2.1.length) (λf=>True) (λf=>(e.2.1.length-f).toNat) (λo=>o=(d,false)/\¬∀q∈e.2.1,Ta (XJ q.1 d.2.2.2.2.1)=true->(UN (XJ q.1 d.2.2.2.2.1) ((0:Int),(0:Int))).1<q.2.1) ⟨Zc,Y⟩ Y (λf L=>?_) (λf L=>?_) λo s=>?_)
 ·obtain⟨u1,u2⟩:=L;refine Zr ⟨λc=>?_,λc=>Zb trivial⟩;simp only[Wx]at c;refine Zn (YN ⟨Y,λy hy=>Yu (λb=>b=true->Ta (XJ y.1 d.2.2.2.2.1)=true/\y.2.1<=(UN (XJ y.1 d.2.2.2.2.1) ((0:Int),(0:Int))).1) (λm=>Zb λa=>⟨m,by simpa only[Wx]using a⟩) (λm=>Zb λa=>by cases a) λb r=>Zr ⟨λm=>?_,λm=>Zb ?_⟩⟩);·rw[bs];refine Zb ⟨rfl,λV=>?_⟩;have:=V y (X2 hy) (r m).1;have:=(r m).2;omega
  ·rw[show Zm (Zv f 1)=f+1by simp only[Wx];rw[ZK Y]];exact⟨⟨Y,Y⟩,ZB⟩
 ·refine Zn ((cD (t:=e.1) (l:=e.2.1) p2 Y Y Y).mono λo s=>Zb ?_);obtain⟨p,a,E,N,O,o4,o5,o6⟩:=s;by_cases n:a=0
  ·obtain⟨⟨T,u⟩,s⟩:=o5 n;rw[s];refine⟨⟨F,O,?_,?_,λt ht=>?_,Q,R⟩,rfl,rfl,λ_=>⟨e.1,e.2.1,p,by rw[I,<-x1],C,x2,n▸E,rfl⟩,λt l S g i j v w x=>by rw[N,n];simp only[Wx]⟩;·show(d.2.2.2.1++[e.1]).length=p.2.2.1.length;rw[u];simp;omega
   ·show(d.2.2.2.1++[e.1]).length<=8;simp;omega
   ·obtain q|q:=ZY ht;·exact P t q
    ·rw[YV q];exact⟨C.1,C.2.1⟩
  ·obtain⟨q1,q2⟩:=o6 n;rw[q2];refine⟨⟨F,O,?_,p4,P,Q,R⟩,rfl,rfl,λz=>by rw[N]at z;simp only[Wx]at z;exact(n z).elim,λt l S g i j v w x=>?_⟩;·show d.2.2.2.1.length=p.2.2.1.length;rw[q1];exact p3
   ·obtain⟨B,-⟩:=D t l g i j;rw[B,x]at E;have:=WX Prod.snd (X9 E);exact(n this.symm).elim
 ·obtain⟨rfl,K⟩:=s;refine⟨h,rfl,rfl,λa=>(by cases a),λt l S g i j v w x=>?_⟩;obtain⟨B,-⟩:=D t l g i j;rw[B]at K;exact(K w).elim
noncomputable def My(seed:ZN):ZN:=(Ki 112#8 [Xo 0 (YK 32 (XK seed))]).getD zH
def Zxe(seed:ZN):Ki 112#8 [Xo 0 (YK 32 (XK seed))]=some (My seed):=by obtain⟨b,a,-⟩:=BL (ps:=[Xo 0 (YK 32 (XK seed))]) Zc Zc;unfold My;rw[a];rfl
def s0(seed:ZN):PL:=((seed,[],[],[],[]),[],[])
def Fr(b:L Rf)(l:L Ux):Prop:=(l.map (·.1)).Nodup/\∀a∈l,Ta (XJ a.1 b)=true->(UN (XJ a.1 b) ((0:Int),(0:Int))).1<a.2.1
def im(s:PL)(r:Zt)(s':PL):Prop:=Jc s r s'/\∃b a,Kq r=some (b,a,true)/\Fr s.2.2 a
def NY:PL->L Zt->PL->Prop|s,[],s'=>s'=s|s,r::R,s'=>∃a,im s r a/\NY a R s'
def NY.snoc:∀{R}{s a b},NY s R a->im a A b->NY s (R++[A]) b|[],_,_,_,rfl,h=>⟨_,h,rfl⟩|_::_,_,_,_,⟨q,h1,h2⟩,h=>⟨q,h1,h2.snoc h⟩
def NY.rec:∀{R}{s a},NY s R a->UU s R a|[],_,_,h=>h|_::_,_,_,⟨q,h1,h2⟩=>⟨q,h1.1,h2.rec⟩
def ZrH{ds}{seed}(hk:ds[c]?=some k)(hd:DI B f k)(hN:4<=B)(X:B<=4096)(hc:f<1000000000):W (nJ ds z (some c) (1,2,3,seed)) λo=>∃d',o.1=ds.set c d'/\DI B (f+1) d'/\(o.2.1=z/\o.2.2.1=none/\¬o.2.2.2=0\/∃p,o.2.1=z++[p]/\o.2.2.1=some z.length/\o.2.2.2=0/\PI (My seed) p/\VW B c p.1/\p.2.2.2.2.2=([],0))/\(k.2.2.2.1<0->k.2.2.2.2=false->d'.2.2.2=k.2.2.2)/\∀g R n m,B=900->g<250->k.2.2.1=[]->k.2.2.2.1<0->k.2.2.2.2=false->Sv k.1 g (g+1) R n m->d'.2.2.1=[]/\Sv d'.1 (g+1) (g+1) R n m/\(∀p,o.2.1=z++[p]->p.1=HQ c (g+1) n false/\UU (s0 seed) R (UB p))/\∀s',NY (s0 seed) R s'->o.2.2.2=0:=by
 have x9:=Zi9 X;unfold nJ;refine Up ⟨YI,?_⟩;rw[be (Zxe seed)];obtain⟨x8,f1,f2,-⟩:=oZ;refine Zn ((Zpu (a:=1) (h:=2) (sd:=My seed) Y Y Y Y f1 f2).mono λxb⟨x3,sg,x4,x5⟩=>Zr ⟨λg=>by rw[x3]at g;simp only[Wx]at g,λ_=>Zn ((ZaD hk hd hN X hc).mono λv⟨d',N,O,v3,v4,v5,v6,P,v8⟩=>Zr ⟨λg=>Zb ⟨d',N,O,.inl ⟨rfl,rfl,by simpa only[Wx]using g⟩,P,λA R n m l q r s t u=>?_⟩,λg=>?_⟩)⟩);·simp only[Wx]at g;exact(g (v8 A R n m l q r s t u).1).elim
 simp only[Wx]at g;obtain⟨Q,w1,w2⟩:=v5 g;rw[show I4 seed=some (seed,[],[],[],[])from rfl,bs,w1,ko,x4,ko];have x2:∀g R n m,B=900->g<250->k.2.2.1=[]->k.2.2.2.1<0->k.2.2.2.2=false->Sv k.1 g (g+1) R n m->v.2.2.1=R/\d'.2.2.1=[]/\Sv d'.1 (g+1) (g+1) R n m/\Q=HQ c (g+1) n false:=λg R n m l q r s t u=>by obtain⟨-,x,y,D,S⟩:=v8 g R n m l q r s t u;rw[w1]at S;exact⟨x,y,D,X9 S⟩
 refine WM (W.VQ (λb=>∃e:Nat,b.1=e/\e<=v.2.2.1.length/\b.2.1=z/\PI (My seed) b.2.2/\b.2.2.1=Q/\b.2.2.2.2.2.2.2=([],0)/\UU (s0 seed) (v.2.2.1.take e) (UB b.2.2)/\∀s',NY (s0 seed) v.2.2.1 s'->NY (UB b.2.2) (v.2.2.1.drop e) s') (λb=>b.2.1=z/\PI (My seed) b.2.2/\b.2.2.1=Q/\b.2.2.2.2.2.2.2=([],0)/\UU (s0 seed) v.2.2.1 (UB b.2.2)) (λb=>(v.2.2.1.length-b.1).toNat) (λC=>C=(v.1,z,none,2)/\∀s',¬NY (s0 seed) v.2.2.1 s') ?_ ZB (λb i=>?_) (λb i=>Zb ⟨d',N,O,.inr ⟨b.2.2,by rw[i.1],by rw[i.1],rfl,i.2.1,by rw[i.2.2.1];exact w2,i.2.2.2.1⟩,P,λA R n m l q r s t u=>?_⟩) λC d=>⟨d',by rw[d.1];exact N,O,.inl ⟨by rw[d.1],by rw[d.1],by rw[d.1];simp⟩,P,λA R n m l q r s t u=>?_⟩);·refine⟨0,rfl,Y,rfl,⟨x5,Gv,rfl,Zc,Zc,Zc,Zc⟩,rfl,rfl,rfl,λs' h=>h⟩
 ·obtain⟨u1,u2,u3⟩:=b;obtain⟨e,T,e2,U,H,I,J,K,L⟩:=i;dsimp only at T U H I J K L;subst T U;refine Zr ⟨λg=>?_,λg=>Zb ⟨rfl,H,I,J,?_⟩⟩
  ·simp only[Wx]at g;refine Zn (YN ⟨ZB,λC d=>?_⟩);rw[WL]at d;have x0:e<v.2.2.1.length:=Y;have Z:v.2.2.1.drop e=C::v.2.2.1.drop (e+1):=by rw[KL x0,X9 ((Ve x0).symm.trans d)]
   refine Zn ((Zww H (v4 C (X2 d))).mono λxa⟨q1,q2,q3,q4,q5⟩=>Zr ⟨λE=>?_,λE=>?_⟩);·rw[bs];refine Zb ⟨rfl,λs' w=>?_⟩;have:=L s' w;rw[Z]at this;obtain⟨s1,⟨⟨x7,x6,st,F,M,h3,h4,h5⟩,t',l',V,h6,h7⟩,-⟩:=this;rw[F]at V;cases V;rw[q5 x7 x6 st F M h3 h6 h7 h4]at E;simp only[Wx]at E
   ·have x1:=q4 (by simpa only[Wx]using E);rw[show Zm (Zv (e:Int) 1)=((e+1:Nat):Int)by simp only[Wx];rw[ZK Y];rfl];refine Zb ⟨⟨e+1,rfl,Y,rfl,q1,by rw[q2,I],by rw[q3,J],?_,λs' w=>?_⟩,ZB⟩;·rw[NS,d];exact K.snoc x1
    ·have:=L s' w;rw[Z]at this;obtain⟨s1,F,M⟩:=this;rw[<-F.1.uniq x1];exact M
  ·simp only[Wx]at g;rwa[UT Y]at K
 ·obtain⟨G,x,y,D⟩:=x2 A R n m l q r s t u;refine⟨x,y,λp j=>?_,λs' _=>rfl⟩;have j:b.2.2=p:=by have j:b.2.1++[b.2.2]=z++[p]:=j;rw[i.1]at j;simpa using j
  rw[<-j,i.2.2.1,D,<-G];exact⟨rfl,i.2.2.2.2⟩
 ·obtain⟨G,x,y,D⟩:=x2 A R n m l q r s t u;refine⟨x,y,λp j=>?_,λs' w=>?_⟩;·rw[d.1]at j;have:=WX List.length (show z=z++[p]from j);simp at this
  ·rw[<-G]at w;exact(d.2 s' w).elim
def MO(m:Yy):Prop:=eS m/\m.2.2.2.2.2.2.2.2.2.1.2.length<=100000
abbrev z1:Kd:=([],0,zH,zH,(0,zH),zH,zH)
def Qg{c d e f g}{y}{s}(hs:s.2.length<=100000):MO (p,M,c,d,e,f,g,A,y,s,([],[]),([],[]),zH,z1,[],[],[],[]):=by refine⟨⟨?_,?_,?_,?_,?_,?_,?_,?_,?_,?_⟩,hs⟩<;>first|exact W7 _|grind
def EM(sd:ZN)(p:Yz)(e:Int)(m:Yy):Prop:=∃(a:Nat)(c:L Pg)(b:L V8),e=a/\Ap p.2.2.1 e=some c/\Dt p.2.2.1 e=some b/\m=(5,0,0,0,0,0,0,[],[],(Sj p.2.2.1.2.2.1 p.2.2.2.1 a,uS sd (Sj p.2.2.1.2.2.1 p.2.2.2.1 a)),([],[]),([],[]),zH,z1,[],c,b,[])
def EM.fv(h:EM J d p C):C.1=5:=by obtain⟨a,b,c,-,-,-,rfl⟩:=h;rfl
def Zgl(h:PI J d):W (D9 d p) λo=>(∃s,GS J s/\o.1=(d.1,s,d.2.2))/\MO o.2.1/\(1<=p->p<=d.2.2.1.2.2.1.length->o.2.2=0/\EM J d p o.2.1):=by
 unfold D9;refine Zn ((nu h).mono λo⟨⟨s,j,k⟩,c,r⟩=>Zr ⟨λb=>Zb ⟨⟨s,j,k⟩,Qg Zc,λm n=>?_⟩,λb=>?_⟩)
 ·obtain⟨-,a⟩|⟨g,-,-,-,a⟩:=c;·omega
  ·rw[a]at b;simp only[Wx]at b
 ·rw[k];refine Zn ((ZlE h.2.1).self.mono λi e=>Zn ((j4 h.2.1).self.mono λl f=>Zb ⟨⟨s,j,rfl⟩,?_,λm n=>⟨rfl,?_⟩⟩));·have:=f.2.1;have:=e.2;refine⟨⟨by show o.2.1.2.length<=_;omega,W7 _,W7 _,W7 _,W7 _,W7 _,W7 _,by show i.length<=_;omega,by show l.length<=_;omega,W7 _⟩,by show o.2.1.2.length<=_;omega⟩
  ·obtain⟨-,a⟩|⟨g,q,-,-,a⟩:=c;·omega
   ·refine⟨g,i,l,q,e.1,f.1,?_⟩;rw[a]
def PQ(m:Yy)(e r:Int):Yy:=(2,m.2.2.1,m.2.1,m.2.2.2.1,e,0,r,[],[],z0,([],[]),([],[]),zH,z1,[],[],[],[])
def E0:FH C p M=some (PQ C p M,true):=rfl
def Gn:MO (PQ C p M):=Qg Zc
def MZ(q:Ux)(e:Int):Yy:=PQ (0,q.1,0,q.2.1,0,0,0,[],[],z0,([],[]),([],[]),zH,z1,[],[],[],[]) e 0
def ZAV(seed:ZN)(R:L Zt)(p:Yz):Prop:=∃b c a,R=b++c/\UU (s0 seed) b a/\p.2.2.1.2.2.1=a.1.2.2.1/\p.2.2.2.1=a.2.1/\(p.2.2.2.2.2.2=0->c=[]/\UB p=a)
def Zp5{ds}{l}{Q}(e:l.length<=16)(h:∀q∈l,Pr q)(c:W (kp d.1 ds (Uj p l)) λo=>Q ((o.1,d.2),o.2)):W (zn d ds p l) Q:=by unfold zn;rw[be (ZrG e h)];refine Zr ⟨Zc,λ_=>Zn ((Zl.1 c).mono λg b=>Zr ⟨λa=>Zb (Za (Q:=λ(o:Tk×L _×Int)=>Q ((o.1,d.2),o.2)).1 ((Zq.1 b).1 a)),λa=>Zn (((Zq.1 b).2 a).mono λi f=>Zb f)⟩)⟩
def rQ{k}{B}{ds}{d}{p}{t}(hk:ds[k]?=some d)(hV:PV k f B D c P d)(hM:VM k f c P p.1)(hP:PI (My J) p)(hR:ZAV J D p)(hB:RG p.2.2.2.1 t->p.2.2.1.2.2.1.length<8->p.2.2.2.2.2.2=0->B (Uj t p.2.2.2.2.2.1)):W (NA p ds t) λo=>∃d' n' u j,o.2.1=ds.set k d'/\VM k f n' u o.1.1/\PI (My J) o.1/\ZAV J j o.1/\(∃X,j=D++X)/\(∃X Z,o.1.2.2.1.2.2.1=p.2.2.1.2.2.1++X/\o.1.2.2.2.1=p.2.2.2.1++Z/\X.length<=1/\(o.2.2.2=0->X.length=1))/\(∀m∈o.2.2.1,MO m)/\o.2.2.1.length<=17/\(o.1=p\/¬o.1.2.2.2.2.2.2=0\/o.1.2.2.2.2.2.1=[])/\(j=D/\PV k f B D n' u d'\/(∃s',UU (s0 J) D (UB p)/\(o.2.2.2=0->Jc (UB p) (Uj t p.2.2.2.2.2.1) s'/\UB o.1=s'))/\RG p.2.2.2.1 t/\p.2.2.1.2.2.1.length<8/\p.2.2.2.2.2.2=0/\j=D++[Uj t p.2.2.2.2.2.1]/\∀B',PV k f B' j n' u d')/\(o.2.2.2=0->o.1.2.2.2.2.2=([],0)/\∃H,EM (My J) o.1 (o.1.2.2.1.2.2.1.length:Int) H/\o.2.2.1=p.2.2.2.2.2.1.map (λq=>MZ q (o.1.2.2.1.2.2.1.length:Nat))++[H])/\(P=false->d.2.2.2.1<0->d.2.2.2.2=false->c+16<=449->p.2.2.2.2.2.2=0->p.2.2.1.2.2.1.length<8->RG p.2.2.2.1 t->(∃h,QI p.2.2.1 (p.2.2.2.2.2.1.map (·.2.2))=some (h,0))->o.2.2.2=0/\d'.2.2.2=d.2.2.2):=by
 obtain⟨p1,p2,p3,p4,p5,p6,p7⟩:=id hP;obtain⟨R1,R2,s1,r1,K,r3,r4,r5⟩:=id hR;unfold NA;have x3:∀{a:Int},¬a=0->(P=false->d.2.2.2.1<0->d.2.2.2.2=false->c+16<=449->p.2.2.2.2.2.2=0->p.2.2.1.2.2.1.length<8->RG p.2.2.2.1 t->(∃h,QI p.2.2.1 (p.2.2.2.2.2.1.map (·.2.2))=some (h,0))->False)->∃d' n' u j,((p,ds,([]:L Yy),a):Yz×L Yb×L Yy×Int).2.1=ds.set k d'/\VM k f n' u p.1/\PI (My J) p/\ZAV J j p/\(∃X,j=D++X)/\(∃X Z,p.2.2.1.2.2.1=p.2.2.1.2.2.1++X/\p.2.2.2.1=p.2.2.2.1++Z/\X.length<=1/\(a=0->X.length=1))/\(∀m∈([]:L Yy),MO m)/\([]:L Yy).length<=17/\(p=p\/¬p.2.2.2.2.2.2=0\/p.2.2.2.2.2.1=[])/\(j=D/\PV k f B D n' u d'\/(∃s',UU (s0 J) D (UB p)/\(a=0->Jc (UB p) (Uj t p.2.2.2.2.2.1) s'/\UB p=s'))/\RG p.2.2.2.1 t/\p.2.2.1.2.2.1.length<8/\p.2.2.2.2.2.2=0/\j=D++[Uj t p.2.2.2.2.2.1]/\∀B',PV k f B' j n' u d')/\(a=0->p.2.2.2.2.2=([],0)/\∃H,EM (My J) p ((p.2.2.1.2.2.1.length:Nat):Int) H/\([]:L Yy)=p.2.2.2.2.2.1.map (λq=>MZ q ((p.2.2.1.2.2.1.length:Nat):Int))++[H])/\(P=false->d.2.2.2.1<0->d.2.2.2.2=false->c+16<=449->p.2.2.2.2.2.2=0->p.2.2.1.2.2.1.length<8->RG p.2.2.2.1 t->(∃h,QI p.2.2.1 (p.2.2.2.2.2.1.map (·.2.2))=some (h,0))->a=0/\d'.2.2.2=d.2.2.2):=λ{a}g xa=>⟨d,c,P,D,OU hk,hM,hP,hR,⟨[],Zc⟩,⟨[],[],Zc,Zc,Zc,λq=>(g q).elim⟩,Zc,Zc,.inl rfl,.inl ⟨rfl,hV⟩,λq=>(g q).elim,λC E F M N O Q a8=>(xa C E F M N O Q a8).elim⟩;refine Zr ⟨λn=>Zb (x3 (by simpa only[Wx]using n) λ_ _ _ _ a=>?_),λn=>?_⟩;·simp only[Wx]at n;exactλ_ _ _=>n a
 simp only[Wx]at n;rw[be Oc,be (Zco p1)];refine Zr ⟨λg1=>Zb (x3 YI λ_ _ _ _ _ a=>?_),λg1=>?_⟩;·simp only[Wx]at g1;intro _ _;omega
 simp only[Wx]at g1;refine Zn ((Zet (t:=t) Y).mono λfw x6=>Zr ⟨λR=>Zb (x3 YI λ_ _ _ _ _ _ a=>?_),λR=>?_⟩);·rw[x6.2 a]at R;simp only[Wx]at R
 have A:RG p.2.2.2.1 t:=x6.1 (by simpa only[Wx]using R);have S:p.2.2.1.2.2.1.length<8:=Y;obtain⟨rfl,x0⟩:=r5 n;rw[XX]at r1;subst r1;have hb:=qO (t:=t) p6 p7;refine Zn (Zp5 p6 p7 ((Zqb hM hk hV Y (hB A S n)).mono λo⟨d',o1,o2,o3⟩=>Zr ⟨λr=>Zb ?_,λr=>?_⟩))
 ·simp only[Wx]at r;obtain⟨a,-⟩|⟨-,u,m1,I⟩:=o2;·exact(r a).elim
  ·refine⟨d',c,u,D,o1,m1,hP,⟨D,[],s1,Zc,K,r3,r4,λa=>(r a).elim⟩,⟨[],Zc⟩,⟨[],[],Zc,Zc,Zc,λq=>(r q).elim⟩,Zc,Zc,.inr (.inl r),.inl ⟨rfl,I⟩,λq=>(r q).elim,λC E F M N O Q a8=>?_⟩;have xb:Xl (Uj t p.2.2.2.2.2.1).length<=16:=by unfold Xl;omega
   exact(r (o3 C E F Y Y).1).elim
 simp only[Wx]at r;obtain⟨-,m1,I⟩:=o2.resolve_right λq=>q.1 r;have x5:VM k f (c+Xl (Uj t p.2.2.2.2.2.1).length) false o.1:=⟨_,m1,by obtain⟨_,_,⟨_,_,_,_,q,_⟩,_⟩:=I λ_=>True;omega,λ_=>rfl⟩;refine Zn ((cD (p:=(o.1,p.2.1,p.2.2.1,p.2.2.2.1,p.2.2.2.2.1,[],p.2.2.2.2.2.2)) (t:=t) (l:=p.2.2.2.2.2.1) p2 (by show p.2.2.1.2.2.1.length<=_;omega) (by show p.2.2.2.1.length<=_;omega) Y).mono λq s=>?_);obtain⟨h,a,U,V,q3,q4,q5,q6⟩:=s;dsimp only at U V q3 q4 q5 q6;have x9:Kq (Uj t p.2.2.2.2.2.1)=some (t,p.2.2.2.2.2.1,true):=by obtain⟨x8,x1,-,-,x2⟩:=nr (b:=Uj t p.2.2.2.2.2.1) Y;rw[x1,x2 t _ p6 p7 (by have:=A.1;omega) (by have:=A.2.1;omega) rfl]
 by_cases g:a=0
 ·obtain⟨⟨x8,hx⟩,s⟩:=q5 g;refine Zr ⟨λe=>by rw[V,g]at e;simp only[Wx]at e,λ_=>?_⟩;have x4:PI (My J) q.1:=by
   rw[s];refine⟨p1,q3,?_,?_,λt' ht=>?_,Zc,Zc⟩;·show(p.2.2.2.1++[t]).length=h.2.2.1.length;rw[hx];simp;omega
   ·show(p.2.2.2.1++[t]).length<=8;simp;omega
   ·obtain z|z:=ZY ht;·exact p5 t' z
    ·rw[YV z];exact⟨A.1,A.2.1⟩
  have hE:q.1.2.2.1.2.2.1.length=p.2.2.1.2.2.1.length+1:=by rw[s];show h.2.2.1.length=_;rw[hx];simp
  refine Zn (W.Tl (λi=>∃v:Nat,i.2=v/\v<=p.2.2.2.2.2.1.length/\i.1=(p.2.2.2.2.2.1.take v).map λy=>MZ y ((q.1.2.2.1.2.2.1.length:Nat):Int)) (λi=>i.1=p.2.2.2.2.2.1.map λy=>MZ y ((q.1.2.2.1.2.2.1.length:Nat):Int)) (λi=>(p.2.2.2.2.2.1.length-i.2).toNat) ⟨0,rfl,Y,rfl⟩ ZB (λi G=>?_) λi G=>?_)
  ·obtain⟨u1,u2⟩:=i;obtain⟨v,e1,x,e3⟩:=G;dsimp only at e1 e3;subst e1 e3;refine Zr ⟨λe=>?_,λe=>Zb ?_⟩;·simp only[Wx]at e;refine XC ⟨by simp only[Wx];omega,Zn (YN ⟨ZB,λy hy=>?_⟩)⟩;rw[be Oc,be E0];refine Xi ⟨by simp only[Wx,LP,UF,VJ];omega,?_⟩;rw[show Zm (Zv (v:Int) 1)=((v+1:Nat):Int)by simp only[Wx];rw[ZK Y];rfl];rw[WL]at hy;refine Zb ⟨⟨v+1,rfl,Y,?_⟩,ZB⟩;show List.map _ (List.take v p.2.2.2.2.2.1)++[_]=_;rw[NS,hy,WW];rfl
   ·simp only[Wx]at e;show List.map _ (List.take v p.2.2.2.2.2.1)=_;rw[UT Y]
  ·rw[be Oc];refine Zn ((Zgl x4).mono λz⟨⟨sg,z1,w⟩,z3,z4⟩=>?_);obtain⟨z5,z6⟩:=z4 Y Y;refine Zr ⟨λe=>by rw[z5]at e;simp only[Wx]at e,λ_=>Xi ⟨by rw[G];simp only[Wx,LP,VJ];omega,Zb ?_⟩⟩;have x7:Jc (UB p) (Uj t p.2.2.2.2.2.1) (UB z.1):=⟨t,_,h,x9,A,S,g▸U,by rw[w,s];rfl⟩;refine⟨d',_,false,D++[Uj t p.2.2.2.2.2.1],o1,by rw[w,s];exact x5,by rw[w];exact⟨z1,x4.2⟩,⟨_,[],UB z.1,Zc,(x0▸K:UU (s0 J) D (UB p)).snoc x7,rfl,rfl,λ_=>⟨rfl,rfl⟩⟩,⟨_,rfl⟩,⟨[x8],[t],by rw[w,s];exact hx,by rw[w,s],Zc,λ_=>rfl⟩,?_,?_,.inr (.inr (by rw[w,s])),.inr ⟨⟨UB z.1,x0▸K,λ_=>⟨x7,rfl⟩⟩,A,S,n,rfl,I⟩,λ_=>⟨?_,z.2.1,by rw[w];exact z6,?_⟩,λC E F M N O Q a8=>⟨rfl,?_⟩⟩
   ·intro m T;have T:m∈i.1++[z.2.1]:=T;rw[G]at T;obtain y|y:=ZY T;·obtain⟨xi,-,rfl⟩:=VR y;exact Gn
    ·rw[YV y];exact z3
   ·show(i.1++[z.2.1]).length<=17;rw[G];simp;omega
   ·rw[w,s];show(([]:L Ux),p.2.2.2.2.2.2)=_;rw[n]
   ·show i.1++[z.2.1]=_;rw[G,w]
   ·have xb:Xl (Uj t p.2.2.2.2.2.1).length<=16:=by unfold Xl;omega
    exact(o3 C E F Y Y).2
 ·obtain⟨y1,y2⟩:=q6 g;refine Zr ⟨λ_=>Zb ?_,λe=>by rw[V]at e;simp only[Wx]at e;exact(g e).elim⟩;rw[y2,V];refine⟨d',_,false,D++[Uj t p.2.2.2.2.2.1],o1,x5,⟨p1,q3,?_,p4,p5,Zc,Zc⟩,⟨D,[Uj t p.2.2.2.2.2.1],s1,rfl,K,?_,r4,λx=>(g x).elim⟩,⟨_,rfl⟩,⟨[],[],?_,Zc,Zc,λx=>(g x).elim⟩,Zc,Zc,.inr (.inr rfl),.inr ⟨⟨UB p,x0▸K,λx=>(g x).elim⟩,A,S,n,rfl,I⟩,λx=>(g x).elim,λC E F M N O Q⟨xh,h9⟩=>?_⟩;·show p.2.2.2.1.length=h.2.2.1.length;rw[y1];exact p3
  ·show h.2.2.1=_;rw[y1];exact r3
  ·show h.2.2.1=_;rw[y1];simp
  ·rw[h9]at U;exact(g (WX Prod.snd (X9 U)).symm).elim
def Znv{m}{l}(h:l.length<=1000000):W (lF m l) λb=>b=true↔∃y∈l,y.2.2.1=m.2.2.2.2.2.2.2.1:=by
 unfold lF aH;refine Zn (WM (W.VQ (λa=>0<=a/\a<=l.length/\∀y∈l.take a.toNat,¬y.2.2.1=m.2.2.2.2.2.2.2.1) (λa=>∀y∈l,¬y.2.2.1=m.2.2.2.2.2.2.2.1) (λa=>(l.length-a).toNat) (λi=>0<=i/\∃y∈l,y.2.2.1=m.2.2.2.2.2.2.2.1) ⟨Zc,Y,Zc⟩ Y (λa f=>?_) (λa f=>Zb (Zb<|Zp)) λi e=>Zb ?_))
 ·obtain⟨k,o,n⟩:=f;refine Zr ⟨λd=>?_,λd=>Zb ?_⟩
  ·simp only[Wx]at d;refine Zn (YN ⟨Y,λy g=>?_⟩);rw[show nN m y=some _ by unfold nN Da;rw[bs],bs];refine Zr ⟨λc=>?_,λc=>Zb ?_⟩;·rw[bs];rw[Ur]at c;exact Zb ⟨k,y,X2 g,c⟩
   ·rw[M9]at c;rw[show Zm (Zv a 1)=a+1by simp only[Wx];rw[ZK Y]];refine⟨⟨Y,Y,λp j=>?_⟩,ZB⟩;rw[show(a+1).toNat=a.toNat+1by omega,NS,g]at j;grind
  ·simp only[Wx]at d;rwa[UT Y]at n
 ·simp only[Wx];exact⟨λ_=>e.2,λ_=>e.1⟩
def BI(p:Yz):Prop:=Fr p.2.2.2.2.1 p.2.2.2.2.2.1/\(p.2.2.2.2.2.1.map (·.2.2.1)).Nodup/\∀a∈p.2.2.2.2.2.1,1<=a.2.2.1.length
def Lx(m:Yy):Ux:=(m.2.1,m.2.2.2.1,m.2.2.2.2.2.2.2.1,m.2.2.2.2.2.2.2.2.1)
def dR(h:PI J d)(z:Qi C):W (Hv d C) λo=>PI J o.1/\(o.1=d\/∃b,o.1=(d.1,d.2.1,d.2.2.1,d.2.2.2.1,d.2.2.2.2.1,b,d.2.2.2.2.2.2))/\(BI d->BI o.1)/\MO o.2.1/\(C.1=1->(o.2.2=true/\o.1=d/\∃e r,o.2.1=PQ C e r/\(r=0->Ta (XJ C.2.1 d.2.2.2.2.1)=true/\UN (XJ C.2.1 d.2.2.2.2.1) (0,0)=(C.2.2.2.1,e))/\(C.2.2.2.2.2.2.2.1.length<=32->1<=C.2.2.2.2.2.2.2.1.length->r=0\/r=11/\Ta (XJ C.2.1 d.2.2.2.2.1)=true/\C.2.2.2.1<(UN (XJ C.2.1 d.2.2.2.2.1) (0,0)).1\/r=13/\d.2.2.2.2.2.1≠[]))\/o.2.2=false/\¬(Ta (XJ C.2.1 d.2.2.2.2.1)=true/\C.2.2.2.1<=(UN (XJ C.2.1 d.2.2.2.2.1) (0,0)).1)/\(o.1=d/\(∃y∈d.2.2.2.2.2.1,y.1=C.2.1/\y.2.1=C.2.2.2.1)\/o.1=(d.1,d.2.1,d.2.2.1,d.2.2.2.1,d.2.2.2.2.1,d.2.2.2.2.2.1++[Lx C],d.2.2.2.2.2.2))):=by
 obtain⟨p1,p2,p3,p4,p5,p6,p7⟩:=id h;unfold Hv;refine Zr ⟨λu=>Zb ⟨h,.inl rfl,id,Qg Zc,λe=>?_⟩,λu=>?_⟩;·simp only[Wx]at u;exact(u e).elim
 refine Yu (λb=>b=true↔Ta (XJ C.2.1 d.2.2.2.2.1)=true/\C.2.2.2.1<=(UN (XJ C.2.1 d.2.2.2.2.1) ((0:Int),(0:Int))).1) (λg=>Zb ?_) (λg=>Zb ?_) λb l=>?_;·rw[g];simp only[Wx]
 ·rw[g];simp
 refine Zr ⟨λg=>?_,λg=>?_⟩
 ·obtain⟨N,k2⟩:=l.1 g;refine Zr ⟨λa=>?_,λa=>?_⟩;·rw[be E0];simp only[Wx]at a;exact Zb ⟨h,.inl rfl,id,Gn,λ_=>.inl ⟨rfl,rfl,_,_,rfl,λ_=>⟨N,by rw[<-a]⟩,λ_ _=>.inl rfl⟩⟩
  ·rw[be E0];simp only[Wx]at a;exact Zb ⟨h,.inl rfl,id,Gn,λ_=>.inl ⟨rfl,rfl,_,_,rfl,λe=>absurd e YI,λ_ _=>.inr (.inl ⟨rfl,N,Y⟩)⟩⟩
 ·have B:¬(Ta (XJ C.2.1 d.2.2.2.2.1)=true/\C.2.2.2.1<=(UN (XJ C.2.1 d.2.2.2.2.1) ((0:Int),(0:Int))).1):=λq=>by rw[l.2 q]at g;cases g
  refine Yu (λk=>k=true↔¬(1<=C.2.2.2.2.2.2.2.1.length/\C.2.2.2.2.2.2.2.1.length<=32)) (λa=>Zb ?_) (λa=>Zb ?_) λk K=>Yu (λn=>(n=true->k=false->64<C.2.2.2.2.2.2.2.2.1.length)/\(n=false->k=false)) (λa=>Zb ⟨λ_ e=>(by rw[a]at e;cases e),λe=>by cases e⟩) (λa=>Zb ⟨λe _=>?_,λ_=>a⟩) λn m=>?_;·simp only[Wx]at a⊢;exact⟨λ_=>Y,λ_=>trivial⟩
  ·simp only[Wx]at a⊢;omega
  ·simp only[Wx]at e;omega
  have U:=z.2.2.2.2.2.2.2.1;refine Zr ⟨λa=>?_,λa=>?_⟩
  ·rw[be E0];refine Zb ⟨h,.inl rfl,id,Gn,λ_=>.inl ⟨rfl,rfl,_,_,rfl,λe=>absurd e YI,λQ R=>?_⟩⟩;exfalso;have s:k=false:=by
    cases T:k;·rfl
    ·exact(K.1 T ⟨R,Q⟩).elim
   have:=m.1 a s;omega
  have s:=m.2 a;have L:1<=C.2.2.2.2.2.2.2.1.length/\C.2.2.2.2.2.2.2.1.length<=32:=by apply sc;intro q;rw[K.2 q]at s;cases s
  refine WM (W.VQ (λf=>0<=f.1/\f.1<=d.2.2.2.2.2.1.length/\∀y∈d.2.2.2.2.2.1.take f.1.toNat,¬y.1=C.2.1) (λf=>∀y∈d.2.2.2.2.2.1,¬y.1=C.2.1) (λf=>(d.2.2.2.2.2.1.length-f.1).toNat) (λo=>o.1=d/\MO o.2.1/\d.2.2.2.2.2.1≠[]/\((o.2.2=false/\∃y∈d.2.2.2.2.2.1,y.1=C.2.1/\y.2.1=C.2.2.2.1)\/o.2.2=true/\o.2.1=PQ C 0 13)) ⟨Zc,ZB,Zc⟩ ZB (λf E=>?_) (λf E=>?_) λo⟨rfl,V,X,Z⟩=>?_)
  ·obtain⟨u1,u2,O⟩:=E;refine Zr ⟨λc=>?_,λc=>Zb ?_⟩
   ·simp only[Wx]at c;refine XC ⟨by simp only[Wx];omega,Zn (YN ⟨Y,λy t=>?_⟩)⟩;have A:=X2 t;refine Yu (λb=>b=true↔y.1=C.2.1/\y.2.1=C.2.2.2.1) (λi=>Zb ?_) (λi=>Zb ?_) λS x=>Zr ⟨λi=>?_,λi=>Zr ⟨λv=>?_,λv=>Zb ?_⟩⟩;·simp only[Wx]at i⊢;exact⟨λe=>⟨i,e⟩,λe=>e.2⟩
    ·simp only[Wx]at i⊢;exact⟨λe=>e.elim,λe=>i e.1⟩
    ·rw[bs];exact Zb ⟨rfl,Qg Zc,List.ne_nil_of_mem A,.inl ⟨rfl,y,A,x.1 i⟩⟩
    ·rw[be E0,bs];exact Zb ⟨rfl,Gn,List.ne_nil_of_mem A,.inr ⟨rfl,rfl⟩⟩
    ·simp only[Wx]at v;rw[show Zm (Zv f.1 1)=f.1+1by simp only[Wx];rw[ZK Y]];refine⟨⟨ZB,ZB,λn m=>?_⟩,ZB⟩;dsimp only at m;rw[show(f.1+1).toNat=f.1.toNat+1by omega,NS,t]at m;obtain q|q:=ZY m;·exact O n q
     ·rw[YV q];exact v
   ·simp only[Wx]at c;rwa[UT Y]at O
  ·refine Yu (λb=>b=true↔16<=d.2.2.2.2.2.1.length\/∃y∈d.2.2.2.2.2.1,y.2.2.1=C.2.2.2.2.2.2.2.1) (λc=>Zb ?_) (λc=>Zn ((Znv (m:=C) Y).mono λS x=>Zb ?_)) λb3 I=>Zr ⟨λc=>?_,λc=>?_⟩;·simp only[Wx]at c;exact⟨λ_=>.inl Y,λ_=>rfl⟩
   ·simp only[Wx]at c;rw[x];exact⟨.inr,λe=>e.resolve_left Y⟩
   ·rw[be E0];refine Zb ⟨h,.inl rfl,id,Gn,λ_=>.inl ⟨rfl,rfl,_,_,rfl,λe=>absurd e YI,λ_ _=>.inr (.inr ⟨rfl,λe=>?_⟩)⟩⟩;obtain q|⟨y,q,-⟩:=I.1 c;·rw[e]at q;simp at q
    ·rw[e]at q;cases q
   ·have M:¬(16<=d.2.2.2.2.2.1.length\/∃y∈d.2.2.2.2.2.1,y.2.2.1=C.2.2.2.2.2.2.2.1):=λq=>by rw[I.2 q]at c;cases c
    have x0:d.2.2.2.2.2.1.length<16:=Nat.lt_of_not_le λq=>M (.inl q);refine Xi ⟨by simp only[Wx];omega,Xi ⟨by simp only[Wx];omega,Xi ⟨by simp only[Wx,VJ];omega,Zb ⟨⟨p1,p2,p3,p4,p5,?_,?_⟩,.inr ⟨_,rfl⟩,λp=>⟨⟨?_,?_⟩,?_,?_⟩,Qg Zc,λ_=>.inr ⟨rfl,B,.inr rfl⟩⟩⟩⟩⟩;·show(d.2.2.2.2.2.1++[_]).length<=16;simp;omega
    ·intro q j;change q∈d.2.2.2.2.2.1++[Lx C]at j;obtain y|y:=ZY j;·exact p7 q y
     ·rw[YV y];exact⟨z.1,z.2.2.1,L.2,U⟩
    ·show((d.2.2.2.2.2.1++[Lx C]).map (·.1)).Nodup;rw[WW,T5];refine⟨p.1.1,Zc,λP w b l=>?_⟩;obtain⟨y,H,rfl⟩:=VR w;rw[show b=C.2.1by simpa[Lx]using l];exact E y H
    ·intro q j D;change q∈d.2.2.2.2.2.1++[Lx C]at j;obtain y|y:=ZY j;·exact p.1.2 q y D
     ·rw[YV y]at D⊢;have:¬C.2.2.2.1<=(UN (XJ C.2.1 d.2.2.2.2.1) ((0:Int),(0:Int))).1:=λe=>B ⟨D,e⟩;exact Int.lt_of_not_ge this
    ·show((d.2.2.2.2.2.1++[Lx C]).map (·.2.2.1)).Nodup;rw[WW,T5];refine⟨p.2.1,Zc,λP w b l=>?_⟩;obtain⟨y,H,rfl⟩:=VR w;rw[show b=C.2.2.2.2.2.2.2.1by simpa[Lx]using l];exact(λy t e=>M (.inr ⟨y,t,e⟩)) y H
    ·intro q j;change q∈d.2.2.2.2.2.1++[Lx C]at j;obtain y|y:=ZY j;·exact p.2.2 q y
     ·rw[YV y];exact L.1
  ·refine⟨h,.inl rfl,id,V,λ_=>?_⟩;obtain⟨F,G⟩|⟨F,G⟩:=Z;·exact .inr ⟨F,B,.inl ⟨rfl,G⟩⟩
   ·exact .inl ⟨F,rfl,0,13,G,λe=>absurd e YI,λ_ _=>.inr (.inr ⟨rfl,X⟩)⟩
def BC(h:MO C)(a b c):MO (a,b,c,C.2.2.2):=h
def Zi0{x}{l}(d:l.length<=1000000)(hx:MO x)(a:∀y∈l,MO y):W (vU C l x p) λo=>o.1=C/\o.2.length<=l.length+1/\∀y∈o.2,MO y:=by
 refine Yu _ (λ_=>Xi ⟨by simp[Wx,VJ];omega,Zb ⟨Zc,λy c=>?_⟩⟩) (λ_=>Zb ⟨Zc,a⟩) λo b=>Zb ⟨rfl,b⟩;obtain q|q:=ZY c;·exact a y q
 ·rw[YV q];exact BC hx _ _ _
def ZrN(h:PI J d):W (zm d) λo=>(∃s,GS J s/\o.1=(d.1,s,d.2.2))/\MO o.2.1:=by
 unfold zm;rw[be Oc];refine Zn ((nu h).mono λo⟨⟨s,p,q⟩,v,w⟩=>Zr ⟨λr=>Zb ⟨⟨s,p,q⟩,Qg Zc⟩,λr=>?_⟩);rw[q];have x:=h.2.2.2.1;have y:=h.2.2.1;refine Zn ((io (s:=d.2.2.1) Y).mono λf t=>Zn (W.lp (λb=>∃(a:Nat)(c:L V8),b.1=a/\1<=a/\a<=9/\b.2=(8,0,0,0,0,0,0,[],[],o.2.1,([],[]),([],[]),zH,z1,[],[],c,f)/\c.length<=100000*a) (λb=>(9-b.1).toNat) ⟨1,[],rfl,Y,Y,rfl,Zc⟩ ZB (λb i=>?_) λb i=>Zb ⟨⟨s,p,rfl⟩,?_⟩));·obtain⟨A,B⟩:=b;obtain⟨a,c,g,j,k,e,l⟩:=i;dsimp only at g e;subst g e;rw[be Oc];refine Zr ⟨λm=>?_,λm=>Zb ⟨a,c,rfl,j,k,rfl,l⟩⟩;simp only[Wx]at m;refine Zn ((j4 h.2.1).mono λu n=>Xi ⟨by have:=n.1;simp only[Wx];omega,?_⟩);rw[show Zm (Zv (a:Int) 1)=((a+1:Nat):Int)by simp only[Wx];rw[ZK Y];rfl];exact Zb ⟨⟨a+1,c++u,rfl,Y,Y,rfl,by have:=n.1;rw[YM];omega⟩,ZB⟩
 ·obtain⟨a,c,g,j,k,e,l⟩:=i;show MO b.2;rw[e];have z:f.length<=8:=by rw[t];simp;omega
  refine⟨⟨by show o.2.1.2.length<=_;omega,W7 _,W7 _,W7 _,W7 _,W7 _,W7 _,W7 _,by show c.length<=_;omega,by show f.length<=_;omega⟩,by show o.2.1.2.length<=_;omega⟩
def dQ(h:PI J d)(t:Qi C):W (FG d C) λo=>(∃s,GS J s/\o.1=(d.1,s,d.2.2))/\(∀x∈o.2,MO x)/\o.2.length<=8/\(C.1=1->o.2=[]):=by
 have I:=t.2.2.2.1;have K:=t.2.2.2.2.1;unfold FG;refine Zr ⟨λr=>?_,λr=>?_⟩
 ·simp only[Wx]at r;refine Zn (W.lp (λb=>∃(a:Nat)(s:Me),b.1=a/\a<=8/\b.2.1=(d.1,s,d.2.2)/\GS J s/\b.2.2.1=C/\b.2.2.2.length<=a/\∀x∈b.2.2.2,MO x) (λb=>(8-b.1).toNat) ⟨0,d.2.1,rfl,Y,rfl,h.1,rfl,Zc,Zc⟩ ZB (λb p=>?_) λb p=>Zb ?_);·obtain⟨L,M,E,N⟩:=b;obtain⟨a,s,k,q,j,f,l,m,c⟩:=p;dsimp only at k j l m c;subst k j l;refine Zr ⟨λg=>?_,λg=>Zb ⟨a,s,rfl,q,rfl,f,rfl,m,c⟩⟩;simp only[Wx]at g;have v:PI J (d.1,s,d.2.2):=⟨f,h.2⟩;refine Uz (λ_=>by rw[be Oc];exact Zb trivial) (λ_=>Zb trivial) λH=>Yu (λo=>(∃s,GS J s/\o.1=(d.1,s,d.2.2))/\o.2.1=E/\o.2.2.length<=a+1/\∀x∈o.2.2,MO x) (λ_=>Zn ((Zgl v).mono λG i=>Zn ((Zi0 Y i.2.1 c).mono λF e=>Zb ⟨i.1,e.1,by have:=e.2.1;dsimp only;omega,e.2.2⟩))) (λ_=>Zb ⟨⟨s,f,rfl⟩,rfl,ZB,c⟩) λo n=>?_;·obtain⟨⟨D,w,y⟩,z,A,B⟩:=n;rw[show Zm (Zv (a:Int) 1)=((a+1:Nat):Int)by simp only[Wx];rw[ZK Y];rfl];exact Zb ⟨⟨a+1,D,rfl,Y,y,w,z,A,B⟩,ZB⟩
  ·obtain⟨a,s,k,q,j,f,l,m,c⟩:=p;exact⟨⟨s,f,j⟩,c,ZB,λu=>Y⟩
 ·refine Yu (λo=>(∃s,GS J s/\o.1=(d.1,s,d.2.2))/\(∀x∈o.2.2,MO x)/\o.2.2.length<=8/\(C.1=1->o.2.2=[])) (λg=>Zn ((ZrN h).mono λG i=>Zn ((Zi0 Zc i.2 Zc).mono λF e=>Zb ⟨i.1,e.2.2,by have:=e.2.1;simp at this;dsimp only;omega,λu=>?_⟩))) (λg=>Zb ⟨⟨d.2.1,h.1,rfl⟩,Zc,Zc,λ_=>rfl⟩) λo n=>Zb n;simp only[Wx]at g;omega
def wN(c:Z5)(n:Nj):Z5:=(c.1,c.2.1,c.2.2.1,c.2.2.2.1,c.2.2.2.2.1,c.2.2.2.2.2.1,c.2.2.2.2.2.2.1,c.2.2.2.2.2.2.2.1,n,c.2.2.2.2.2.2.2.2.2)
def nt(c:Z5):Nj:=c.2.2.2.2.2.2.2.2.1
def NI(n:Nj)(bs:L Zt):Prop:=n.1.length<=64/\(∀a∈n.1,0<=a.1/\∃b,a.2=some b/\b<bs.length)/\∀c∈bs,c.length<=20000
def NI.more{n}(h:NI n D)(j:A.length<=20000):NI n (D++[A]):=by
 refine⟨h.1,λa d=>?_,λg e=>?_⟩;·obtain⟨b,f,c,i⟩:=h.2.1 a d;exact⟨b,f,c,Zp⟩
 ·obtain q|q:=ZY e;·exact h.2.2 g q
  ·grind
theorem ij(h:NI (nt E) D)(r:0<=p)(q:A.length<=1000000000):W (DR E D p A) λo=>(∃n x,o.1=wN E n/\o.2.1=D++x/\NI n o.2.1)/\(A.length<=20000->(nt E).1.length<64->o=(wN E ((nt E).1++[(p,some D.length)],(nt E).2),D++[A],true)):=by
 obtain⟨i,j,k⟩:=id h;unfold DR;refine Yu (λd=>d=false↔A.length<=20000/\(nt E).1.length<64) (λa=>Zb ?_) (λa=>Zb ?_) λd c=>Zr ⟨λa=>Zb ⟨⟨_,[],rfl,Zc,i,j,k⟩,λe f=>by rw[c.2 ⟨e,f⟩]at a;cases a⟩,λa=>?_⟩;·simp only[Wx]at a⊢;exact⟨λb=>b.elim,λb=>Y⟩
 ·change YP 64 (((nt E).1.length:Nat):Int)=false↔_;simp only[Wx]at a⊢;omega
 ·obtain⟨m,s⟩:=c.1 a;refine Xi ⟨by simp only[Wx];omega,Xi ⟨by show(nt E).1.length+1<=_;omega,Zb ⟨⟨_,[A],rfl,rfl,⟨?_,λg l=>?_,(h.more m).2.2⟩⟩,λ_ _=>rfl⟩⟩⟩;·show((nt E).1++[_]).length<=64;simp;omega
  ·change g∈(nt E).1++[_]at l;grind
def Jr{c}{t}(h:NI (nt c) D)(l:0<=t)(i:MO C):W (Uh c D t C) λo=>(∃n x,o.1=wN c n/\o.2=D++x/\NI n o.2)/\∀b,UP C=some (b,0)->b.length<=20000->(nt c).1.length<64->o=(wN c ((nt c).1++[(t,some D.length)],(nt c).2),D++[b]):=by
 refine Zn ((ZkX i.1 i.2).self.mono λj⟨g,m⟩=>Yu (λo=>(∃n x,o.2=wN c n/\o.1=D++x/\NI n o.1)/\∀b,UP C=some (b,0)->b.length<=20000->(nt c).1.length<64->o=(D++[b],wN c ((nt c).1++[(t,some D.length)],(nt c).2))) (λk=>Zn ((ij h l Y).mono λo d=>Zb ⟨d.1,λb a e f=>?_⟩)) (λk=>Zb ⟨⟨nt c,[],rfl,Zc,h⟩,λb a=>?_⟩) λo d=>Zb ⟨d.1,λb a e f=>by rw[d.2 b a e f]⟩);·have j:=X9 (g.symm.trans a);simp_all
 ·rw[g]at a;simp_all
def wA:W (DS E p) λb=>b=true↔0<=p/\p<(nt E).1.length:=by
 refine Yu _ (λa=>Zb ?_) (λa=>Zb ?_) λb c=>Zb c;·change ZC p ((nt E).1.length:Nat)=true↔_;simp_all
 ·simp only[Wx]at a⊢;exact⟨Zc,Y⟩
def j7(h:NI (nt E) D):W (oS E D p) λo=>o.2=false/\¬(0<=p/\p<(nt E).1.length)\/o.2=true/\(0<=p/\p<(nt E).1.length)/\∃f j b,(nt E).1[p.toNat]?=some f/\0<=f.1/\f.2=some j/\D[j]?=some b/\o.1=(f.1,b):=by refine Zn (wA.mono λn k=>Zr ⟨λi=>Zb (.inl ⟨rfl,λa=>Zp⟩),λi=>?_⟩);·have a:=k.1 Xk;refine XC ⟨a,Zn (YN ⟨a,λf e=>?_⟩)⟩;obtain⟨g,j,c,l⟩:=h.2.1 f (X2 e);rw[c,ko];refine Zn (YN ⟨Xk,λb d=>?_⟩);have m:=h.2.2 b (X2 d);exact Xi ⟨by simp only[Wx];omega,Zb (.inr ⟨rfl,a,f,j,b,e,g,c,d,rfl⟩)⟩
theorem yT{c}(h:NI (nt c) D):W (za c p) λo=>o.2=true/\o.1=wN c ((nt c).1.eraseIdx p.toNat,(nt c).2)/\0<=p/\p<(nt c).1.length/\NI (nt o.1) D\/o=(c,false)/\¬(0<=p/\p<(nt c).1.length):=by
 have i:=h.1;refine Zn (wA.mono λj g=>Zr ⟨λe=>Zb (.inr ⟨rfl,λa=>Xk⟩),λe=>?_⟩)
 ·have a:=g.1 Xk;rw[show Zm (Zv p 1)=p+1by simp only[Wx];rw[ZK Y]];have b:aE (nt c).1 p (p+1)=some ((nt c).1.eraseIdx p.toNat):=by show(if 0<=p/\p<=p+1/\p+1<=((nt c).1.length:Int)then some _ else none)=_;rw[Y4 Y,show(p+1).toNat=p.toNat+1by omega,ZkD]
  change W (O (aE (nt c).1 p (p+1)) _) _;rw[be b];refine Zb (.inl ⟨rfl,rfl,a.1,a.2,?_,λd f=>h.2.1 d (yu f),h.2.2⟩);show((nt c).1.eraseIdx p.toNat).length<=64;grind
def ZcK{i}(h:NI (nt E) D):W (dG E D i) λo=>o.2.1=D/\(o.2.2.2=false/\o.1=E/\¬(0<=i/\i<(nt E).1.length)\/o.2.2.2=true/\o.1=wN E ((nt E).1.eraseIdx i.toNat,(nt E).2)/\NI (nt o.1) D/\(0<=i/\i<(nt E).1.length)/\∃f j b,(nt E).1[i.toNat]?=some f/\0<=f.1/\f.2=some j/\D[j]?=some b/\o.2.2.1=(f.1,b)):=by
 refine Zn ((j7 h).mono λu g=>?_);obtain⟨a,c⟩|⟨a,c,f,j,b,m,n,p,q,r⟩:=g;·rw[a,Xp];exact Zb ⟨rfl,.inl ⟨rfl,rfl,c⟩⟩
 ·rw[a,XD];refine Zn ((yT h).mono λo e=>?_);obtain⟨k,d,s,t,l⟩|⟨-,d⟩:=e;·exact Zb ⟨rfl,.inr ⟨k,d,l,c,f,j,b,m,n,p,q,r⟩⟩
  ·omega
def ZbZ(h:NI (nt E) D):W (oR E D p) λo=>∃n x,o.1=wN E n/\o.2.1=D++x/\NI n o.2.1:=by
 refine Zn ((j7 h).mono λl d=>?_);obtain⟨a,e⟩|⟨a,e,j,k,b,m,f,q,g,i⟩:=d;·rw[a,Xp];exact Zb ⟨nt E,[],rfl,Zc,h⟩
 ·rw[a,XD,i];have:=h.2.2 b (X2 g);exact Zn ((ij h f ZB).mono λo c=>Zb c.1)
def ZcJ(h:NI (nt E) D):W (vF E p M) λo=>∃n,o.1=wN E n/\NI n D/\n.1.length=(nt E).1.length:=by
 unfold vF;refine Zn (wA.mono λs r=>Yu (λg=>g=false->(0<=p/\p<(nt E).1.length)/\0<=M/\M<(nt E).1.length) (λb=>Zb λa=>by cases a) (λb=>Zn (wA.mono λg c=>Zb λa=>⟨Zp,c.1 (by simpa only[Wx]using a)⟩)) λg c=>Zr ⟨λ_=>Zb ⟨nt E,rfl,h,rfl⟩,λb=>?_⟩);obtain⟨d,e⟩:=c b;refine XC ⟨e,Zn (YN ⟨e,λi l=>XC ⟨d,Zn (YN ⟨d,λj m=>XC ⟨d,XC ⟨?_,Zb ⟨(((nt E).1.set p.toNat i).set M.toNat j,(nt E).2),rfl,⟨?_,λk q=>?_,h.2.2⟩,Zc⟩⟩⟩⟩)⟩⟩)⟩;·show 0<=M/\M<(((nt E).1.set p.toNat i).length:Nat);rw[Pz];exact e
 ·dsimp only;rw[Pz,Pz];exact h.1
 ·obtain f|rfl:=yx q
  ·obtain f|rfl:=yx f;·exact h.2.1 k f
   ·exact h.2.1 _ (X2 l)
  ·exact h.2.1 _ (X2 m)
def Zl0{x}(h:NI (nt E) D):W (oT E D p M x) λo=>o.1=E/\NI (nt E) o.2.1:=by
 unfold oT;have P:∀{i:Type}{s:i->Prop}{b:qt}{f:Zt->Zg i},b∈(nt E).1->(∀a c,b.2=some a->D[a]?=some c->W (f c) s)->W (Yv b.2 none λS=>O (ZF D (Zi S)) f) s:=λ{i s b f}d H=>by obtain⟨t,a,n,A⟩:=h.2.1 b d;rw[n,ko];exact Zn (YN ⟨by simp only[Wx];omega,λc I=>H a c n (by rwa[show(Zi a).toNat=a from WL a]at I)⟩)
 refine Zn (wA.mono λV N=>Yu (λr=>r=false->(0<=p/\p<(nt E).1.length)/\0<=M) (λe=>Zb λg=>by cases g) (λe=>Zb λg=>⟨N.1 (by simpa only[Wx]using e),by simpa only[Wx]using g⟩) λr v=>Yu (λC=>C=false->r=false/\∀b a c,(nt E).1[p.toNat]?=some b->b.2=some a->D[a]?=some c->M<c.length) (λe=>Zb λg=>by cases g) (λe=>?_) λC L=>Zr ⟨λ_=>Zb ⟨rfl,h⟩,λe=>?_⟩);·obtain⟨k,q⟩:=v e;refine XC ⟨k,Zn (YN ⟨k,λb d=>P (X2 d) λa c l j=>Zb λg=>⟨e,λU B T w y z=>?_⟩⟩)⟩;change(nt E).1[p.toNat]?=some b at d;rw[d]at w;cases w;rw[l]at y;cases y;rw[j]at z;cases z;simpa only[Wx]using g
 ·obtain⟨G,J⟩:=L e;obtain⟨k,q⟩:=v G;refine XC ⟨k,Zn (YN ⟨k,λb d=>?_⟩)⟩;obtain⟨t,a,l,F⟩:=h.2.1 b (X2 d);obtain⟨c,j⟩:∃c,D[a]?=some c:=⟨D[a],Ve F⟩;have u:=J b a c d l j;rw[l,ko];have m:∀{i:Type}{f:Zt->Zg i},O (ZF D (Zi a)) f=f c:=λ{i f}=>be (Sy (MH _) (by rw[show(Zi a).toNat=a from WL a];exact j));rw[m];refine XC ⟨⟨q,u⟩,?_⟩;rw[m];refine Zn (YN ⟨⟨q,u⟩,λr v=>?_⟩);rw[ko,m];refine XC ⟨⟨q,u⟩,?_⟩;rw[m];refine Zb ⟨rfl,h.1,λb d=>?_,λQ K=>?_⟩;·obtain⟨t,B,n,A⟩:=h.2.1 b d;exact⟨t,B,n,by simpa[Xc]using A⟩
  ·obtain R|rfl:=yx K;·exact h.2.2 Q R
   ·simp only[Wx,Pz];exact h.2.2 c (X2 j)
def Do:W (IZ P) λ_=>True:=by exact Zr ⟨λ_=>Zb trivial,λ_=>Zb trivial⟩
def SI(s:Xn):Prop:=s.2.2.2.2.2.2.2.2.2.2.2.2.2.2.1.length<=64
def VL(l:L Vb):Prop:=l.length<=4096/\∀v∈l,v.2.2.2.2.length<=64
def FO(f:Dj):Prop:=f.1.length<=64/\VL f.2.2.2
def ZkQ{s}(h:SI s):W (lv s p A M) λo=>SI o.1/\MO o.2.1:=by
 refine Zn (W.mono (P:=λa=>a=false->A.length<=32) ?_ λa c=>Zr ⟨λ_=>Zb ⟨h,Qg Zc⟩,λb=>Zr ⟨λ_=>Zb ⟨h,Qg Zc⟩,λ_=>?_⟩⟩);·simp[Wx];omega
 ·have:=c b;exact Xi ⟨by simp[Wx];omega,Zb ⟨by show A.length<=64;omega,Qg Zc⟩⟩
def Zo2{s}:W (lw s C) λ_=>True:=by unfold lw;simp only[Wx]
def Zqj{s}:W (aw s) λ_=>True:=by exact Zr ⟨λ_=>Zb trivial,λ_=>Zn (ic.mono λ_ _=>Zb trivial)⟩
def ZsL{s}(b:Qi C):W (ax s C p) λ_=>True:=by obtain⟨-,-,-,-,-,-,-,-,-,-,-,c,⟨d,-⟩,-⟩:=b;refine Zn (Zqj.mono λ_ _=>Zn (ZpP.mono λ_ _=>Zr ⟨λ_=>Zb trivial,λ_=>Zn (pz.mono λ_ _=>Zn (ZpO.mono λ_ _=>Zr ⟨λ_=>Zb trivial,λ_=>Uz (λ_=>Zb trivial) (λ_=>Zb trivial) λ_=>Zr ⟨λ_=>Zb trivial,λ_=>Zn ((ZlN (by show C.2.2.2.2.2.2.2.2.2.2.2.2.2.1.1.length<=_;omega) (by show C.2.2.2.2.2.2.2.2.2.2.2.2.2.2.1.length<=_;omega)).mono λ_ _=>Zr ⟨λ_=>Zb trivial,λ_=>Uz (λ_=>Zb trivial) (λa=>?_) λ_=>Zb trivial⟩)⟩⟩))⟩));·simp only[Wx]at a;rw[show Zm _=C.2.2.2.2.2.2.2.2.2.2.2.2.2.2.1.length-1by simp only[Wx];rw[ZK Y]];exact Zn (YN ⟨Y,λ_ _=>Zb trivial⟩)
def ZkJ{s}(h:SI s)(d:Qi C):W (lu s C p) λo=>SI o.1/\FO o.2.1:=by
 have a:FO ([],0,QY,[]):=⟨Zc,Zc,Zc⟩;obtain⟨-,-,-,-,-,-,-,-,j,-,-,i,⟨c,e⟩,-⟩:=id d;unfold lu;refine Zn (Zo2.mono λ_ _=>Zr ⟨λ_=>Zb ⟨h,a⟩,λ_=>Uz (λ_=>Zb trivial) (λ_=>Zb trivial) λg=>Zr ⟨λ_=>Zb ⟨h,a⟩,λ_=>Zn ((ZcB Y).mono λ_ _=>Zr ⟨λ_=>Zb ⟨h,a⟩,λ_=>Zr ⟨λ_=>Zb ⟨h,a⟩,λ_=>Zr ⟨λ_=>Zb ⟨h,a⟩,λ_=>Zn ((ZsL d).mono λ_ _=>Zr ⟨λ_=>Zb ⟨h,a⟩,λ_=>Uz (λ_=>Zb trivial) (λ_=>Zb trivial) λ_=>Zr ⟨λ_=>Zb ⟨h,a⟩,λ_=>Uz (λ_=>Uz (λ_=>Zb trivial) (λ_=>Zb trivial) λ_=>Zb trivial) (λ_=>Zb trivial) λ_=>Zr ⟨λ_=>Zb ⟨h,a⟩,λ_=>Yu SI (λ_=>Zb h) (λ_=>Zb h) λf b=>Xi ⟨?_,Xi ⟨?_,Zb ⟨b,b,c,e⟩⟩⟩⟩⟩⟩)⟩⟩⟩)⟩⟩);·have:f.2.2.2.2.2.2.2.2.2.2.2.2.2.2.1.length<=64:=b;simp only[Wx];omega
 ·have:=c;simp only[Wx];unfold LL at this;omega
def Zo8{m}{f}(b:FO f):W (dy m f) λ_=>True:=by have c:=b.2.1;refine Uz (λ_=>Zb trivial) (λa=>Zn ((rA Y).mono λ_ _=>Uz (λ_=>?_) (λ_=>Zb trivial) λ_=>Zb trivial)) λ_=>Zb trivial;simp only[Wx]at a;rw[show Zm _=f.2.2.2.length-1by simp[Wx];rw[ZK Y]];exact Zn (YN ⟨Y,λ_ _=>Zb trivial⟩)
def Zxc{a b}:W (oJ a b) λ_=>True:=by unfold oJ Da;simp[Wx]
theorem Zou{b}(h:Z.length<=1000000):W (aF Z b) λ_=>True:=by refine Zr ⟨λ_=>Zb trivial,λd=>?_⟩;simp[Wx]at d;refine WM (W.Pk (λa=>0<=a/\a<=Z.length) (λa=>(Z.length-a).toNat) (λ_=>True) ⟨Zc,Y⟩ Y (λa c=>?_) (λa c=>Zb trivial) λ_ _=>trivial);obtain⟨f,g⟩:=c;refine Zr ⟨λe=>?_,λ_=>Zb ⟨f,g⟩⟩;simp[Wx]at e;refine Zn (YN ⟨Y,λ_ _=>Zn (YN ⟨Y,λ_ _=>Zn (Zxc.mono λ_ _=>Zr ⟨λ_=>by rw[bs];exact Zb trivial,λ_=>Zb ?_⟩)⟩)⟩);rw[show Zm _=a+1by simp[Wx];rw[ZK Y]];exact⟨Y,Zp⟩
def Zfu(h:VL Z):W (vC Z) VL:=by have k:=h.1;unfold vC;refine Zn (W.lp (λa=>0<=a.2/\a.2<=Z.length/\a.1.length=a.2/\∀v∈a.1,v.2.2.2.2.length<=64) (λa=>(Z.length-a.2).toNat) ⟨Zc,ZB,Zc,Zc⟩ ZB (λa b=>?_) λa b=>Zb ⟨Y,b.2.2.2⟩);obtain⟨e,f,g,i⟩:=b;refine Zr ⟨λc=>?_,λ_=>Zb ⟨e,f,g,i⟩⟩;simp only[Wx]at c;refine Zn (YN ⟨Y,λj d=>?_⟩);have m:=h.2 j (X2 d);rw[show Zm (Zv a.2 1)=a.2+1by simp only[Wx];rw[ZK Y]];refine Xi ⟨by simp only[Wx];omega,Xi ⟨Zp,Zb ⟨⟨ZB,ZB,Zp,λv l=>?_⟩,ZB⟩⟩⟩;grind
theorem Zlr{m}{f}(a:FO f):W (oI m f) λ_=>True:=by have b:=a.2.1;unfold oI Da;rw[bs];refine Uz (λ_=>Zb trivial) (λ_=>Zb trivial) λ_=>Zr ⟨λ_=>Zb trivial,λ_=>Zn ((Zo8 a).mono λ_ _=>Zr ⟨λ_=>Zb trivial,λ_=>Zr ⟨λ_=>Zb trivial,λ_=>Zn ((ZcN Y).mono λe c=>Zn ((Zou Y).mono λ_ _=>Zr ⟨λ_=>Zb trivial,λ_=>Zn ((Zfu a.2).mono λ_ _=>Zn (L9.2 ⟨Zp,Zn ((Zfu ?_).mono λ_ _=>Zb trivial)⟩))⟩))⟩⟩)⟩;·refine⟨?_,λv d=>a.2.2 v Zp⟩;grind
def ud(c:Z5):L Jt:=c.2.2.2.2.2.2.2.2.2.2.1
def wU(c:Z5)(u:L Jt):Z5:=(c.1,c.2.1,c.2.2.1,c.2.2.2.1,c.2.2.2.2.1,c.2.2.2.2.2.1,c.2.2.2.2.2.2.1,c.2.2.2.2.2.2.2.1,c.2.2.2.2.2.2.2.2.1,c.2.2.2.2.2.2.2.2.2.1,u,c.2.2.2.2.2.2.2.2.2.2.2)
def lk(c:Z5):L gJ:=c.2.2.2.2.2.2.2.2.2.1
def wL(c:Z5)(u:L gJ):Z5:=(c.1,c.2.1,c.2.2.1,c.2.2.2.1,c.2.2.2.2.1,c.2.2.2.2.2.1,c.2.2.2.2.2.2.1,c.2.2.2.2.2.2.2.1,c.2.2.2.2.2.2.2.2.1,u,c.2.2.2.2.2.2.2.2.2.2)
def Oe(ss:L Xn)(s:Nat):Prop:=∃a,ss[s]?=some a/\SI a
def CX(U:Nat)(ss:L Xn)(M:Nat)(x:Y6):Prop:=(∃b,x.1=some b/\Oe ss b)/\(x.2.2.2.1=-1\/0<=x.2.2.2.1/\x.2.2.2.1<U)/\∀c∈x.2.2.2.2.2,∃a,c.2=some a/\a<M
def CL(c:Z5)(cs:L Y6)(ss:L Xn)(M:Nat):Prop:=c.2.2.2.2.2.2.1.length=2/\∀(e:Nat)(a:Zg Nat),c.2.2.2.2.2.2.1[e]?=some a->∃(b:Nat)(d:Y6),a=some b/\cs[b]?=some d/\CX (ud c).length ss M d
def F4{y}(h:Oe g B)(c:SI y):Oe (g.set f y) B:=by
 have⟨d,a,b⟩:=h;have i:=(X8 a).1;by_cases e:f=B;·exact⟨y,Xk,c⟩
 ·exact⟨d,Xk,b⟩
def CX.up(h:CX B g c T)(m:B<=f)(l:c<=a):CX f g a T:=⟨h.1,h.2.1.imp id λj=>⟨j.1,Y⟩,λi d=>by have⟨e,b,k⟩:=h.2.2 i d;exact⟨e,b,Y⟩⟩
def CX.ss{ss}(h:CX B ss f T)(hs:∀s,Oe ss s->Oe g s):CX B g f T:=by have⟨⟨s,a,b⟩,c⟩:=h;exact⟨⟨s,a,hs s b⟩,c⟩
def CL.put{ss}(h:CL E H ss B)(e:i.2.2.2.2.2.2.1=E.2.2.2.2.2.2.1)(o:(ud E).length<=(ud i).length)(n:B<=f)(hs:∀s,Oe ss s->Oe g s)(hx:CX (ud i).length g f T):CL i (H.set c T) g f:=by
 refine⟨by rw[e];exact h.1,λp j d=>?_⟩;rw[e]at d;have⟨a,q,b,l,m⟩:=h.2 p j d;by_cases k:c=a;·exact⟨a,T,b,by rw[k,su (X8 l).1],hx⟩
 ·exact⟨a,q,b,Xk,(m.up o n).ss hs⟩
def CL.up{ss}(h:CL E H ss B)(b:i.2.2.2.2.2.2.1=E.2.2.2.2.2.2.1)(l:(ud E).length<=(ud i).length)(k:B<=f)(hs:∀s,Oe ss s->Oe g s):CL i H g f:=by refine⟨by rw[b];exact h.1,λm c a=>?_⟩;rw[b]at a;have⟨n,o,d,e,j⟩:=h.2 m c a;exact⟨n,o,d,e,(j.up l k).ss hs⟩
def gt{F:l->Zg y}(h:r[B]?=some x):O (ZF r (Zi B)) F=F x:=be (Sy Zc (by exact h))
def Zdl(h:E.2.2.2.2.2.2.1.length=2):W (xC E p) λa=>a=none\/∃k:Nat,p=k/\E.2.2.2.2.2.2.1[k]?=some a:=by refine Yu (λb=>b=false->0<=p/\p<2) (λ_=>Zb λc=>by cases c) (λd=>Zb λc=>Zp) λb f=>Zr ⟨λ_=>Zb (.inl rfl),λd=>?_⟩;·have:=f d;refine XC ⟨Xk,Zn (YN ⟨Y,λa e=>Zb (.inr ⟨p.toNat,Y,e⟩)⟩)⟩
def xz(h:E.2.2.1.length=5)(c:0<=p)(d:p<5)(a:∀x∈E.2.2.1,-2<=x/\x<=2)(e:0<=E.2.1/\E.2.1<=1000000000):W (xD E p) λt=>1<=t/\t<=E.2.1+3:=by refine XC ⟨Zp,Zn (YN ⟨Y,λx b=>Zb ?_⟩)⟩;have:=a x (X2 b);simp[Wx];rw[ZK Y];omega
def xG{c}(h:NI (nt c) D)(g:MO C):W (RU c D C) λo=>∃n x,o.1=wN c n/\o.2=D++x/\NI n o.2:=by refine Yu (λd=>d=true->0<=C.2.2.1) (λa=>Zb λ_=>Xk) (λa=>Zb λe=>by cases e) λd f=>Yu _ (λa=>Zn ((Jr h (f a) g).mono λo b=>Zb b.1)) (λa=>Zb ⟨nt c,[],rfl,Zc,h⟩) λo b=>Zb b
def Zwd(h:NI (nt E) D)(t:E.2.2.2.2.2.1.length=2)(hx:T.1=some B)(hs:Oe g B):W (De E T g D R) λr=>∃n b,r.1=wN E n/\r.2.2.2.1=D++b/\NI n (D++b)/\(∀B,Oe g B->Oe r.2.2.1 B)/\r.2.1.1=T.1/\r.2.1.2.2.2=T.2.2.2:=by
 obtain⟨u,m,o⟩:=hs;have k:∃n b,E=wN E n/\D=D++b/\NI n (D++b):=⟨nt E,[],rfl,Zc,by simpa using h⟩;unfold De;refine Yu (λb=>b=false->0<=R.2.2.1/\R.2.2.1<2) (λ_=>Zb λi=>by cases i) (λj=>Zb λi=>Xk) λb l=>Zr ⟨λ_=>Zb<|Xk,λj=>?_⟩
 ·have s:=l j;rw[hx,ko,gt m];refine Zn ((ZkQ o).mono λq e=>Zr ⟨λ_=>Zb ?_,λ_=>?_⟩);·obtain⟨n,b,c,a,d⟩:=k;exact⟨n,b,c,a,d,λ_ f=>F4 f e.1,by rw[hx],rfl⟩
  ·rw[show Zm (Zv R.2.2.1 1)=R.2.2.1+1by simp only[Wx];rw[ZK Y]];refine Zn ((Jr h Y e.2).mono λv p=>Zb ?_);obtain⟨n,b,c,a,d⟩:=p.1;exact⟨n,b,c,a,by rw[<-a];exact d,λ_ f=>F4 f e.1,rfl,rfl⟩
def CP(c:Z5)(bs:L Zt)(cs:L Y6)(ss:L Xn)(M:Nat)(c':Z5)(f:L Y6)(g:L Xn)(a:L Zt):Prop:=∃b d e,c'=wU (wN c b) (ud c++d)/\a=bs++e/\NI b a/\d.length<=1/\CL c' f g M
def ZmC(h:NI (nt E) D)(G:E.2.2.2.2.2.1.length=2)(hC:CL E H g B)(L:(ud E).length<=100000000)(P:R.2.2.2.2.1.length<=100000/\R.2.2.2.2.2.1.length<=100000)(N:R.1=3\/R.1=4\/R.1=5):W (Jo E H g D R) λr=>CP E D H g B r.1 r.2.1 r.2.2.1 r.2.2.2.1:=by
 have m:CP E D H g B E H g D:=⟨nt E,[],[],by rw[XX];rfl,Zc,h,Zc,hC⟩;unfold Jo;refine Zn ((Zdl hC.1).mono λz C=>?_);obtain rfl|⟨J,O,F⟩:=C;·rw[Mq];exact Zb m
 obtain⟨o,Q,rfl,a,k⟩:=hC.2 J z F;have M:=(X8 a).1;rw[ko,gt a];refine Zr ⟨λq=>?_,λq=>Zr ⟨λl=>?_,λl=>Zr ⟨λf=>?_,λf=>?_⟩⟩⟩
 ·rw[ko,gt a,gt a];refine Zr ⟨λ_=>Zb m,λl=>?_⟩;rw[ko,gt a,gt a,ko,gt a,gt a,ko,gt (X0 a),gt (X0 a),ko,gt (X0 (X0 a)),gt (X0 (X0 a))];refine Xi ⟨by simp only[Wx];omega,Xi ⟨by simp only[Wx];omega,Xi ⟨by show(ud E).length+1<=_;omega,?_⟩⟩⟩;rw[ko,gt (X0 (X0 a)),gt (X0 (X0 a))];refine XC ⟨?_,Zn (YN ⟨?_,λK I=>?_⟩)⟩;·show 0<=(((ud E).length:Nat):Int)/\(((ud E).length:Nat):Int)<(((ud E++[_]).length:Nat):Int);rw[YM,VJ];omega
  ·show 0<=(((ud E).length:Nat):Int)/\(((ud E).length:Nat):Int)<(((ud E++[_]).length:Nat):Int);rw[YM,VJ];omega
  ·refine Zn ((Jr (c:=wU E (ud E++[_])) h Y (Qg Zc)).mono λc n=>Zb ?_);obtain⟨j,e,b,d,i⟩:=n.1;refine⟨j,[_],e,by rw[b];rfl,d,i,Zc,?_⟩;show CL c.1 (List.set (List.set H o _) o _) g B;rw[b,T6];refine hC.put rfl ?_ (YA _) (λ_ p=>p) ⟨k.1,.inr ?_,k.2.2⟩;·show(ud E).length<=(ud E++[_]).length;simp
   ·show 0<=(((ud E).length:Nat):Int)/\(((ud E).length:Nat):Int)<(((ud E++[_]).length:Nat):Int);rw[YM,VJ];omega
 ·rw[ko,gt a,gt a];refine Zr ⟨λ_=>Zb m,λf=>?_⟩;simp only[Wx]at f;have v:=k.2.1.resolve_left f;rw[ko,gt a,gt a];refine XC ⟨v,Zn (YN ⟨v,λK I=>Zn ((Jr h Y (Qg Zc)).mono λc n=>Zb ?_)⟩)⟩;obtain⟨j,e,b,d,i⟩:=n.1;refine⟨j,[],e,by rw[b,XX];rfl,d,i,Zc,?_⟩;show CL c.1 H g B;rw[b];exact hC.up rfl (YA _) (YA _) λ_ p=>p
 ·rw[ko,gt a];obtain⟨⟨w,x,y⟩,u⟩:=id k;refine Zn ((Zwd h G x y).mono λc⟨j,e,b,d,i,s,A,t⟩=>Zb ⟨j,[],e,by rw[b,XX];rfl,d,by rw[d];exact i,Zc,?_⟩);show CL c.1 (H.set o c.2.1) c.2.2.1 B;rw[b];exact hC.put rfl (YA _) (YA _) s ⟨⟨w,by rw[A,x],s w y⟩,by rw[t];exact u.1,by rw[t];exact u.2⟩
 ·simp only[Wx]at q l f;omega
def Zme(h:CX (ud E).length g B T):W (Dd E T g C) λr=>∃u,r.1=wU E u/\u.length=(ud E).length/\CX (ud E).length r.2.2.1 B r.2.1/\∀s,Oe g s->Oe r.2.2.1 s:=by have⟨⟨s,m,n,j,f⟩,k,l⟩:=id h;refine Yu (λa=>a=false->¬T.2.2.2.1=-1) (λ_=>Zb λc=>by cases c) (λb=>Zb λ_=>Xk) λa d=>Yu (λa=>a=false->¬T.2.2.2.1=-1) (λ_=>Zb λc=>by cases c) (λb=>Zb λ_=>d b) λa d=>Yu (λa=>a=false->¬T.2.2.2.1=-1) (λ_=>Zb λc=>by cases c) (λb=>Zb λ_=>d b) λa d=>Zr ⟨λ_=>Zb ⟨ud E,rfl,rfl,h,λ_ e=>e⟩,λb=>?_⟩;have i:=k.resolve_left (d b);refine XC ⟨i,Zn (YN ⟨i,λp o=>?_⟩)⟩;rw[m,ko,gt j];unfold au;rw[bs];refine Zb ⟨(ud E).set _ _,rfl,Zc,⟨⟨s,rfl,F4 ⟨n,j,f⟩ f⟩,.inl rfl,l⟩,λ_ e=>F4 e f⟩
def Zqw{α}{y:α}{l}(h:XJ A l=some y):∃a,(a,y)∈l:=dn h
def Zqx{α}{y:α}{l}{p}(h:p∈Lk A y l):p.2=y\/p∈l:=oK h
def Zmo(A:CX (ud E).length g I.length T)(H:E.2.2.2.2.2.1.length=2)(D:E.2.2.1.length=5)(hs:∀T∈E.2.2.1,-2<=T/\T<=2)(G:0<=E.2.1/\E.2.1<=1000000000)(S:0<=p)(h2:p<2)(hL:(lk E).length<=1000000000)(F:Qi C):W (Ae E T g I p C) λr=>∃u l,r.1=wL E (lk E++u)/\u.length<=1/\r.2.2.2.1.length=I.length+l/\CX (ud E).length r.2.2.1 r.2.2.2.1.length r.2.1/\∀s,Oe g s->Oe r.2.2.1 s:=by
 obtain⟨⟨s,k,z,t,w⟩,y,h⟩:=id A;unfold Ae;rw[show Zm (Zv (Zm (Zv 1 (Zi (Zj E.2.2.2.2.2.1)))) p)=3+p by simp only[Wx];rw[H,ZK (n:=1+((2:Nat):Int)) Y,ZK Y];omega];refine Zn ((xz D Y Y hs G).mono λV _=>?_);rw[k,ko,gt t];refine Zn ((ZkJ w F).mono λx b=>Zr ⟨λ_=>Zb ⟨[],0,by rw[XX];rfl,Zc,rfl,⟨⟨s,k,F4 ⟨z,t,w⟩ b.1⟩,y,h⟩,λ_ q=>F4 q b.1⟩,λ_=>Xi ⟨by show(lk E).length+1<=_;omega,Yu (λa=>∃c l,a.1=some c/\c<a.2.1.length/\a.2.1.length=I.length+l/\a.2.2.2=x.2.1/\a.2.2.1.1=T.1/\a.2.2.1.2.2.2.1=T.2.2.2.1/\∀d∈a.2.2.1.2.2.2.2.2,∃C,d.2=some C/\C<a.2.1.length) (λm=>?_) (λm=>Zb ?_) λa⟨c,l,K,L,M,N,O,P,Q⟩=>?_⟩⟩)
 ·unfold dz;have U:=b.2.1;refine Zn (Xi ⟨by simp only[Wx];omega,Zb (Zb ⟨I.length,1,rfl,Zc,Zc,rfl,k.symm,rfl,λd o=>?_⟩)⟩);obtain q|q:=Zqx o;·exact⟨I.length,q,Zc⟩
  ·obtain⟨i,f,j⟩:=h d q;exact⟨i,f,XV⟩
 ·cases e:XJ x.2.1.1 T.2.2.2.2.2with|none=>rw[e]at m;cases m|some v=>obtain⟨R,B⟩:=Zqw e;obtain⟨c,f,j⟩:=h _ B;exact⟨c,0,by show v=_;exact f,j,rfl,rfl,rfl,rfl,h⟩
 ·obtain⟨v,J⟩:∃v,a.2.1[c]?=some v:=⟨_,Ve L⟩;rw[K,ko,gt J,N];refine Zn ((Zlr b.2).mono λX _=>Zb ⟨[_],l,rfl,Zc,?_,⟨⟨s,by rw[O];exact k,F4 ⟨z,t,w⟩ b.1⟩,?_,λd o=>?_⟩,λ_ q=>F4 q b.1⟩);·show(List.set _ _ _).length=_;rw[Pz,M]
  ·show a.2.2.1.2.2.2.1=-1\/_;rw[P];exact y
  ·obtain⟨i,f,j⟩:=Q d o;exact⟨i,f,by show i<(List.set _ _ _).length;rw[Pz];exact j⟩
def CQ(c:Z5)(cs:L Y6)(ss:L Xn)(ms:L WZ)(c':Z5)(d:L Y6)(f:L Xn)(e:L WZ):Prop:=∃b a,c'=wL (wU c b) (lk c++a)/\b.length=(ud c).length/\a.length<=1/\CL c' d f e.length
def ZAc(hC:CL E H g I.length)(t:E.2.2.2.2.2.1.length=2)(n:E.2.2.1.length=5)(hs:∀x∈E.2.2.1,-2<=x/\x<=2)(s:0<=E.2.1/\E.2.1<=1000000000)(hL:(lk E).length<=1000000000)(q:Qi C):W (IX E H g I p C) λr=>CQ E H g I r.1 r.2.1 r.2.2.1 r.2.2.2.1:=by
 have f:CQ E H g I E H g I:=⟨ud E,[],by rw[XX];rfl,rfl,Zc,hC⟩;unfold IX;refine Zn ((Zdl hC.1).mono λk m=>?_);obtain rfl|⟨v,A,i⟩:=m;·rw[Mq];exact Zb f
 obtain⟨u,x,rfl,d,h⟩:=hC.2 v k i;have o:=(X8 i).1;rw[hC.1]at o;rw[ko,gt d];refine Zr ⟨λl=>?_,λl=>Zr ⟨λz=>?_,λ_=>Zb f⟩⟩;·rw[ko,gt d];refine Zn ((Zme h).mono λr⟨c,a,b,j,e⟩=>Zb ⟨c,[],by rw[a,XX];rfl,b,Zc,?_⟩);rw[a];have y:(ud (wU E c)).length=(ud E).length:=b;exact hC.put rfl Y (YA _) e (j.up Y (YA _))
 ·rw[ko,gt d];refine Zn ((Zmo h t n hs s Y Y hL q).mono λr⟨c,B,a,b,j,e,w⟩=>Zb ⟨ud E,c,by rw[a];rfl,rfl,b,?_⟩);show CL r.1 (H.set u r.2.1) r.2.2.1 r.2.2.2.1.length;rw[a];exact hC.put rfl (YA _) Y w e
def ZfK(h:s.1.length<=2000000000)(a:A.length<=2000000000):W (NO s A) (XR 8194 s):=by
 rw[rR Y];refine Zb ?_;by_cases b:A.length<=8192;·have:=XR.Vd (w:=s) (x:=A.length) (m:=8192).trans (XR.put (l:=Xf (BitVec.ofInt _ A.length) 2++A));exact this.le (by rw[YM,Va];omega)
 ·rw[Ca (by unfold Vd;rw[Y4 Y])];exact(XR.Vd).le Zc
def Zfn{x}(h:s.1.length<=2000000000):W (S6 s x) (XR 4 s):=by rw[BM Y];exact Zb (XR.put.le (by rw[Va];omega))
def eP(h:s.1.length<=2000000000):W (Tp s (Xo 0 (YK 32 (XK J)))) (XR 32 s):=by have:(Xo 0 _).length=32:=Ef J;exact(vD h Zc).mono λb a=>a.le Zc
def Zd2{l}(n:JN l):W (uD J l) λo=>o.1.length<=100000000:=by
 unfold uD;refine Zn ((Ft Zc).mono λH u=>Up ⟨YI,Zn ((eP (by have:=u.2;simp at this;omega)).mono λd A=>?_)⟩);have F:=(u.trans A).2;simp only[W6]at F;rw[be (jL (x:=Zi (Zj l)) Y)];have B:XR 2 d (put (Vd d (Zi (Zj l)) 4096) (Xf (BitVec.ofInt 64 (Zi (Zj l))) 2)):=(XR.Vd (w:=d) (x:=Zi (Zj l)) (m:=4096).trans (XR.put (w:=Vd d (Zi (Zj l)) 4096) (l:=Xf (BitVec.ofInt 64 (Zi (Zj l))) 2))).le (by rw[Va];omega);have D:4096<l.length->(put (Vd d (Zi (Zj l)) 4096) (Xf (BitVec.ofInt 64 (Zi (Zj l))) 2)).2=true:=λa=>by
  have q:(Vd d (Zi (Zj l)) 4096).2=true:=by unfold Vd;rw[Y4 (by simp only[Wx];omega)]
  rw[Ca q];exact q
 generalize put (Vd d (Zi (Zj l)) 4096) (Xf (BitVec.ofInt 64 (Zi (Zj l))) 2)=y at*;have M:=B.2;refine Zn (W.lp (λc=>∃b:Nat,c.1=b/\b<=l.length/\(4096<l.length->c.2=y)/\(l.length<=4096->c.2.1.length<=100+17000*b)) (λc=>(l.length-c.1).toNat) ⟨0,rfl,Y,λ_=>rfl,λ_=>ZB⟩ (by have:=n.1;dsimp only;omega) (λc p=>?_) λc p=>?_)
 ·obtain⟨N,G⟩:=c;obtain⟨b,j,r,e,f⟩:=p;dsimp only at j e f;subst j;have K:=n.1;have C:G.1.length<=80000000:=by
   by_cases a:4096<l.length;·rw[e a];omega
   ·have:=f Y;omega
  refine Zr ⟨λs=>?_,λs=>Zb ⟨b,rfl,r,e,f⟩⟩;simp only[Wx]at s;refine Zn (YN ⟨ZB,λx E=>?_⟩);have L:=n.2 x (X2 E);refine Zn ((ZfK ZB Y).mono λO g=>Zn ((Zfn (by have:=g.2;dsimp only at this;omega)).mono λP h=>Zn ((Zfn (by have:=g.2;have:=h.2;dsimp only at*;omega)).mono λQ i=>Up ⟨YI,Zn ((eP (by have:=g.2;have:=h.2;have:=i.2;dsimp only at*;omega)).mono λR k=>Up ⟨YI,Zn ((eP (by have:=g.2;have:=h.2;have:=i.2;have:=k.2;dsimp only at*;omega)).mono λS t=>Zn ((ZfK (by have:=g.2;have:=h.2;have:=i.2;have:=k.2;have:=t.2;dsimp only at*;omega) Y).mono λT z=>Zb ?_))⟩)⟩)));have v:=(((((g.trans h).trans i).trans k).trans t).trans z).le (show 8194+4+4+32+32+8194<=16500by decide);rw[show Zm (Zv (b:Int) 1)=((b+1:Nat):Int)by simp only[Wx];rw[ZK Y];rfl];refine⟨⟨b+1,rfl,Y,λa=>?_,λa=>?_⟩,ZB⟩;·have:=v.1;dsimp only at this⊢;rw[this (by rw[e a];exact D a)];exact e a
  ·have I:=f a;exact WB v.2 ZB
 ·obtain⟨b,j,r,e,f⟩:=p;have C:c.2.1.length<=80000000:=by
   by_cases a:4096<l.length;·rw[e a];omega
   ·have:=f Y;omega
  rw[be (EN Y)];refine Zb ?_;split;·simp
  ·dsimp only;omega
theorem Zd3{s}(h:s.2.length<=1000000):W (mN s) λo=>o.1.length<=100000000:=by refine Zn ((Ft Zc).mono λc a=>Zn ((ZeJ (by have:=a.2;grind) Y).mono λd b=>?_));have:=a.2;have:=b.2;simp at*;rw[be (EN Y)];refine Zb ?_;grind
theorem ZwH(h:s.1.length<=1000000):W (mP s) λo=>(o.2.1.length<=64/\o.2.2.2.2.2.2.length<=64)/\o.1.1.length<=s.1.length/\(o.1.2=false->o.1.1.length+64<=s.1.length):=by
 unfold mP;have d:∀(a:ZP)(c:Int),(tk a c).1.2=false->a.2=false/\0<=c/\c<=a.1.length/\(tk a c).1.1=a.1.drop c.toNat:=λa c b=>by unfold tk at b⊢;grind
 have i:∀(a:ZP)(e:Int),(TX a e).1.2=false->a.2=false:=λa e b=>by
  unfold TX at b;split at b;·cases b
  ·exact(d _ _ (d _ _ b).1).1
 rw[be (JX Y)];have f:=@zI s 64 Y;rw[be Pq,be Pq];have j:=@Te (TX s 64).1 4;have k:=@Te (tk (TX s 64).1 4).1 4;refine Up ⟨YI,?_⟩;rw[be Pp];have l:=@Te (tk (tk (TX s 64).1 4).1 4).1 32;refine Up ⟨YI,?_⟩;rw[be Pp];have m:=@Te (tk (tk (tk (TX s 64).1 4).1 4).1 32).1 32;dsimp only;rw[be (JX Y)];have g:=@zI (tk (tk (tk (tk (TX s 64).1 4).1 4).1 32).1 32).1 64 Y;refine Zb ⟨⟨by have:=f.2.1;dsimp only;omega,by have:=g.2.1;dsimp only;omega⟩,ZB,λb=>?_⟩;grind
def KI(n:Nat)(k:I2):Prop:=k.2.1.2.length<=8192/\k.2.2.1.length<=n/\k.2.2.2.length<=94*n/\∀a∈k.2.2.2,a.1.length<=64/\a.2.2.2.2.2.length<=64
def KI.up{k}(h:KI B k)(a:B<=f):KI f k:=⟨h.1,by have:=h.2.1;omega,by have:=h.2.2.1;omega,h.2.2.2⟩
def Zp4{k}(h:KI B k)(O:A.length<=6000)(P:B<=10000):W (mO k A) λo=>KI (B+1) o.1/\(o.2=true->A≠[]):=by
 obtain⟨D,M,N,v⟩:=id h;unfold mO;rw[be (O1 Y),be uo];have x:∀p:Int,1<=p->(((pk ((A,false):ZP) 1).1.toNat:Nat):Int)=p->A≠[]:=λp Q b s=>by
  rw[s]at b;have:(pk (([],false):ZP) 1).1.toNat=0:=by unfold pk;simp
  rw[this]at b;omega
 have F:=@Te ((A,false):ZP) 1;dsimp only at F⊢;refine Zr ⟨λj=>Up ⟨YI,?_⟩,λj=>Zr ⟨λd=>?_,λ_=>Zb ⟨h.up Y,λb=>by cases b⟩⟩⟩
 ·rw[Ur]at j;rw[be Pp];have R:=@Te (tk ((A,false):ZP) 1).1 32;refine Xi ⟨by simp only[Wx,VJ];omega,?_⟩;rw[be um];have G:=@gj (tk (tk ((A,false):ZP) 1).1 32).1 4096 Y;refine WM (W.VQ (λa=>∃c:Nat,a.1=c/\c<=94/\(c:Int)<=(M6 (tk (tk ((A,false):ZP) 1).1 32).1 4096).2/\a.2.2.1.length<=6000/\(a.2.2.2=false->64*c+a.2.2.1.length<=6000)/\a.2.1.2.1=k.2.1/\a.2.1.2.2.1.length<=B+1/\a.2.1.2.2.2.length=k.2.2.2.length+c/\∀e∈a.2.1.2.2.2,e.1.length<=64/\e.2.2.2.2.2.length<=64) (λa=>KI (B+1) a.2.1) (λa=>(94-a.1).toNat+1) (λn=>KI (B+1) n.1/\n.2=false) ⟨0,rfl,Y,G.2.1,ZB,λ_=>ZB,rfl,by simp[Ye];omega,Zc,v⟩ ZB (λa m=>?_) (λa m=>?_) λn y=>⟨y.1,λb=>by rw[y.2]at b;cases b⟩)
  ·obtain⟨T,J,U⟩:=a;obtain⟨c,r,s,K,z,t,f,g,C,i⟩:=m;dsimp only at r z t f g C i;subst r;have w:KI (B+1) J:=⟨by rw[f];exact D,g,Y,i⟩;refine Zr ⟨λd=>?_,λ_=>Zb w⟩;simp only[Wx]at d;rw[be Zb9];refine Zr ⟨λu=>by rw[bs];exact Zb ⟨w,rfl⟩,λu=>?_⟩;have L:=t u;dsimp only;refine Zn ((ZwH Y).mono λo l=>Xi ⟨by simp only[Wx,VJ];omega,?_⟩);obtain⟨H,S,I⟩:=l;rw[show Zm (Zv (c:Int) 1)=((c+1:Nat):Int)by simp only[Wx];rw[ZK Y];rfl];refine Zb ⟨⟨c+1,rfl,Y,Y,ZB,λb=>by have:=I b;dsimp only;omega,f,g,by simp[Ye];omega,λe E=>?_⟩,ZB⟩
   ·obtain q|q:=ZY E;·exact i e q
    ·rw[YV q];exact H
  ·dsimp only;rw[be JW];exact Zb ⟨m,λ_=>x 1 Y j⟩
 ·rw[Ur]at d;refine Zn ((ZeK Y).mono λo l=>?_);rw[be JW];exact Zb ⟨⟨l.2,ZB,ZB,v⟩,λ_=>x 2 Y d⟩
def Zp7(u:D.length<=5000)(h:∀r∈D,r.length<=6000):W (zy D) λo=>KI D.length o.1/\0<=o.2.1/\o.2.1<=D.length:=by
 have i:KI 0 (false,z0,[],[]):=⟨Zc,Zc,Zc,Zc⟩;unfold zy;refine WM (W.VQ (λa=>∃b:Nat,a.2.1=b/\b<=D.length/\0<=a.1/\a.1<=b/\KI b a.2.2.2.1/\KI b a.2.2.2.2) (λa=>0<=a.1/\a.1<=D.length/\KI D.length a.2.2.2.2) (λa=>(D.length-a.2.1).toNat) _ ⟨0,rfl,Y,Zc,Zc,i,i⟩ ZB (λa c=>?_) (λa c=>Zb ⟨c.2.2,c.1,c.2.1⟩) λr h=>h);obtain⟨x,y,z,A,B⟩:=a;obtain⟨b,j,t,e,p,k,f⟩:=c;dsimp only at j e p k f;subst j;refine Zr ⟨λl=>?_,λl=>Zb ⟨e,ZB,f.up Y⟩⟩;simp only[Wx]at l;refine Zn (YN ⟨ZB,λn s=>Zn ((Zp4 k (h n (X2 s)) Y).mono λo m=>Zr ⟨λ_=>?_,λq=>?_⟩)⟩);·rw[bs];exact Zb ⟨i.up Y,Zc,Zc⟩
 ·have v:=List.length_pos_iff.2 (m.2 (by simpa only[Wx]using q));rw[show Zm (Zv (b:Int) 1)=((b+1:Nat):Int)by simp only[Wx];rw[ZK Y];rfl];refine Zn (YN ⟨Y,λC w=>Yu (λd=>0<=d.1/\d.1<=((b+1:Nat):Int)/\KI (b+1) d.2) (λ_=>SF ⟨by simp only[Wx];omega,iw.2 ⟨Y,SF ⟨by simp only[Wx];omega,iw.2 ⟨Y,Zb ⟨ZB,ZB,?_⟩⟩⟩⟩⟩) (λ_=>Zb ⟨e,ZB,f.up Y⟩) λd g=>Zb ⟨⟨b+1,rfl,Y,g.1,g.2.1,m.1,g.2.2⟩,ZB⟩⟩);simp_all
def ZdV(m:Yy):Prop:=Qi m/\m.2.2.2.2.2.2.2.2.2.1.1.1<2147483648
def RI(N k T:Nat)(r:YY):Prop:=VW N k r.1/\r.2.1.length<=100000/\Vz r.2.2.2.2.1/\r.2.2.2.2.2.1.2.length<=8192/\r.2.2.2.2.2.2.1.length<=8/\(∀a∈r.2.2.2.2.2.2.1,ZdV a)/\0<=r.2.2.2.2.2.2.2.2.1/\r.2.2.2.2.2.2.2.2.1<=T
def Mt:Qo N=some (N.2.2.2.2.1.2.2.1.length:Int):=by unfold Qo;rw[be Bs]
def Zp6{k}(e:KI B k)(m:B<=1000)(hs:Vz b):W (bF ((),A,p,M,b,z0,[],0,0,0,false) k) λo=>∃c s,o.1=((),A,p,M,c,s,[],0,0,0,false)/\Vz c/\s.2.length<=8192:=by have⟨d,i,j,l⟩:=e;refine Zn ((ZcB Y).mono λ_ _=>Zr ⟨λ_=>Zb ⟨b,z0,rfl,hs,Zc⟩,λ_=>Zn ((Zcs ⟨Y,Zp⟩ Y).mono λo f=>Zr ⟨λ_=>Zb ⟨b,z0,rfl,hs,Zc⟩,λa=>?_⟩)⟩);simp at a;obtain⟨s,g,h,-⟩:=f a;rw[g,ko];exact Zb ⟨s,k.2.1,rfl,h,d⟩
def Zwh{ds}{rs}{a}(E:ds[c]?=some k)(N:DI B f k)(M:4<=B)(x4:B<=1000)(hc:f<80000000)(P:A.length<=100000):W (zx ds rs (some c) A a p) λo=>∃d',o.1=ds.set c d'/\DI B (f+6000) d'/\(o.2.1=rs/\o.2.2.1=none\/∃r,o.2.1=rs++[r]/\o.2.2.1=some rs.length/\RI B c 0 r):=by
 unfold zx;refine Zn ((ZaD E N M Y Y).mono λv R=>?_);obtain⟨d',i,j,v3,J,V,v6,-⟩:=R;refine Zr ⟨λt=>Zb ⟨d',i,j.le Y,.inl ⟨rfl,rfl⟩⟩,λt=>?_⟩;simp only[Wx]at t;obtain⟨vv,n,q⟩:=V t;have x5:R7 B<=500:=by unfold R7;omega
 have g:Vz (zH,[],[],[],[]):=Gv;refine Xi ⟨by simp only[Wx];omega,?_⟩;rw[show I4 zH=some (zH,[],[],[],[])from rfl,bs];have l:∀(v:Tk)(d:W0)(b:QG)(D:Int),VW B c v->Vz d->b.2.length<=8192->RI B c 0 (v,A,a,p,d,b,[],D,0,0,false):=λv d b D x y z=>⟨x,P,y,z,Zc,Zc,Zc,Zc⟩;have s:∀(m:Int)(d:W0)(b:QG),0<=m->m<=v.2.2.1.length->Vz d->b.2.length<=8192->W (O (Rh v.2.2.1 0 m) λX=>Yv v.2.1 none λZ=>O (Eh Z v.1 X) λe=>Zf (ZA (Zw e.2.2 0)) (some (e.2.1,rs,(none:Zg Nat),e.2.2)) (O (Qo (e.1,A,a,p,d,b,[],0,0,0,false)) λx0=>some (e.2.1,Ye rs [(e.1,A,a,p,d,b,[],x0,0,0,false)],some (Zj rs),0))) λo=>∃d',o.1=ds.set c d'/\DI B (f+6000) d'/\(o.2.1=rs/\o.2.2.1=none\/∃r,o.2.1=rs++[r]/\o.2.2.1=some rs.length/\RI B c 0 r):=λm d b h0 h1 u w=>by refine Zn (L9.2 ⟨Y,?_⟩);rw[n,ko,i];refine Zn ((Zkh q (X0 E) j Y Y (by rw[VF,UF];omega) Y λr Q=>by have:=J r (yw (sC Q));omega).mono λx6⟨C,K,L,z3⟩=>Zr ⟨λ_=>Zb ⟨C,by rw[K,T6],L.le Y,.inl ⟨rfl,rfl⟩⟩,λ_=>?_⟩);rw[be Mt];exact Zb ⟨C,by rw[K,T6],L.le Y,.inr ⟨_,rfl,rfl,l _ _ _ _ z3 u w⟩⟩
 have U:∀(d:W0)(b:QG),Vz d->b.2.length<=8192->W (Yv v.2.1 none λx1=>O (Qo (x1,A,a,p,d,b,[],0,0,0,false)) λx2=>Yv v.2.1 none λx3=>some (v.1,Ye rs [(x3,A,a,p,d,b,[],x2,0,0,false)],some (Zj rs),(0:Int))) λo=>∃d',o.1=ds.set c d'/\DI B (f+6000) d'/\(o.2.1=rs/\o.2.2.1=none\/∃r,o.2.1=rs++[r]/\o.2.2.1=some rs.length/\RI B c 0 r):=λd b u w=>by rw[n,ko,be Mt,ko];exact Zb ⟨d',i,j.le Y,.inr ⟨_,rfl,rfl,l _ _ _ _ q u w⟩⟩
 refine Zn ((Zp7 Y J).mono λkp⟨T,H,I⟩=>Zr ⟨λ_=>Zr ⟨λ_=>s 0 _ z0 Y Y g Zc,λ_=>?_⟩,λ_=>Zr ⟨λ_=>?_,λ_=>Zr ⟨λ_=>s _ _ z0 H I g Zc,λ_=>?_⟩⟩⟩);·rw[n,ko,be Mt];exact Zb ⟨d',i,j.le Y,.inr ⟨_,rfl,rfl,l _ _ _ _ q g Zc⟩⟩
 ·refine Zn ((Zp6 T Y g).mono λo⟨d,b,S,F,G⟩=>Yu (λh=>h.2=rs/\0<=h.1/\h.1<=v.2.2.1.length) (λ_=>Zb ⟨rfl,Zc,Zc⟩) (λ_=>Zb ⟨rfl,H,I⟩) λh⟨x,y,z⟩=>?_);rw[S,x];exact Zr ⟨λ_=>s h.1 d b y z F G,λ_=>U d b F G⟩
 ·rw[n,ko,be Mt];exact Zb ⟨d',i,j.le Y,.inr ⟨_,rfl,rfl,l _ _ _ _ q g Zc⟩⟩
def RI.up{T'}(h:RI B f c N)(a:c<=T'):RI B f T' N:=⟨h.1,h.2.1,h.2.2.1,h.2.2.2.1,h.2.2.2.2.1,h.2.2.2.2.2.1,h.2.2.2.2.2.2.1,by have:=h.2.2.2.2.2.2.2;omega⟩
def Zxu{k T}{c e f}{x}(h:RI B k T N):W (uC N (p,M,c,e,f,x,0,[],[],z0,([],[]),([],[]),zH,z1,[],[],[],[]) A) λo=>o.1=N/\MO o.2.1:=by obtain⟨-,-,g,m,-⟩:=h;have d:=g.2.1;have a:MO (p,M,c,e,f,x,0,[],[],z0,([],[]),([],[]),zH,z1,[],[],[],[]):=Qg Zc;unfold uC;rw[be Mt];refine Uz (λ_=>Zb trivial) (λ_=>Zb trivial) λ_=>Uz (λ_=>Zb trivial) (λ_=>Zb trivial) λ_=>Zr ⟨λ_=>Zb ⟨rfl,a⟩,λ_=>Zr ⟨λ_=>Zb ⟨rfl,a⟩,λ_=>Uz (λ_=>Zb trivial) (λ_=>Zb trivial) λ_=>Zr ⟨λ_=>Zb ⟨rfl,a⟩,λ_=>Uz (λ_=>Zb trivial) (λ_=>Zb trivial) λ_=>Zr ⟨λ_=>Zb ⟨rfl,a⟩,λ_=>Zn ((Zk3 d).mono λb l=>Zn ((Zlu d).mono λi n=>Zn ((ZlM g).mono λj q=>Uz (λ_=>Zb trivial) (λ_=>Zb trivial) λ_=>Uz (λ_=>Zb trivial) (λ_=>Zb trivial) λ_=>Zr ⟨λ_=>Zb ⟨rfl,a⟩,λ_=>Zb ⟨rfl,⟨Zp,by show b.1.1.length<=_;omega,by show b.1.2.length<=_;omega,by show i.1.1.length<=_;omega,by show i.1.2.length<=_;omega,by show j.1.2.1.1.length<=_;omega,by show j.1.2.2.length<=_;omega,W7 _,W7 _,W7 _⟩,by show N.2.2.2.2.2.1.2.length<=_;omega⟩⟩)))⟩⟩⟩⟩
def ZkM(h:RI B f c N):W (mK N C) λo=>o.1=N/\MO o.2.1:=by exact Zr ⟨λ_=>Zb ⟨rfl,Qg Zc⟩,λ_=>Zn ((Zxu h).mono λo a=>Zb ⟨a.1,a.2⟩)⟩
def ZlD{s}(hs:s.2.length<=1000000):W (AG s A) λb=>b=true->1<=s.1.1/\s.1.1<2147483648:=by refine Zn (fJ.self.mono λc i=>?_);obtain⟨d,e,f⟩:=ZeQ;refine Yu _ (λj=>Zn ((ZeL Y hs).mono λ_ _=>Zb λ_=>?_)) (λ_=>Zb λc=>Zp) λb g=>Zb λc=>f (g c);cases h:d with|true=>rfl|false=>have a:=i.1;unfold Kj at a;rw[be e,h]at a;change Zf true _ _=_ at a;rw[XD]at a;grind
def bB:W (uz N p) λo=>∃b,o.1=(N.1,N.2.1,N.2.2.1,N.2.2.2.1,N.2.2.2.2.1,N.2.2.2.2.2.1,N.2.2.2.2.2.2.1,N.2.2.2.2.2.2.2.1,N.2.2.2.2.2.2.2.2.1,N.2.2.2.2.2.2.2.2.2.1,b):=by exact Uz (λ_=>Zb trivial) (λ_=>Zb trivial) λb=>Zb ⟨b,rfl⟩
def ZcU{ds}(h:RI B f c N)(A:ds[f]?=some k)(M:DI B a k)(hc:a<=80000000)(hN:B<=1000)(hm:ZdV C)(V:N.2.2.2.2.1.2.2.1.length<2147483647):W (uy N ds C) λo=>∃d',o.2.1=ds.set f d'/\DI B (a+9000) d'/\RI B f c o.1/\o.1.2.2.2.2.2.2.1=N.2.2.2.2.2.2.1:=by
 have R:=OU A;have G:∀t:Int,∃d',((N,ds,t):YY×L Yb×Int).2.1=ds.set f d'/\DI B (a+9000) d'/\RI B f c N/\N.2.2.2.2.2.2.1=N.2.2.2.2.2.2.1:=λ_=>⟨k,R,M.le Y,h,rfl⟩;obtain⟨U,w,x,I,y,z,J,K⟩:=id h;obtain⟨D,x6⟩:=hm;have x0:C.2.2.2.2.2.2.2.2.2.1.2.length<=8192:=D.2.2.2.2.2.2.2.2.1;have x7:C.2.2.2.2.2.2.2.2.2.2.2.2.2.2.2.1.length<=4096:=D.2.2.2.2.2.2.2.2.2.2.2.2.2.1;have O:JN C.2.2.2.2.2.2.2.2.2.2.2.2.2.2.2.2.1:=D.2.2.2.2.2.2.2.2.2.2.2.2.2.2.1;unfold uy;refine Zn (W.mono (P:=λo=>o.2=0->∃H,o.1=some H/\Vz H) ?_ λwt x1=>Zr ⟨λ_=>Zb (G _),λp=>?_⟩);·unfold bH;refine Zn ((ZkT x).mono λx9 Q=>Zn ((ZkK Q.1 Y O.1 (by rw[Q.2];exact V)).mono λo E=>Zr ⟨λ_=>Zb λt=>(by cases t),λp=>Zb λ_=>⟨_,rfl,(E (by simpa only[Wx]using p)).1⟩⟩))
 simp only[Wx]at p;obtain⟨H,x2,x3⟩:=x1 p;refine Zn ((Zd2 O).mono λe1 X=>Zr ⟨λ_=>Zb (G _),λ_=>Zn ((Zd3 Y).mono λe2 Z=>Zr ⟨λ_=>Zb (G _),λ_=>WM (W.VQ (λb=>∃(e:Nat)(d':Yb)(v:Tk),b.1=e/\e<=2/\b.2.1=ds.set f d'/\DI B (a+4096*e) d'/\VW B f v/\b.2.2=(v,N.2)) (λb=>∃(d':Yb)(v:Tk),b.2.1=ds.set f d'/\DI B (a+8192) d'/\VW B f v/\b.2.2=(v,N.2)) (λb=>(2-b.1).toNat) (λo=>∃d',o.2.1=ds.set f d'/\DI B (a+9000) d'/\RI B f c o.1/\o.1.2.2.2.2.2.2.1=N.2.2.2.2.2.2.1) ⟨0,k,N.1,rfl,Y,R,M,U,rfl⟩ Zc (λb F=>?_) (λb F=>?_) λo E=>E)⟩)⟩)
 ·obtain⟨u1,u2,u3⟩:=b;obtain⟨e,d',v,S,q2,m,r,s,n⟩:=F;dsimp only at S m n;subst S m n;refine Zr ⟨λu=>?_,λu=>Zb ⟨d',v,rfl,r.le Y,s,rfl⟩⟩;have u:(e:Int)<2:=by simp only[Wx,Wl,W6]at u;omega
  refine XC ⟨⟨ZB,by simp only[Wx,Wl,W6];omega⟩,Zn (YN ⟨⟨ZB,by simp only[Wl,W6];omega⟩,λx4 hx=>?_⟩)⟩;have x8:x4.length<=100000000:=by
   obtain q|q:=XL (X2 hx);·rw[q];exact X
   ·rw[YV q];exact Z
  refine Zn ((ZAy s (X0 A) r Y Y Y).mono λo⟨g,i,j,l⟩=>Zr ⟨λ_=>Zn (bB.mono λx5 d=>?_),λ_=>?_⟩);·rw[bs];obtain⟨T,d⟩:=d;refine Zb ⟨g,by rw[i,T6],j.le Y,?_,by rw[d]⟩;rw[d];exact⟨l,w,x,I,y,z,J,K⟩
  ·rw[show Zm (Zv (e:Int) 1)=((e+1:Nat):Int)by simp only[Wx];rw[ZK Y];rfl];exact Zb ⟨⟨e+1,g,o.1,rfl,Y,by rw[i,T6],j.le Y,l,rfl⟩,ZB⟩
 ·obtain⟨u1,u2,u3⟩:=b;obtain⟨d',v,m,r,s,n⟩:=F;dsimp only at m n;subst m n;refine Zn ((ZAE s (X0 A) r Y).mono λo⟨g,i,j,l⟩=>Zr ⟨λ_=>Zn (bB.mono λx5 d=>Zb ?_),λ_=>?_⟩);·obtain⟨T,d⟩:=d;refine⟨g,by rw[i,T6],j.le Y,?_,by rw[d]⟩;rw[d];exact⟨l,w,x,I,y,z,J,K⟩
  ·rw[x2,ko];unfold uB;rw[bs];exact Zb ⟨g,by rw[i,T6],j.le Y,⟨l,w,x3,x0,y,z,Zc,Zc⟩,rfl⟩
def ZnO{l}(h:B<l.length):Zi7 l B (B+1)=some (l.eraseIdx B):=by show(if 0<=(B:Int)/\B<=(B:Int)+1/\B+1<=(l.length:Int)then some _ else none)=_;rw[Y4 Y,show((B:Int)+1).toNat=B+1by simp,WL,ZkD]
def ZdP{T}{r}{ds}(h:RI B f T r)(A:ds[f]?=some k)(U:DI B c k)(hc:c<=70000000)(S:B<=1000):W (uA r ds) λo=>∃d',o.2.1=ds.set f d'/\DI B (c+72000) d'/\RI B f T o.1:=by
 unfold uA;refine WM (W.VQ (λd=>∃d',d.2.1=ds.set f d'/\RI B f T d.2.2/\DI B (c+9000*(8-d.2.2.2.2.2.2.2.2.1.length)) d') (λ_=>False) (λd=>d.2.2.2.2.2.2.2.2.1.length) _ ⟨k,OU A,h,U.le Y⟩ (by have:=h.2.2.2.2.1;dsimp only;omega) (λd p=>?_) (λd p=>p.elim) λo n=>n);obtain⟨u1,u2,e⟩:=d;obtain⟨d',u,j,g⟩:=p;dsimp only at u j g⊢;subst u;obtain⟨N,O,x,P,X,y,Q,R⟩:=id j;refine WM (W.VQ (λv=>∃b:Nat,v.2.1=b/\b<=e.2.2.2.2.2.2.1.length/\v.2.2.1=e.2.2.2.2.2.2.1/\v.2.2.2.1=ds.set f d'/\v.2.2.2.2=e) (λv=>v.2.2.2.1=ds.set f d'/\v.2.2.2.2=e) (λv=>(e.2.2.2.2.2.2.1.length-v.2.1).toNat) _ ⟨0,rfl,Y,rfl,rfl,rfl⟩ ZB (λv q=>?_) (λv q=>?_) λo n=>n)
 ·obtain⟨v1,v2,v3,v4,a⟩:=v;obtain⟨b,i,H,I,J,K⟩:=q;dsimp only at i I J K;subst i I J K;refine Zr ⟨λL=>?_,λ_=>Zb ⟨rfl,rfl⟩⟩;simp only[Wx]at L;refine Zn (YN ⟨ZB,λs m=>?_⟩);have C:=y s (X2 m);rw[be Mt];have Z:=x.2.1;refine Zr ⟨λM=>?_,λM=>Xi ⟨by simp only[Wx];omega,?_⟩⟩;·rw[show Zm (Zv (b:Int) 1)=((b+1:Nat):Int)by simp only[Wx];rw[ZK Y];rfl];exact Zb ⟨⟨b+1,rfl,Y,rfl,rfl,rfl⟩,ZB⟩
  ·rw[show Zm (Zv (b:Int) 1)=(b:Int)+1by simp only[Wx];rw[ZK Y]];dsimp only;rw[be (ZnO Y)];have V:(a.2.2.2.2.2.2.1.eraseIdx b).length=a.2.2.2.2.2.2.1.length-1:=by rw[List.length_eraseIdx,Y4 Y]
   have z:RI B f T (a.1,a.2.1,a.2.2.1,a.2.2.2.1,a.2.2.2.2.1,a.2.2.2.2.2.1,a.2.2.2.2.2.2.1.eraseIdx b,a.2.2.2.2.2.2.2):=⟨N,O,x,P,by show(a.2.2.2.2.2.2.1.eraseIdx b).length<=8;omega,λs m=>y s (yu m),Q,R⟩;rw[be Mt];dsimp only;refine Zr ⟨λl=>?_,λl=>?_⟩
   ·simp only[Wx]at l;rw[ZK Y]at l;refine Zn ((ZcU z (X0 A) g Y S C (by have:=C.2;dsimp only;omega)).mono λo⟨t,D,E,F,G⟩=>?_);have G:o.1.2.2.2.2.2.2.1.length=a.2.2.2.2.2.2.1.length-1:=by rw[G];exact V
    have w:∃d',o.2.1=ds.set f d'/\DI B (c+72000) d'/\RI B f T o.1:=⟨t,by rw[D,T6],E.le Y,F⟩;refine Zr ⟨λ_=>by rw[bs,bs];exact Zb w,λ_=>Zr ⟨λ_=>by rw[bs,bs];exact Zb w,λ_=>?_⟩⟩;·rw[bs];exact Zb ⟨⟨t,by rw[D,T6],F,E.le ZB⟩,ZB⟩
   ·rw[bs];exact Zb ⟨⟨d',rfl,z,g.le ZB⟩,ZB⟩
 ·dsimp only;rw[bs];obtain⟨i,H⟩:=q;exact Zb ⟨d',i,g.le Y,by show RI B f T v.2.2.2.2;rw[H];exact j⟩
def Zlq{h}{l}{a}{o}(e:Dr h l a=some o)(b:o.2=0):h.1=a.length:=by apply sc;intro c;unfold Dr at e;have:ZA (Zw h.1 (Zi (Zj a)))=true:=Xk;rw[this,XD]at e;grind
def Zmj{ds}(h:RI B f c N)(l:ds[f]?=some k)(z:DI B a k)(hc:a<=60000000)(R:B<=1000)(S:2<=B)(m:Qi C):W (mM N ds C) λo=>∃d',o.2.1=ds.set f d'/\DI B (a+80000) d'/\RI B f c o.1:=by
 have s:∀v:Int,∃d',((N,ds,v):YY×L Yb×Int).2.1=ds.set f d'/\DI B (a+80000) d'/\RI B f c N:=λ_=>⟨k,OU l,z.le Y,h⟩;obtain⟨K,w,M,O,x,y,P,Q⟩:=id h;have X:C.2.2.2.2.2.2.2.2.2.1.2.length<=8192:=m.2.2.2.2.2.2.2.2.1;have x6:C.2.2.2.2.2.2.2.2.2.2.2.2.2.2.2.2.2.length<=4096:=m.2.2.2.2.2.2.2.2.2.2.2.2.2.2.2;unfold mM;refine Zn ((Zcs m.2.2.2.2.2.2.2.2.2.2.2.2.2.2.1 Y).self.mono λo n=>Zr ⟨λ_=>Zb (s _),λj=>?_⟩);simp only[Wx]at j;obtain⟨U,V⟩:=n;obtain⟨st,x0,t,x7⟩:=V j;have x4:=Zlq U j;rw[x0,ko];refine Zn ((io (by have:=t.2.1;omega)).mono λu Z=>?_);have x5:u.length<=4096:=by rw[Z,LP];omega
 refine WM (W.VQ (λb=>∃d:Nat,b.2=d/\d<=u.length/\b.1.length=d/\∀e∈b.1,e.length<=100000000) (λb=>b.1.length<=4096/\∀e∈b.1,e.length<=100000000) (λb=>(u.length-b.2).toNat) (λo=>∃d',o.2.1=ds.set f d'/\DI B (a+80000) d'/\RI B f c o.1) ⟨0,rfl,Y,rfl,Zc⟩ ZB (λb g=>?_) (λb g=>?_) λo n=>n)
 ·obtain⟨u1,u2⟩:=b;obtain⟨d,A,q2,q3,r⟩:=g;dsimp only at A q3 r;subst A;refine Zr ⟨λJ=>?_,λ_=>Zb ⟨ZB,r⟩⟩;simp only[Wx]at J;refine Zn (YN ⟨ZB,λD i=>?_⟩);rw[ko];refine Zn ((j4 t).mono λx8 hw=>Zn ((Zd2 hw).mono λv T=>Zr ⟨λ_=>by rw[bs];exact Zb (s _),λ_=>Xi ⟨by simp only[Wx,VJ];omega,?_⟩⟩));rw[show Zm (Zv (d:Int) 1)=((d+1:Nat):Int)by simp only[Wx];rw[ZK Y];rfl];refine Zb ⟨⟨d+1,rfl,Y,by simp[Ye];omega,λe p=>?_⟩,ZB⟩;obtain q|q:=ZY p;·exact r e q
  ·rw[YV q];exact T
 ·refine Zn ((Zd3 Y).mono λe2 x3=>Zr ⟨λ_=>Zb (s _),λ_=>Xi ⟨by have:=g.1;simp only[Wx,VJ];omega,(Zn ((Zkh K l z S Y (by have:=g.1;simp[Ye];omega) Y λe p=>?_).mono λx1⟨H,E,F,G⟩=>?_))⟩⟩)
  ·obtain q|q:=ZY p;·have:=g.2 e q;omega
   ·rw[YV q];omega
  refine Zr ⟨λ_=>Zn (bB.mono λD i=>Zb ?_),λ_=>?_⟩;·obtain⟨x2,i⟩:=i;refine⟨H,E,F.le Y,?_⟩;rw[i];exact⟨G,w,M,O,x,y,P,Q⟩
  ·rw[ko];unfold uB;rw[bs,E];refine Zn ((ZdP (T:=c) (r:=(x1.1,N.2.1,N.2.2.1,N.2.2.2.1,st,C.2.2.2.2.2.2.2.2.2.1,N.2.2.2.2.2.2.1,N.2.2.2.2.2.2.2.1,0,N.2.2.2.2.2.2.2.2.2)) ⟨G,w,t,X,x,y,Zc,Zc⟩ (X0 l) F Y R).mono λD⟨I,y1,y2,y3⟩=>Zb ⟨I,by rw[y1,T6],y2.le Y,y3⟩)
def ZmE(h:N.2.2.2.2.2.2.1.length<=1000):W (bD N p) λ_=>True:=by refine Zn (WM (W.Pk (λa=>0<=a/\a<=N.2.2.2.2.2.2.1.length) (λa=>(N.2.2.2.2.2.2.1.length-a).toNat) (λ_=>W (some 0) λ_=>True) ⟨Zc,Zc⟩ Y (λa b=>?_) (λa b=>Zb (Zb trivial)) λ_ _=>Zb trivial));have⟨d,e⟩:=b;refine Zr ⟨λc=>?_,λ_=>Zb ⟨d,e⟩⟩;simp[Wx]at c;refine Zn (YN ⟨Y,λg f=>?_⟩);unfold bE;rw[bs];refine Zr ⟨λ_=>by rw[bs];exact Zb (Zb trivial),λ_=>?_⟩;rw[show Zm _=a+1by simp[Wx];rw[ZK Y]];exact Zb ⟨Y,ZB⟩
def Zlz{ds}(h:RI B f c N)(l:ds[f]?=some k)(g:DI B a k)(Q:a<=50000000)(s:B<=1000)(A:2<=B)(m:Qi C):W (mL N ds C) λo=>∃d',o.2.1=ds.set f d'/\DI B (a+100000) d'/\RI B f c o.1:=by
 have u:=OU l;have v:∀e:Int,∃d',((N,ds,e):YY×L Yb×Int).2.1=ds.set f d'/\DI B (a+100000) d'/\RI B f c N:=λ_=>⟨k,u,g.le Y,h⟩;have S:C.2.2.2.2.2.2.2.2.2.1.2.length<=8192:=m.2.2.2.2.2.2.2.2.1;unfold mL;refine Uz (λ_=>Zb trivial) (λ_=>Zb trivial) λ_=>Zr ⟨λ_=>Zb (v _),λ_=>Zn ((ZlD Y).mono λj t=>Yu (λw=>w=false->j=true) (λd=>Zb λe=>by rw[d]at e;cases e) (λd=>Zb λ_=>by simpa only[Wx]using d) λw E=>Zr ⟨λ_=>Zb (v _),λd=>Zr ⟨λ_=>Zb (v _),λ_=>?_⟩⟩)⟩;obtain⟨K,x⟩:=t (E d);have b:RI B f c (N.1,N.2.1,N.2.2.1,N.2.2.2.1,N.2.2.2.2.1,N.2.2.2.2.2.1,N.2.2.2.2.2.2.1,V3 N.2.2.2.2.2.2.2.1 C.2.2.2.2.2.2.2.2.2.1.1.1,N.2.2.2.2.2.2.2.2):=h;generalize R:((N.1,N.2.1,N.2.2.1,N.2.2.2.1,N.2.2.2.2.1,N.2.2.2.2.2.1,N.2.2.2.2.2.2.1,V3 N.2.2.2.2.2.2.2.1 C.2.2.2.2.2.2.2.2.2.1.1.1,N.2.2.2.2.2.2.2.2):YY)=F at*;have O:=b.2.2.1.2.1;rw[be Mt];refine Zr ⟨λ_=>Zb ⟨k,u,g.le Y,b⟩,λz=>Zr ⟨λ_=>Zn ((Zmj b l g Y s A m).mono λo i=>Zb ?_),λ_=>?_⟩⟩;·obtain⟨d',n,p,r⟩:=i;exact⟨d',n,p.le Y,r⟩
 ·simp only[Wx]at z;rw[be Mt];refine Zr ⟨λ_=>?_,λ_=>Zn ((ZcU b l g Y s ⟨m,x⟩ Y).mono λo i=>?_)⟩
  ·refine Zn (W.mono (P:=λo=>RI B f c o.1) ?_ λo i=>Zb ⟨k,u,g.le Y,i⟩);have M:=b.2.2.2.2.1;unfold bG;refine Yu (λj=>j=false->F.2.2.2.2.2.2.1.length<8) (λ_=>Zb λe=>by cases e) (λd=>Zn ((ZmE Y).mono λ_ _=>Zb λ_=>by simp only[Wx]at d;omega)) λj t=>Zr ⟨λ_=>Zb b,λd=>Xi ⟨by simp only[Wx,VJ];omega,Zb ?_⟩⟩
   ·have:=t d;refine⟨b.1,b.2.1,b.2.2.1,b.2.2.2.1,by simp[Ye];omega,λG D=>?_,b.2.2.2.2.2.2⟩;obtain q|q:=ZY D;·exact b.2.2.2.2.2.1 G q
    ·rw[YV q];exact⟨m,x⟩
  ·obtain⟨d',n,p,r,-⟩:=i;refine Zr ⟨λ_=>Zb ⟨d',n,p.le Y,r⟩,λ_=>?_⟩;rw[n];refine Zn ((ZdP r (X0 l) p Y s).mono λw⟨y,H,I,J⟩=>Zb ⟨y,by rw[H,T6],I.le Y,J⟩)
def Zmb(h:RI B f c N)(n:c<=100000000):W (ux N p) λo=>RI B f (c+1) o.1/\MO o.2.1:=by
 have a:=h.up (T':=c+1) Y;obtain⟨d,e,g,i,j,k,l,m⟩:=id h;unfold ux;rw[be Mt];refine Zr ⟨λ_=>Zb ⟨a,Qg Zc⟩,λ_=>SF ⟨by simp only[Wx];omega,Uz (λ_=>Zb trivial) (λ_=>Zb trivial) λ_=>Zr ⟨λ_=>Zb ⟨a,Qg Zc⟩,λ_=>?_⟩⟩⟩;have b:RI B f (c+1) (N.1,N.2.1,N.2.2.1,N.2.2.2.1,N.2.2.2.2.1,N.2.2.2.2.2.1,N.2.2.2.2.2.2.1,N.2.2.2.2.2.2.2.1,Zm (Zv N.2.2.2.2.2.2.2.2.1 1),p,N.2.2.2.2.2.2.2.2.2.2):=by refine⟨d,e,g,i,j,k,by simp only[Wx];rw[ZK Y];omega,by simp only[Wx];rw[ZK Y];omega⟩
 rw[be Mt];refine Zr ⟨λ_=>Zb ⟨b,Qg Zc⟩,λ_=>?_⟩;rw[be Mt];exact Zb ⟨b,Qg Zc⟩
def ZAj{ds}(h:RI B f c N)(m:ds[f]?=some k)(l:DI B a k)(r:a<=50000000)(p:B<=1000)(q:2<=B)(s:Qi C)(d:NI (nt E) D):W (qp E N ds D C) λo=>∃d' n x,o.1=wN E n/\RI B f c o.2.1/\o.2.2.1=ds.set f d'/\DI B (a+100000) d'/\o.2.2.2=D++x/\NI n o.2.2.2:=by
 refine Zr ⟨λ_=>Zn ((ZkM h).mono λt j=>Yu (λo=>∃n x,o.2.1=wN E n/\o.1=D++x/\NI n o.1) (λ_=>Zn ((xG d j.2).mono λo b=>Zb b)) (λ_=>Zb ⟨nt E,[],rfl,Zc,d⟩) λo b=>Zb ?_),λ_=>Zn ((Zlz h m l r p q s).mono λo b=>Zb ?_)⟩;·have⟨n,x,e,g,i⟩:=b;exact⟨k,n,x,e,by rw[j.1];exact h,OU m,l.le Zc,g,i⟩
 ·have⟨d',e,g,i⟩:=b;exact⟨d',nt E,[],rfl,i,e,g,Zc,d⟩
def PV.gD{k}{B}{d d':Yb}(h:PV k f B D c P d)(A:f<240)(i:NZ d.1 d.2.2.1 d'.1):∃g n' r,Sv d'.1 f (f+1) g n' r/\(g=D\/∃b,B b/\g=D++[b]):=by
 obtain⟨j,⟨q,⟨x,y,F⟩,o⟩,⟨b,E,s,t,u,v⟩,-⟩:=h;rw[s]at i;obtain⟨w,-⟩:=Zas (by rw[j.1];omega) i;have z:(BitVec.ofNat 32 f).toNat=f:=XV;have l:Jb d'.1 (BitVec.ofNat 64 f) (if f=0then[]else Kg false 1#32 (BitVec.ofNat 32 f)):=by
  have p:∀e,e<2->YQ d'.1 e=YQ d.1 e:=λe C=>by unfold YQ;rw[w e Y]
  refine⟨λn=>?_,y,Zp⟩;rw[p _ (Ez _ Y)];exact x n
 obtain a|⟨m,a⟩:=o.gD (by rw[j.1];omega) Y Y t u Y i;·rw[ze Y]at a;exact⟨D,c,q,⟨l,a⟩,.inl rfl⟩
 ·rw[ze Y]at a;exact⟨_,_,_,⟨l,a⟩,.inr ⟨b,(v m).2.2,rfl⟩⟩
def Sv.pv{k}{B}{m}{d}(h:Sv d.1 f f D c m)(e:DI 900 a d)(b:d.2.2.1=[]):PV k f B D c false d:=⟨e.sm Zp,⟨m,h⟩,K8.nil b (by have:=h.2.2.2.2.1;omega),λ_=>b⟩
def UU.grow:∀{R}{s s'},UU s R s'->Vz s.1->s.2.1.length=s.1.2.2.1.length->Vz s'.1/\s'.1.1=s.1.1/\s'.2.1.length=s'.1.2.2.1.length/\∃X a,s'.1.2.2.1=s.1.2.2.1++X/\s'.2.1=s.2.1++a|[],s,s',e,h,b=>by rw[e];exact⟨h,rfl,b,[],[],Zc,Zc⟩|r::R,s,s',⟨y,⟨t,l,st,h1,h2,u,c,d⟩,f⟩,h,b=>by obtain⟨v,i,j,w,k,x⟩:=BJ h Y;have:=X9 (i.symm.trans c);subst this;have⟨z,g⟩:=k rfl;subst d;have⟨n,m,o,X,a,p,q⟩:=f.grow j (by rw[g];simp;omega);grind
def IA(sd:ZN)(E:L qu)(c:L Int)(b:L QG):Prop:=b.length<=E.length/\c.length=E.length/\∀a:Nat,a<b.length->b[a]?=some (Sj E c (a+1),uS sd (Sj E c (a+1)))
def IA.app{E X}{a c}{b}(h:IA J E a b)(i:(a++c).length=(E++X).length):IA J (E++X) (a++c) b:=by have⟨j,e,f⟩:=h;refine⟨Zp,i,λd g=>?_⟩;rw[Zpx Zc Y e];exact f d g
def IA.snoc{E}{b}{a}(h:IA J E b a)(i:a.length<E.length):IA J E b (a++[(Sj E b (a.length+1),uS J (Sj E b (a.length+1)))]):=by
 have⟨f,d,g⟩:=h;refine⟨XV,d,λc e=>?_⟩;by_cases j:c<a.length;·grind
 ·have:c=a.length:=by simp at e;omega
  subst this;simp
def Told(sd seed:ZN)(R:L Zt)(c:L QG):Prop:=∃b d a,R=b++d/\UU (s0 seed) b a/\IA sd a.1.2.2.1 a.2.1 c
def Told.more{seed}{a}(h:Told J seed D a):Told J seed (D++e) a:=by have⟨b,c,g,i,d,f⟩:=h;exact⟨b,c++e,g,Xk,d,f⟩
def Told.of{seed}{s}{a}(h:Told J seed D a)(hs:UU (s0 seed) D s):IA J s.1.2.2.1 s.2.1 a:=by have⟨m,n,t,g,i,j⟩:=h;rw[g]at hs;have⟨q,b,d⟩:=hs.split;obtain rfl:=b.uniq i;obtain⟨e,r,f,-⟩:=b.grow Gv rfl;obtain⟨-,-,c,o,p,k,l⟩:=d.grow e f;rw[k,l]at c⊢;exact j.app c
def Told.mem{sd seed}{R}{p}{a}(h:ZAV seed R p)(b:IA sd p.2.2.1.2.2.1 p.2.2.2.1 a):Told sd seed R a:=by obtain⟨c,d,j,e,f,g,i,-⟩:=h;rw[g,i]at b;exact⟨c,d,j,e,f,b⟩
def dE:0<=Zi B:=MH B
def wS(h:-1000000000000<=p/\p<1000000000000):Zm (Zv p 1)=p+1:=by simp[Wx];exact ZK Y
def Zh7{x}{n:Nat}(h:n<=100):W (uG x n) λr=>r.length=n:=by
 unfold uG;refine Zn (W.Tl (λa=>∃c:Nat,a.2.2=c/\c<=n/\a.2.1.length=c) (λa=>a.2.1.length=n) (λa=>(n-a.2.2).toNat) ⟨0,rfl,Y,rfl⟩ ZB (λa e=>?_) λa e=>Zn (W.Tl (λv=>-1<=v.2/\v.2<n/\(v.1.length:Int)=n-1-v.2) (λv=>v.1.length=n) (λv=>(v.2+1).toNat) ?_ ?_ (λv d=>?_) λv d=>Zb d))
 ·obtain⟨c,f,g,i⟩:=e;refine Zr ⟨λb=>Gx.2 ⟨YI,Xi ⟨by simp only[Wx,VJ];omega,Gx.2 ⟨YI,Zb ?_⟩⟩⟩,λb=>Zb ?_⟩;·simp only[Wx]at b;rw[f,wS Y];exact⟨⟨c+1,rfl,Y,by simp[Ye];omega⟩,ZB⟩
  ·simp only[Wx]at b;show a.2.1.length=n;omega
 ·rw[show Zm (ZX (n:Int) 1)=(n:Int)-1by simp only[Wx];rw[ZK Y]];exact⟨ZB,ZB,Zc⟩
 ·rw[show Zm (ZX (n:Int) 1)=(n:Int)-1by simp only[Wx];rw[ZK Y]];dsimp only;omega
 ·obtain⟨k,l,m⟩:=d;refine Zr ⟨λb=>?_,λb=>Zb ?_⟩;·simp only[Wx]at b;refine XC ⟨by simp only[Wx];omega,Zn (YN ⟨Y,λo j=>Xi ⟨by simp only[Wx,VJ];omega,Zb ?_⟩⟩)⟩;rw[show Zm (ZX v.2 1)=v.2-1by simp only[Wx];rw[ZK Y]];exact⟨⟨ZB,ZB,by simp[Ye];omega⟩,ZB⟩
  ·simp only[Wx]at b;show v.1.length=n;omega
theorem Zwm{x}(m:D.length<=1000)(h:∀b∈D,b.length<=100000):W (bQ x D) λr=>r.length<=200000000:=by refine Zn (W.lp (λa=>∃c:Nat,a.2=c/\c<=D.length/\a.1.length<=1+100004*c) (λa=>(D.length-a.2).toNat) ⟨0,rfl,Zc,Zc⟩ Y (λa g=>?_) λa g=>Zb Zp);have⟨q,s⟩:=a;have⟨c,d,j,e⟩:=g;dsimp only at d e;subst d;refine Zr ⟨λf=>?_,λf=>Zb ⟨c,rfl,j,e⟩⟩;simp[Wx]at f;refine Zn (YN ⟨Zp,λb k=>Zn ((Zh7 (n:=4) Zc).mono λp o=>Xi ⟨Zp,Zn (YN ⟨Y,λi l=>?_⟩)⟩)⟩);have:=h i Zp;rw[wS Y];exact Xi ⟨Zp,Zb ⟨⟨c+1,rfl,Y,Zp⟩,Zp⟩⟩
theorem Zwi(h:A.length<=200000000):W (bO A) λr=>r.length%64=0/\r.length<=300000000:=by
 refine Xi ⟨Zp,Xi ⟨Zp,Zn (W.Tl (λa=>a.length+(120-a.length%64)%64<=250000000) (λa=>a.length%64=56/\a.length<=250000000) (λa=>(120-a.length%64)%64) Zp Y (λa c=>?_) λa c=>?_)⟩⟩
 ·have d:P9 (Zi (Zj a)) 64=(a.length%64:Nat):=by simp only[Wx];rw[oH Y];rfl
  refine Jd.2 ⟨Zc,Zr ⟨λb=>Xi ⟨Zp,Zb ?_⟩,λb=>Zb ?_⟩⟩;·simp at b;have e:(Ye a [0#8]).length=a.length+1:=Zc;refine⟨Y,Zp⟩
  ·simp at b;exact⟨Y,Y⟩
 ·refine Zn ((Zh7 (n:=8) Y).mono λg f=>Xi ⟨Zp,Zb ?_⟩);grind
theorem Zwp(h:A.length<=1000):W (bM A) λ_=>True:=by refine Zn (W.lp (λa=>0<=a.2/\a.2<=A.length) (λa=>(A.length-a.2).toNat) ⟨Zc,Zc⟩ Y (λa c=>?_) λa c=>Zb trivial);have⟨d,e⟩:=c;refine Zr ⟨λb=>?_,λb=>Zb ⟨d,e⟩⟩;simp[Wx]at b;refine Zn (YN ⟨Y,λ_ _=>Zb ?_⟩);rw[wS Y];exact⟨Y,Zp⟩
def Zwn{x y}:W (Mx x y) λ_=>True:=by exact SF ⟨dE,SF ⟨dE,Zb trivial⟩⟩
def vg{v:Vector (ZO 32) B}{f}(h:0<=p/\p<B)(a:∀x,W (f x) j):W (O (Y1 v p) f) j:=Zn (xk.2 ⟨h,λx _=>a x⟩)
def rt{x y}{f}(a:∀x,W (f x) j):W (O (Mx x y) f) j:=Zn (Zwn.mono λx _=>a x)
def Zwq(h:A.length=64):W (mR A) λ_=>True:=by
 unfold mR;refine Zn (W.lp (λa=>0<=a.1/\a.1<=16) (λa=>(16-a.1).toNat) ⟨Zc,Zc⟩ ZB (λa e=>?_) λa e=>Zn (W.lp (λv=>16<=v.1/\v.1<=64) (λv=>(64-v.1).toNat) ⟨Zc,Zc⟩ ZB (λv f=>?_) λv f=>Zb trivial));·obtain⟨g,i⟩:=e;refine Zr ⟨λb=>?_,λb=>Zb ⟨g,i⟩⟩;simp only[Wx]at b;rw[show Zm (VI 4 a.1)=4*a.1by simp only[Wx];rw[ZK Y],show Zm (Zv (4*a.1) 4)=4*a.1+4by simp only[Wx];rw[ZK Y]];refine Zn (L9.2 ⟨Y,Zn ((Zwp (by rw[VF,UF];omega)).mono λ_ _=>XC ⟨Y,Zb ?_⟩)⟩);rw[wS Y];exact⟨⟨ZB,ZB⟩,ZB⟩
 ·obtain⟨j,k⟩:=f;refine Zr ⟨λb=>?_,λb=>Zb ⟨j,k⟩⟩;simp only[Wx]at b;have d:∀c:Int,0<=c->c<=16->Zm (ZX v.1 c)=v.1-c:=λc l m=>by simp only[Wx];rw[ZK Y]
  rw[d 15 Y Y,d 2 Y Y,d 16 Y Y,d 7 Y Y,wS Y];refine XC ⟨Y,vg Y λ_=>XC ⟨Y,vg Y λ_=>XC ⟨Y,vg Y λ_=>rt λ_=>rt λ_=>Gx.2 ⟨YI,XC ⟨Y,vg Y λ_=>rt λ_=>rt λ_=>Gx.2 ⟨YI,XC ⟨Y,Zb ⟨⟨ZB,ZB⟩,ZB⟩⟩⟩⟩⟩⟩⟩⟩
def vc{v:Vector (ZO 32) B}{f}(h:0<=p/\p<M)(b:M=B)(a:∀x,W (f x) j):W (Z4 p M (O (Y1 v p) f)) j:=XC ⟨h,vg Y a⟩
theorem Zwl{s}(h:A.length=64):W (bR s A) λ_=>True:=by
 refine Zn ((Zwq h).mono λj _=>?_);rw[show bN=some _ from rfl,bs];refine Zn (W.lp (λa=>0<=a.1/\a.1<=64) (λa=>(64-a.1).toNat) ⟨Zc,Zc⟩ Zc (λa c=>?_) λa c=>Zn (W.lp (λv=>0<=v.1/\v.1<=8) (λv=>(8-v.1).toNat) ⟨Zc,Zc⟩ Zc (λv d=>?_) λv d=>Zb trivial))
 ·obtain⟨e,f⟩:=c;refine Zr ⟨λb=>?_,λb=>Zb ⟨e,f⟩⟩;simp only[Wx]at b;rw[wS Y];repeat(first|refine vc Y rfl λ_=>?_|refine rt λ_=>?_)
  exact Zb ⟨Y,Zp⟩
 ·obtain⟨g,i⟩:=d;refine Zr ⟨λb=>?_,λb=>Zb ⟨g,i⟩⟩;simp at b;rw[wS Y];exact vc Y rfl λ_=>vc Y rfl λ_=>XC ⟨Y,Zb ⟨Y,Zp⟩⟩
theorem Zwk(h:A.length<=200000000):W (mQ A) λ_=>True:=by
 unfold mQ;rw[show bP=some _ from rfl,bs];refine Zn ((Zwi h).mono λf l=>Zn (W.lp (λb=>∃a:Nat,b.1=a/\a<=f.length/\a%64=0) (λb=>(f.length-b.1).toNat) ⟨0,rfl,Y,rfl⟩ ZB (λb d=>?_) λb d=>Zn (W.lp (λv=>0<=v.1/\v.1<=32) (λv=>(32-v.1).toNat) ⟨Zc,Zc⟩ ZB (λv e=>?_) λv e=>Zb trivial)));·obtain⟨m,o⟩:=b;obtain⟨a,rfl,i,j⟩:=d;refine Zr ⟨λc=>?_,λc=>Zb ⟨a,rfl,i,j⟩⟩;simp only[Wx]at c;rw[show Zm (Zv (a:Int) 64)=((a+64:Nat):Int)by simp only[Wx];rw[ZK Y];rfl];exact Zn (L9.2 ⟨ZB,Zn ((Zwl Zp).mono λ_ _=>Zb ⟨⟨a+64,rfl,Y,Y⟩,ZB⟩)⟩)
 ·obtain⟨g,k⟩:=e;refine Zr ⟨λc=>?_,λc=>Zb ⟨g,k⟩⟩;simp only[Wx]at c;rw[wS Y,GU g,ZK (n:=v.1/4) Y];exact Jd.2 ⟨YI,vc Y rfl λ_=>Jd.2 ⟨YI,SF ⟨dE,XC ⟨Y,Zb ⟨Y,ZB⟩⟩⟩⟩⟩
def Zwf(h:A.length<=100000):W (bS A) λ_=>True:=by exact Zn (Zn ((Zwm Zc Zp).mono λb a=>Zn ((Zwk a).mono λ_ _=>Zb (Zb trivial))))
theorem ZlG{b}(h:A.length<=1000000000):W (bL A b) λr=>r=true↔A=b:=by
 refine Zr ⟨λd=>Zb ?_,λd=>?_⟩;·grind
 simp only[Wx]at d;refine WM (W.VQ (λa=>0<=a/\a<=A.length/\∀c:Nat,c<a.toNat->A[c]?=b[c]?) _ (λa=>(A.length-a).toNat) (λr=>r=false/\¬A=b) ⟨Zc,Y,Zc⟩ Y (λa f=>Zr ⟨λe=>?_,λe=>Zb ?_⟩) (λa f=>Zb ⟨λ_=>f,λ_=>rfl⟩) λr j=>⟨Zp,λg=>(j.2 g).elim⟩)
 ·simp only[Wx]at e;refine Zn (YN ⟨Y,λn l=>Zn (YN ⟨Y,λo m=>Zr ⟨λi=>?_,λi=>Zb ?_⟩⟩)⟩);·rw[bs];exact Zb ⟨rfl,Zp⟩
  ·rw[wS Y];refine⟨⟨Y,Y,λc k=>?_⟩,Zp⟩;grind
 ·apply se;grind
def ZkN(z:D.length<=1000)(h:∀b∈D,b.length<=100000):W (mS D) λ_=>True:=by
 unfold mS;refine WM (W.Pk (λa=>0<=a.2/\a.2<=D.length/\a.1.length=a.2) (λa=>(D.length-a.2).toNat) (λ_=>True) ⟨Zc,ZB,Zc⟩ ZB (λa o=>?_) (λa o=>Zb trivial) λ_ _=>trivial);obtain⟨e,d⟩:=a;obtain⟨c,l,m⟩:=o;dsimp only at c l m;refine Zr ⟨λf=>?_,λ_=>Zb ⟨c,l,m⟩⟩;simp only[Wx]at f;refine Zn (YN ⟨⟨c,f⟩,λy t=>Zn ((Zwf (h y (X2 t))).mono λg _=>Xi ⟨by simp only[Wx,VJ];omega,?_⟩)⟩);have n:(Ye e [g]).length=e.length+1:=by simp[Ye]
 refine WM (W.Pk (λv=>0<=v/\v<=d) (λv=>(d-v).toNat) (λi=>LQ (λa:L ZN×Int=>0<=a.2/\a.2<=D.length/\(a.1.length:Int)=a.2) (λa:L ZN×Int=>(D.length-a.2).toNat) (D.length-d).toNat (λa:L ZN×Int=>0<=a.2/\a.2<=D.length/\(a.1.length:Int)=a.2) (λ_:Bool=>True) i) ⟨Zc,c⟩ Y (λv p=>?_) (λv p=>Zb ?_) λi r=>r)
 ·obtain⟨w,x⟩:=p;refine Zr ⟨λq=>?_,λ_=>Zb ⟨w,x⟩⟩;simp only[Wx]at q;have j:0<=v/\v<(((Ye e [g]).length:Nat):Int):=by rw[n];omega
  have k:0<=d/\d<(((Ye e [g]).length:Nat):Int):=by rw[n];omega
  refine XC ⟨j,Zn (YN ⟨j,λB _=>XC ⟨k,Zn (YN ⟨k,λi _=>Uz (λ_=>by refine Zn (YN ⟨Y,λu s=>Zn (YN ⟨⟨c,f⟩,λC A=>Zn ((ZlG (by have:=h u (X2 s);omega)).mono λ_ _=>Zb trivial)⟩)⟩)) (λ_=>Zb trivial) λE=>Zr ⟨λ_=>by rw[bs,bs];exact Zb trivial,λ_=>Zb ?_⟩⟩)⟩⟩)⟩;·rw[wS Y];exact⟨⟨Y,Y⟩,ZB⟩
 ·dsimp only;rw[wS Y];exact⟨Zp,ZB⟩
def Hm(o:Rx):Prop:=o.2.2.2.2.1.length<=100/\o.2.2.2.2.2.1.length<=9000/\o.2.2.2.2.2.2.length<=200
def Zk0{l}(C:p<=200):W (mT l p) λb=>b=true->l.length<=p/\∀o∈l,Hm o:=by
 unfold mT;refine WM (W.VQ (λa=>∃c:Nat,a.2=c/\c<=l.length/\c<=200/\a.1.length=c/\(∀b∈a.1,b.length<=100)/\∀o∈l.take c,Hm o) (λa=>a.1.length<=200/\(∀b∈a.1,b.length<=100)/\((l.length:Int)<=200->∀o∈l,Hm o)) (λa=>(200-a.2).toNat) (λt=>t=false) ⟨0,rfl,Y,Y,rfl,Zc,Zc⟩ ZB (λa e=>?_) (λa e=>?_) λt z=>λf=>by rw[z]at f;cases f)
 ·obtain⟨D,E⟩:=a;obtain⟨c,m,A,B,v,g,n⟩:=e;dsimp only at m v g;subst m;refine Zr ⟨λd=>Zr ⟨λj=>?_,λj=>Zb ⟨ZB,g,λq=>by simp only[Wx]at d j;omega⟩⟩,λd=>Zb ⟨ZB,g,λ_=>?_⟩⟩
  ·simp only[Wx]at d j;have r:c<l.length:=Y;have h:∀{u:Type}{i:Rx->Zg u},O (ZF l (c:Int)) i=i l[c]:=λ{u i}=>be (Sy (MH _) (by rw[WL];exact Ve r));dsimp only;rw[h];refine Zr ⟨λ_=>by rw[bs];exact Zb rfl,λw=>?_⟩;rw[h];refine Zr ⟨λ_=>by rw[bs];exact Zb rfl,λx=>?_⟩;rw[h];refine Zr ⟨λ_=>by rw[bs];exact Zb rfl,λy=>?_⟩;rw[h];simp only[Wx]at w x y;rw[wS Y];refine Xi ⟨by simp only[Wx,VJ];omega,Zb ⟨⟨c+1,rfl,Y,Y,by simp[Ye];omega,λb k=>?_,λo s=>?_⟩,ZB⟩⟩
   ·obtain q|q:=ZY k;·exact g b q
    ·rw[YV q];omega
   ·rw[NS,Ve r]at s;obtain q|q:=ZY s;·exact n o q
    ·rw[YV q];exact⟨Y,Y,Y⟩
  ·simp only[Wx]at d;rwa[UT Y]at n
 ·refine Zr ⟨λd=>Zn ((ZkN (by have:=e.1;omega) λb k=>by have:=e.2.1 b k;omega).mono λb _=>Zb λ_=>?_),λ_=>Zb λf=>by cases f⟩;simp only[Wx]at d;exact⟨d,e.2.2 Y⟩
def Wa:ZN:=YJ zH 0 42#8
def QE:Di:=(2,2,6,2,900,1,2,3,Wa)
noncomputable def S4:ZN:=My Wa
def Qx(ds:L Yb)(k T:Nat):Prop:=∃a,ds[k]?=some a/\DI 900 (100000*T) a
def Rs(rs:L YY)(a:Zg Nat)(k T:Nat):Prop:=∀b,a=some b->∃c,rs[b]?=some c/\RI 900 k T c
def L4(B:L Zt->Zt->Prop)(ds:L Yb)(ps:L Yz)(a:Zg Nat)(k g:Nat)(R:L Zt):Prop:=∃c f d,ds[k]?=some c/\PV k g (B R) R f d c/\∀e,a=some e->∃b,ps[e]?=some b/\VM k g f d b.1/\PI S4 b/\ZAV Wa R b
def sl(c:Z5):L Int:=c.2.2.2.2.2.2.2.2.2.2.2
def CB(T:Nat)(c:Z5):Prop:=c.1=QE/\(0<=c.2.1/\c.2.1<=T+1)/\(c.2.2.1.length=5/\∀a∈c.2.2.1,-2<=a/\a<=2)/\c.2.2.2.2.2.2.2.1.length<=1000/\(lk c).length<=T/\(ud c).length<=T/\(sl c).length<=T+8
structure XE(B:List Zt->Zt->Prop)(T:Nat)(k0 k1 k2 g:Nat)(R:List Zt)(c:Z5)(ds:List Yb)(rs:List YY)(cs:List Y6)(ss:List Xn)(ms:List WZ)(ps:List Yz)(bs:List Zt):Prop where
 cb:CB T c
 dv:c.2.2.2.1=[some k0,some k1,some k2]ne:k0≠k1/\k0≠k2/\k1≠k2
 d1:Qx ds k1 T
 d2:Qx ds k2 T
 pr:L4 B ds ps c.2.2.2.2.1 k0 g R
 rp:∃a1 a2,c.2.2.2.2.2.1=[a1,a2]/\Rs rs a1 k1 T/\Rs rs a2 k2 T
 ni:NI (nt c) bs
 cl:CL c cs ss ms.length
 hg:g<=T
def Qx.up{ds}{T'}(h:Qx ds B f)(d:f<=T'):Qx ds B T':=by have⟨a,b,c⟩:=h;exact⟨a,b,c.le Y⟩
def Rs.up{a}{T'}(h:Rs G a B f)(d:f<=T'):Rs G a B T':=λg e=>by have⟨i,b,c⟩:=h g e;exact⟨i,b,c.up d⟩
def CB.up{T'}(h:CB B E)(i:B<=T'):CB T' E:=by have⟨a,d,b,c,e,f,g⟩:=h;exact⟨a,Y,b,c,Y,Y,Y⟩
def XE.up{ds:L Yb}(h:XE F B f c a K D E ds G H g I z e){T'}(b:B<=T'):XE F T' f c a K D E ds G H g I z e:=⟨h.cb.up b,h.dv,h.ne,h.d1.up b,h.d2.up b,h.pr,by have⟨d,i,j,k,l⟩:=h.rp;exact⟨d,i,j,k.up b,l.up b⟩,h.ni,h.cl,by have:=h.hg;omega⟩
def XE.TT{ds:L Yb}(h:XE F B f c a K D E ds G H g I z e){n}{b}(d:NI n b):XE F B f c a K D (wN E n) ds G H g I z b:=⟨h.cb,h.dv,h.ne,h.d1,h.d2,h.pr,h.rp,d,h.cl.up rfl (YA _) Zc λ_ i=>i,h.hg⟩
def Ly(h:B≠f):(r.set B x)[f]?=r[f]?:=Zbj h
def Qx.set{ds:L Yb}(h:Qx ds B f)(e:c≠B):Qx (ds.set c k) B f:=by obtain⟨a,d,b⟩:=h;exact⟨a,Xk,b⟩
def XE.pri{ds:L Yb}(h:XE F B f c a K D E ds G H g I z e){b}{d}(i:L4 F (ds.set f k) d E.2.2.2.2.1 f K b):XE F B f c a K b E (ds.set f k) G H g I d e:=⟨h.cb,h.dv,h.ne,h.d1.set h.ne.1,h.d2.set h.ne.2.1,i,h.rp,h.ni,h.cl,h.hg⟩
def XE.cr{ds:L Yb}(h:XE F B f c a K D E ds G H g I z e){b}{d}(i:L4 F ds d E.2.2.2.2.1 f K b):XE F B f c a K b E ds G H g I d e:=⟨h.cb,h.dv,h.ne,h.d1,h.d2,i,h.rp,h.ni,h.cl,h.hg⟩
def L4.put{ds:L Yb}{a}{p}(h:L4 F ds z a B f D)(b:a=some c)(g:z[c]?=some p)(h1:d.1=p.1)(h2:PI S4 d)(l:ZAV Wa D p->ZAV Wa D d):L4 F ds (z.set c d) a B f D:=by have⟨j,m,k,n,o,q⟩:=h;refine⟨j,m,k,n,o,λt e=>?_⟩;rw[b]at e;cases e;have⟨u,i,r,v,s⟩:=q c b;rw[g]at i;cases i;exact⟨d,X0 g,by rw[h1];exact r,h2,l s⟩
def EF(B:L Zt->Zt->Prop):L Zt->L Zt->Prop|_,[]=>True|R,b::X=>B R b/\EF B (R++[b]) X
def RX(B:L Zt->Zt->Prop)(R b:L Zt):Prop:=∃a,b=R++a/\EF B R a
def RX.refl:RX F D D:=⟨[],Zc,trivial⟩
def RX.one{B:L Zt->Zt->Prop}{R:L Zt}{b:Zt}(h:B R b):RX B R (R++[b]):=⟨[b],rfl,h,trivial⟩
def EF.app:∀{R X:L Zt},EF F R X->EF F (R++X) D->EF F R (X++D)|_,[],_,k=>Zp|_,_::_,h,k=>⟨h.1,h.2.app Zp⟩
def V0(B:L Zt->Zt->Prop)(R:L Zt)(c:Z5)(ps:L Yz)(d:L Zt)(c':Z5)(i:L Yz):Prop:=RX B R d/\∀f a,c'.2.2.2.2.1=some f->i[f]?=some a->UU (s0 Wa) d (UB a)\/∃e b g h,c.2.2.2.2.1=some e/\ps[e]?=some b/\a.2.2.1.2.2.1=b.2.2.1.2.2.1++g/\a.2.2.2.1=b.2.2.2.1++h
def V0.same(h:i.2.2.2.2.1=E.2.2.2.2.1):V0 F D E z D i z:=⟨RX.refl,λb c d a=>.inr ⟨b,c,[],[],Xk,a,Zc,Zc⟩⟩
def V0.put{p:Yz}(h:i.2.2.2.2.1=E.2.2.2.2.1)(f:E.2.2.2.2.1=some B)(g:z[B]?=some p)(m:RX F D e)(l:∃X a,d.2.2.1.2.2.1=p.2.2.1.2.2.1++X/\d.2.2.2.1=p.2.2.2.1++a):V0 F D E z e i (z.set B d):=by refine⟨m,λn o b c=>.inr ?_⟩;rw[h,f]at b;cases b;rw[X0 g]at c;cases c;have⟨X,a,j,k⟩:=l;exact⟨B,p,X,a,f,g,j,k⟩
def V0.trans{c:L Zt}{d:Z5}{a g:L Yz}(h:V0 F D E z e i a)(h':V0 F e i a c d g)(w:∀j p,i.2.2.2.2.1=some j->a[j]?=some p->UU (s0 Wa) e (UB p)->False):V0 F D E z c d g:=by
 have⟨⟨r,f,J⟩,h⟩:=h;have⟨⟨s,v,K⟩,h'⟩:=h';refine⟨⟨r++s,by rw[v,f,Yc],J.app (by rw[<-f];exact K)⟩,λM N t u=>?_⟩;obtain b|⟨j,p,m,o,k,l,A,B⟩:=h' _ _ t u;·exact .inl b
 ·obtain b|⟨x,y,n,q,C,G,H,I⟩:=h j p k l;·exact(w j p k l b).elim
  ·exact .inr ⟨x,y,n++m,q++o,C,G,by rw[A,H,Yc],by rw[B,I,Yc]⟩
def SD(c:Z5)(u:L Int):Z5:=(c.1,c.2.1,c.2.2.1,c.2.2.2.1,c.2.2.2.2.1,c.2.2.2.2.2.1,c.2.2.2.2.2.2.1,c.2.2.2.2.2.2.2.1,c.2.2.2.2.2.2.2.2.1,c.2.2.2.2.2.2.2.2.2.1,c.2.2.2.2.2.2.2.2.2.2.1,u)
def V1(h:Q=some X):Yv Q o S=S X:=by rw[h,ko]
def Hc(h:Q=none):Yv Q o S=o:=by rw[h,Mq]
def Zxo{c}{l}{A:Z5->L Zt->Zg (Z5×L Yb×L Yz×L Zt×OG)}{Q}(h:NI (nt c) D)(hr:c.2.2.2.2.2.1.length=2)(hl:l.length<=100)(K:∀m∈l,MO m)(V:∀m∈l,m.1=2->0<=m.2.2.1)(X:∀n x,NI n (D++x)->W (A (wN c n) (D++x)) Q):W (X4 (X3 (λd=>Zf (ZC d.1 (Zi (Zj l))) (O (ZF l d.1) λu=>Zf (Zw u.1 2) (O (Uh d.2.2 d.2.1 u.2.2.1 u) λN=>some (.next (Zm (Zv d.1 1),N.2,N.1))) (O (YE (λ(a:Int×L Zt×Z5×Yy)=>Zf (ZC a.1 (Zi (Zj d.2.2.2.2.2.2.2.1))) (O (Uh a.2.2.1 a.2.1 (Zm (Zv a.1 1)) (a.2.2.2.1,a.2.2.2.2.1,Zm (Zv a.1 1),a.2.2.2.2.2.2)) λP=>some (.next (Zm (Zv a.1 1),P.2,P.1,a.2.2.2.1,a.2.2.2.2.1,Zm (Zv a.1 1),a.2.2.2.2.2.2))) (some (.brk a))) (0,d.2.1,d.2.2,u)) λR=>some (.next (Zm (Zv d.1 1),R.2.1,R.2.2.1)))) (some (.brk d))) (0,D,c)) λS=>A S.2.2 S.2.1) Q:=by
 refine WM (W.VQ (λb=>∃(i:Nat)(n:Nj)(x:L Zt),b.1=i/\i<=l.length/\b.2.1=D++x/\b.2.2=wN c n/\NI n (D++x)) (λb=>∃(n:Nj)(x:L Zt),b.2.1=D++x/\b.2.2=wN c n/\NI n (D++x)) (λb=>(l.length-b.1).toNat) (λ_=>False) ⟨0,nt c,[],rfl,Y,Zc,rfl,by simpa using h⟩ ZB (λb B=>?_) (λb B=>?_) λ_ T=>T.elim)
 ·obtain⟨u1,u2,u3⟩:=b;obtain⟨i,n,x,p,H,q,I,w⟩:=B;dsimp only at p q I;subst p q I;refine Zr ⟨λU=>?_,λ_=>Zb ⟨n,x,rfl,rfl,w⟩⟩;simp only[Wx]at U;refine Zn (YN ⟨ZB,λm Z=>?_⟩);have z:=X2 Z;rw[wS Y];refine Zr ⟨λy=>?_,λy=>?_⟩;·simp only[Wx]at y;refine Zn ((Jr (c:=wN c n) w (V m z y) (K m z)).mono λx0 E=>Zb ?_);obtain⟨e,f,G,k,o⟩:=E.1;rw[k,Yc]at o;exact⟨⟨i+1,e,x++f,rfl,Y,by dsimp only;rw[k,Yc],by dsimp only;rw[G];rfl,o⟩,ZB⟩
  ·refine Zn (W.lp (λv=>∃(g:Nat)(e:Nj)(f:L Zt),v.1=g/\g<=2/\v.2.1=D++f/\v.2.2.1=wN c e/\NI e (D++f)/\MO v.2.2.2) (λv=>(2-v.1).toNat) ⟨0,n,x,rfl,Y,rfl,rfl,w,K m z⟩ ZB (λv C=>?_) λv C=>Zb ?_)
   ·obtain⟨v1,v2,v3,v4⟩:=v;obtain⟨g,e,f,F,M,r,s,t,j⟩:=C;dsimp only at F r s j;subst F r s;refine Zr ⟨λJ=>?_,λ_=>Zb ⟨g,e,f,rfl,M,rfl,rfl,t,j⟩⟩;have J:(g:Int)<2:=by have:ZC (g:Int) (Zi c.2.2.2.2.2.1.length)=true:=J;rw[hr]at this;simp only[Wx]at this;omega
    rw[wS ZB];dsimp only;refine Zn ((Jr (c:=wN c e) t Y (BC j _ _ _)).mono λx0 E=>Zb ?_);obtain⟨n2,y2,G,k,o⟩:=E.1;rw[k,Yc]at o;exact⟨⟨g+1,n2,f++y2,rfl,Y,by dsimp only;rw[k,Yc],by dsimp only;rw[G];rfl,o,BC j _ _ _⟩,ZB⟩
   ·obtain⟨g,e,f,F,M,r,s,t,j⟩:=C;exact⟨⟨i+1,e,f,rfl,Y,r,s,t⟩,ZB⟩
 ·obtain⟨n,x,p,H,q⟩:=B;dsimp only;rw[p,H];exact X n x q
def ZiW{ds:L Yb}{j:Nat}{t:Int}(h:XE F B f c a K D E ds G H g I z e)(x:E.2.2.2.2.1=some j)(C:z[j]?=some d)(hT:B<=1000)(Q:ZAV Wa D d->RG d.2.2.2.1 t->d.2.2.1.2.2.1.length<8->d.2.2.2.2.2.2=0->F D (Uj t d.2.2.2.2.2.1))(xx:∀D b i,F D b->i=D->F i b):W (O (NA d ds t) λp=>Zf (ZA (Zw p.2.2.2 0)) (some (E,p.2.1,Xc z j p.1,e,p.2.2.2,XB)) (Yt (Zj E.2.2.2.2.2.2.2.2.2.2.2) (Zj [E.2.1]) (X4 (X3 (λ(m:Int×L Zt×Z5)=>Zf (ZC m.1 (Zi (Zj p.2.2.1))) (O (ZF p.2.2.1 m.1) λs=>Zf (Zw s.1 2) (O (Uh m.2.2 m.2.1 s.2.2.1 s) λx1=>some (.next (Zm (Zv m.1 1),x1.2,x1.1))) (O (YE (λ(k:Int×L Zt×Z5×Yy)=>Zf (ZC k.1 (Zi (Zj m.2.2.2.2.2.2.2.1))) (O (Uh k.2.2.1 k.2.1 (Zm (Zv k.1 1)) (k.2.2.2.1,k.2.2.2.2.1,Zm (Zv k.1 1),k.2.2.2.2.2.2)) λx2=>some (.next (Zm (Zv k.1 1),x2.2,x2.1,k.2.2.2.1,k.2.2.2.2.1,Zm (Zv k.1 1),k.2.2.2.2.2.2))) (some (.brk k))) (0,m.2.1,m.2.2,s)) λx3=>some (.next (Zm (Zv m.1 1),x3.2.1,x3.2.2.1)))) (some (.brk m))) (0,e,E.1,E.2.1,E.2.2.1,E.2.2.2.1,E.2.2.2.2.1,E.2.2.2.2.2.1,E.2.2.2.2.2.2.1,E.2.2.2.2.2.2.2.1,E.2.2.2.2.2.2.2.2.1,E.2.2.2.2.2.2.2.2.2.1,E.2.2.2.2.2.2.2.2.2.2.1,Ye E.2.2.2.2.2.2.2.2.2.2.2 [E.2.1])) λx4=>some (x4.2.2,p.2.1,Xc z j p.1,x4.2.1,(0:Int),XB)))) λo=>∃i,XE F (B+1) f c a K i o.1 o.2.1 G H g I o.2.2.1 o.2.2.2.1/\V0 F D E z i o.1 o.2.2.1:=by
 obtain⟨xv,xi,fd,Z,q2,q3⟩:=h.pr;obtain⟨p',r1,r2,r3,M⟩:=q3 j x;rw[C]at r1;cases r1;have xh:=rQ (t:=t) Z q2 r2 r3 M (Q M);refine Zn (xh.mono λo ho=>?_);obtain⟨q,V,N,i,o1,o2,o3,o4,o5,o6,o7,o8,-,X,xs,-⟩:=ho;have hX:RX F D i:=by
  obtain⟨n,-⟩|⟨-,t1,t2,t3,n,-⟩:=X;·rw[n];exact RX.refl
  ·rw[n];exact RX.one (Q M t1 t2 t3)
 have hE:∃u v,o.1.2.2.1.2.2.1=d.2.2.1.2.2.1++u/\o.1.2.2.2.1=d.2.2.2.1++v:=by obtain⟨u,v,e1,r,-⟩:=o6;exact⟨u,v,e1,r⟩
 have x8:PV f K (F i) i V N q:=by
  obtain⟨n,r⟩|⟨-,-,-,-,n,r⟩:=X;·rw[n];exact r
  ·exact r _
 have xa:L4 F (ds.set f q) (z.set j o.1) E.2.2.2.2.1 f K i:=by refine⟨q,V,N,X0 Z,x8,λj' S=>?_⟩;rw[x]at S;cases S;exact⟨o.1,X0 C,o2,o3,o4⟩
 have l:=(h.pri xa).up (T':=B+1) Y;have R:∀w:Z5,w.2.2.2.2.1=E.2.2.2.2.1->V0 F D E z i w (z.set j o.1):=λw x9=>V0.put x9 x C hX hE;rw[o1];refine Zr ⟨λ_=>Zb ⟨i,l,R E rfl⟩,λP=>?_⟩;simp only[Wx]at P;obtain⟨-,em,x5,x6⟩:=xs P;have y0:=h.cb.2.2.2.2.2.2;refine Xi ⟨by show(sl E).length+1<=_;omega,?_⟩;have xb:E.2.2.2.2.2.1.length=2:=by obtain⟨a1,a2,n,-⟩:=h.rp;rw[n];rfl
 refine Zxo (c:=SD E (sl E++[E.2.1])) (A:=λx0 y=>some (x0,ds.set f q,Xc z j o.1,y,(0:Int),XB)) h.ni xb Y o7 (λy1 U T=>?_) λxi x0 hn=>Zb ⟨i,?_,R _ rfl⟩
 ·rw[x6]at U;obtain y|y:=ZY U;·obtain⟨J,hq,rfl⟩:=VR y;exact(r3.2.2.2.2.2.2 J hq).1.1
  ·rw[YV y,x5.fv]at T;cases T
 ·have x7:XE F (B+1) f c a K i (SD E (sl E++[E.2.1])) (ds.set f q) G H g I (z.set j o.1) e:=⟨by obtain⟨c1,c2,c3,c4,c5,c6,c7⟩:=l.cb;exact⟨c1,c2,c3,c4,c5,c6,by show(sl E++[_]).length<=_;simp;omega⟩,l.dv,l.ne,l.d1,l.d2,l.pr,l.rp,l.ni,l.cl.up rfl (YA _) (YA _) λ_ J=>J,l.hg⟩;exact x7.TT hn
def ZnC{ds:L Yb}(h:XE F B f c a K D E ds G H g I z e)(x:B<=1000)(w:∀j p t,E.2.2.2.2.1=some j->z[j]?=some p->ZAV Wa D p->PI S4 p->RG p.2.2.2.1 t->p.2.2.1.2.2.1.length<8->p.2.2.2.2.2.2=0->F D (Uj t p.2.2.2.2.2.1)):W (M5 E ds z e) λo=>∃m,XE F (B+1) f c a K m o.1 o.2.1 G H g I o.2.2.1 o.2.2.2.1/\V0 F D E z m o.1 o.2.2.1:=by
 unfold M5;obtain b|⟨j,b⟩:=C9 E.2.2.2.2.1;·rw[Hc b];exact Zb ⟨D,h.up Y,V0.same rfl⟩
 ·obtain⟨x1,x3,fd,q1,q2,q3⟩:=h.pr;obtain⟨p,d,r2,s,y⟩:=q3 j b;obtain⟨-,hn,⟨X,Z⟩,-⟩:=id h.cb;rw[V1 b,gt d];refine Zn ((xz X Y Y Z ⟨hn.1,Y⟩).mono λt ht=>?_);rw[V1 b,gt d,be Oc];refine Zr ⟨λU=>?_,λU=>?_⟩
  ·rw[V1 b,gt d];refine Zn ((nu s).mono λl hs=>?_);obtain⟨⟨sg,s1,i⟩,-⟩:=hs;have V:PI S4 l.1:=by rw[i];exact⟨s1,s.2⟩
   have hm:ZAV Wa D p->ZAV Wa D l.1:=λk=>by rw[i];exact k
   have v:XE F B f c a K D E ds G H g I (z.set j l.1) e:=h.cr (h.pr.put b d (by rw[i]) V hm);refine Zr ⟨λ_=>Zb ⟨D,v.up Y,V0.put rfl b d RX.refl ⟨[],[],by rw[i];simp,by rw[i];simp⟩⟩,λ_=>?_⟩;rw[V1 b,gt (X0 d)];have:=ZiW (t:=V3 t l.2.1.1.2.1) v b (X0 d) x (λm1 n q r=>by have:=w j p (V3 t l.2.1.1.2.1) b d y s (by rw[i]at n;exact n) (by rw[i]at q;exact q) (by rw[i]at r;exact r);rw[i];exact this) λ_ _ _ k u=>by rw[u];exact k
   refine this.mono λo ho=>?_;obtain⟨m,P,Q,R⟩:=ho;refine⟨m,P,Q,λj' p' S T=>?_⟩;obtain x0|⟨x2,p1,N,O,A,C,J,M⟩:=R j' p' S T;·exact .inl x0
   ·rw[b]at A;cases A;rw[X0 d]at C;cases C;rw[i]at J M;exact .inr ⟨j,p,N,O,b,d,J,M⟩
  ·rw[V1 b,gt d];exact ZiW (t:=t) h b d x (λm1 n q r=>w j p t b d y s n q r) λ_ _ _ k u=>by rw[u];exact k
def Rs.set{a}{j}{x}(h:Rs G a B c)(k:G[j]?=some N)(o:N.1.1=some f)(p:B≠f):Rs (G.set j x) a B c:=λl g=>by
 have⟨m,b,d⟩:=h _ g;have i:j≠l:=λe=>by subst e;rw[k]at b;have n:=d.1.1;simp_all
 exact⟨m,by rw[Ly i];exact b,d⟩
def Rs.put{x}(b:h=some c)(d:G[c]?=some N)(hx:RI 900 B f x):Rs (G.set c x) h B f:=λe a=>by rw[b]at a;cases a;exact⟨x,X0 d,hx⟩
def Qx.put{d'}{ds:L Yb}(a:ds[B]?=some k)(h:DI 900 (100000*f) d'):Qx (ds.set B d') B f:=⟨d',X0 a,h⟩
def XE.rep{o:Nat}{ds:L Yb}(h:XE F B f c o K D E ds G H g I z e){i j:Nat}{a}{r:YY}(hi:E.2.2.2.2.2.1[i]?=some a)(n:a=some j):∃k d r,f≠k/\(k=c\/k=o)/\ds[k]?=some d/\DI 900 (100000*B) d/\G[j]?=some r/\RI 900 k B r/\∀T' d' x,B<=T'->DI 900 (100000*T') d'->RI 900 k T' x->XE F T' f c o K D E (ds.set k d') (G.set j x) H g I z e:=by
 obtain⟨q,s,t,C,J⟩:=h.rp;obtain⟨y,A,p⟩:=h.ne;have w:∀{k:Nat}{d':Yb},f≠k->L4 F (ds.set k d') z E.2.2.2.2.1 f K D:=λ{k d'}N=>by obtain⟨d,O,M,P,Q,R⟩:=h.pr;exact⟨d,O,M,by rw[Ly (Gb N)];exact P,Q,R⟩
 rw[t]at hi;match i,hi with|0,hi=>have hi:q=a:=X9 hi;subst hi;obtain⟨r,l,m⟩:=C j n;obtain⟨d,d1,d2⟩:=h.d1;refine⟨c,d,r,y,.inl rfl,d1,d2,l,m,λT' d' x b u v=>⟨h.cb.up b,h.dv,h.ne,Qx.put d1 u,(h.d2.set p).up b,w y,⟨q,s,t,Rs.put n l v,(J.set l m.1.1 (Gb p)).up b⟩,h.ni,h.cl,by have:=h.hg;omega⟩⟩|1,hi=>have hi:s=a:=X9 hi;subst hi;obtain⟨r,l,m⟩:=J j n;obtain⟨d,d1,d2⟩:=h.d2;refine⟨o,d,r,A,.inr rfl,d1,d2,l,m,λT' d' x b u v=>⟨h.cb.up b,h.dv,h.ne,(h.d1.set (Gb p)).up b,Qx.put d1 u,w A,⟨q,s,t,(C.set l m.1.1 p).up b,Rs.put n l v⟩,h.ni,h.cl,by have:=h.hg;omega⟩⟩|i+2,hi=>cases hi
def ZlB(h:E.2.2.2.2.2.1.length=2):W (i9 E p) λa=>a=none\/∃k:Nat,p=k/\k<2/\E.2.2.2.2.2.1[k]?=some a:=by refine Yu (λb=>b=false->0<=p/\p<2) (λ_=>Zb λc=>by cases c) (λd=>Zb λc=>Zp) λb f=>Zr ⟨λ_=>Zb (.inl rfl),λd=>?_⟩;·have:=f d;refine XC ⟨Xk,Zn (YN ⟨Y,λa e=>Zb (.inr ⟨p.toNat,Y,Y,e⟩)⟩)⟩
def XE.rl{ds:L Yb}(h:XE F B f c a K D E ds G H g I z e):E.2.2.2.2.2.1.length=2:=by obtain⟨d,i,b,-⟩:=h.rp;rw[b];rfl
def ZnG{ds:L Yb}(h:XE F B f c a K D E ds G H g I z e)(V:B<=1000):W (xE E G e p) λo=>XE F (B+1) f c a K D o.1 ds o.2.1 H g I z o.2.2.1/\o.1.2.2.2.2.1=E.2.2.2.2.1:=by
 obtain⟨-,J,⟨A,C⟩,-⟩:=id h.cb;unfold xE;refine Zn ((ZlB h.rl).mono λq y=>?_);obtain rfl|⟨Z,i⟩:=C9 q;·rw[Hc rfl];exact Zb ⟨h.up Y,rfl⟩
 obtain⟨x1,v,T,w⟩:=y.resolve_left (by rw[i];simp);obtain⟨x0,s,r,-,-,t,u,m,P,x⟩:=h.rep (r:=(default:YY)) w i;rw[V1 i,gt m,v,wS Y];refine Zn ((xz A Y Y C ⟨J.1,Y⟩).mono λx2 X=>?_);rw[V1 i,gt m];refine Zn ((Zmb P Y).mono λQ k=>?_);have j:=x (B+1) s Q.1 Y (u.le Y) k.1;rw[<-OU t]at j;refine Yu (λo=>∃b d,o.2.1=wN E b/\o.1=e++d/\NI b (e++d)) (λ_=>Zn ((Jr h.ni Y k.2).mono λx3 M=>Zb ?_)) (λ_=>Zb ⟨nt E,[],rfl,Zc,by simpa using h.ni⟩) λo⟨b,d,l,N,O⟩=>Zn (Do.mono λU _=>Zb ?_);·obtain⟨b,d,R,n,S⟩:=M.1;exact⟨b,d,R,n,by rw[<-n];exact S⟩
 ·refine⟨?_,by show o.2.1.2.2.2.2.1=_;rw[l];rfl⟩;rw[l,N];exact j.TT O
def dW(n i):YQ (List.replicate n Un) i=List.replicate 128 0#8:=by
 unfold YQ;have:(List.replicate n Un).getD i Un=Un:=by rw[Rm,Zbi];split<;>rfl
 simp_all
def ZaW(i):(List.replicate 128 0#8).getD i 0#8=0#8:=by rw[Rm,Zbi];split<;>rfl
def Zb4:Sv (List.replicate 900 Un) 0 1 [] 0 1#32:=by
 refine⟨⟨λa=>(a rfl).elim,λ_=>rfl,λd _ _ i c e=>?_⟩,⟨rfl,rfl⟩,aL (kX _) λ_=>?_,kX _,Y,λd _ _=>?_⟩;·rw[dW]at c;obtain⟨j,a,-,f⟩:=ZiR (b:=List.replicate 128 0#8) Zc;rw[c]at a;cases a;obtain⟨g,h⟩:=f e;refine(g ?_).elim;rw[h,vR Zc];rfl
 ·rw[dW];exact⟨Zp,Zc,YI⟩
 ·rw[dW];exact⟨λd _=>⟨ZaW _,ZaW _⟩,YI,by rw[ZaW];decide⟩
def Zwg{ds}{rs}{Tc}{a b}(l:ds[B]?=some k)(f:DI 900 0 k)(y:Tc.length<=100000)(j:k.2.2.2.1<0)(i:k.2.2.2.2=false)(h:Sv k.1 0 1 [] 0 1#32):W (zx ds rs (some B) Tc a b) λo=>o.2.2.2=0:=by
 unfold zx;refine Zn ((ZaD l f Y Y Y).mono λv n=>?_);obtain⟨x,z,A,C,D,E,F,-,s⟩:=n;obtain⟨t,u,G,H,w⟩:=s 0 [] 0 1#32 rfl Y (Ok (by have:=f.2.2.2;omega)) j i h;refine Zr ⟨λc=>by rw[t]at c;simp only[Wx]at c,λ_=>Xi ⟨by simp only[Wx];omega,?_⟩⟩;rw[show I4 zH=some (zH,[],[],[],[])from rfl,bs,u];have m:W (zy []) λo=>o.1.1=false/\o.2.1=0/\o.2.2=true:=by unfold zy;refine WM (W.VQ (λd=>d.1=0/\d.2.1=0/\d.2.2.2.2.1=false) (λd=>d.1=0/\d.2.2.2.2.1=false) (λd=>0) (λ_=>False) ⟨rfl,rfl,rfl⟩ Zc (λd e=>Zr ⟨λc=>?_,λ_=>Zb ⟨e.1,e.2.2⟩⟩) (λd e=>Zb ⟨e.2,e.1,rfl⟩) λ_ g=>g.elim);simp_all
 refine Zn (m.mono λo⟨p,q,r⟩=>Zr ⟨λc=>by rw[r]at c;simp only[Wx]at c,λ_=>Zr ⟨λc=>(by rw[p]at c;cases c),λ_=>Zr ⟨λc=>by rw[q]at c;simp only[Wx,W6]at c;omega,λ_=>?_⟩⟩⟩);·rw[V1 w,be Mt];exact Zb rfl
def wj{Q}(w:p≠4/\¬(9<=p/\p<=13)/\p≠16/\0<=p/\p<=15)(m:p=0->W (Qk s C.2.1) Q)(h1:p=1->W (Qk s C.2.2.1) Q)(h2:p=2->W (Qk s C.2.2.2.1) Q)(q:p=3->W (Qk s C.2.2.2.2.1) Q)(r:p=5->W (DM s C.2.2.2.2.2.2.1) Q)(t:p=6->W (Lj s C.2.2.2.2.2.2.2.1) Q)(u:p=7->W (Lj s C.2.2.2.2.2.2.2.2.1) Q)(v:p=8->W (Fi s C.2.2.2.2.2.2.2.2.2.1) Q)(n:p=14->W (A7 s C.2.2.2.2.2.2.2.2.2.2.2.2.2.2.2.1) Q)(o:p=15->W (A8 s C.2.2.2.2.2.2.2.2.2.2.2.2.2.2.2.2.1) Q):W (SW s C p) Q:=by have c:∀{i:Zg ZP},W i Q->W (O i λd=>some (d,C)) λj=>Q j.1:=λg=>Zn (g.mono λd y=>Zb y);refine W.Zs _ ?_ λj x=>Zb x;have b:∀{k d:Int}{h:Prop},Zw k d=true->(k=d->h)->h:=λa g=>g (by rwa[Ur]at a);obtain⟨l,f,A,-,z⟩:=id w;refine Zr ⟨λa=>c (b a m),λB=>jn (λa=>c (b a h1)) λD=>jn (λa=>c (b a h2)) λG=>jn (λa=>c (b a q)) λH=>jn (λa=>b a λe=>(l e).elim) λ_=>jn (λa=>c (b a r)) λI=>jn (λa=>c (b a t)) λJ=>jn (λa=>c (b a u)) λK=>jn (λa=>c (b a v)) λL=>jn Zp λ_=>jn (λa=>b a λe=>(f Y).elim) λ_=>jn (λa=>b a λe=>(f Y).elim) λ_=>jn Zp λ_=>jn (λa=>b a λe=>(f Y).elim) λ_=>jn (λa=>c (b a n)) λE=>jn (λa=>c (b a o)) λF=>?_⟩;grind
def Hh(c:0<=p)(h1:p<2147483648)(e:A.length<=1000000):Qk (A,false) p=some (A++w4 (Yl 32 p),false):=by refine Vp (Yu (λa=>a=false) (λb=>Zp) (λb=>Zb<|Zp) λa d=>Zr ⟨Zp,λ_=>by rw[be (NN Y)];exact Zb rfl⟩)
theorem ZoD(c:0<=p)(h1:p<=13)(e:A.length<=1000000):DM (A,false) p=some (A++[BitVec.ofNat 8 p.toNat],false):=by
 refine Vp (Yu (λa=>a=false) (λb=>?_) (λb=>Zb ?_) λa d=>Zr ⟨Zp,λ_=>?_⟩);·grind
 ·grind
 ·rw[be (yc (k:=BitVec.ofNat 8 p.toNat) Zp Y)];exact Zb rfl
def ZpA{s}{b}(h:Kj s.1=some (b,0))(a:b.length<=100)(hs:s.2.length<=8192)(c:A.length<=1000000):Fi (A,false) s=some (A++b++RC s.2,false):=by unfold Fi;rw[be h];refine Vp (Zr ⟨Zc,λ_=>?_⟩);rw[be (Ek Zp),be (kv Zp hs)];exact Zb rfl
def ZwM(d:A.length<=1000000):W (A7 (A,false) []) λr=>r=(A++Xf (BitVec.ofInt 64 (0:Nat)) 2,false):=by have:=ZaK (l:=A) (n:=0) Y Zc;change W (O (Oh _ (0:Nat)) _) _;rw[be this];refine Zn (W.lp (λa=>a=(0,(A++Xf _ 2,false))) (λ_=>0) rfl Zc (λa b=>Zr ⟨λc=>?_,λ_=>Zb b⟩) λa b=>Zb Zp);grind
def Zq5(d:A.length<=1000000):W (A8 (A,false) []) λr=>r=(A++Xf (BitVec.ofInt 64 (0:Nat)) 2,false):=by have:=ZaK (l:=A) (n:=0) Y Zc;change W (O (Oh _ (0:Nat)) _) _;rw[be this];refine Zn (W.lp (λb=>b=(0,(A++Xf _ 2,false))) (λ_=>0) rfl Zc (λb a=>Zr ⟨λc=>?_,λ_=>Zb a⟩) λb a=>Zb (by rw[a]));grind
def ZoY:Mm 5=some [0,1,8,14,15]:=by exact Vp (Zr ⟨Zc,λ_=>Zr ⟨Zc,λ_=>Zr ⟨Zc,λ_=>Zr ⟨Zc,λ_=>Zr ⟨λ_=>Zb rfl,Zc⟩⟩⟩⟩⟩)
def ZkW{m}(B:m.1=5)(h1:0<=m.2.1/\m.2.1<2147483648)(h2:0<=m.2.2.1/\m.2.2.1<2147483648)(z:Kj m.2.2.2.2.2.2.2.2.2.1.1=some (A,0))(w:A.length<=100)(hs:m.2.2.2.2.2.2.2.2.2.1.2.length<=5000)(e:m.2.2.2.2.2.2.2.2.2.2.2.2.2.2.2.1=[])(C:m.2.2.2.2.2.2.2.2.2.2.2.2.2.2.2.2.1=[]):W (UP m) λo=>o.2=0/\o.1.length<=20000:=by
 unfold UP;rw[B,be ZoY];refine Zr ⟨λh=>by simp[Fz]at h,λ_=>?_⟩;rw[be (yc (x:=5) (k:=5#8) rfl Zc)];refine Zn (W.Tl (λd=>∃(b:Nat)(c:Zt),d.1=b/\b<=5/\d.2.1=m/\d.2.2=(c,false)/\c.length<=1+6000*(if b<=2then 0 else 1)+4*b) (λd=>∃c:Zt,d.2.2=(c,false)/\c.length<=20000) (λd=>(5-d.1).toNat) ⟨0,_,rfl,Y,rfl,rfl,Zc⟩ ZB (λd q=>?_) λd q=>?_)
 ·obtain⟨K,g,M⟩:=d;obtain⟨b,c,j,r,s,t,f⟩:=q;dsimp only at j s t;subst j s t;have J:c.length<=7000:=by split at f<;>omega
  refine Zr ⟨λh=>?_,λ_=>Zb ⟨c,rfl,Y⟩⟩;simp only[Wx,Wl,W6]at h;have I:b<5:=Y;rw[wS ZB];have i:∀(p:Int)(H:ZP->Prop),([0,1,8,14,15]:L Int)[b]?=some p->W (SW (c,false) g p) (λn=>∃l,n=(l,false)/\l.length<=1+6000*(if b+1<=2then 0 else 1)+4*(b+1))->W (O (ZF ([0,1,8,14,15]:L Int) (b:Int)) λu=>O (Fv g u) λF=>Zf F (some (.brk ((b:Int),g,(c,false)))) (O (SW (c,false) g u) λG=>some (.next ((b:Int)+1,g,G)))) (LQ (λd:Int×Yy×ZP=>∃(b:Nat)(c:Zt),d.1=b/\b<=5/\d.2.1=g/\d.2.2=(c,false)/\c.length<=1+6000*(if b<=2then 0 else 1)+4*b) (λd=>(5-d.1).toNat) (5-(b:Int)).toNat (λd=>∃c:Zt,d.2.2=(c,false)/\c.length<=20000) λ_:Empty=>True):=λp _ y v=>by rw[be (Sy (MH _) (by rw[WL];exact y))];refine Zn (aM.mono λN _=>Zr ⟨λ_=>Zb ⟨c,rfl,Y⟩,λ_=>Zn (v.mono λn e=>Zb ?_)⟩);obtain⟨l,D,E⟩:=e;exact⟨⟨b+1,l,rfl,Y,rfl,D,E⟩,ZB⟩
  obtain rfl|rfl|rfl|rfl|rfl:=(by omega:b=0\/b=1\/b=2\/b=3\/b=4);·refine i 0 (λ_=>True) rfl (wj Y (λ_=>?_) (λa=>Y) (λa=>Y) (λa=>Y) (λa=>Y) (λa=>Y) (λa=>Y) (λa=>Y) (λa=>Y) λa=>Y);rw[Hh h1.1 h1.2 Y];exact Zb ⟨_,rfl,by rw[YM,UD];simpa using f⟩
  ·refine i 1 (λ_=>True) rfl (wj Y (λa=>Y) (λ_=>?_) (λa=>Y) (λa=>Y) (λa=>Y) (λa=>Y) (λa=>Y) (λa=>Y) (λa=>Y) λa=>Y);rw[Hh h2.1 h2.2 Y];refine Zb ⟨_,rfl,?_⟩;rw[YM,UD];simp at f⊢;omega
  ·refine i 8 (λ_=>True) rfl (wj Y (λa=>Y) (λa=>Y) (λa=>Y) (λa=>Y) (λa=>Y) (λa=>Y) (λa=>Y) (λ_=>?_) (λa=>Y) λa=>Y);rw[ZpA z w Y Y];refine Zb ⟨_,rfl,?_⟩;rw[YM,YM,zF];simp at f⊢;omega
  ·refine i 14 (λ_=>True) rfl (wj Y (λa=>Y) (λa=>Y) (λa=>Y) (λa=>Y) (λa=>Y) (λa=>Y) (λa=>Y) (λa=>Y) (λ_=>?_) λa=>Y);rw[e];refine(ZwM Y).mono λn e=>⟨_,e,?_⟩;rw[YM,Va];simp at f⊢;omega
  ·refine i 15 (λ_=>True) rfl (wj Y (λa=>Y) (λa=>Y) (λa=>Y) (λa=>Y) (λa=>Y) (λa=>Y) (λa=>Y) (λa=>Y) (λa=>Y) λ_=>?_);rw[C];refine(Zq5 Y).mono λn e=>⟨_,e,?_⟩;rw[YM,Va];simp at f⊢;omega
 ·obtain⟨c,j,r⟩:=q;rw[j,be (Ig Y)];exact Zr ⟨λh=>by simp only[Wx]at h,λ_=>Zb ⟨rfl,r⟩⟩
def Zxh{h}:W (QI (h,[],[],[],[]) []) λr=>r.2=0/\r.1.2.1=[]:=by
 unfold QI;refine Zr ⟨Zc,λ_=>WM (W.VQ (λa=>a=([],0)) (λa=>a=([],0)) (λ_=>0) (λ_=>False) rfl Zc (λa b=>Zr ⟨λd=>Zp,λ_=>Zb b⟩) (λa b=>?_) λ_ e=>e.elim)⟩
 ·subst b;have c:W (Mg (h,[],[],[],[]) (Zm (Zv (Zi (Zj ([]:L qu))) 1)) []) λd=>d.2=true/\d.1=([],[]):=by unfold Mg;refine WM (W.VQ (λa=>a.1=0/\a.2.2.1=([],[])) (λa=>a.2.2.1=([],[])) (λ_=>0) (λ_=>False) ⟨rfl,rfl⟩ Zc (λa b=>Zr ⟨λd=>?_,λ_=>Zb b.2⟩) (λa b=>Zb ⟨rfl,b⟩) λ_ e=>e.elim);grind
  refine Zn (c.mono λd c=>Zr ⟨λf=>by rw[c.1]at f;simp only[Wx]at f,λ_=>?_⟩);rw[show MD ([]:VB)=some _ from rfl,bs];have g:W (GX (h,[],[],[],[]) []) λi=>i=((h,[],[],[],[]),-1,0):=by unfold GX;rw[show Aq (h,[],[],[],[])=some (-1)by unfold Aq;exact Vp (Zr ⟨λ_=>Zb rfl,Zc⟩),bs];refine WM (W.VQ (λa=>a=(-1,0,(h,[],[],[],[]))) (λa=>a=(-1,0,(h,[],[],[],[]))) (λ_=>0) (λ_=>False) rfl Zc (λa b=>Zr ⟨λd=>?_,λ_=>Zb b⟩) (λa b=>Zb (by rw[b])) λ_ e=>e.elim);grind
  refine Zn (g.mono λi g=>?_);subst g;refine Zr ⟨λf=>by simp only[Wx]at f,λ_=>Zn ((xB Gv (by show(-1:Int)<=-1;omega) Zc (by rw[c.2];rfl) (by rw[c.2];simp) (by rw[c.2];exact⟨Zc,Zc⟩) (by rw[c.2];simp) Zc).mono λr j=>Zb ⟨rfl,?_⟩)⟩;grind
def ZwN{e}(h:Vz b)(i:b.2.1=[]):W (Ap b e) λr=>r=[]:=by
 have o:=h.2.1;unfold Ap;refine Zn (wB.mono λk l=>Zr ⟨λ_=>Zb rfl,λg=>?_⟩);have p:=l.1 (by simpa only[Wx]using g);rw[show Zm (ZX e 1)=e-1by simp only[Wx];rw[ZK Y]];refine XC ⟨by simp only[Wx];omega,Zn (YN ⟨Y,λt q=>XC ⟨by simp only[Wx];omega,Zn (YN ⟨Y,λu s=>?_⟩)⟩⟩)⟩;rw[i];unfold qw;refine Zn (Zn (Fa.mono λr _=>Uz (λ_=>Zb trivial) (λ_=>Zb trivial) λk=>Zr ⟨λ_=>Zb (Zb rfl),λ_=>Zn ((Zf4 (f:=[]) (by have:=h.1;rwa[i]at this)).mono λc m=>?_)⟩));have n:c=[]:=by cases c with|nil=>rfl|cons j c=>have:=m.2 j Zc;simp at this;omega
 subst n;rw[show F1 []=some []by unfold F1;simp,bs];refine Zn (W.lp (λd=>d=([],0)) (λ_=>0) rfl Zc (λd a=>Zr ⟨λg=>?_,λ_=>Zb a⟩) λd a=>Zb (Zb (by rw[a])));grind
def Pw(c:Z5)(a:Zg Nat):Z5:=(c.1,c.2.1,c.2.2.1,c.2.2.2.1,a,c.2.2.2.2.2)
def KD(c:Z5)(l:L (Zg Nat)):Z5:=(c.1,c.2.1,c.2.2.1,c.2.2.2.1,c.2.2.2.2.1,l,c.2.2.2.2.2.2)
def ZkV:ct=some 0:=rfl
def Zgc{c}{ds}{rs}{ps}(M:ds[f]?=some k)(K:DI 900 B k)(hC:B<80000000)(hv:c.2.2.2.1[0]?=some (some f))(J:c.1=QE)(hs:(sl c).length<=1000000):W (Kb c ds rs ps 0) λo=>∃d' a b,o.1=SD (Pw c a) (sl c++b)/\b.length<=8-(sl c).length/\o.2.1=ds.set f d'/\o.2.2.1=rs/\DI 900 (B+1) d'/\(o.2.2.2.1=ps/\a=none/\¬o.2.2.2.2=0\/∃p,o.2.2.2.1=ps++[p]/\a=some ps.length/\o.2.2.2.2=0/\PI S4 p/\VW 900 f p.1/\p.2.2.2.2.2=([],0))/\(k.2.2.2.1<0->k.2.2.2.2=false->d'.2.2.2=k.2.2.2)/\∀g R n m,g<250->k.2.2.1=[]->k.2.2.2.1<0->k.2.2.2.2=false->Sv k.1 g (g+1) R n m->d'.2.2.1=[]/\Sv d'.1 (g+1) (g+1) R n m/\(∀p,o.2.2.2.1=ps++[p]->p.1=HQ f (g+1) n false/\UU (s0 Wa) R (UB p))/\∀s',NY (s0 Wa) R s'->o.2.2.2.2=0:=by
 have U:=(X8 hv).1;unfold Kb;refine Zr ⟨λ_=>XC ⟨by simp only[Wx];omega,?_⟩,λg=>by rw[M9]at g;exact absurd rfl g⟩;rw[be (Sy (i:=0) Y hv),show c.1.2.2.2.2.2=(1,2,3,Wa)by rw[J];rfl];refine Zn ((ZrH (seed:=Wa) M K Y Y Y).mono λo⟨d',D,E,N,F,G⟩=>?_);have C:∀(h:Nat),h<=8->W (YE (λ(d:Z5)=>Zf (ZC (Zi (Zj d.2.2.2.2.2.2.2.2.2.2.2)) (h:Int)) (Yt (Zj d.2.2.2.2.2.2.2.2.2.2.2) (Zj [d.2.1]) (some (LR.next (ρ:=Empty) (d.1,d.2.1,d.2.2.1,d.2.2.2.1,d.2.2.2.2.1,d.2.2.2.2.2.1,d.2.2.2.2.2.2.1,d.2.2.2.2.2.2.2.1,d.2.2.2.2.2.2.2.2.1,d.2.2.2.2.2.2.2.2.2.1,d.2.2.2.2.2.2.2.2.2.2.1,Ye d.2.2.2.2.2.2.2.2.2.2.2 [d.2.1])))) (some (.brk d))) (Pw c o.2.2.1)) λe=>∃b,e=SD (Pw c o.2.2.1) (sl c++b)/\b.length<=8-(sl c).length:=λh T=>by
  refine W.lp (λe=>∃b,e=SD (Pw c o.2.2.1) (sl c++b)/\b.length<=8-(sl c).length) (λe=>8-(sl e).length) ⟨[],by rw[XX];rfl,Zc⟩ Y (λe w=>?_) λe w=>w;obtain⟨b,rfl,I⟩:=w;refine Zr ⟨λg=>?_,λ_=>Zb ⟨b,rfl,I⟩⟩;have g:(sl c++b).length<h:=by have:ZC (((sl c++b).length:Nat):Int) (h:Int)=true:=g;simp only[Wx]at this;omega
  rw[YM]at g;refine Xi ⟨by show(sl c++b).length+1<=_;rw[YM];omega,Zb ⟨⟨b++[c.2.1],?_,XV⟩,?_⟩⟩;·show SD (Pw c o.2.2.1) (sl c++b++[c.2.1])=_;rw[Yc]
  ·show 8-(sl c++b++[c.2.1]).length<8-(sl c++b).length;simp only[YM,VJ];omega
 obtain⟨l,j,x⟩|⟨p,l,j,x,y,Q,S⟩:=N
 ·refine Zn (W.mono (P:=λe=>∃b,e=SD (Pw c o.2.2.1) (sl c++b)/\b.length<=8-(sl c).length) ?_ λe⟨b,z,A⟩=>?_);·have:=C 0 Y;rw[j]at this⊢;simp only[Mq,ZkV,bs];exact this
  ·refine Zb ⟨d',o.2.2.1,b,z,A,D,rfl,E,.inl ⟨l,j,x⟩,F,λg R n m q r s t u=>G g R n m rfl q r s t u⟩
 ·refine Zn (W.mono (P:=λe=>∃b,e=SD (Pw c o.2.2.1) (sl c++b)/\b.length<=8-(sl c).length) ?_ λe⟨b,z,A⟩=>?_);·have:=C p.2.2.1.2.2.1.length (by have:=y.2.2.2.1;have:=y.2.2.1;omega);have L:∀{H:Type}{v:Yz->Zg H},O (ZF o.2.1 (Zi ps.length)) v=v p:=λ{H v}=>gt (by rw[l];simp);rw[j]at this⊢;simp only[Mq,L,Oc,bs];exact this
  ·refine Zb ⟨d',o.2.2.1,b,z,A,D,rfl,E,.inr ⟨p,l,j,x,y,Q,S⟩,F,λg R n m q r s t u=>G g R n m rfl q r s t u⟩
def Zge{i}{c}{ds}{rs}{ps}(hi:i=0\/i=1)(e:ds[f]?=some k)(d:DI 900 B k)(hC:B<80000000)(hv:c.2.2.2.1[i+1]?=some (some f))(n:c.2.2.2.2.2.1.length=2)(u:c.2.2.2.2.2.2.2.1.length<=1000):W (Kb c ds rs ps (i+1:Nat)) λo=>∃d' a,o.1=KD c (c.2.2.2.2.2.1.set i a)/\o.2.1=ds.set f d'/\o.2.2.2.1=ps/\DI 900 (B+6000) d'/\(o.2.2.1=rs/\a=none\/∃r,o.2.2.1=rs++[r]/\a=some rs.length/\RI 900 f 0 r)/\(B=0->k.2.2.2.1<0->k.2.2.2.2=false->Sv k.1 0 1 [] 0 1#32->o.2.2.2.2=0):=by
 have v:=(X8 hv).1;unfold Kb;refine Zr ⟨λg=>by rw[Ur]at g;omega,λ_=>XC ⟨by simp only[Wx];omega,?_⟩⟩;rw[be (Sy Y (by rw[WL];exact hv))];refine Zn ((Zwh (rs:=rs) (a:=0) e d Y Y Y Y).self.mono λo⟨x,d',p,q,s⟩=>?_);rw[show Zm _=(i:Int)by simp only[Wx];rw[ZK Y];omega];refine XC ⟨by simp only[Wx];rw[n];omega,Zb ⟨d',o.2.2.1,?_,p,rfl,q,s,λh j l m=>?_⟩⟩;·show KD c _=_;rw[show Yo (i:Int)=i from WL i]
 ·subst h;obtain⟨w,t,y⟩:=Zwg (rs:=rs) (Tc:=c.2.2.2.2.2.2.2.1) (a:=0) (b:=((i+1:Nat):Int)) e d Y j l m;grind
def ZlR:W (nO C) λo=>o.2=false:=⟨_,rfl,rfl⟩
def ZcG:nL C=some []:=rfl
def Zio{c}{l}(h:NI (nt c) D)(B:l.length<=100)(s:∀m∈l,MO m):W (YE (λb=>Zf (ZC b.1 (Zi (Zj l))) (O (ZF l b.1) λw=>O (RU b.2.2 b.2.1 w) λf=>some (LR.next (Zm (Zv b.1 1),f.2,f.1))) (some (.brk b))) (0,D,c)) λu=>∃n x,u.2.2=wN c n/\u.2.1=D++x/\NI n (D++x)/\(l=[]->u=(0,D,c)):=by refine W.lp (λu=>∃(a:Nat)(n:Nj)(x:L Zt),u.1=a/\a<=l.length/\u.2.2=wN c n/\u.2.1=D++x/\NI n (D++x)/\(l=[]->u=(0,D,c))) (λu=>(l.length-u.1).toNat) ⟨0,nt c,[],rfl,Y,rfl,Zc,by simpa using h,λ_=>rfl⟩ Y (λu d=>?_) λu⟨a,n,x,d⟩=>⟨n,x,d.2.2⟩;obtain⟨C,E,F⟩:=u;obtain⟨a,n,x,j,k,o,p,e,q⟩:=d;subst j o p;refine Zr ⟨λr=>?_,λ_=>Zb ⟨a,n,x,rfl,k,rfl,rfl,e,q⟩⟩;simp only[Wx]at r;refine Zn (YN ⟨Y,λm t=>?_⟩);rw[wS Y];refine Zn ((xG (c:=wN c n) e (s m (X2 t))).mono λG⟨v,y,z,g,i⟩=>Zb ?_);rw[g,Yc]at i;refine⟨⟨a+1,v,x++y,rfl,Y,by rw[z];rfl,by rw[g,Yc],i,λA=>?_⟩,ZB⟩;simp_all
def ZAf{ds:L Yb}{bs:L Zt}(h:XE F B f c a K D E ds G H g I z bs)(J:Qi C):W (IY E z bs C) λo=>XE F B f c a K D o.1 ds G H g I o.2.1 o.2.2/\V0 F D E z D o.1 o.2.1:=by
 unfold IY;obtain d|⟨e,d⟩:=C9 E.2.2.2.2.1;·rw[Hc d];refine Zn (ZlR.mono λb r=>?_);rw[r,Xp,Go.R.bs];dsimp only;rw[Hc d,ZcG,Go.R.bs];refine Zn ((Zio h.ni Zc Zc).mono λP s=>Zb ?_);obtain⟨i,m,k,w,x,-⟩:=s;exact⟨by rw[k,w];exact h.TT x,V0.same (by rw[k];rfl)⟩
 ·rw[V1 d,V1 d];obtain⟨x3,i,fd,q1,q2,Z⟩:=id h.pr;obtain⟨p,j,r2,r3,r4⟩:=Z e d;rw[gt j];refine Zn ((dR r3 J).mono λb r=>?_);obtain⟨u,s2,-,s3,-⟩:=r;have n:b.1.1=p.1/\b.1.2.2.1=p.2.2.1/\b.1.2.2.2.1=p.2.2.2.1/\(ZAV Wa D p->ZAV Wa D b.1):=by
   obtain q|⟨x0,q⟩:=s2;·rw[q];exact⟨rfl,rfl,rfl,id⟩
   ·rw[q];exact⟨rfl,rfl,rfl,λt=>t⟩
  refine Yu (λo=>∃i m,o.2.1=wN E i/\o.1=bs++m/\NI i (bs++m)) (λ_=>Zn ((xG h.ni s3).mono λx4 V=>Zb ?_)) (λ_=>Zb ⟨nt E,[],rfl,Zc,by simpa using h.ni⟩) λo T=>?_;·obtain⟨i,m,z1,Q,z3⟩:=V;exact⟨i,m,z1,Q,by rw[<-Q];exact z3⟩
  ·obtain⟨M,x1,N,X,O⟩:=T;have R:XE F B f c a K D E ds G H g I (z.set e b.1) bs:=h.cr (h.pr.put d j n.1 u n.2.2.2);have A:=R.TT O;have y:o.2.1.2.2.2.2.1=some e:=by rw[N];exact d
   rw[V1 y,V1 y,gt (X0 j)];refine Zn ((dQ u J).mono λv U=>?_);obtain⟨⟨sg,v1,l⟩,v3,v4,-⟩:=U;rw[N,X];refine Zn ((Zio (c:=wN E M) O Y v3).mono λP s=>Zb ?_);obtain⟨n2,x2,k,w,x,-⟩:=s;have S:XE F B f c a K D (wN E M) ds G H g I ((z.set e b.1).set e v.1) (bs++x1):=A.cr (A.pr.put (p:=b.1) d (X0 j) (by rw[l]) (by rw[l];exact⟨v1,u.2⟩) λt=>by rw[l];exact t);refine⟨by rw[k,w];exact S.TT x,?_⟩;show V0 F D E z D P.2.2 (List.set (List.set z e b.1) e v.1);rw[T6];exact V0.put (by rw[k];rfl) d j RX.refl ⟨[],[],by rw[l];show b.1.2.2.1.2.2.1=_;rw[n.2.1];simp,by rw[l];show b.1.2.2.2.1=_;rw[n.2.2.1];simp⟩
def ZAh(h:NI (nt E) D):W (qq E D C) λo=>∃n x,o.1=wN E n/\o.2=D++x/\NI n (D++x):=by have a:∃n x,E=wN E n/\D=D++x/\NI n (D++x):=⟨nt E,[],rfl,Zc,Xk⟩;refine Zr ⟨λ_=>Zn (W.mono ⟨_,rfl,Qg Zc⟩ λf b=>Yu _ (λ_=>Zn ((xG h b).mono λg⟨n,x,d,e,i⟩=>Zb ⟨n,x,d,e,Xk⟩)) (λ_=>Zb a) λo c=>Zb c),λ_=>Zn (W.mono (P:=λ_=>True) ⟨_,rfl,Zc⟩ λ_ _=>Zb a)⟩
def ZnQ{ds:L Yb}(h:XE F B f c a K D E ds G H g I z e)(hT:B<=400):W (Jp E ds G H g I z e p) λo=>XE F (B+1) f c a K D o.1 o.2.1 o.2.2.1 o.2.2.2.1 o.2.2.2.2.1 o.2.2.2.2.2.1 o.2.2.2.2.2.2.1 o.2.2.2.2.2.2.2.1/\V0 F D E z D o.1 o.2.2.2.2.2.2.1:=by
 unfold Jp;refine Zn ((ZcK (i:=p) h.ni).mono λt C=>?_);obtain⟨P,C⟩:=C;obtain⟨M,l,-⟩|⟨M,l,Q,-,m,xb,b,-,t6,-,t8,t9⟩:=C;·refine Zr ⟨λ_=>Zb ?_,λK=>by rw[M]at K;simp only[Wx]at K⟩;dsimp only;rw[l,P];exact⟨h.up Y,V0.same rfl⟩
 refine Zr ⟨λK=>by rw[M]at K;simp only[Wx]at K,λ_=>?_⟩;have hb:=h.ni.2.2 b (X2 t8);have d:XE F B f c a K D t.1 ds G H g I z e:=by rw[l]at Q⊢;exact h.TT Q
 have x3:V0 F D E z D t.1 z:=V0.same (by rw[l];rfl);rw[P,t9];refine Zn ((Zb2 (b:=b) Y).mono λo ho=>Zr ⟨λ_=>Zb ⟨d.up Y,x3⟩,λgq=>?_⟩);have A:=ho (by simpa only[Wx]using gq);have n:=d.rl;refine Zr ⟨λ_=>Zn ((ZAf d A).mono λk j=>Zb ⟨j.1.up Y,?_⟩),λw=>Zr ⟨λx=>?_,λx=>?_⟩⟩
 ·refine⟨j.2.1,λj' p' u v=>?_⟩;obtain x8|⟨p,p1,S,T,R,y2,y3,y4⟩:=j.2.2 j' p' u v;·exact .inl x8
  ·exact .inr ⟨p,p1,S,T,by rw[l]at R;exact R,y2,y3,y4⟩
 ·rw[M9]at w;have x:m.1<=2:=by have:YP m.1 (Zi (Zj t.1.2.2.2.2.2.1))=true:=x;simp only[Wx]at this;rw[n]at this;omega
  have w:¬m.1=0:=w;dsimp only;rw[show Zm (ZX m.1 1)=m.1-1by simp only[Wx];rw[ZK Y]];refine XC ⟨by simp only[Wx];rw[n];omega,Zn (YN ⟨by rw[n];omega,λU ha=>?_⟩)⟩;obtain rfl|⟨j2,y⟩:=C9 U;·rw[Hc rfl];refine Zn ((ZAh d.ni).mono λk j=>Zb ?_);obtain⟨x5,x7,i,q,s⟩:=j;refine⟨?_,V0.same (by dsimp only;rw[i,l];rfl)⟩;dsimp only;rw[i,q];exact(d.up Y).TT s
  ·rw[V1 y,V1 y];obtain⟨xh,x9,r,-,-,d1,d2,r1,r2,hR⟩:=d.rep (r:=(default:YY)) ha y;rw[gt r1];refine Zn ((ZAj r2 d1 d2 Y Y Y A d.ni).mono λk j=>Zb ?_);obtain⟨d',x5,x7,i,q,s,J,N,O⟩:=j;have hF:=hR (B+1) d' k.2.1 Y (J.le Y) (q.up Y);refine⟨?_,V0.same (by rw[i,l];rfl)⟩;show XE F (B+1) f c a K D k.1 k.2.2.1 (G.set j2 k.2.1) H g I z k.2.2.2;rw[i,s,N];rw[N]at O;exact hF.TT O
 ·obtain⟨-,hn,⟨x1,x2⟩,-,xa,-⟩:=id d.cb;refine Zn ((ZAc d.cl n x1 x2 ⟨hn.1,Y⟩ Y A).mono λk j=>Zb ?_);obtain⟨x6,x4,i,q,s,J⟩:=j;refine⟨⟨?_,by rw[i];exact d.dv,d.ne,d.d1.up Y,d.d2.up Y,by rw[i];exact d.pr,?_,by rw[i];exact d.ni,J,by have:=d.hg;omega⟩,V0.same (by rw[i,l];rfl)⟩
  ·obtain⟨V,X,Z,c4,c5,c6,c7⟩:=d.cb.up (T':=B+1) Y;dsimp only;rw[i];refine⟨V,X,Z,c4,?_,?_,c7⟩;·show(lk t.1++x4).length<=_;rw[YM];omega
   ·show x6.length<=_;omega
  ·obtain⟨u,v,x0,e1,e2⟩:=(d.up (T':=B+1) Y).rp;exact⟨u,v,by rw[i];exact x0,e1,e2⟩
def Rs.app{a}{x}(h:Rs G a B f):Rs (G++x) a B f:=λe d=>by have⟨g,b,c⟩:=h e d;have:=(X8 b).1;exact⟨g,by rw[VE this];exact b,c⟩
def Zpc{ds:L Yb}{o:Rx}(h:XE F B f c a K D E ds G H g I z e){k}{i:Nat}(hi:E.2.2.2.1[i]?=some (some k)):∃d,ds[k]?=some d/\∀d',(∀C,DI 900 C d->DI 900 C d')->d'.1=d.1->d'.2.2.1=d.2.2.1->XE F B f c a K D E (ds.set k d') G H g I z e:=by
 obtain⟨x,y,s⟩:=h.ne;have r:∀{k:Nat}{d':Yb},f≠k->L4 F (ds.set k d') z _ f K D:=λ{k d'}u=>by obtain⟨d,p,n,l,A,q⟩:=h.pr;exact⟨d,p,n,by rw[Ly (Gb u)];exact l,A,q⟩
 rw[h.dv]at hi;match i,hi with|0,hi=>obtain rfl:f=k:=X9 (X9 hi);obtain⟨d,p,n,l,⟨J,⟨w,M⟩,⟨t,v,N,O⟩,P⟩,q⟩:=h.pr;refine⟨d,l,λd' b m j=>h.pri ⟨d',p,n,X0 l,⟨b _ J,⟨w,by rw[m];exact M⟩,⟨t,v,by rw[j];exact N,O⟩,by rw[j];exact P⟩,q⟩⟩|1,hi=>obtain rfl:c=k:=X9 (X9 hi);obtain⟨d,d1,d2⟩:=h.d1;exact⟨d,d1,λd' b m j=>⟨h.cb,h.dv,h.ne,Qx.put d1 (b _ d2),h.d2.set s,r x,h.rp,h.ni,h.cl,h.hg⟩⟩|2,hi=>obtain rfl:a=k:=X9 (X9 hi);obtain⟨d,d1,d2⟩:=h.d2;exact⟨d,d1,λd' b m j=>⟨h.cb,h.dv,h.ne,h.d1.set (Gb s),Qx.put d1 (b _ d2),r y,h.rp,h.ni,h.cl,h.hg⟩⟩|i+3,hi=>cases hi
def bJ{ds:L Yb}{cuts:L Int}(h:XE F B f c a K D E ds G H g I z e)(hT:B<=230):∃d,ds[f]?=some d/\W (O (Dl d cuts) λx6=>O (Kb E (Xc ds f x6) G z 0) λw=>some (w.1,w.2.1,w.2.2.1,w.2.2.2.1,w.2.2.2.2,XB)) λo=>∃i,XE F (B+1) f c a (K+1) i o.1 o.2.1 o.2.2.1 H g I o.2.2.2.1 e/\V0 F D E z i o.1 o.2.2.2.1/\(i=D\/∃b,F D b/\i=D++[b])/\((∀s,NY (s0 Wa) i s->∃p,o.1.2.2.2.2.1=some z.length/\o.2.2.2.1=z++[p])/\∀j p,o.1.2.2.2.2.1=some j->o.2.2.2.1[j]?=some p->p.2.2.2.2.2=([],0)/\UU (s0 Wa) i (UB p)/\∃n,VM f (K+1) n false p.1)/\(∀d,o.2.1[f]?=some d->d.2.2.2=(-1,false)/\d.2.2.1=[])/\∃x,o.1=SD (Pw E o.1.2.2.2.2.1) (sl E++x):=by
 obtain⟨d,n,fd,C,p2,p3⟩:=id h.pr;have hg:=h.hg;refine⟨d,C,Zn ((ZcA p2.1 Y).mono λv hr=>?_)⟩;obtain⟨r1,J,r3⟩:=hr;obtain⟨i,q,m',V,X⟩:=p2.gD (d':=v) Y r3;have x0:=h.cb;have x7:=x0.2.2.2.2.2.2;have e1:v.2.2.1=[]:=by rw[J]
 have Z:v.2.2.2.1=-1:=by rw[J]
 have e3:v.2.2.2.2=false:=by rw[J]
 refine Zn ((Zgc (rs:=G) (ps:=z) (X0 C) r1 Y (by rw[h.dv];rfl) x0.1 Y).mono λo ho=>Zb ?_);obtain⟨d',M,x,T,o2,o3,o4,o5,U,o7,o8⟩:=ho;obtain⟨v1,v2,v3,v4⟩:=o8 K i q m' Y e1 (by rw[Z];decide) e3 V;have x1:o.2.1=ds.set f d':=by rw[o3];show List.set (List.set ds f v) f d'=_;rw[T6]
 have x2:PV f (K+1) (F i) i q false d':=v2.pv o5 v1;have hX:RX F D i:=by
  obtain Q|⟨b,x5,Q⟩:=X;·rw[Q];exact RX.refl
  ·rw[Q];exact RX.one x5
 have y:o.1.2.2.2.2.1=M:=by rw[T];rfl
 have S:∀j p,M=some j->o.2.2.2.1[j]?=some p->PI S4 p/\VM f (K+1) q false p.1/\p.2.2.2.2.2=([],0)/\UU (s0 Wa) i (UB p):=λj p l t=>by
  obtain⟨-,m,-⟩|⟨A,r,u,-,q4,-,q6⟩:=U;·rw[m]at l;cases l
  ·rw[u]at l;cases l;rw[r]at t;have:A=p:=by simpa using t
   subst this;obtain⟨w1,w2⟩:=v3 A r;exact⟨q4,⟨q,w1,by have:=V.2.2.2.2.1;omega,λ_=>rfl⟩,q6,w2⟩
 have x4:L4 F (ds.set f d') o.2.2.2.1 M f (K+1) i:=by
  refine⟨d',q,false,X0 C,x2,λj l=>?_⟩;obtain⟨-,m,-⟩|⟨p,r,u,-⟩:=U;·rw[m]at l;cases l
  ·have x3:j=z.length:=by rw[u]at l;exact(X9 l).symm
   have t:o.2.2.2.1[j]?=some p:=by rw[r,x3];simp
   obtain⟨y1,y2,-,y3⟩:=S j p l t;exact⟨p,t,y2,y1,i,[],UB p,Zc,y3,rfl,rfl,λ_=>⟨rfl,rfl⟩⟩
 refine⟨i,?_,⟨hX,λj' A N P=>.inl (S j' A (by rw[<-y];exact N) P).2.2.2⟩,X,⟨λs hs=>?_,λj p N P=>?_⟩,λd2 R=>?_,x,by rw[y];exact T⟩;·dsimp only;rw[x1,o4,T];have k:=h.up (T':=B+1) Y;obtain⟨b1,b2,b3,b4,b5,b6,b7⟩:=k.cb;exact⟨⟨b1,b2,b3,b4,b5,b6,by show(sl E++x).length<=_;rw[YM];omega⟩,k.dv,k.ne,k.d1.set k.ne.1,k.d2.set k.ne.2.1,x4,k.rp,k.ni,k.cl.up rfl (YA _) (YA _) λ_ m=>m,Y⟩
 ·obtain⟨-,-,m⟩|⟨p,r,u,-⟩:=U;·exact(m (v4 s hs)).elim
  ·exact⟨p,by rw[<-u];exact y,r⟩
 ·obtain⟨-,z1,z2,z3⟩:=S j p (by rw[<-y];exact N) P;exact⟨z2,z3,q,z1⟩
 ·dsimp only at R;rw[x1,X0 C]at R;cases R;refine⟨?_,v1⟩;rw[o7 (by rw[Z];decide) e3,J]
def uE{ds:L Yb}{cuts:L Int}(h:XE F B f c a K D E ds G H g I z e)(hT:B<=1000){i k:Nat}(hi:i=0/\k=c\/i=1/\k=a):∃d,ds[k]?=some d/\W (O (Dl d cuts) λx1=>O (Kb E (Xc ds k x1) G z ((i+1:Nat):Int)) λq=>some (q.1,q.2.1,q.2.2.1,q.2.2.2.1,q.2.2.2.2,XB)) λo=>XE F (B+1) f c a K D o.1 o.2.1 o.2.2.1 H g I o.2.2.2.1 e/\o.2.2.2.1=z/\(∃l,o.1=KD E l)/\o.2.1[f]?=ds[f]?:=by
 obtain⟨n1,n2,y⟩:=h.ne;have b:=h.up (T':=B+1) Y;have w:∀{k:Nat}{n:Yb},f≠k->L4 F (ds.set k n) z E.2.2.2.2.1 f K D:=λ{k n}V=>by obtain⟨d,x0,S,p1,p2,p3⟩:=h.pr;exact⟨d,x0,S,by rw[Ly (Gb V)];exact p1,p2,p3⟩
 have T:Qx ds k B/\E.2.2.2.1[i+1]?=some (some k)/\(i=0\/i=1):=by
  obtain⟨rfl,rfl⟩|⟨rfl,rfl⟩:=hi;·exact⟨h.d1,by rw[h.dv];rfl,.inl rfl⟩
  ·exact⟨h.d2,by rw[h.dv];rfl,.inr rfl⟩
 obtain⟨⟨d,d1,d2⟩,hv,U⟩:=T;refine⟨d,d1,Zn ?_⟩;refine(ZcA d2 Y).mono λs Z=>?_;obtain⟨r1,r2,r3⟩:=Z;refine Zn ((Zge (rs:=G) (ps:=z) U (X0 d1) r1 Y hv h.rl h.cb.2.2.2.1).mono λo X=>Zb ?_);obtain⟨n,m,A,o2,C,o4,J,-⟩:=X;have x:o.2.1=ds.set k n:=by rw[o2];show List.set (List.set ds k s) k n=_;rw[T6]
 refine⟨?_,C,⟨_,A⟩,by dsimp only;rw[x];exact Ly (by obtain⟨-,j⟩|⟨-,j⟩:=hi<;>rw[j]<;>exact Gb (by assumption))⟩;dsimp only;rw[x,C,A];obtain⟨M,N,j,q1,q2⟩:=b.rp;have t:DI 900 (100000*(B+1)) n:=o4.le Y;have v:∀{m:Zg Nat}{k:Nat},Rs G m k (B+1)->Rs o.2.2.1 m k (B+1):=λ{m k}p=>by
  obtain⟨j,-⟩|⟨s,j,-⟩:=J;·rw[j];exact p
  ·rw[j];exact p.app
 have u:Rs o.2.2.1 m k (B+1):=by
  intro x2 r;obtain⟨-,j⟩|⟨s,P,Q,R⟩:=J;·rw[j]at r;cases r
  ·rw[Q]at r;cases r;exact⟨s,by rw[P];simp,R.up Y⟩
 obtain⟨rfl,rfl⟩|⟨rfl,rfl⟩:=hi;·exact⟨b.cb,b.dv,b.ne,Qx.put d1 t,b.d2.set y,w n1,⟨m,N,by show E.2.2.2.2.2.1.set 0 m=_;rw[j];rfl,u,v q2⟩,b.ni,b.cl.up rfl (YA _) (YA _) λ_ p=>p,b.hg⟩
 ·exact⟨b.cb,b.dv,b.ne,b.d1.set (Gb y),Qx.put d1 t,w n2,⟨M,m,by show E.2.2.2.2.2.1.set 1 m=_;rw[j];rfl,v q1,u⟩,b.ni,b.cl.up rfl (YA _) (YA _) λ_ p=>p,b.hg⟩
def ZsK{ds:L Yb}(h:XE F B f c a K D E ds G H g I z e)(U:B<=230)(hk:R.1=14\/R.1=15):W (Jq E ds G z R) λr=>∃Q q,XE F (B+1) f c a Q q r.1 r.2.1 r.2.2.1 H g I r.2.2.2.1 e/\V0 F D E z q r.1 r.2.2.2.1:=by
 unfold Jq;have x:E.2.2.2.1.length=3:=by rw[h.dv];rfl
 refine Yu (λA=>A=false->0<=R.2.1/\R.2.1<3) (λ_=>Zb λs=>by cases s) (λv=>Zb λs=>?_) λA V=>Zr ⟨λ_=>Zb ⟨K,D,h.up Y,V0.same rfl⟩,λv=>?_⟩;·simp only[Wx]at v s;rw[x]at s;omega
 have C:=V v;obtain⟨i,M⟩:=Qt C.1;have Z:i<3:=Y;obtain⟨k,b⟩:∃k,E.2.2.2.1[i]?=some (some k):=by
  rw[h.dv];obtain rfl|rfl|rfl:=(by omega:i=0\/i=1\/i=2);·exact⟨f,rfl⟩
  ·exact⟨c,rfl⟩
  ·exact⟨a,rfl⟩
 have J:∀{N:Type}{u:Zg Nat->Zg N},O (ZF E.2.2.2.1 R.2.1) u=u (some k):=λ{N u}=>be (Sy C.1 (by rw[M,WL];exact b));refine Zr ⟨λS=>XC ⟨by simp only[Wx];rw[x];omega,?_⟩,λS=>XC ⟨by simp only[Wx];rw[x];omega,?_⟩⟩;·rw[J,ko];obtain⟨l,d,j⟩:=Zpc (o:=R) h b;rw[gt d];refine Zn (W.mono (P:=λm:Yb=>(∀t,DI 900 t l->DI 900 t m)/\m.1=l.1/\m.2.2.1=l.2.2.1) (Zb ⟨λt T=>T,rfl,rfl⟩) λm w=>Zb ⟨K,D,(j m w.1 w.2.1 w.2.2).up Y,V0.same rfl⟩)
 ·rw[J,ko,M];obtain rfl|rfl|rfl:=(by omega:i=0\/i=1\/i=2)
  ·obtain⟨l,d,j⟩:=bJ (cuts:=R.2.2.2.2.2.2) h U;have:k=f:=by rw[h.dv]at b;exact(X9 (X9 b)).symm
   subst this;rw[gt d];refine j.mono λr n=>?_;obtain⟨q,o,p,-⟩:=n;exact⟨K+1,q,o,p⟩
  ·obtain⟨l,d,j⟩:=uE (cuts:=R.2.2.2.2.2.2) h Y (i:=0) (k:=c) (.inl ⟨rfl,rfl⟩);have:k=c:=by rw[h.dv]at b;exact(X9 (X9 b)).symm
   subst this;rw[gt d];refine j.mono λr n=>?_;obtain⟨o,p,⟨X,y⟩,-⟩:=n;exact⟨K,D,o,by rw[p];exact V0.same (by rw[y];rfl)⟩
  ·obtain⟨l,d,j⟩:=uE (cuts:=R.2.2.2.2.2.2) h Y (i:=1) (k:=a) (.inr ⟨rfl,rfl⟩);have:k=a:=by rw[h.dv]at b;exact(X9 (X9 b)).symm
   subst this;rw[gt d];refine j.mono λr n=>?_;obtain⟨o,p,⟨X,y⟩,-⟩:=n;exact⟨K,D,o,by rw[p];exact V0.same (by rw[y];rfl)⟩
def Zi3(h:CB B E):W (gh E R) λr=>∃l,r.1=(E.1,E.2.1,l,E.2.2.2)/\l.length=5/\∀x∈l,-2<=x/\x<=2:=by
 obtain⟨f,-,⟨c,d⟩,-⟩:=h;refine Yu (λb=>b=false->0<=R.2.1/\R.2.1<5) (λ_=>Zb λa=>by cases a) (λe=>Zb λa=>Zp) λb j=>Zr ⟨λ_=>Zb ⟨E.2.2.1,rfl,c,d⟩,λe=>XC ⟨Xk,Zb ⟨_,rfl,by simp;exact c,λx g=>?_⟩⟩⟩
 ·obtain i|rfl:=yx g;·exact d x i
  ·have a:E.1.2.2.2.1=2:=by rw[f];rfl
   simp only[Wx];rw[ZK Y];omega
def Zob{ds:L Yb}(h:XE F B f c a K D E ds G H g I z e)(V:B<=230)(P:Hm R)(U:∀j p t,E.2.2.2.2.1=some j->z[j]?=some p->ZAV Wa D p->PI S4 p->RG p.2.2.2.1 t->p.2.2.1.2.2.1.length<8->p.2.2.2.2.2.2=0->F D (Uj t p.2.2.2.2.2.1)):W (UK E ds G H g I z e R) λr=>∃y o,XE F (B+1) f c a y o r.1 r.2.1 r.2.2.1 r.2.2.2.1 r.2.2.2.2.1 r.2.2.2.2.2.1 r.2.2.2.2.2.2.1 r.2.2.2.2.2.2.2.1/\V0 F D E z o r.1 r.2.2.2.2.2.2.1:=by
 have A:=h.cb;obtain⟨-,x1,-⟩:=id A;have C:∀{Q:Z5},Q.2.2.2.2.1=E.2.2.2.2.1->V0 F D E z D Q z:=λx=>V0.same x;have b:=h.up (T':=B+1) Y;have O:∃y o,XE F (B+1) f c a y o E ds G H g I z e/\V0 F D E z o E z:=⟨K,D,b,C rfl⟩;have TT:∀{s:Nj}{v:L Zt},NI s v->∃y o,XE F (B+1) f c a y o (wN E s) ds G H g I z v/\V0 F D E z o (wN E s) z:=λZ=>⟨K,D,b.TT Z,C rfl⟩;unfold UK;refine Zr ⟨λ_=>Zb ⟨K,D,?_,C rfl⟩,λ_=>Zr ⟨λ_=>Zn ((Zi3 A).mono λm d=>Zb ?_),λ_=>?_⟩⟩;·dsimp only;rw[wS Y];obtain⟨w,J,M⟩:=b.cb;exact⟨⟨w,ZB,M⟩,b.dv,b.ne,b.d1,b.d2,b.pr,b.rp,b.ni,b.cl.up rfl (YA _) (YA _) λ_ i=>i,b.hg⟩
 ·obtain⟨x2,k,n,u⟩:=d;refine⟨K,D,?_,C (by dsimp only;rw[k])⟩;dsimp only;rw[k];obtain⟨w,J,M,N⟩:=b.cb;exact⟨⟨w,J,⟨n,u⟩,N⟩,b.dv,b.ne,b.d1,b.d2,b.pr,b.rp,b.ni,b.cl.up rfl (YA _) (YA _) λ_ i=>i,b.hg⟩
 refine Yu (λl=>l=true->R.1=3\/R.1=4\/R.1=5) (λi=>Zb λ_=>.inl (by rwa[Ur]at i)) (λ_=>Yu (λl=>l=true->R.1=3\/R.1=4\/R.1=5) (λi=>Zb λ_=>.inr (.inl (by rwa[Ur]at i))) (λ_=>Zb λi=>.inr (.inr (by rwa[Ur]at i))) λl q=>Zb q) λl q=>Zr ⟨λi=>Zn ((ZmC h.ni h.rl h.cl (by have:=A.2.2.2.2.2.1;omega) ⟨by have:=P.1;omega,by have:=P.2.1;omega⟩ (q i)).mono λm d=>Zb ?_),λ_=>Zr ⟨λ_=>Zn ((ZnC h Y U).mono λm d=>Zb ?_),λ_=>Zr ⟨λ_=>Zn ((ZnQ h Y).mono λm d=>Zb ⟨K,D,d⟩),λ_=>Zr ⟨λ_=>Zn ((yT h.ni).mono λm d=>Zn (Do.mono λ_ _=>Zb ?_)),λ_=>Zr ⟨λ_=>Zn ((ZbZ h.ni).mono λm d=>Zn (Do.mono λ_ _=>Zb ?_)),λ_=>Zr ⟨λ_=>Zn ((ZcJ h.ni).mono λm d=>Zn (Do.mono λ_ _=>Zb ?_)),λ_=>Zr ⟨λ_=>?_,λ_=>Zr ⟨λ_=>?_,λ_=>Zr ⟨λ_=>Zn ((ZnG h Y).mono λm d=>Zb ⟨K,D,d.1,V0.same d.2⟩),λ_=>?_⟩⟩⟩⟩⟩⟩⟩⟩⟩
 ·obtain⟨s,x0,v,k,n,u,s4,s5⟩:=d;refine⟨K,D,?_,C (by dsimp only;rw[k];rfl)⟩;dsimp only;have X:CB (B+1) m.1:=by
   rw[k];obtain⟨w,J,M,N,c5,c6,c7⟩:=A;refine⟨w,⟨J.1,?_⟩,M,N,?_,?_,?_⟩;·show E.2.1<=_;omega
   ·show(lk E).length<=_;omega
   ·show(ud E++x0).length<=_;rw[YM];omega
   ·show(sl E).length<=_;omega
  exact⟨X,by rw[k];exact b.dv,b.ne,b.d1,b.d2,by rw[k];exact b.pr,by obtain⟨S,T,x,q1,q2⟩:=b.rp;exact⟨S,T,by rw[k];exact x,q1,q2⟩,by rw[k];exact u,s5,b.hg⟩
 ·obtain⟨o,k,n⟩:=d;exact⟨K,o,k,n⟩
 ·obtain⟨-,k,-,-,n⟩|⟨k,-⟩:=d;·dsimp only;rw[k]at n⊢;exact TT n
  ·dsimp only;rw[k];exact O
 ·obtain⟨s,v,k,n,u⟩:=d;dsimp only;rw[k];exact TT u
 ·obtain⟨s,k,n,-⟩:=d;dsimp only;rw[k];exact TT n
 ·refine Uz (λi=>?_) (λ_=>Zb trivial) λv=>Zn ((Zl0 h.ni).mono λm d=>Zn (Do.mono λ_ _=>Zb ?_));·simp only[Wx]at i;exact Zn (YN ⟨Y,λ_ _=>Zb trivial⟩)
  ·dsimp only;rw[d.1];have:=TT d.2;exact this
 ·have h5:E.2.2.1.length=5:=A.2.2.1.1;refine Yu (λl=>l=false->0<=R.2.1) (λ_=>Zb λx=>by cases x) (λi=>Zb λ_=>by simpa only[Wx]using i) λl q=>Zr ⟨λ_=>Zb O,λi=>Zn ((ij h.ni (q i) (by have:=P.2.1;omega)).mono λm d=>Zn (Do.mono λ_ _=>Zb ?_))⟩;obtain⟨s,v,k,n,u⟩:=d.1;dsimp only;rw[k];exact TT u
 ·refine Yu (λl=>l=true->R.1=14\/R.1=15) (λi=>Zb λ_=>.inl (by rwa[Ur]at i)) (λ_=>Zb λi=>.inr (by rwa[Ur]at i)) λl q=>Zr ⟨λi=>Zn ((ZsK h V (q i)).mono λm d=>Zb d),λ_=>Zb O⟩
def Nk:Yb:=(List.replicate 900 Un,List.replicate 900 Un,[],-1,false)
def ZdI:DI 900 0 Nk:=⟨sA,rfl,(λb a=>by cases a),YA _⟩
def Md(l:L (Zg Nat)):Z5:=(QE,1,List.replicate 5 0,l,none,[none,none],[],[],([],0),[],[],[])
def ZqB:gi QE=some true:=by
 have a:∀{b:Zg _}{c:Bool}{d:Bool->Zg Bool},c=true->b=some true->O (Zf c b (some false)) d=d _:=λf e=>by rw[f,XD,e,bs]
 exact(a rfl rfl).trans ((a rfl rfl).trans ((a rfl rfl).trans ((a rfl rfl).trans ((a rfl rfl).trans ((a rfl rfl).trans ((a rfl rfl).trans ((a rfl rfl).trans (a rfl rfl))))))))
def tI(c:Z5)(l:L (Zg Nat)):Z5:=(c.1,c.2.1,c.2.2.1,c.2.2.2.1,c.2.2.2.2.1,c.2.2.2.2.2.1,l,c.2.2.2.2.2.2.2)
def RP(n i:Nat)(c:Yb)(ds:L Yb)(rs:L YY)(l:L (Zg Nat)):Prop:=ds[n]?=some c/\(∀a,a<2->i<=a->ds[n+1+a]?=some Nk)/\(∀a,a<2->a<i->Qx ds (n+1+a) 1/\∀b,l[a]?=some b->Rs rs b (n+1+a) 1)/\l.length=2
def RP.step{n i}{o d}{ds}{rs j}{l}{a}(h:RP n i o ds rs l)(hi:i<2)(z:DI 900 6000 d)(q:j=rs/\a=none\/∃r,j=rs++[r]/\a=some rs.length/\RI 900 (n+1+i) 0 r):RP n (i+1) o (ds.set (n+1+i) d) j (l.set i a):=by
 obtain⟨w,p,x,y⟩:=h;have D:∀{c:Zg Nat}{m:Nat},Rs rs c m 1->Rs j c m 1:=λ{c m}s=>by
  obtain⟨b,-⟩|⟨r,b,-⟩:=q;·rw[b];exact s
  ·rw[b];exact s.app
 refine⟨by rw[Ly Y];exact w,λe g B=>by rw[Ly Y];exact p e g Y,λe g C=>?_,by simp[y]⟩;by_cases b:e=i
 ·subst b;refine⟨⟨d,X0 (p e g (YA _)),z.le Y⟩,λc k=>?_⟩;rw[su Y]at k;cases k;intro E f;obtain⟨-,b⟩|⟨r,t,u,v⟩:=q;·rw[b]at f;cases f
  ·rw[u]at f;cases f;exact⟨r,by rw[t];simp,v.up Y⟩
 ·obtain⟨A,F⟩:=x e g Y;refine⟨A.set Y,λc k=>?_⟩;grind
def CN(n:Nat)(q:L (Zg Nat))(cs:L Y6):Prop:=cs.length=n+q.length/\∀a,a<q.length->∃b,q[a]?=some (some (n+a))/\cs[n+a]?=some b/\b.2.2.2.1=-1/\b.2.2.2.2.1=0
def CN.snoc{q:L (Zg Nat)}(h:CN B q H)(hx:T.2.2.2.1=-1/\T.2.2.2.2.1=0):CN B (q++[some H.length]) (H++[T]):=by
 obtain⟨i,c⟩:=h;refine⟨XV,λa d=>?_⟩;rw[YM,VJ]at d;by_cases b:a<q.length;·obtain⟨e,j,f,g⟩:=c a b;exact⟨e,Xk,by rw[VE Y];exact f,g⟩
 ·have:a=q.length:=Y;simp_all
def Zdg{B:L Zt->Zt->Prop}{ds:L Yb}{ss:L Xn}{ms:L WZ}(hb:∀b∈D,b.length<=20000):W (xF ds G H ss z QE) λo=>o.2.2.2.2.2.2=0/\∃c S k1 k2 p d,o.2.2.2.2.2.1=some c/\XE B 1 S k1 k2 1 [] c o.1 o.2.1 o.2.2.1 o.2.2.2.1 ms o.2.2.2.2.1 D/\c.2.2.2.2.1=some z.length/\o.2.2.2.2.1=z++[p]/\UB p=s0 Wa/\p.2.2.2.2.2=([],0)/\o.1[S]?=some d/\d.2.2.2=(-1,false)/\PV S 1 (B []) [] 0 false d/\VM S 1 0 false p.1/\nt c=([],0)/\c.2.1=1/\c.2.2.1=List.replicate 5 0/\c.2.2.2.2.2.2.1.length=2/\CN H.length c.2.2.2.2.2.2.1 o.2.2.1/\ud c=[]:=by
 unfold xF;rw[be ZqB];refine Zr ⟨λe=>by simp only[Wx]at e,λ_=>?_⟩;rw[show Zm (Zv (Zm (Zv 1 QE.1)) QE.2.1)=5by simp only[Wx];show Zm (Zm (1+2)+2)=5;rw[ZK (n:=1+2) Y,ZK Y];rfl];refine L7.2 ⟨Y,L7.2 ⟨YI,?_⟩⟩;refine WM (W.VQ (λh=>∃i:Nat,i<=3/\h=((i:Int),ds++List.replicate i Nk,H,ss,QE,Md ((List.range i).map λj=>some (ds.length+j)))) (λh=>h.2=(ds++List.replicate 3 Nk,H,ss,QE,Md [some ds.length,some (ds.length+1),some (ds.length+2)])) (λh=>(3-h.1).toNat) (λ_=>False) ⟨0,Y,by rw[List.replicate_zero,XX];rfl⟩ ZB (λh r=>?_) (λh r=>?_) λ_ J=>J.elim)
 ·obtain⟨i,Z,rfl⟩:=r;dsimp only;rw[show Zm (Zv 1 QE.1)=3by simp only[Wx];show Zm (1+2)=3;rw[ZK Y];rfl];refine Zr ⟨λe=>?_,λe=>Zb ?_⟩
  ·simp only[Wx]at e;refine Zn ((ZnM (ds:=ds++List.replicate i Nk) (n:=QE.2.2.2.2.1) YI YI).mono λo ho=>?_);obtain⟨T,o2,o3⟩:=ho;refine Zr ⟨λa=>by rw[T]at a;simp only[Wx]at a,λ_=>Xi ⟨?_,Zb ?_⟩⟩;·show((List.range i).map λj=>some (ds.length+j)).length+1<=_;simp;omega
   ·rw[wS Y];refine⟨⟨i+1,Y,?_⟩,ZB⟩;rw[o3,o2];show((i:Int)+1,ds++List.replicate i Nk++[Nk],H,ss,QE,Md (((List.range i).map λj=>some (ds.length+j))++[some (ds++List.replicate i Nk).length]))=_;rw[Yc,<-ZaY,yB,WW,YM,sA];rfl
  ·simp only[Wx]at e;have:i=3:=Y;subst this;rfl
 ·obtain⟨u1,u2⟩:=h;dsimp only at r;subst r;generalize hn:ds.length=n;have y8:(ds++List.replicate 3 Nk).length=n+3:=XV;have x8:∀I,I<3->(ds++List.replicate 3 Nk)[n+I]?=some Nk:=λI hm=>by rw[MK Y,Zbi,Y4 Y]
  have xa:(ds++List.replicate 3 Nk)[n]?=some Nk:=x8 0 Y;dsimp only;refine Zn ((Zgc (c:=Md [some n,some (n+1),some (n+2)]) (rs:=G) (ps:=z) xa ZdI Y rfl rfl (by show([]:L Int).length<=_;simp)).mono λo ho=>?_);obtain⟨x,s,k,T,o2,o3,o4,o5,o6,o7,o8⟩:=ho;obtain⟨v1,v2,v3,v4⟩:=o8 0 [] 0 1#32 Y rfl YI rfl Zb4;have x9:=v4 (s0 Wa) rfl;obtain⟨p,q1,q2,-,q4,-,q6⟩:=o6.resolve_left λa=>a.2.2 x9;obtain⟨w1,w2⟩:=v3 p q1;have R:UB p=s0 Wa:=w2;refine Zr ⟨λa=>by rw[x9]at a;simp only[Wx]at a,λ_=>?_⟩;obtain⟨x5,x0,y4⟩:=ZrI S4;have xs:o.1.2.2.2.2.1=some z.length:=by rw[T,q2];rfl
  have xx:o.2.2.2.1[z.length]?=some p:=by rw[q1];simp
  rw[V1 xs,gt xx,be (y4 p q4.1).2];have hc:o.1=SD (Pw (Md [some n,some (n+1),some (n+2)]) (some z.length)) k:=by rw[T,q2];rfl
  rw[o3,o4,q1,hc];generalize x7:(((SD (Pw (Md [some n,some (n+1),some (n+2)]) (some z.length)) k).1,(SD (Pw (Md [some n,some (n+1),some (n+2)]) (some z.length)) k).2.1,(SD (Pw (Md [some n,some (n+1),some (n+2)]) (some z.length)) k).2.2.1,(SD (Pw (Md [some n,some (n+1),some (n+2)]) (some z.length)) k).2.2.2.1,(SD (Pw (Md [some n,some (n+1),some (n+2)]) (some z.length)) k).2.2.2.2.1,(SD (Pw (Md [some n,some (n+1),some (n+2)]) (some z.length)) k).2.2.2.2.2.1,(SD (Pw (Md [some n,some (n+1),some (n+2)]) (some z.length)) k).2.2.2.2.2.2.1,x5,(SD (Pw (Md [some n,some (n+1),some (n+2)]) (some z.length)) k).2.2.2.2.2.2.2.2):Z5)=l;have K:l=(QE,1,List.replicate 5 0,[some n,some (n+1),some (n+2)],some z.length,[none,none],[],x5,([],0),[],[],k):=x7.symm;have xi:RP n 0 x ((ds++List.replicate 3 Nk).set n x) G [none,none]:=⟨X0 xa,λI hm _=>by rw[Ly Y];have:=x8 (1+I) Y;rwa[<-sG]at this,λI _ x6=>Y,rfl⟩;refine WM (W.VQ (λh=>∃(i:Nat)(f:L (Zg Nat))(t:L Yb)(u:L YY),i<=2/\h=(((i+1:Nat):Int),t,u,H,ss,z++[p],KD l f)/\RP n i x t u f) (λh=>∃(f:L (Zg Nat))(t:L Yb)(u:L YY),h.2=(t,u,H,ss,z++[p],KD l f)/\RP n 2 x t u f) (λh=>(3-h.1).toNat) (λ_=>False) ⟨0,[none,none],_,_,Y,by rw[<-x7];rfl,xi⟩ ZB (λh r=>?_) (λh r=>?_) λ_ J=>J.elim)
  ·obtain⟨i,f,t,u,Z,rfl,E⟩:=r;refine Zr ⟨λe=>?_,λe=>Zb ?_⟩
   ·have e:i<2:=by have:YP ((i+1:Nat):Int) 2=true:=e;simp only[Wx]at this;omega
    dsimp only;have xv:=E.2.1 i e (YA _);refine Zn ((Zge (c:=KD l f) (rs:=u) (ps:=z++[p]) (i:=i) Y xv ZdI Y ?_ E.2.2.2 ?_).mono λys hz=>?_);·show l.2.2.2.1[i+1]?=_;rw[K];obtain rfl|rfl:=(by omega:i=0\/i=1)<;>rfl
    ·show l.2.2.2.2.2.2.2.1.length<=_;rw[K];exact x0
    ·obtain⟨d2,w,z1,z2,z3,z4,z5,z6⟩:=hz;have z7:=z6 rfl YI rfl Zb4;refine Zr ⟨λa=>by rw[z7]at a;simp only[Wx]at a,λ_=>Zb ?_⟩;rw[show Zm (Zv ((i+1:Nat):Int) 1)=((i+1+1:Nat):Int)by rw[wS Y];rfl];refine⟨⟨i+1,f.set i w,_,_,Y,?_,E.step e (z4.le Y) z5⟩,ZB⟩;rw[z1,z2,z3];rfl
   ·have e:¬i<2:=by have:YP ((i+1:Nat):Int) 2=false:=e;simp only[Wx]at this;omega
    have:i=2:=Y;subst this;exact⟨f,t,u,rfl,E⟩
  ·obtain⟨u1,u2⟩:=h;obtain⟨f,t,u,r,E⟩:=r;dsimp only at r;subst r;dsimp only;refine Zn (W.Tl (λv=>∃(m:Nat)(g:L Y6)(q:L Xn)(a:L (Zg Nat)),m<=2/\v=((m:Int),t,g,q,QE,tI (KD l f) a)/\a.length=m/\(∀(i:Nat)(s:Zg Nat),a[i]?=some s->∃(y:Nat)(j:Y6),s=some y/\g[y]?=some j/\CX 0 q ms.length j)/\CN H.length a g) (λv=>∃(g:L Y6)(q:L Xn)(a:L (Zg Nat)),v.2=(t,g,q,QE,tI (KD l f) a)/\a.length=2/\(∀(i:Nat)(s:Zg Nat),a[i]?=some s->∃(y:Nat)(j:Y6),s=some y/\g[y]?=some j/\CX 0 q ms.length j)/\CN H.length a g) (λv=>(2-v.1).toNat) ⟨0,H,ss,[],Y,by rw[K];rfl,rfl,λi s x6=>by simp at x6,rfl,λi Z=>(Nat.not_lt_zero _ Z).elim⟩ ZB (λv F=>?_) λv F=>Zb ?_)
   ·obtain⟨m,g,q,a,Q,rfl,M,N,O⟩:=F;refine Zr ⟨λe=>?_,λe=>Zb ?_⟩
    ·have e:m<2:=by have:ZC (m:Int) 2=true:=e;simp only[Wx]at this;omega
     have yf:(tI (KD l f) a).2.2.2.2.2.2.2.1.length<=1000:=by show l.2.2.2.2.2.2.2.1.length<=_;rw[K];exact x0
     refine Zn ⟨_,by unfold aq;exact Vp (Xi ⟨by dsimp only;simp only[Wx];omega,Zb rfl⟩),Xi ⟨by show a.length+1<=_;omega,Zb ?_⟩⟩;rw[wS ZB];refine⟨⟨m+1,_,_,a++[some g.length],Y,rfl,by simp[M],λi s P=>?_,O.snoc ⟨rfl,rfl⟩⟩,ZB⟩;by_cases J:i<a.length;·rw[VE J]at P;obtain⟨y,j,U,x2,V⟩:=N i s P;have:=(X8 x2).1;refine⟨y,j,U,by rw[show Ye g _=g++_ from rfl,VE this];exact x2,V.ss λy5 hs=>?_⟩;obtain⟨y6,X,y2⟩:=hs;have:=(X8 X).1;exact⟨y6,by show(q++_)[y5]?=_;rw[VE this];exact X,y2⟩
     ·have:i=a.length:=by have:=(X8 P).1;simp at this;omega
      subst this;have:some g.length=s:=by simpa using P
      subst this;refine⟨g.length,_,rfl,by show(g++_)[g.length]?=_;simp;rfl,⟨q.length,rfl,_,by show(q++_)[q.length]?=_;simp;rfl,?_⟩,.inl rfl,Zc⟩;show([]:Zt).length<=64;simp
    ·have e:¬m<2:=by have:ZC (m:Int) 2=false:=e;simp only[Wx]at this;omega
     have:m=2:=Y;subst this;exact⟨g,q,a,rfl,M,N,O⟩
   ·obtain⟨t1,t2⟩:=v;obtain⟨g,q,a,F,M,N,O⟩:=F;dsimp only at F;subst F;have C:tI (KD l f) a=(QE,1,List.replicate 5 0,[some n,some (n+1),some (n+2)],some z.length,f,a,x5,([],0),[],[],k):=by rw[K];rfl
    obtain⟨U,x2,V,x4⟩:=E;have xb:PV n 1 (B []) [] 0 false x:=v2.pv o5 v1;have xh:VM n 1 0 false p.1:=⟨0,w1,Y,λ_=>rfl⟩;obtain⟨y0,X⟩:=V 0 Y Y;obtain⟨y2,y3⟩:=V 1 Y Y;refine⟨rfl,tI (KD l f) a,n,n+1,n+1+1,p,x,rfl,?_,by rw[C],rfl,R,q6,U,?_,xb,xh,by rw[C];rfl,by rw[C],by rw[C],M,O,by rw[C];rfl⟩
    ·dsimp only;rw[C];obtain⟨A,w,rfl⟩:∃A w,f=[A,w]:=by match f,x4 with|[A,w],_=>exact⟨A,w,rfl⟩
     refine⟨⟨rfl,ZB,⟨rfl,λj hx=>?_⟩,x0,W7 _,W7 _,by show k.length<=_;omega⟩,rfl,⟨Y,Y,Y⟩,y0,y2,?_,⟨A,w,rfl,X A rfl,y3 w rfl⟩,⟨W7 _,(λy7 hf=>by cases hf),hb⟩,⟨M,N⟩,YA _⟩;·rw[(List.mem_replicate.1 hx).2];omega
     ·refine⟨x,0,false,U,xb,λm Q=>?_⟩;have Q:some z.length=some m:=Q;cases Q;exact⟨p,Zc,xh,q4,[],[],s0 Wa,rfl,rfl,by rw[<-R];rfl,by rw[<-R];rfl,λ_=>⟨rfl,R⟩⟩
    ·rw[o7 YI rfl];rfl
def Znj(h:b.2.2.1.length<=1000):W (I5 b p M ([],[])) λr=>∃x,r.2.2.1=b.2.2.1++[x]/\x.2.2.2.2=[]:=by refine Zn (Fa.mono λr _=>Zn (W.lp _ (λ_=>0) rfl Zc (λc a=>Zr ⟨λd=>Zp,λ_=>Zb a⟩) λc a=>?_));·subst a;refine Zn (pz.mono λf _=>Zn (W.mono (Zn (W.lp (λc=>c=([],0)) (λ_=>0) rfl Zc (λc a=>Zr ⟨λd=>?_,λ_=>Zb a⟩) λc a=>Zb (by rw[a]))) λg e=>Xi ⟨Zp,Zb ⟨_,rfl,e⟩⟩));grind
def Zxg{h}:W (QI (h,[],[],[],[]) []) λr=>r.2=0/\r.1.2.1=[]/\∃x,r.1.2.2.1=[x]/\x.2.2.2.2=[]:=by
 have f:Vz (h,[],[],[],[]):=Gv;obtain⟨r,i,j,p⟩:=Zxh (h:=h);refine⟨r,i,j,p,?_⟩;have l:W (some r) λr=>r.2=0->∃x,r.1.2.2.1=[x]/\x.2.2.2.2=[]:=by
  rw[<-i];refine Zr ⟨λ_=>Zb λa=>(by cases a),λ_=>WM (W.VQ (λb=>b=([],0)) (λb=>b=([],0)) (λ_=>0) (λ_=>False) rfl Zc (λb d=>Zr ⟨λc=>by rw[d]at c;simp only[Wx,W6]at c;omega,λ_=>Zb d⟩) (λb d=>?_) λ_ a=>a.elim)⟩
  ·subst d;refine Zn ((fI f Zc).self.mono λc m=>Zr ⟨λ_=>Zb λa=>(by cases a),λv=>?_⟩);have e:=m.2 Zp;rw[show MD ([]:VB)=some _ from rfl,bs];refine Zn ((nF f Zc Zc).mono λs n=>Zr ⟨λg=>Zb λa=>by simp only[Wx]at g;exact(g a).elim,λ_=>?_⟩)
   ·obtain⟨t,u,o,-⟩:=n;have k:c.1=([],[]):=by exact Prod.ext e.1 (Ok (by rw[e.2.1];rfl))
    rw[k];refine Zn ((Znj (by rw[o];simp)).mono λw q=>Zb λ_=>?_);grind
 exact(Za.1 l) j
def Zq6{x}{e}(h:b.2.2.1=[x])(hx:x.2.2.2.2=[]):W (Dt b e) λr=>r=[]:=by refine Zn (wB.mono λl i=>Zr ⟨λ_=>Zb rfl,λg=>?_⟩);have d:=i.1 Zp;rw[h]at d;simp at d;have j:e=1:=Y;subst j;rw[show Zm _=0 by simp only[Wx];rw[ZK Y];rfl];refine XC ⟨Zp,Zn (YN ⟨Zp,λn f=>?_⟩)⟩;rw[h]at f;cases f;refine Zn (W.mono (Zn (W.lp (λc=>c=([],0)) (λ_=>0) rfl Zc (λc a=>Zr ⟨λg=>?_,λ_=>Zb a⟩) λc a=>Zb (by rw[a]))) λm k=>Zb k);grind
def ZdO{ds:L Yb}{bs:L Zt}(b:R.1=6):UK E ds G H g I z bs R=O (M5 E ds z bs) λa=>some (a.1,a.2.1,G,H,g,I,a.2.2):=by unfold UK;rw[b,show Zw (6:Int) 1=false from rfl,Xp,show Zw (6:Int) 2=false from rfl,Xp,show Zw (6:Int) 3=false from rfl,show Zw (6:Int) 4=false from rfl,show Zw (6:Int) 5=false from rfl,show Zw (6:Int) 6=true from rfl,Xp,Xp,Go.R.bs,Go.R.bs,Xp,XD]
def Zxm{c}{b}{A:Z5->L Zt->Zg (Z5×L Yb×L Yz×L Zt×OG)}{Q}(h:NI (nt c) D)(P:nt c=([],0))(F:c.2.2.2.2.2.1.length=2)(B:C.1=5)(R:MO C)(hf:C.2.1=0)(T:Kj C.2.2.2.2.2.2.2.2.2.1.1=some (b,0))(S:b.length<=100)(hs:C.2.2.2.2.2.2.2.2.2.1.2.length<=5000)(X:C.2.2.2.2.2.2.2.2.2.2.2.2.2.2.2.1=[])(V:C.2.2.2.2.2.2.2.2.2.2.2.2.2.2.2.2.1=[])(U:∀n x,n.1.length=2->NI n (D++x)->W (A (wN c n) (D++x)) Q):W (X4 (X3 (λg=>Zf (ZC g.1 (Zi (Zj [C]))) (O (ZF [C] g.1) λw=>Zf (Zw w.1 2) (O (Uh g.2.2 g.2.1 w.2.2.1 w) λI=>some (.next (Zm (Zv g.1 1),I.2,I.1))) (O (YE (λ(e:Int×L Zt×Z5×Yy)=>Zf (ZC e.1 (Zi (Zj g.2.2.2.2.2.2.2.1))) (O (Uh e.2.2.1 e.2.1 (Zm (Zv e.1 1)) (e.2.2.2.1,e.2.2.2.2.1,Zm (Zv e.1 1),e.2.2.2.2.2.2)) λJ=>some (.next (Zm (Zv e.1 1),J.2,J.1,e.2.2.2.1,e.2.2.2.2.1,Zm (Zv e.1 1),e.2.2.2.2.2.2))) (some (.brk e))) (0,g.2.1,g.2.2,w)) λK=>some (.next (Zm (Zv g.1 1),K.2.1,K.2.2.1)))) (some (.brk g))) (0,D,c)) λM=>A M.2.2 M.2.1) Q:=by
 refine WM (W.VQ (λj=>j=(0,D,c)\/∃(n:Nj)(x:L Zt),j=(1,D++x,wN c n)/\n.1.length=2/\NI n (D++x)) (λj=>∃(n:Nj)(x:L Zt),j=(1,D++x,wN c n)/\n.1.length=2/\NI n (D++x)) (λj=>(1-j.1).toNat) (λ_=>False) (.inl rfl) ZB (λj y=>?_) (λj y=>?_) λ_ r=>r.elim)
 ·obtain rfl|⟨n,x,rfl,l,m⟩:=y
  ·refine Zr ⟨λ_=>?_,λp=>by simp only[Wx,VJ]at p;omega⟩;rw[be (Sy (i:=0) Y (show([C]:L Yy)[(0:Int).toNat]?=some C from rfl))];refine Zr ⟨λp=>by rw[B,Ur]at p;omega,λ_=>Zn (W.Tl (λv=>∃(d:Nat)(a:Nj)(f:L Zt)(k:Int),d<=2/\v=((d:Int),D++f,wN c a,C.1,C.2.1,k,C.2.2.2)/\a.1.length=d/\NI a (D++f)) (λv=>∃(a:Nj)(f:L Zt)(k:Int),v.2=(D++f,wN c a,C.1,C.2.1,k,C.2.2.2)/\a.1.length=2/\NI a (D++f)) (λv=>(2-v.1).toNat) ⟨0,nt c,[],C.2.2.1,Y,by rw[XX];rfl,by rw[P];rfl,by rw[XX];exact h⟩ ZB (λv q=>?_) λ⟨v1,v2⟩q=>Zb ?_)⟩
   ·obtain⟨d,a,f,k,z,rfl,s,u⟩:=q;refine Zr ⟨λo=>?_,λo=>Zb ?_⟩
    ·have o:(d:Int)<2:=by have:ZC (d:Int) (Zi c.2.2.2.2.2.1.length)=true:=o;rw[F]at this;simp only[Wx]at this;omega
     rw[wS ZB];dsimp only;obtain⟨r,N,l,m⟩:=ZkW (m:=(C.1,C.2.1,(d:Int)+1,C.2.2.2)) B ZB ZB T S hs X V;refine Zn ((Jr (c:=wN c a) (t:=(d:Int)+1) u Y (BC R _ _ _)).mono λx0 E=>Zb ?_);have q:=E.2 r.1 (by rw[N,<-l]) m (by show a.1.length<64;omega);obtain⟨Z,y2,G,o2,H⟩:=E.1;rw[q]at G o2 H⊢;refine⟨⟨d+1,(a.1++[((d:Int)+1,some (D++f).length)],a.2),f++[r.1],(d:Int)+1,Y,?_,by simp[s],?_⟩,ZB⟩;·dsimp only;rw[Yc];rfl
     ·have:Z=(a.1++[((d:Int)+1,some (D++f).length)],a.2):=(WX nt G).symm;rw[<-this,<-Yc];exact H
    ·have o:¬(d:Int)<2:=by have:ZC (d:Int) (Zi c.2.2.2.2.2.1.length)=false:=o;rw[F]at this;simp only[Wx]at this;omega
     have:d=2:=Y;subst this;exact⟨a,f,k,rfl,s,u⟩
   ·obtain⟨a,f,k,z,s,u⟩:=q;dsimp only at z;subst z;rw[wS Y];exact⟨.inr ⟨a,f,rfl,s,u⟩,ZB⟩
  ·exact Zr ⟨λp=>by simp only[Wx,VJ]at p;omega,λ_=>Zb ⟨n,x,rfl,l,m⟩⟩
 ·obtain⟨n,x,rfl,l,m⟩:=y;exact U n x l m
abbrev BT:L Zt->Zt->Prop:=λ_ _=>True
def Zxf{ds:L Yb}(h:XE BT 1 B f c 1 [] E ds G H g I (z++[d]) D)(n:E.2.2.2.2.1=some z.length)(S:UB d=s0 Wa)(T:d.2.2.2.2.2=([],0))(hd:ds[B]?=some k)(Q:k.2.2.2=(-1,false))(hV:PV B 1 (BT []) [] 0 false k)(hM:VM B 1 0 false d.1)(hn:nt E=([],0)):W (M5 E ds (z++[d]) D) λo=>o.2.2.2.2.1=0/\o.1.2.2.2.2.1=some z.length/\(∃p2,o.2.2.1[z.length]?=some p2/\p2.2.2.1.2.2.1.length=1)/\(nt o.1).1.length=2/\∀b∈o.2.2.2.1,b.length<=20000:=by
 have p:(z++[d])[z.length]?=some d:=Zc;obtain⟨d0,y8,fd,q1,q2,q3⟩:=h.pr;obtain⟨p',r1,-,r3,r4⟩:=q3 _ n;rw[p]at r1;cases r1;have U:d.2.2.1=(Wa,[],[],[],[]):=WX Prod.fst S;have xa:d.2.2.2.1=[]:=WX (λx:PL=>x.2.1) S;have m:d.2.2.2.2.2.1=[]:=WX Prod.fst T;obtain⟨-,x7,⟨x1,x2⟩,-⟩:=id h.cb;unfold M5;rw[V1 n,gt p];refine Zn ((xz x1 Y Y x2 ⟨x7.1,Y⟩).mono λt ht=>?_);rw[V1 n,gt p,be Oc];have y:d.2.2.1.2.2.1=[]:=by rw[U]
 refine Zr ⟨λj=>by rw[y]at j;simp only[Wx,W6]at j;omega,λ_=>?_⟩;rw[V1 n,gt p];obtain⟨F,z0,z1,z2,x,z3,z4⟩:=Zxg (h:=Wa);have J:QI d.2.2.1 (d.2.2.2.2.2.1.map (·.2.2))=some (F.1,0):=by rw[U,m,<-z1];exact z0
 refine Zn ((rQ (t:=t) hd hV hM r3 r4 λ_ _ _=>trivial).mono λo ho=>?_);obtain⟨d',n',y5,R',o1,o2,Z,⟨K,R2,s1,M,b2,b3,-⟩,o5,⟨y3,y4,r,-,-,a2⟩,o7,o8,-,o9,xi,xs⟩:=ho;obtain⟨w,-⟩:=xs rfl (by rw[Q];decide) (by rw[Q]) Y (WX Prod.snd T) (by rw[y];simp) ⟨ht.1,Y,λx X=>by rw[xa]at X;cases X⟩ ⟨F.1,J⟩;refine Zr ⟨λj=>by rw[w]at j;simp only[Wx]at j,λ_=>?_⟩;have y7:=h.cb.2.2.2.2.2.2;refine Xi ⟨by show(sl E).length+1<=_;omega,?_⟩;obtain⟨-,P,⟨xb,xx,xh,N,e2,e3,i⟩,O⟩:=xi w;rw[m]at O;have R:o.2.2.1=[P]:=O;obtain⟨s',-,x9⟩:=(o9.resolve_left λxv=>by
  rw[xv.1]at M;have:K=[]:=by cases K with|nil=>rfl|cons _ _=>cases M
  subst this;have:s1=s0 Wa:=b2;subst this;rw[b3]at r;have:=WX List.length r;simp[y,s0,a2 w]at this).1;obtain⟨⟨t',l',st,f1,f2,f3,f4,f5⟩,f6⟩:=x9 w;have x3:l'=[]:=by obtain⟨C,a,-,-,q⟩:=nr (b:=Uj t d.2.2.2.2.2.1) (by rw[m];have:=qO (t:=t) (l:=[]) Zc Zc;omega);rw[q t [] Zc Zc Y Y (by rw[m]),f1]at a;cases a;rfl
 subst x3;have V:o.1.2.2.1=F.1:=by
  have r:o.1.2.2.1=st:=by have:=f6.trans f5;exact WX Prod.fst this
  rw[m]at J;rw[r];exact WX Prod.fst (X9 (f4.symm.trans J))
 have s:o.1.2.2.1.2.2.1=[x]:=by rw[V];exact z3
 have x8:xx=[]:=by obtain⟨C,a,q⟩:=ZwN (e:=((o.1.2.2.1.2.2.1.length:Nat):Int)) Z.2.1 (by rw[V];exact z2);rw[e2]at a;rw[X9 a];exact q
 have x5:xh=[]:=by obtain⟨C,a,q⟩:=Zq6 (e:=((o.1.2.2.1.2.2.1.length:Nat):Int)) s z4;rw[e3]at a;rw[X9 a];exact q
 have hk:xb=1:=by rw[s]at N;simp at N;omega
 subst hk;have u:=Z.tick (e:=1) Y (by rw[s];simp);obtain⟨hb,x0,y6⟩:=ZeI (h:=Sj o.1.2.2.1.2.2.1 o.1.2.2.2.1 1) (by show(1:Int)<=((1:Nat):Int);omega) (by show((1:Nat):Int)<_;omega) u.1 u.2;obtain⟨c1,-⟩:=(ik S4 (Sj o.1.2.2.1.2.2.1 o.1.2.2.2.1 1)).choose_spec (show(1:Int)<=((1:Nat):Int)by omega) (show((1:Nat):Int)<=8by omega) u.1 u.2;rw[R];refine Zxm (c:=SD E (sl E++[E.2.1])) (b:=hb) (A:=λy0 v=>some (y0,o.2.1,Xc (z++[d]) z.length o.1,v,(0:Int),XB)) h.ni hn h.rl (by rw[i]) (o7 P (by rw[R];simp)) (by rw[i]) (by rw[i];exact x0) Y (by rw[i];exact c1) (by rw[i];exact x8) (by rw[i];exact x5) λn2 C x4 x6=>Zb ⟨rfl,n,⟨o.1,?_,by rw[s];rfl⟩,x4,x6.2.2⟩;show(List.set (z++[d]) z.length o.1)[z.length]?=_;exact X0 p
def Zc5{ds:L Yb}{bs:L Zt}(m:∀b∈bs,b.length<=20000):W (uH ds G H g I z bs) λo=>o.2.2.2.2.2.2.2=true/\∀b∈o.2.2.2.2.2.2.1,b.length<=20000:=by
 unfold uH;rw[show uF=some QE from rfl,Go.R.bs];refine Zn ((Zdg (B:=BT) (ms:=I) m).mono λo n=>?_);obtain⟨O,d,K,M,N,y,J,h,i,j,k,u,v,w,x,r,s,t,-⟩:=n;have p:o.2.2.2.2.1[z.length]?=some y:=by rw[k];simp
 refine Yu (λa=>a=false) Xk (λ_=>?_) λa f=>Zr ⟨Xk,λ_=>?_⟩;·rw[V1 h,show Jn d=some d.2.2.2.2.1from rfl,Go.R.bs,V1 j,gt p];exact Zb rfl
 rw[V1 h,ZdO rfl];rw[k]at i⊢;refine Zn (Zn ((Zxf i j u v w x r s t).mono λc⟨Q,A,⟨P,C,D⟩,E,F⟩=>Zb ?_));dsimp only;refine Yu (λa=>a=true) (λ_=>?_) Xk λa f=>Yu (λl=>l=true) (λ_=>?_) (λe=>by rw[f]at e;cases e) λl q=>Zb ⟨q,F⟩;·rw[show Jn c.1=some c.1.2.2.2.2.1from rfl,Go.R.bs,V1 A,gt C,be Oc,D];exact Zb rfl
 ·rw[show Ka c.1=some (((nt c.1).1.length:Nat):Int)by unfold Ka vE;rw[Go.R.bs];rfl,Go.R.bs,E];exact Zb rfl
def ZmJ{ds:L Yb}{ms:L WZ}{bs:L Zt}{B:L Zt->Zt->Prop}(f:∀b∈bs,b.length<=20000):W (mV ds G H g z) λo=>∃a c e p d,XE B 1 a c e 1 [] o.2.2.2.2.2 o.1 o.2.1 o.2.2.1 o.2.2.2.1 ms o.2.2.2.2.1 bs/\o.2.2.2.2.2.2.2.2.2.1=some z.length/\o.2.2.2.2.1=z++[p]/\UB p=s0 Wa/\p.2.2.2.2.2=([],0)/\o.1[a]?=some d/\d.2.2.2=(-1,false)/\PV a 1 (B []) [] 0 false d/\VM a 1 0 false p.1/\nt o.2.2.2.2.2=([],0)/\o.2.2.2.2.2.2.1=1/\o.2.2.2.2.2.2.2.1=List.replicate 5 0/\o.2.2.2.2.2.2.2.2.2.2.2.1.length=2/\CN H.length o.2.2.2.2.2.2.2.2.2.2.2.1 o.2.2.1/\ud o.2.2.2.2.2=[]:=by unfold mV;rw[show uF=some QE from rfl,Go.R.bs];refine Zn ((Zdg (B:=B) (ms:=ms) f).mono λo h=>?_);have⟨l,k,a,c,e,p,d,i,j⟩:=h;rw[V1 i];exact Zb ⟨a,c,e,p,d,j⟩
noncomputable def qr(l:Zt)(v:Vb):ZN:=(IU l v).getD zH
def Zdm{v}(b:A.length<=100000)(hv:v.2.2.2.2.length<=100000):IU A v=some (qr A v):=by obtain⟨c,a,-⟩:=yQ b hv;unfold qr;rw[a];rfl
noncomputable def IL(l:Zt)(c:L Vb):Nat->ZN|0=>zH|i+1=>match c[i]?with|some v=>qr l v|none=>zH
def RV(c:L Vb):Nat->Int|0=>0|i+1=>match c[i]?with|some v=>v.2.1|none=>0
def FM(l:Zt)(c:L Vb):Prop:=∀(a:Nat)(v:Vb),c[a]?=some v->v.1=(a:Int)+1/\RV c a<v.2.1/\v.2.1<2147483648/\v.2.2.2.1=IL l c a/\v.2.2.2.2.length<=64
def FM.nil(l):FM l []:=λb v a=>by simp at a
def Zc8{c'}(h:B<=Z.length):IL A (Z++c') B=IL A Z B:=by cases B with|zero=>rfl|succ B=>simp[IL];rw[VE Y]
def Zd8{c'}(h:B<=Z.length):RV (Z++c') B=RV Z B:=by cases B with|zero=>rfl|succ B=>simp[RV];rw[VE Y]
def FM.snoc{x:Vb}(h:FM A Z)(h1:x.1=Z.length+1)(h2:RV Z Z.length<x.2.1)(c:x.2.1<2147483648)(d:x.2.2.2.1=IL A Z Z.length)(e:x.2.2.2.2.length<=64):FM A (Z++[x]):=λb v a=>by
 have f:=(X8 a).1;rw[YM,VJ]at f;obtain q|q:=Rn b _;·rw[VE q]at a;rw[Zc8 Y,Zd8 Y];exact h b v a
 ·obtain rfl:b=Z.length:=Y;rw[MK Zc,yF]at a;cases a;rw[Zc8 Zc,Zd8 Zc];exact⟨h1,h2,c,d,e⟩
def FM.ep(h:FM A Z):∀i,i<=Z.length->i<=RV Z i|0,_=>HY _|i+1,hi=>by have a:=h.ep i Y;have b:=(h i _ (Ve hi)).2.1;simp[RV];grind
def ZeX(h1:1<=A.length)(h2:A.length<=32):Db A=some true:=by refine Vp ?_;unfold Db;simp[Wx];omega
def Zcc(m:1<=A.length)(n:A.length<=32)(l:Z≠[])(s:Z.length<100000)(h:FM A Z):IV A Z=some true:=by have t:=List.length_pos_iff.2 l;refine Vp ?_;unfold IV;rw[ZeX m n,bs];refine W.Zs (λj=>j=false) (by simp only[Wx];omega) λj p=>?_;·subst p;refine Zr ⟨λh=>(by cases h),λ_=>WM (W.Pk (λa=>0<=a.2.1/\a.2.1<=Z.length/\a.1=RV Z a.2.1.toNat/\a.2.2=IL A Z a.2.1.toNat) (λa=>(Z.length-a.2.1).toNat) (λ_=>False) ⟨Zc,Zc,rfl,rfl⟩ ZB (λa i=>?_) (λa i=>Zb rfl) λB o=>o.elim)⟩;obtain⟨q,b,r⟩:=a;obtain⟨c,k,f,g⟩:=i;dsimp only at c k f g;obtain⟨b,rfl⟩:=Qt c;subst f g;simp only[Wx,WL];refine⟨λe=>⟨⟨c,e⟩,λv d=>?_⟩,λe=>XV⟩;obtain⟨u,w,x,y,z⟩:=h b v d;rw[ZK Y];refine⟨Zp,λ_=>IJ (Zdm Y Y) ⟨⟨Y,Y,by rw[show((b:Int)+1).toNat=b+1by omega];simp only[RV,d],by rw[show((b:Int)+1).toNat=b+1by omega];simp only[IL,d]⟩,Y⟩⟩
def Zk1{s}{v}(i:1<=A.length)(j:A.length<=32)(hv:v.length<=64)(g:p<2147483648)(o:Z.length<100000)(h:FM A Z)(f:RV Z Z.length<p):W (Ab s A Z p v) λr=>r.2=0/\∃x,r.1=Z++[x]/\x.2.1=p/\FM A (Z++[x]):=by
 have t:=h.ep Z.length (YA _);unfold Ab;rw[ZeX i j,bs];refine W.Zs (λx=>x=false) (by simp only[Wx];omega) λx a=>W.Zs (λx=>x=false) (by subst a;simp only[Wx];omega) λx a=>W.Zs (λx=>x=false) (by subst a;simp only[Wx];omega) λx a=>?_;subst a;rw[Xp];refine Xi ⟨by simp only[Wx];omega,Zr ⟨λe=>?_,λe=>?_⟩⟩<;>simp only[Wx]at e
 ·obtain⟨b,k⟩:∃b,Z.length=b+1:=⟨Z.length-1,Y⟩;obtain⟨d,c⟩:∃d,Z[b]?=some d:=⟨_,Ve (show b<Z.length by omega)⟩;have q:RV Z Z.length=d.2.1:=by rw[k];simp only[RV,c]
  have n:IL A Z Z.length=qr A d:=by rw[k];simp only[IL,c]
  have u:=(h b _ c).2.2.2.2;rw[show Zm (ZX (Zi (Zj Z)) 1)=(Z.length:Int)-1by simp only[Wx];exact ZK Y];refine Zn (YN ⟨Y,λw l=>?_⟩);rw[show((Z.length:Int)-1).toNat=b by omega,c]at l;cases l;rw[Zcc i j (by rintro rfl;simp at e) o h,bs];refine W.Zs (λx=>x=false) (by simp only[Wx];omega) λx a=>?_;subst a;rw[Xp,Zdm Y Y,bs];refine W.Zs _ (ii Y) λm _=>?_;simp only[Wx];rw[ZK Y];exact⟨Y,XV,_,rfl,rfl,h.snoc rfl f g n.symm hv⟩
 ·obtain rfl:Z=[]:=jh Y;refine W.Zs _ (ii Y) λm _=>?_;simp only[Wx];rw[ZK Zc];exact⟨Zc,Zc,_,rfl,rfl,h.snoc Zc f g rfl hv⟩
def V(o:Zg l)(Q:l->Prop):Prop:=∀a,o=some a->Q a
def V.mono{P}(h:V o P)(hi:∀a,P a->j a):V o j:=λa b=>hi a (h a b)
def W.v(h:W o j):V o j:=λa c=>by have⟨b,d,e⟩:=h;grind
def V.and{P}(h:V o P)(k:V o j):V o λa=>P a/\j a:=λa b=>⟨h a b,k a b⟩
def W.vw{P}(h:W o P)(k:V o j):W o λa=>P a/\j a:=by have⟨a,b,c⟩:=h;exact⟨a,b,c,k a b⟩
def V.true:V o λ_=>True:=λ_ _=>trivial
def V.self:V o λa=>o=some a:=λ_ b=>b
def ZD{Q:l->Prop}:V (some x) Q↔Q x:=⟨λa=>a x rfl,λd b c=>Zp⟩
def BO:V none j↔True:=⟨Zc,λ_ _ a=>Zp⟩
def Sx:V (O Q S) j↔V Q λx=>V (S x) j:=by rw[BS];cases Q with|none=>exact⟨λ_ _ a=>Zp,λ_ _ a=>Zp⟩|some x=>rw[ZD];rfl
def Z8{y}:V (Zf P o y) j↔(P=true->V o j)/\(P=false->V y j):=by cases P<;>simp[XD,Xp]
def L6{c}[Decidable c]:V (Zf (decide c) o none) j↔c->V o j:=by rw[DE];by_cases a:c<;>simp[a,BO]
def Th:V (Yt B f o) j↔B+f<=4294967296->V o j:=L6
def N0:V (Z4 p M o) j↔0<=p/\p<M->V o j:=L6
def EW:V (Yv Q o S) j↔(Q=none->V o j)/\∀x,Q=some x->V (S x) j:=by rw[Mq];cases Q<;>simp
theorem Ru:V (ZF r p) j↔0<=p/\p<r.length->∀x,r[p.toNat]?=some x->j x:=by
 refine⟨λb c x a=>b x (by show(if 0<=p then _ else _)=_;grind),?_⟩
 ·intro b x a;by_cases c:0<=p
  ·have d:=by have:(if 0<=p then r[p.toNat]?else none)=some x:=a;rwa[Y4 c]at this
   exact b ⟨c,Zp⟩ x d
  ·have:(if 0<=p then r[p.toNat]?else none)=some x:=a;grind
def BP{o}:V (X4 o S) j↔V o λr=>match r with|.inl e=>V (S e) j|.inr r=>j r:=by
 unfold X4;rw[Sx];constructor;·intro c a b;have d:=c a b;cases a with|inl e=>omega|inr r=>exact ZD (Q:=j).1 d
 ·intro c a b;have d:=c a b;cases a with|inl e=>omega|inr r=>exact ZD.2 d
def LV(I:l->Prop)(Q:l->Prop)(R:y->Prop):LR l y->Prop|.next s=>I s|.brk s=>Q s|.ret r=>R r
def eJ{σ ρ:Type}{f}{I}{Q:σ⊕ρ->Prop}(h:∀s,I s->V (f s) (LV I (λs=>Q (.inl s)) λr=>Q (.inr r))):∀(k)(s),I s->V (P5 f k s) Q|0,s,_=>λ_ a=>by cases a|k+1,s,hs=>λe a=>by unfold P5 at a;cases c:f s with|none=>grind|some d=>rw[c]at a;have b:=h s hs d c;cases d with|next g=>exact eJ h k _ b e a|brk g=>cases a;exact b|ret r=>cases a;exact b
def V.Pk{f}{Q:l⊕y->Prop}(I)(a:I x)(h:∀x,I x->V (f x) (LV I (λx=>Q (.inl x)) λr=>Q (.inr r))):V (X3 f x) Q:=by rw[eM];exact eJ h _ x a
theorem V.lp{f}(I)(d:I x)(h:∀x,I x->V (f x) (LV I j λ_=>True)):V (YE f x) j:=λg a=>by rw[eN]at a;unfold AR at a;cases b:P5 f FU x with|none=>grind|some e=>rw[b]at a;cases e with|inl i=>cases a;exact(eJ (f:=f) (Q:=λc=>match c with|.inl x=>j x|.inr a=>False) Zp FU x d) _ b|inr c=>grind
def V.Zs(P:y->Prop)(h:V Q P)(a:∀x,P x->V (S x) j):V (O Q S) j:=Sx.2 (h.mono a)
def Vx:(∀{α}{Q}{a:α},V (some a) Q↔Q a)/\(∀{α}{Q:α->Prop},V none Q↔True)/\(∀{α β}{Q:α->Prop}{o:Zg β}{f},V (O o f) Q↔V o λx=>V (f x) Q)/\(∀{α}{Q:α->Prop}{b}{x y},V (Zf b x y) Q↔(b=true->V x Q)/\(b=false->V y Q))/\(∀{α}{Q:α->Prop}{i}{x},V (X7 i x) Q↔0<=i->V x Q)/\(∀{α}{Q:α->Prop}{i n}{x},V (Z4 i n x) Q↔0<=i/\i<n->V x Q)/\(∀{α}{Q:α->Prop}{l h m}{x},V (WA l h m x) Q↔0<=l/\l<=h/\h<=m/\l<m->V x Q)/\(∀{α}{Q:α->Prop}{h m}{x},V (JE h m x) Q↔0<=h/\h<=m->V x Q)/\(∀{α}{Q:α->Prop}{m n}{x},V (Yt m n x) Q↔m+n<=4294967296->V x Q)/\(∀{α}{Q:α->Prop}{i}{x},V (Le i x) Q↔i≠0->V x Q)/\(∀{α β}{Q:α->Prop}{o:Zg β}{n}{s},V (Yv o n s) Q↔(o=none->V n Q)/\∀x,o=some x->V (s x) Q)/\(∀{α}{Q:α->Prop}{l}{i},V (ZF l i) Q↔0<=i/\i<l.length->∀x,l[i.toNat]?=some x->Q x)/\(∀{α σ}{Q}{o}{f:σ->Zg α},V (X4 o f) Q↔V o λr=>match r with|.inl y=>V (f y) Q|.inr r=>Q r)/\(∀{σ ρ}{I}{Q}{R:ρ->Prop}{s:σ},LV I Q R (.next s)=I s)/\(∀{σ ρ}{I}{Q}{R:ρ->Prop}{s:σ},LV I Q R (.brk s)=Q s)/\∀{σ ρ}{I:σ->Prop}{Q}{R}{r:ρ},LV I Q R (.ret r)=R r:=⟨ZD,BO,Sx,Z8,L6,L6,L6,L6,L6,L6,EW,Ru,BP,rfl,rfl,rfl⟩
def ZsP{f}{l}(k:Vy f)(h:nY f J l p):l.length<=256:=by
 have w:∀(c:Nat)(a:Int)(d:SQ),l[c]?=some a->f[a.toNat]?=some d->(c:Int)<=(pre d).1/\(pre d).1<256:=by intro c;induction c with|zero=>intro a d b g;obtain⟨t,e,-,j,o,-⟩:=h 0 a b;rw[g]at e;cases e;obtain⟨-,-,q,-⟩:=Dc (k.2 _ _ g) j J;exact⟨o.1.1,q⟩|succ c v=>intro a d b g;obtain⟨i,s⟩:∃i,l[c]?=some i:=⟨_,Ve Zp⟩;obtain⟨t,e,-,j,o,r⟩:=h c i s;rw[VE (X8 b).1,b]at r;cases r;obtain⟨-,-,q,y⟩:=Dc (k.2 _ _ e) j J;have:=y d g;obtain⟨z,m,-,n,-,-⟩:=h (c+1) _ b;rw[g]at m;cases m;have u:=this.2.1;unfold Wp at u;rw[Ys (by simp[n])]at u;obtain⟨-,-,x,-⟩:=Dc (k.2 _ _ g) n J;exact⟨by have:=(v i t s e).1;omega,x⟩
 obtain q|q:=Nat.eq_zero_or_pos l.length;·omega
 ·obtain⟨a,b⟩:∃a,l[l.length-1]?=some a:=⟨_,Ve Y⟩;obtain⟨d,e,-⟩:=h _ a b;have:=w _ a d b e;omega
def xl{f}{n}:V (J9 f n) λr=>r.1.length=f.length+1:=by refine V.Zs _ V.true λ_ _=>V.Zs _ V.true λ_ _=>V.Zs _ V.true λ_ _=>?_;simp only[Vx,Wx];exactλ_=>Zc
def ZpT{f}:V (zT f p M) λr=>r.1.length=f.length+1:=by unfold zT;simp only[Vx];refineλ_ _ a _=>V.true.mono λ_ _=>λ_ _ b _=>V.true.mono λ_ _=>V.true.mono λ_ _=>V.true.mono λ_ _=>⟨λ_=>xl,λ_=>xl⟩
def Zlx{f}{v}(g:Vy f)(t:f.length<=1000000)(h1:-1<=p)(h2:p<f.length):V (zR f p J v) λr=>r.2.2=0/\r.1.length<=f.length+258:=by
 unfold zR;refine V.Zs (λd=>d=true) ?_ λd i=>?_;·unfold zS;simp only[Vx,Wx];omega
 subst i;rw[show ZA true=false by simp[ZA],Xp];refine V.Zs _ (Zgk g h1 h2).v λh j=>?_;have u:=ZsP g j.1;refine Z8.2 ⟨λb=>?_,λ_=>?_⟩;·simp only[Wx]at b;rw[ZK (n:=(f.length:Int)+h.1.length) Y,ZK Y]at b;omega
 refine V.Zs _ xl λb s=>V.Zs (λ_=>True) V.true λo _=>V.Zs (λr=>r.2.length<=f.length+2) ?_ λr w=>?_;·simp only[Vx];exact⟨λ_=>ZpT.mono λz x=>Y,λ_=>Y⟩
 refine V.Zs (λa=>a.2.2.length<=f.length+258) (V.lp (λa=>-1<=a.2.1/\a.2.2.length+a.2.1+1<=f.length+2+h.1.length) (by simp only[Wx];rw[ZK Y];omega) λa c=>?_) λa c=>ZD.2 ⟨rfl,c⟩;·obtain⟨m,y,q⟩:=a;dsimp only at c;refine Z8.2 ⟨λe=>?_,λe=>by simp only[Vx];omega⟩<;>simp only[Wx]at e;·refine Sx.2 (V.true.mono λ_ _=>?_);simp only[Vx];refineλ_ _ n _=>V.true.mono λ_ _=>⟨λ_=>xl.mono λl k=>?_,λ_=>xl.mono λl k=>?_⟩;all_goals(simp only[Wx];rw[ZK Y];omega)
def Zfy{α β}{eq}(d:∀a b,eq a b=true↔a=b){x:α}{y:β}:∀{l},P8 eq x (Ny eq x y l)=some y
 |[]=>by unfold Ny P8;rw[Y4 Zp]|(a,z)::l=>by
  unfold Ny;by_cases c:eq x a=true;·rw[Y4 c];unfold P8;rw[Y4 Zp]
  ·rw[Ys c];unfold P8;rw[Ys c];exact Zfy d
def Zfx{α β}{eq}(e:∀a b,eq a b=true↔a=b){x d:α}{y:β}(hx:d≠x):∀{l},P8 eq d (Ny eq x y l)=P8 eq d l
 |[]=>by unfold Ny P8;rw[Ys λc=>hx Zp];rfl|(a,z)::l=>by
  unfold Ny;by_cases c:eq x a=true;·rw[Y4 c];have rfl:=(e _ _).1 c;unfold P8;rw[Ys λc=>hx Zp,Ys λc=>hx Zp]
  ·rw[Ys c];unfold P8;rw[Zfx e hx]
def dt{α}[h:DecidableEq α]{x:α}{l}:XJ x (Lk x X l)=some X:=Zfy λa b=>Zc
def dq{α}[h:DecidableEq α]{x a:α}{l}(hx:a≠x):XJ a (Lk x X l)=XJ a l:=Zfx Zc hx
def Gq(ps:L Al)(m:L (Zt×Int)):Prop:=∀(c:Zt)(a:Int),XJ c m=some a->∃(b:Nat)(d:Al),a=b/\ps[b]?=some d/\d.1=c
def K7(E:Nat)(ps:L Al):Prop:=∀a∈ps,FM a.1 a.2/\RV a.2 a.2.length<=E
structure EI(s:W0):Prop where
 si:Vz s
 fo:s.2.1.length<=5000*s.2.2.1.length
 np:Gq s.2.2.2.1 s.2.2.2.2pf:K7 s.2.2.1.length s.2.2.2.1
def Znd(h:EI b):V (Du b A) λc=>FM A c/\RV c c.length<=b.2.2.1.length:=by refine Z8.2 ⟨λg=>?_,λ_=>ZD.2 ⟨FM.nil A,MH _⟩⟩;cases e:XJ A _ with|none=>grind|some i=>obtain⟨d,f,rfl,a,rfl⟩:=h.np _ _ e;simp only[Vx];intro _ _ y hy;rw[show(UN (some (d:Int)) 0).toNat=d from rfl,a]at hy;cases hy;exact h.pf f (X2 a)
def Zq0{i j:Nat}{a}(h:r.Nodup)(hi:r[i]?=some a)(d:r[j]?=some a):i=j:=by have⟨e,b⟩:=X8 hi;have⟨f,c⟩:=X8 d;exact(List.getElem_inj h).1 (b.trans c.symm)
def j3(s:W0)(ns:L V8):Prop:=∀(c:Nat)(a:V8),ns[c]?=some a->(1<=a.1.length/\a.1.length<=32)/\a.2.2.1=(s.2.2.1.length:Int)+1/\∃b,Du s a.1=some b/\FM a.1 (b++[a.2])/\b.length<=s.2.2.1.length
def Zps{ns}(N:b.2.2.1.length<=1000)(P:ns.length<=1000)(E:j3 b ns)(F:(ns.map (·.1)).Nodup):V (Mg b (b.2.2.1.length+1) ns) λr=>r.2=true/\r.1.1=ns/\r.1.2.length=ns.length/\∀(j:Nat)(n),ns[j]?=some n->∃c,r.1.2[j]?=some (c++[n.2])/\FM n.1 (c++[n.2]):=by
 unfold Mg;refine BP.2 (V.Pk (λe=>0<=e.1/\e.1<=ns.length/\e.2.2.1.1=ns/\e.2.2.1.2.length=e.1/\(∀(j:Nat)(n:V8),(j:Int)<e.1->ns[j]?=some n->∃c,e.2.2.1.2[j]?=some (c++[n.2])/\FM n.1 (c++[n.2]))/\∀f v,XJ f e.2.2.2=some v->∃(j:Nat)(n:V8),(j:Int)<e.1/\ns[j]?=some n/\n.1=f) ⟨Zc,Zc,rfl,rfl,λj n B=>by dsimp only at B;omega,λf v d=>by cases d⟩ λ⟨i,R,⟨M,k⟩,z⟩⟨t,C,u,D,l,m⟩=>?_);dsimp only at t C u D l m;subst u;obtain⟨i,rfl⟩:=Qt t;refine Z8.2 ⟨λs=>?_,λs=>ZD.2 (ZD.2 ⟨rfl,rfl,?_,λj n d=>?_⟩)⟩<;>simp only[Wx]at s
 ·refine Sx.2 (Ru.2 λ_ n g=>?_);rw[WL]at g;obtain⟨x,H,c,I,y,Q⟩:=E i n g;rw[I,bs];have G:XJ n.1 z=none:=by cases d:XJ n.1 z with|none=>rfl|some v=>obtain⟨j,h,J,p,K⟩:=m _ _ d;have:=Zq0 F (i:=j) (j:=i) (a:=n.1) (by rw[so,p,<-K];rfl) (by rw[so,g];rfl);omega
  refine Th.2 λ_=>Th.2 λ_=>?_;rw[dt,G];have A:UN (some (Zm (Zv (UN (none:Zg Int) 0) 1))) 0=1:=by show Zm (Zv 0 1)=1;simp only[Wx];exact ZK Y
  rw[A];refine Z8.2 ⟨λq=>absurd q (by simp[ZC]),λ_=>Z8.2 ⟨λq=>absurd H (by simpa only[Wx]using q),λ_=>?_⟩⟩;rw[show Ye c [n.2]=c++[n.2]from rfl,Zcc x.1 x.2 Zc XV y,bs,show ZA true=false by simp[ZA],Xp];refine Th.2 λ_=>ZD.2 ?_;show 0<=Zm (Zv (i:Int) 1)/\Zm (Zv (i:Int) 1)<=_/\_;rw[show Zm (Zv (i:Int) 1)=(i:Int)+1by simp only[Wx];exact ZK Y];refine⟨Y,Y,rfl,by show((k++[c++[n.2]]).length:Int)=_;simp;omega,λj h O o=>?_,λf v d=>?_⟩
  ·show∃L,(k++[c++[n.2]])[j]?=_/\_;obtain q|q:=Rn j i;·rw[VE Y];exact l j h Y o
   ·obtain rfl:j=i:=Y;rw[g]at o;cases o;exact⟨c,by rw[MK Y,show j-k.length=0 by omega];rfl,y⟩
  ·by_cases w:f=n.1;·exact⟨i,n,Y,g,w.symm⟩
   ·rw[dq w]at d;obtain⟨j,h,J,p⟩:=m f v d;exact⟨j,h,Y,p⟩
 ·dsimp only;omega
 ·exact l j n (by have:=(X8 d).1;omega) d
def ZsH{l}(h:Vz b)(u:l.length<=1000)(g:b.2.1.length+258*l.length<=1000000):V (GX b l) λr=>r.2.2=0/\r.1.2.1.length<=b.2.1.length+258*l.length:=by refine V.Zs _ (Zav h).v λB i=>BP.2 (V.Pk (λa=>Vy a.2.2.2.1/\-1<=a.1/\a.1<a.2.2.2.1.length/\0<=a.2.1/\a.2.1<=l.length/\a.2.2.2.1.length<=b.2.1.length+258*a.2.1) ⟨h.1,i.1,i.2,Zc,Zc,Zc⟩ λ⟨t,j,A⟩⟨c,e,f,m,n,o⟩=>?_);dsimp only at c e f m n o;refine Z8.2 ⟨λd=>?_,λd=>ZD.2 (ZD.2 ⟨rfl,Zp⟩)⟩;simp[Wx]at d;refine Sx.2 (Ru.2 λ_ x w=>V.Zs _ V.true λ_ _=>V.Zs _ V.true λ_ _=>V.Zs _ ((Zlx c Y e f).and (Zcy c).v) λr g=>?_);obtain⟨⟨k,y⟩,p,q,-⟩:=g;obtain⟨-,-,z,s⟩:=q k;rw[k];refine Z8.2 ⟨Zc,λ_=>ZD.2 ?_⟩;show Vy r.1/\-1<=r.2.1/\r.2.1<r.1.length/\0<=Zm _/\Zm (Zv j 1)<=_/\r.1.length<=_+258*Zm _;rw[show Zm _=j+1by simp[Wx];exact ZK Y];exact⟨p,Y,s,Y,Y,Y⟩
def K7.up{ps}(h:K7 B ps)(c:B<=f):K7 f ps:=λb a=>⟨(h b a).1,by have:=(h b a).2;omega⟩
def Znk{t z}{g}{E}(hp:b.2.2.2.1.length+g.1.length<=1000000)(x:Gq b.2.2.2.1 b.2.2.2.2)(X:K7 E b.2.2.2.1)(hg:g.2.length=g.1.length)(W:∀(j:Nat)(n),g.1[j]?=some n->∃c,g.2[j]?=some c/\FM n.1 c/\RV c c.length<=E):V (I5 b t z g) λr=>Gq r.2.2.2.1 r.2.2.2.2/\K7 E r.2.2.2.1:=by
 unfold I5;refine V.Zs (λ_=>True) V.true λx5 _=>V.Zs (λe=>Gq e.2.2.2.2.1 e.2.2.2.2.2/\K7 E e.2.2.2.2.1) (V.lp (λe=>0<=e.1/\e.1<=g.1.length/\(e.2.2.2.2.1.length:Int)<=b.2.2.2.1.length+e.1/\Gq e.2.2.2.2.1 e.2.2.2.2.2/\K7 E e.2.2.2.2.1) ⟨Zc,Zc,Zc,x,X⟩ λe C=>?_) λe C=>?_
 ·obtain⟨i,f⟩:=e;obtain⟨H,T,U,p,B⟩:=C;dsimp only at H T U p B;obtain⟨i,rfl⟩:=Qt H;refine Z8.2 ⟨λK=>?_,λK=>ZD.2 ⟨p,B⟩⟩;simp only[Wx]at K;refine Sx.2 (Ru.2 λ_ n x=>?_);rw[WL]at x;obtain⟨c,Q,R,S⟩:=W i n x;refine V.Zs (λr=>∃(a:Nat)(G:L Vb),r.1=a/\r.2.2.2.2.1[a]?=some (n.1,G)/\(r.2.2.2.2.1.length:Int)<=b.2.2.2.1.length+(i+1)/\Gq r.2.2.2.2.1 r.2.2.2.2.2/\∀(j:Nat)(d:Al),j≠a->r.2.2.2.2.1[j]?=some d->d∈f.2.2.2.1) ?_ λr⟨a,G,M,u,N,O,P⟩=>?_
  ·refine Z8.2 ⟨λF=>Th.2 λ_=>Th.2 λ_=>ZD.2 ?_,λF=>ZD.2 ?_⟩
   ·have l:XJ n.1 f.2.2.2.2=none:=by cases l:XJ n.1 f.2.2.2.2with|none=>rfl|some v=>simp[l,ZA]at F
    refine⟨f.2.2.2.1.length,[],rfl,by show(f.2.2.2.1++[(n.1,[])])[_]?=_;simp,by show((f.2.2.2.1++[(n.1,[])]).length:Int)<=_;simp;omega,λs v w=>?_,λj d q h=>?_⟩
    ·show∃(a:Nat)(d:Al),v=a/\(f.2.2.2.1++[(n.1,[])])[a]?=some d/\d.1=s;by_cases J:s=n.1;·subst J;rw[dt]at w;cases w;exact⟨_,(n.1,[]),rfl,Zc,rfl⟩
     ·rw[dq J]at w;obtain⟨a,d,y,k,o⟩:=p s v w;exact⟨a,d,y,by rw[VE (X8 k).1];exact k,o⟩
    ·have h:(f.2.2.2.1++[(n.1,[])])[j]?=some d:=h;have Z:j<f.2.2.2.1.length:=by have:=(X8 h).1;simp at this;omega
     rw[VE Z]at h;exact X2 h
   ·cases l:XJ n.1 f.2.2.2.2with|none=>simp[l,ZA]at F|some v=>obtain⟨a,d,rfl,k,o⟩:=p _ _ l;exact⟨a,d.2,rfl,by rw[k,<-o],ZB,p,λj G _ hy=>X2 hy⟩
  ·obtain⟨j,r⟩:=r;dsimp only at M u N O P;subst M;refine Sx.2 (Ru.2 λ_ c' I=>?_);rw[show(((i:Nat):Int),f).1.toNat=i from rfl,Q]at I;cases I;refine N0.2 λ_=>Sx.2 (Ru.2 λ_ d h=>ZD.2 ?_);rw[show(((a:Nat):Int),r).1.toNat=a from rfl,u]at h;cases h;show 0<=Zm (Zv (i:Int) 1)/\Zm (Zv (i:Int) 1)<=_/\((r.2.2.2.1.set a (n.1,c)).length:Int)<=_+Zm (Zv (i:Int) 1)/\Gq (r.2.2.2.1.set a (n.1,c)) r.2.2.2.2/\K7 E (r.2.2.2.1.set a (n.1,c));rw[show Zm (Zv (i:Int) 1)=(i:Int)+1by simp only[Wx];exact ZK Y];refine⟨Y,Y,by simpa using N,λs v l=>?_,λd h=>?_⟩
   ·obtain⟨D,x',y,k,o⟩:=O s v l;by_cases m:D=a;·subst m;rw[u]at k;cases k;exact⟨D,(n.1,c),y,by simp[(X8 u).1],o⟩
    ·exact⟨D,x',y,by rw[Zbj λA=>m A.symm];exact k,o⟩
   ·obtain⟨j,q⟩:=ji h;by_cases m:j=a;·subst m;rw[su (X8 u).1]at q;cases q;exact⟨R,S⟩
    ·rw[Zbj λA=>m A.symm]at q;exact B d (P j d m q)
 ·refine V.Zs (λ_=>True) V.true λ_ _=>V.Zs (λ_=>True) V.true λ_ _=>Th.2 λ_=>ZD.2 C
def iq(l:L xL):Prop:=l.length<=16/\(∀a∈l,1<=a.1.length/\a.1.length<=32/\a.2.length<=64)/\(l.map (·.1)).Nodup
def ZcE{l}(h:EI b)(hE:b.2.2.1.length<=100)(p:iq l):V (QI b l) λr=>r.2=0/\EI r.1:=by
 obtain⟨hl,hv,hd⟩:=p;have q:=h.si;have x2:=h.fo;suffices hq:V (QI b l) λr=>r.2=0/\r.1.2.1.length<=b.2.1.length+4128/\Gq r.1.2.2.2.1 r.1.2.2.2.2/\K7 (b.2.2.1.length+1) r.1.2.2.2.1by
  refine(hq.and (BJ q Y).v).mono λr y=>?_;obtain⟨⟨u,C,A,I⟩,r5,-,r6,-⟩:=y;obtain⟨B,r7⟩:=r6 u;have F:r.1.2.2.1.length=b.2.2.1.length+1:=by rw[r7];simp
  exact⟨u,r5,Y,A,by rw[F];exact I⟩
 unfold QI;refine Z8.2 ⟨λm=>by simp only[Wx]at m;omega,λ_=>BP.2 (V.Pk (λf=>0<=f.2/\f.2<=l.length/\(f.1.length:Int)=f.2/\j3 b f.1/\f.1.map (·.1)=(l.take f.2.toNat).map (·.1)) ⟨Zc,Zc,Zc,λe c F=>by simp at F,Zc⟩ λf p=>?_)⟩;rw[show Zm (Zv (Zi (Zj b.2.2.1)) 1)=(b.2.2.1.length:Int)+1by simp only[Wx];exact ZK Y];obtain⟨ns,k⟩:=f;obtain⟨O,h2,h3,o,x⟩:=p;dsimp only at O h2 h3 o x;obtain⟨k,rfl⟩:=Qt O;rw[WL]at x;refine Z8.2 ⟨λm=>?_,λm=>ZD.2 ?_⟩<;>simp only[Wx]at m
 ·refine Sx.2 (Ru.2 λ_ f p=>?_);rw[WL]at p;obtain⟨T,U,v3⟩:=hv f (X2 p);refine V.Zs _ (V.self.and (Znd h)) λd H=>?_;obtain⟨W,D,c3⟩:=H;have c4:=D.ep d.length (YA _);refine V.Zs _ (Zk1 (s:=b.1) (v:=f.2) T U v3 Y Y D (show RV d d.length<(b.2.2.1.length:Int)+1by omega)).v λr y=>?_;obtain⟨u,B,C,A,I⟩:=y;rw[u,C];refine Z8.2 ⟨λm=>absurd m (by simp[ZA,Zw,Jz]),λ_=>Sx.2 (Ru.2 λ_ x1 P=>Th.2 λ_=>ZD.2 ?_)⟩;rw[show Zm (ZX (Zi (Zj (d++[B]))) 1)=d.length by simp only[Wx];rw[ZK XV];simp,WL,MK (YA _),yF]at P;cases P;show 0<=Zm (Zv (k:Int) 1)/\Zm (Zv (k:Int) 1)<=_/\((ns++[(f.1,B)]).length:Int)=Zm (Zv (k:Int) 1)/\j3 b (ns++[(f.1,B)])/\(ns++[(f.1,B)]).map (·.1)=(l.take (Zm (Zv (k:Int) 1)).toNat).map (·.1);rw[show Zm (Zv (k:Int) 1)=(k:Int)+1by simp only[Wx];exact ZK Y];refine⟨Y,Y,XV,λe c i=>?_,by rw[show((k:Int)+1).toNat=k+1by omega,NS,p,WW,WW,x];rfl⟩
  ·obtain w|w:=Rn e ns.length;·rw[VE w]at i;exact o e c i
   ·obtain rfl:e=ns.length:=by have:=(X8 i).1;simp at this;omega
    rw[MK (YA _),yF]at i;cases i;exact⟨⟨T,U⟩,A,d,W,I,Y⟩
 ·--behindthenews
  have hi:k=l.length:=Y;subst hi;rw[Ir]at x;have h6:ns.length<=16:=Y;dsimp only;refine V.Zs _ (Zps (ns:=ns) Y Y o (by rw[x];exact hd)) λg⟨Z,n,M,N⟩=>?_;rw[Z];refine Z8.2 ⟨λm=>absurd m (by simp[ZA]),λ_=>V.Zs (λ_=>True) V.true λz _=>V.Zs _ ((ZsH q (l:=ns) Y Y).and (nF q (l:=ns) Y λc j=>?_).v) λR⟨⟨S,p2⟩,p3,p4,s,⟨x1,p6⟩,p7⟩=>?_⟩;·obtain⟨e,i⟩:=ji j;obtain⟨w1,-,d,-,J,-⟩:=o e c i;have:=(J d.length c.2 Zc).2.2.2.2;omega
  obtain⟨q1,q2,q3⟩:=p7 S;rw[S];refine Z8.2 ⟨λm=>absurd m (by simp[ZA,Zw,Jz]),λ_=>?_⟩;have x0:∀d∈g.1.2,d.length<=2147483648:=λd H=>by
   obtain⟨e,i⟩:=ji H;have:=(X8 i).1;obtain⟨c,j⟩:∃c,ns[e]?=some c:=⟨_,Ve Y⟩;obtain⟨K,L,G⟩:=N e c j;rw[i]at L;cases L;obtain⟨-,w3,D,w4,-,w5⟩:=o e c j;have k1:=G.ep _ (YA _);have Q:RV (K++[c.2]) (K++[c.2]).length=c.2.2.1:=by rw[YM];simp[RV]
   omega
  refine V.Zs _ ((Znk (E:=b.2.2.1.length+1) (t:=R.2.1) (z:=z) (g:=g.1) (by rw[s,n];have:=q.2.2.2.1;omega) (by rw[s];exact h.np) (by rw[s];exact h.pf.up (LW _)) (by rw[M,n]) λe c j=>?_).and (xB (by have:=xe (a:=R.1.1) q p3 p6;rwa[<-s]at this) q1 q2 (by rw[M,n]) x0 ⟨by rw[n];omega,λc j=>?_⟩ (by rw[n,s];have:=q.2.2.2.1;omega) (by rw[s];omega)).v) λr y=>ZD.2 ?_;·rw[n]at j;obtain⟨d,X,G⟩:=N e c j;exact⟨_,X,G,by
    have Q:RV (d++[c.2]) (d++[c.2]).length=c.2.2.1:=by rw[YM];simp[RV]
    rw[Q,(o e c j).2.1];omega⟩
  ·rw[n]at j;obtain⟨e,i⟩:=ji j;obtain⟨w1,-,d,-,J,-⟩:=o e c i;have:=(J d.length c.2 Zc).2.2.2.2;omega
  ·obtain⟨⟨u,C⟩,-,-,A,-⟩:=y;exact⟨rfl,by dsimp only;rw[A];omega,u,C⟩
def rqU(qb:Int->Int)(r:Ux):Prop:=(r.1=3\/r.1=4)/\r.2.1<=qb r.1
def EU(qb:Int->Int)(s:PL)(r:Zt)(s':PL):Prop:=im s r s'/\∃c a,Kq r=some (c,a,true)/\iq (a.map (·.2.2))/\∀b∈a,rqU qb b
def VG(qb:Int->Int):PL->L Zt->PL->Prop|s,[],s'=>s'=s|s,r::R,s'=>∃a,EU qb s r a/\VG qb a R s'
def VG.snoc:∀{R}{s a b},VG U s R a->EU U a A b->VG U s (R++[A]) b|[],_,_,_,rfl,h=>⟨_,h,rfl⟩|_::_,_,_,_,⟨q,h1,h2⟩,h=>⟨q,h1,h2.snoc h⟩
def VG.mE:∀{R}{s a},VG U s R a->NY s R a|[],_,_,h=>h|_::_,_,_,⟨q,h1,h2⟩=>⟨q,h1.1,h2.mE⟩
def EU.mono{d}(j:∀i,U i<=d i){s s'}(h:EU U s A s'):EU d s A s':=by have⟨e,l,k,f,g,a⟩:=h;exact⟨e,l,k,f,g,λc b=>⟨(a c b).1,jc (a c b).2 (j _)⟩⟩
def VG.mono{c}(b:∀i,U i<=c i):∀{R}{s a},VG U s R a->VG c s R a|[],_,_,h=>h|_::_,_,_,⟨q,h1,h2⟩=>⟨q,h1.mono b,h2.mono b⟩
structure UI(qb:Int->Int)(s:PL):Prop where ei:EI s.1le:s.1.2.2.1.length<=8mp:∀k v,XJ k s.2.2=some v->v.1<=qb k/\1<=v.2/\v.2<=s.1.2.2.1.length
def UI.s0{qb}{seed}:UI qb (s0 seed):=⟨⟨Gv,W7 _,(λe c a=>by cases a),λf b=>by cases b⟩,W7 _,λd v a=>by cases a⟩
def dA{k}{v:Int×Int}{e}:∀{l}{a},XJ k (JK a l e)=some v->(∃q∈l,q.1=k/\v=(q.2.1,e))\/XJ k a=some v
 |[],_,h=>.inr h|q::l,a,h=>by
  obtain⟨d,c,w⟩|w:=dA (l:=l) h;·grind
  ·by_cases b:k=q.1;·subst b;rw[dt]at w;exact .inl ⟨q,XQ,rfl,Zp⟩
   ·rw[dq b]at w;exact .inr w
def UI.step{qb}{s s'}{r}(h:UI qb s)(k:EU qb s r s'):UI qb s':=by
 obtain⟨⟨⟨t,p,c,i,l,m,b,rfl⟩,-⟩,u,q,a,e,f⟩:=k;rw[i]at a;cases a;have⟨x,n⟩:=((BJ h.ei.si Y).v _ b).2.2.1 rfl;have o:c.2.2.1.length=s.1.2.2.1.length+1:=by grind
 refine⟨(ZcE h.ei Y e _ b).2,Zp,λk v d=>?_⟩;show v.1<=_/\1<=v.2/\v.2<=c.2.2.1.length;obtain⟨j,g,rfl,rfl⟩|w:=dA d;·exact⟨(f j g).2,Y,Zc⟩
 ·have:=h.mp k v w;omega
def VG.ui:∀{R}{s a},UI U s->VG U s R a->UI U a|[],_,_,h,rfl=>h|_::_,_,_,h,⟨q,h1,h2⟩=>h2.ui (h.step h1)
def BU(qb:Int->Int)(R:L Zt)(b:Zt):Prop:=∃a c,VG qb (s0 Wa) R a/\EU qb a b c
def BU.mono{b}(a:∀i,U i<=b i)(h:BU U D A):BU b D A:=by have⟨e,f,c,d⟩:=h;exact⟨e,f,c.mono a,d.mono a⟩
def VG.ext{qb}:∀{X R}{s},VG qb (Go.R.s0 Wa) R s->EF (BU qb) R X->∃s',VG qb (Go.R.s0 Wa) (R++X) s'|[],R,s,h,_=>⟨s,Zp⟩|b::X,R,s,h,⟨⟨c,d,h1,h2⟩,k⟩=>by have⟨s',a⟩:=VG.ext (h1.snoc h2) k;exact⟨s',Xk⟩
def PV.mono{k}{B B'}{d}(h:PV k f B D c P d)(a:∀b,B b->B' b):PV k f B' D c P d:=⟨h.1,h.2.1,h.2.2.1.mono a,h.2.2.2⟩
def XE.mono{B'}{ds}(h:XE F B f c a K D E ds G H g I z e)(j:∀D b,F D b->B' D b):XE B' B f c a K D E ds G H g I z e:=by have⟨d,k,i,l,m,n⟩:=h.pr;exact⟨h.cb,h.dv,h.ne,h.d1,h.d2,⟨d,k,i,l,m.mono λb=>j D b,n⟩,h.rp,h.ni,h.cl,h.hg⟩
def WI(qb:Int->Int)(p:Yz):Prop:=BI p/\∀a∈p.2.2.2.2.2.1,rqU qb a
def WI.mono{c}(e:∀i,U i<=c i)(h:WI U d):WI c d:=⟨h.1,λb a=>⟨(h.2 b a).1,jc (h.2 b a).2 (e _)⟩⟩
def ZAV.eq{s}(e:ZAV Wa D d)(h:VG U (s0 Wa) D s)(c:d.2.2.2.2.2.2=0):UB d=s:=by obtain⟨i,j,k,a,f,-,-,g⟩:=e;obtain⟨rfl,b⟩:=g c;rw[XX]at a;subst a;rw[b];exact UU.uniq f h.mE.rec
def Zop{t}{l}(a:l.length<=16)(h:∀q∈l,Pr q)(d:1<=t/\t<2147483648):Kq (Uj t l)=some (t,l,true):=by obtain⟨e,c,-,-,q⟩:=nr (b:=Uj t l) (by have:=qO (t:=t) a h;omega);rw[c,q t l a h Y Y rfl]
def Zdf{p}{t}{s}(e:VG U (s0 Wa) D s)(q:ZAV Wa D p)(r:PI S4 p)(u:WI U p)(h:RG p.2.2.2.1 t)(o:p.2.2.1.2.2.1.length<8)(n:p.2.2.2.2.2.2=0):BU U D (Uj t p.2.2.2.2.2.1)/\∃c,QI p.2.2.1 (p.2.2.2.2.2.1.map (·.2.2))=some (c,0):=by have a:=q.eq e n;obtain⟨-,v,-,-,-,k,i⟩:=r;obtain⟨⟨w,x,y⟩,z⟩:=u;have b:iq (p.2.2.2.2.2.1.map (·.2.2)):=⟨by simpa using k,λB b=>by obtain⟨j,g,rfl⟩:=VR b;exact⟨y j g,(i j g).2.2.1,(i j g).2.2.2⟩,by rw[List.map_map];exact x⟩;obtain⟨l,d,-⟩:=BJ v Y;obtain⟨m,-⟩:=ZcE (by have:=(VG.ui UI.s0 e).ei;rwa[<-a]at this) Y b l d;obtain⟨c,A⟩:=l;subst m;have f:=Zop (t:=t) k i ⟨h.1,h.2.1⟩;refine⟨⟨s,_,e,⟨⟨t,_,c,f,by rw[<-a];exact h,by rw[<-a];exact o,by rw[<-a];exact d,rfl⟩,t,_,f,by rw[<-a];exact w⟩,t,_,f,b,z⟩,c,d⟩
def EX(w r:ZP):Prop:=w.1<+:r.1
def EX.refl:EX s s:=List.prefix_refl _
def EX.t{b c}(h:EX s b)(k:EX b c):EX s c:=List.IsPrefix.trans h k
def zb{x}:V (KF s x p) (EX s):=by refine Z8.2 ⟨λ_=>ZD.2 EX.refl,λ_=>V.Zs _ (V.lp (λb=>EX s b.2) EX.refl λb a=>Z8.2 ⟨λ_=>L6.2 λ_=>Th.2 λ_=>ZD.2 (a.t (List.prefix_append _ _)),λ_=>ZD.2 a⟩) λb a=>ZD.2 a⟩
def kJ:V (Ep s p M) λr=>EX s r.1:=by refine V.Zs _ V.true λ_ _=>V.Zs _ (Z8.2 ⟨λ_=>ZD.2 EX.refl,λ_=>ZD.2 EX.refl⟩) λr a=>ZD.2 a
def cq:V (Tp s A) (EX s):=by exact V.Zs _ (Z8.2 ⟨λ_=>Th.2 λ_=>ZD.2 (List.prefix_append _ _),λ_=>ZD.2 EX.refl⟩) λb a=>ZD.2 a
def Zl2{x}:V (S6 s x) (EX s):=by exact V.Zs _ zb λb a=>ZD.2 a
def BN:V (Px s p) (EX s):=by exact V.Zs _ kJ λc a=>V.Zs _ (Z8.2 ⟨λ_=>V.Zs _ zb λd b=>ZD.2 (a.t b),λ_=>ZD.2 a⟩) λc a=>ZD.2 a
def Zl1:V (yh s p) (EX s):=by exact V.Zs _ kJ λc a=>V.Zs _ (Z8.2 ⟨λ_=>V.Zs _ zb λd b=>ZD.2 (a.t b),λ_=>ZD.2 a⟩) λc a=>ZD.2 a
def Znl:V (Oh s p) (EX s):=by exact V.Zs _ kJ λc a=>V.Zs _ (Z8.2 ⟨λ_=>V.Zs _ zb λd b=>ZD.2 (a.t b),λ_=>ZD.2 a⟩) λc a=>ZD.2 a
def Zje:V (NO s A) (EX s):=by exact V.Zs _ kJ λd a=>V.Zs _ (Z8.2 ⟨λ_=>V.Zs _ zb λe b=>V.Zs _ cq λf c=>ZD.2 ((a.t b).t c),λ_=>ZD.2 a⟩) λd a=>ZD.2 a
def Zo4:V (yg s P) (EX s):=by exact V.Zs _ V.true λ_ _=>V.Zs _ zb λb a=>ZD.2 a
def uY:V (Hf s) (EX s):=by exact V.Zs _ BN λb a=>ZD.2 a
def DQ:V (Qk s p) (EX s):=by exact V.Zs _ V.true λ_ _=>Z8.2 ⟨λ_=>V.Zs _ uY λb a=>ZD.2 a,λ_=>V.Zs _ Zl2 λb a=>ZD.2 a⟩
def ZqG:V (DM s p) (EX s):=by exact V.Zs _ V.true λ_ _=>Z8.2 ⟨λ_=>V.Zs _ uY λb a=>ZD.2 a,λ_=>V.Zs _ BN λb a=>ZD.2 a⟩
def oN:V (Lj s A) (EX s):=by exact Z8.2 ⟨λ_=>V.Zs _ uY λb a=>ZD.2 a,λ_=>V.Zs _ Zje λb a=>ZD.2 a⟩
def Nw:V (Pl s J) (EX s):=by exact L6.2 λ_=>V.Zs _ cq λb a=>ZD.2 a
def ZpD{x}:V (Fi s x) (EX s):=by exact V.Zs _ V.true λ_ _=>Z8.2 ⟨λ_=>V.Zs _ BN λc a=>ZD.2 a,λ_=>V.Zs _ cq λc a=>V.Zs _ Zje λd b=>ZD.2 (a.t b)⟩
def wX{f:ZP->l->Zg ZP}(c:∀s x,V (f s x) (EX s)):V (O (Oh s (Zi (Zj r))) λh=>O (YE (λa=>Zf (ZC a.1 (Zi (Zj r))) (O (ZF r a.1) λi=>O (f a.2 i) λj=>some (.next (Zm (Zv a.1 1),j))) (some (.brk a))) (0,h)) λk=>some k.2) (EX s):=V.Zs _ Znl λn e=>V.Zs _ (V.lp _ e λg b=>Z8.2 ⟨λ_=>Sx.2 (Ru.2 λ_ x _=>V.Zs _ (c _ x) λm d=>ZD.2 (b.t d)),λ_=>ZD.2 b⟩) λg b=>ZD.2 b
def du{x}:V (AZ s x) (EX s):=by exact wX λ_ _=>Nw
def ZfM{x}:V (vq s x) (EX s):=by exact V.Zs _ du λd b=>V.Zs _ du λc a=>ZD.2 (b.t a)
def dC{x}:V (AY s x) (EX s):=by exact V.Zs _ V.true λ_ _=>Z8.2 ⟨λ_=>V.Zs _ uY λc a=>ZD.2 a,λ_=>V.Zs _ Zl1 λc a=>V.Zs _ Nw λd b=>ZD.2 (a.t b)⟩
def ZqV{x}:V (oB s x) (EX s):=by exact V.Zs _ dC λd b=>V.Zs _ Nw λc a=>ZD.2 (b.t a)
def ZqX{x}:V (vz s x) (EX s):=by exact wX λ_ _=>ZqV
def ZqO{x}:V (vo s x) (EX s):=by refine V.Zs _ ZqX λl c=>V.Zs _ (Z8.2 ⟨λ_=>V.Zs _ BN λf a=>ZD.2 (c.t a),λ_=>V.Zs _ (Z8.2 ⟨λ_=>V.Zs _ BN λf a=>V.Zs _ Nw λi d=>V.Zs _ Nw λj e=>ZD.2 (((c.t a).t d).t e),λ_=>V.Zs _ (Z8.2 ⟨λ_=>V.Zs _ BN λf a=>V.Zs _ dC λi d=>V.Zs _ Nw λj e=>V.Zs _ Nw λk h=>ZD.2 ((((c.t a).t d).t e).t h),λ_=>V.Zs _ uY λf a=>ZD.2 (c.t a)⟩) λg b=>ZD.2 b⟩) λg b=>ZD.2 b⟩) λg b=>ZD.2 b
def ZfQ{x}:V (vr s x) (EX s):=by exact V.Zs _ DQ λf a=>V.Zs _ DQ λg b=>V.Zs _ Nw λh c=>V.Zs _ Nw λi d=>V.Zs _ oN λj e=>ZD.2 ((((a.t b).t c).t d).t e)
def ZqY:V (oF s Z) (EX s):=by exact wX λ_ _=>ZfQ
def ZqT{x}:V (vp s x) (EX s):=by exact V.Zs _ Zo4 λg c=>Z8.2 ⟨λ_=>V.Zs _ Nw λd a=>V.Zs _ Nw λe b=>ZD.2 ((c.t a).t b),λ_=>V.Zs _ dC λd a=>V.Zs _ Nw λe b=>V.Zs _ Nw λh f=>ZD.2 (((c.t a).t b).t f)⟩
def ZqU{x}:V (A7 s x) (EX s):=by exact wX λ_ _=>ZqT
def ZqI{x}:V (oA s x) (EX s):=by exact V.Zs _ oN λd b=>V.Zs _ ZfQ λc a=>ZD.2 (b.t a)
def ZqJ{x}:V (A8 s x) (EX s):=by exact wX λ_ _=>ZqI
def PY{o}{k}(h:V o (EX s))(a:V k λu=>EX s u.1):V (Zf P (O o λx=>some (x,C)) (O k λy=>some y)) λu=>EX s u.1:=Z8.2 ⟨λ_=>V.Zs _ h λd b=>ZD.2 b,λ_=>V.Zs _ a λu c=>ZD.2 c⟩
def ZoX:V (SW s C p) (EX s):=by exact V.Zs _ (PY DQ (PY DQ (PY DQ (PY DQ (PY DQ (PY ZqG (PY oN (PY oN (PY ZpD (PY ZfM (PY ZfM (PY Nw (PY ZqO (PY ZqY (PY ZqU (PY ZqJ (Z8.2 ⟨λ_=>V.Zs _ du λc a=>ZD.2 a,λ_=>ZD.2 EX.refl⟩))))))))))))))))) λd b=>ZD.2 b
def ZoZ:V (Mm p) λl=>Fz l=false->1<=p/\p<=8:=by unfold Mm;simp[Vx,Wx];refine⟨?_,?_⟩<;>(omega)<;>first|simp|simp
def Zb6:V (UP C) λo=>o.2=0->(1<=C.1/\C.1<=8)/\∃l,o.1=BitVec.ofInt 8 C.1::l:=by unfold UP;refine V.Zs _ ZoZ λl f=>Z8.2 ⟨λ_=>ZD.2 λb=>(by cases b),λd=>?_⟩;have e:=f d;rw[be (yc (x:=C.1) (k:=BitVec.ofInt 8 C.1) XV Zc)];refine V.Zs (λa=>EX ([BitVec.ofInt 8 C.1],false) a.2.2) (V.lp (λa=>EX _ a.2.2) EX.refl λa c=>Z8.2 ⟨λ_=>Sx.2 (Ru.2 λ_ x _=>V.Zs (λ_=>True) V.true λ_ _=>Z8.2 ⟨λ_=>ZD.2 c,λ_=>V.Zs _ ZoX λj g=>ZD.2 (c.t g)⟩),λ_=>ZD.2 c⟩) λa⟨t,h⟩=>?_;·refine V.Zs (λo=>o.2=0->o.1=a.2.2.1) ?_ λo i=>Z8.2 ⟨λ_=>ZD.2 λb=>(by cases b),λd=>ZD.2 λ_=>⟨e,⟨t,Xk⟩⟩⟩;·unfold QU;exact Z8.2 ⟨λ_=>ZD.2 λb=>(by cases b),λ_=>Th.2 λ_=>ZD.2 λ_=>rfl⟩
def Zo7{g:l->ZP×Yy}{z}(a:∀x,(g x).2.1=p)(b:V z λu=>u.2.1=p):V (Zf P (O o λx=>some (g x)) (O z λy=>some y)) λu=>u.2.1=p:=Z8.2 ⟨λ_=>V.Zs _ V.true λd _=>ZD.2 (a d),λ_=>V.Zs _ b λu c=>ZD.2 c⟩
def ZnX:V (RZ s C p) λr=>r.2.1=C.1:=by
 refine V.Zs _ ?_ λb a=>ZD.2 a;iterate 16refine Zo7 (λ_=>rfl) ?_
 exact Z8.2 ⟨λ_=>V.Zs _ V.true λr _=>ZD.2 rfl,λ_=>ZD.2 rfl⟩
def Zb1{x}:V (RY (x::A)) λo=>o.2=0->o.1.1=x.toNat:=by refine V.Zs _ (Th.2 λ_=>ZD.2 rfl) λm g=>?_;subst g;refine V.Zs _ (uq (Q:=λc=>c.2=x.toNat) Zc λn k h=>Zp).v λc f=>?_;rw[f];refine V.Zs _ V.true λj _=>Z8.2 ⟨λ_=>ZD.2 λd=>Y,λ_=>V.Zs (λb=>b.2.1.1=x.toNat) (V.lp (λb=>b.2.1.1=x.toNat) rfl λb a=>Z8.2 ⟨λ_=>Sx.2 (Ru.2 λ_ i _=>V.Zs _ V.true λ_ _=>Z8.2 ⟨λ_=>ZD.2 a,λ_=>V.Zs _ ZnX λl e=>ZD.2 (e.trans a)⟩),λ_=>ZD.2 a⟩) λb a=>V.Zs _ V.true λ_ _=>Z8.2 ⟨λ_=>ZD.2 λd=>Y,λ_=>ZD.2 λ_=>a⟩⟩
def Zjc(h:C.1≠4):Fv C p=some false:=by unfold Fv;simp[Wx];simp[h]
def zk{X:Nat->Zt}(a:∀i,(X i).length<=200):∀i,(((List.range i).map X).flatten).length<=200*i|0=>Zc|i+1=>by have:=zk a i;rw[yB,WW,C0];grind
def Zb5{fs}{X:Nat->Zt}(r:1<=C.1/\C.1<=8)(h:C.1≠4)(m:Mm C.1=some fs)(n:fs≠[])(s:fs.length<=12)(j:∀(i)(f),fs[i]?=some f->∀l,l.length<=3000->SW (l,false) C f=some (l++X i,false))(g:∀i,(X i).length<=200):UP C=some (BitVec.ofInt 8 C.1::((List.range fs.length).map X).flatten,0):=by
 refine Vp ?_;unfold UP;rw[be m];refine Zr ⟨λb=>by cases fs<;>simp[Fz]at b n,λ_=>?_⟩;rw[be (yc (x:=C.1) (k:=BitVec.ofInt 8 C.1) XV Zc)];refine W.Zs (λa=>a.2.2=(BitVec.ofInt 8 C.1::((List.range fs.length).map X).flatten,false)) (L8 (λa=>∃i:Nat,i<=fs.length/\a=((i:Int),C,(BitVec.ofInt 8 C.1::((List.range i).map X).flatten,false))) (λa=>(fs.length-a.1).toNat) ⟨0,Y,rfl⟩ ZB λa c=>?_) λa c=>?_
 ·obtain⟨i,q,rfl⟩:=c;have o:=zk g i;refine Zr ⟨λb=>?_,λb=>Zb ?_⟩<;>simp only[Wx]at b;·have e:i<fs.length:=Y;have d:=Ve e;rw[gt d,be (Zjc h)];refine Zr ⟨λp=>(by cases p),λ_=>?_⟩;rw[be (j i _ d _ (by rw[Wl];omega))];refine Zb ⟨⟨i+1,e,by rw[wS ZB,yB,WW,C0];simp⟩,by dsimp only;rw[wS Y];omega⟩
  ·rw[show i=fs.length by omega];exact rfl
 ·have o:=zk g fs.length;rw[c,be (Ig (by rw[Wl];omega))];exact Zr ⟨λb=>by simp only[Wx]at b,λ_=>Zb rfl⟩
abbrev Mn(k:Int):Yy:=(k,0,0,0,0,0,0,[],[],z0,([],[]),([],[]),zH,z1,[],[],[],[])
def Zb0{k}{fs}{X:Nat->Zt}{M:Nat->Yy}(p:(k.toNat:Int)≠4)(u:Mm k.toNat=some fs)(w:fs≠[])(D:fs.length<=12)(o:M 0=Mn k.toNat)(r:∀i,(M i).1=k.toNat)(q:∀(i)(f),fs[i]?=some f->∀l,l.length<=3000->RZ (X i++l,false) (M i) f=some ((l,false),M (i+1)))(v:∀i,(X i).length<=200):RY (k::((List.range fs.length).map X).flatten)=some (M fs.length,0):=by
 have s:∀i,i<fs.length->(((List.range fs.length).drop i).map X).flatten=X i++(((List.range fs.length).drop (i+1)).map X).flatten:=λi j=>by rw[KL (by simpa using j)];simp
 have h:∀i,(((List.range fs.length).drop i).map X).flatten.length<=2400:=λi=>by
  have C:=zk v fs.length;have:((List.range fs.length).map X).flatten.length=(((List.range fs.length).take i).map X).flatten.length+(((List.range fs.length).drop i).map X).flatten.length:=by rw[<-YM,<-C0,<-WW,TM]
  omega
 refine Vp ?_;unfold RY;refine W.Zs (λn=>n=(k::((List.range fs.length).map X).flatten,false)) (Xi ⟨by have:=h 0;simp at this⊢;omega,Zb rfl⟩) λn y=>?_;subst y;refine W.Zs _ (uq (Q:=λm=>m=((((List.range fs.length).map X).flatten,false),(k.toNat:Int))) Zc λF E c=>by cases c;rfl) λm x=>?_;subst x;rw[be u];refine Zr ⟨λb=>by cases fs<;>simp[Fz]at b w,λ_=>W.Zs (λa=>a.2.1=M fs.length/\a.2.2=([],false)) (L8 (λa=>∃i:Nat,i<=fs.length/\a=((i:Int),M i,((((List.range fs.length).drop i).map X).flatten,false))) (λa=>(fs.length-a.1).toNat) ⟨0,Y,by rw[o];rfl⟩ ZB λa e=>?_) λa e=>?_⟩
 ·obtain⟨i,j,rfl⟩:=e;refine Zr ⟨λb=>?_,λb=>Zb ?_⟩<;>simp only[Wx]at b;·have d:i<fs.length:=Y;have c:=Ve d;rw[gt c,be (Zjc (by rw[r];exact p))];refine Zr ⟨λz=>(by cases z),λ_=>?_⟩;rw[s i d,be (q i _ c _ (by have:=h (i+1);omega))];refine Zb ⟨⟨i+1,d,by rw[wS ZB];rfl⟩,by dsimp only;rw[wS Y];omega⟩
  ·rw[show i=fs.length by omega];exact⟨rfl,by dsimp only;rw[QZ Zc];rfl⟩
 ·obtain⟨A,B⟩:=e;rw[A,B];refine W.Zs (λg=>g=true) (by unfold LJ QT Em;simp only[Wx];simp) λg t=>by subst t;exact Zr ⟨λb=>absurd b (by simp[ZA]),λ_=>Zb rfl⟩
def bA{a}{f}{g:y->Zg a}:O (O o f) g=O o λx=>O (f x) g:=by simp[BS];cases o<;>rfl
def bI:O o some=o:=by rw[BS];cases o<;>rfl
def Np(h:p≠M):Zw p M=false:=Zp
def PX:Zw p p=true:=Zc
def ef0:SW s C 0=Qk s C.2.1:=by unfold SW;rw[PX,XD,bA];simp[bs,bI]
def ef1:SW s C 1=Qk s C.2.2.1:=by unfold SW;rw[Np Zc,Xp,PX,XD];simp[bA,bs,bI]
def ef2:SW s C 2=Qk s C.2.2.2.1:=by
 unfold SW;iterate 2rw[Np Zc,Xp]
 rw[PX,XD];simp[bA,bs,bI]
def ef3:SW s C 3=Qk s C.2.2.2.2.1:=by
 unfold SW;iterate 3rw[Np Zc,Xp]
 rw[PX,XD];simp[bA,bs,bI]
def ef5:SW s C 5=DM s C.2.2.2.2.2.2.1:=by
 unfold SW;iterate 5rw[Np Zc,Xp]
 rw[PX,XD];simp[bA,bs,bI]
def ef6:SW s C 6=Lj s C.2.2.2.2.2.2.2.1:=by
 unfold SW;iterate 6rw[Np Zc,Xp]
 rw[PX,XD];simp[bA,bs,bI]
def ef7:SW s C 7=Lj s C.2.2.2.2.2.2.2.2.1:=by
 unfold SW;iterate 7rw[Np Zc,Xp]
 rw[PX,XD];simp[bA,bs,bI]
def df0:RZ s C 0=O (SU s) λx=>some (x.1,C.1,x.2,C.2.2):=by unfold RZ;rw[PX,XD];simp[bA,bs]
def df1:RZ s C 1=O (SU s) λx=>some (x.1,C.1,C.2.1,x.2,C.2.2.2):=by unfold RZ;rw[Np Zc,Xp,PX,XD];simp[bA,bs]
def df2:RZ s C 2=O (SU s) λx=>some (x.1,C.1,C.2.1,C.2.2.1,x.2,C.2.2.2.2):=by
 unfold RZ;iterate 2rw[Np Zc,Xp]
 rw[PX,XD];simp[bA,bs]
def df3:RZ s C 3=O (SU s) λx=>some (x.1,C.1,C.2.1,C.2.2.1,C.2.2.2.1,x.2,C.2.2.2.2.2):=by
 unfold RZ;iterate 3rw[Np Zc,Xp]
 rw[PX,XD];simp[bA,bs]
def df5:RZ s C 5=O (DK s) λx=>some (x.1,C.1,C.2.1,C.2.2.1,C.2.2.2.1,C.2.2.2.2.1,C.2.2.2.2.2.1,x.2,C.2.2.2.2.2.2.2):=by
 unfold RZ;iterate 5rw[Np Zc,Xp]
 rw[PX,XD];simp[bA,bs]
def df6:RZ s C 6=O (Ml s) λx=>some (x.1,C.1,C.2.1,C.2.2.1,C.2.2.2.1,C.2.2.2.2.1,C.2.2.2.2.2.1,C.2.2.2.2.2.2.1,x.2,C.2.2.2.2.2.2.2.2):=by
 unfold RZ;iterate 6rw[Np Zc,Xp]
 rw[PX,XD];simp[bA,bs]
def df7:RZ s C 7=O (Ml s) λx=>some (x.1,C.1,C.2.1,C.2.2.1,C.2.2.2.1,C.2.2.2.2.1,C.2.2.2.2.2.1,C.2.2.2.2.2.2.1,C.2.2.2.2.2.2.2.1,x.2,C.2.2.2.2.2.2.2.2.2):=by
 unfold RZ;iterate 7rw[Np Zc,Xp]
 rw[PX,XD];simp[bA,bs]
end Go.R
