import Derived.Test.YtnboodbndkcnaaaGreatDoorG9
set_option linter.all false
set_option maxRecDepth 100000
namespace Go.R
open Go.Sl
section
open Go.Proofs
def ry(K:KK)(t:Ty):L (L Value)->L t.den->Prop:=F2 λa b=>rel K t [] a b
def F2.Zj0{α β}{P}:∀(i){xs:L α}{ys:L β},F2 P xs ys->F2 P (xs.take i) (ys.take i)|0,_,_,_=>by simp[F2]|_+1,[],_,h=>by cases h;simp[F2]|i+1,_::_,_,⟨y,ys,e,p,q⟩=>by subst e;exact⟨y,_,rfl,p,F2.Zj0 i q⟩
def F2.ZdR{α β}{P}:∀(i){xs:L α}{ys:L β},F2 P xs ys->F2 P (xs.drop i) (ys.drop i)|0,_,_,h=>h|_+1,[],_,h=>by cases h;simp[F2]|i+1,_::_,_,⟨y,ys,e,p,q⟩=>by subst e;exact F2.ZdR i q
def F2.Vm{α β}{P}:∀{xs}{ys:L β}{a:L α}{vs},F2 P xs ys->F2 P a vs->F2 P (xs++a) (ys++vs)|[],_,_,_,h,k=>by cases h;exact k|_::_,_,_,_,⟨y,ys,e,p,q⟩,k=>by subst e;exact⟨y,_,rfl,p,F2.Vm q k⟩
def F2.AN{α β}{P}:∀{xs:L α}{ys:L β},F2 P xs ys->xs.length=ys.length|[],_,h=>by cases h;rfl|_::_,_,⟨y,ys,e,p,q⟩=>by subst e;simp[F2.AN q]
abbrev uO(n:Nat):Z1 (L Value):=ND true n nofun
def Zh9{K}{t}(a:∀hs cs x,rel K t hs cs x->hs=[]):∀{xs}{hs}{cs},Row t.n (rel K t) hs cs xs->∃rs,Xm (uO t.n) K.m cs rs/\ry K t rs xs|[],_,_,h=>⟨[],h.1,rfl⟩|x::xs,_,_,⟨c,c',g,f,e,_,l,p,q⟩=>by obtain⟨rs,b,d⟩:=Zh9 a q;obtain rfl:=a _ _ _ p;exact⟨c::rs,⟨c,c',e,⟨rfl,l,Qn p⟩,b⟩,x,xs,rfl,p,d⟩
def Zia{K}{t}{m}:∀{rs}{xs}{cs},Xm (uO t.n) m cs rs->ry K t rs xs->Row t.n (rel K t) [] cs xs|[],_,_,h,k=>by cases k;exact⟨h,rfl⟩|_::_,_,_,⟨c,c',e,p,q⟩,⟨y,ys,a,p2,d⟩=>by subst a;obtain⟨rfl,b,_⟩:=p;exact⟨_,c',[],[],e,rfl,b,p2,Zia q d⟩
def ZdG{f}{t}(x1:Jk Tryz.prog f=true)(V:∀K hs cs x,rel K t hs cs x->hs=[])(hc:∀(T)(ps)(i j:Nat)(v),i<=j->j<=ps.length->Gk Tryz.prog GT f [ov v,i64.slot i,i64.slot j] [own T (uO t.n) v ps] (λO=>ov O) λO=>[own T (uO t.n) O (ps.take i++ps.drop j)]):U4 Z0 ⟨f,a3 (.full t) .int .int,[],a1 (.full t),[],L t.den,false,λa _=>Am a.1 a.2.1 a.2.2.1,λr=>((r,()),())⟩:=by
 refine⟨x1,λa x r q K hA s y cs vs z w yf hv xi yt y8=>?_⟩;obtain⟨l,i,j,⟨⟩⟩:=a;have q:Am l i j=some r:=q;unfold Am at q;split at q;case isFalse=>cases q
 rename_i J;cases q;obtain⟨i,rfl⟩:=Qt J.1;obtain⟨j,rfl⟩:=Qt (jc J.1 J.2.1);have h1:i<=j:=Y;have h2:j<=l.length:=Y;rw[WL,WL];obtain⟨c1,xv,v,yy,rfl,rfl,x6,rfl,c2,xx,v2,z0,rfl,rfl,x7,rfl,c3,y0,v3,z1,rfl,rfl,x8,rfl,rfl,rfl⟩:=hv;obtain⟨A,y5,d1,y1,rfl,G,S,R,y6,d2,y2,rfl,rfl,⟨rfl,rfl⟩,g3,y7,d3,y3,rfl,rfl,⟨rfl,rfl⟩,rfl,rfl⟩:=xi;obtain⟨rfl,e1⟩:=MJ G (by rw[x6];exact(WU S).symm);obtain⟨rfl,e2⟩:=MJ e1 (by rw[x7];rfl);obtain⟨rfl,e3⟩:=MJ e2 (by rw[x8];rfl);obtain⟨v,T,h,o,rfl,W,H,x5,x0⟩:∃v T h o,c1=[v]/\(own T (uO t.n) v h).p K.m o/\ry K t h l/\Go.Sl.Good K.m o z/\Hp.bs o=HP.bs A:=by
  obtain⟨rfl,rfl,E,rfl⟩|⟨b,T,F,e,g,h',rfl,rfl,D,I,xs⟩:=S;·exact⟨_,0,[],[],rfl,.inl ⟨rfl,rfl,E,rfl⟩,rfl,⟨w.mem,by simp[Hp.bs],Zc,Zc⟩,rfl⟩
  ·obtain rfl:h'=[]:=Row.Kn (V K) D;obtain⟨h,r1,N⟩:=Zh9 (V K) D;refine⟨_,T,h,[(b,T,e++g)],rfl,.inr ⟨b,F,e,g,by rw[F2.AN N],rfl,r1,by rw[F2.AN N];exact I,xs⟩,N,⟨w.mem,by simp[Hp.bs],λx k=>?_,λx k=>?_⟩,rfl⟩;·rw[YV k];exact w.Xb (b,0,cellsOf (e++g) T) Zc
   ·intro M;rw[YV k];exact w.free (b,0,cellsOf (e++g) T) Zc M (W7 _)
 have x3:GD K.m (A++(s++y)) z:=w.perm (by classical rw[VX];intro Z;simp only[VU,O6];omega);refine(hc T h i j v h1 (by rw[F2.AN H];exact h2) K.m z [v,.int .i64 (i:Int),.int .i64 (j:Int)] o x5 trivial ⟨v,_,rfl,JP.2 ⟨rfl,own.one W⟩,_,_,rfl,Vj.2 rfl,_,_,rfl,Vj.2 rfl,rfl⟩ ⟨o,[],(XX _).symm,W,rfl⟩).mono ?_;rintro y4 P⟨n,m,ys,yv,rfl,C,xa,⟨q1,q2,Q,xb,rfl⟩,B⟩;refine⟨n,rfl,?_⟩;rw[XX]at Q;subst Q;obtain rfl:=(JP.1 xa).1;have U:K.le ⟨K.nm,K.fm,m⟩:=⟨λ_ _ c=>c,λ_ _ _ c=>c,B.le⟩;have u:ry ⟨K.nm,K.fm,m⟩ t (h.take i++h.drop j) (l.take i++l.drop j):=F2.imp (λ_ _ c=>Xw U c) (F2.Vm (F2.Zj0 i H) (F2.ZdR j H));rw[x0]at B;obtain⟨d,x4,x2,xh⟩:∃d,GD m d P/\ZW z P K.m m (HP.bs A) (HP.bs d)/\rel ⟨K.nm,K.fm,m⟩ (.full t) d [n] (l.take i++l.drop j):=by
  obtain⟨G,rfl,E,rfl⟩|⟨b,F,e,g,rfl,rfl,D,I,x9⟩:=xb;·rw[G]at u;exact⟨[],⟨C.mem,by simp[HP.bs],Zc,Zc⟩,B,.inl ⟨u,rfl,E,rfl⟩⟩
  ·refine⟨[(b,0,cellsOf (e++g) T)],⟨C.mem,by simp[HP.bs],λx k=>?_,λx k M _=>?_⟩,B,.inr ⟨b,T,F,e,g,[],by rw[F2.AN u],rfl,Zia D u,by rw[<-F2.AN u];exact I,x9⟩⟩;·rw[YV k];exact C.Xb (b,T,e++g) Zc
   ·rw[YV k];exact C.free (b,T,e++g) Zc M
 obtain⟨R,f2⟩:=GD.frame x3 x4 x2;have X:(d++(s++y)).Perm (d++[]++y++s):=by classical rw[VX];intro Z;simp only[VU,O6];omega
 refine⟨⟨K.nm,K.fm,m⟩,d,[],U,rfl,⟨[n],[n],rfl,⟨[n],[],n,[],rfl,rfl,rfl,rfl,rfl,rfl⟩,⟨d,[],[n],[],Zc,Zc,xh,rfl,rfl⟩⟩,λ_=>⟨(R.perm X).left,?_,trivial,λ_ _ _ c=>(by cases c),λ_ _=>rfl⟩,λc=>by cases c⟩;have f3:=ZW.Od X (show ZW z P K.m m (HP.bs (A++(s++y))) (HP.bs (d++(s++y)))from f2);refine(ZW.Qm ?_ f3).sub λbb hb=>?_;·classical rw[VX];intro Z;simp only[VU,O6];omega
 ·rw[HP.Wo];exact Ym (.inl hb)
def ZnN:U4 Z0 ⟨64,a3 (.full (.pair .int (.YT 6 (.full (.un .u8 8))))) .int .int,[],a1 (.full (.pair .int (.YT 6 (.full (.un .u8 8))))),[],_,false,λa _=>Am a.1 a.2.1 a.2.2.1,λr=>((r,()),())⟩:=ZdG ZV λg n k s⟨l,m,i,j,b,_,e,f⟩=>by rw[b,e.1,f.1];rfl λh q o p v c d=>Go.Sl.ZmY c d
end
end Go.R
