import Derived.WideKeyRuns
import Derived.Test.YtnboodbndkcnaaaGreatDoorG2
set_option linter.all false
namespace Go.Sl
def VR:=@List.count_append
def VS:=@List.perm_iff_count
def RN:=@decide_eq_true
def Ok:=@List.count_nil
def NK:=@List.append_inj
def MR:=@List.eq_nil_of_length_eq_zero
def Jj:=@List.length_map
def Iy:=@Ne.symm
def IA:=@of_decide_eq_true
def Gx:=@Bool.or_eq_true
def Da:=@List.mem_cons
def BB:=λ{a b c}=>(@List.any_eq_true a b c).2
def wu:=@Array.toList_map
def wE:=@List.getElem?_set
def wF:=λ{a b}=>(@List.isEmpty_iff a b).1
def wW:=@eq_of_heq
def oV:=@Array.getElem?_modify
def nj:=λ{a b c}=>(@List.any_eq_true a b c).1
def nr:=@List.flatten_append
def ny:=@Go.MapKept.run_getObj_map
def nB:=@Nat.lt_succ_self
def dP:=λ{a b}=>(@List.length_eq_zero_iff a b).1
def dX:=@Go.MapKept.run_checkKey
end Go.Sl
namespace Go.R
open Go.Sl
section
variable{R:Type}{Z:Xq}{e:En}{b:Bx}{n:Nat}{k:Wc->Option R}{r:R}{x y z:Operand}{d:Option Tmp}{ty T S:TypeId}{pos:String}{aft:Array Edge}{g:Option (Nat×Bool)}{f:Nat}
theorem Qg{P}{w}{a:Act}{a0}(hx:a.eval x=.pointer (some a0)):(execOp a.eval ⟨d,.nilCheck x,ty,pos,aft,g⟩).run P w=.ok (.value (.pointer (some a0))) w:=by simp only[execOp,hx];rfl
theorem zA{K}{H}{j}{u:Unit}{val}(h:K.nm j=some val)(a:val.oneCell'=true):YU K H (.v ⟨.hole j,u⟩) val:=⟨[val],⟨rfl,val,h,rfl,a⟩,rfl⟩
theorem ZlF(h:jW b n k (ZW e x)=some r):W4 Z ⟨d,.nilCheck x,ty,pos,aft,g⟩ e b n k r:=by
 unfold jW at h;split at h
 ·rename_i xv X i;split at h;·rename_i H y B;refine⟨_,h,⟨YG _,Zb,λW a=>by rw[YZ a];exact B,Zb⟩,X3 λo s q u t w a=>?_⟩;obtain⟨L,_,N,x9⟩:=a.rd _ (Tq rfl);have c:=a.op x Ye;rw[i]at c;obtain⟨m,A,l,G,_,C,j,_⟩:=J3 c N;exact⟨_,Qg j,zA C rfl⟩
  ·rename_i H y0 B;replace h:=Mu h;rcases h with⟨_,h⟩|⟨y,rfl,h⟩;·cases h
   ·rcases ho:UR H y n []with⟨u1,n',y3⟩;rw[ho]at h;dsimp only at h;have x1:=yr ho;obtain⟨y4,el,x3,x4⟩:=x1.h;rw[Xp]at el;subst el;refine⟨_,h,⟨x1.le,λW a=>by rw[YZ a];exact B,Zb,Zb⟩,λo s q u t w a=>?_⟩;obtain⟨c,G,x5,N,_⟩:=a.sr;have E:=a.op x Ye;rw[i]at E;obtain⟨cs,⟨_,rv,C,rfl,y2⟩,j⟩:=E;rcases PL N C rfl with⟨J,_,_⟩|⟨y',I,A,l,L,J,e6,e7,D⟩;·cases J
    ·cases J;cases e7;rw[Qg j];obtain⟨K',Q,O,q1,F,q3,q4⟩:=x4 o L l D a.fr;have x6:q.Perm ((I,0,cellsOf l A)::Q++O++G):=by refine x5.trans (Ji G ?_);rw[e6];exact OY _ q1
     obtain⟨g1,g2⟩:=kL a.gd F.m x6;refine⟨K',(I,0,cellsOf l A)::Q++O,g1,g2,F.mv,zA (F.le.nm _ _ C) rfl,⟨_,O,V8 _,⟨_,⟨I,A,l,Q,rfl,rfl,q3⟩,by intro X P;simp at P;subst P;exact F.le.nm _ _ C⟩,q4⟩,?_,by intro f' _;rw[F.fm]⟩;·refine Yt.cons (λf' t' y5 hm=>?_) (tw x3 a.lt);cases YZ hm
  ·cases h
 ·rename_i xv W i;refine⟨_,h,Loc.val,X3 λo s q u t w a=>?_⟩;have c:=a.op x Ye;rw[i]at c;obtain⟨m,x7,j⟩:=c;exact⟨_,Qg j,m,x7,rfl⟩
 ·rename_i v i;refine⟨_,h,Loc.val,X3 λo s q u t w a=>?_⟩;have c:=a.op x Ye;rw[i]at c;obtain⟨m,V,l,j,D,M⟩:=c;exact⟨_,Qg j,m,V,l,rfl,D,M⟩
 ·rename_i gg i;refine⟨_,h,Loc.val,X3 λo s q u t w a=>?_⟩;have c:=a.op x Ye;rw[i]at c;exact⟨_,Qg c,rfl⟩
 ·rename_i H x0 i;replace h:=Mu h;rcases h with⟨_,h⟩|⟨y,rfl,h⟩;·cases h
  ·refine⟨_,h,Loc.val,X3 λo s q u t w a=>?_⟩;have c:=a.op x Ye;rw[i]at c;obtain⟨cs,⟨_,⟨p,_⟩|⟨y',m,V,l,p,rfl,D,M⟩⟩,j⟩:=c;·cases p
   ·cases p;exact⟨_,Qg j,m,V,l,rfl,D,M⟩
 ·rename_i K H x0 i;replace h:=Mu h;rcases h with⟨_,h⟩|⟨U,rfl,h⟩;·cases h
  ·split at h
   ·rename_i f1 t1 xs B;obtain⟨hf,h⟩:=Yk h;cases Xu hf;obtain⟨y1,xk,h⟩:=U3 h;refine⟨_,h,⟨YG _,Zb,λW a=>by rw[YZ a];exact B,Zb⟩,X3 λo s q u t w a=>?_⟩;obtain⟨L,_,⟨cv,⟨_,vs,x2,x8⟩,_⟩,x9⟩:=a.rd _ (Tq rfl);obtain⟨X,P,E,_,⟨m,A,l,G,_,e3,_⟩⟩:=x8.IT xk;have c:=a.op x Ye;rw[i]at c;obtain⟨cs,⟨_,⟨p,_⟩|⟨i',u',p,e2,rfl,_⟩⟩,j⟩:=c;·cases p
    ·cases p;rw[x2 U X E]at e2;cases e2;cases e3;refine⟨_,Qg j,m,⟨.pointer (some ⟨m,0,none⟩),?_,.inl ⟨rfl,trivial⟩⟩,rfl⟩;show o.fm (Yj K-1000) U=_;rw[show Yj K-1000=K by simp[Yj]];exact x2 U _ E
   ·cases h
 ·cases h
theorem px{P}{w}{a:Act}{c o off}(h:Go.Sl.Hg P S f off=true)(hx:a.eval x=.pointer (some ⟨c,o,none⟩)):(execOp a.eval ⟨d,.fieldAddr S x f,ty,pos,aft,g⟩).run P w=.ok (.value (.pointer (some ⟨c,o+off,none⟩))) w:=by simp only[execOp,hx,Ym,ZaO h];rfl
theorem qy{K}{H}{v w}{p}{a o}{ds}(h:QY v p w)(l:rel K v.t [] ds v.x)(i:At K.m a o ds):YU K H (.T5 w) (.pointer (some ⟨a,o+Z8 p,none⟩)):=by have⟨t,s,j,m,q,_⟩:=focus h l;have c:=(Oj j.symm.eq_nil).1;subst c;exact⟨a,o+Z8 p,_,rfl,m,i.Ky _ _⟩
theorem ZjK(h:kF Z b n k S (ZW e x) f=some r):W4 Z ⟨d,.fieldAddr S x f,ty,pos,aft,g⟩ e b n k r:=by
 unfold kF at h;split at h
 ·rename_i v j;split at h;·rename_i C p _;obtain⟨c,h⟩:=Yk h;obtain⟨H,t,h⟩:=Kk h;refine⟨_,h,Loc.val,X3 λo q w B s D i=>?_⟩;have a:=i.op x Ye;rw[j]at a;obtain⟨l,p,E,m,A,u⟩:=a;exact⟨_,px c m,qy t A u⟩
  ·cases h
 ·rename_i I j;split at h
  ·rename_i v L;split at h;·rename_i C p _;obtain⟨c,h⟩:=Yk h;obtain⟨H,t,h⟩:=Kk h;refine⟨_,h,Loc.val,X3 λo q w B s D i=>?_⟩;have a:=i.op x Ye;rw[j]at a;obtain⟨E,A,u⟩:=i.gl I v L;exact⟨_,px c a,qy t A u⟩
   ·cases h
  ·cases h
 ·rename_i G H j;split at h
  ·rename_i P y F;split at h;·rename_i O p _;obtain⟨c,h⟩:=Yk h;rw[Yv]at c;refine⟨_,h,⟨YG _,Zb,λC i=>by rw[YZ i];exact F,Zb⟩,X3 λo q w B s D i=>?_⟩;obtain⟨U,_,K,W⟩:=i.rd _ (Tq rfl);have a:=i.op x Ye;rw[j]at a;obtain⟨l,Q,E,V,_,M,m,_⟩:=J3 a K;refine⟨_,px c.1 m,l,?_,by rw[TN]⟩;have J:SG o G [] l:=⟨_,M,.inl ⟨rfl,trivial⟩⟩;exact J.field c.2
   ·cases h
  ·cases h
 ·rename_i G C j;split at h
  ·rename_i v F;split at h
   ·rename_i P _;split at h;·rename_i O p _;obtain⟨c,h⟩:=Yk h;rw[Yv]at c;refine⟨_,h,Loc.val,X3 λo q w B s D i=>?_⟩;have a:=i.op x Ye;rw[j]at a;obtain⟨l,N,m⟩:=a;exact⟨_,px c.1 m,l,N.field c.2,by rw[F7]⟩
    ·cases h
   ·cases h
  ·cases h
 ·cases h
theorem xu{P}{w}{a:Act}{T sz c o len cap}{q}{i}(j:Go.Sl.Uh P T sz=true)(hx:a.eval x=.slice (some ⟨c,o,none⟩) len cap)(l:a.eval y=.int q i)(h:0<=i)(h1:i<len):(execOp a.eval ⟨d,.indexAddr T x y,ty,pos,aft,g⟩).run P w=.ok (.value (.pointer (some ⟨c,o+i.toNat*sz,none⟩))) w:=by simp only[execOp,hx,l,Ym,Ze8 j _ o len cap q h h1];rfl
theorem py{P}{w}{a:Act}{T m sz c o}{q}{i}(j:Go.Sl.Qz P T m sz=true)(hx:a.eval x=.pointer (some ⟨c,o,none⟩))(l:a.eval y=.int q i)(h:0<=i)(h1:i<m):(execOp a.eval ⟨d,.indexAddr T x y,ty,pos,aft,g⟩).run P w=.ok (.value (.pointer (some ⟨c,o+i.toNat*sz,none⟩))) w:=by simp only[execOp,hx,l,Ym,Zrt j _ o q h h1];rfl
theorem OJ{Z}{e}{n}{f}{xs}{K}{H}{j hx}{a}{w}{x}(i:TD Z e n f xs K H j hx a w){q:Int}(c:ZW e x=.v ⟨.int,q⟩\/∃(u:IntKind)(m:Nat)(p:BitVec m),ZW e x=.v ⟨.un u m,p⟩/\q=p.toNat)(h:x∈xs):∃l,a.eval x=.int l q:=by
 rcases c with c|⟨u,m,p,c,rfl⟩;·exact⟨_,i.int c h⟩
 ·exact⟨_,i.un c h⟩
theorem zD{α}{i m}{o}{r:α}(h:ZZ i m o=some r):0<=i/\i<m/\o=some r:=by have⟨⟨a,c⟩,j⟩:=Pf h;exact⟨a,c,j⟩
theorem Zku{K}{H}{t}{l}{a o}{row}{i}{y}(s:Row t.n (rel K t) [] row l)(m:At K.m a o row)(v:QD l i=some y):0<=i/\i<l.length/\YU K H (.T5 ⟨t,y⟩) (.pointer (some ⟨a,o+i.toNat*t.n,none⟩)):=by
 have⟨j,p,u⟩:=JX v;have⟨A,q,B,w,D,c,E,C⟩:=Row.at s p;have h:q=[]:=by simp_all
 rw[u,h]at c;exact⟨j,Y,a,_,_,rfl,c,m.Ky _ _⟩
theorem Zbc{K}{H}{t}{l:List t.den}{hs}{cs}{i}{y}(p:rel K (.sl t) hs cs l)(c:QD l i=some y):∃a o cap,cs=[.slice (some ⟨a,o,none⟩) l.length cap]/\0<=i/\i<l.length/\YU K H (.T5 ⟨t,y⟩) (.pointer (some ⟨a,o+i.toNat*t.n,none⟩)):=by
 obtain⟨_,s,cap,rfl,u,h⟩:=p;rcases h with rfl|⟨a,o,v,rfl,q,j⟩;·have⟨_,m,_⟩:=JX c;simp at m
 ·exact⟨a,o,cap,rfl,Zku q j c⟩
theorem ZaT{K}{H}{j}{v}{t}{l:List t.den}{h}{val}{u:Unit}(c:Wg K j v h)(p:v=⟨.full t,l⟩\/v=⟨.YO t,l⟩)(hv:YU K H (.v ⟨.hole j,u⟩) val){i:Int}(B:0<=i)(h1:i<l.length):∃a cap,val=.slice (some ⟨a,0,none⟩) l.length cap/\K.nm j=some val:=by
 obtain⟨w,⟨_,r,m,rfl,_⟩,rfl⟩:=hv;rcases p with rfl|rfl
 ·rcases PL c m rfl with⟨rfl,_,o,e⟩|⟨a,T,cap,q,s,A,e,_⟩;·simp at h1;omega
  ·grind
 ·rcases PL c m rfl with⟨rfl,_,o,e⟩|⟨a,T,cap,q,s,e,_⟩;·simp at h1;omega
  ·grind
theorem ZeN{K:KK}{j}{r}{a len cap}{i:Int}{sz m}(h:K.nm j=some r)(e:r=.slice (some ⟨a,0,none⟩) len cap)(c:0<=i)(h1:i<len):SG K j [.ix i sz m] a:=by subst e;exact⟨_,h,.inr ⟨len,cap,i,sz,m,[],rfl,rfl,c,Y,trivial⟩⟩
theorem Zkt(h:kX Z b n k T (ZW e x) (ZW e y)=some r):W4 Z ⟨d,.indexAddr T x y,ty,pos,aft,g⟩ e b n k r:=by
 unfold kX at h;obtain⟨M,h,C⟩:=Kp h;split at h;·rename_i w A q;obtain⟨o,h⟩:=Yk h;obtain⟨v,t,h⟩:=U3 h;refine⟨_,h,Loc.val,X3 λB H G I E K a=>?_⟩;obtain⟨J,m⟩:=OJ a C Ye;have c:=a.op x Ye;rw[q]at c;obtain⟨cs,D,l⟩:=c;obtain⟨s,x3,L,rfl,i,j,Q⟩:=Zbc (H:=H) D t;exact⟨_,xu o l m i j,Q⟩
 ·rename_i w A q;obtain⟨o,h⟩:=Yk h;obtain⟨v,t,h⟩:=U3 h;refine⟨_,h,Loc.val,X3 λB H G I E K a=>?_⟩;obtain⟨J,m⟩:=OJ a C Ye;have c:=a.op x Ye;rw[q]at c;obtain⟨cs,D,l⟩:=c;obtain⟨s,x3,L,rfl,i,j,Q⟩:=Zbc (H:=H) (rO D) t;exact⟨_,xu o l m i j,Q⟩
 ·rename_i V t0 x0 q;replace h:=Mu h;rcases h with⟨_,h⟩|⟨u,rfl,h⟩;·cases h
  ·split at h
   ·rename_i f1 w xs F;obtain⟨hf,h⟩:=Yk h;rw[Yv]at hf;cases Xu hf.1;obtain⟨A,hl,h⟩:=U3 h;obtain⟨i,c,h⟩:=zD h;refine⟨_,h,⟨YG _,Zb,λp a=>by rw[YZ a];exact F,Zb⟩,X3 λB H G I E K a=>?_⟩;obtain⟨J,m⟩:=OJ a C Ye;obtain⟨W,_,⟨cv,⟨_,vs,x2,x8⟩,_⟩,x1⟩:=a.rd _ (Tq rfl);obtain⟨x4,hu,t,_,D⟩:=x8.IT hl;have j:=a.op x Ye;rw[q]at j;obtain⟨cs,⟨_,⟨U,_⟩|⟨i',u',U,e2,rfl,_⟩⟩,l⟩:=j;·cases U
    ·cases U;rw[x2 u x4 t]at e2;cases e2;rcases D with⟨rfl,_⟩|⟨s,T',L,xv,y0,xk,e3,_⟩;·simp[Zf]at c;omega
     ·cases e3;refine⟨_,xu hf.2 l m i c,s,⟨.slice (some ⟨s,0,none⟩) A.length L,?_,.inr ⟨A.length,L,M,w.n,0,[],rfl,rfl,i,?_,trivial⟩⟩,by simp[Z8]⟩;·show B.fm (Yj V-1000) u=_;rw[show Yj V-1000=V by simp[Yj]];exact x2 u _ t
      ·have P:M<(A.length:Int):=c;omega
   ·cases h
 ·rename_i u w A q;obtain⟨o,h⟩:=Yk h;obtain⟨v,t,h⟩:=U3 h;refine⟨_,h,Loc.val,X3 λB H G I E K a=>?_⟩;obtain⟨J,m⟩:=OJ a C Ye;have c:=a.op x Ye;rw[q]at c;obtain⟨s,x3,ds,l,D,X⟩:=c;obtain⟨i,x6,_⟩:=oy t;refine⟨_,py o l m i Y,?_⟩;have:=qy (H:=H) (p:=[.ix M w.n u]) (.vec t .nil) D X;simpa[Z8]using this
 ·rename_i gg q;split at h;·rename_i u w A x5;obtain⟨o,h⟩:=Yk h;obtain⟨v,t,h⟩:=U3 h;refine⟨_,h,Loc.val,X3 λB H G I E K a=>?_⟩;obtain⟨J,m⟩:=OJ a C Ye;have c:=a.op x Ye;rw[q]at c;obtain⟨ds,D,X⟩:=a.gl gg _ x5;obtain⟨i,x6,_⟩:=oy t;refine⟨_,py o c m i Y,?_⟩;have:=qy (H:=H) (p:=[.ix M w.n u]) (.vec t .nil) D X;simpa[Z8]using this
  ·cases h
 ·rename_i x9 x4 q;split at h;·rename_i w A F;obtain⟨o,h⟩:=Yk h;obtain⟨i,c,h⟩:=zD h;refine⟨_,h,⟨YG _,Zb,λp a=>by rw[YZ a];exact F,Zb⟩,X3 λB H G I E K a=>?_⟩;obtain⟨J,m⟩:=OJ a C Ye;obtain⟨W,_,N,x1⟩:=a.rd _ (Tq rfl);have j:=a.op x Ye;rw[q]at j;obtain⟨s,L,l,O⟩:=ZaT N (.inl rfl) j i c;exact⟨_,xu o l m i c,s,ZeN O l i c,by simp[Z8]⟩
  ·rename_i w A F;obtain⟨o,h⟩:=Yk h;obtain⟨i,c,h⟩:=zD h;refine⟨_,h,⟨YG _,Zb,λp a=>by rw[YZ a];exact F,Zb⟩,X3 λB H G I E K a=>?_⟩;obtain⟨J,m⟩:=OJ a C Ye;obtain⟨W,_,N,x1⟩:=a.rd _ (Tq rfl);have j:=a.op x Ye;rw[q]at j;obtain⟨s,L,l,O⟩:=ZaT N (.inr rfl) j i c;exact⟨_,xu o l m i c,s,ZeN O l i c,by simp[Z8]⟩
  ·rename_i u w A F;obtain⟨o,h⟩:=Yk h;obtain⟨i,c,h⟩:=zD h;refine⟨_,h,⟨YG _,Zb,λp a=>by rw[YZ a];exact F,Zb⟩,X3 λB H G I E K a=>?_⟩;obtain⟨J,m⟩:=OJ a C Ye;obtain⟨W,_,N,x1⟩:=a.rd _ (Tq rfl);have j:=a.op x Ye;rw[q]at j;obtain⟨s,T',ds,Q,_,O,l,_⟩:=J3 j N;have P:M<(u:Int):=c;exact⟨_,py o l m i P,s,⟨_,O,.inl ⟨rfl,⟨i,Y⟩,trivial⟩⟩,by simp[Z8]⟩
  ·cases h
 ·rename_i x9 p q;split at h
  ·rename_i v F;split at h;·rename_i u w _;obtain⟨o,h⟩:=Yk h;obtain⟨i,c,h⟩:=zD h;refine⟨_,h,Loc.val,X3 λB H G I E K a=>?_⟩;obtain⟨J,m⟩:=OJ a C Ye;have j:=a.op x Ye;rw[q]at j;obtain⟨s,x7,l⟩:=j;have P:M<(u:Int):=c;exact⟨_,py o l m i P,s,x7.index i Y,by rw[F7];simp[Z8]⟩
   ·cases h
  ·cases h
 ·cases h
end
section
variable{R:Type}{Z:Xq}{e:En}{b:Bx}{n:Nat}{k:Wc->Option R}{r:R}{x y z:Operand}{d:Option Tmp}{ty T S:TypeId}{pos:String}{aft:Array Edge}{g:Option (Nat×Bool)}{f:Nat}
theorem Zrz{P}{w}{a:Act}{T m c o:Nat}{h}{ds cs:List Value}(i:Go.Sl.QL P T m=true)(hx:a.eval x=.pointer (some ⟨c,o,none⟩))(hv:(a.eval y).cells=ds.toArray)(l:ds.length=m)(h1:∀v∈ds,v.oneCell'=true)(j:w.heap[c]?=some (.cells cs.toArray h (0,0)))(p:o+m<=cs.length):(execOp a.eval ⟨d,.store T x y,ty,pos,aft,g⟩).run P w=.ok .skip (Go.Sl.Wr w c h (cs.take o++ds++cs.drop (o+m))):=by simp only[execOp,hx,Ym,fL i hv l h1 j p];rfl
theorem ZG.Lv{w}{m}{b}{T}{cs}{bs}(a:b∈bs):ZG w (Go.Sl.Wr w b T cs) m m bs bs:=ZG.Wr a
theorem Zne{K}{H}{s}{j}{p}{v}{h}{val}{y c}(i:placeOf s=some (j,p))(hv:YU K H s val)(B:JP j v.t=true)(m:Wg K j v h)(hs:LJ v p y c):∃a,SG K j p a/\val=.pointer (some ⟨a,Z8 p,none⟩):=by refine ZcN i hv λC q=>?_;subst q;cases i;cases hs with|box hs=>cases hs with|own hs=>have⟨l,t,u,A,w,o,_⟩:=J3 hv m;exact⟨l,o⟩
theorem Zfy{P}{w}{K l}{H}{a:Act}{j}{p}{v yv c}{h1 h hl' rest hx}{A}(x6:placeOf (ZW e x)=some (j,p))(x8:YU K H (ZW e x) (a.eval x))(C:JP j v.t=true)(B:Wg K j v h1)(hs:LJ v p yv c)(x5:K.le l)(F:rel l yv.t h A yv.x)(hT:Go.Sl.QL P T yv.t.n=true)(x3:(a.eval y).cells=A.toArray)(hg:GD l.m (h1++(h++hl')++(rest++hx)) w):∃w' h',(execOp a.eval ⟨d,.store T x y,ty,pos,aft,g⟩).run P w=.ok .skip w'/\Wg l j c h'/\GD l.m (h'++hl'++hx) w'/\ZG w w' l.m l.m (h1++(h++hl')++(rest++hx)).bs (h'++hl'++hx).bs:=by
 obtain⟨bl,M,x7⟩:=Zne x6 x8 C B hs;obtain⟨x9,ha⟩:=hs.at C B M;obtain⟨r,q,s,u,i,o,W,X,f3,f4,xk,x4⟩:=ls C B ha ⟨_,_,hs⟩;obtain⟨r2,I,g2⟩:=M.C9;rw[W]at I;cases I;have U:=X.uniq g2;subst U;obtain⟨J,h',L,x0⟩:=x4 x5 hs F;have t:(h1++(h++hl')++(rest++hx)).Perm ((q,0,cellsOf u s)::(i++o++(h++hl')++(rest++hx))):=by have:=(f3.append_right (h++hl')).append_right (rest++hx);simpa[Z5]using this
 have D:=hg.perm t;have E:=Zrz (x:=x) (y:=y) (d:=d) (ty:=ty) (pos:=pos) (aft:=aft) (g:=g) hT x7 x3 (WH F) (RD F) (D.YY _ XP) (by rw[J];exact f4);rw[J]at E;obtain⟨m,V⟩:∃m,m=u.take (Z8 p)++A++u.drop (Z8 p+x9.t.n):=⟨_,rfl⟩;rw[<-V]at E L;have G:((q,0,cellsOf m s)::(i++o++(h++hl')++(rest++hx))).Perm (h'++hl'++hx++(i++rest)):=by
  have Q:((q,0,cellsOf m s)::(i++o++(h++hl')++(rest++hx))).Perm ((q,0,cellsOf m s)::(h++o)++hl'++hx++(i++rest)):=by
   simp only[MN];refine OY _ ?_;have N:(i++o++(h++hl')++(rest++hx)).Perm (h++o++hl'++hx++(i++rest)):=by classical rw[VS];intro z;simp only[VR];omega
   exact N
  refine Q.trans (((L.symm.append_right hl').append_right hx).append_right _)
 refine⟨_,h',E,x0,((GD.Wr m D D.tC).perm G).left,?_⟩;have x2:q∈(h1++(h++hl')++(rest++hx)).bs:=((t.map (·.1)).mem_iff).2 Zb;refine(ZG.Lv x2).sub λO x1=>?_;have m1:O∈HP.bs (h'++hl'++hx++(i++rest)):=by rw[HP.XL];exact Yd (.inl x1)
 exact((t.map (·.1)).mem_iff).2 (by simpa[HP.bs]using(((G.map (·.1)).mem_iff).2 m1))
theorem xI{a}{s}{K}{H}{v}(h:Qj s=some a)(hv:vT a.t=true)(i:YU K H s v):∃cs,rel K a.t [] cs a.x/\v.cells=cs.toArray:=by obtain⟨cs,c,rfl⟩:=Gd h i;exact⟨cs,c,Ziw c hv⟩
end
section
variable{R:Type}{Z:Xq}{e:En}{b:Bx}{n:Nat}{k:Wc->Option R}{r:R}{x y z:Operand}{d:Option Tmp}{ty T S:TypeId}{pos:String}{aft:Array Edge}{g:Option (Nat×Bool)}{f:Nat}
theorem W3.of_eq{K K'}{b}(h:K'.fm=K.fm):W3 K K' b:=λf _=>by rw[h]
theorem Yt.left{K}{p}{b:Bx}(h:Yt K (p::b)):Yt K [p]:=h.sub Zb
theorem Yt.tail{K}{p}{b:Bx}(h:Yt K (p::b)):Yt K b:=h.sub Zm
theorem Zse(h:eC Z b n k T (ZW e x) (ZW e y)=some r):W4 Z ⟨d,.store T x y,ty,pos,aft,g⟩ e b n k r:=by
 unfold eC at h;split at h
 ·rename_i x9 c yv x5 x8;split at h;·cases h
  ·rename_i v y2;obtain⟨x0,x1⟩:=DJ y2;obtain⟨X,m⟩:=Yk h;clear h;rw[Yv]at X;obtain⟨W,x6⟩:=X;cases x4:kO c with|false=>rw[x4]at m;obtain⟨y1,u,h⟩:=pH m;refine⟨_,h,⟨YG _,λc a=>by rw[YZ a];exact x0,Zb,Zb⟩,λA xv hr i y0 xs a=>?_⟩;obtain⟨p,s,C,F,_⟩:=a.sr;obtain⟨O,N,G⟩:=xI x8 x6 (a.op y Ye);obtain⟨w',l,M,t,J,I⟩:=Zfy (P:=Z.P) (x:=x) (y:=y) (d:=d) (ty:=ty) (pos:=pos) (aft:=aft) (g:=g) (T:=T) (hl':=[]) (rest:=s) (hx:=i) x5 (a.op x Ye) x1 F u (KK.le.refl A) N W G (a.gd.perm (by simpa[Z5]using C.append_right i));rw[M];refine⟨A,l,by simpa using J,ZG.RB (hs1:=p++([]++[])++(s++i)) (by simpa[Z5]using C.append_right i) ?_,Mv.refl _ _ _,trivial,⟨l,[],Zb,t,trivial⟩,tx u a.YM λ_ _=>rfl,W3.refl _ _⟩;simpa using I|true=>
    rw[x4]at m;dsimp only[cond_true]at m;split at m
    ·rename_i xk _;obtain⟨z0,q,h8,y3,y6,B,Qb,w,y8⟩:=JG m;obtain⟨y1,u,h⟩:=pH h8;have o:q.r=B:=by rw[w.r];simp
     have Q:q.q=Qb:=by rw[w.q];simp
     have K:∀c∈B,c.1≠x9/\ZF b c.1=some c.2:=λc a=>by have:=JB (w.mr c a);exact⟨this.2,this.1⟩
     refine⟨_,h,⟨YG _,?_,?_,?_⟩,?_⟩
     ·intro c a;rcases XB a with rfl|a;·exact x0
      ·rw[o]at a;exact(K c a).2
     ·intro c a;have j:c∈q.q:=a;rw[Q]at j;exact(JB (w.mq c j)).1
     ·rw[XF,T9];refine⟨λhm=>?_,by rw[o];exact w.nd⟩;obtain⟨c,a,E⟩:=Uj hm;rw[o]at a;exact(K c a).1 E
     ·intro A xv hr i y0 xs a;obtain⟨p,s,C,F,y5⟩:=a.sr;obtain⟨O,N,G⟩:=xI x8 x6 (a.op y Ye);have U:(hr++i).Perm ([]++([]++s)++(p++i)):=by refine(C.append_right i).trans ?_;simp only[UW,Z5];rw[<-Z5,<-Z5];exact XJ.append_right i
      have x3:=a.gd.perm U;obtain⟨K1,x7,hl',D,y4,y7,hF,x2,_⟩:=y8 xs A [] [] s O x3.left N trivial (by rw[<-o];exact y5) (λc j=>by obtain⟨l,_,t,_⟩:=a.rd c (by show c∈q.q;rw[Q];exact j);exact⟨l,t⟩) (by have:=a.YM.tail;rw[o]at this;simpa using this) Zb;obtain⟨g1,g2⟩:=(D.frame (p++i)).step x3;have V:(x7++hl'++(p++i)).Perm (p++(x7++hl')++([]++i)):=by simp only[UW];rw[<-Z5];exact XJ.append_right i
      obtain⟨w',l,M,t,J,I⟩:=Zfy (P:=Z.P) (x:=x) (y:=y) (d:=d) (ty:=ty) (pos:=pos) (aft:=aft) (g:=g) (T:=T) (yv:=⟨xk,z0⟩) (hl':=hl') (rest:=[]) (hx:=i) x5 (a.op x Ye) x1 F u D.le (Xl (KU y3) y4) (by show Go.Sl.QL Z.P T xk.n=true;rw[<-y6.n];exact W) G (g1.perm V);rw[M];refine⟨K1,l++hl',J,ZG.trans (ZG.RB U g2) (ZG.RB V I),D.mv _ _,trivial,⟨l,hl',V8 _,t,y7⟩,?_,?_⟩
      ·refine Yt.cons (tx u a.YM.left λf H=>x2 f λc j E=>?_) hF;have L:c∈B:=by simpa using j
       exact(K c L).1 (E.trans H.symm)
      ·refineλf H=>x2 f λc j=>?_;have L:c∈B:=by simpa using j
       exact H c (by show c∈(x9,v)::q.r;rw[o];simp[L])
    ·cases m
 ·cases h
end
section
variable{R:Type}{Z:Xq}{e:En}{b:Bx}{n:Nat}{k:Wc->Option R}{r:R}{x y z:Operand}{d:Option Tmp}{ty T S:TypeId}{pos:String}{aft:Array Edge}{g:Option (Nat×Bool)}{f:Nat}
theorem xc{v}{s}{j}(h:ZF b j=some v):Loc b n (Wc.val s [(j,v)] n):=⟨Zb,Zb,Zm,Zb⟩
theorem ZjJ(h:kE Z n k S (ZW e x) f=some r):W4 Z ⟨d,.field S x f,ty,pos,aft,g⟩ e b n k r:=by
 unfold kE at h;split at h
 ·rename_i v hx;split at h
  ·rename_i O N _;obtain⟨q,h⟩:=Yk h;obtain⟨P,p,h⟩:=Kk h;obtain⟨a,h⟩:=Yk h;refine⟨_,h,Loc.val,X3 λF E J M l D u=>?_⟩;have c:=u.op x Ye;rw[hx]at c;obtain⟨G,A,j⟩:=c;obtain⟨L,K,w,B,t,_⟩:=focus p A;have m:=(Oj w.symm.eq_nil).1;subst m;refine⟨XE _ _,?_,_,B,rfl⟩;unfold ZaP at a;split at a
   ·rename_i I o;split at a;·rename_i H s;rw[Yv,Yv]at a;have i:=HV a.2.2 (KZ a.2.1) t D;rw[rR Zm (KZ a.2.1)]at i;rw[q]at j;have C:l.eval x=.agg _:=j;simp[execOp,C,Ym,Instr.field,WB o,s,asAgg,Y5,YJ,Xu a.1,i]
    ·cases a
   ·cases a
  ·cases h
 ·cases h
theorem Zks(h:kW Z n k T (ZW e x) (ZW e y)=some r):W4 Z ⟨d,.index T x y,ty,pos,aft,g⟩ e b n k r:=by
 unfold kW at h;split at h
 ·rename_i G i x2 E;obtain⟨c,h⟩:=Yk h;obtain⟨a,h,A⟩:=Kp h;obtain⟨v,o,h⟩:=U3 h;refine⟨_,h,Loc.val,X3 λN M X x1 q H l=>?_⟩;obtain⟨kd,F⟩:=OJ l A Ye;have j:=l.op x Ye;rw[E]at j;obtain⟨cs,x0,C⟩:=j;obtain⟨s,B,L⟩:=oy o;obtain⟨hu,x3,W,K,I,_⟩:=focus (p:=[.ix a i.n G]) (u:=⟨i,v⟩) (.vec o .nil) x0;have O:hu=[]:=(Oj W.symm.eq_nil).1;subst O;have U:Z8 [.ix a i.n G]=a.toNat*i.n:=by simp[Z8]
  rw[U]at K I;refine⟨XE i.ag ((cs.drop (a.toNat*i.n)).take i.n),?_,_,K,rfl⟩;unfold aj at c;split at c;·rename_i m' Q t;rw[Yv,Yv]at c;cases Xu c.1;have V:a.toNat*i.n+i.n<=cs.length:=I;have J:=HV (P:=Z.P) (T:=Q) (n:=i.n) (off:=a.toNat*i.n) (cs:=cs) c.2.2 (KZ c.2.1) V H;rw[rR (by rw[UF,Wn];omega) (KZ c.2.1)]at J;have D:q.eval x=.agg cs.toArray:=C;have w:0<=a/\a<(G:Int):=⟨s,Y⟩;simp only[execOp,D,F,Ym,Instr.index,asIntOf,Y5,WB t,YJ,YW w,Po (oi c.2.2) H,J]
  ·cases c
 ·rename_i x2 E;obtain⟨c,h⟩:=Yk h;obtain⟨a,h,A⟩:=Kp h;obtain⟨v,o,h⟩:=U3 h;refine⟨_,h,Loc.val,X3 λN M X x1 q H l=>?_⟩;obtain⟨kd,F⟩:=OJ l A Ye;have j:=l.op x Ye;rw[E]at j;obtain⟨cs,⟨_,m,rfl,rfl⟩,C⟩:=j;have D:q.eval x=.string m:=C;have t:Z.P.underlying T=some .string:=by
   split at c;·assumption
   ·cases c
  obtain⟨s,B,L⟩:=JX o;simp only[Jj,Array.length_toList]at B;have w:m[a.toNat]?=some m.data[a.toNat]:=by have:a.toNat<m.size:=B;simp[getElem?_pos,this];rfl
  refine⟨.int .u8 m.data[a.toNat].toNat,by simp only[execOp,D,F,Instr.index,Ym,asIntOf,Y5,YJ,WB t,s,Sc,w],⟨_,⟨rfl,rfl⟩,?_⟩⟩;·show _=Value.int .u8 (v.toNat:Int);rw[<-L];simp
 ·cases h
theorem ZrC(h:fM Z n k T (ZW e x)=some r):W4 Z ⟨d,.sliceToArrayPointer T x,ty,pos,aft,g⟩ e b n k r:=by
 unfold fM at h;split at h
 ·rename_i a K q;split at h
  ·rename_i j D C;have⟨t,h⟩:=Yk h;have⟨v,w,h⟩:=U3 h;have⟨M,p⟩:=Zsu w;refine⟨_,h,Loc.val,X3 λH G O P l Q u=>?_⟩;have i:=u.op x Ye;rw[C]at i;obtain⟨J,⟨_,I,o,rfl,L,c⟩,A⟩:=i;have B:l.eval x=.slice _ _ o:=A;have N:=by simpa[Uk]using t
   rcases c with rfl|⟨m,E,F,rfl,c,s⟩;·grind
   ·refine⟨.pointer _,?_,m,E,F.take (a*j.n),rfl,?_,?_⟩;·have:¬D.length<a:=Y;simp[execOp,B,Ym,Instr.arrayAt,WB q,YJ,this,VZ,Y5]
    ·show Row _ _ _ _ _;rw[<-p];exact c.take a
    ·have:=s.Ky 0 (a*j.n);simpa using this
  ·grind
 ·grind
theorem Zce{K}{H}:∀{s}{i}{vs},RT K s vs->∀v,vs[i]?=some v->R1 K H (jZ s i) v|.tc a s,0,_,⟨v,r,rfl,h,_⟩,c,e=>by simp at e;subst e;exact R1.rP h|.tc a s,i+1,_,⟨v,r,rfl,_,h⟩,c,e=>Zce h _ Zm|.tn,i,vs,h,c,e=>by have:vs=[]:=h;grind
theorem RT.len{K}:∀{s}{vs},RT K s vs->vs.length=pY s|.tc a s,_,⟨v,r,rfl,_,h⟩=>by simp[pY,RT.len h]|.tn,vs,h=>by have:=h;subst this;rfl
theorem Zjy{i}(h:kC n k (ZW e x) i=some r):W4 Z ⟨d,.extract x i,ty,pos,aft,g⟩ e b n k r:=by
 unfold kC at h;split at h;·rename_i u C p;have⟨v,h⟩:=Yk h;refine⟨_,h,Loc.val,X3 λs q A B t D m=>?_⟩;have a:=m.op x Ye;rw[p]at a;have⟨j,o,c⟩:=a;have w:=RT.len c;have l:i<j.length:=XA;refine⟨j[i],?_,YU.JZ (Zce c _ Zb)⟩;simp[execOp,o,Instr.extract,l]
 ·grind
end
section
variable{R:Type}{Z:Xq}{e:En}{b:Bx}{n:Nat}{k:Wc->Option R}{r:R}{x y z:Operand}{d:Option Tmp}{ty T S:TypeId}{pos:String}{aft:Array Edge}{g:Option (Nat×Bool)}{f:Nat}
theorem ZkY{s}{k'}(h:sk b s k'=some r):∃l F,k' l F=some r/\(∀p∈F,ZF b p.1=some p.2)/\∀(K)(H)(hs)(w)(v),GD K.m hs w->(∀p∈F,∃h,H p.1=some h/\Wg K p.1 p.2 h/\∀x∈h,x∈hs)->YU K H s v->∃a cap m,v=.slice a m cap/\l=m:=by
 unfold sk at h;split at h;·refine⟨_,_,h,Zb,?_⟩;rintro K H hs w v c _⟨o,⟨_,rfl⟩,rfl⟩;exact⟨none,0,0,rfl,rfl⟩
 ·refine⟨_,_,h,Zb,?_⟩;rintro K H hs w v c _⟨o,⟨_,a,cap,rfl,_⟩,rfl⟩;exact⟨a,cap,_,rfl,rfl⟩
 ·refine⟨_,_,h,Zb,?_⟩;rintro K H hs w v c _⟨o,i,rfl⟩;obtain⟨_,a,cap,rfl,_⟩:=rO i;exact⟨a,cap,_,rfl,rfl⟩
 ·rename_i f0 t0 x0;replace h:=Mu h;rcases h with⟨_,h⟩|⟨x4,rfl,h⟩;·cases h
  ·split at h
   ·rename_i f1 G xs t;obtain⟨Q,h⟩:=Yk h;cases Xu Q;obtain⟨l,V,h⟩:=U3 h;refine⟨_,_,h,λp u=>by rw[YZ u];exact t,λK H hs w v c j i=>?_⟩;obtain⟨q,_,⟨cv,⟨_,vs,x3,x1⟩,_⟩,_⟩:=j _ (Tq rfl);obtain⟨I,hu,hv,_,X⟩:=x1.IT V;obtain⟨o,⟨_,⟨A,_⟩|⟨i',u',A,B,rfl,_⟩⟩,rfl⟩:=i;·cases A
    ·cases A;rw[x3 x4 I hv]at B;cases B;rcases X with⟨rfl,_,a,E⟩|⟨D,T',cap,L,M,x5,E,_⟩;·cases E;exact⟨a,0,0,rfl,rfl⟩
     ·cases E;exact⟨_,cap,_,rfl,rfl⟩
   ·cases h
 ·rename_i J I;split at h
  ·rename_i G l t;refine⟨_,_,h,λp u=>by rw[YZ u];exact t,?_⟩;rintro K H hs w v c j⟨o,⟨_,r0,i,rfl,_⟩,rfl⟩;obtain⟨q,_,C,_⟩:=j _ (Tq rfl);rcases PL C i rfl with⟨rfl,_,a,e⟩|⟨D,T,cap,L,M,q,e,_⟩;·cases e;exact⟨a,0,0,rfl,rfl⟩
   ·cases e;exact⟨_,cap,_,rfl,rfl⟩
  ·rename_i G l t;refine⟨_,_,h,λp u=>by rw[YZ u];exact t,?_⟩;rintro K H hs w v c j⟨o,⟨_,r0,i,rfl,_⟩,rfl⟩;obtain⟨q,_,C,_⟩:=j _ (Tq rfl);rcases PL C i rfl with⟨rfl,_,a,e⟩|⟨D,T,cap,L,M,e,_⟩;·cases e;exact⟨a,0,0,rfl,rfl⟩
   ·cases e;exact⟨_,cap,_,rfl,rfl⟩
  ·cases h
 ·refine⟨_,_,h,Zb,?_⟩;rintro K H hs w v c _⟨D,cap,_,rfl,_,h0,h1,_⟩;refine⟨_,cap,_,rfl,?_⟩;rw[EG];omega
 ·rename_i js G l;split at h
  ·rename_i x6 W;obtain⟨O,P⟩:=Fb W;refine⟨_,_,h,O,λK H hs w v c j i=>?_⟩;obtain⟨o,⟨_,a,cap,rfl,_⟩,rfl⟩:=i (Cl K w) (tR c) λJ U=>by obtain⟨I,A,B⟩:=P J U;obtain⟨q,N,C,x2⟩:=j _ B;exact⟨q,N,λx hx=>tQ c x (x2 x hx)⟩
   exact⟨a,cap,_,rfl,rfl⟩
  ·cases h
 ·cases h
theorem fC{P}{w}{a:Act}{c}{i}{v}(j:c.callee=.builtin i)(h:(builtin i c.argTypes ty (c.args.map λ|.const _=>true|_=>false) (c.args.map a.eval)).run P w=.ok (.value v) w):(execOp a.eval ⟨d,.call c,ty,pos,aft,g⟩).run P w=.ok (.value v) w:=by simp[execOp,resolve,j,Ym,Y5,YJ,invoke];exact h
theorem vR{α:Type}{a}{x:α}(h:a.toList=[x]):a=#[x]:=by cases a;grind
theorem zG{P}{T}(h:PQ P T=true):∃a,P.underlying T=some (.slice a)/\∃sz,Go.Sl.Uh P T sz=true:=by
 unfold PQ at h;split at h;·rename_i a c;cases hi:P.info? a with|none=>grind|some i=>exact⟨a,c,i.size,by simp[Go.Sl.Uh,c,QL,hi]⟩
 ·grind
theorem Zru{P}{w}{T}{a0}{m cap}{ty}{cs}(h:PQ P T=true):(builtin .len #[T] ty cs #[.slice a0 m cap]).run P w=.ok (.value (.int .i64 m)) w:=by have⟨c,i,j,a⟩:=zG h;simp[builtin,Ym,Zfa a,YJ];rfl
theorem Zrl{P}{w}{T}{a0}{m cap}{ty}{cs}(h:PQ P T=true):(builtin .cap #[T] ty cs #[.slice a0 m cap]).run P w=.ok (.value (.int .i64 cap)) w:=by have⟨c,i,j,a⟩:=zG h;simp[builtin,Ym,Zrk a,YJ];rfl
theorem Zk0{c}(o:c.callee=.builtin .len)(i:c.args.toList=[x])(s:c.argTypes.toList=[T])(hs:PQ Z.P T=true)(h:sk b (ZW e x) (λl r=>k ⟨.v ⟨.int,l⟩,r,[],[],n⟩)=some r):W4 Z ⟨d,.call c,ty,pos,aft,g⟩ e b n k r:=by have⟨l,rd,h,q,p⟩:=ZkY h;refine⟨_,h,⟨Zb,Zb,q,Zb⟩,X3 λm j C D w u a=>?_⟩;obtain⟨A,B,E,t,rfl⟩:=p m j _ u _ a.gd a.rd (a.op x (by simp[Op.operands,Call.operands,i]));refine⟨_,fC o ?_,⟨_,⟨rfl,rfl⟩,rfl⟩⟩;rw[vR i,vR s];simp[Iv,XF,O1,t];exact Zru hs
theorem Ziq{c}{u:Unit}(j:c.callee=.builtin .cap)(i:c.args.toList=[x])(m:c.argTypes.toList=[T])(hs:PQ Z.P T=true)(hx:ZW e x=.v ⟨.Tk,u⟩)(h:X5 n k .int (0:Int)=some r):W4 Z ⟨d,.call c,ty,pos,aft,g⟩ e b n k r:=by refine⟨_,h,Loc.val,X3 λq p w A s B l=>?_⟩;have a:=l.op x (by simp[Op.operands,Call.operands,i]);rw[hx]at a;obtain⟨t,⟨_,rfl⟩,o⟩:=a;refine⟨_,fC j ?_,⟨_,⟨rfl,rfl⟩,rfl⟩⟩;rw[vR i,vR m];simp[Iv,XF,O1,o];exact Zrl hs
noncomputable def yd(mx:Bool)(p q:Int):Int:=bif mx then Uo p q else Tj p q
theorem ZbV{mx}:∀{l}{a0},CG e n k mx a0 l=some r->∃a:List Int,l.map (ZW e)=a.map (λz=>SV.v ⟨.int,z⟩)/\X5 n k .int (a.foldl (yd mx) a0)=some r
 |[],a0,h=>⟨[],rfl,h⟩|o::l,a0,h=>by
  unfold CG at h;split at h;·rename_i i m;have⟨a,j,c⟩:=ZbV h;exact⟨i::a,Zm,c⟩
  ·grind
theorem Ze7{P}{w}(mx):∀(a:List Int)(a0),((a.map (Value.int .i64)).foldlM (bif mx then Builtin.max2 else Builtin.min2) (Value.int .i64 a0)).run P w=.ok (.int .i64 (a.foldl (yd mx) a0)) w
 |[],a0=>Zb|z::a,a0=>by
  have e:((bif mx then Builtin.max2 else Builtin.min2) (Value.int .i64 a0) (Value.int .i64 z)).run P w=.ok (.int .i64 (yd mx a0 z)) w:=by cases mx with|true=>simp[Builtin.max2,Y5,yd,TP];congr 2;rw[ZbO];split<;>omega|false=>simp[Builtin.min2,Y5,yd,TO];congr 2;rw[ZbT];split<;>omega
  rw[XF,List.foldlM_cons,Ym,e,YJ,Ze7 _ _];rfl
theorem ZbU{mx}{c}{l}{p:Int}(B:c.callee=.builtin (bif mx then .max else .min))(G:c.args.toList=x::l)(hx:ZW e x=.v ⟨.int,p⟩)(h:CG e n k mx p l=some r):W4 Z ⟨d,.call c,ty,pos,aft,g⟩ e b n k r:=by
 obtain⟨a,A,h⟩:=ZbV h;refine⟨_,h,Loc.val,X3 λD C H I o w t=>?_⟩;have m:∀i∈x::l,i∈(Op.call c).operands.toList:=λi s=>by simp only[Op.operands,Call.operands];cases mx<;>simp_all
 have E:o.eval x=.int .i64 p:=t.int hx (m x Zb);have u:∀(l:List Operand)(a:List Int),(∀i∈l,i∈(Op.call c).operands.toList)->l.map (ZW e)=a.map (λz=>SV.v ⟨.int,z⟩)->l.map o.eval=a.map (Value.int .i64):=by intro l;induction l with|nil=>simp|cons i l J=>intro a m h;cases a with|nil=>cases h|cons z a=>simp at h⊢;exact⟨t.int h.1 (m i Zb),Zm⟩
 have F:=u l a (λi s=>m i (by simp[s])) A;have q:(c.args.map o.eval).toList=Value.int .i64 p::a.map (Value.int .i64):=by simp_all
 refine⟨.int .i64 _,fC B ?_,⟨_,⟨rfl,rfl⟩,rfl⟩⟩;have j:=Ze7 (P:=Z.P) (w:=w) mx a p;cases mx with|true=>simp only[TP,builtin,Ym,Builtin.max_,q]at j⊢;rw[j];rfl|false=>simp only[TO,builtin,Ym,Builtin.min_,q]at j⊢;rw[j];rfl
end
section
variable{R:Type}{Z:Xq}{e:En}{b:Bx}{n:Nat}{k:Wc->Option R}{r:R}{x y z:Operand}{d:Option Tmp}{ty T S:TypeId}{pos:String}{aft:Array Edge}{g:Option (Nat×Bool)}{f:Nat}
def bq(e:En)(o:Operand)(q:Int):Prop:=ZW e o=.v ⟨.int,q⟩\/∃(h:IntKind)(a:Nat)(c:BitVec a),ZW e o=.v ⟨.un h a,c⟩/\q=(c.toNat:Int)
theorem Nr{x}{a}{k'}(h:P3 e x a k'=some r):∃l,k' (l.getD a)=some r/\(x=none/\l=none\/∃o q,x=some o/\l=some q/\bq e o q):=by
 unfold P3 at h;split at h;·grind
 ·rename_i o;have⟨q,h,c⟩:=Kp h;exact⟨some q,h,.inr ⟨o,q,rfl,rfl,c⟩⟩
theorem Ns{Z}{e}{n}{f}{xs}{K}{H}{s hx}{a}{w}{o}{l}(m:TD Z e n f xs K H s hx a w)(j:o=none/\l=none\/∃p q,o=some p/\l=some q/\bq e p q)(i:∀p,o=some p->p∈xs):o.map a.eval=none/\l=none\/∃c q,o.map a.eval=some (.int c q)/\l=some q:=by
 rcases j with⟨rfl,rfl⟩|⟨p,q,rfl,rfl,h⟩;·simp
 ·have⟨c,t⟩:=OJ m h (i p rfl);exact .inr ⟨c,q,Zm,rfl⟩
theorem fJ{P}{w}{a:Act}{lo hi:Option Operand}{T sz}{a0}{len cap}{l h}(j:Go.Sl.Uh P T sz=true)(hx:a.eval x=.slice a0 len cap)(o:lo.map a.eval=none/\l=none\/∃c q,lo.map a.eval=some (.int c q)/\l=some q)(m:hi.map a.eval=none/\h=none\/∃c q,hi.map a.eval=some (.int c q)/\h=some q)(i:0<=l.getD 0)(h1:l.getD 0<=h.getD len)(h2:h.getD len<=cap):(execOp a.eval ⟨d,.slice T x lo hi none,ty,pos,aft,g⟩).run P w=.ok (.value (.slice (if cap=(l.getD 0).toNat then a0 else a0.map (·.add ((l.getD 0).toNat*sz))) ((h.getD len).toNat-(l.getD 0).toNat) (cap-(l.getD 0).toNat))) w:=by simp only[execOp,hx,Dh,Ym,fK j o m i h1 h2 w];rfl
theorem fW{K}{t}{hs}{cs}{xs:List t.den}{l h:Int}(o:rel K (.sl t) hs cs xs)(v:0<=l)(h1:l<=h)(h2:h<=xs.length):∃a0 cap,cs=[.slice a0 xs.length cap]/\xs.length<=cap/\rel K (.sl t) [] [.slice (if cap=l.toNat then a0 else a0.map (·.add (l.toNat*t.n))) (h.toNat-l.toNat) (cap-l.toNat)] ((xs.take h.toNat).drop l.toNat):=by
 obtain⟨_,a0,cap,rfl,j,p⟩:=o;refine⟨a0,cap,rfl,j,rfl,?_⟩;have m:((xs.take h.toNat).drop l.toNat).length=h.toNat-l.toNat:=by grind
 refine⟨_,_,by rw[m],Zm,?_⟩;by_cases a:(xs.take h.toNat).drop l.toNat=[];·exact .inl a
 ·refine .inr ?_;have w:l.toNat<h.toNat:=by grind
  rcases p with rfl|⟨c,s,u,rfl,q,i⟩;·simp at a
  ·refine⟨c,s+l.toNat*t.n,(u.take _).drop _,by rw[Yg Y];simp[SE],(q.take _).drop _,by rw[MQ];exact i.Ky _ _⟩
theorem Zr1{K}{t}{hs}{cs}{xs:List t.den}{h m:Int}(l:rel K (.sl t) hs cs xs)(u:0<=h)(h1:h<=m)(h2:m<=xs.length):∃a0 cap,cs=[.slice a0 xs.length cap]/\xs.length<=cap/\rel K (.sl t) [] [.slice a0 h.toNat m.toNat] (xs.take h.toNat):=by
 obtain⟨_,a0,cap,rfl,i,o⟩:=l;have j:(xs.take h.toNat).length=h.toNat:=Zm;refine⟨a0,cap,rfl,i,rfl,a0,m.toNat,by rw[j],Zm,?_⟩;rcases o with rfl|⟨a,q,s,rfl,p,c⟩;·simp
 ·refine .inr ⟨a,q,s.take _,rfl,p.take _,?_⟩;have:=c.Ky 0 (h.toNat*t.n);simpa using this
theorem Zfo{t}{xs}{lo hi mx}{k'}(D:Go.Sl.Uh Z.P T t.n=true)(h:pJ e t xs lo hi mx k'=some r):∃ys,k' ys=some r/\∀{f}{K}{H}{s hx}{a}{w}{hs}{m},TD Z e n f (Op.slice T x lo hi mx).operands.toList K H s hx a w->rel K (.sl t) hs [m] xs->a.eval x=m->∃v,(execOp a.eval ⟨d,.slice T x lo hi mx,ty,pos,aft,g⟩).run Z.P w=.ok (.value v) w/\rel K (.sl t) [] [v] ys:=by
 unfold pJ at h;split at h;·obtain⟨x0,h,M⟩:=Nr h;obtain⟨q,h,L⟩:=Nr h;obtain⟨ys,Q,h⟩:=U3 h;obtain⟨i,c,j,C⟩:=ZbI Q;refine⟨ys,h,?_⟩;intro f K H s hx a w hs m l u A;obtain⟨B,cap,o,I,E⟩:=fW u i c j;cases o;have p:q.getD (Ze (Zf xs))=q.getD (xs.length:Int):=rfl;rw[p]at c j C E;refine⟨_,fJ D A (Ns l M (by rintro F rfl;simp[Op.operands])) (Ns l L (by rintro F rfl;simp[Op.operands])) i c Y,?_⟩;rw[<-C];exact E
 ·rename_i x1;split at h;·rename_i q;obtain⟨F,h,N⟩:=Kp h;obtain⟨W,h,O⟩:=Kp h;obtain⟨i,h⟩:=Pf h;obtain⟨⟨c,j⟩,h⟩:=Pf h;refine⟨_,h,?_⟩;intro f K H s hx a w hs m l u A;obtain⟨U,o⟩:=OJ l N Ye;obtain⟨V,p⟩:=OJ l O Ye;obtain⟨B,cap,G,I,J⟩:=Zr1 u i c j;cases G;have X:W<=(xs.length:Int):=j;refine⟨_,?_,J⟩;simp only[execOp,A,Dh,Jm,o,p,Ym,Zry (P:=Z.P) D (a:=B) (len:=xs.length) (cap:=cap) (kh:=U) (km:=V) i c Y w,YJ,Y5]
  ·cases h
theorem pA{P}{w}{a:Act}{lo hi:Option Operand}{T m sz i o}{l h}(p:Go.Sl.Qz P T m sz=true)(hx:a.eval x=.pointer (some ⟨i,o,none⟩))(t:lo.map a.eval=none/\l=none\/∃c q,lo.map a.eval=some (.int c q)/\l=some q)(s:hi.map a.eval=none/\h=none\/∃c q,hi.map a.eval=some (.int c q)/\h=some q)(j:0<=l.getD 0)(h1:l.getD 0<=h.getD m)(h2:h.getD m<=m)(B:l.getD 0<m):(execOp a.eval ⟨d,.slice T x lo hi none,ty,pos,aft,g⟩).run P w=.ok (.value (.slice (some ⟨i,o+(l.getD 0).toNat*sz,none⟩) ((h.getD m).toNat-(l.getD 0).toNat) (m-(l.getD 0).toNat))) w:=by have⟨A,v,u⟩:=vU p;simp[execOp,hx,Dh,Ym,Instr.sliceAt,WB v,YJ,Instr.sureAddr,Y5,pB (P:=P) (UE:=false) t s j h1 h2 w,Po u w];rw[Yg Y];simp[SE]
theorem tX{α}{l h m}{o}{r:α}(q:Wj l h m o=some r):0<=l/\l<=h/\h<=m/\l<m/\o=some r:=by have⟨⟨a,c,i,j⟩,p⟩:=Pf q;exact⟨a,c,i,j,p⟩
theorem ZfA{K}{H}{j}{p}{a sz m:Nat}{l h:Int}(i:SG K j p a)(c:0<=l)(h1:l<=h)(h2:h<=m):YU K H (.sub j p sz m l h) (.slice (some ⟨a,Z8 p+l.toNat*sz,none⟩) (h.toNat-l.toNat) (m-l.toNat)):=⟨a,m-l.toNat,i,Zm,Y,c,h1,Y⟩
theorem ZjX{K}{t}{hs}{c}{xs:List t.den}{h:Int}(s:t.plain=true)(u:rel K (.full t) hs [c] xs)(w:0<=h)(h1:h<=xs.length):∃a0 cap,c=.slice a0 xs.length cap/\xs.length<=cap/\(xs.length=0->cap=0\/∃b,a0=some b)/\rel K (.full t) hs [.slice a0 h.toNat cap] (xs.take h.toNat):=by
 rcases u with⟨rfl,rfl,a,e⟩|⟨l,T,cap,j,v,o,e,rfl,i,p,A⟩;·cases e;have:h=0:=Zm;subst this;exact⟨a,0,rfl,YG _,λ_=>.inl rfl,.inl ⟨rfl,rfl,a,rfl⟩⟩
 ·cases e;have m:o=[]:=Row.Lo (λ_ _ _ h=>SD s h) i;subst m;have q:(xs.take h.toNat).length=h.toNat:=Zm;refine⟨_,cap,rfl,p,Zb,.inr ⟨l,T,cap,j.take _,j.drop (h.toNat*t.n)++v,[],by rw[q],by rw[<-Z5,Sb],i.take _,Zm,Zm⟩⟩
theorem Zr3{fz}{lo hi mx}(h:fX Z e b n k fz T (ZW e x) lo hi mx=some r):W4 Z ⟨d,.slice T x lo hi mx,ty,pos,aft,g⟩ e b n k r:=by unfold fX at h;cases fz with
 |true=>
  dsimp only[cond_true]at h;split at h
  ·rename_i y4 x5 B;split at h
   ·rename_i m t v Q;obtain⟨c,j⟩:=Yk h;clear h;rw[Yv]at c;obtain⟨l,q,N⟩:=Nr j;obtain⟨o,A,H⟩:=Nr q;obtain⟨u,L,W,X,h⟩:=tX A;clear A q j;refine⟨_,h,⟨YG _,λp a=>by rw[YZ a];exact Q,Zb,Zb⟩,λI V U E M w a=>?_⟩;obtain⟨g1,g2,x9,hb,_⟩:=a.sr;have i:=a.op x Ye;rw[B]at i;obtain⟨J,T',F,h',eh,x3,s,x4⟩:=J3 i hb;have D:l.getD 0<=o.getD (m:Int):=L;have G:o.getD (m:Int)<=(m:Int):=W;have x0:l.getD 0<(m:Int):=X;rw[pA c.2 s (Ns a N MA) (Ns a H MA) u D G x0];have e0:h'=[]:=SD (t:=.vec m t) c.1 x4;subst e0;have P1:(U++E).Perm ((J,0,cellsOf F T')::(g2++E)):=by have:=x9.append_right E;rw[eh]at this;simpa[Z5]using this
    have y1:=a.gd.perm P1;obtain⟨K',y2,y9,x8,y0⟩:=qz (k:=F.length) y1;obtain⟨q1,q2⟩:=y0.step y1;refine⟨K',[],?_,?_,⟨y2,λy3 _=>by rw[y0.nm]⟩,?_,trivial,λ_ _ _ h=>(by cases h),W3.of_eq y9⟩;·have:GD K'.m ([(J,F.length,cellsOf F T')]++(g2++E)) w:=q1;exact(this.right).right
    ·refine(ZG.RB P1 q2).sub λb' y6=>?_;show b'∈HP.bs ((J,F.length,cellsOf F T')::(g2++E));simp only[HP.bs,XF,Vg,Da,TL];exact .inr (.inr (by simpa[HP.bs]using y6))
    ·have x2:rel K' (.sl t) [] [.slice (some ⟨J,0,none⟩) (Vector.toList v).length m] (Vector.toList v):=by refine⟨rfl,_,m,rfl,Zb,.inr ⟨J,0,F,rfl,Row.imp (λ_ _ _ h=>Xl y2 h) (show Row t.n (rel I t) [] F (Vector.toList v)from x4),λy3 x5 hu=>?_⟩⟩;rw[TN];exact x8 y3 x5 (Wm hu).1 hu
     obtain⟨C,K,e1,_,x6⟩:=fW x2 u D (by rw[Gy];exact G);cases e1;rw[Yg Y]at x6;refine⟨_,x6,?_⟩;simp[XE,Ty.ag,SE]
   ·cases h
  ·cases h|false=>
  dsimp only[cond_false]at h;split at h
  ·rename_i x5 B;obtain⟨c,j⟩:=Yk h;clear h;rw[Yv]at c;have x1:mx=none:=by simpa using c.2
   subst x1;obtain⟨l,q,N⟩:=Nr j;obtain⟨o,A,H⟩:=Nr q;obtain⟨⟨e1,e2⟩,h⟩:=Pf A;clear A q j;refine⟨_,h,Loc.val,X3 λI V U E M w a=>?_⟩;have i:=a.op x Ye;rw[B]at i;obtain⟨cs,⟨_,rfl⟩,s⟩:=i;have xv:M.eval x=.slice none 0 0:=s;obtain⟨el,_,sz,hs⟩:=zG c.1;have x7:o.getD ((0:Nat):Int)=0:=e2;have O:=fJ (x:=x) (d:=d) (ty:=ty) (pos:=pos) (aft:=aft) (g:=g) hs xv (Ns a N MA) (Ns a H MA) Y (by rw[e1,x7];omega) (by rw[x7];omega) (w:=w);refine⟨_,O,_,⟨rfl,rfl⟩,?_⟩;rw[e1,x7];rfl
  ·rename_i t P B;obtain⟨hT,j⟩:=Yk h;clear h;obtain⟨ys,h,x2⟩:=Zfo (x:=x) (d:=d) (ty:=ty) (pos:=pos) (aft:=aft) (g:=g) (n:=n) hT j;refine⟨_,h,Loc.val,X3 λI V U E M w a=>?_⟩;have i:=a.op x Ye;rw[B]at i;obtain⟨cs,x4,s⟩:=i;obtain⟨_,C,K,rfl,c⟩:=x4;obtain⟨v,O,xk⟩:=x2 a ⟨rfl,C,K,rfl,c⟩ s;exact⟨v,O,_,xk,rfl⟩
  ·rename_i y4 x5 B;split at h
   ·rename_i t P Q;split at h
    ·obtain⟨c,j⟩:=Yk h;clear h;rw[Yv]at c;obtain⟨o,q,H⟩:=Nr j;obtain⟨⟨u,L⟩,h⟩:=Pf q;clear q j;refine⟨_,h,⟨LG _,λp a=>by rw[YZ a];exact Q,Zb,Zb⟩,λI V U E M w a=>?_⟩;obtain⟨g1,g2,x9,hb,_⟩:=a.sr;have i:=a.op x Ye;rw[B]at i;obtain⟨cs,⟨_,r0,x3,rfl,yf⟩,s⟩:=i;obtain⟨C,K,rfl,y7,_,y8⟩:=ZjX c.1 (PL hb x3 rfl) u L;have yx:P.length<=K:=y7;have D:o.getD (P.length:Int)<=(P.length:Int):=L;have xv:M.eval x=.slice C P.length K:=s;have O:=fJ (x:=x) (d:=d) (ty:=ty) (pos:=pos) (aft:=aft) (g:=g) c.2 xv (lo:=none) (l:=none) (.inl ⟨rfl,rfl⟩) (Ns a H MA) Zb (by simpa using u) Y (w:=w);have e3:(if K=((none:Option Int).getD 0).toNat then C else C.map (·.add (((none:Option Int).getD 0).toNat*t.n)))=C:=by
      split;·rfl
      ·cases C with|none=>rfl|some a1=>simp[Addr.add]
     rw[e3]at O;simp only[dZ,Int.toNat_zero,nE]at O;rw[O];have hE:=KK.HC (a.fr n (YG _) (nB _)) (.slice C (o.getD (P.length:Int)).toNat K);obtain⟨q1,q2⟩:=kL (K':=I.name n (.slice C (o.getD (P.length:Int)).toNat K)) a.gd rfl x9;refine⟨_,g1,q1,q2,hE.mv,zA KK.Pl rfl,⟨g1,[],Zb,⟨_,Xl hE.le y8,?_⟩,trivial⟩,?_,W3.of_eq rfl⟩
     ·intro x5 hu;have:x5=.slice C (o.getD (Ze (Zf P))).toNat K:=by simpa using hu
      rw[this];exact KK.Pl
     ·intro f' t' yy hm;cases YZ hm
    ·cases h
   ·rename_i t P Q;obtain⟨hT,j⟩:=Yk h;clear h;obtain⟨ys,h,x2⟩:=Zfo (x:=x) (d:=d) (ty:=ty) (pos:=pos) (aft:=aft) (g:=g) (n:=n) hT j;refine⟨_,h,xc Q,X3 λI V U E M w a=>?_⟩;obtain⟨h',_,hb,yt⟩:=a.rd _ (Tq rfl);have i:=a.op x Ye;rw[B]at i;obtain⟨cs,⟨_,r0,x3,rfl,yf⟩,s⟩:=i;obtain⟨v,O,xk⟩:=x2 a (pX (PL hb x3 rfl)) s;exact⟨v,O,_,xk,rfl⟩
   ·rename_i m t v Q;obtain⟨c,j⟩:=Yk h;clear h;rw[Yv]at c;have x1:mx=none:=by simpa using c.1
    subst x1;obtain⟨l,q,N⟩:=Nr j;obtain⟨o,A,H⟩:=Nr q;obtain⟨u,L,W,X,h⟩:=tX A;clear A q j;refine⟨_,h,xc Q,X3 λI V U E M w a=>?_⟩;obtain⟨h',_,hb,yt⟩:=a.rd _ (Tq rfl);have i:=a.op x Ye;rw[B]at i;obtain⟨J,T',F,yv,_,x3,s,_⟩:=J3 i hb;have D:l.getD 0<=o.getD (m:Int):=L;have G:o.getD (m:Int)<=(m:Int):=W;have x0:l.getD 0<(m:Int):=X;refine⟨_,pA c.2 s (Ns a N MA) (Ns a H MA) u D G x0,ZfA (p:=[]) ⟨_,x3,.inl ⟨rfl,trivial⟩⟩ u D G⟩
   ·cases h
  ·rename_i y4 p B;split at h
   ·rename_i v Q;split at h
    ·rename_i m t _;obtain⟨c,j⟩:=Yk h;clear h;rw[Yv]at c;have x1:mx=none:=by simpa using c.1
     subst x1;obtain⟨l,q,N⟩:=Nr j;obtain⟨o,A,H⟩:=Nr q;obtain⟨u,L,W,X,h⟩:=tX A;clear A q j;refine⟨_,h,Loc.val,X3 λI V U E M w a=>?_⟩;have i:=a.op x Ye;rw[B]at i;obtain⟨J,yl,s⟩:=i;have D:l.getD 0<=o.getD (m:Int):=L;have G:o.getD (m:Int)<=(m:Int):=W;have x0:l.getD 0<(m:Int):=X;exact⟨_,pA c.2 s (Ns a N MA) (Ns a H MA) u D G x0,ZfA yl u D G⟩
    ·cases h
   ·cases h
  ·rename_i m t v B;obtain⟨c,j⟩:=Yk h;clear h;rw[Yv]at c;have x1:mx=none:=by simpa using c.1
   subst x1;obtain⟨l,q,N⟩:=Nr j;obtain⟨o,A,H⟩:=Nr q;obtain⟨u,L,W,X,h⟩:=tX A;clear A q j;refine⟨_,h,Loc.val,X3 λI V U E M w a=>?_⟩;have i:=a.op x Ye;rw[B]at i;obtain⟨J,y5,F,s,x4,x8⟩:=i;have D:l.getD 0<=o.getD (m:Int):=L;have G:o.getD (m:Int)<=(m:Int):=W;have x0:l.getD 0<(m:Int):=X;refine⟨_,pA c.2 s (Ns a N MA) (Ns a H MA) u D G x0,?_⟩;have x2:rel I (.sl t) [] [.slice (some ⟨J,y5,none⟩) (Vector.toList v).length m] (Vector.toList v):=⟨rfl,_,m,rfl,Zb,.inr ⟨J,y5,F,rfl,x4,x8⟩⟩;obtain⟨C,K,e1,_,x6⟩:=fW x2 u D (by rw[Gy];exact G);cases e1;rw[Yg Y]at x6;refine⟨_,x6,?_⟩;simp[XE,Ty.ag,SE]
  ·cases h
end
def rp:(t:Ty)->Option (ZM t.den)
 |.int=>some i64|.un k w=>some (Go.Sl.un k w)|.bool=>some bl|.vec n t=>match rp t with|some c=>some (Go.Sl.vec n c)|none=>none
 |.pair a b=>match rp a,rp b with|some c,some S=>some (Go.Sl.prod c S)|_,_=>none
 |_=>none
theorem ZeX{K}{t}{R}{m}(b:R.n=t.n)(a:∀hs cs x,rel K t hs cs x->R.rel m cs x):∀{xs}{hs}{cs},Row t.n (rel K t) hs cs xs->YT R m cs xs|[],_,_,h=>h.1|x::xs,_,_,⟨c,c',h,h',e,_,_,r,q⟩=>⟨c,c',e,a _ _ _ r,ZeX b a q⟩
theorem Ba:∀{t}{R},rp t=some R->R.n=t.n/\R.ag=t.ag/\∀(K)(m)(hs)(cs)(x),rel K t hs cs x->R.rel m cs x:=by intro t;induction t with
 |int=>intro R a;cases a;exact⟨rfl,rfl,λK m hs cs x a=>a.2⟩|un B E=>intro R a;cases a;exact⟨rfl,rfl,λK m hs cs x a=>a.2⟩|bool=>intro R a;cases a;exact⟨rfl,rfl,λK m hs cs x a=>a.2⟩|vec n t u=>
  intro R a;unfold rp at a;split at a;·rename_i d q;cases a;obtain⟨b,p,c⟩:=u q;exact⟨by show n*d.n=n*t.n;rw[b],rfl,λK m hs cs x a=>ZeX b Zm a⟩
  ·cases a|pair g h v w=>
  intro R a;unfold rp at a;split at a;·rename_i e f r s;cases a;obtain⟨b,p,c⟩:=v r;obtain⟨l,A,o⟩:=w s;refine⟨by show e.n+f.n=g.n+h.n;rw[b,l],rfl,λK m hs cs x⟨C,D,i,j,_,k,y,z⟩=>⟨i,j,k,c _ _ _ _ _ y,o _ _ _ _ _ z⟩⟩
  ·cases a|_=>intro R a;cases a
theorem Zaz{P}{q}{N}(e:∀T t,q T t=true->∃R,rp t=some R/\Px P T R N):∀{fs}{off}{t},A9 P q fs off t=true->∃R,rp t=some R/\GC P fs off R N
 |[],_,_,h=>by cases h|[f],off,t,h=>by
  have g:=by unfold A9 at h;exact h
  simp only[Yv]at g;have⟨b,l,m,n,c⟩:=g;have⟨R,a,d⟩:=e _ _ c;have⟨j,k,_⟩:=Ba a;exact⟨R,a,.one (Xu b) Zm Zm d⟩|f::u::fs,off,t,h=>by cases t with|pair r s=>unfold A9 at h;simp only[Yv]at h;have⟨b,l,m,n,c,o⟩:=h;have⟨R,a,d⟩:=e _ _ c;have⟨i,p,v⟩:=Zaz e o;have⟨j,k,_⟩:=Ba a;refine⟨Go.Sl.prod R i,by simp[rp,a,p],.cons (Xu b) Zm Zm d Zm⟩|_=>cases h
theorem tp{P}:∀{N}{T}{t},JN P N T t=true->∃R,rp t=some R/\Px P T R N
 |0,_,_,a=>by cases a|N+1,T,t,a=>by
  unfold JN at a;split at a;·rename_i b;exact⟨_,rfl,λd k=>Zjq b d Y⟩
  ·rename_i d x l b;have:d=l:=Zm;subst this;exact⟨_,rfl,λn v=>Zjs b n Y⟩
  ·rename_i b;exact⟨_,rfl,λd k=>Zjp b d Y⟩
  ·rename_i m t w q b;simp only[Yv]at a;have⟨f,g,u,h⟩:=a;cases Xu f;have⟨R,c,i⟩:=tp h;have⟨r,e,_⟩:=Ba c;exact⟨Go.Sl.vec m R,by simp[rp,c],Zjt b Zm i⟩
  ·rename_i o p s b;simp at a;have⟨f,g⟩:=a;have⟨R,c,j⟩:=Zaz (λT t a=>tp a) g;refine⟨R,c,Zjr b Y ?_ j⟩;have⟨_,e,_⟩:=Ba c;exact e
  ·grind
section
variable{R:Type}{Z:Xq}{e:En}{b:Bx}{n:Nat}{k:Wc->Option R}{r:R}{x y z:Operand}{d:Option Tmp}{ty yt T S:TypeId}{pos:String}{aft:Array Edge}{g:Option (Nat×Bool)}{f:Nat}{neg:Bool}
theorem Zrx{P}{t}(c:P.underlying t=some .string)(a b)(w):(binOp .neq t (.string a) (.string b)).run P w=.ok (.bool !a==b) w:=by simp[binOp,Op.equal,Op.maxDepth,Ym,Op.equalIn,WB _,YJ,Op.stringOp,Y5,beq_toListBytes]
theorem ZmT{c}{Γ}{t yt}{x y}{H}{p q}{od}{ty}{pos}{aft}{g}(j:c.P.underlying t=some .string)(hx:Yo Γ x (str.slot p))(l:Yo Γ y (str.slot q)):PJ c ⟨od,.binOp .neq t x y yt,ty,pos,aft,g⟩ Γ H (bl.slot !decide (p=q)):=S9 λv u m B _ _ _ a=>by
  have⟨w,h,o⟩:=pT hx (a x Ye);have⟨A,i,s⟩:=pT l (a y Ye);refine⟨.bool _,by simp[execOp,h,i,Ym,Zrx j,YJ,Y5];rfl,Rg ?_⟩;congr 2;rw[E4];simp;rw[dW];constructor;·grind
  ·exactλe=>bytes_inj Zm
theorem tM{Z}{e}{n}{f}{xs}{K}{H}{m hx}{a}{w}{x}(l:TD Z e n f xs K H m hx a w){p:List (BitVec 8)}(j:ZW e x=.v ⟨.str,p⟩)(c:x∈xs):Yo (Rj a xs) x (str.slot p):=Ch (D7 c) λs v h=>by rw[h];obtain⟨q,⟨_,o,rfl,i⟩,e⟩:=l.v j c;exact⟨o,by rw[e];rfl,i⟩
def Oz(neg:Bool):BinOp:=match neg with|true=>.neq|false=>.eql
theorem KV{P}{w}{a:Act}{a0}(j:Hr P T=true)(hx:a.eval x=.pointer a0)(i:a.eval y=.pointer none):(execOp a.eval ⟨d,.binOp (Oz neg) T x y yt,ty,pos,aft,g⟩).run P w=.ok (.value (.bool (bif neg then !a0.isNone else a0.isNone))) w:=by
 have⟨c,h⟩:∃c,P.underlying T=some (.pointer c):=by unfold Hr at j;grind
 cases neg with|true=>simp only[execOp,Oz,hx,i,Ym,eqGuard_at_pointer,Y5,YJ,(Zfd h _ w).2];rfl|false=>simp only[execOp,Oz,hx,i,Ym,eqGuard_at_pointer,Y5,YJ,(Zfd h _ w).1];rfl
theorem fI{P}{w}{a:Act}{a0}{m cap}(p:PQ P T=true)(hx:a.eval x=.slice a0 m cap)(l:a.eval y=.slice none 0 0):(execOp a.eval ⟨d,.binOp (Oz neg) T x y yt,ty,pos,aft,g⟩).run P w=.ok (.value (.bool (bif neg then !a0.isNone else a0.isNone))) w:=by
 have⟨s,j,_⟩:=zG p;have q:∀o,(Op.equalIn (o+1) T (.slice a0 m cap) (.slice none 0 0)).run P w=.ok a0.isNone w:=by intro o;cases a0 with|none=>simp[Op.equalIn,Ym,WB j,YJ,Y5]|some a=>simp only[Op.equalIn,Ym,WB j,YJ,Y5];rfl
 have i:=q 9999;have h:∀c,(eqGuard c T x y (.slice a0 m cap) (.slice none 0 0)).run P w=.ok () w:=by intro c;cases c<;>rfl
 cases neg with|true=>simp only[execOp,Oz,hx,l,Ym,h,binOp,Op.equal,Op.maxDepth,i,YJ,Y5];rfl|false=>simp only[execOp,Oz,hx,l,Ym,h,binOp,Op.equal,Op.maxDepth,i,YJ,Y5];rfl
theorem Lp{K}{H}{u:Unit}{v}(h:YU K H (.v ⟨.V4,u⟩) v):v=.pointer none:=by obtain⟨a,⟨_,rfl⟩,rfl⟩:=h;rfl
theorem DK{K}{H}{p}:YU K H (.v ⟨.bit p,()⟩) (.bool p):=⟨_,⟨rfl,rfl⟩,rfl⟩
theorem DM{K}{H}{p:Bool}:YU K H (.v ⟨.bool,p⟩) (.bool p):=⟨_,⟨rfl,rfl⟩,rfl⟩
theorem ZlR{ag}(cs):U6 ag cs=XE ag cs:=by cases ag<;>rfl
theorem kB{t:Ty}{i}{p q}(j:DecidableEq t.den):(bif neg then Zy (Hb i p q)else Hb i p q)=bif neg then !@decide (p=q) (j p q)else@decide (p=q) (j p q):=by grind
theorem Zjn{v w0}(hx:ZW e x=.v v)(A:ZW e y=.v w0)(h:kA Z n k T neg v w0=some r):W4 Z ⟨d,.binOp (Oz neg) T x y yt,ty,pos,aft,g⟩ e b n k r:=by
 have m:x∈(Op.binOp (Oz neg) T x y yt).operands.toList:=Ye;have o:y∈(Op.binOp (Oz neg) T x y yt).operands.toList:=Ye;obtain⟨vt,l⟩:=v;unfold kA at h;have x1:tY Z.P T=true->Z.P.underlying T=some .bool:=by
  intro D;unfold tY at D;split at D;·assumption
  ·cases D
 split at h
 ·rename_i p Q;subst Q;obtain⟨D,u⟩:=Yk h;clear h;have B:=x1 D;split at u;·rename_i j u2;refine⟨_,u,Loc.val,T4 λE F I J a w i=>⟨bl.slot (bif neg then !(p==j)else p==j),?_,λq v _ h=>Zcv q v h⟩⟩;have C:=Hl i (i.bit hx m) m;have s:=Hl i (i.bit A o) o;cases neg with|true=>exact im B C s|false=>exact il B C s
  ·rename_i j;refine⟨_,u,Loc.val,T4 λE F I J a w i=>⟨bl.slot (bif neg then !(p==j)else p==j),?_,λq v _ h=>J2 q v h⟩⟩;have C:=Hl i (i.bit hx m) m;have s:=Hl i (i.bool A o) o;cases neg with|true=>exact im B C s|false=>exact il B C s
  ·cases u
 ·rename_i Q;subst Q;obtain⟨D,u⟩:=Yk h;clear h;have B:=x1 D;obtain⟨p,K,L⟩:=S5 u;obtain⟨j,H,hq⟩:=iC L;have P:l=p:=by simpa using K
  subst P;clear u L K;refine⟨_,H,Loc.val,T4 λE F I J a w i=>⟨bl.slot (bif neg then !(l==j)else l==j),?_,λq v _ h=>J2 q v h⟩⟩;have C:=Hl i (i.bool hx m) m;have s:=Hl (p:=j) i (hq E F _ w _ i.gd (by have:=i.op y o;rwa[A]at this)) o;cases neg with|true=>exact im B C s|false=>exact il B C s
 ·obtain⟨D,u⟩:=Yk h;clear h;split at u
  ·rename_i U x5;obtain⟨p,K,L⟩:=S5 u;obtain⟨j,rfl,H⟩:=S5 L;have P:l=p:=by simpa using K
   subst P;clear u L K;have M:kz Z.P T vt=true:=D;cases vt with
   |int=>refine⟨_,H,Loc.val,T4 λE F I J a w i=>⟨bl.slot (bif neg then !@decide (@Eq Int l j) (Int.instDecidableEq l j)else@decide (@Eq Int l j) (Int.instDecidableEq l j)),?_,λq v _ h=>(by rw[kB (t:=.int) λp j:Int=>Int.instDecidableEq p j];exact J2 q v h)⟩⟩;·cases neg with|true=>exact ZmG (OG i hx m) (OG i A o)|false=>exact ir (OG i hx m) (OG i A o)
   |un x3 G=>have hk:=Bn (a:=x3) (w:=G) M;refine⟨_,H,Loc.val,T4 λE F I J a w i=>⟨bl.slot (bif neg then !@decide (@Eq (BitVec G) l j) (instDecidableEqBitVec l j)else@decide (@Eq (BitVec G) l j) (instDecidableEqBitVec l j)),?_,λq v _ h=>(by rw[kB (t:=.un x3 G) λp j:BitVec G=>instDecidableEqBitVec p j];exact J2 q v h)⟩⟩;·cases neg with|true=>exact Zm3 (Pd i hx m) (Pd i A o)|false=>exact ZmW (Pd i hx m) (Pd i A o)
   |str=>
    have B:Z.P.underlying T=some .string:=by
     have x0:(match Z.P.underlying T with|some .string=>true|_=>false)=true:=M;split at x0;·assumption
     ·cases x0
    refine⟨_,H,Loc.val,T4 λE F I J a w i=>⟨bl.slot (bif neg then !@decide (@Eq (List (BitVec 8)) l j) (instDecidableEqList l j)else@decide (@Eq (List (BitVec 8)) l j) (instDecidableEqList l j)),?_,λq v _ h=>(by rw[kB (t:=.str) λp j:List (BitVec 8)=>instDecidableEqList p j];exact J2 q v h)⟩⟩;·cases neg with|true=>exact ZmT (c:=cx Z.P) B (tM i hx m) (tM i A o)|false=>exact ZmS (c:=cx Z.P) B (tM i hx m) (tM i A o)
   |_=>
    simp only[kz,Yv]at M;obtain⟨x2,hE,X⟩:=M;obtain⟨Rp,hR,W⟩:=tp hE;obtain⟨C,s,e3⟩:=Ba hR;refine⟨_,H,Loc.val,T4 λE F I J a w i=>⟨bl.slot (bif neg then !@decide (l=j) (U l j)else@decide (l=j) (U l j)),?_,λq v _ h=>J2 q v h⟩⟩;have N:∀{O:Operand}{z},ZW e O=.v ⟨_,z⟩->O∈(Op.binOp (Oz neg) T x y yt).operands.toList->Yo (Rj a (Op.binOp (Oz neg) T x y yt).operands.toList) O (Rp.slot z):=by intro O z ho hm;refine Ch (D7 hm) λG v h=>?_;obtain⟨V,x4,hv⟩:=i.v ho hm;rw[h,hv,<-ZlR V,<-s];exact ZM.zH (e3 E G [] V z x4)
    letI:=U;cases neg with|true=>exact ZmM W YP (by rw[s];exact x2) X (N hx m) (N A o)|false=>exact Zmz W YP (by rw[s];exact x2) X (N hx m) (N A o)
  ·cases u
theorem Zjo(h:zb Z b n k T neg (ZW e x) (ZW e y)=some r):W4 Z ⟨d,.binOp (Oz neg) T x y yt,ty,pos,aft,g⟩ e b n k r:=by
 unfold zb at h;have u:x∈(Op.binOp (Oz neg) T x y yt).operands.toList:=Ye;have w:y∈(Op.binOp (Oz neg) T x y yt).operands.toList:=Ye;split at h
 ·rename_i xv u1 J q s;obtain⟨o,l⟩:=Yk h;clear h;split at l;·rename_i x1 y0 L;refine⟨_,l,xc L,X3 λB A C D t E a=>?_⟩;obtain⟨U,_,V,x4⟩:=a.rd _ (Tq rfl);have i:=a.op x u;have c:=a.op y w;rw[q]at i;rw[s]at c;obtain⟨Q,T',O,h3,_,x3,p,_⟩:=J3 i V;refine⟨_,KV o p (Lp c),?_⟩;cases neg<;>exact DK
  ·rename_i x1 y0 L;refine⟨_,l,xc L,X3 λB A C D t E a=>?_⟩;obtain⟨U,_,V,x4⟩:=a.rd _ (Tq rfl);have i:=a.op x u;have c:=a.op y w;rw[q]at i;rw[s]at c;obtain⟨N,⟨_,r0,x3,rfl,_⟩,p⟩:=i;rcases PL V x3 rfl with⟨m,_,I⟩|⟨y',M,T',O,U,m,_,I,_⟩;·cases I;have G:t.eval x=.pointer none:=p;have j:y0=none:=m;subst j;refine⟨_,KV o G (Lp c),?_⟩;cases neg<;>exact DM
   ·cases I;have G:t.eval x=.pointer (some ⟨M,0,none⟩):=p;have j:y0=some y':=m;subst j;refine⟨_,KV o G (Lp c),?_⟩;cases neg<;>exact DM
  ·cases l
 ·rename_i u1 J q s;obtain⟨o,l⟩:=Yk h;clear h;refine⟨_,l,Loc.val,X3 λB A C D t E a=>?_⟩;have i:=a.op x u;have c:=a.op y w;rw[q]at i;rw[s]at c;refine⟨_,KV o (Lp i) (Lp c),?_⟩;cases neg<;>exact DK
 ·rename_i v J q s;obtain⟨o,l⟩:=Yk h;clear h;refine⟨_,l,Loc.val,X3 λB A C D t E a=>?_⟩;have i:=a.op x u;have c:=a.op y w;rw[q]at i;rw[s]at c;obtain⟨Q,X,O,p,_⟩:=i;refine⟨_,KV o p (Lp c),?_⟩;cases neg<;>exact DK
 ·rename_i xv y6 J q s;obtain⟨o,l⟩:=Yk h;clear h;refine⟨_,l,Loc.val,X3 λB A C D t E a=>?_⟩;have i:=a.op x u;have c:=a.op y w;rw[q]at i;rw[s]at c;obtain⟨Q,y5,p⟩:=i;refine⟨_,KV o p (Lp c),?_⟩;cases neg<;>exact DK
 ·rename_i x1 H J q s;obtain⟨o,l⟩:=Yk h;clear h;refine⟨_,l,Loc.val,X3 λB A C D t E a=>?_⟩;have i:=a.op x u;have c:=a.op y w;rw[q]at i;rw[s]at c;obtain⟨N,⟨_,F⟩,p⟩:=i;rcases F with⟨m,rfl⟩|⟨y',M,X,O,m,rfl,_⟩;·have G:t.eval x=.pointer none:=p;have j:H=none:=m;subst j;refine⟨_,KV o G (Lp c),?_⟩;cases neg<;>exact DM
  ·have G:t.eval x=.pointer (some ⟨M,X,none⟩):=p;have j:H=some y':=m;subst j;refine⟨_,KV o G (Lp c),?_⟩;cases neg<;>exact DM
 ·rename_i x1 P J q s;obtain⟨o,l⟩:=Yk h;clear h;refine⟨_,l,Loc.val,X3 λB A C D t E a=>?_⟩;have i:=a.op x u;have c:=a.op y w;rw[q]at i;rw[s]at c;obtain⟨N,⟨_,F⟩,p⟩:=i;obtain⟨y4,⟨_,rfl⟩,x8⟩:=c;have x5:t.eval y=.slice none 0 0:=x8;rcases F with⟨m,rfl⟩|⟨m,M,X,y8,y3,rfl,_⟩;·have j:P=[]:=m;subst j;refine⟨_,fI o p x5,?_⟩;cases neg<;>exact DM
  ·refine⟨_,fI o p x5,?_⟩;have j:P≠[]:=m;cases P with|nil=>exact absurd rfl j|cons y7 P=>cases neg<;>exact DM
 ·rename_i f0 t0 H J q s;obtain⟨o,l⟩:=Yk h;clear h;split at l
  ·rename_i f1 t1 xs L;obtain⟨hf,h8⟩:=Yk l;clear l;cases Xu hf;rcases Mu h8 with⟨hn,K⟩|⟨x6,hi,K⟩
   ·refine⟨_,K,Loc.val,X3 λB A C D t E a=>?_⟩;have i:=a.op x u;have c:=a.op y w;rw[q]at i;rw[s]at c;obtain⟨N,⟨_,F⟩,p⟩:=i;rcases F with⟨m,rfl⟩|⟨W,v',m,_⟩;·refine⟨_,KV o p (Lp c),?_⟩;cases neg<;>exact DK
    ·have j:H=some W:=m;rw[hn]at j;cases j
   ·have x2:H=some x6:=hi;obtain⟨y1,xk,K⟩:=U3 K;refine⟨_,K,xc L,X3 λB A C D t E a=>?_⟩;obtain⟨U,_,⟨cv,⟨_,vs,x9,x7⟩,_⟩,x4⟩:=a.rd _ (Tq rfl);obtain⟨y2,hu,hv,_,⟨Q,T',O,h3,_,e7,_⟩⟩:=x7.IT xk;have i:=a.op x u;have c:=a.op y w;rw[q]at i;rw[s]at c;obtain⟨N,⟨_,F⟩,p⟩:=i;rcases F with⟨m,_⟩|⟨W,v',m,I,rfl,_⟩;·have j:H=none:=m;rw[x2]at j;cases j
    ·have j:H=some W:=m;rw[x2]at j;cases j;rw[x9 x6 y2 hv]at I;cases I;cases e7;refine⟨_,KV o p (Lp c),?_⟩;cases neg<;>exact DK
  ·cases l
 ·rename_i v w0 q s;exact Zjn q s h
 ·cases h
end
theorem dz{t}{x}(h:∀{l a},UL t l=some a->∃cs,l=cs++a/\∀K,rel K t [] cs x):∀{n}{l a},UL (.vec n t) l=some a->∃cs,l=cs++a/\∀K,rel K (.vec n t) [] cs (Zn n x)
 |0,l,a,b=>by have k:=XD b;exact⟨[],Zm,λK=>⟨rfl,rfl⟩⟩|n+1,l,a,b=>by
  have c:(match(UL (.vec n t) l)with|some l=>UL t l|none=>none)=some _:=b;split at c;·rename_i p i;have⟨f,m,j⟩:=dz h i;have⟨g,o,e⟩:=h c;refine⟨f++g,Zm,λK=>?_⟩;have d:Row _ _ _ _ _:=j K;show Row _ _ _ _ _;rw[Vector.toList_replicate]at d⊢;rw[oU];exact Row.append d (Row.single (WH (e K)) (e K))
  ·grind
theorem Jf:∀{t}{x},Pr t=some x->∀{l c},UL t l=some c->∃cs,l=cs++c/\∀K,rel K t [] cs x:=by intro t;induction t with
 |int=>
  intro x b l c a;cases b;unfold UL at a;split at a<;>first|(cases a;done)|skip
  all_goals first|contradiction|skip
  cases a;exact⟨[_],rfl,λK=>⟨rfl,rfl⟩⟩|un E i=>
  intro x b l c a;cases b;unfold UL at a;split at a<;>first|contradiction|skip
  rename_i o e;injection e with p q;subst p q;obtain⟨g,s⟩:=Yk a;clear a;have g:=IA g;subst g;cases s;exact⟨[_],rfl,λK=>⟨rfl,Zb⟩⟩|bool=>
  intro x b l c a;cases b;unfold UL at a;split at a<;>first|contradiction|skip
  cases a;exact⟨[_],rfl,λK=>⟨rfl,rfl⟩⟩|sl t=>
  intro x b l c a;cases b;unfold UL at a;split at a<;>first|contradiction|skip
  cases a;exact⟨[_],rfl,λK=>⟨rfl,none,0,rfl,YG _,.inl rfl⟩⟩|ptr t=>
  intro x b l c a;cases b;unfold UL at a;split at a<;>first|contradiction|skip
  cases a;exact⟨[_],rfl,λK=>⟨rfl,.inl ⟨rfl,rfl⟩⟩⟩|YM D t=>
  intro x b l c a;have w:x=none:=by unfold Pr at b;split at b<;>cases b;rfl
  subst w;unfold UL at a;split at a<;>first|contradiction|skip
  cases a;exact⟨[_],rfl,λK=>⟨rfl,.inl ⟨rfl,rfl⟩⟩⟩|only t h=>intro x b l c a;exact h (x:=x) b a|pair j k y z=>
  intro x b l c a;have d:(match Pr j,Pr k with|some v,some i=>some (v,i)|_,_=>none)=some x:=b;have f:(match UL j l with|some l=>UL k l|none=>none)=some c:=a;split at d
  ·rename_i v i hv u;cases d;split at f;·rename_i F r;obtain⟨m,o,B⟩:=y hv r;obtain⟨n,e,C⟩:=z u f;exact⟨m++n,by rw[o,e,Z5],λK=>⟨[],[],m,n,rfl,rfl,B K,C K⟩⟩
   ·cases f
  ·cases d|vec A t h=>
  intro x b l c a;have d:(match Pr t with|some v=>some (Zn A v)|none=>none)=some x:=b;split at d;·rename_i v hv;cases d;exact dz (h hv) a
  ·cases d|_=>intro x b;first|(cases b;done)|(intro l c a;cases a;done)|(intro l c a;unfold UL at a;split at a<;>contradiction)
theorem ZsW:∀{t}{z},Iu t=some z->∀{l b},UL z.t l=some b->∃cs,l=cs++b/\∀K,rel K z.t [] cs z.x:=by
 have g:∀{e:Unit}{l b:List Value},UL .Tk l=some b->∃cs,l=cs++b/\∀K,rel K .Tk [] cs e:=by
  intro e l b c;unfold UL at c;split at c<;>first|contradiction|skip
  cases c;exact⟨[_],rfl,λK=>⟨rfl,rfl⟩⟩
 have p:∀{e:Unit}{l b:List Value},UL .V4 l=some b->∃cs,l=cs++b/\∀K,rel K .V4 [] cs e:=by
  intro e l b c;unfold UL at c;split at c<;>first|contradiction|skip
  cases c;exact⟨[_],rfl,λK=>⟨rfl,rfl⟩⟩
 have C:∀{e:Unit}{l b:List Value},UL .JY l=some b->∃cs,l=cs++b/\∀K,rel K .JY [] cs e:=by
  intro e l b c;unfold UL at c;split at c<;>first|contradiction|skip
  cases c;exact⟨[_],rfl,λK=>⟨rfl,rfl⟩⟩
 intro t;induction t with
 |int=>intro z a;cases a;exact Jf (t:=.int) rfl|un B f=>intro z a;cases a;exact Jf (t:=.un B f) rfl|bool=>intro z a;cases a;exact Jf (t:=.bool) rfl|str=>intro z a;cases a;exact Jf (t:=.str) rfl|ptr t=>intro z a;cases a;exact Jf (t:=.ptr t) rfl|sl t=>intro z a;cases a;exact g|full t=>intro z a;cases a;exact g|YO t=>intro z a;cases a;exact g|opt t=>intro z a;cases a;exact p|own t=>intro z a;cases a;exact p|map i j=>intro z a;cases a;exact C|YM s t=>
  intro z a;unfold Iu at a;split at a;·cases a;exact g
  ·rename_i G w;cases a;refine Jf (t:=.YM s t) ?_;unfold Pr;split;·exact absurd rfl (w _)
   ·rfl|only t n=>
  intro z a l b c;have d:(match Iu t with|some v=>some (⟨.only v.t,v.x⟩:TV)|none=>none)=some z:=a;split at d;·rename_i v hv;cases d;exact n hv c
  ·cases d|pair i j y A=>
  intro z a l b c;have d:(match Iu i,Iu j with|some v,some f=>some (⟨.pair v.t f.t,(v.x,f.x)⟩:TV)|_,_=>none)=some z:=a;split at d
  ·rename_i v f hv x;cases d;have h:(match UL v.t l with|some l=>UL f.t l|none=>none)=some b:=c;split at h;·rename_i F u;obtain⟨k,q,D⟩:=y hv u;obtain⟨m,r,E⟩:=A x h;exact⟨k++m,by rw[q,r,Z5],λK=>⟨[],[],k,m,rfl,rfl,D K,E K⟩⟩
   ·cases h
  ·cases d|vec o t n=>
  intro z a;have d:(match Pr t with|some v=>some (⟨.vec o t,Zn o v⟩:TV)|none=>none)=some z:=a;split at d;·rename_i v hv;cases d;exactλl b c=>dz (Jf hv) c
  ·cases d|_=>intro z a;cases a
theorem Zgb{Z}{T}{z}(h:oR Z T=some z):∃cs,Go.Sl.QT Z.P T=some cs/\∀K,rel K z.t [] cs z.x:=by
 unfold oR at h;split at h
 ·split at h
  ·rename_i f b;split at h
   ·split at h;·rename_i a;have⟨c,d,e⟩:=ZsW b a;grind
    ·cases h
   ·grind
  ·grind
 ·grind
theorem GD.newObj{m}{hs}{w}(a:GD m hs w)(o):GD m ((w.heap.size,0,o)::hs) (w.alloc o)where
 mem:=λd e v b=>(nI w _ _ (a.lt b)).trans (a.mem d _ v b);nodup:=by simp only[HP.bs,XF,T9];exact⟨λb=>Nat.lt_irrefl _ (a.QF b),a.nodup⟩
 YY:=λc hx=>by
  rcases XB hx with rfl|hx;·exact Go.Sl.heap_alloc_new
  ·rw[Go.Sl.heap_alloc_old (a.QF (VC hx))];exact a.YY c hx
 free:=λc hx o=>by
  rcases XB hx with rfl|hx;·intro _;cases b:m _ o with|none=>rfl|some v=>exact absurd (a.lt b) Zb
  ·exact a.free c hx o
theorem yw{Z}{o}{e}{n}{j q l:Bx}{t}{x}(h:∀K H f hx a w,TD Z e n ⟨.v ⟨.hole n,()⟩,j,q,(n,⟨t,x⟩)::l,n+1⟩ o.op.operands.toList K H f hx a w->∃v w' b h1 h2,(execOp a.eval o).run Z.P w=.ok (.value v) w'/\rel b t h1 [v] x/\K.le b/\b.nm=K.nm/\GD b.m (h1++h2++hx) w'/\ZG w w' K.m b.m (f++hx).bs (h1++h2++hx).bs/\ZH b l h2/\Yt b l/\W3 K b q):GK Z o e n ⟨.v ⟨.hole n,()⟩,j,q,(n,⟨t,x⟩)::l,n+1⟩:=by intro K H f hx a w d;have⟨v,w',b,h1,h2,y,i,u,g,r,m,z,k,p⟩:=h K H _ _ a w d;rw[y];have c:=KK.HC (by rw[g];exact d.fr n Zb Zb) v;refine⟨b.name n v,h1++h2,r,m,⟨u.trans c.le,λB s=>(c.nm B s).trans (by rw[g])⟩,zA KK.Pl (RD i v Zb),⟨h1,h2,Zb,⟨[v],Xl c.le i,λC A=>by rw[YZ A];exact KK.Pl⟩,z.mono c.le⟩,Yt.cons (tw (n:=n) Zb d.lt) k,p⟩
theorem rU{Z}{o}{e}{n}{f}{t}{x}(h:∀K H d hx a w,TD Z e n ⟨.v ⟨.hole n,()⟩,f,[],[(n,⟨t,x⟩)],n+1⟩ o.op.operands.toList K H d hx a w->∃v b,(execOp a.eval o).run Z.P w=.ok (.value v) (w.alloc b)/\rel K t [(w.heap.size,0,b)] [v] x):GK Z o e n ⟨.v ⟨.hole n,()⟩,f,[],[(n,⟨t,x⟩)],n+1⟩:=yw λK H d hx a w c=>by have⟨v,b,j,i⟩:=h K H _ _ a w c;have l:=c.gd.right.newObj b;refine⟨v,_,K,_,[],j,i,KK.le.refl _,rfl,Zm,((ZG.refl w _ _).sub λk g=>by rw[HP.XL];exact Yd (.inr g)).trans ?_,trivial,λ_ _ _ h=>(by cases h),λ_ _=>rfl⟩;simpa[HP.bs]using ZG.alloc w _ _ _
section
variable{R:Type}{Z:Xq}{e:En}{b:Bx}{n:Nat}{k:Wc->Option R}{r:R}{x y z:Operand}{d:Option Tmp}{ty T ST:TypeId}{pos:String}{aft:Array Edge}{g:Option (Nat×Bool)}
theorem ZhG(h:mR Z n k T=some r):W4 Z ⟨d,.alloc T,ty,pos,aft,g⟩ e b n k r:=by
 unfold mR at h;split at h;·rename_i w m;have⟨c,i,j⟩:=Zgb m;refine⟨_,h,⟨Zb,Zb,Zb,Zb⟩,rU λa p t u q o s=>?_⟩;have⟨v,l,f⟩:=wm i o;exact⟨.pointer _,.cells _ T,by simp[execOp,Instr.alloc,l,newVar,newRow,f],⟨_,T,c,[],rfl,rfl,j a⟩⟩
 ·grind
theorem Zia(h:lq n k (ZW e y)=some r):W4 Z ⟨d,.box T y,ty,pos,aft,g⟩ e b n k r:=by
 unfold lq at h;split at h;·rename_i v hv;have⟨j,h⟩:=Yk h;refine⟨_,h,⟨Zb,Zb,Zb,Zb⟩,rU λm l p q o s f=>?_⟩;have⟨a,i,c⟩:=xI hv j (f.op y Ye);exact⟨.pointer _,.cells _ T,by simp[execOp,Instr.box,newVar,newRow,c],⟨_,T,a,[],rfl,rfl,i⟩⟩
 ·grind
theorem Zlc{T}(h:Nq Z e b n k (.makeMap T none)=some r):W4 Z ⟨d,.makeMap T none,ty,pos,aft,g⟩ e b n k r:=by
 simp[Nq]at h;split at h;·refine⟨_,h,⟨Zb,Zb,Zb,Zb⟩,rU λc a j l f m i=>⟨.map _,.map _ 0,?_,⟨_,#[],0,rfl,rfl,rfl⟩⟩⟩;simp[execOp,Instr.makeMap]
 ·grind
end
theorem ZeG{K}{t}{z}{b}(a:rel K t [] b z):∀{n},Row t.n (rel K t) [] (List.replicate n b).flatten (List.replicate n z)|0=>⟨rfl,rfl⟩|n+1=>⟨b,_,[],[],Zm,rfl,WH a,a,ZeG a⟩
theorem run_make{P}{w}{ST T:TypeId}{N}{e}{n a}(G:0<=n)(h1:n<=a)(h2:a<=4294967296)(p:Go.Sl.Qi P ST T N=true)(l:Go.Sl.QT P T=some e)(J:e.length=N):∃cells:List Value,(Instr.makeSlice ST (.int .i64 n) (.int .i64 a)).run P w=.ok (.slice (some ⟨w.heap.size,0,none⟩) n.toNat a.toNat) (w.alloc (.cells cells.toArray T))/\cells.length=a.toNat*N/\∀j,j<=a.toNat->cells.take (j*N)=(List.replicate j e).flatten:=by
 obtain⟨B,h,f,i,z,H,I,m,C⟩:=HZ p;have g:∀w:World,(typeInfo T).run P w=.ok h w:=λw=>by simp[typeInfo,i]
 have y:∀w:World,(sizeOf T).run P w=.ok N w:=λw=>by simp[sizeOf,g,z]
 have E:∀w:World,(zeroValue T).run P w=.ok f w:=λw=>by simp[zeroValue,g,m]
 have D:f.cells.toList=e:=by unfold Go.Sl.QT at l;simpa[i,m]using l
 have q:¬(h.bytes:Int)*a>2^48:=by have o:(2:Int)^48=281474976710656:=YP;have:(h.bytes:Int)*a<=4096*4294967296:=Int.mul_le_mul Y h2 Y YP;rw[o];omega
 have v:¬a<0:=Y;have x:¬n<0:=Y;have s:¬n>a:=Y;let c:=if a.toNat*N=0then#[]else f.cells;let cells:=((Array.range (a.toNat*N)).map (c[·%c.size]!)).toList;refine⟨cells,?_,by simp[cells],?_⟩
 ·simp only[Instr.makeSlice,Ym,WB B,YJ,asInt,asIntOf,Y5,g,na n Y,na a Y,v,x,q,s,decide_false,E5,SW,VZ,nO,y];by_cases b:a.toNat*N=0;·simp only[b,Sc,Y5,YJ,newRow,Ym,Dk];simp only[cells,c,b,Sc,ws];rfl
  ·simp only[b,VZ,Ym,E,YJ,Y5,newRow,Dk];simp only[cells,c,b,VZ,ws];rfl
 ·intro j t;induction j with|zero=>simp|succ j F=>
   rw[oU,Ta,Om,Dc,F Y,nr];congr 1;simp only[LC,wB,Xp];apply BC;intro d;rw[Ps];split
   ·rename_i k;rw[Rt];have r:j*N+d<a.toNat*N:=by have:(j+1)*N<=a.toNat*N:=RM _ t;rw[Ta,Om]at this;omega
    have b:a.toNat*N≠0:=Y;simp only[cells,c,b,VZ];rw[wo,Array.getElem?_map,Array.getElem?_range,YW r];simp only[Jm,C];have u:(j*N+d)%N=d:=by rw[Zgt];exact LH k
    rw[u,<-D];have A:d<f.cells.size:=Y;simp[A]
   ·rename_i k;rw[nu Y]
section
variable{R:Type}{Z:Xq}{e:En}{b:Bx}{n:Nat}{k:Wc->Option R}{r:R}{x y z:Operand}{d:Option Tmp}{ty T ST:TypeId}{pos:String}{aft:Array Edge}{g:Option (Nat×Bool)}
theorem Zkp{α}{l c}{o}{r:α}(h:Pe l c o=some r):0<=l/\l<=c/\c<=4294967296/\o=some r:=by have⟨a,h⟩:=Pf h;exact⟨a.1,a.2.1,a.2.2,h⟩
theorem Zld(h:jt Z n k ST (ZW e x) (ZW e y)=some r):W4 Z ⟨d,.makeSlice ST x y,ty,pos,aft,g⟩ e b n k r:=by
 unfold jt at h;split at h
 ·rename_i p P;split at h
  ·rename_i z t H Q;obtain⟨j,c⟩:=Yk h;clear h;rw[Yv]at j;obtain⟨B,a⟩:=j;split at a
   ·rename_i U I;split at a
    ·rename_i J;obtain⟨M,i,C⟩:=Jf H J;rw[Xp]at i;subst i;split at c;·rename_i o s F G;obtain⟨u,v,A,h⟩:=Zkp c;refine⟨_,h,⟨LG _,Zb,Zb,Zb⟩,rU λq K O S L w l=>?_⟩;have m:=C q;obtain⟨f,D,N,E⟩:=run_make (w:=w) u v A B I (WH m);refine⟨_,_,by simp only[execOp,l.int F Ye,l.int G Ye,Ym,D];rfl,.inr ⟨w.heap.size,t,s.toNat,f.take (o.toNat*p.n),f.drop (o.toNat*p.n),[],Zb,by rw[Sb];rfl,by rw[E _ Y];exact ZeG m,Zm,Zm⟩⟩
     ·cases c
    ·cases a
   ·cases a
  ·cases h
 ·cases h
theorem eP{K}{H}{a:Act}:∀{xs:List Operand}{v},xP (xs.map (ZW e))=some v->(∀x∈xs,YU K H (ZW e x) (a.eval x))->∃cs,V7 v.t cs (xs.map a.eval)/\rel K v.t [] cs v.x
 |[],v,h,_=>by cases h;exact⟨[],⟨rfl,rfl⟩,rfl,rfl⟩|x::xs,v,h,hx=>by
  have i:(match Qj _,xP _ with|some v,some s=>some _|_,_=>none)=some v:=h;split at i;·rename_i u s m o;cases i;have⟨c,j,l⟩:=Gd m (hx x Zb);have⟨f,q,p⟩:=eP o λy t=>hx y Zm;exact⟨c++f,⟨c,f,a.eval x,_,rfl,rfl,WH j,l,q⟩,[],[],c,f,rfl,rfl,j,p⟩
  ·grind
theorem Zlb{f}{first cs}(h:Nq Z e b n k (.makeFunc (.func f) first cs)=some r):W4 Z ⟨d,.makeFunc (.func f) first cs,ty,pos,aft,g⟩ e b n k r:=by
 simp[Nq]at h;split at h;·rename_i A v i hv;refine⟨_,h,Loc.val,X3 λp o t u q C a=>?_⟩;have⟨s,B,w⟩:=eP i λx j=>a.op x (by simp[Op.operands];grind);have⟨c,m,l⟩:=eP hv λx j=>a.op x (by simp[Op.operands];grind);refine⟨.func _ _ _,rfl,[_],⟨rfl,first.toList.map _,cs.toList.map _,c,by rw[<-wu,<-wu],Zm,m,l⟩,rfl⟩
 ·grind
theorem Zst{i c}(h:Mg b (.un .u8 8) (ZW e x) (λl r=>k ⟨.v ⟨.str,l⟩,r,[],[],n⟩)=some r)(p:Z.P.underlying c=some .string)(u:Il Z.P i=true):W4 Z ⟨d,.convert i c x,ty,pos,aft,g⟩ e b n k r:=by have⟨l,rd,h,s,o⟩:=Ft h;refine⟨_,h,⟨Zb,Zb,s,Zb⟩,X3 λm j B C A w a=>?_⟩;have⟨f,t,q⟩:=Zsf u p (o m j _ w _ a.gd a.rd (a.op x Ye));exact⟨.string f,by simp only[execOp,Ym,t,YJ];rfl,[_],⟨rfl,f,rfl,q⟩,rfl⟩
theorem Za8{w:World}{a}{n}{b'}(h:b'≠a.block):(w.freeze a n).heap[b']?=w.heap[b']?:=by unfold World.freeze;grind
theorem Zis{w:World}{a}{n}(p):(w.freeze a n).cell? p=w.cell? p:=by
 unfold World.freeze;split;·rfl
 ·by_cases c:p.block=a.block;·simp[World.cell?,oV,c,Sc];cases f:w.heap[a.block]?<;>grind
  ·simp[World.cell?,oV,Yg (Iy c)]
theorem ZiN{D L}(h:uE b n k (ZW e x)=some r)(hs:D=L)(hu:Il Z.P D=true):W4 Z ⟨d,.convert D L x,ty,pos,aft,g⟩ e b n k r:=by
 subst hs;obtain⟨el,x7,x8⟩:=ZfN hu;unfold uE at h;split at h
 ·rename_i xk u0 hx;split at h
  ·rename_i C x0;have I:C≠[]/\k ⟨.v ⟨.sl (.un .u8 8),C⟩,[],[(xk,⟨.full (.un .u8 8),C⟩)],[],n⟩=some r:=by
    unfold Cp at h;split at h;·cases h
    ·exact⟨Zb,h⟩
   obtain⟨I,h⟩:=I;refine⟨_,h,⟨YG _,λy0 u=>by rw[YZ u];exact x0,Zb,Zb⟩,λj xs hr q K w u=>?_⟩;obtain⟨h1,H,x4,hb,_⟩:=u.sr;have U:=u.op x Ye;rw[hx]at U;obtain⟨xv,⟨_,v,x3,rfl,_⟩,G⟩:=U;rcases(PL hb x3 rfl)with⟨s,_⟩|⟨a,T,F,c,i,h',ec,rfl,V,x1,hz⟩;·exact absurd s I
   ·cases ec;have G:K.eval x=.slice (some ⟨a,0,none⟩) C.length F:=G;have X:h'=[]:=Row.Lo (λ_ _ _ h=>SD (t:=.un .u8 8) rfl h) V;subst X;have N:(hr++q).Perm ((a,0,cellsOf (c++i) T)::(H++q)):=by refine(x4.append_right q).trans ?_;simp
    have p:=u.gd.perm N;have x6:w.shape? a=some (T,(c++i).length):=by simp[World.shape?,p.YY (a,0,cellsOf (c++i) T) Zb,cellsOf]
    let W:=w.freeze ⟨a,(c++i).length,none⟩ 1;have x5:(execOp K.eval ⟨d,.convert D D x,ty,pos,aft,g⟩).run Z.P w=.ok (.value (.slice (some ⟨a,0,none⟩) C.length F)) W:=by simp only[execOp,G,convert,Ym,WB x7,WB x8,YJ,nJ,markStringish,run_shape,x6,run_freeze,Y5];rfl
    rw[x5];have x2:a∉HP.bs (H++q):=by have:=p.nodup;simp only[HP.bs,XF,T9]at this;exact this.1
    have P:XI j.m (j.m.put a (c++i)):=YD.FQ p.tC;have M:j.le {j with m:=j.m.put a (c++i)}:=⟨λ_ _ h=>h,λ_ _ _ h=>h,P⟩;have Q:∀y∈q,y.1≠a:=λy A s=>x2 (by rw[HP.XL];exact Yd (.inr (s▸VC (f:=(·.1)) A)));refine⟨{j with m:=j.m.put a (c++i)},[],?_,?_,⟨M,λ_ _=>rfl⟩,?_,trivial,λ_ _ _ h=>(by cases h),λ_ _=>rfl⟩
    ·refine⟨λo l v E=>?_,?_,λy A=>?_,λy A l ho=>?_⟩
     ·refine(Zis (w:=w) ⟨o,l,none⟩).trans ?_;have J:(if o=a then(c++i)[l]?else j.m o l)=some v:=E;split at J;·rename_i s;subst s;exact p.cell XP J
      ·exact p.mem o l v J
     ·have:=p.nodup;simp only[HP.bs,XF,T9,Vg,TM]at this;simpa[HP.bs]using this.2.2.1
     ·have B:y∈q:=by simpa using A
      rw[show W.heap[y.1]?=w.heap[y.1]?from Za8 (Q y B)];exact p.YY y (by simp[B])
     ·have B:y∈q:=by simpa using A
      show(if y.1=a then(c++i)[l]?else j.m y.1 l)=none;rw[Yg (Q y B)];exact p.free y (by simp[B]) l ho
    ·refine⟨by show(w.freeze _ _).os=_;unfold World.freeze;split<;>rfl,by show(w.freeze _ _).tape=_;unfold World.freeze;split<;>rfl,by show(w.freeze _ _).output=_;unfold World.freeze;split<;>rfl,by show _<=(w.freeze _ _).heap.size;unfold World.freeze;split<;>simp,λo O hn=>?_,λo O=>.inl<|by rw[HP.XL];exact Yd (.inr (by simpa using O)),P⟩
     ·have S:o≠a:=λs=>hn (by
       have:a∈HP.bs ((a,0,cellsOf (c++i) T)::(H++q)):=by simp[HP.bs]
       rw[s];exact((N.map (·.1)).mem_iff).2 this);refine⟨Za8 S,λl=>?_⟩;show(if o=a then(c++i)[l]?else j.m o l)=_;rw[Yg S]
    ·refine⟨[_],⟨rfl,_,F,rfl,x1,.inr ⟨a,0,c,rfl,Row.imp (λ_ _ _ h=>Xl (t:=.un .u8 8) M h) V,λx9 v E=>?_⟩⟩,rfl⟩;have:=YD.AE j.m a (c++i) x9 v (by rw[Uy (Wm E).1];exact E);exact this
  ·cases h
 ·cases h
end
def zM(m:YD)(hL:HP)(w:World):YD:=λa b=>if a∈hL.bs then w.cell? ⟨a,b,none⟩else m a b
def KK.OM(K:KK)(hL:HP)(w:World):KK:={K with m:=zM K.m hL w}
def vV(m c:YD)(hL:HP):YD:=λa b=>if a∈hL.bs then m a b else c a b
section
variable{K:KK}{hL hs Z:HP}{w w':World}
theorem je(d:GD K.m hs w):K.le (K.OM hL w):=by
 refine⟨λ_ _ a=>a,λ_ _ _ a=>a,λb c v a=>?_⟩;show(if b∈hL.bs then w.cell? _ else K.m b c)=some v;split;·exact d.mem b c v a
 ·grind
theorem Zbz(b:GD K.m (hL++hs) w):RX (K.OM hL w) hL:=by intro a c d v hv;show(if a.1∈hL.bs then w.cell? _ else K.m _ d)=some v;rw[YW (show a.1∈hL.bs from Pt ⟨a,c,rfl⟩),DO (b.YY _ Zm)];exact hv
theorem Zby(d:GD K.m (hL++hs) w):∀b∈hs.bs,b∉hL.bs:=λb a c=>by have:=d.nodup;rw[HP.XL,TM]at this;exact this.2.2 b c b a rfl
theorem jd(a:GD K.m (hL++hs) w):GD (K.OM hL w).m hs w where
 mem:=λc b v g=>by
  have e:(if c∈hL.bs then w.cell? _ else K.m c b)=some v:=g;split at e;·grind
  ·exact a.mem c b v e
 nodup:=a.right.nodup;YY:=a.right.YY;free:=λd f b h=>by show(if d.1∈hL.bs then w.cell? _ else K.m _ b)=none;rw[Yg (Zby a _ (Pt ⟨d,f,rfl⟩))];exact a.right.free d f b h
theorem an{g}(i:GD K.m (hL++hs) w)(l:GD g Z w')(f:ZG w w' (K.OM hL w).m g hs.bs Z.bs):GD (vV K.m g hL) (hL++Z) w'/\ZG w w' K.m (vV K.m g hL) (hL++hs).bs (hL++Z).bs:=by
 have t:∀b∈hL.bs,b<w.heap.size:=λb d=>i.QF (by rw[HP.XL];exact Yd (.inl d));have r:∀b∈hL.bs,b∉hs.bs:=λb d k=>Zby i b k d;have x:∀b∈hL.bs,w'.heap[b]?=w.heap[b]?:=λb d=>(f.Wa b (t b d) (r b d)).1;have s:∀b∈Z.bs,b∉hL.bs:=λb d k=>by
  rcases f.own b d with h|h;·exact r b k h
  ·have:=t b k;omega
 refine⟨⟨λb c v h=>?_,?_,λe hx=>?_,λe hx c u=>?_⟩,f.os,f.tape,f.output,f.size,λb d o=>?_,λb d=>?_,λb c v h=>?_⟩
 ·have n:(if b∈hL.bs then K.m b c else g b c)=some v:=h;split at n;·rename_i d;exact(BL (w:=w) (a:=⟨b,c,none⟩) (x b d)).trans (i.mem b c v n)
  ·exact l.mem b c v n
 ·rw[HP.XL,TM];refine⟨i.left.nodup,l.nodup,λb d z y j=>?_⟩;subst j;exact s b y d
 ·rcases Z1 hx with hx|hx;·rw[x _ (Pt ⟨e,hx,rfl⟩)];exact i.YY e (Yd (.inl hx))
  ·exact l.YY e hx
 ·rcases Z1 hx with hx|hx;·show(if e.1∈hL.bs then K.m e.1 c else g e.1 c)=none;rw[YW (show e.1∈hL.bs from Pt ⟨e,hx,rfl⟩)];exact i.free e (Yd (.inl hx)) c u
  ·show(if e.1∈hL.bs then K.m e.1 c else g e.1 c)=none;rw[Yg (s _ (Pt ⟨e,hx,rfl⟩))];exact l.free e hx c u
 ·rw[HP.XL,TL]at o;have p:b∉hL.bs:=λj=>o (.inl j);have q:=f.Wa b d λj=>o (.inr j);refine⟨q.1,λc=>?_⟩;show(if b∈hL.bs then K.m b c else g b c)=_;rw[Yg p,q.2 c];show(if b∈hL.bs then w.cell? ⟨b,c,none⟩else K.m b c)=_;rw[Yg p]
 ·rw[HP.XL,TL]at d⊢;rcases d with h|h;·exact .inl (.inl h)
  ·exact(f.own b h).imp .inr id
 ·show(if b∈hL.bs then K.m b c else g b c)=some v;split;·exact h
  ·exact f.le b c v ((je (hL:=hL) i).m b c v h)
end
theorem ez(h hs:HP):∃hL rest,hs.Perm (hL++rest)/\(∀x∈hL,x∈h/\x∈hs)/\∀x∈hs,x∈h->x∈hL:=by classical refine⟨hs.filter _,hs.filter λx=>!decide (x∈h),(List.filter_append_perm _ _).symm,λx a=>Zm,λx a b=>Zm⟩
theorem j4:∀{p}{l},F5 p=some l->J0 l=Z8 p
 |[],l,h=>by cases h;rfl|.a::p,l,h=>by
  unfold F5 at h;split at h;·rename_i d c;cases h;show J0 d=Z8 p;exact j4 c
  ·grind|.b k::p,l,h=>by
  unfold F5 at h;split at h;·rename_i d c;cases h;show k+J0 _=k+Z8 p;rw[j4 c]
  ·grind|.ix _ _ _::p,l,h=>by cases h|.o::p,l,h=>by cases h|.m _::p,l,h=>by cases h
theorem ZlT{p}{l}(h:F5 p=some l):(∀i sz m q,p≠.ix i sz m::q)/\∀i q,p≠.m i::q:=by
 constructor;·rintro i sz m q rfl;cases h
 ·rintro i q rfl;cases h
theorem ZlQ{ag}{cs ds}{n}(h1:cs.length=n)(h2:ds.length=n)(h:ag=false->n=1)(e:XE ag cs=XE ag ds):cs=ds:=by cases ag with|true=>simpa[XE]using e|false=>have a:=h rfl;subst a;match cs,ds,h1,h2 with|[u],[v],_,_=>simpa[XE]using e
theorem Zr2{K K2}{t}{c h}{v}{l:List t.den}(k:t.plain=true)(m:rel K (.full t) c [v] l)(g:K.le K2)(hs:∀x∈c,x∈h)(i:RX K2 h):rel K2 (.sl t) [] [v] l:=by
 rcases m with⟨rfl,_,d,a⟩|⟨e,q,f,o,w,r,a,rfl,b,j,u⟩;·cases a;exact⟨rfl,d,0,rfl,Zb,.inl rfl⟩
 ·cases a;have a:=Row.Lo (λ_ _ _ h=>SD k h) b;subst a;refine⟨rfl,_,f,rfl,j,.inr ⟨e,0,o,rfl,Row.imp (λ_ _ _ h=>Xl g h) b,λn p s=>i.at (hs _ XP) n p Zm⟩⟩
theorem Zbx{R}{b}{s}{k}{r:R}(h:sn b s k=some r):∃a O,k a O=some r/\∀(K)(H)(v)(hs)(w),GD K.m hs w->YU K H s v->(∀j∈O,∃u h,ZF b j=some u/\H j=some h/\Wg K j u h/\∀x∈h,x∈hs)->∃cs,v=XE a.t.ag cs/\cs.length=a.t.n/\∀K2,K.le K2->(∀j∈O,∃h,H j=some h/\RX K2 h)->rel K2 a.t [] cs a.x:=by
 have y3:∀{s:SV}{a:TV},Qj s=some a->∀(K:KK)(H:HM)(v:Value)(hs:HP)(w:World),GD K.m hs w->YU K H s v->(∀j∈([]:List Nat),∃u h,ZF b j=some u/\H j=some h/\Wg K j u h/\∀x∈h,x∈hs)->∃cs,v=XE a.t.ag cs/\cs.length=a.t.n/\∀K2:KK,K.le K2->(∀j∈([]:List Nat),∃h,H j=some h/\RX K2 h)->rel K2 a.t [] cs a.x:=by intro s a hs K H v yf w _ M _;obtain⟨cs,A,p⟩:=Gd hs M;exact⟨cs,p,WH A,λK2 h _=>Xl h A⟩
 unfold sn at h;split at h
 ·rename_i j i sz m z f;split at h
  ·rename_i v W;obtain⟨X,x2⟩:=DJ W;obtain⟨w0,ha,d⟩:=tJ h;clear h;split at d
   ·rename_i m' t x;obtain⟨e,T⟩:=Yk d;rw[Yv]at e;obtain⟨rfl,rfl⟩:=DG e.1;refine⟨_,_,T,?_⟩;rintro K H u hs w q⟨P,Q,xv,rfl,x6,h0,y9,y6⟩F;obtain⟨v',S,D,U,V,x1⟩:=F j Zb;rw[X]at D;cases D;obtain⟨r0,b0,k0,y4,cs,hu,x8,x9,x7,yl,y8,N⟩:=v9 x2 V ha;obtain⟨r1,x4,xk⟩:=xv.C9;rw[x8]at x4;cases x4;have eb:=x9.uniq xk;subst eb;have e0:hu=[]:=SD (t:=.vec m t) e.2 N;subst e0;have x0:=Row.drop (R:=rel K t) (Yf z) (Row.take (Yf f) (show Row t.n (rel K t) [] _ (Vector.toList x)from N));have x3:(Xc (Yf z) (YC (Yf f) (Xw x))).length=(f-z).toNat:=by show(List.drop z.toNat (List.take f.toNat x.toList)).length=_;rw[Wn,UF,Gy];omega
    refine⟨[_],rfl,rfl,λK2 C E=>?_⟩;obtain⟨p,B,Z⟩:=E j Zb;rw[U]at B;cases B;refine⟨rfl,_,Q,by rw[x3],by rw[x3];exact x6,.inr ⟨b0,_,_,rfl,Row.imp (λ_ _ _ h=>Xl C h) x0,λy u g=>?_⟩⟩;have y7:=(Wm g).1;rw[Rt,Ps,Ps,Rt]at g;split at g
    ·split at g;·have:=(Z.at x7) _ u g;rw[<-this];congr 1;show Z8 i+z.toNat*t.n+y=0+(Z8 i+(z.toNat*t.n+y));omega
     ·cases g
    ·cases g
   ·cases d
  ·cases h
 ·rename_i O a;obtain⟨G,d⟩:=Yk h;refine⟨_,_,d,λK H v hs w q M F=>?_⟩;obtain⟨cs,A,p⟩:=M (Cl K w) (tR q) λj hm=>by obtain⟨u,S,_,eh,_,x1⟩:=F j hm;exact⟨S,eh,λx hx=>tQ q x (x1 x hx)⟩
  refine⟨cs,p,WH A,λK2 C E=>?_⟩;obtain⟨ds,h3,h4⟩:=M K2 C E;rw[ZlQ (WH A) (WH h3) (KZ G) (p.symm.trans h4)];exact h3
 ·rename_i j;refine⟨_,_,h,?_⟩;rintro K H u hs w q⟨P,⟨rv,l,L⟩,rfl⟩_;have c:K.nm j=some rv:=l;rcases L with⟨rfl,_⟩|⟨n,Q,y,sz,m,x5,_,o,_⟩;·exact⟨[_],rfl,rfl,λK2 h _=>⟨rfl,_,h.nm _ _ c,rfl,rfl⟩⟩
  ·cases o
 ·rename_i j i _;split at h
  ·rename_i y2 J;refine⟨_,_,h,?_⟩;rintro K H u hs w q⟨P,⟨rv,l,L⟩,rfl⟩_;obtain⟨n1,n2⟩:=ZlT J;have I:MB K j i=K.nm j/\Ew i=i:=by cases i with|nil=>exact⟨rfl,rfl⟩|cons s x5=>cases s<;>first|exact⟨rfl,rfl⟩|exact absurd rfl (n2 _ _)
   rw[I.1]at l;rw[I.2]at L;rcases L with⟨rfl,_⟩|⟨n,Q,y,sz,m,x5,_,o,_⟩;·exact⟨[_],rfl,rfl,λK2 h _=>⟨rfl,P,h.nm _ _ l,by rw[j4 J]⟩⟩
   ·exact absurd o (n1 _ _ _ _)
  ·cases h
 ·rename_i y5 t0 x;rcases Mu h with⟨_,h⟩|⟨y,f,h⟩;·cases h
  ·split at h
   ·rename_i f' t xs W;obtain⟨X,x2⟩:=DJ W;obtain⟨e,d⟩:=Yk h;rw[Yv]at e;cases Xu e.1;obtain⟨y2,J,T⟩:=U3 d;refine⟨_,_,T,?_⟩;rintro K H v hs w q⟨cs,⟨_,hx⟩,rfl⟩F;obtain⟨u',S,D,U,V,x1⟩:=F _ (Tq rfl);rw[X]at D;cases D;obtain⟨cv,⟨_,vs,y1,x0⟩,_⟩:=V;obtain⟨u,hu,G,y0,N⟩:=Row.IT x0 J;rcases hx with⟨l,_⟩|⟨i',u',I,o,rfl,_⟩;·have c:x=none:=l;rw[f]at c;cases c
    ·have c:x=some i':=I;rw[f]at c;cases c;rw[y1 y u G]at o;cases o;refine⟨[u],rfl,rfl,λK2 C E=>?_⟩;obtain⟨p,B,Z⟩:=E _ (Tq rfl);rw[U]at B;cases B;exact Zr2 e.2 N C y0 Z
   ·cases h
 ·split at h;·rename_i s _ _ _ _ _ v G;exact⟨_,_,h,y3 G⟩
  ·cases h
theorem ZjN{a}{i off}{v}{cs ds:List Value}{ps}(c:a i=some (off,ds.length))(b:v.cells=ds.toArray)(e:off+ds.length<=cs.length):Instr.fill a cs.toArray ((i,v)::ps)=Instr.fill a (cs.take off++ds++cs.drop (off+ds.length)).toArray ps:=by simp[Instr.fill,c,b];have d:=zl off _ 0 _ Y;grind
theorem Y0.nothing{w}{K K'}{hs hx}(h:Y0 w K hs K' (hx++hs))(f:GD K.m hs w):hx=[]:=by have⟨a,e⟩:=h.step f;cases hx with|nil=>rfl|cons d hx=>
  exfalso;have c:d.1∈HP.bs (d::hx++hs):=by simp[HP.bs]
  have g:=a.QF c;rcases e.own _ c with b|b;·have:=a.nodup;simp only[HP.bs,MN,XF,T9,Vg,TL,not_or]at this;exact this.1.2 b
  ·omega
theorem ZiH{t}{v}{x}{c'}(j:NP t v {g:=[]} x c')(hi:No c'.s=true)(l:c'.p=false):∀(K)(hs)(w)(cs),GD K.m hs w->rel K v.t [] cs v.x->rel K t [] cs x:=by intro K hs w cs c n;have⟨A,u,r,s,m⟩:=j;have h:=rL s.mr;have f:=rL s.mq;subst h f;have⟨b,o,k,q,p,_,_,z,a⟩:=m w K _ [] [] _ (by simpa using c.nil) n trivial trivial Zb (by intro y t B i;simp at i) Zb;have a:=a l;subst a;have d:Y0 w b [] b (o++k++[]):=Zm;have e:=(Oj (d.nothing c.nil)).1;subst e;exact Xl (KU hi) p
section
variable{R:Type}{Z:Xq}{e:En}{b:Bx}{n:Nat}{k:Wc->Option R}{r:R}{x y z:Operand}{d:Option Tmp}{ty T ST:TypeId}{pos:String}{aft:Array Edge}{g:Option (Nat×Bool)}
theorem Zmm{v}{i o}{p}(h:ic Z T v i=some (p,o)):Z8 p=o/\RU p:=by
 unfold ic at h;split at h;·rename_i f c _;have⟨a,rfl⟩:=Yk h;rw[Uk]at a;exact⟨by show(Ze i).toNat*c.n+0=i*c.n;simp,Zm,trivial⟩
 ·split at h;·have⟨a,rfl⟩:=Yk h;exact⟨rfl,L9 (p:=[]) trivial a⟩
  ·grind
theorem Zmn{K}{v y w}{p}{cs a}(hs:Rh v p y w)(j:RU p)(hv:rel K v.t [] cs v.x)(c:rel K y.t [] a y.x):Z8 p+a.length<=cs.length/\rel K w.t [] (cs.take (Z8 p)++a++cs.drop (Z8 p+a.length)) w.x:=by have⟨C,t⟩:=hs.at j;have⟨u,A,m,_,l,s⟩:=focus t hv;have⟨i,B,o,q⟩:=s (KK.le.refl K) hs c;have f:=(Oj m.symm.eq_nil).2;subst f;have h:=o.eq_nil;subst h;rw[WH c,i];exact⟨l,q⟩
theorem fU{k'}:∀{ps}{v},xB Z e T v ps k'=some r->∃u,k' u=some r/\∀(K)(H)(hs)(w)(a:Act),GD K.m hs w->(∀p∈ps,YU K H (ZW e p.2) (a.eval p.2))->∀cs,rel K v.t [] cs v.x->∃s,(∀f,(∀i q,Go.Sl.placeOf Z.P T i=some q->f i=some q)->Instr.fill f cs.toArray (ps.map λp=>(p.1,a.eval p.2))=some s.toArray)/\rel K u.t [] s u.x
 |[],v,h=>⟨v,h,λK H hs w a _ _ cs B=>⟨cs,λ_ _=>rfl,B⟩⟩|(i,o)::ps,v,h=>by
  unfold xB at h;split at h
  ·rename_i y p D hy x8;obtain⟨E,J⟩:=Yk h;clear h;rw[Yv]at E;obtain⟨x0,P⟩:=E;obtain⟨x2,x3⟩:=Zmm x8;have x7:Go.Sl.placeOf Z.P T i=some (D,y.t.n):=by
    split at P;·rename_i xk m he;obtain⟨e1,e2⟩:=DG P;rw[he,e1,e2]
    ·cases P
   have x1:∀(l G:TV)(K:KK)(cs c:List Value)(a:Act),Rh v p G l->rel K v.t [] cs v.x->rel K G.t [] c G.x->c.length=y.t.n->(a.eval o).cells=c.toArray->rel K l.t [] (cs.take D++c++cs.drop (D+c.length)) l.x/\∀f:Nat->Option (Nat×Nat),(∀i q,Go.Sl.placeOf Z.P T i=some q->f i=some q)->∀ps,Instr.fill f cs.toArray ((i,a.eval o)::ps)=Instr.fill f (cs.take D++c++cs.drop (D+c.length)).toArray ps:=by intro l G K cs c a hs hv x9 hl E;obtain⟨W,X⟩:=Zmn hs x3 hv x9;rw[x2]at W X;exact⟨X,λf j ps=>ZjN (by rw[j i _ x7,hl]) E W⟩
   split at J;·rename_i m t ht;obtain⟨z,c',h8,x5,x4⟩:=JG J;obtain⟨x6,h7⟩:=jS h8;obtain⟨l,V,I⟩:=pI h7;obtain⟨u,O,U⟩:=fU I;refine⟨u,O,λK H hs w a F A cs B=>?_⟩;obtain⟨c,C,L⟩:=xI hy x0 (A (i,o) Zb);obtain⟨S,N⟩:=x1 l ⟨t,z⟩ K cs c a V B (ZiH x4 x5 x6 K hs w c F C) (WH C) L;obtain⟨s,M,Q⟩:=U K H hs w a F (λp j=>A p (by simp[j])) _ S;exact⟨s,λf j=>by rw[XF,N f j];exact M f j,Q⟩
   ·obtain⟨l,V,I⟩:=pI J;obtain⟨u,O,U⟩:=fU I;refine⟨u,O,λK H hs w a F A cs B=>?_⟩;obtain⟨c,C,L⟩:=xI hy x0 (A (i,o) Zb);obtain⟨S,N⟩:=x1 l y K cs c a V B C (WH C) L;obtain⟨s,M,Q⟩:=U K H hs w a F (λp j=>A p (by simp[j])) _ S;exact⟨s,λf j=>by rw[XF,N f j];exact M f j,Q⟩
  ·cases h
theorem run_build{P}{w}{B o:List Value}{ps}(h:Go.Sl.ly P T=true)(C:Go.Sl.QT P T=some B)(s:∀A,(∀i q,Go.Sl.placeOf P T i=some q->A i=some q)->Instr.fill A B.toArray ps.toList=some o.toArray):(Instr.build T ps).run P w=.ok (.agg o.toArray) w:=by
 obtain⟨G,v,u⟩:=wm C w;unfold Go.Sl.ly at h;split at h
 ·rename_i f j;have l:=s ((f.toList.map λa=>(a.offset,((P.info? a.type).map (·.size)).getD 0)).toArray[·]?) (by intro i F c;simp only[Go.Sl.placeOf,j]at c;cases p:f[i]?with|none=>rw[p]at c;simp at c|some a=>rw[p]at c;simp only[BJ]at c;cases hi:P.info? a.type<;>grind);have D:(f.mapM λa=>do pure (a.offset,<-sizeOf a.type):Sem (Array (Nat×Nat))).run P w=.ok (f.toList.map λa=>(a.offset,((P.info? a.type).map (·.size)).getD 0)).toArray w:=by have:=ZbL (P:=P) (w:=w) f.toList (E7 h);rw[Zgi,Sem.run_map,this];rfl
  simp only[Instr.build,Ym,v,YJ,WB j,u,D,l,Y5]
 ·rename_i n e j;obtain⟨m,t⟩:=nG h;have l:=s (λi=>some (i*m.size,m.size)) (by intro i F c;simpa only[Go.Sl.placeOf,j,t,Jm]using c);have E:(sizeOf e).run P w=.ok m.size w:=by simp[sizeOf,typeInfo,t]
  simp only[Instr.build,Ym,v,YJ,WB j,u,E,l,Y5]
 ·cases h
theorem Zid{ps}(h:lB Z e n k T ps.toList=some r):W4 Z ⟨d,.build T ps,ty,pos,aft,g⟩ e b n k r:=by
 unfold lB at h;split at h;·rename_i L C;have⟨q,p⟩:=Yk h;have⟨K,D,E⟩:=Zgb C;have⟨J,o,B⟩:=fU p;have⟨s,m⟩:=Yk o;refine⟨_,m,Loc.val,X3 λc i G H j w f=>?_⟩;have⟨l,t,u⟩:=B c i _ w j f.gd (λF a=>f.op _ (by simp only[Op.operands,wu,wG];exact⟨F,a,rfl⟩)) _ (E c);have A:=run_build (w:=w) q D (by intro I a;rw[wu];exact t _ a);refine⟨.agg _,?_,l,u,by rw[s];rfl⟩;show(do let v<-Instr.build T _;pure _:Sem Next).run _ w=_;rw[Ym,A];rfl
 ·grind
end
def DS(t:Ty):Nat->Ty|0=>.nl|n+1=>.cons t (DS t n)
def eO{t:Ty}:(l:List t.den)->(DS t l.length).den|[]=>()|x::l=>(x,eO l)
theorem ZeD{K}{t}:∀{l}{hs}{cs},rel K (DS t l.length) hs cs (eO l)->Row t.n (rel K t) hs cs l|[],hs,cs,⟨h1,h2⟩=>⟨h2,h1⟩|x::l,hs,cs,⟨h1,h2,b,c,d,e,a,f⟩=>⟨b,c,h1,h2,e,d,WH a,a,ZeD f⟩
def OS(ag:Bool)(n:Nat)(h:ag=false->n=1):ZM (List Value)where
 n:=n;ag:=ag;rel:=λ_ b a=>b=a/\a.length=n/\∀v∈a,v.oneCell'=true;mono:=λ_ h=>h;len:=λh=>by rw[h.1];exact h.2.1
 cell:=λh=>by rw[h.1];exact h.2.2
 one:=h
theorem ZeQ{ag}{n}{h}{m}:∀{css}{cs},YT (OS ag n h) m cs css->cs=css.flatten|[],cs,a=>by simpa[YT]using a|c::css,cs,⟨f,g,e,b,d⟩=>by rw[e,b.1,ZeQ d,LC]
inductive M5(ag:Bool)(n:Nat)(a:Act):Nat->List (Nat×Operand)->List (List Value)->Prop|nil{k:Nat}:M5 ag n a k [] []|cons{k:Nat}{o:Operand}{cs:List Value}{ps:List (Nat×Operand)}{css:List (List Value)}:cs.length=n->(∀v∈cs,v.oneCell'=true)->a.eval o=XE ag cs->M5 ag n a (k+1) ps css->M5 ag n a k ((k,o)::ps) (cs::css)
theorem M5.len{ag}{n}{a}{k}{ps}{css}(h:M5 ag n a k ps css):css.length=ps.length:=by induction h<;>simp_all
theorem M5.builds{ag}{n}{a}{hv}{xs}{k}{ps}{css}(h:M5 ag n a k ps css):(∀p∈ps,p.2∈xs)->NO (Rj a xs) (OS ag n hv) k ps css:=by induction h with|nil=>exactλ_=>.nil|@cons k o cs ps css b c e _ i=>refineλg=>.cons (Ch (D7 XA) λj v f=>?_) Zm;rw[f,e];cases ag with|true=>exact⟨cs,rfl,rfl,b,c⟩|false=>have d:=hv rfl;rw[d]at b;match cs,b with|[u],_=>exact⟨rfl,d.symm,c⟩
theorem fE{P}{w}{a}{ST N len}{ag}{hv:ag=false->N=1}{ps}{css}{d}{ty}{pos}{aft}{g}(b:KW P ST N=true)(c:ps.toList.length=len)(hs:len*N<=16777216)(h:M5 ag N a 0 ps.toList css):∃T,(execOp a.eval ⟨d,.buildSlice ST len ps,ty,pos,aft,g⟩).run P w=.ok (.value (.slice (some ⟨w.heap.size,0,none⟩) len len)) (w.alloc (.cells css.flatten.toArray T)):=by
 unfold KW at b;split at b;·rename_i T k;have⟨i,e,f⟩:=fG (w:=w) (R:=OS _ N _) (m:=λ_ _=>none) b (c.symm.trans (M5.len h).symm) hs (h.builds (hv:=hv) (xs:=ps.toList.map (·.2)) Zm) λl j=>ZaA.ZW _;rw[ZeQ e]at f;refine⟨T,?_⟩;show(do let v<-Instr.buildSlice _ len _;pure _:Sem Next).run P w=_;simp_all
 ·grind
section
variable{R:Type}{Z:Xq}{e:En}{b:Bx}{n:Nat}{k:Wc->Option R}{r:R}{x y z:Operand}{d:Option Tmp}{ty T ST:TypeId}{pos:String}{aft:Array Edge}{g:Option (Nat×Bool)}
theorem Zcy{t}:∀{ps}{i}{c}{k'},ig e t i ps c k'=some r->No c.s=true->∃(l:List t.den)(c':CS)(f:TV),k' l c'=some r/\No c'.s=true/\Coe (DS t l.length) f c (eO l) c'/\l.length=ps.length/\∀(K)(H)(a),(∀p∈ps,YU K H (ZW e p.2) (a.eval p.2))->∃css,M5 t.ag t.n a i ps css/\rel K f.t [] css.flatten f.x
 |[],i,c,k',h,hi=>⟨[],c,⟨.nl,()⟩,h,hi,Coe.id (t:=.nl) rfl _ c,rfl,λK H a _=>⟨[],.nil,rfl,rfl⟩⟩|(S,o)::ps,i,c,k',h,hi=>by
  have⟨D,q⟩:=Yk h;cases Xu D;split at q;·rename_i v hv;have⟨Q,B⟩:=Yk q;have⟨z,O,A,G,s,E⟩:=JG B;have⟨l,u,f,J,I,F,P,N⟩:=Zcy A G;refine⟨z::l,u,⟨.cons _ _,(v.x,f.x)⟩,J,I,Coe.cons E F,Zm,λK H a L=>?_⟩;have⟨css,C,M⟩:=N K H a Zm;have⟨m,j,w⟩:=Gd hv (L _ XP);refine⟨m::css,.cons (by rw[WH j,s.n]) (RD j) (by rw[w,s.ag]) C,[],[],m,css.flatten,rfl,Zb,j,M⟩
  ·grind
theorem ie{t}:∀{ps}{i}{c}{J}{k'},yz e b t i ps c J k'=some r->No c.s=true->∃(l:List t.den)(c':CS)(s:List Nat)(f:TV)(M:Ty)(X:M.den),k' l c' s=some r/\No c'.s=true/\Coe M f c X c'/\l.length=ps.length/\(∀j∈J,j∈s)/\(t.plain=true->M.plain=true)/\∀(K)(H)(hs)(w)(a),GD K.m hs w->(∀p∈ps,YU K H (ZW e p.2) (a.eval p.2))->(∀j∈s,∃u h,ZF b j=some u/\H j=some h/\Wg K j u h/\∀x∈h,x∈hs)->∃css A,M5 t.ag t.n a i ps css/\rel K f.t [] A f.x/\∀m,K.le m->rel m M [] A X->(∀j∈s,∃h,H j=some h/\RX m h)->Row t.n (rel m t) [] css.flatten l
 |[],i,c,J,k',h,hi=>⟨[],c,J,⟨.nl,()⟩,.nl,(),h,hi,Coe.id (t:=.nl) rfl () c,rfl,λ_ h=>h,λ_=>rfl,λK H hs w a _ _ _=>⟨[],[],.nil,⟨rfl,rfl⟩,λ_ _ _ _=>⟨rfl,rfl⟩⟩⟩|(i',o)::ps,i,c,J,k',h,hi=>by
  unfold yz at h;obtain⟨hc,h9⟩:=Yk h;cases Xu hc;clear h hc;obtain⟨v,j1,h8,x7⟩:=Zbx h9;obtain⟨y0,h7⟩:=Yk h8;split at h7
  ·obtain⟨z,c1,h6,xs,x6,xk⟩:=JG h7;obtain⟨l,U,s,f,M,X,hk,x1,x0,x2,Q,x3,x5⟩:=ie h6 xs;refine⟨z::l,U,s,⟨.cons v.t f.t,(v.x,f.x)⟩,.cons t M,(z,X),hk,x1,Coe.cons (x:=(v.x,f.x)) xk x0,by simp[x2],Q,λB=>by simp[Ty.plain,B,x3 B],λK H hs w a D I F=>?_⟩;obtain⟨css,A,hP,hr,x4⟩:=x5 K H hs w a D (λp B=>I p (XG _ B)) F;obtain⟨C,V,G,S⟩:=x7 K H _ hs w D (I (_,o) XP) λj E=>by cases E
   have N:=S K (KK.le.refl K) λj E=>by cases E
   refine⟨C::css,C++A,.cons (by rw[G,x6.n]) (RD N) (by rw[V,x6.ag]) hP,⟨[],[],C,A,rfl,rfl,N,hr⟩,λm O⟨h1,h2,x8,x9,W,L,r1,r2⟩P=>?_⟩;obtain⟨rfl,rfl⟩:=by simpa using W.symm
   obtain⟨rfl,rfl⟩:=NK L (by rw[G,WH r1,x6.n]);exact⟨C,css.flatten,[],[],by rw[LC],rfl,WH r1,r1,x4 m O r2 P⟩
  ·rename_i j0 j;obtain⟨hn,z,rfl,h6⟩:=Ma h7;obtain⟨l,U,s,f,M,X,hk,x1,x0,x2,Q,x3,x5⟩:=ie h6 hi;refine⟨z::l,U,s,⟨.cons .nl f.t,((),f.x)⟩,.cons .nl M,((),X),hk,x1,Coe.cons (a:=.nl) (b:=M) (a':=.nl) (b':=f.t) (x:=((),f.x)) (y:=()) (z:=X) (Coe.id (t:=.nl) rfl () c) x0,by simp[x2],λi q=>Q i (Yd (.inr q)),λB=>by simp[Ty.plain,x3 B],λK H hs w a D I F=>?_⟩;obtain⟨css,A,hP,hr,x4⟩:=x5 K H hs w a D (λp B=>I p (XG _ B)) F;have E:∀i∈j0::j,i∈s:=λi q=>Q i (Yd (.inl q));obtain⟨C,V,G,S⟩:=x7 K H _ hs w D (I (_,o) XP) λi q=>F i (E i q);have N:=S _ (tR D) λi q=>by obtain⟨u,h',_,eh,_,xv⟩:=F i (E i q);exact⟨h',eh,λx hx=>tQ D x (xv x hx)⟩
   refine⟨C::css,A,.cons G (RD N) V hP,⟨[],[],[],A,rfl,rfl,⟨rfl,rfl⟩,hr⟩,?_⟩;rintro m O⟨h1,h2,x8,x9,W,L,⟨_,rfl⟩,r2⟩P;obtain⟨rfl,rfl⟩:=by simpa using W.symm
   rw[UW]at L;subst L;exact⟨C,css.flatten,[],[],by rw[LC],rfl,G,S m O λi q=>P i (E i q),x4 m O r2 P⟩
theorem Zq2{K}{t}{n}{hs}{cs}{x}{s}(hi:No s=true)(h:rel (K.WO s) (DS t n) hs cs x):rel K (DS t n) hs cs x:=Xl (KU hi) h
theorem Zic{len}{ps}(h:lA Z e b n k ST len ps.toList=some r):W4 Z ⟨d,.buildSlice ST len ps,ty,pos,aft,g⟩ e b n k r:=by
 unfold lA at h;split at h
 ·rename_i y3 ht;obtain⟨hc,I⟩:=Yk h;clear h;simp only[Yv,Dd]at hc;obtain⟨D,ys,hT,y2⟩:=hc;have D:=Xu D;have y0:=KZ ys;have xv:∀a∈ps.toList,a.2∈(Op.buildSlice ST len ps).operands.toList:=λa c=>by simp only[Op.operands,wu,wG];exact⟨a,c,rfl⟩
  cases hq:(ps.toList.all λa=>(Qj (ZW e a.2)).isSome)with|true=>
   rw[hq]at I;obtain⟨x8,C,tv,hk,x2,⟨Q,O,o,m⟩,hl,x6⟩:=Zcy I rfl;have l:C.r=Q:=by rw[o.r];simp
   have G:C.q=O:=by rw[o.q];simp
   refine⟨_,hk,⟨LG _,by rw[l];exact o.mr,by rw[G];exact o.mq,by rw[l];exact o.nd⟩,yw λs J v j S w c=>?_⟩;obtain⟨i,hP,x4⟩:=x6 s J S λa f=>c.op _ (xv a f);obtain⟨T,x3⟩:=fE (P:=Z.P) (w:=w) (hv:=y0) (d:=d) (ty:=ty) (pos:=pos) (aft:=aft) (g:=g) hT D y2 hP;obtain⟨t,A,p,N,x5,x7,hF,x1,_⟩:=m w s [] [] v i.flatten (by simpa using c.gd.left) x4 trivial (by rw[<-l];exact c.sr) (λa f=>by obtain⟨H,_,u,_⟩:=c.rd a (by show a∈C.q;rw[G];exact f);exact⟨H,u⟩) (by simpa using by rw[<-l];exact c.YM) Zb;have q:Y0 w s (v++j) t (A++p++j):=by simpa using N.frame j
   obtain⟨V,W⟩:=q.step c.gd;have g3:GD t.m ((w.heap.size,0,cellsOf i.flatten T)::(A++p++j)) (w.alloc (.cells i.flatten.toArray T)):=V.newObj (.cells i.flatten.toArray T);have K:=ZeD (Zq2 x2 x5);have E:x8.length=len:=hl.trans D;refine⟨_,_,t,(w.heap.size,0,cellsOf i.flatten T)::A,p,x3,.inr ⟨w.heap.size,T,len,i.flatten,[],A,by rw[E],by rw[Xp],K,by rw[E];exact YG _,by rw[Xp,K.length,E]⟩,q.le,q.nm,by simpa[Z5]using g3,?_,x7,hF,by rw[l];simpa using x1⟩;·have:=W.trans (ZG.alloc w t.m (HP.bs (A++p++j)) (.cells i.flatten.toArray T));simpa[HP.bs,Z5]using this|false=>
   rw[hq]at I;dsimp only[cond_false]at I;obtain⟨x8,C,js,tv,yv,yx,hk,x2,⟨Q,O,o,m⟩,hl,_,y9,x6⟩:=ie I rfl;have l:C.r=Q:=by rw[o.r];simp
   have G:C.q=O:=by rw[o.q];simp
   obtain⟨xk,X⟩:=Yk hk;rw[Yv]at xk;obtain⟨y8,yy⟩:=xk;split at X
   ·rename_i z0 yf;obtain⟨y5,y6⟩:=Fb yf;refine⟨_,X,⟨YG _,by rw[l];exact o.mr,?_,by rw[l];exact o.nd⟩,?_⟩
    ·intro a f;rcases Z1 f with f|f;·exact y5 a f
     ·rw[G]at f;exact o.mq a f
    intro s J v j S w c;have y7:∀F∈js,∃B h,ZF b F=some B/\J F=some h/\Wg s F B h/\∀x∈h,x∈v++j:=λF hj=>by obtain⟨B,e1,e2⟩:=y6 F hj;obtain⟨H,eh,u,yl⟩:=c.rd (F,B) (Yd (.inl e2));exact⟨B,H,e1,eh,u,yl⟩
    obtain⟨i,cm,hP,x4,K⟩:=x6 s J (v++j) w S c.gd (λa f=>c.op _ (xv a f)) y7;obtain⟨T,x3⟩:=fE (P:=Z.P) (w:=w) (hv:=y0) (d:=d) (ty:=ty) (pos:=pos) (aft:=aft) (g:=g) hT D y2 hP;rw[x3];obtain⟨t,A,p,N,x5,x7,hF,x1,_⟩:=m w s [] [] v cm (by simpa using c.gd.left) x4 trivial (by rw[<-l];exact c.sr) (λa f=>by obtain⟨H,_,u,_⟩:=c.rd a (Yd (.inr (by rw[G];exact f)));exact⟨H,u⟩) (by simpa using by rw[<-l];exact c.YM) Zb;have y1:=Xl (KU x2) x5;have y4:A=[]:=SD (y9 y8) y1;subst y4;have q:Y0 w s (v++j) t (p++j):=by simpa using N.frame j
    obtain⟨V,W⟩:=q.step c.gd;have E:x8.length=len:=hl.trans D;have x9:GD t.m ((w.heap.size,0,cellsOf i.flatten T)::(p++j)) (w.alloc (.cells i.flatten.toArray T)):=V.newObj (.cells i.flatten.toArray T);obtain⟨K2,M,k2,k3,kG⟩:=qz (k:=i.flatten.length) x9;obtain⟨g6,g7⟩:=kG.step x9;refine⟨K2,p,GD.right (hs:=[_]) g6,((W.trans (ZG.alloc w t.m (HP.bs (p++j)) (.cells i.flatten.toArray T))).trans g7).sub λb' u=>by simp only[HP.bs,XF];exact XG _ u,⟨q.le.trans M,λL _=>by rw[kG.nm,q.nm]⟩,?_,x7.mono M,?_,?_⟩;·refineλK' x0 hh=>⟨[_],⟨rfl,some ⟨w.heap.size,0,none⟩,len,by rw[E],by rw[E];exact YG _,.inr ⟨w.heap.size,0,i.flatten,rfl,K K' ((q.le.trans M).trans x0) (Xl (M.trans x0) y1) hh,?_⟩⟩,rfl⟩;·intro L B hu;rw[TN];exact x0.m _ _ _ (k3 L B (Wm hu).1 hu)
    ·intro U y3 xs yt L hi;rw[k2];exact hF U y3 xs yt L hi
    ·intro U hf;rw[k2];exact x1 U λa f=>hf a (by rw[l];simpa using f)
   ·cases X
 ·cases h
end
theorem ZcQ{w}{K}{h:HP}{b k k'}{cs}{T}(c:GD K.m ((b,k,cellsOf cs T)::h) w)(r:k<=k'):∃K',K.le K'/\K'.fm=K.fm/\(∀o v,o<k'->cs[o]?=some v->K'.m b o=some v)/\Y0 w K ((b,k,cellsOf cs T)::h) K' ((b,k',cellsOf cs T)::h):=by
 have i:=c.YY (b,k,cellsOf cs T) Zb;have q:∀o,k<=o->K.m b o=none:=λo e=>c.free (b,k,cellsOf cs T) Zb o e;have n:∀o v,K.m b o=some v->cs[o]?=some v:=λo v a=>by have:=c.mem b o v a;rw[DO i]at this;simpa[CJ,cellsOf]using this
 have j:XI K.m (YD.Qf K.m b k' cs):=by
  intro g o v a;unfold YD.Qf;split;·rename_i d;obtain⟨rfl,_⟩:=d;exact n o v a
  ·exact a
 have m:=c.nodup;simp only[HP.bs,XF,T9]at m;refine⟨⟨K.nm,K.fm,YD.Qf K.m b k' cs⟩,⟨λ_ _ h=>h,λ_ _ _ h=>h,j⟩,rfl,?_,⟨λ_ _ h=>h,λ_ _ _ h=>h,j⟩,rfl,λ_=>⟨⟨?_,c.nodup,?_,?_⟩,?_⟩⟩;·intro o v e a;show YD.Qf K.m b k' cs b o=some v;unfold YD.Qf;rw[YW ⟨rfl,e⟩];exact a
 ·intro g o v a;simp only[YD.Qf]at a;split at a;·rename_i d;obtain⟨rfl,_⟩:=d;rw[DO i];simpa[CJ,cellsOf]using a
  ·exact c.mem g o v a
 ·intro l hx;rcases XB hx with rfl|hx;·exact i
  ·exact c.YY l (XG _ hx)
 ·intro l hx o e;rcases XB hx with rfl|hx;·simp only[YD.Qf];grind
  ·simp only[YD.Qf];rw[Yg (by exactλ⟨h,_⟩=>(λa=>m.1 (by rw[<-a];exact VC (f:=(·.1)) hx)) h)];exact c.free l (XG _ hx) o e
 ·refine⟨rfl,rfl,rfl,YG _,λg _ p=>⟨rfl,λo=>?_⟩,λg d=>.inl d,j⟩;simp only[YD.Qf];rw[Yg (by exactλ⟨h,_⟩=>(λa=>p (by simp[HP.bs,a])) h)]
theorem GD.ZrQ{m}{hs:HP}{w}{b k}{T}{cs}(e)(c:GD m ((b,k,cellsOf cs T)::hs) w)(s:∀o,o<k->e[o]?=cs[o]?):GD m ((b,k,cellsOf e T)::hs) (Go.Sl.Wr w b T e)where
 mem:=λd o v i=>by
  by_cases l:d=b
  ·subst l;have n:=c.YY (d,k,cellsOf cs T) Zb;have j:=c.mem d o v i;rw[DO n]at j;have t:o<k:=by
    rcases Ru o k with g|g;·exact g
    ·have:=c.free (d,k,cellsOf cs T) Zb o g;grind
   rw[DO (xA n)];show e.toArray[o]?=some v;rw[NL,s o t];exact by simpa[CJ,cellsOf]using j
  ·have r:(Go.Sl.Wr w b T e).heap[d]?=w.heap[d]?:=by have x:b≠d:=λh=>l h.symm;simp[Go.Sl.Wr,Jh,x]
   exact(BL (w:=w) (a:=⟨d,o,none⟩) r).trans (c.mem d o v i)
 nodup:=c.nodup;YY:=λf hx=>by
  rcases XB hx with rfl|hx;·exact xA (c.YY (b,k,cellsOf cs T) Zb)
  ·have p:=c.nodup;simp only[HP.bs,XF,T9]at p;have u:b≠f.1:=λh=>p.1 Zm;simp only[Go.Sl.Wr,Jh,Yg u];exact c.YY f (XG _ hx)
 free:=λf hx o q=>by
  rcases XB hx with rfl|hx;·exact c.free (b,k,cellsOf cs T) Zb o q
  ·exact c.free f (XG _ hx) o q
theorem pK{P}{ST n}(h:KW P ST n=true):∃T,Go.Sl.Qi P ST T n=true:=by
 unfold KW at h;split at h;·grind
 ·grind
theorem Zbg{P}{T}(h:PQ P T=true):∃a,P.underlying T=some (.slice a):=let⟨a,h,_⟩:=zG h;⟨a,h⟩
theorem zi{P}{K}{w}{t}{l}{v}(h:LM K w t l v):∃a0 cap f,v=.slice a0 l.length cap/\l.length<=cap/\Row t.n (rel K t) [] f l/\∀a,(∀p,a.cell? p=w.cell? p)->(Builtin.firstCells t.n l.length (.slice a0 l.length cap)).run P a=.ok f.toArray a:=by
 obtain⟨a0,cap,rfl,b,rfl|⟨m,n,e,rfl,c,i⟩⟩:=h.h;·refine⟨a0,cap,[],rfl,b,⟨rfl,rfl⟩,λa d=>?_⟩;cases a0<;>simp[Builtin.firstCells,loadCells,loadCellsFrom]
 ·refine⟨_,cap,e,rfl,b,c,λa d=>?_⟩;have:=BO (P:=P) _ _ e λj k g=>by rw[SE,d];exact i j k g
  rwa[c.length]at this
structure LS(P:Program)(w:World)(N n0:Nat)(v:Value)(k:Nat)(row:List Value)(h1:HP):Prop where
 len:row.length=n0*N
 cell:∀u∈row,u.oneCell'=true
 le:k<=row.length
 h:(n0=0/\h1=[]/\∃ad,v=.slice ad 0 0)\/∃b T0 cap spare,v=.slice (some ⟨b,0,none⟩) n0 cap/\h1=[(b,k,cellsOf (row++spare) T0)]/\n0<=cap/\(row++spare).length=cap*N
theorem pw{P}{w}{m}{h1 h2}{ST XT T rt E N a nx k:Nat}{v}{row c}{a0}{cap0}(hT:Go.Sl.Qi P ST T N=true)(A:P.underlying XT=some (.slice E))(q:GD m (h1++h2) w)(d:LS P w N a v k row h1)(x:c.length=nx*N)(Q:∀u∈c,u.oneCell'=true)(F:∀H,(∀p,H.cell? p=w.cell? p)->(Builtin.firstCells N nx (.slice a0 nx cap0)).run P H=.ok c.toArray H)(L:a+nx<=4294967296):∃X k' h1' w',(Builtin.append_ #[ST,XT] rt #[v,.slice a0 nx cap0]).run P w=.ok X w'/\(k'=k\/k'=0)/\LS P w' N (a+nx) X k' (row++c) h1'/\GD m (h1'++h2) w'/\ZG w w' m m (HP.bs (h1++h2)) (HP.bs (h1'++h2)):=by
 obtain⟨r,W,z,R,V,x1,x2,hz,xs⟩:=HZ hT;have U:(sizeOf T).run P w=.ok N w:=by simp[sizeOf,typeInfo,R,V]
 have M:∀u∈row++c,u.oneCell'=true:=λu r=>(Z1 r).elim (d.cell u) (Q u);have D:(row++c).length=(a+nx)*N:=by rw[Yw,d.len,x,Ta]
 obtain⟨I,n,e,y0⟩:∃Z g,v=.slice Z a g/\a<=g:=by
  rcases d.h with⟨rfl,_,j,rfl⟩|⟨b,h,g,f,rfl,_,B,_⟩;·exact⟨j,0,rfl,YG _⟩
  ·exact⟨_,g,rfl,B⟩
 by_cases s:a+nx<=n
 ·rcases d.h with⟨rfl,rfl,j,l⟩|⟨b,h,g,f,l,rfl,B,t⟩
  ·rw[l]at e⊢;simp only[BK]at e;obtain⟨_,_,rfl⟩:=e;have xk:nx=0:=Y;subst xk;have x9:c=[]:=by simpa using x
   subst x9;have C:row=[]:=by simpa using d.len
   subst C;refine⟨.slice j 0 0,k,[],w,AC r A U Zb (F w λ_=>rfl) (by cases j<;>simp[storeCells]),.inl rfl,⟨Zb,Zb,by simp[by have:=d.le;simpa using this],.inl ⟨rfl,rfl,j,rfl⟩⟩,by simpa using q,by simpa using ZG.refl w m (HP.bs h2)⟩
  ·rw[l]at e⊢;simp only[BK]at e;obtain⟨_,_,rfl⟩:=e;have S:=d.len;have O:(a+nx)*N<=(row++f).length:=by rw[t];exact RM _ s
   rw[Ta]at O;have G:=EB (P:=P) (b:=b) (o:=a*N) (T:=h) c 0 (row++f) w Q (q.YY (b,k,cellsOf (row++f) h) Zb) (by rw[x];omega);simp only[Iw]at G;have x0:(row++f).take (a*N)=row:=by rw[<-S,Gv];rfl
   rw[x0,Z5]at G;have x4:=GD.ZrQ (row++(c++(row++f).drop (a*N+c.length))) (by simpa using q) λo y1=>by have:=d.le;rw[Uy Y,Uy Y]
   refine⟨.slice (some ⟨b,0,none⟩) (a+nx) g,k,[(b,k,cellsOf (row++(c++(row++f).drop (a*N+c.length))) h)],_,AC r A U s (F w λ_=>rfl) (by simpa[SE]using G),.inl rfl,⟨D,M,by have:=d.le;rw[Yw];omega,.inr ⟨b,h,g,(row++f).drop (a*N+c.length),rfl,by rw[Z5],s,?_⟩⟩,x4,ZG.Lv (by simp[HP.bs])⟩;·rw[Yw,Yw,Wn,x,S,t];rw[t]at O;omega
 ·have x7:(Builtin.firstCells N a (.slice I a n)).run P w.drew=.ok row.toArray w.drew:=by
   rcases d.h with⟨rfl,rfl,j,l⟩|⟨b,h,g,f,l,rfl,B,t⟩
   ·have C:row=[]:=by simpa using d.len
    subst C;cases I<;>simp[Builtin.firstCells,loadCells,loadCellsFrom]
   ·rw[l]at e;simp only[BK]at e;obtain⟨rfl,_,rfl⟩:=e;have:=BO (P:=P) w.drew ⟨b,0,none⟩ row λy2 u J=>by rw[SE,TN];exact q.drew.cell (k:=k) (T:=h) (cs:=row++f) Zb (by rw[Uy];exact J;exact(Wm J).1)
    rwa[d.len]at this
  have xv:=Go.Sl.nextslicecap_le (a+nx) n Y;have x5:¬Builtin.nextslicecap (a+nx) n*W.bytes>2^48:=by have h2:Builtin.nextslicecap (a+nx) n*W.bytes<=(4*4294967296+4096)*4096:=nD Y x2;have h3:(4*4294967296+4096)*4096<=2^48:=YP;omega
  obtain⟨y,x6,K⟩:=mV (P:=P) (rt:=rt) (z:=z) r A R V hz x1 s x5 x7 (F w.drew λ_=>rfl);rw[e];let i:=(Builtin.zeroCells z.cells (y-(a+nx))).toList;have x8:i.length=(y-(a+nx))*N:=by simp[i,Builtin.zeroCells,xs]
  have x3:row.toArray++c.toArray++Builtin.zeroCells z.cells (y-(a+nx))=(row++c++i).toArray:=by simp[i]
  rw[x3]at K;refine⟨_,0,[(w.heap.size,0,cellsOf (row++c++i) T)],_,K,.inr rfl,⟨D,M,VD _,.inr ⟨w.heap.size,T,y,i,rfl,rfl,x6,?_⟩⟩,(GD.right q).drew.newObj _,(((ZG.drew w m _).sub λb L=>by rw[HP.XL];exact Yd (.inr L)).trans (ZG.alloc w.drew m (HP.bs h2) (.cells (row++c++i).toArray T)))⟩;·rw[Yw,D,x8,<-Ta];congr 1;omega
section
variable{R:Type}{Z:Xq}{e:En}{b:Bx}{n:Nat}{k:Wc->Option R}{r:R}{x y z:Operand}{d:Option Tmp}{ty T ST XT:TypeId}{pos:String}{aft:Array Edge}{g:Option (Nat×Bool)}
theorem vS{α:Type}{a}{x y:α}(h:a.toList=[x,y]):a=#[x,y]:=by cases a;grind
theorem Ze1{P}{w w'}{a:Act}{c}{f}{v}(i:c.callee=.builtin f)(h:(builtin f c.argTypes ty (c.args.map λ|.const _=>true|_=>false) (c.args.map a.eval)).run P w=.ok (.value v) w'):(execOp a.eval ⟨d,.call c,ty,pos,aft,g⟩).run P w=.ok (.value v) w':=by simp[execOp,resolve,i,Ym,Y5,YJ,invoke];exact h
theorem tV{α}{m n}{o}{r:α}(h:Yp m n o=some r):m+n<=4294967296/\o=some r:=by have⟨a,h⟩:=Pf h;exact⟨a,h⟩
theorem Zl6{P}{K}{w}{t}{hs}{v}{l:List t.den}(h:rel K (.full t) hs [v] l):∃row h1 h',hs=h1++h'/\Row t.n (rel K t) h' row l/\LS P w t.n l.length v 0 row h1:=by
 rcases h with⟨rfl,rfl,c,e⟩|⟨b,T,f,row,m,h',e,rfl,a,i,j⟩;·cases e;exact⟨[],[],[],rfl,⟨rfl,rfl⟩,⟨Zb,Zb,VD _,.inl ⟨rfl,rfl,c,rfl⟩⟩⟩
 ·exact⟨row,[_],h',rfl,a,⟨a.length,a.cell λ_ _ _ h=>RD h,Zb,Zm⟩⟩
theorem kK{P}{K}{w}{t}{h1 h'}{v}{l}{row}(h:LS P w t.n l.length v 0 row h1)(a:Row t.n (rel K t) h' row l):rel K (.full t) (h1++h') [v] l:=by
 rcases h.h with⟨i,rfl,c,rfl⟩|⟨b,T,f,o,rfl,rfl,j,m⟩;·have:=dP i;subst this;obtain⟨_,rfl⟩:=a;exact .inl ⟨rfl,rfl,c,rfl⟩
 ·exact .inr ⟨b,T,f,row,o,h',rfl,rfl,a,j,m⟩
theorem Zl8{P}{K}{w}{t}{hs}{v}{l:List t.den}(h:rel K (.YO t) hs [v] l):∃row,Row t.n (rel K t) [] row l/\LS P w t.n l.length v row.length row hs:=by
 rcases h with⟨rfl,rfl,m,e⟩|⟨b,T,c,row,j,e,rfl,a,o,f,i⟩;·cases e;exact⟨[],⟨rfl,rfl⟩,⟨Zb,Zb,Zb,Zb⟩⟩
 ·cases e;exact⟨row,a,⟨a.length,a.cell λ_ _ _ h=>RD h,Zb,.inr ⟨b,T,c,j,rfl,rfl,f,i⟩⟩⟩
theorem AD{a:Act}{w w'}{c}{f}{l}{a0}{cap}{i}(m:c.callee=.builtin .append)(j:c.args.toList=[x,y])(o:c.argTypes.toList=[ST,XT])(hx:a.eval x=i)(p:a.eval y=.slice a0 l cap)(h:(Builtin.append_ #[ST,XT] ty #[i,.slice a0 l cap]).run Z.P w=.ok f w'):(execOp a.eval ⟨d,.call c,ty,pos,aft,g⟩).run Z.P w=.ok (.value f) w':=by refine Ze1 m ?_;rw[vS j,vS o];simp only[builtin,Iv,XF,O1,hx,p,Ym,h,YJ];rfl
theorem ZhP{c}(F:c.callee=.builtin .append)(E:c.args.toList=[x,y])(ht:c.argTypes.toList=[ST,XT])(h:mU Z b n k ST XT (ZW e x) (ZW e y)=some r):W4 Z ⟨d,.call c,ty,pos,aft,g⟩ e b n k r:=by
 have mx:x∈(Op.call c).operands.toList:=by simp[Op.operands,Call.operands,E,F]
 have my:y∈(Op.call c).operands.toList:=by simp[Op.operands,Call.operands,E,F]
 unfold mU at h;obtain⟨hX,s⟩:=Yk h;clear h;obtain⟨yl,xs⟩:=Zbg hX;split at s
 ·rename_i yv u0 hx;split at s
  ·rename_i J I xv;obtain⟨X,S⟩:=Yk s;obtain⟨T,x0⟩:=pK X;obtain⟨m,rd,Q,x5,U⟩:=Ft S;obtain⟨x1,O⟩:=tV Q;refine⟨_,O,⟨LG _,λy9 a=>by rw[YZ a];exact xv,x5,Zb⟩,yw λj K l f x7 w a=>?_⟩;obtain⟨h1,h2,y1,hb,_⟩:=a.sr;have t:=a.op x mx;rw[hx]at t;obtain⟨y4,⟨_,v,y0,rfl,_⟩,N⟩:=t;obtain⟨row,g1,A,rfl,y2,x4⟩:=Zl6 (P:=Z.P) (w:=w) (PL hb y0 rfl);obtain⟨a0,y3,i,D,_,p,x3⟩:=zi (P:=Z.P) (U j K (l++f) w _ a.gd a.rd (a.op y my));have hP:(g1++A++f).Perm (g1++(A++f)):=by rw[Z5]
   have V:(l++f).Perm (g1++(A++h2++f)):=by refine(y1.append_right f).trans ?_;simp[Z5]
   obtain⟨v',k',q,u,H,xk,G,B,x2⟩:=pw (P:=Z.P) (rt:=ty) (nx:=m.length) x0 xs (a.gd.perm V) x4 p.length (p.cell λ_ _ _ h=>RD h) x3 x1;have ek:k'=0:=xk.elim id id;subst ek;have y7:Row J.n (rel j J) A (row++i) (Z9 I m):=by have:=Row.append y2 p;rwa[Xp]at this
   have x8:x7.eval x=v:=N;have C:(Z9 I m).length=I.length+m.length:=Yw;refine⟨v',u,j,q++A,[],AD F E ht x8 D H,kK (by rw[C];exact G) y7,KK.le.refl _,rfl,?_,?_,trivial,λ_ _ _ h=>(by cases h),λ_ _=>rfl⟩
   ·have W:(q++(A++h2++f)).Perm (q++A++[]++f++h2):=by classical rw[VS];intro z;simp only[VR,Ok];omega
    exact(B.perm W).left
   ·have x9:=ZG.RB V x2;refine x9.sub λb' o=>?_;simp only[HP.bs,Vg,TL,Xp]at o⊢;rcases o with(h|h)|h;·exact .inl h
    ·exact .inr (.inl (.inl h))
    ·exact .inr (.inr h)
  ·rename_i J I xv;obtain⟨X,S⟩:=Yk s;obtain⟨T,x0⟩:=pK X;obtain⟨m,rd,Q,x5,U⟩:=Ft S;obtain⟨x1,O⟩:=tV Q;refine⟨_,O,⟨LG _,λy9 a=>by rw[YZ a];exact xv,x5,Zb⟩,yw λj K l f x7 w a=>?_⟩;obtain⟨h1,h2,y1,hb,_⟩:=a.sr;have t:=a.op x mx;rw[hx]at t;obtain⟨y4,⟨_,v,y0,rfl,_⟩,N⟩:=t;obtain⟨row,y2,x4⟩:=Zl8 (P:=Z.P) (w:=w) (PL hb y0 rfl);obtain⟨a0,y3,i,D,_,p,x3⟩:=zi (P:=Z.P) (U j K (l++f) w _ a.gd a.rd (a.op y my));have V:(l++f).Perm (h1++(h2++f)):=by refine(y1.append_right f).trans ?_;simp[Z5]
   obtain⟨v',k',q,u,H,xk,G,B,x2⟩:=pw (P:=Z.P) (rt:=ty) (nx:=m.length) x0 xs (a.gd.perm V) x4 p.length (p.cell λ_ _ _ h=>RD h) x3 x1;have x8:x7.eval x=v:=N;have C:(Z9 I m).length=I.length+m.length:=Yw;have x9:=ZG.RB V x2;rcases G.h with⟨h0,rfl,ad,rfl⟩|⟨M,L,y5,x6,rfl,rfl,y6,hz⟩;·refine⟨.slice ad 0 0,u,j,[],[],AD F E ht x8 D H,.inl ⟨dP (by rw[C];exact h0),rfl,ad,rfl⟩,KK.le.refl _,rfl,GD.right (hs:=h2) (by simpa using B),?_,trivial,λ_ _ _ h=>(by cases h),λ_ _=>rfl⟩;·refine x9.sub λb' o=>?_;simp only[HP.bs,Vg,TL,UW]at o⊢;exact .inr o
   ·obtain⟨K2,q1,q2,q3,qG⟩:=ZcQ (k':=(row++i).length) (show GD j.m ((M,k',cellsOf (row++i++x6) L)::(h2++f)) u from B) G.le;obtain⟨g6,g7⟩:=qG.step B;refine⟨_,u,K2,[(M,(row++i).length,cellsOf (row++i++x6) L)],[],AD F E ht x8 D H,.inr ⟨M,L,y5,row++i,x6,by rw[C],rfl,Row.imp (λ_ _ _ h=>Xl q1 h) (Row.append (h1:=[]) (h2:=[]) y2 p),λy8 yf hu=>?_,by rw[C];exact y6,hz⟩,q1,qG.nm,?_,?_,trivial,λ_ _ _ h=>(by cases h),λys _=>by rw[q2]⟩;·rw[TN];have hi:=(Wm hu).1;exact q3 y8 yf hi (by rw[Uy hi];exact hu)
    ·have W:((M,(row++i).length,cellsOf (row++i++x6) L)::(h2++f)).Perm ([(M,(row++i).length,cellsOf (row++i++x6) L)]++[]++f++h2):=by simp only[Xp,Db,MN];exact OY _ XJ
     exact(g6.perm W).left
    ·refine(x9.trans g7).sub λb' o=>?_;simp only[HP.bs,Vg,XF,TL,Da,Xp,O1]at o⊢;rcases o with(h|h)|h;·exact .inl h
     ·cases h
     ·exact .inr (.inr h)
  ·cases s
 ·rename_i u0 hx;split at s
  ·rename_i J yt;obtain⟨X,S⟩:=Yk s;obtain⟨T,x0⟩:=pK X;obtain⟨m,rd,Q,x5,U⟩:=Ft S;obtain⟨x1,O⟩:=tV Q;refine⟨_,O,⟨LG _,Zb,x5,Zb⟩,yw λj K l f x7 w a=>?_⟩;have t:=a.op x mx;rw[hx]at t;obtain⟨y4,⟨_,rfl⟩,N⟩:=t;have x4:LS Z.P w J.n 0 (.slice none 0 0) 0 [] []:=⟨Zb,Zb,VD _,.inl ⟨rfl,rfl,none,rfl⟩⟩;obtain⟨a0,y3,i,D,_,p,x3⟩:=zi (P:=Z.P) (U j K (l++f) w _ a.gd a.rd (a.op y my));obtain⟨v',k',q,u,H,xk,G,B,x2⟩:=pw (P:=Z.P) (rt:=ty) (nx:=m.length) (h1:=[]) (h2:=l++f) x0 xs (by simpa using a.gd) x4 p.length (p.cell λ_ _ _ h=>RD h) x3 (by simpa using x1);have ek:k'=0:=xk.elim id id;subst ek;have C:(Z9 ([]:List J.den) m).length=0+m.length:=by show([]++m).length=_;simp
   refine⟨v',u,j,q++[],[],AD F E ht N D H,kK (row:=[]++i) (by rw[C];exact G) p,KK.le.refl _,rfl,?_,?_,trivial,λ_ _ _ h=>(by cases h),λ_ _=>rfl⟩
   ·have W:(q++(l++f)).Perm (q++[]++[]++f++l):=by classical rw[VS];intro z;simp only[VR,Ok];omega
    exact(B.perm W).left
   ·refine(show ZG w u j.m j.m (HP.bs (l++f)) (HP.bs (q++(l++f)))by simpa using x2).sub λb' o=>?_;simp only[HP.bs,Vg,TL,Xp]at o⊢;rcases o with h|h;·exact .inl h
    ·exact .inr (.inr h)
  ·cases s
 ·cases s
end
section
variable{R:Type}{Z:Xq}{e:En}{b:Bx}{n:Nat}{k:Wc->Option R}{r:R}{x y z:Operand}{d:Option Tmp}{ty T ST XT:TypeId}{pos:String}{aft:Array Edge}{g:Option (Nat×Bool)}
theorem Ze6{P}{K}{w}{t}{l}{s}{j XT rt a off nd cap:Nat}{c}{cs:List Value}(A:Go.Sl.Uh P j t.n=true)(v:LM K w t l s)(B:w.heap[a]?=some (.cells cs.toArray c (0,0)))(L:off+nd*t.n<=cs.length):∃row,Row t.n (rel K t) [] row (l.take nd)/\(Builtin.copy_ #[j,XT] rt #[.slice (some ⟨a,off,none⟩) nd cap,s]).run P w=.ok (goInt (min l.length nd:Nat)) (Go.Sl.Wr w a c (cs.take off++row++cs.drop (off+row.length))):=by
 obtain⟨e,G,F⟩:=HY A;obtain⟨m,u,rfl,I,E⟩:=v.h;have D:Nat.min l.length nd=min l.length nd:=rfl;obtain⟨row,i,C⟩:∃row,Row t.n (rel K t) [] row (l.take nd)/\(Builtin.firstCells t.n (min l.length nd) (.slice m l.length u)).run P w=.ok row.toArray w:=by
  rcases E with rfl|⟨b,o,row,rfl,p,H⟩;·refine⟨[],by simp[Row],?_⟩;cases m<;>simp[Builtin.firstCells,loadCells,loadCellsFrom]
  ·refine⟨row.take (nd*t.n),p.take nd,?_⟩;have:=BO (P:=P) w ⟨b,o,none⟩ (row.take (nd*t.n)) λM N e=>by rw[SE];grind
   have f:(row.take (nd*t.n)).length=min l.length nd*t.n:=by rw[(p.take nd).length,UF,Nat.min_comm]
   rwa[f]at this
 refine⟨row,i,?_⟩;have f:row.length=min l.length nd*t.n:=by rw[i.length,UF,Nat.min_comm]
 have J:row.length<=nd*t.n:=by rw[f];exact RM _ (Nat.min_le_right _ _)
 have q:=EB (P:=P) (b:=a) (o:=off) (T:=c) row 0 cs w (i.cell λ_ _ _ h=>RD h) B Y;simp only[Iw]at q;simp only[Builtin.copy_,NL,LD,wD];simp only[Ym,WB G,YJ,Builtin.lenOf,Y5,Po F w,D,C,q]
theorem Zrp{P}{K}{w}{t}{l}{h}{a XT rt:Nat}{f}{N}(m:Go.Sl.Uh P a N=true)(j:LM K w t l h):(Builtin.copy_ #[a,XT] rt #[.slice f 0 0,h]).run P w=.ok (goInt 0) w:=by
 have⟨e,q,p⟩:=HY m;obtain⟨c,i,rfl,s,u⟩:=j.h;have o:(Builtin.firstCells N 0 (.slice c l.length i)).run P w=.ok #[] w:=by cases c<;>simp[Builtin.firstCells,loadCells,loadCellsFrom]
 simp[Builtin.copy_,NL,LD,wD];simp[Ym,WB q,YJ,Builtin.lenOf,Y5,Po p w,Nat.min_zero _,o];cases f<;>simp[storeCells]
theorem lT{a:Act}{w w'}{c}{f}{i j}(m:c.callee=.builtin .copy)(l:c.args.toList=[x,y])(o:c.argTypes.toList=[ST,XT])(hx:a.eval x=i)(p:a.eval y=j)(h:(Builtin.copy_ #[ST,XT] ty #[i,j]).run Z.P w=.ok f w'):(execOp a.eval ⟨d,.call c,ty,pos,aft,g⟩).run Z.P w=.ok (.value f) w':=by refine Ze1 m ?_;rw[vS l,vS o];simp only[builtin,Iv,XF,O1,hx,p,Ym,h,YJ];rfl
theorem ZiP{c}{j}{u0:Unit}{t}{xs:List t.den}(w:c.callee=.builtin .copy)(s:c.args.toList=[x,y])(V:c.argTypes.toList=[ST,XT])(hx:ZW e x=.v ⟨.hole j,u0⟩)(x2:ZF b j=some ⟨.full t,xs⟩)(x6:t.plain=true)(K:Go.Sl.Uh Z.P ST t.n=true)(h:Mg b t (ZW e y) (λl r=>k ⟨.v ⟨.int,Ze (rq (Zf l) (Zf xs))⟩,r,[(j,⟨.full t,xs⟩)],[(j,⟨.full t,Z9 (YC (Zf xs) l) (Xc (Zf l) xs)⟩)],n⟩)=some r):W4 Z ⟨d,.call c,ty,pos,aft,g⟩ e b n k r:=by
 obtain⟨l,rd,h7,x7,hE⟩:=Ft h;refine⟨_,h7,⟨YG _,λy1 i=>by rw[YZ i];exact x2,x7,Zb⟩,λo X A q x0 W i=>?_⟩;obtain⟨h1,h2,x5,hb,_⟩:=i.sr;have O:=i.op x (by simp[Op.operands,Call.operands,s,w]);rw[hx]at O;obtain⟨xv,⟨_,v,D,rfl,_⟩,ev⟩:=O;have H:x0.eval x=v:=ev;have I:=hE o X (A++q) W _ i.gd i.rd (i.op y (by simp[Op.operands,Call.operands,s,w]));have M:∀G:KK,Yt G [(j,(⟨.full t,Z9 (YC (Zf xs) l) (Xc (Zf l) xs)⟩:TV))]:=λG y0 t' l' hm=>by have:=YZ hm;cases this
 rcases(PL hb D rfl)with⟨rfl,rfl,a1,B⟩|⟨p,T,cap,f,m,h',B,rfl,E,hl,hz⟩
 ·cases B;have e1:Z9 (YC (Zf ([]:List t.den)) l) (Xc (Zf l) ([]:List t.den))=[]:=by show List.take 0 l++List.drop l.length []=[];simp
  rw[lT w s V H rfl (Zrp (XT:=XT) (rt:=ty) K I)];have e2:Ze (rq (Zf l) (Zf ([]:List t.den)))=(0:Int):=by show((min l.length 0:Nat):Int)=0;simp
  refine⟨o,[],GD.right (hs:=A) (by simpa using i.gd),(ZG.refl W o.m _).sub λb' u=>by rw[HP.XL];exact Yd (.inr (by simpa using u)),Mv.refl _ _ _,⟨[_],⟨rfl,rfl⟩,by rw[e2];rfl⟩,⟨[],[],Zb,⟨[_],by rw[e1];exact .inl ⟨rfl,rfl,a1,rfl⟩,λxk F=>by rw[YZ F];exact D⟩,trivial⟩,M o,W3.refl _ _⟩
 ·cases B;have e0:h'=[]:=Row.Lo (λ_ _ _ h=>SD x6 h) E;subst e0;have J:(A++q).Perm ((p,0,cellsOf (f++m) T)::(h2++q)):=by refine(x5.append_right q).trans ?_;simp
  have C:=i.gd.perm J;have Q:f.length=xs.length*t.n:=E.length;obtain⟨a,S,x9⟩:=Ze6 (P:=Z.P) (XT:=XT) (rt:=ty) (off:=0) (nd:=xs.length) (cap:=cap) K I (C.YY (p,0,cellsOf (f++m) T) Zb) (by rw[Yw,Q];omega);rw[lT w s V H rfl x9];have U:a.length=min l.length xs.length*t.n:=by rw[S.length,UF,Nat.min_comm]
  have x4:a.length<=f.length:=by rw[U,Q];exact RM _ (Nat.min_le_right _ _)
  have x1:(f++m).take 0++a++(f++m).drop (0+a.length)=a++f.drop a.length++m:=by rw[TN,OZ x4];simp
  rw[x1];have x3:xs.drop l.length=xs.drop (min l.length xs.length):=by
   rcases nA l.length xs.length with h|h;·rw[Pu h]
   ·rw[nC h,Re h,Re (YG _)]
  have x8:Row t.n (rel o t) [] (a++f.drop a.length) (Z9 (YC (Zf xs) l) (Xc (Zf l) xs)):=by refine Row.append (h1:=[]) (h2:=[]) S ?_;have:=Row.drop (min l.length xs.length) E;rwa[<-U,<-x3]at this
  have N:(Z9 (YC (Zf xs) l) (Xc (Zf l) xs)).length=xs.length:=by show(List.take xs.length l++List.drop l.length xs).length=_;rw[Yw,UF,Wn];omega
  refine⟨o,[(p,0,cellsOf (a++f.drop a.length++m) T)],?_,?_,Mv.refl _ _ _,⟨[_],⟨rfl,rfl⟩,rfl⟩,⟨_,[],Zb,⟨[_],.inr ⟨p,T,cap,a++f.drop a.length,m,[],by rw[N],rfl,x8,by rw[N];exact hl,?_⟩,λxk F=>by rw[YZ F];exact D⟩,trivial⟩,M o,W3.refl _ _⟩;·refine((GD.Wr (a++f.drop a.length++m) C C.tC).perm (?_:List.Perm _ ([(p,0,cellsOf (a++f.drop a.length++m) T)]++q++h2))).left;simp only[Db,MN];exact OY _ XJ
  ·have L:p∈HP.bs (A++q):=((J.map (·.1)).mem_iff).2 Zb;refine(ZG.Lv L).sub λb' u=>?_;simp only[HP.bs,Vg,XF,TL,Da,O1]at u⊢;rcases u with(h|h)|h;·subst h;simpa[HP.bs]using L
   ·cases h
   ·exact .inr h
  ·rw[<-hz];simp only[Yw,Wn];omega
end
theorem Zr9{α:Type}(cs row:List α){off a M}(h1:a+row.length<=M)(h2:off+M<=cs.length):cs.take off++(((cs.drop off).take M).take a++row++((cs.drop off).take M).drop (a+row.length))++cs.drop (off+M)=cs.take (off+a)++row++cs.drop (off+a+row.length):=by
 rw[Jk,Pu Y,MQ,UV];have c:cs.take _=cs.take off++(cs.drop off).take a:=Dc ..;have d:cs.drop (off+a+row.length)=(cs.drop (off+(a+row.length))).take (M-(a+row.length))++cs.drop (off+M):=by
  have b:cs.drop (off+M)=(cs.drop (off+(a+row.length))).drop (M-(a+row.length)):=by rw[UV];grind
  rw[b,Sb,BF]
 grind
section
variable{R:Type}{Z:Xq}{e:En}{b:Bx}{n:Nat}{k:Wc->Option R}{r:R}{x y z:Operand}{d:Option Tmp}{ty T ST XT:TypeId}{pos:String}{aft:Array Edge}{g:Option (Nat×Bool)}
theorem ZiO{c}(E:c.callee=.builtin .copy)(D:c.args.toList=[x,y])(ht:c.argTypes.toList=[ST,XT])(h:lS Z b n k ST (ZW e x) (ZW e y)=some r):W4 Z ⟨d,.call c,ty,pos,aft,g⟩ e b n k r:=by
 unfold lS at h;split at h
 ·rename_i yl j sz m f l Q;split at h
  ·rename_i v x9;obtain⟨J,y2⟩:=DJ x9;obtain⟨z1,xk,C⟩:=tJ h;clear h;split at C
   ·rename_i m' t A;obtain⟨w,H⟩:=Yk C;clear C;simp only[Yv]at w;obtain⟨⟨e1,e2⟩,y5,hT⟩:=w;cases Xu e1;cases Xu e2;obtain⟨s,rd,h7,y6,hE⟩:=Ft H;obtain⟨cc,O,h6⟩:=pH h7;refine⟨_,h6,⟨YG _,λj p=>by rw[YZ p];exact J,y6,Zb⟩,λu x4 N q a ys p=>?_⟩;obtain⟨h1,h2,y4,hb,_⟩:=p.sr;have W:=p.op x (by simp[Op.operands,Call.operands,D,E]);rw[Q]at W;obtain⟨bl,cap,y7,hv,yt,h0,yx,yv⟩:=W;obtain⟨r0,B,F,i,hu,X,f1,f2,f3,f4,x0,y3⟩:=ls y2 hb xk ⟨_,_,O⟩;obtain⟨r2,U,g2⟩:=y7.C9;rw[f1]at U;cases U;have x5:=f2.uniq g2;subst x5;have e0:hu=[]:=SD (t:=.vec m t) y5 x0;subst e0;have I:(N++q).Perm ((B,0,cellsOf i F)::(X++(h2++q))):=by refine(y4.append_right q).trans ?_;have:=(f3.append_right h2).append_right q;simpa[Z5]using this
    have K:=p.gd.perm I;have x7:Z8 j+m*t.n<=i.length:=f4;have yy:f.toNat*t.n+(l-f).toNat*t.n<=m*t.n:=by rw[<-Ta];exact RM _ Y
    obtain⟨o,x2,y8⟩:=Ze6 (P:=Z.P) (XT:=XT) (rt:=ty) (off:=Z8 j+f.toNat*t.n) (nd:=(l-f).toNat) (cap:=cap) hT (hE u x4 (N++q) ys _ p.gd p.rd (p.op y (by simp[Op.operands,Call.operands,D,E]))) (K.YY (B,0,cellsOf i F) Zb) Y;rw[lT E D ht hv rfl y8];have x1:o.length=(s.take (l-f).toNat).length*t.n:=x2.length;have y9:(s.take (l-f).toNat).length<=(l-f).toNat:=by rw[UF];exact Nat.min_le_left _ _
    have z0:o.length<=(l-f).toNat*t.n:=by rw[x1];exact RM _ y9
    have S:NB l f=(l-f).toNat:=rfl;have yf:(K8 A (Yf f) (YC (NB l f) s)).toList=A.toList.take f.toNat++s.take (l-f).toNat++A.toList.drop (f.toNat+(s.take (l-f).toNat).length):=by rw[S];exact ZfZ A f.toNat (s.take (l-f).toNat) Y
    have y1:rel u (.vec m t) [] (((i.drop (Z8 j)).take (m*t.n)).take (f.toNat*t.n)++o++((i.drop (Z8 j)).take (m*t.n)).drop (f.toNat*t.n+o.length)) (K8 A (Yf f) (YC (NB l f) s)):=by have x3:Row t.n (rel u t) [] ((i.drop (Z8 j)).take (m*t.n)) A.toList:=x0;show Row t.n (rel u t) [] _ (Vector.toList _);rw[yf,x1,<-Ta];exact Row.append (h1:=[]) (h2:=[]) (Row.append (h1:=[]) (h2:=[]) (x3.take _) x2) (x3.drop _)
    obtain⟨_,G,L,x8⟩:=y3 (KK.le.refl u) O y1;have x6:i.take (Z8 j)++(((i.drop (Z8 j)).take (m*t.n)).take (f.toNat*t.n)++o++((i.drop (Z8 j)).take (m*t.n)).drop (f.toNat*t.n+o.length))++i.drop (Z8 j+(Ty.vec m t).n)=i.take (Z8 j+f.toNat*t.n)++o++i.drop (Z8 j+f.toNat*t.n+o.length):=Zr9 i o (off:=Z8 j) (a:=f.toNat*t.n) (M:=m*t.n) Y x7;rw[x6]at L;refine⟨u,G,?_,?_,Mv.refl _ _ _,⟨[_],⟨rfl,rfl⟩,by rw[S];rfl⟩,⟨G,[],Zb,x8,trivial⟩,tx O p.YM λ_ _=>rfl,W3.refl _ _⟩;·refine((GD.Wr (i.take (Z8 j+f.toNat*t.n)++o++i.drop (Z8 j+f.toNat*t.n+o.length)) K K.tC).perm (?_:List.Perm _ (G++q++h2))).left;have:=(L.append_right q).append_right h2;refine nf ?_ this.symm;simp only[UW,MN,Z5];exact OY _ (VA _ XJ)
    ·have y0:B∈HP.bs (N++q):=((I.map (·.1)).mem_iff).2 Zb;refine(ZG.Lv y0).sub λb' V=>?_;have m1:b'∈HP.bs ((B,0,cellsOf i F)::(X++(h2++q))):=by
      rw[HP.XL]at V;rcases Z1 V with h|h
      ·have:=((L.map (·.1)).mem_iff).1 h;simp only[HP.bs,XF,Vg,Da,TL,UW]at this⊢;rcases this with h|h;·exact .inl h
       ·exact .inr (.inl h)
      ·simp only[HP.bs,XF,Vg,Da,TL];exact .inr (.inr (.inr h))
     exact((I.map (·.1)).mem_iff).2 m1
   ·cases C
  ·cases h
 ·rename_i yl u0 Q;split at h;·rename_i t xs J;obtain⟨w,H⟩:=Yk h;rw[Yv]at w;exact ZiP E D ht Q J w.1 w.2 H
  ·cases h
 ·cases h
end
def OL{α β:Type}(eq:α->α->Bool)(x:α):List (α×β)->Option Nat|[]=>none|(a,_)::l=>if eq x a=true then some 0 else(OL eq x l).map (·+1)
theorem jJ{α β}{eq}{x}:∀{l:List (α×β)},OL eq x l=none/\FY eq x l=none\/∃i a y,OL eq x l=some i/\l[i]?=some (a,y)/\eq x a=true/\FY eq x l=some y
 |[]=>.inl ⟨rfl,rfl⟩|(a,y)::l=>by
  unfold OL FY;by_cases b:eq x a=true;·rw[YW b,YW b];exact .inr ⟨0,a,y,rfl,rfl,b,rfl⟩
  ·rw[Yg b,Yg b];rcases jJ with⟨d,c⟩|⟨i,e,h,d,c,f,g⟩;·exact .inl ⟨Zm,c⟩
   ·grind
theorem Zb0{α β}{eq}{x:α}{y:β}:∀{l},HA eq x y l=match OL eq x l with|none=>l++[(x,y)]|some c=>l.set c (x,y)
 |[]=>rfl|(a,z)::l=>by
  unfold HA OL;by_cases b:eq x a=true;·grind
  ·rw[Yg b,Yg b,Zb0];cases OL _ x l<;>rfl
theorem k9{P}{e}{t}(h:kZ P e t=true):∃k w,t=.un k w/\P.underlying e=some (.int k):=by
 unfold kZ at h;split at h;·grind
 ·grind
def Ki(K:KK)(a t:Ty)(e:MapEntry)(y:a.den×t.den):Prop:=(∃b,e.key=XE a.ag b/\rel K a [] b y.1)/\∃c,e.val=XE t.ag c/\rel K t [] c y.2
theorem F2.get{α β}{R}:∀{xs:List α}{ys},F2 R xs ys->xs.length=ys.length/\∀(i:Nat)(y:β),ys[i]?=some y->∃x,xs[i]?=some x/\R x y|[],ys,h=>by subst h;exact⟨rfl,λi y a=>by simp at a⟩|x::xs,ys,h=>by obtain⟨y,f,rfl,c,b⟩:=h;obtain⟨a,e⟩:=F2.get b;refine⟨by simp[a],λi g d=>?_⟩;cases i<;>simp_all
theorem ZaL{P}{K}{d}{a t}{w}{v}{x}{eq}(f:∀(c)(y),rel K a [] c y->(Op.equal d v (XE a.ag c)).run P w=.ok (eq x y) w):∀{b}{l}{i},F2 (Ki K a t) b l->(Instr.findAsking d v b i).run P w=.ok ((OL eq x l).map λj=>(i+j,(b[j]?.map (·.val)).getD undef)) w
 |[],l,i,h=>by subst h;rfl|e::b,l,i,h=>by
  obtain⟨y,n,rfl,⟨⟨p,g,o⟩,_⟩,k⟩:=h;unfold Instr.findAsking OL;rw[g];simp[Ym,f _ _ o,YJ];by_cases m:eq x y.1=true;·grind
  ·simp[m,SW,VZ,ZaL f (i:=i+1) k];cases OL eq x n<;>grind
theorem kH{K}{a t}{d}{v}{x}{eq}(f:∀(c)(y),rel K a [] c y->Instr.sameNow d v (XE a.ag c)=some (eq x y)):∀{b}{l}{i},F2 (Ki K a t) b l->Instr.findNow d v b i=some ((OL eq x l).map λj=>(i+j,(b[j]?.map (·.val)).getD undef))
 |[],l,i,h=>by subst h;rfl|e::b,l,i,h=>by
  obtain⟨y,n,rfl,⟨⟨p,g,o⟩,_⟩,k⟩:=h;have q:=f _ _ o;unfold Instr.findNow OL;rw[g];by_cases m:eq x y.1=true;·grind
  ·simp[m,SW,VZ];simp[kH f (i:=i+1) k];cases OL eq x n<;>grind
theorem ZaM{P}{K}{c}{a t}{w}{v}{x}{d}{i:DecidableEq a.den}(z:zL P c a=true)(A:rel K a [] d x)(hv:v=XE a.ag d){r}{l}(h:F2 (Ki K a t) r l):(∀e n,(Instr.checkKey e (n+2) c v).run P w=.ok () w)/\(Instr.findKey c v r).run P w=.ok ((OL (λa b=>@decide (a=b) (i a b)) x l).map λj=>(j,(r[j]?.map (·.val)).getD undef)) w:=by
 subst hv;have E:∀{B:Option Nat},(B.map λj=>(0+j,(r[j]?.map (·.val)).getD undef))=B.map λj=>(j,(r[j]?.map (·.val)).getD undef):=λ{B}=>by cases B<;>simp
 cases a with
 |int=>
  have f:P.underlying c=some (.int .i64):=by
   have g:(match P.underlying c with|some (.int .i64)=>true|_=>false)=true:=z;split at g;·assumption
   ·cases g
  obtain⟨_,rfl⟩:=A;refine⟨λe n=>dX f (show MapKept.IsKey (.int .i64) (.int .i64 x)from rfl) e (n+1),?_⟩;rw[<-E];refine MapKept.run_findKey f (kH (λC k o=>?_) h);obtain⟨_,rfl⟩:=o;have D:∀G y:Int,Instr.sameNow (.int .i64) (.int .i64 G) (.int .i64 y)=some (decide (G=y)):=λG y=>by simp only[Instr.sameNow,Sc];congr 1;rw[E4];simp
  refine(D x k).trans ?_;congr 1|str=>
  have f:P.underlying c=some .string:=by
   have g:(match P.underlying c with|some .string=>true|_=>false)=true:=z;split at g;·assumption
   ·cases g
  obtain⟨_,O,rfl,hs⟩:=A;refine⟨λe n=>dX f (show MapKept.IsKey .string (.string O)from trivial) e (n+1),?_⟩;rw[<-E];refine MapKept.run_findKey f (kH (λC k o=>?_) h);obtain⟨_,s',rfl,x2⟩:=o;show some (O==s')=_;congr 1;rw[E4,dW,BN,<-hs,<-x2];exact⟨λq=>by rw[q],λq=>bytes_inj q⟩|vec m Q=>
  have g:(G0 P c m Q&&JN P 8 c (.vec m Q))=true:=z;rw[Yv]at g;obtain⟨u,Z⟩:=g;obtain⟨x4,U,T⟩:=tp Z;obtain⟨_,S,L⟩:=Ba U;unfold G0 at u;split at u
  ·rename_i m' q f;simp only[Yv]at u;obtain⟨D,x1,x3,X⟩:=u;cases Xu D;obtain⟨p,w0,rfl,V⟩:=k9 X
   ·skip;have M:Row 1 (rel K (.un p w0)) [] d (Vector.toList x):=A;have x5:d.length=m:=by have:=M.length;simpa using this
    constructor
    ·intro e n;have x0:∀j,j<m->∃H:Int,(part q d.toArray (j*1)).run P w=.ok (.int p H) w:=by
      intro j s;obtain⟨h1,hm,h2,_,_,y,_,_⟩:=Row.at M (i:=j) (by simpa using s);have:d.toArray[j*1]?=some (.int p (((Vector.toList x)[j]'(by simpa using s)).toNat:Int)):=by
       have I:((d.drop (j*1)).take 1)[0]?=some (.int p (((Vector.toList x)[j]'(by simpa using s)).toNat:Int)):=by rw[y.2];rfl
       rw[Ps,YW YP,Rt]at I;simpa using I
      exact⟨_,run_part_plain w x1 this⟩
     show(Instr.checkKey e (n+1+1) c (.agg d.toArray)).run P w=_;rw[Instr.checkKey];simp only[Ym,WB f,YJ];simp only[Zge,Std.Legacy.Range.size,nE,Nat.add_one_sub_one,Nat.div_one];have F:∀j∈List.range' 0 m,j<m:=λj s=>by simpa[List.mem_range']using s
     generalize List.range' 0 m=N at F;induction N with|nil=>simp|cons j N ih=>obtain⟨H,hz⟩:=x0 j (F j Zb);simp only[E8,Ym,Po x3 w,YJ,hz,dX V (show MapKept.IsKey (.int p) (.int p H)from rfl) e n,Y5];exact ih λk o=>F k (by simp[o])
    ·rw[run_findKey_eq w (by rw[f]),<-E];refine ZaL (λC k o=>?_) h;obtain⟨b,J,W⟩:=T 10000 YP K.m d C x k w (L K _ _ _ _ A) (L K _ _ _ _ o);rw[S]at J;have R:b=@decide (x=k) (i x k):=by rw[E4,W,BN]
     rw[<-R];exact J
  ·cases u|_=>cases z
theorem F2.set{α β}{R}:∀{xs}{ys}{i}{x:α}{y:β},F2 R xs ys->i<xs.length->R x y->F2 R (xs.set i x) (ys.set i y)|[],_,_,_,_,_,h,_=>Zm|a::xs,ys,i,x,y,h,hi,c=>by obtain⟨d,f,rfl,e,b⟩:=h;cases i with|zero=>exact⟨y,f,rfl,c,b⟩|succ i=>exact⟨d,_,rfl,e,F2.set b Zm c⟩
theorem F2.snoc{α β}{R}:∀{xs}{ys}{x:α}{y:β},F2 R xs ys->R x y->F2 R (xs++[x]) (ys++[y])|[],ys,x,y,h,b=>by subst h;exact⟨y,[],rfl,b,rfl⟩|a::xs,ys,x,y,h,b=>by obtain⟨c,f,rfl,d,e⟩:=h;exact⟨c,_,rfl,d,F2.snoc e b⟩
theorem ZeW{K K'}{k}{w}:∀{xs:List (BitVec w)}{a b},Row 1 (rel K (.un k w)) [] a xs->Row 1 (rel K' (.un k w)) [] b xs->a=b|[],_,_,h1,h2=>h1.1.trans h2.1.symm|x::xs,_,_,⟨d1,i,l,f1,c,p1,_,e,g⟩,⟨d2,j,m,f2,d,p2,_,f,h⟩=>by obtain⟨rfl,rfl⟩:=Oj p1.symm;obtain⟨rfl,rfl⟩:=Oj p2.symm;rw[c,d,e.2,f.2,ZeW g h]
theorem ZkV{P}{f}{K K'}{a}{c d}{x}(h:zL P f a=true)(h1:rel K a [] c x)(h2:rel K' a [] d x):c=d:=by cases a with
 |int=>rw[h1.2,h2.2]|str=>obtain⟨_,m,rfl,g⟩:=h1;obtain⟨_,n,rfl,i⟩:=h2;rw[bytes_inj (g.trans i.symm)]|vec j k=>
  have e:(G0 P _ j k&&JN P 8 _ _)=true:=h;rw[Yv]at e;have b:=e.1;unfold G0 at b;split at b;·simp at b;obtain⟨l,o,rfl,_⟩:=k9 b.2.2.2;exact ZeW h1 h2
  ·grind|_=>cases h
theorem ZeV{K}{k}{w}:∀{xs:List (BitVec w)}{c},Row 1 (rel K (.un k w)) [] c xs->∀v∈c,∃i,v=.int k i
 |[],_,h,v,a=>by rw[h.1]at a;cases a|x::xs,_,⟨d1,f,g,f1,b,p1,_,d,e⟩,v,a=>by
  obtain⟨rfl,rfl⟩:=Oj p1.symm;rw[b,TL]at a;rcases a with a|a;·rw[d.2]at a;exact⟨_,YZ a⟩
  ·exact ZeV e v a
theorem ZkU{P}{j}{K}{a}{c}{x}{w}(h:zL P j a=true)(h1:rel K a [] c x):(Instr.keyThatStays (XE a.ag c) (XE a.ag c)).run P w=.ok (XE a.ag c) w:=by cases a with
 |int=>rw[h1.2];exact MapKept.run_keyThatStays (d:=.int .i64) rfl|str=>obtain⟨_,y,rfl,u⟩:=h1;exact MapKept.run_keyThatStays (d:=.string) trivial|vec i o=>
  have l:(G0 P j i o&&JN P 8 j (.vec i o))=true:=h;rw[Yv]at l;have g:=l.1;unfold G0 at g;split at g
  ·simp only[Yv]at g;obtain⟨k,p,rfl,_⟩:=k9 g.2.2.2;have q:Instr.sameBits 10000 (XE (Ty.vec i (.un k p)).ag c) (XE (Ty.vec i (.un k p)).ag c)=true:=by
    show Instr.sameBits (9999+1) (.agg c.toArray) (.agg c.toArray)=true;simp only[Instr.sameBits,Yv,nJ,true_and,RK];intro e b;have s:∀(f:List Value),(∀v∈f,∃n:Int,v=Value.int k n)->∀e∈f.zip f,Instr.sameBits 9999 e.1 e.2=true:=by intro f;induction f with|nil=>intro _ e b;cases b|cons v f t=>
      intro m e b;rcases XB b with rfl|b;·obtain⟨n,rfl⟩:=m _ XP;simp[Instr.sameBits]
      ·exact t (λv r=>m v (XG _ r)) e b
    exact s c (ZeV h1) e (by simpa using b)
   unfold Instr.keyThatStays;rw[q];simp
  ·cases g|_=>cases h
theorem ZsX{P}{c}{t}{z}(h:dB P c t=true)(i:Pr t=some z)(K)(w):∃cs,rel K t [] cs z/\(zeroValue c).run P w=.ok (XE t.ag cs) w:=by
 unfold dB at h;split at h
 ·rename_i v hv;have⟨l,j,k⟩:=Dg hv;have g:(zeroValue c).run P w=.ok v w:=by simp[zeroValue,typeInfo,j,k]
  split at h
  ·rename_i ag cs d;split at h;·rename_i e;have⟨b,a,f⟩:=Jf i e;rw[Xp]at a;refine⟨b,f K,?_⟩;rw[g,d,<-a];simp[XE]
   ·grind
  ·grind
  ·rename_i d;split at h;·rename_i e;have⟨b,a,f⟩:=Jf i e;rw[Xp]at a;refine⟨b,f K,?_⟩;rw[g,d,<-a];rfl
   ·grind
 ·grind
theorem ZbK{P}{T}{a}(h:CC P T a=true):∃b c,P.underlying T=some (.map b c)/\zL P b a=true:=by
 unfold CC at h;split at h;·grind
 ·grind
theorem Zrv{P}{K}{T}{a t}{w}{b s}{e}{l}{q}{z}{k}{i}(A:CC P T a=true)(o:jv P T t=true)(H:Pr t=some z)(p:w.heap[b]?=some (.map e s))(h:F2 (Ki K a t) e.toList l)(F:rel K a [] k q):∃c,rel K t [] c (U5 (Kw i q l) z)/\∀ok,(Instr.lookup T (.map (some b)) (XE a.ag k) ok).run P w=.ok (if ok then .tuple #[XE t.ag c,.bool (UE (Kw i q l))]else XE t.ag c) w:=by
 obtain⟨Q,N,j,E⟩:=ZbK A;obtain⟨y,d⟩:=ZaM (i:=i) E F rfl (w:=w) h;have n:=y e.isEmpty 9998;rcases jJ (eq:=λa b=>@decide (a=b) (i a b)) (x:=q) (l:=l)with⟨f,m⟩|⟨r,I,R,f,m,J,L⟩;·obtain⟨c,B,G⟩:=ZsX (by unfold jv at o;rwa[j]at o) H K w;refine⟨c,Zm,λok=>?_⟩;·rw[f]at d;have g:UE (Kw i q l)=false:=Zm;rw[g];simp only[Instr.lookup,Ym,WB j,YJ,ny p,Y5,n,d,G,Option.map]
 ·obtain⟨O,C⟩:=F2.get h;obtain⟨M,D,_,c,v,B⟩:=C r _ m;refine⟨c,Zm,λok=>?_⟩
  ·rw[f]at d;have g:UE (Kw i q l)=true:=Zm;rw[g];have u:(e.toList[r]?.map (·.val)).getD undef=XE t.ag c:=by rw[D];exact v
   rw[Jm,u]at d;simp only[Instr.lookup,Ym,WB j,YJ,ny p,Y5,n,d]
theorem Zlr{α:Type}{a:Array α}{j}{e}{f}(h:a[j]?=some e):(a.modify j f).toList=a.toList.set j (f e):=by
 apply BC;intro c;have d:=(MK h).1;rw[wo,oV,wE];by_cases b:j=c;·grind
 ·rw[Yg b,Yg b,wo]
theorem ZrB{P}{K}{T}{a t}{w}{b j}{e}{l}{q}{y}{c d}{i}(N:CC P T a=true)(k:w.heap[b]?=some (.map e j))(h:F2 (Ki K a t) e.toList l)(g:rel K a [] c q)(hv:rel K t [] d y):∃u E,(Instr.mapUpdate T (.map (some b)) (XE a.ag c) (XE t.ag d)).run P w=.ok () {w with heap:=w.heap.setIfInBounds b (.map u E)}/\F2 (Ki K a t) u.toList (jQ i q y l):=by
 obtain⟨Z,V,z,p⟩:=ZbK N;obtain⟨M,f⟩:=ZaM (i:=i) p g rfl (w:=w) h;have v:=M false 9998;have m:=Zb0 (eq:=λa b=>@decide (a=b) (i a b)) (x:=q) (y:=y) (l:=l);rcases jJ (eq:=λa b=>@decide (a=b) (i a b)) (x:=q) (l:=l)with⟨o,r⟩|⟨n,C,y0,o,r,G,S⟩;·rw[o]at f m;refine⟨e.push {key:=XE a.ag c,val:=XE t.ag d,born:=j},j+1,by simp only[Instr.mapUpdate,Ym,WB z,YJ,ny k,v,f,Option.map,MapKept.run_setObj_map _ k],?_⟩;·show F2 (Ki K a t) _ (HA (λa b=>@decide (a=b) (i a b)) q y l);rw[m,Array.toList_push];exact F2.snoc h ⟨⟨c,rfl,g⟩,d,rfl,hv⟩
 ·obtain⟨X,O⟩:=F2.get h;obtain⟨s,A,⟨D,I,Q⟩,R,U,W⟩:=O n _ r;have L:q=C:=by simpa using G
  have J:s.key=XE a.ag c:=by
   rw[I];have:rel K a [] D q:=by rw[L];exact Q
   rw[ZkV p this g]
  rw[o]at f m;have B:e[n]?=some s:=by rw[<-wo];exact A
  rw[Jm]at f;have H:(e[n]?.map (·.key)).getD (XE a.ag c)=XE a.ag c:=by rw[B];exact J
  refine⟨e.modify n λF=>{F with key:=XE a.ag c,val:=XE t.ag d},j,by simp only[Instr.mapUpdate,Ym,WB z,YJ,ny k,v,f,H,ZkU p g,MapKept.run_setObj_map _ k],?_⟩;·show F2 (Ki K a t) _ (HA (λa b=>@decide (a=b) (i a b)) q y l);rw[m,Zlr B];exact F2.set h (Wm A).1 ⟨⟨c,rfl,g⟩,d,rfl,hv⟩
section
variable{R:Type}{Z:Xq}{e:En}{b:Bx}{n:Nat}{k:Wc->Option R}{r:R}{x y z:Operand}{d:Option Tmp}{ty T ST XT:TypeId}{pos:String}{aft:Array Edge}{g:Option (Nat×Bool)}
theorem ZbM{K}{H}{hs}{w}{j}{C:Unit}{a t}{l:List (a.den×t.den)}{h}{v}(s:GD K.m hs w)(hv:YU K H (.v ⟨.hole j,C⟩) v)(q:Wg K j ⟨.map a t,l⟩ h)(A:∀x∈h,x∈hs):∃c f i,v=.map (some c)/\h=[(c,0,.map f i)]/\w.heap[c]?=some (.map f i)/\F2 (Ki K a t) f.toList l/\K.nm j=some v:=by obtain⟨D,m,rfl⟩:=hv;have⟨_,u⟩:=tT m q rfl;obtain⟨_,E,B,rfl,_⟩:=m;obtain⟨c,f,i,o,rfl,p⟩:=u;cases o;exact⟨c,f,i,rfl,rfl,s.YY _ (A _ XP),p,B⟩
theorem Zk5{ok}(h:jl Z b n k T (ZW e x) (ZW e y) ok=some r):W4 Z ⟨d,.lookup T x y ok,ty,pos,aft,g⟩ e b n k r:=by
 unfold jl at h;split at h
 ·rename_i U u0 yv P Q;split at h
  ·rename_i E s v x1;obtain⟨A,u⟩:=Yk h;simp at A;obtain⟨I,J,hp⟩:=A;split at u
   ·rename_i i V hi S;obtain⟨D,rfl,w⟩:=S5 u;have C:∀{t:Wc}{j:KK}{o:HM}{p q:HP}{ac:Act}{f:World},TD Z e n t (Op.lookup T x y ok).operands.toList j o p q ac f->t.rd=[(U,⟨.map E s,v⟩)]->∃a,rel j s [] a (U5 (Kw i D v) V)/\(execOp ac.eval ⟨d,.lookup T x y ok,ty,pos,aft,g⟩).run Z.P f=.ok (.value (if ok then .tuple #[XE s.ag a,.bool (UE (Kw i D v))]else XE s.ag a)) f:=by intro t j o p q ac f c M;obtain⟨h0,eH,K,O⟩:=c.rd _ (by rw[M];exact XP);have B:=c.op x Ye;rw[P]at B;obtain⟨W,es,x0,F,rfl,L,H,_⟩:=ZbM c.gd B K O;obtain⟨X,N,G⟩:=c.v Q Ye;obtain⟨a,l,m⟩:=Zrv (i:=i) I J S L H N;refine⟨a,l,?_⟩;simp only[execOp,F,G,Ym,m ok];rfl
    cases ok with|true=>refine⟨_,w,⟨YG _,Zb,Zm,Zb⟩,X3 λj o p q ac f c=>?_⟩;obtain⟨a,l,m⟩:=C c rfl;exact⟨_,m,[_,_],rfl,_,_,rfl,⟨rfl,a,l,rfl⟩,_,_,rfl,⟨rfl,[_],⟨rfl,rfl⟩,rfl⟩,rfl⟩|false=>refine⟨_,w,⟨YG _,Zb,Zm,Zb⟩,X3 λj o p q ac f c=>?_⟩;obtain⟨a,l,m⟩:=C c rfl;exact⟨_,m,a,l,rfl⟩
   ·cases u
  ·cases h
 ·cases h
theorem GD.setObj{m}{hs:HP}{w}{b}{o}(o')(c:GD m ((b,0,o)::hs) w):GD m ((b,0,o')::hs) {w with heap:=w.heap.setIfInBounds b o'}where
 mem:=λh f v i=>by
  have p:h≠b:=λe=>by have:=c.free (b,0,o) XP f (VD _);rw[<-e,i]at this;cases this
  have l:({w with heap:=w.heap.setIfInBounds b o'}:World).heap[h]?=w.heap[h]?:=by grind
  exact(BL (w:=w) (a:=⟨h,f,none⟩) l).trans (c.mem h f v i)
 nodup:=c.nodup;YY:=λx hx=>by
  rcases XB hx with rfl|hx;·exact(MapKept.heap_set (c.YY (b,0,o) Zb)).1
  ·have j:=c.nodup;simp only[HP.bs,XF,T9]at j;rw[(MapKept.heap_set (c.YY (b,0,o) Zb)).2 _ λe=>j.1 Zm];exact c.YY x (XG _ hx)
 free:=λx hx f=>by
  rcases XB hx with rfl|hx;·exact c.free (b,0,o) Zb f
  ·exact c.free x (XG _ hx) f
theorem ZG.setObj{w}{m}{b}{o'}{bs}(f:b∈bs):ZG w {w with heap:=w.heap.setIfInBounds b o'} m m bs bs where
 os:=rfl;tape:=rfl;output:=rfl;size:=Zb;Wa:=λa _ h=>by have i:b≠a:=λe=>h (e▸f);exact⟨Zm,λ_=>rfl⟩
 own:=λa c=>.inl c;le:=XI.refl _
theorem Zle(h:ju Z b n k T (ZW e x) (ZW e y) (ZW e z)=some r):W4 Z ⟨d,.mapUpdate T x y z,ty,pos,aft,g⟩ e b n k r:=by
 unfold ju at h;split at h
 ·rename_i x1 u0 yv zv hx hy hz;split at h
  ·rename_i x3 t yt x9;obtain⟨S,G⟩:=Yk h;clear h;simp only[Yv]at S;obtain⟨hT,y3⟩:=S;split at G
   ·rename_i i hi;obtain⟨q,rfl,h8⟩:=S5 G;obtain⟨z0,u,h,y0,yf,D,Qb,B,yx⟩:=JG h8;have p:u.r=D:=by rw[B.r];simp
    have K:u.q=Qb:=by rw[B.q];simp
    have V:∀c∈D,c.1≠x1/\ZF b c.1=some c.2:=λc a=>by have:=JB (B.mr c a);exact⟨this.2,this.1⟩
    refine⟨_,h,⟨YG _,?_,?_,?_⟩,?_⟩
    ·intro c a;rcases XB a with rfl|a;·exact x9
     ·rw[p]at a;exact(V c a).2
    ·intro c a;have l:c∈u.q:=a;rw[K]at l;exact(JB (B.mq c l)).1
    ·rw[XF,T9];refine⟨λH=>?_,by rw[p];exact B.nd⟩;obtain⟨c,a,o⟩:=Uj H;rw[p]at a;exact(V c a).1 o
    ·intro x2 yy hr f ac w a;obtain⟨N,O,X,hb,y9⟩:=a.sr;obtain⟨F,y8,xk⟩:=Gd hz (a.op z Ye);have P:(hr++f).Perm ([]++([]++O)++(N++f)):=by refine(X.append_right f).trans ?_;simp only[UW,Z5];rw[<-Z5,<-Z5];exact XJ.append_right f
     have U:=a.gd.perm P;obtain⟨I,ys,s,m,y7,yl,hF,xv,_⟩:=yx w x2 [] [] O F U.left y8 trivial (by rw[<-p];exact y9) (λc l=>by obtain⟨h',_,x8,_⟩:=a.rd c (by show c∈u.q;rw[K];exact l);exact⟨h',x8⟩) (by have:=a.YM.tail;rw[p]at this;simpa using this) Zb;have x0:=Xl (KU y0) y7;have e0:ys=[]:=SD y3 x0;subst e0;obtain⟨g1,g2⟩:=(m.frame (N++f)).step U;have W:=a.op x Ye;rw[hx]at W;obtain⟨j,C,E,o,rfl,z1,x4,y1⟩:=ZbM a.gd W hb λc l=>Yd (.inl (X.mem_iff.2 (Yd (.inl l))));obtain⟨J,y4,ek⟩:=a.v hy Ye;have Q:([]++s++([(j,0,Obj.map C E)]++f)).Perm ((j,0,.map C E)::(s++f)):=by simp only[UW,Db];exact List.perm_middle
     have M:=g1.perm Q;have x5:F2 (Ki I x3 t) C.toList yt:=F2.imp (λe y=>by exactλ⟨⟨J,o,r1⟩,cv,e2,r2⟩=>⟨⟨J,o,Xl m.le r1⟩,cv,e2,Xl m.le r2⟩) x4;obtain⟨A,v,y5,x6⟩:=ZrB (i:=i) hT (M.YY _ XP) x5 (Xl m.le y4) x0;have x7:XE zv.t.ag F=XE t.ag F:=by rw[yf.ag]
     have y6:(execOp ac.eval ⟨d,.mapUpdate T x y z,ty,pos,aft,g⟩).run Z.P w=.ok .skip {w with heap:=w.heap.setIfInBounds j (.map A v)}:=by simp only[execOp,o,ek,xk,x7,Ym,y5];rfl
     rw[y6];refine⟨I,(j,0,.map A v)::s,M.setObj _,?_,m.mv _ _,trivial,⟨[(j,0,.map A v)],s,V8 _,⟨[_],⟨j,A,v,rfl,rfl,x6⟩,λz2 hu=>?_⟩,yl⟩,?_,?_⟩
     ·refine(ZG.RB P g2).trans (ZG.RB Q ?_);have:HP.bs ((j,0,Obj.map A v)::s++f)=HP.bs ((j,0,Obj.map C E)::(s++f)):=by simp[HP.bs]
      rw[this];exact ZG.setObj (by simp[HP.bs])
     ·rw[YZ hu];exact m.le.nm _ _ (by rw[y1,o])
     ·refine Yt.cons (λL t' xs H=>?_) hF;injection(YZ H)with _ e3;injection e3 with e4;cases e4
     ·refineλL hf=>xv L λc l=>?_;have y2:c∈D:=by simpa using l
      exact hf c (by show c∈(x1,_)::u.r;rw[p];simp[y2])
   ·cases G
  ·cases h
 ·cases h
end
def VG:(l:List (Nat×Ty))->(Tw l).den->Bx|[],_=>[]|(i,t)::l,x=>(i,⟨t,x.1⟩)::VG l x.2
def Ev(vs:List Value):Value:=if h:vs.toArray.size=1then vs.toArray[0]else .tuple vs.toArray
structure LX(fc:FC)(x:(Tw fc.B).den)(r:fc.ρ)(K:KK)(hA hB hx:HP)(w:World)(v:Value)(w':World)(K':KK)(hC hD:HP):Prop where
 le:K.le K'
 nm:K'.nm=K.nm
 res:∃cs rs,v=Ev rs/\V7 fc.C cs rs/\rel K' fc.C hC cs (fc.dec r).1full:fc.u=false->GD K'.m (hC++hD++hx) w'/\ZG w w' K.m K'.m (hA++hB++hx).bs (hC++hD++hx).bs/\ZH K' (VG fc.D (fc.dec r).2) hD/\Yt K' (VG fc.D (fc.dec r).2)/\W3 K K' (VG fc.B x)only:fc.u=true->GD K'.m hC w'/\ZG w w' K.m K'.m [] hC.bs/\K'.fm=K.fm
def UG(Z:Xq)(a:FC):Prop:=Q7 Z.P a.f=true/\∀g c j,a.m g c=some j->∀b d e i h k f,GD b.m (d++e++i) f->O7 Z b->V7 a.A h k->rel b a.A d h g->ZH b (VG a.B c) e->Yt b (VG a.B c)->Calls Z.P a.f k.toArray f λm p=>∃v,m=.returned v/\∃l n o,LX a c j b d e i f v p l n o
structure TS(c c':CS)(R Q:Bx):Prop where
 r:c'.r=R++c.r
 q:c'.q=Q++c.q
 g:c'.g=X0 R c.g
 s:∀i j,US c.s i=some j->US c'.s i=some j
 mr:∀p∈R,ZF c.g p.1=some p.2nd:(R.map (·.1)).Nodup
 mq:∀p∈Q,ZF c.g p.1=some p.2p:c'.p=false->c.p=false
theorem Ua.ts{c c'}{R Q}(h:Ua c c' R Q):TS c c' R Q:=⟨h.r,h.q,h.g,h.s,h.mr,h.nd,h.mq,h.p⟩
theorem TS.refl(c):TS c c [] []:=(Ua.refl c).ts
theorem TS.trans{a b c}{R Q l j}(h:TS a b R Q)(k:TS b c l j):TS a c (l++R) (j++Q)where
 r:=by rw[k.r,h.r,Z5]
 q:=by rw[k.q,h.q,Z5]
 g:=by rw[k.g,h.g,Zab]
 s:=λf i e=>k.s f i (h.s f i e);mr:=λp d=>(Z1 d).elim (λd=>by have:=k.mr p d;rw[h.g]at this;exact JC this) (h.mr p);nd:=by rw[Vg,TM];refine⟨k.nd,h.nd,λf m i n e=>?_⟩;subst e;obtain⟨p,d,rfl⟩:=Uj m;have⟨q,o,e⟩:=Uj n;have:=k.mr p d;rw[h.g]at this;exact L7 this q o e
 mq:=λp d=>(Z1 d).elim (λd=>by have:=k.mq p d;rw[h.g]at this;exact JC this) (h.mq p);p:=λe=>h.p (k.p e)
def Qp(c:KK->Prop)(K:KK):(t:Ty)->t.den->List (List Nat)->List Value->Prop|.cons t A,x,e,cs=>∃a d,cs=a++d/\a.length=t.n/\(match Lj e with|true=>∀b,K.le b->c b->rel b t [] a x.1|false=>rel K t [] a x.1)/\Qp c K A x.2 e.tail d|.nl,_,_,cs=>cs=[]|_,_,_,_=>False
def IB(d:KK->Prop)(K:KK)(s:List (Nat×Nat)):(t:Ty)->t.den->List (List Nat)->HP->List Value->Prop|.cons t A,x,g,hs,cs=>∃c f b e,hs=c++f/\cs=b++e/\(match Lj g with|true=>c=[]/\t.nh=true/\∀a,K.le a->d a->rel a t [] b x.1|false=>rel (K.WO s) t c b x.1)/\IB d K s A x.2 g.tail f e|.nl,_,_,hs,cs=>hs=[]/\cs=[]|_,_,_,_,_=>False
theorem Qp.mono{c}{K K'}(h:K.le K'):∀{t}{x}{a}{cs},Qp c K t x a cs->Qp c K' t x a cs:=by intro t;induction t with
 |cons t m _ j=>rintro x a cs⟨d,e,f,k,b,l⟩;refine⟨d,e,f,k,?_,j l⟩;cases hb:Lj _ with|true=>rw[hb]at b;exactλn g i=>b _ (h.trans g) i|false=>rw[hb]at b;exact Xl h b
 |nl=>intro x a cs h;exact h|_=>intro x a cs h;exact h.elim
theorem IB.mono{d}{K K'}(h:K.le K'){s s'}(n:∀i j,US s i=some j->US s' i=some j):∀{t}{x}{b}{hs}{cs},IB d K s t x b hs cs->IB d K' s' t x b hs cs:=by intro t;induction t with
 |cons t q _ o=>rintro x b hs cs⟨l,c,e,f,g,k,a,p⟩;refine⟨l,c,e,f,g,k,?_,o p⟩;cases hb:Lj _ with|true=>rw[hb]at a;exact⟨a.1,a.2.1,λr c m=>a.2.2 _ (h.trans c) m⟩|false=>rw[hb]at a;exact Xl (KK.Ia h n) a
 |nl=>intro x b hs cs h;exact h|_=>intro x b hs cs h;exact h.elim
theorem IB.rel{c}{K K2}(h:K.le K2)(k:c K2){s}:∀{t}{x}{b}{hs}{cs},IB c K s t x b hs cs->rel (K2.WO s) t hs cs x:=by intro t;induction t with
 |cons t o _ m=>rintro x b hs cs⟨i,j,d,e,f,g,a,n⟩;refine⟨i,j,d,e,f,g,?_,m n⟩;cases hb:Lj _ with|true=>rw[hb]at a;have⟨rfl,l,a⟩:=a;exact HS l (a _ h k)|false=>rw[hb]at a;exact Xl (KK.Ia h λ_ _ h=>h) a
 |nl=>intro x b hs cs h;exact h|_=>intro x b hs cs h;exact h.elim
theorem CR(a b c:HP):(a++b++c).Perm (b++c++a):=by classical grind
def vk(A:Ty)(v:TV)(k:List (List Nat))(c:CS)(a:A.den)(c':CS)(R Q:Bx):Prop:=∀(g:KK->Prop)(l:World)(b:KK)(f e:HP)(h:List Value),GD b.m (f++e) l->Qp g b v.t v.x k h->ZH b c.l f->ZH b R e->(∀p∈Q,∃m,Wg b p.1 p.2 m)->Yt b (c.l++R)->(∀p∈c.l,ZF c.g p.1=none)->∃d i j,Y0 l b (f++e) d (i++j)/\IB g d c'.s A a k i h/\ZH d c'.l j/\Yt d c'.l/\W3 b d (c.l++R)/\(c'.p=false->d=b)
theorem ZiE{R}{r:R}:∀{A}{v}{o}{c}{k},JF A v o c k=some r->∃a c' B Q,k a c'=some r/\Ua c c' B Q/\VU A v.t/\vk A v o c a c' B Q:=by intro A;induction A with
 |cons t A _ ih=>rintro⟨M,vx⟩o c k h;cases M with
  |cons t' A'=>unfold JF at h;cases hb:Lj o with|true=>rw[hb]at h;obtain⟨hn,N,e,h⟩:=Ma h;injection e with e1 e2;subst e1;obtain⟨a,c',B,Q,h,hS,L,hM⟩:=ih h;refine⟨(N,a),c',B,Q,h,hS,(VU.refl _).cons L,?_⟩;rintro z q K d g W u⟨J,C,rfl,l,w,i⟩x H s j n;rw[hb]at w;obtain⟨K',ha,x9,O,hP,y4,fF,fk,pp⟩:=hM z q K d g C u i x H s j n;refine⟨K',ha,x9,O,⟨[],ha,J,C,rfl,rfl,?_,hP⟩,y4,fF,fk,pp⟩;rw[hb];refine⟨rfl,hn,λI h2 hh=>?_⟩;have:=w I (O.le.trans h2) hh;rwa[wW e2]at this|false=>
    rw[hb]at h;obtain⟨N,J,h,xv,U,Q1,F,m1⟩:=lO h;obtain⟨a,C,V,Q2,h,G,L,m2⟩:=ih h;refine⟨(N,a),C,V++U,Q2++Q1,h,F.trans G,xv.cons L,?_⟩;rintro z q K d g W u⟨X,Z,rfl,l,w,i⟩x H s j n;rw[hb]at w;obtain⟨m,x1,xs,y3,y2⟩:=ZH.append.1 H;have x3:(d++g).Perm ([]++(d++x1)++m):=by refine(VA d (xs.trans XJ)).trans ?_;simp[Z5]
    obtain⟨T,f,E,y,r1,y5,x5,x0,y0⟩:=m1 q K [] d x1 X (u.sub x3) w x y2 (λp b=>s p (Yd (.inr b))) (j.sub (by intro p b;rcases Z1 b with h|h<;>simp[h])) n;have P:Y0 q K (d++g) T (f++E++m):=Y0.perm x3 (V8 _) (y.frame m);have x4:(f++E++m).Perm (E++m++f):=CR _ _ _;obtain⟨I,g2,xk,S,r2,y6,x6,x7,y1⟩:=m2 z q T E m Z ((P.step u).1.sub x4) (i.mono y.le) y5 (y3.mono y.le) (λp b=>let⟨h,i⟩:=s p (Yd (.inl b));⟨h,i.mono y.le⟩) (Yt.next (K:=K) F (j.sub (by intro p b;rcases Z1 b with h|h;rcases Z1 h with h|h<;>simp[h];simp[h])) x5 x0 n G.mr) (F.dj n);refine⟨I,f++g2,xk,?_,⟨f,g2,X,Z,rfl,rfl,?_,r2⟩,y6,x6,?_,λe=>(y1 e).trans (y0 (G.p e))⟩;·refine P.trans (Y0.perm x4 ?_ (S.frame f));rw[Z5 f];exact XJ
    ·rw[hb];exact Xl (KK.Ia S.le G.s) r1
    ·intro D hf;have x2:∀p∈c.l++U,p.1≠Yj D:=λp b=>hf p (by rcases Z1 b with h|h<;>simp[h]);have x8:∀p∈J.l++V,p.1≠Yj D:=by
      intro p b e;rcases Z1 b with b|b;·obtain⟨i,hq,e'⟩:=F.ids p b;exact x2 i hq (e'.trans e)
      ·exact hf p (by simp[b]) e
     rw[x7 D x8,x0 D x2]
  |_=>unfold JF at h;cases h
 |nl=>rintro⟨M,vx⟩o c k h;cases M with|nl=>unfold JF at h;refine⟨(),c,[],[],h,Ua.refl c,VU.refl _,?_⟩;rintro z q K d g W u rfl x H s j n;exact⟨K,[],d++g,Y0.refl _ _ _,⟨rfl,rfl⟩,x.more g,j.sub Zb,W3.refl _ _,λ_=>rfl⟩|_=>unfold JF at h;cases h
 |_=>intro v o c k h;unfold JF at h;cases h
theorem aL{R}{r:R}{t}{v}{c}{k}(h:Vu t v c k=some r):∃x c',k x c'=some r/\NP t v c x c'/\∀f g,t=.YL f g->v=⟨t,x⟩/\c'=c:=by cases t with|YL f t=>have⟨e,x,b,a⟩:=Ma h;exact⟨x,c,a,NP.same e b c,Zm⟩|_=>obtain⟨x,c',d,a⟩:=lO h;exact⟨x,c',d,a,Zb⟩
def vj(B:List (Nat×Ty))(c:CS)(x:(Tw B).den)(c':CS)(R Q:Bx):Prop:=∀(h:World)(a:KK)(e d:HP),GD a.m (e++d) h->ZH a c.l e->ZH a R d->(∀p∈Q,∃i,Wg a p.1 p.2 i)->Yt a (c.l++R)->(∀p∈c.l,ZF c.g p.1=none)->∃b f g,Y0 h a (e++d) b (f++g)/\ZH (b.WO c'.s) (VG B x) f/\ZH b c'.l g/\Yt b c'.l/\W3 a b (c.l++R)/\(c'.p=false->b=a)/\Yt b (VG B x)
theorem ax{R}{r:R}:∀{B}{c}{k},ua B c k=some r->∃x c' Rb Q,k x c'=some r/\Ua c c' Rb Q/\vj B c x c' Rb Q
 |[],c,k,h=>by refine⟨(),c,[],[],h,Ua.refl c,λL K A w V W sR U u f=>⟨K,[],A++w,Y0.refl _ _ _,trivial,W.more w,u.sub Zb,W3.refl _ _,λ_=>rfl,λ_ _ _ h=>by cases h⟩⟩|(i,t)::B,c,k,h=>by
  unfold ua at h;split at h
  ·rename_i H m;obtain⟨v,c1,o,e,h⟩:=OU h;obtain⟨z6,S,h,⟨zs,q,Q2,I,m2⟩,y9⟩:=aL h;obtain⟨x,c3,P,Q3,h,n,m3⟩:=ax h;have E:=e.S.trans I;refine⟨(z6,x),c3,P++(q++o),Q3++(Q2++[]),h,E.trans n,λL K A w V W sR U u f=>?_⟩;obtain⟨l,zc,xk,z2,z0⟩:=ZH.append.1 sR;obtain⟨x4,y5,xv,z1,yy⟩:=ZH.append.1 z0;obtain⟨F,x7,x8,⟨cb,yt,yf⟩,z3⟩:=e.M K A y5 W yy;have a:(A++w).Perm (F++(x7++x4)++l):=by classical rw[VS]at xk xv x8⊢;intro Z;have a1:=xk Z;have a2:=xv Z;have a3:=x8 Z;simp only[VR]at a1 a2 a3⊢;omega
   have x3:Yt K (c.l++(q++o)):=u.sub (by intro p a;rcases Z1 a with h|h;simp[h];rcases Z1 h with h|h<;>simp[h]);obtain⟨N,g,G,D,r1,z4,y3,x1,yv⟩:=m2 L K F x7 x4 cb (V.sub a) yt z3 z1 (λp a=>U p (by simp[a])) (Yt.next (K:=K) (K':=K) e.S (x3.sub (by intro p a;rcases Z1 a with h|h;rcases Z1 h with h|h<;>simp[h];simp[h])) (e.fr (x3.sub (by intro p a;rcases Z1 a with h|h<;>simp[h]))) (W3.refl _ _) f I.mr) (e.S.dj f);have x0:Y0 L K (A++w) N (g++G++l):=Y0.perm a (V8 _) (D.frame l);have x9:(g++G++l).Perm (G++l++g):=CR _ _ _;have x6:W3 K N (c.l++(q++o)):=by
    refineλb y=>x1 b λp a d=>?_;rcases Z1 a with a|a;·obtain⟨j,C,T⟩:=e.S.ids p a;exact y j (by rcases Z1 C with h|h<;>simp[h]) (T.trans d)
    ·exact y p (by simp[a]) d
   obtain⟨O,hB,y8,M,r2,z5,y4,x2,yx,fB⟩:=m3 L N G l ((x0.step V).1.sub x9) z4 (z2.mono D.le) (λp a=>let⟨h,j⟩:=U p (by simp[a]);⟨h,j.mono D.le⟩) (Yt.next (K:=K) E (u.sub (by intro p a;rcases Z1 a with h|h;rcases Z1 h with h|h<;>simp[h];simp[h])) y3 x6 f n.mr) (E.dj f);refine⟨O,g++hB,y8,?_,⟨g,hB,V8 _,⟨cb,Xl (KK.Ia M.le n.s) r1,?_⟩,r2⟩,z5,y4,?_,λd=>(yx d).trans (yv (n.p d)),Yt.cons ?_ fB⟩;·refine x0.trans (Y0.perm x9 ?_ (M.frame g));rw[Z5 g];exact XJ
   ·intro y1 hu;have y0:=M.le.nm _ _ (D.le.nm _ _ (yf y1 hu));show(if Nat.blt i 1000=true then(US c3.s i).bind O.nm else O.nm i)=some y1;cases hi:Nat.blt i 1000with|true=>rw[hi]at m;rw[YW rfl,n.s i H (I.s i H (e.S.s i H m))];exact y0|false=>rw[hi]at m;cases m;rw[Yg Zb];exact y0
   ·intro b y;have x5:∀p∈c.l++(q++o),p.1≠Yj b:=λp a=>y p (by rcases Z1 a with h|h;simp[h];rcases Z1 h with h|h<;>simp[h]);have y6:∀p∈S.l++P,p.1≠Yj b:=by
     intro p a d;rcases Z1 a with a|a;·obtain⟨j,C,T⟩:=E.ids p a;exact x5 j C (T.trans d)
     ·exact y p (by simp[a]) d
    rw[x2 b y6,x6 b x5]
   ·intro b J X hm j C;injection(YZ hm)with e1 e2;injection e2 with e3 e4;obtain⟨ev,rfl⟩:=y9 b J e3.symm;subst e1;have z:H=Yj b:=by
     have F:Nat.blt (Yj b) 1000=false:=by cases h:Nat.blt (Yj b) 1000with|false=>rfl|true=>rw[Uk]at h;simp only[Yj]at h;omega
     rw[F]at m;cases m;rfl
    have y2:v=⟨.YL b J,X⟩:=by rw[ev];subst e3;rw[wW e4]
    have y7:(Yj b,(⟨.YL b J,X⟩:TV))∈c.l++o:=by rw[<-z,<-y2];exact e.mem
    have yl:∀p∈S.l++q,p.1≠Yj b:=by
     intro p a d;rcases Z1 a with a|a;·exact e.ne p a (d.trans z.symm)
     ·have s:=I.mr p a;rw[d,<-z,e.none f]at s;cases s
    have ys:∀p∈S.l++P,p.1≠Yj b:=by
     intro p a d;rcases Z1 a with a|a;·exact e.ne p a (d.trans z.symm)
     ·have s:=n.mr p a;rw[d,<-z,e.none f]at s;cases s
    rw[x2 b ys,x1 b yl];exact u b J X (by rcases Z1 y7 with h|h<;>simp[h]) j C
  ·cases h
theorem ZeE{K:KK}{s}{i}{v}(h:(K.WO s).nm i=some v)(a:(!Nat.blt i 1000||(US s i).isSome)=true):K.nm ((bif Nat.blt i 1000then US s i else some i).getD 0)=some v:=by simp only[KK.WO]at h;cases hi:Nat.blt i _ with|true=>rw[hi]at h a;have⟨d,b,c⟩:=Dg h;grind|false=>grind
theorem Zq6{K}{s}:∀{t},S6 s t=true->Eu t=true->∀{hs}{cs}{x},rel (K.WO s) t hs cs x->rel K (P7 s t x).t hs cs (P7 s t x).x:=by intro t;induction t with|hole B=>exactλa _ hs cs x⟨c,v,r,d,q⟩=>⟨c,v,ZeE r a,d,q⟩|pair A g u w=>intro a b;simp[S6,Eu,Yv]at a b;rintro hs cs x⟨n,o,i,j,c,l,y,z⟩;exact⟨n,o,i,j,c,l,u a.1 b.1 y,w a.2 b.2 z⟩|only t f=>exactλa b hs cs x e=>f a b e|own t f=>exactλa b hs cs x⟨g,h,k,m,c,d,p⟩=>⟨g,h,k,m,c,d,f a b p⟩|_=>exactλa b hs cs x e=>qX b e
theorem yq{j}{v}{n}{b}{n'}{b'}(h:KH j v n b=(n',b')):n<=n'/\∃new,b'=new++b/\(∀p∈new,n<=p.1/\p.1<n'\/p=(j,v)\/∃t x,p=(j,⟨.own t,x⟩))/\∀K h,Wg K j v h->Pz n n' K->∃K',Vh n n' K K'/\ZH K' new h:=by
 obtain⟨t,x⟩:=v;have q:(n,(j,(⟨t,x⟩:TV))::b)=(n',b')->n<=n'/\∃new,b'=new++b/\(∀p∈new,n<=p.1/\p.1<n'\/p=(j,⟨t,x⟩)\/∃t x,p=(j,⟨.own t,x⟩))/\∀K h,Wg K j ⟨t,x⟩ h->Pz n n' K->∃K',Vh n n' K K'/\ZH K' new h:=by intro h;cases h;exact⟨YG _,[(j,⟨t,x⟩)],rfl,Zb,λK h g _=>⟨K,Vh.refl _ _ _,h,[],Zb,g,trivial⟩⟩
 cases t with|own t=>replace h:(match UR t x n b with|(a,l,k)=>(l,(j,(⟨.own a.t,a.x⟩:TV))::k))=(n',b'):=h;rcases h1:UR t x n b with⟨a,l,k⟩;rw[h1]at h;cases h;have m:=yr h1;obtain⟨new,o,g,D⟩:=m.h;refine⟨m.le,(j,⟨.own a.t,a.x⟩)::new,by rw[o];rfl,Zm,?_⟩;·rintro K h⟨E,⟨e,d,c,r,rfl,rfl,z⟩,u⟩s;obtain⟨K',i,w,y,f,A,B⟩:=D K r c z s;exact⟨K',f,(e,0,cellsOf c d)::i,w,OY _ y,⟨_,⟨e,d,c,i,rfl,rfl,A⟩,λv C=>f.le.nm _ _ (u v C)⟩,B⟩|_=>exact q h
theorem iM{s}{fs}:∀{l}{x}{n}{b}{n'}{b'},J8 s fs l x n b=(n',b')->F8 s l=true->n<=n'/\∃new,b'=new++b/\(∀f t xs,(Yj f,⟨.YL f t,xs⟩)∈new->n'<=500->(Yj f,⟨.YL f t,xs⟩)∈VG l x)/\∀K hs,ZH (K.WO s) (VG l x) hs->Pz n n' K->∃K',Vh n n' K K'/\ZH K' new hs
 |[],x,n,b,n',b',h,_=>by cases h;exact⟨YG _,[],rfl,Zb,λK hs _ _=>⟨K,Vh.refl _ _ _,trivial⟩⟩|(g,t)::l,x,n,b,n',b',h,o=>by
  simp only[F8,E6,Yv]at o;obtain⟨⟨Z,z,v,hs⟩,o⟩:=o;have E:F8 s l=true:=by simpa[F8]using o
  unfold J8 at h;obtain⟨i,D⟩:∃i,i=(bif Nat.blt g 1000then US s g else some g).getD 0:=⟨_,rfl⟩;rw[<-D]at h;have H:∀K h,Wg (K.WO s) g ⟨t,x.1⟩ h->Wg K i (P7 s t x.1) h:=by exactλK h⟨Q,k,m⟩=>⟨Q,Zq6 Z z k,λx4 hu=>by rw[D];exact ZeE (m x4 hu) hs⟩
  have I:∀f d xs,(i,P7 s t x.1)=(Yj f,(⟨.YL f d,xs⟩:TV))->(Yj f,(⟨.YL f d,xs⟩:TV))=(g,⟨t,x.1⟩):=by intro f d xs q;injection q with C a;have hx:=x.1;revert v z a;generalize x.1=x1;cases t with|YL T N=>intro z v a;have c:(⟨.YL T N,x1⟩:TV)=⟨.YL f d,xs⟩:=a;rw[<-c];injection c with R e5;injection R with S e7;rw[Xu v,S]|hole _=>intro _ _ a;injection a with c;cases c|pair _ _=>intro _ _ a;injection a with c;cases c|only _=>intro _ _ a;injection a with c;cases c|own _=>intro _ _ a;injection a with c;cases c|_=>intro _ _ a;injection a with c;cases c
  dsimp only at h;cases J:so i fs with|true=>
   rw[J]at h;obtain⟨k,new,q,m,U⟩:=iM h E;refine⟨k,new++[(i,P7 s t x.1)],by rw[q];simp,?_,?_⟩
   ·intro f d xs hm w;rcases Z1 hm with hm|hm;·exact XG _ (m f d xs hm w)
    ·rw[I f d xs (YZ hm).symm];exact XP
   ·rintro K hs⟨e,j,y,u,A⟩p;obtain⟨K',F,V⟩:=U K j A p;refine⟨K',F,ZH.append.2 ⟨j,e,y.trans XJ,V,e,[],Zb,(H K e u).mono F.le,trivial⟩⟩|false=>
   rw[J]at h;dsimp only[cond_false]at h;rcases L:KH i (P7 s t x.1) n b with⟨n1,b1⟩;rw[L]at h;obtain⟨B,x0,C,k1,q1⟩:=yq L;obtain⟨M,x3,a,k2,q2⟩:=iM h E;refine⟨WX B M,x3++x0,by rw[a,C,Z5],?_,?_⟩
   ·intro f d xs hm w;rcases Z1 hm with hm|hm;·exact XG _ (k2 f d xs hm w)
    ·rcases k1 _ hm with h|h|⟨N,x2,h⟩;·have h':n<=1000+f/\1000+f<n1:=h;omega
     ·rw[I f d xs h.symm];exact XP
     ·injection h with _ h;injection h with h;cases h
   ·rintro K hs⟨e,j,y,u,A⟩p;obtain⟨O,r,W⟩:=q1 K e (H K e u) λg k m=>p g k Y;obtain⟨P,G,X⟩:=q2 O j (A.mono (KK.Ia r.le λ_ _ h=>h)) (r.fresh p B);exact⟨P,r.trans B M G,ZH.append.2 ⟨j,e,y.trans XJ,X,W.mono G.le⟩⟩
theorem ZlY{t}{x}{n}{b}{u}{n'}{b'}(h:Mt t x n b=(u,n',b'))(q:t.nh=true):n<=n'/\∃new,b'=new++b/\(∀p∈new,n<=p.1/\p.1<n')/\∀K hs cs,rel K t hs cs x->Pz n n' K->∃K',Vh n n' K K'/\R0 K' u (XE t.ag cs)/\ZH K' new hs:=by
 have m:(match UR t x n b with|(u,n,i)=>(bif u.t.plain then SV.v u else .any,n,i))=(u,n',b')->n<=n'/\∃new,b'=new++b/\(∀p∈new,n<=p.1/\p.1<n')/\∀K hs cs,rel K t hs cs x->Pz n n' K->∃K',Vh n n' K K'/\R0 K' u (XE t.ag cs)/\ZH K' new hs:=by intro h;rcases h1:UR t x n b with⟨j,C,i⟩;rw[h1]at h;cases h;have e:=yr h1;obtain⟨new,k,o,z⟩:=e.h;refine⟨e.le,new,k,o,λK hs cs a d=>?_⟩;obtain⟨K',g,A,r,c,f,w⟩:=z K hs cs a d;refine⟨K',c,?_,(w.more g).perm (XJ.trans r.symm)⟩;cases s:j.t.plain with|true=>have l:g=[]:=SD s f;subst l;exact⟨rfl,cs,f,by rw[e.ag]⟩|false=>exact⟨rfl,trivial⟩
 cases t with
 |opt t=>cases h;refine⟨LG _,[(n,⟨.opt t,x⟩)],rfl,Zb,λK hs cs a d=>?_⟩;match cs,(WH a)with|[v],_=>have c:=KK.HC (d n (YG _) (nB _)) v;refine⟨K.name n v,c,⟨rfl,[v],⟨rfl,v,KK.Pl,rfl,RD a v Zb⟩,rfl⟩,hs,[],Zb,⟨[v],Xl c.le a,λj y=>by rw[YZ y];exact KK.Pl⟩,trivial⟩
 |Ue B D=>cases q|_=>exact m h
theorem Zcs:∀{C}{x}{n}{b}{u}{n'}{b'},Ms C x n b=(u,n',b')->C.nh=true->n<=n'/\∃new,b'=new++b/\(∀p∈new,n<=p.1/\p.1<n')/\∀K hs cs vs,V7 C cs vs->rel K C hs cs x->Pz n n' K->∃K',Vh n n' K K'/\RT K' u vs/\ZH K' new hs:=by intro C;induction C with|cons t z _ O=>
  intro x n b u n' b' a c;simp only[Ty.nh,Yv]at c;unfold Ms at a;rcases f:Mt t x.1 n b with⟨Z,R,w⟩;rw[f]at a;dsimp only at a;rcases g:Ms z x.2 R w with⟨u2,S,y⟩;rw[g]at a;have G:(SV.tc Z u2,S,y)=(u,n',b'):=a;cases G;obtain⟨j,T,E,P,V⟩:=ZlY f c.1;obtain⟨o,U,F,Q,W⟩:=O g c.2;refine⟨WX j o,U++T,by rw[F,E,Z5],λp d=>?_,?_⟩
  ·rcases Z1 d with d|d;·have:=Q p d;omega
   ·have:=P p d;omega
  ·rintro K hs cs vs⟨A,B,v,x0,rfl,rfl,M,rfl,e⟩⟨k,l,d1,d2,rfl,D,q,X⟩m;obtain⟨rfl,rfl⟩:=NK D (by rw[M,WH q]);obtain⟨r,h,H,J⟩:=V K k A q λN f g=>m N f Y;obtain⟨s,i,I,L⟩:=W r l B x0 e (Xl h.le X) (h.fresh m j);exact⟨s,h.trans j o i,⟨_,_,rfl,H.mono i.le,I⟩,ZH.append.2 ⟨l,k,XJ,L,J.mono i.le⟩⟩|nl=>intro x n b u n' b' a c;cases a;exact⟨YG _,[],rfl,Zb,λK hs cs vs e _ _=>⟨K,Vh.refl _ _ _,e.2,trivial⟩⟩|_=>intro x n b u n' b' a c;cases a;exact⟨YG _,[],rfl,Zb,λK hs cs vs e _ _=>e.elim⟩
theorem Zcp{K}{H}{u}{vs}(h:RT K u vs):YU K H (one u) (Ev vs)/\Un (one u)=[]:=by cases u with
 |tc i g=>obtain⟨v,k,rfl,a,b⟩:=h;cases g with|tn=>subst b;exact⟨YU.JZ (R1.rP a),a.1⟩|tc j l=>obtain⟨d,c,rfl,e,f⟩:=b;refine⟨⟨v::d::c,?_,v,_,rfl,a,d,c,rfl,e,f⟩,rfl⟩;unfold Ev;rw[dif_neg Zb]|_=>exact b.elim
 |tn=>subst h;exact⟨rfl,rfl⟩|_=>exact h.elim
def QV(K:KK):List (Nat×Nat×Nat×TV)->HP->Prop|[],_=>True|(c,f,m,w)::fs,i=>∃(d:Ty)(b:List d.den)(e g h:HP)(a:List Value)(v:Value),w=⟨.YL f (.own d),b⟩/\i.Perm (e++g++h)/\a.length=b.length/\m<b.length/\(∀c v,a[c]?=some v->K.fm f c=some v)/\Row 1 (rel K (.own d)) e (a.take (m*1)) (b.take m)/\Row 1 (rel K (.own d)) g (a.drop (m*1+1)) (b.drop (m+1))/\a[m]?=some v/\K.nm c=some v/\QV K fs h
theorem QV.mono{K K'}(h:K.le K'):∀{fs}{c},QV K fs c->QV K' fs c|[],_,_=>trivial|(d,f,m,w)::fs,c,⟨u,xs,h1,h2,g,vs,v,a,k,i,j,hv,l,n,ev,e,q⟩=>⟨u,xs,h1,h2,g,vs,v,a,k,i,j,λd v a=>h.fm _ _ _ (hv d v a),Row.imp (λ_ _ _ b=>Xl h b) l,Row.imp (λ_ _ _ b=>Xl h b) n,ev,h.nm _ _ e,QV.mono h q⟩
theorem QV.perm{K}{fs}{a b}(p:a.Perm b)(h:QV K fs a):QV K fs b:=by cases fs with|nil=>trivial|cons m fs=>obtain⟨j,l,d,e,f,k,v,c,g,i⟩:=h;exact⟨j,l,d,e,f,k,v,c,p.symm.trans g,i⟩
structure Dp(c c':CS):Prop where
 n:c.n<=c'.n
 ids:∀p∈c'.l,p∈c.l\/p.1<1000dj:(∀p∈c.l,ZF c.g p.1=none)->∀p∈c'.l,ZF c'.g p.1=none
 fs:∃fs,c'.f=fs++c.f/\∀x∈fs,(Yj x.2.1,x.2.2.2)∈c'.r\/(Yj x.2.1,x.2.2.2)∈c.l
def Jp(v:TV)(k:List (List Nat))(c:CS)(l:TV)(c':CS)(R:Bx):Prop:=∀(d:KK->Prop)(a:KK)(i h f:HP)(e:List Value),Qp d a v.t v.x k e->ZH a c.l i->ZH a R h->QV a c.f f->Pz c.n c'.n a->∃b j g,(i++(h++f)).Perm (j++g)/\Vh c.n c'.n a b/\Qp d b l.t l.x k e/\ZH b c'.l j/\QV b c'.f g
theorem VU.trans{a b c}(h:VU a b)(k:VU b c):VU a c:=⟨k.n.trans h.n,k.ag.trans h.ag,λe f d=>h.V7 _ _ (k.V7 _ _ d)⟩
theorem Jp.skip{b B}{x}{f}{c}{e}{c'}{R}(h:Jp ⟨B,x.2⟩ f.tail c e c' R):Jp ⟨.cons b B,x⟩ f c ⟨.cons b e.t,(x.1,e.x)⟩ c' R:=by rintro A g G F E D⟨j,k,rfl,r,a,s⟩y w u n;have⟨i,p,m,q,d,t,z,v⟩:=h _ g _ _ _ _ s y w u n;refine⟨i,p,m,q,d,⟨j,k,rfl,r,?_,t⟩,z,v⟩;cases hb:Lj _ with|true=>rw[hb]at a;exactλC l o=>a _ (d.le.trans l) o|false=>rw[hb]at a;exact Xl d.le a
theorem Zh9{R}{r:R}:∀{A}{v}{u}{c}{k},Fa A v u c k=some r->∃d c' j,k d c'=some r/\TS c c' j []/\Dp c c'/\VU d.t v.t/\Jp v u c d c' j:=by
 have x2:∀{v:TV}{u:List (List Nat)}{c:CS}{k:TV->CS->Option R},k v c=some r->∃d c' j,k d c'=some r/\TS c c' j []/\Dp c c'/\VU d.t v.t/\Jp v u c d c' j:=by intro v u c k h;refine⟨v,c,[],h,TS.refl c,⟨YG _,λp b=>.inl b,λW=>W,⟨[],rfl,Zb⟩⟩,VU.refl _,?_⟩;exactλHH B K E I cs hA sl sR U hf=>⟨B,K,E++I,V8 _,Vh.refl _ _ _,hA,sl,by cases Q:c.f with|nil=>trivial|cons x fs=>
    obtain⟨i,f,m,L⟩:=x;rw[Q]at U;obtain⟨e,w,Z,h2,J,z,v,y,b,K,S,hv,r1,r2,P,en,q⟩:=U;have z0:∀{fs:List (Nat×Nat×Nat×TV)}{J:HP},QV B fs J->QV B fs (J++E):=by intro fs;induction fs with|nil=>intro _ _;trivial|cons M fs T=>obtain⟨i,f,m,L⟩:=M;rintro J⟨e,w,Z,h2,y5,z,v,y,b,D⟩;exact⟨e,w,Z,h2,y5++E,z,v,y,by rw[<-Z5];exact b.append_right E,D.1,D.2.1,D.2.2.1,D.2.2.2.1,D.2.2.2.2.1,D.2.2.2.2.2.1,D.2.2.2.2.2.2.1,T D.2.2.2.2.2.2.2⟩
    exact⟨e,w,Z,h2,J++E,z,v,y,(XJ.trans (b.append_right E)).trans (by rw[Z5]),K,S,hv,r1,r2,P,en,z0 q⟩⟩
 intro A;induction A with
 |cons t A _ T=>rintro⟨vt,G⟩u c k h;cases vt with
  |cons F N=>
   have skip:(Fa A ⟨N,G.2⟩ u.tail c λd c=>k ⟨.cons F d.t,(G.1,d.x)⟩ c)=some r->∃d c' j,k d c'=some r/\TS c c' j []/\Dp c c'/\VU d.t (Ty.cons F N)/\Jp ⟨.cons F N,G⟩ u c d c' j:=by intro h;obtain⟨d,c',j,h,hT,C,x0,hM⟩:=T h;exact⟨_,c',j,h,hT,C,(VU.refl F).cons x0,hM.skip⟩
   cases t with
   |hole i=>
    by_cases hb:∃f e,F=.YM f (.own e)
    ·obtain⟨f,e,rfl⟩:=hb;obtain⟨x,ex⟩:∃x,x=G:=⟨_,rfl⟩;replace h:(bif Lj u then none else Yq G.1 none λm=>Qk c (Yj f) λL c=>TU (.YL f (.own e)) L λw=>O (ZA w (Ze m)) λM=>bif(ZF c.g c.n).isNone&&Nat.blt c.n 1000then Fa A ⟨N,G.2⟩ u.tail {c with n:=c.n+1,l:=(c.n,⟨.own e,M⟩)::c.l,f:=(c.n,f,m,⟨.YL f (.own e),w⟩)::c.f} λd c'=>k ⟨.cons (.hole c.n) d.t,((),d.x)⟩ c' else none)=some r:=h;rw[<-ex]at h;subst ex;obtain⟨x7,h9⟩:=jS h;clear h;rcases Mu h9 with⟨_,h⟩|⟨m,S,h⟩;·cases h
     obtain⟨L,a,V,g,h8⟩:=OU h;obtain⟨w,rfl,h7⟩:=S5 h8;obtain⟨M,hy,h6⟩:=U3 h7;obtain⟨Q,h5⟩:=Yk h6;rw[Yv]at Q;obtain⟨y9,yv⟩:=Q;obtain⟨d,c',j,h4,hT,C,x0,hM⟩:=T h5;have yx:a.n<1000:=by rwa[Uk]at yv
     have zc:a.n=c.n:=g.S.n;have x6:a.f=c.f:=g.S.f;have x5:TS c c' (j++V) []:=(show TS c {a with n:=a.n+1,l:=(a.n,⟨.own e,M⟩)::a.l,f:=(a.n,f,m,⟨.YL f (.own e),w⟩)::a.f} V []from⟨g.S.r,g.S.q,g.S.g,g.S.s,g.S.mr,g.S.nd,g.S.mq,g.S.p⟩).trans hT;obtain⟨fs,y3,yl⟩:=C.fs;refine⟨_,c',j++V,h4,x5,⟨?_,?_,?_,⟨fs++[(a.n,f,m,⟨.YL f (.own e),w⟩)],?_,?_⟩⟩,VU.cons ⟨rfl,rfl,λ_ _ h=>h.elim⟩ x0,?_⟩;·have:=C.n;have z6:a.n+1<=c'.n:=this;omega
     ·intro p b;rcases C.ids p b with b|b
      ·rcases XB b with rfl|b;·exact .inr yx
       ·exact .inl (g.sl p b)
      ·exact .inr b
     ·intro W;refine C.dj λp b=>?_;rcases XB b with rfl|b;·exact Option.isNone_iff_eq_none.1 y9
      ·exact g.S.dj W p b
     ·rw[y3,Z5];show fs++_::a.f=_;rw[x6];rfl
     ·intro x hx;rcases Z1 hx with hx|hx
      ·rcases yl x hx with h|h;·exact .inl h
       ·rcases XB h with y|h;·have X:Yj x.2.1=a.n:=X7 (·.1) y;simp only[Yj]at X;omega
        ·exact .inr (g.sl _ h)
      ·rw[YZ hx];rcases Z1 g.mem with h|h;·exact .inr h
       ·refine .inl ?_;rw[x5.r];exact Yd (.inl (Yd (.inr h)))
     ·rintro HH B K E I cs⟨d1,d2,rfl,l,kk,q⟩sl sR U hf;rw[x7]at kk;obtain⟨y7,y6,xv,z3,z2⟩:=ZH.append.1 sR;obtain⟨hb,x8,xk,⟨cb,⟨_,z,y1,y0⟩,_⟩,z5⟩:=g.M B K y6 sl z2;obtain⟨x9,yy⟩:=ZbA hy;obtain⟨g1,gu,g2,rfl,r1,ru,r2,_⟩:=Row.at y0 x9;obtain⟨o,x1⟩:∃o,z[m]?=some o:=⟨z[m],VB Y⟩;have X:(z.drop (m*1)).take 1=[o]:=by rw[BH,O0 Y];have:=VB (l:=z) (i:=m) Y;rw[x1]at this;cases this;rfl
      rw[X,yy]at ru;obtain⟨_,ys⟩:=kk;have yf:d1=[o]/\o.oneCell'=true:=by
       rcases ys with⟨y,_⟩|⟨i',u',y,P,rfl,ho⟩;·have H:x.1=none:=y;rw[S]at H;cases H
       ·have H:x.1=some i':=y;rw[S]at H;cases H;rw[y1 m o x1]at P;cases P;exact⟨rfl,ho⟩
      obtain⟨rfl,ho⟩:=yf;have s:=KK.HC (hf a.n Y (by have:=C.n;have z6:a.n+1<=c'.n:=this;omega)) o;have x3:Vh c.n (a.n+1) B (B.name a.n o):=⟨s.m,s.fm,s.le,λi hi=>s.nm i λh=>hi Y⟩;have y8:a.n+1<=c'.n:=C.n;obtain⟨K',yt,y4,b,x4,q',z4,z1⟩:=hM HH (B.name a.n o) (gu++x8) y7 (g1++g2++I) d2 (q.mono s.le) ⟨gu,x8,V8 _,⟨[o],Xl s.le ru,λL hw=>by rw[YZ hw];exact KK.Pl⟩,z5.mono s.le⟩ (z3.mono s.le) ⟨e,w,g1,g2,I,z,o,rfl,V8 _,by have:=y0.length;simpa using this,x9,y1,Row.imp (λ_ _ _ h=>Xl s.le h) r1,Row.imp (λ_ _ _ h=>Xl s.le h) r2,x1,KK.Pl,by show QV _ a.f I;rw[x6];exact U.mono s.le⟩ (x3.fresh hf Y);refine⟨K',yt,y4,?_,x3.trans Y y8 x4,⟨[o],d2,rfl,rfl,?_,q'⟩,z4,z1⟩;·refine nf ?_ b;classical rw[VS]at xv xk⊢;intro y2;have a1:=xv y2;have a2:=xk y2;simp only[VR]at a1 a2⊢;omega
      ·rw[x7];exact⟨rfl,o,x4.le.nm _ _ KK.Pl,rfl,ho⟩
    ·refine skip (Eq.trans ?_ h);cases F with
     |YM f e=>cases e with|own e=>exact absurd ⟨f,e,rfl⟩ hb|_=>rfl
     |_=>rfl
   |_=>exact skip h
  |_=>cases t<;>exact x2 h
 |_=>intro v u c k h;exact x2 h
theorem mX{R}{r:R}:∀{fs}{l}{k},AF fs l k=some r->∃e,k e=some r/\(∀p∈e,p∈l\/∃x∈fs,∃(u:Ty)(xs ys:List u.den),x.2.2.2=⟨.YL x.2.1 (.own u),xs⟩/\p=(Yj x.2.1,⟨.YL x.2.1 (.own u),ys⟩)/\ys.length=xs.length)/\∀K g d,ZH K l g->QV K fs d->ZH K e (g++d)
 |[],l,k,a=>⟨l,a,λp b=>.inl b,λK g d j _=>j.more d⟩|(i,f,m,w)::fs,l,k,a=>by
  unfold AF at a;split at a
  ·rename_i x3 f' u xs X;obtain⟨P,a⟩:=Yk a;cases Xu P;obtain⟨y0,rfl,M⟩:=S5 a;clear a;obtain⟨e,a,S,O⟩:=mX M;refine⟨e,a,λp b=>?_,λK g d j⟨u',x2,y,z,N,c,v,E,b,x0,Q,V,Z,r2,q,I,o⟩=>?_⟩
   ·rcases S p b with b|⟨x,W,o⟩
    ·rcases XB b with rfl|b;·exact .inr ⟨_,XP,u,xs,Y3 xs m y0,rfl,rfl,Zb⟩
     ·exact .inl (IU p b)
    ·exact .inr ⟨x,XG _ W,o⟩
   ·injection E with F G;injection F with _ h;injection h with h;subst h;have H:=wW G;subst H;obtain⟨s,t,x1,⟨D,B,T⟩,U⟩:=ZH.get X j;match D,(WH B)with
    |[p],_=>
     have J:p=v:=by have:=T p Zb;rw[I]at this;cases this;rfl
     subst J;have C:=Row.set (n:=1) Q Z r2 rfl B;have L:c.take (m*1)++[p]++c.drop (m*1+1)=c:=by
      rw[BH];have A:m<c.length:=Y;have:c[m]=p:=by rw[VB A]at q;cases q;rfl
      rw[Z5,Db,<-this,<-O0 A,Sb]
     rw[L]at C;refine(O K (y++(s++z)++t) N ⟨y++(s++z),t,V8 _,⟨[],⟨rfl,c,V,C⟩,Zb⟩,U⟩ o).perm ?_;classical grind
  ·cases a
theorem ZjG{K}{l b}{fs:List (Nat×Nat×Nat×TV)}(h1:Yt K l)(o:∀p∈b,p∈l\/∃x∈fs,∃(u:Ty)(xs ys:List u.den),x.2.2.2=⟨.YL x.2.1 (.own u),xs⟩/\p=(Yj x.2.1,⟨.YL x.2.1 (.own u),ys⟩)/\ys.length=xs.length)(h2:∀x∈fs,Yt K [(Yj x.2.1,x.2.2.2)]):Yt K b:=by
 intro j r xs n a m;rcases o _ n with k|⟨x,q,u,s,ys,t,c,v⟩;·exact h1 j r _ k a m
 ·injection c with d e;injection e with f g;injection f with _ i;subst i;have h:=wW g;subst h;rw[kD d];refine h2 x q _ (.own u) s Zm a Y
theorem gS{K K2}(V:K2.fm=K.fm):∀{t},Ut t=true->∀{hs}{cs}{x},(∀b∈hs.bs,∀o,K2.m b o=K.m b o)->rel K t hs cs x->rel K2 t hs cs x:=by
 have r:∀{U:Type}{n:Nat}{s u:HP->List Value->U->Prop}{B:List Nat},(∀hs cs x,(∀b∈HP.bs hs,b∈B)->s hs cs x->u hs cs x)->∀{p:List U}{hs:HP}{cs:List Value},(∀b∈HP.bs hs,b∈B)->Row n s hs cs p->Row n u hs cs p:=by intro U n s u B d p;induction p with|nil=>intro hs cs _ q;exact q|cons x p f=>rintro hs cs a⟨Z,c',x2,g',j,rfl,x6,x7,q⟩;refine⟨Z,c',x2,g',j,rfl,x6,d _ _ _ (λb e=>a b (by rw[HP.XL];exact Yd (.inl e))) x7,f (λb e=>a b (by rw[HP.XL];exact Yd (.inr e))) q⟩
 intro t;induction t with|vec n t f=>exactλc hs cs x a d=>r (B:=hs.bs) (λI A T e h=>f c (λb m=>a b (e b m)) h) (λb a=>a) d|pair X b N O=>intro c;simp only[Ut,Yv]at c;rintro hs cs x a⟨G,l,w,y,rfl,D,P,Q⟩;exact⟨G,l,w,y,rfl,D,N c.1 (λb e=>a b (by rw[HP.XL];exact Yd (.inl e))) P,O c.2 (λb e=>a b (by rw[HP.XL];exact Yd (.inr e))) Q⟩|cons X b N O=>intro c;simp only[Ut,Yv]at c;rintro hs cs x a⟨G,l,w,y,rfl,D,P,Q⟩;exact⟨G,l,w,y,rfl,D,N c.1 (λb e=>a b (by rw[HP.XL];exact Yd (.inl e))) P,O c.2 (λb e=>a b (by rw[HP.XL];exact Yd (.inr e))) Q⟩|only t f=>exactλc hs cs x a d=>f c (x:=x) a d|YM x1 t _=>refineλc hs cs x a⟨j,d⟩=>⟨j,d.imp id λ⟨n,v,F,E,g,eo⟩=>⟨n,v,F,by rw[V];exact E,g,eo⟩⟩|own t f=>rintro c hs cs x a⟨b,k,C,h,rfl,g,i⟩;exact⟨b,k,C,h,rfl,g,f c (x:=x) (λb e=>a b (by simp only[HP.bs,XF];exact XG _ e)) i⟩|opt t f=>refineλc hs cs x a d=>MV id ?_ d;rintro⟨W,b,k,C,h,F,rfl,g,i⟩;exact⟨W,b,k,C,h,F,rfl,g,f c (λb e=>a b (by simp only[HP.bs,XF];exact XG _ e)) i⟩|full t f=>refineλc hs cs x a d=>MV id ?_ d;rintro⟨b,k,z,R,S,h,g,rfl,i,H,L⟩;exact⟨b,k,z,R,S,h,g,rfl,r (B:=HP.bs h) (λI A T e l=>f c (λb m=>a b (by simp only[HP.bs,XF];exact XG _ (e b m))) l) (λb a=>a) i,H,L⟩|YO t f=>refineλc hs cs x a d=>MV id ?_ d;rintro⟨b,k,z,R,S,g,rfl,i,x3,H,L⟩;refine⟨b,k,z,R,S,g,rfl,r (B:=[]) (λI A T e l=>f c (λb m=>absurd (e b m) Zb) l) (λb a=>by simp[HP.bs]at a) i,λM v J=>?_,H,L⟩;rw[a b (by simp[HP.bs])];exact x3 M v J|map q v x4 x5=>intro c;simp only[Ut,Yv]at c;rintro hs cs x a⟨b,es,x0,g,j,d⟩;refine⟨b,es,x0,g,j,F2.imp (λj W⟨⟨ck,e1,r1⟩,cv,e2,r2⟩=>⟨⟨ck,e1,x4 c.1 (by simp[HP.bs]) r1⟩,cv,e2,x5 c.2 (by simp[HP.bs]) r2⟩) d⟩|YL x1 t f=>exactλc hs cs x a⟨j,vs,J,i⟩=>⟨j,vs,λM v E=>by rw[V];exact J M v E,r (B:=hs.bs) (λI A T e h=>f c (λb m=>a b (e b m)) h) (λb a=>a) i⟩|int=>exactλ_ hs cs x _ d=>d|un _ _=>exactλ_ hs cs x _ d=>d|bool=>exactλ_ hs cs x _ d=>d|str=>exactλ_ hs cs x _ d=>d|nl=>exactλ_ hs cs x _ d=>d|_=>intro c;cases c
theorem Zfi{K K2}(e:K2.fm=K.fm)(g:K2.nm=K.nm):∀{B}{x},Ut (Tw B)=true->∀{hs},(∀b∈hs.bs,∀o,K2.m b o=K.m b o)->ZH K (VG B x) hs->ZH K2 (VG B x) hs|[],_,_,_,_,_=>trivial|(i,t)::B,x,h,hs,hb,⟨h1,h2,f,⟨cs,r,q⟩,j⟩=>by have c:(Ut t&&Ut _)=true:=h;rw[Yv]at c;have d:=λb a=>hb b ((f.map _).mem_iff.2 (by rw[Vg];exact Yd a));exact⟨h1,h2,f,⟨cs,gS e c.1 (λb a=>d b (.inl a)) r,Zm⟩,Zfi e g c.2 (λb a=>d b (.inr a)) j⟩
def vA(H:HM)(c:List Nat)(K:KK):Prop:=∀b∈c,∃a,H b=some a/\RX K a
theorem zf(f):¬Yj f<1000:=by simp only[Yj];omega
structure Zg4(K:KK)(hR:HP)(w:World)(HH:KK->Prop)(A:Ty)(B:List (Nat×Ty))(js:List (List Nat))(cs:List Value)(n:Nat)(c1 c:CS)(a:A.den)(x:(Tw B).den)(K3:KK)(hA hB hl hF:HP):Prop where
 gst:∀hs,GD K.m (hR++hs) w->GD K3.m (hA++hB++(hl++hF)++hs) w/\ZG w w K.m K3.m (hR++hs).bs (hA++hB++(hl++hF)++hs).bs
 le:K.le K3
 nm:∀i,¬(n<=i/\i<c1.n)->K3.nm i=K.nm i
 arg:IB HH K3 c.s A a js hA cs
 box:ZH (K3.WO c.s) (VG B x) hB
 sl:ZH K3 c.l hl
 fr:QV K3 c.f hF
 fl:Yt K3 c.l
 fb:Yt K3 (VG B x)fk:W3 K K3 c.r
 ff:∀y∈c.f,Yt K3 [(Yj y.2.1,y.2.2.2)]p:c.p=false->K3.m=K.m/\K3.fm=K.fm
theorem ZcO{b}{n}{v v1}{T}{A}{B}{a}{x}{d F J}{r k l V W}(Z:TS {g:=b,n:=n} d r [])(X:Dp {g:=b,n:=n} d)(M1:Jp v T {g:=b,n:=n} v1 d r)(D:Ua d F k V)(M2:vk A v1 T d a F k V)(E:Ua F J l W)(M3:vj B F x J l W){O}{K}{G}{w}{cs}{z0}(hg:GD K.m (G++z0) w)(hA:Qp O K v.t v.x T cs)(hS:ZH K (l++(k++r)) G)(hQ:∀p∈W++(V++[]),∃h,Wg K p.1 p.2 h)(hF:Yt K (l++(k++r)))(hf:Pz n d.n K):∃P g1 g2 g3 g4,Zg4 K G w O A B T cs n d J a x P g1 g2 g3 g4:=by
 obtain⟨m,a4,xv,zs,z6⟩:=ZH.append.1 hS;obtain⟨Q,yx,y0,zc,z5⟩:=ZH.append.1 z6;obtain⟨C,R,e,y1,j,ys,zv,z4⟩:=M1 O K [] yx [] cs hA trivial z5 trivial hf;have x3:∀p∈d.l,∀f,p.1≠Yj f:=λp c f L=>by
  rcases X.ids p c with h|h;·cases h
  ·rw[L]at h;exact zf f h
 have x1:∀p∈d.l,ZF d.g p.1=none:=X.dj λp c=>by cases c
 have x0:Yt C (l++(k++r)):=λf t u y q o=>by rw[j.fm];exact hF f t u y q o
 have y3:G.Perm (R++Q++(m++e)):=by classical rw[VS]at xv y0 y1⊢;intro N;have a1:=xv N;have a2:=y0 N;have a3:=y1 N;simp only[VR,Ok]at a1 a2 a3⊢;omega
 have em:C.m=K.m:=j.m;have x8:GD C.m (R++Q++(m++e)) w:=by rw[em];exact hg.left.perm y3
 have yf:Yt C (d.l++k):=λf t u y q o=>by
  rcases Z1 y with h|h;·exact absurd rfl (x3 _ h f)
  ·exact x0 f t u (by simp[h]) q o
 obtain⟨U,s,H,z,yt,zz,y7,x6,z2⟩:=M2 O w C R Q cs x8.left ys zv (zc.mono j.le) (λp c=>let⟨h,M⟩:=hQ p (by simp[c]);⟨h,M.mono j.le⟩) yf x1;have x5:=z.frame (m++e);have y2:(s++H++(m++e)).Perm (H++m++(s++e)):=by classical rw[VS];intro N;simp only[VR];omega
 have yl:Yt U (F.l++l):=Yt.next (K:=C) D (λf t u y q o=>by
   rcases Z1 y with h|h
   ·rcases Z1 h with h|h;·exact x0 f t u (by simp[h]) q o
    ·exact x0 f t u (by simp[h]) q o
   ·exact absurd rfl (x3 _ h f)) y7 x6 x1 E.mr;obtain⟨P,hB,x2,I,yv,a0,y8,y9,z3,fB⟩:=M3 w U H m ((x5.step x8).1.perm y2).left zz (zs.mono (j.le.trans z.le)) (λp c=>let⟨h,M⟩:=hQ p (by simp[c]);⟨h,M.mono (j.le.trans z.le)⟩) yl (D.dj x1);have er:J.r=l++(k++r):=by rw[E.r,D.r,Z.r,Xp]
 have xk:((l++(k++r)).map (·.1)).Nodup:=by have:=((Z.trans D.ts).trans E.ts).nd;exact this
 have x7:∀f,(∀p∈k++l,p.1≠Yj f)->P.fm f=K.fm f:=by
  intro f S;have h2:∀p∈d.l++k,p.1≠Yj f:=λp c=>(Z1 c).elim (λh=>x3 p h f) λh=>S p (by simp[h]);have h3:∀p∈F.l++l,p.1≠Yj f:=by
   intro p c;rcases Z1 c with h|h;·obtain⟨M,hq,L⟩:=D.ids p h;rw[<-L];exact h2 M hq
   ·exact S p (by simp[h])
  rw[y9 f h3,x6 f h2,j.fm]
 have ef:J.f=d.f:=by rw[E.f,D.f]
 refine⟨P,s,hB,x2,e,⟨λi h=>?_,j.le.trans (z.le.trans I.le),λq o=>by rw[I.nm,z.nm];exact j.nm q o,yt.mono I.le E.s,yv,a0,by rw[ef];exact z4.mono (z.le.trans I.le),y8,fB,?_,?_,?_⟩⟩
 ·have q1:(G++i).Perm (R++Q++(m++e)++i):=y3.append_right i;obtain⟨g2,f2⟩:=(x5.frame i).step (by rw[em];exact h.perm q1);have q2:(s++H++(m++e)++i).Perm (H++m++(s++e++i)):=by have:=y2.append_right i;simpa only[Z5]using this
  obtain⟨g3,f3⟩:=(I.frame (s++e++i)).step (g2.perm q2);have q3:(hB++x2++(s++e++i)).Perm (s++hB++(x2++e)++i):=by classical rw[VS];intro N;simp only[VR];omega
  refine⟨g3.perm q3,?_⟩;have y6:ZG w w K.m U.m (G++i).bs (s++H++(m++e)++i).bs:=by have:=ZG.RB q1 f2;rwa[em]at this
  exact y6.trans (ZG.RB q2 (ZG.QI q3 f3))
 ·refineλf S=>x7 f λp c=>S p ?_;rw[er];rcases Z1 c with h|h<;>simp[h]
 ·intro x4 hy;rw[ef]at hy;obtain⟨fs,y4,yy⟩:=X.fs;have y5:d.f=fs:=by rw[y4];exact Xp _
  rw[y5]at hy;have z1:(Yj x4.2.1,x4.2.2.2)∈r:=by
   rcases yy x4 hy with h|h;·rwa[Z.r,Xp]at h
   ·cases h
  intro f t u y q o;have x9:(Yj f,(⟨.YL f t,u⟩:TV))∈r:=by rw[YZ y];exact z1
  rw[x7 f λp c L=>?_];·exact hF f t u (by simp[x9]) q o
  ·rw[<-Z5,Vg,TM]at xk;refine xk.2.2 p.1 (Pt ⟨p,?_,rfl⟩) (Yj f) (VC (f:=(·.1)) x9) L;rcases Z1 c with h|h;·exact Yd (.inr h)
   ·exact Yd (.inl h)
 ·intro c;rw[z3 c,z2 (E.p c)];exact⟨j.m,j.fm⟩
theorem ZG.Zls{w w'}{m f}{c d}{e}(h:ZG w w' m f c d)(hs:∀b∈c,b∈e):ZG w w' m f e d:={h with Wa:=λb a g=>h.Wa b a Zm,own:=λb a=>(h.own b a).imp (hs b) id}
structure n9(C:Ty)(B D:List (Nat×Ty))(x:(Tw B).den)(y:(Tw D).den)(z:C.den)(K:KK)(hA hB hx:HP)(w:World)(v:Value)(w':World)(K':KK)(hC hD:HP):Prop where
 le:K.le K'
 nm:K'.nm=K.nm
 res:∃cs rs,v=Ev rs/\V7 C cs rs/\rel K' C hC cs z
 gd:GD K'.m (hC++hD++hx) w'
 Kj:ZG w w' K.m K'.m (hA++hB++hx).bs (hC++hD++hx).bs
 sat:ZH K' (VG D y) hD
 YM:Yt K' (VG D y)fk:W3 K K' (VG B x)
theorem LX.Zh1{a}{x}{r}{K}{b c hx}{w}{v}{w'}{K'}{hC d}(h:LX a x r K b c hx w v w' K' hC d)(k:a.u=false):n9 a.C a.B a.D x (a.dec r).2 (a.dec r).1 K b c hx w v w' K' hC d:=let⟨e,f,g,i,j⟩:=h.full k
 ⟨h.le,h.nm,h.res,e,f,g,i,j⟩
theorem LX.Zh2{b}{x}{r}{K}{c a hx}{w}{v}{w'}{K'}{hC k}(h:LX b x r K c a hx w v w' K' hC k)(s:b.u=true)(n:GD K.m (c++a++hx) w)(hs:ZH K (VG b.B x) a)(m:Yt K (VG b.B x)):n9 b.C b.B b.B x x (b.dec r).1 K c a hx w v w' K' hC a:=by
 have⟨j,g,e⟩:=h.only s;have o:GD K.m ([]++(a++hx)) w:=by have:(c++a++hx).Perm (c++(a++hx)):=Zb;simpa using(n.perm this).right
 have⟨z,i⟩:=GD.frame o j g;refine⟨h.le,h.nm,h.res,Zm,?_,hs.mono h.le,λd u A q t p=>by rw[e];exact m d u _ q t p,λd _=>Zm⟩;have f:HP.bs (hC++a++hx)=HP.bs (hC++(a++hx)):=Zb;rw[f];refine ZG.Zls i λy l=>?_;simp only[HP.bs,Vg,TL,UW]at l⊢;grind
section
variable{R:Type}{Z:Xq}{e:En}{b:Bx}{n:Nat}{k:Wc->Option R}{r:R}
def BY(Z:Xq)(e:En)(n:Nat)(xs:List Operand)(g:FuncId)(v:TV)(l:List (List Nat))(f:Wc):Prop:=∀c a i j q d,TD Z e n f xs c a i j q d->∀h o,V7 v.t h o->Qp (vA a l.flatten) c v.t v.x l h->Calls Z.P g o.toArray d λs u=>∃m,s=.returned m/\∃p t,cr n f c a i j d m u p t
theorem aC{i}{v v1}{M}{xs}{D}{r0}{y}{a}{x}{O c2 h}{R1 R2 R3 Q2 Q3}{q l1 l2 l'}{n1 X}{u}(ad:UG Z i)(b0:∀g tv,Rs Z.gl g=some tv->tv.t.nh=true)(T1:TS {g:=b,n:=n} O R1 [])(S1:Dp {g:=b,n:=n} O)(z4:VU v1.t v.t)(M1:Jp v M {g:=b,n:=n} v1 O R1)(S2:Ua O c2 R2 Q2)(z5:VU i.A v1.t)(M2:vk i.A v1 M O a c2 R2 Q2)(S3:Ua c2 h R3 Q3)(M3:vj i.B c2 x h R3 Q3)(hC:i.C.nh=true)(hD:F8 h.s D=true)(hB:HE h i.B=true)(J:i.m a x=some r0)(hq:JD b M.flatten=some q)(yt:M.flatten=[]\/Ut i.C=true/\Ut (Tw D)=true)(hj:∀j∈M.flatten,ZF h.r j=none)(h1:J8 h.s h.f D y h.n h.l=(n1,l1))(h2:Ms i.C (i.dec r0).1 n1 l1=(u,X,l2))(a9:∀p∈l',p∈l2\/∃x∈h.f,∃(u:Ty)(xs ys:List u.den),x.2.2.2=⟨.YL x.2.1 (.own u),xs⟩/\p=(Yj x.2.1,⟨.YL x.2.1 (.own u),ys⟩)/\ys.length=xs.length)(ab:∀K hl hF,ZH K l2 hl->QV K h.f hF->ZH K l' (hl++hF))(a8:∀{K}{hA hB hx}{w}{v}{w'}{K'}{hC hD},LX i x r0 K hA hB hx w v w' K' hC hD->GD K.m (hA++hB++hx) w->ZH K (VG i.B x) hB->Yt K (VG i.B x)->∃I,n9 i.C i.B D x y (i.dec r0).1 K hA hB hx w v w' K' hC I):n<=X/\BY Z e n xs i.f v M ⟨one u,q++h.q,h.r,l',X⟩:=by
 obtain⟨c0,c6,y6,zc,zv⟩:=iM h1 hD;obtain⟨c4,c7,y7,bi,zz⟩:=Zcs h2 hC;have bs:h.n=O.n:=by rw[S3.n,S2.n]
 have c5:n<=O.n:=S1.n;have er:h.r=R3++(R2++R1):=by have e1:O.r=R1++[]:=T1.r;rw[S3.r,S2.r,e1,Xp]
 have eq:h.q=Q3++(Q2++[]):=by have e1:O.q=[]++[]:=T1.q;rw[S3.q,S2.q,e1];rfl
 refine⟨Y,λK H hr hx ac w L cs vs hv hA=>?_⟩;have bz:X<=500:=L.lt;obtain⟨F,y0,x5,P,V,z⟩:=ZcO (B:=i.B) T1 S1 M1 S2 M2 S3 M3 L.gd hA (by rw[<-er];exact L.sr) (λp G=>by obtain⟨d,_,A,_⟩:=L.rd p (Yd (.inr (by rw[eq];exact G)));exact⟨d,A⟩) (by rw[<-er];exact L.YM) λc h1 h2=>L.fr c h1 (by show c<X;omega);obtain⟨o,E,x8,bv,zs,yf⟩:∃o E,hx.Perm (o++E)/\(∀x∈o,x∈hx)/\(∀j∈M.flatten,∃d,H j=some d/\∀x∈d,x∈o)/\(M.flatten=[]->o=[]):=by
  by_cases yy:M.flatten=[];·exact⟨[],hx,V8 _,Zb,by rw[yy];simp,λ_=>rfl⟩
  ·obtain⟨o,bo,p1,p2,p3⟩:=ez (hx.filter λx=>@decide (∃j∈M.flatten,∃d,H j=some d/\x∈d) (Classical.propDecidable _)) hx;refine⟨o,bo,p1,λx E=>(p2 x E).2,λj x4=>?_,λe=>absurd e yy⟩;obtain⟨_,x6⟩:=Fb hq;obtain⟨uv,_,z0⟩:=x6 j x4;obtain⟨d,eh,_,_⟩:=L.rd (j,uv) (Yd (.inl z0));have yx:=L.rx (j,uv) (Yd (.inl z0)) (λq hq e=>lg (hj j x4) q hq e) d eh;refine⟨d,eh,λx E=>p3 x (yx x E) (List.mem_filter.2 ⟨yx x E,@RN _ (Classical.propDecidable _) ⟨j,x4,d,eh,E⟩⟩)⟩
 obtain⟨g3,f3⟩:=z.gst hx L.gd;have q1:(y0++x5++(P++V)++hx).Perm (o++(y0++x5++(P++(V++E)))):=by classical rw[VS]at x8⊢;intro x0;have:=x8 x0;simp only[VR]at this⊢;omega
 have g4:=g3.perm q1;have gl:=jd g4;have x9:F.le (F.OM o w):=je g4;have av:vA H M.flatten (F.OM o w):=λj x4=>by obtain⟨d,eh,hs⟩:=zs j x4;exact⟨d,eh,λx E=>Zbz g4 x (hs x E)⟩
 have al:O7 Z ((F.OM o w).WO h.s):=λg tv eg=>by obtain⟨ds,b4,a6⟩:=L.gl g tv eg;exact⟨ds,HS (b0 g tv eg) (Xl (z.le.trans x9) b4),a6.mono (z.le.trans x9).m⟩
 have x6:ZH ((F.OM o w).WO h.s) (VG i.B x) x5:=z.box.mono (KK.Ia x9 λ_ _ d=>d);refine(ad.2 a x r0 J ((F.OM o w).WO h.s) y0 x5 (P++(V++E)) cs vs w gl al (z5.V7 _ _ (z4.V7 _ _ hv)) (z.arg.rel x9 av) x6 z.fb).mono ?_;rintro en w'⟨rv,rfl,K',U,bt,b6⟩;refine⟨rv,rfl,?_⟩;obtain⟨I,Q⟩:=a8 b6 gl x6 z.fb;obtain⟨gb,fb⟩:=an g4 Q.gd Q.Kj;obtain⟨y4,rs,ev,bd,z2⟩:=Q.res;obtain⟨C,S⟩:∃C:KK,C=⟨F.nm,K'.fm,vV F.m K'.m o⟩:=⟨_,rfl⟩;have bl:F.le C:=by rw[S];refine⟨λ_ _ d=>d,λf c v d=>Q.le.fm f c v d,fb.le⟩
 have y9:(C.WO h.s).nm=K'.nm:=by rw[Q.nm,S];rfl
 have xk:(C.WO h.s).fm=K'.fm:=by rw[S];rfl
 have yl:∀l∈HP.bs (U++I++(P++(V++E))),l∉HP.bs o:=λl A a7=>by have:=gb.nodup;rw[HP.XL,TM]at this;exact this.2.2 l a7 l A rfl
 have y1:∀l,l∉HP.bs o->∀N,(C.WO h.s).m l N=K'.m l N:=λl A N=>by rw[S];show(if l∈HP.bs o then F.m l N else K'.m l N)=_;rw[Yg A]
 have e0:o=[]->C.WO h.s=K':=λe=>by
  have h1:(C.WO h.s).m=K'.m:=by funext l N;exact y1 l (by rw[e];simp[HP.bs]) N
  cases hK:C.WO h.s with|mk a1 a2 a3=>rw[hK]at y9 xk h1;cases K';simp_all
 have b5:rel C i.C U y4 (i.dec r0).1:=by
  refine qX (s:=h.s) hC ?_;rcases yt with d|⟨d,_⟩;·rw[e0 (yf d)];exact z2
  ·exact gS xk d (λl A N=>y1 l (yl l (by simp only[HP.bs,Vg,TL]at A⊢;exact .inl (.inl A))) N) z2
 have b7:ZH (C.WO h.s) (VG D y) I:=by
  rcases yt with d|⟨_,d⟩;·rw[e0 (yf d)];exact Q.sat
  ·exact Zfi xk y9 d (λl A N=>y1 l (yl l (by simp only[HP.bs,Vg,TL]at A⊢;exact .inl (.inr A))) N) Q.sat
 have yv:∀c,O.n<=c->c<X->C.nm c=none:=λc h1 h2=>by rw[S];show F.nm c=none;rw[z.nm c Y];exact L.fr c Y h2
 obtain⟨K5,x2,a4⟩:=zv C I b7 λc h1 h2=>yv c Y Y;obtain⟨T,x3,a0,a5⟩:=zz K5 U y4 rs bd (Xl x2.le b5) λc h1 h2=>(x2.nm c Y).trans (yv c Y h2);have y3:F.le T:=bl.trans (x2.le.trans x3.le);have b8:ZH T l2 (U++(I++P)):=by rw[y7,y6];exact ZH.append.2 ⟨U,I++P,V8 _,a5,ZH.append.2 ⟨I,P,V8 _,a4.mono x3.le,z.sl.mono y3⟩⟩
 have y8:T.m=C.m:=x3.m.trans x2.m;have y5:T.fm=K'.fm:=(x3.fm.trans x2.fm).trans (by rw[S]);obtain⟨ro,rl⟩:=Zcp (H:=H) a0;have z1:(o++(U++I++(P++(V++E)))).Perm (U++(I++P)++V++hx):=by classical rw[VS]at x8⊢;intro x0;have:=x8 x0;simp only[VR]at this⊢;omega
 have z6:∀f,(∀p∈h.r,p.1≠Yj f)->∀p∈VG i.B x,p.1≠Yj f:=by
  intro f x7;have y2:∀(B:List (Nat×Ty))(x:(Tw B).den),HE h B=true->∀p∈VG B x,p.1≠Yj f:=by intro B;induction B with|nil=>intro x _ p G;cases G|cons y B ih=>
    obtain⟨c,t⟩:=y;intro x x1 p G;simp only[HE,E6,Yv]at x1;rcases XB G with rfl|G
    ·intro e;have h0:=x1.1;have A:Nat.blt c 1000=false:=by cases d:Nat.blt c 1000with|false=>rfl|true=>rw[Uk]at d;exact absurd (show Yj f<1000from e▸d) (zf f)
     rw[A,oZ,Yv]at h0;obtain⟨q,b3,e'⟩:=nj h0.1;exact x7 q b3 ((Xu e').trans e)
    ·exact ih x.2 (by simpa[HE]using x1.2) p G
  exact y2 i.B x hB
 have xv:∀f,(∀p∈VG i.B x,p.1≠Yj f)->T.fm f=F.fm f:=λf d=>by rw[y5,Q.fk f d];rfl
 have z3:∀f,(∃p∈h.l,p.1=Yj f)\/(∃x∈h.f,x.2.1=f)->∀p∈VG i.B x,p.1≠Yj f:=by
  intro f hf;have y2:∀(B:List (Nat×Ty))(x:(Tw B).den),HE h B=true->∀p∈VG B x,p.1≠Yj f:=by intro B;induction B with|nil=>intro x _ p G;cases G|cons y B ih=>
    obtain⟨c,t⟩:=y;intro x x1 p G;simp only[HE,E6,Yv]at x1;rcases XB G with rfl|G
    ·intro e;have e':c=Yj f:=e;have h0:=x1.1;have A:Nat.blt c 1000=false:=by cases d:Nat.blt c 1000with|false=>rfl|true=>rw[Uk]at d;exact absurd (show Yj f<1000from e'▸d) (zf f)
     rw[A,oZ,Yv,Yv]at h0;obtain⟨_,h3,h4⟩:=h0;rcases hf with⟨p,b1,b2⟩|⟨x0,be,bf⟩;·have:(h.l.any λp=>Nat.beq p.1 c)=true:=BB ⟨p,b1,by rw[Jl];exact b2.trans e'.symm⟩;rw[this]at h4;cases h4
     ·have:(h.f.any λx=>Nat.beq (Yj x.2.1) c)=true:=BB ⟨x0,be,by rw[Jl,bf];exact e'.symm⟩;rw[this]at h3;cases h3
    ·exact ih x.2 (by simpa[HE]using x1.2) p G
  exact y2 i.B x hB
 have ag:Yt T l2:=by
  rw[y7,y6];refine Yt.append (λf t xs J c W=>?_) (Yt.append (λf t xs J c W=>?_) λf t xs J c W=>?_);·have h1:n1<=1000+f/\1000+f<X:=bi _ J;omega
  ·have:=zc f t xs J Y;rw[y5];exact Q.YM f t xs this c W
  ·rw[xv f (z3 f (.inl ⟨_,J,rfl⟩))];exact z.fl f t xs J c W
 refine⟨T,U++(I++P)++V,⟨by rw[y8,S];exact gb.perm z1,?_,⟨z.le.trans y3,λc W=>?_⟩,by rw[ev];exact ro,ab T _ V b8 (z.fr.mono y3),?_,?_⟩⟩;·rw[y8,S];exact f3.trans (ZG.RB q1 (ZG.QI z1 fb))
 ·have bx:¬(n<=c/\c<X):=W;rw[x3.nm c Y,x2.nm c Y,S];exact z.nm c Y
 ·refine ZjG ag a9 λx0 hz=>λf t xs J c W=>?_;injection(YZ J)with e1 e2;rw[xv f (z3 f (.inr ⟨x0,hz,(kD e1).symm⟩))];exact z.ff x0 hz f t xs J c W
 ·intro f x7;rw[xv f (z6 f x7)];exact z.fk f x7
end
theorem Zj3{K}{H:HM}{hx}(D:(HP.bs hx).Nodup):∀{l},(l.map (·.1)).Nodup->(∀p∈l,∃h,H p.1=some h/\Wg K p.1 p.2 h/\∀x∈h,x∈hx)->(∀p∈l,∀q∈l,p.1≠q.1->∀h h',H p.1=some h->H q.1=some h'->∀x∈h,x∉h')->(∀p∈l,∀h,H p.1=some h->(HP.bs h).Nodup)->∃b rest,hx.Perm (b++rest)/\ZH K l b/\∀x∈b,∃p∈l,∃h,H p.1=some h/\x∈h:=by intro l;induction l with|nil=>exactλ_ _ _ _=>⟨[],hx,V8 _,trivial,Zb⟩|cons p l L=>
  intro j o r s;rw[XF,T9]at j;obtain⟨b,rest,e,G,t⟩:=L j.2 (λq a=>o q (XG _ a)) (λq a P E=>r q (XG _ a) P (XG _ E)) λq a=>s q (XG _ a);obtain⟨h,i,B,I⟩:=o p XP;have F:∀x∈h,x∈rest:=by
   intro x g;rcases Z1 (e.mem_iff.1 (I x g))with h'|h';·obtain⟨q,a,C,A,J⟩:=t x h';exact absurd J (r p XP q (XG _ a) (λc=>j.1 (by rw[c];exact VC (f:=(·.1)) a)) h C i A x g)
   ·exact h'
  obtain⟨d,m,k,N,O⟩:=ez h rest;have u:(HP.bs (b++(d++m))).Nodup:=by have:((b++(d++m)).map λx:Nat×Nat×Obj=>x.1).Nodup:=((e.trans (VA b k)).map λx:Nat×Nat×Obj=>x.1).nodup_iff.1 D;exact this
  have M:(HP.bs d).Nodup:=by rw[HP.XL,HP.XL,TM,TM]at u;exact u.2.1.1
  have v:d.Perm h:=(List.perm_ext_iff_of_nodup (List.Pairwise.of_map _ (λ_ _ h c=>h (X7 _ c)) M) (List.Pairwise.of_map _ (λ_ _ h c=>h (X7 _ c)) (s p XP h i))).2 λx=>⟨λh'=>(N x h').1,λh'=>O x (F x h') h'⟩;refine⟨h++b,m,?_,⟨h,b,V8 _,B,G⟩,?_⟩;·classical rw[VS]at e k v⊢;intro n;have w:=e n;have y:=k n;have z:=v n;simp only[VR]at w y z⊢;omega
  ·intro x g;rcases Z1 g with h'|h';·exact⟨p,XP,h,i,h'⟩
   ·obtain⟨q,a,Q⟩:=t x h';exact⟨q,XG _ a,Q⟩
section
variable{R:Type}{Z:Xq}{e:En}{b:Bx}{n:Nat}{k:Wc->Option R}{r:R}
theorem Zip{w}{v v1}{G}{xs}{r0}{a}{x}{L c2 c}{R1 R2 R3 Q2 Q3}{q l2}{V}{u}(zz:UG Z w)(ab:∀g tv,Rs Z.gl g=some tv->tv.t.nh=true)(hu:w.u=true)(T1:TS {g:=b,n:=n} L R1 [])(S1:Dp {g:=b,n:=n} L)(y8:VU v1.t v.t)(M1:Jp v G {g:=b,n:=n} v1 L R1)(S2:Ua L c2 R2 Q2)(y9:VU w.A v1.t)(M2:vk w.A v1 G L a c2 R2 Q2)(S3:Ua c2 c R3 Q3)(M3:vj w.B c2 x c R3 Q3)(hC:w.C.nh=true)(hm:w.m a x=some r0)(hq:JD b G.flatten=some q)(ag:c.p=false)(a0:G.flatten=[]\/Ut w.C=true)(hj:∀j∈G.flatten,ZF c.r j=none)(h2:Ms w.C (w.dec r0).1 c.n []=(u,V,l2)):n<=V/\BY Z e n xs w.f v G ⟨one u,q++(c.q++c.r),[],l2,V⟩:=by
 obtain⟨bl,b6,y0,b3,z3⟩:=Zcs h2 hC;have b8:c.n=L.n:=by rw[S3.n,S2.n]
 have bo:n<=L.n:=S1.n;have er:c.r=R3++(R2++R1):=by have S:L.r=R1++[]:=T1.r;rw[S3.r,S2.r,S,Xp]
 have eq:c.q=Q3++(Q2++[]):=by have S:L.q=[]++[]:=T1.q;rw[S3.q,S2.q,S];rfl
 refine⟨Y,λK H y hx ac C o cs vs hv hA=>?_⟩;have bi:V<=500:=o.lt;have U:∀p∈c.r,p∈q++(c.q++c.r):=λp F=>by simp[F]
 obtain⟨X,P,W,sR,b4⟩:=Zj3 (H:=H) (K:=K) (hx:=hx) o.gd.right.nodup (by rw[er];exact((T1.trans S2.ts).trans S3.ts).nd) λp F=>by obtain⟨h,N,E,_⟩:=o.rd p (U p F);exact⟨h,N,E,o.rx p (U p F) Zb h N⟩
  (λp ad q' al a9 h h' S e2=>o.dj p (U p ad) q' (U q' al) a9 h h' S e2) λp F h S=>o.ndd p (U p F) h S;have y2:(y++hx).Perm (X++(y++P)):=by classical rw[VS]at W⊢;intro Q;have:=W Q;simp only[VR]at this⊢;omega
 obtain⟨I,x4,x5,x7,x6,D⟩:=ZcO (B:=w.B) T1 S1 M1 S2 M2 S3 M3 (o.gd.perm y2) hA (by rw[<-er];exact sR) (λp F=>by obtain⟨h,_,E,_⟩:=o.rd p (Yd (.inr (Yd (.inl (by rw[eq];exact F)))));exact⟨h,E⟩) (by rw[<-er];exact o.ZjH.sub U) λA h1 h2=>o.fr A h1 (by show A<V;omega);obtain⟨yl,yf⟩:=D.p ag;obtain⟨d,i,x0,bf,z1,z2,be⟩:∃d i,P.Perm (d++i)/\(∀x∈d,x∈P)/\(∀j∈G.flatten,∃h,H j=some h/\∀x∈h,x∈d)/\(G.flatten=[]->d=[])/\True:=by
  by_cases y3:G.flatten=[];·exact⟨[],P,V8 _,Zb,by rw[y3];simp,λ_=>rfl,trivial⟩
  ·obtain⟨d,b7,p1,p2,p3⟩:=ez (P.filter λx=>@decide (∃j∈G.flatten,∃h,H j=some h/\x∈h) (Classical.propDecidable _)) P;refine⟨d,b7,p1,λx i=>(p2 x i).2,λj x1=>?_,λe=>absurd e y3,trivial⟩;obtain⟨_,zs⟩:=Fb hq;obtain⟨uv,_,a8⟩:=zs j x1;have x8:(j,uv)∈q++(c.q++c.r):=Yd (.inl a8);obtain⟨h,N,_,_⟩:=o.rd (j,uv) x8;have y6:∀x∈h,x∈P:=λx i=>by
    rcases Z1 (W.mem_iff.1 ((o.rx (j,uv) x8 Zb h N) x i))with h'|h';·obtain⟨p,F,z0,e2,b2⟩:=b4 x h';exact absurd b2 (o.dj (j,uv) x8 p (U p F) (λe3=>lg (hj j x1) p F e3.symm) h z0 N e2 x i)
    ·exact h'
   exact⟨h,N,λx i=>p3 x (y6 x i) (List.mem_filter.2 ⟨y6 x i,@RN _ (Classical.propDecidable _) ⟨j,x1,h,N,i⟩⟩)⟩
 obtain⟨g3,f3⟩:=D.gst (y++P) (o.gd.perm y2);have q1:(x4++x5++(x7++x6)++(y++P)).Perm (d++(x4++x5++(x7++(x6++(y++i))))):=by classical rw[VS]at x0⊢;intro Q;have:=x0 Q;simp only[VR]at this⊢;omega
 have g4:=g3.perm q1;have x3:I.le (I.OM d C):=je g4;have a5:vA H G.flatten (I.OM d C):=λj x1=>by obtain⟨h,N,hs⟩:=z1 j x1;exact⟨h,N,λx i=>Zbz g4 x (hs x i)⟩
 have a4:O7 Z ((I.OM d C).WO c.s):=λg tv eg=>by obtain⟨ds,av,z6⟩:=o.gl g tv eg;exact⟨ds,HS (ab g tv eg) (Xl (D.le.trans x3) av),z6.mono (D.le.trans x3).m⟩
 refine(zz.2 a x r0 hm ((I.OM d C).WO c.s) x4 x5 (x7++(x6++(y++i))) cs vs C (jd g4) a4 (y9.V7 _ _ (y8.V7 _ _ hv)) (D.arg.rel x3 a5) (D.box.mono (KK.Ia x3 λ_ _ h=>h)) D.fb).mono ?_;rintro en w'⟨rv,rfl,J,T,bd,x9⟩;refine⟨rv,rfl,?_⟩;obtain⟨gc,yx,ec⟩:=x9.only hu;obtain⟨xk,rs,ev,b1,y7⟩:=x9.res;have q2:(y++hx).Perm (d++(X++(y++i))):=by classical rw[VS]at W x0⊢;intro Q;have a1:=W Q;have a2:=x0 Q;simp only[VR]at a1 a2⊢;omega
 have g5:=o.gd.perm q2;have yy:GD (zM K.m d C) (X++(y++i)) C:=jd (K:=K) g5;have ys:(I.OM d C).m=zM K.m d C:=by show zM I.m d C=_;rw[yl]
 obtain⟨g6,f6⟩:=GD.frame (h1:=[]) (by simpa using yy) gc (by rw[<-ys];exact yx);obtain⟨gb,fb⟩:=an (K:=K) g5 g6 (by
  have yv:ZG C w' (zM K.m d C) J.m (HP.bs (X++(y++i))) (HP.bs (T++(X++(y++i)))):=by simpa using f6
  exact yv);obtain⟨z,M⟩:∃z:KK,z=⟨I.nm,I.fm,vV K.m J.m d⟩:=⟨_,rfl⟩;have yt:(z.WO c.s).nm=J.nm:=by rw[x9.nm,M];rfl
 have xv:(z.WO c.s).fm=J.fm:=by rw[M,ec];rfl
 have zv:∀l∈HP.bs T,l∉HP.bs d:=λl E zc=>by have:=gb.nodup;rw[HP.XL,TM]at this;exact this.2.2 l zc l (by rw[HP.XL];exact Yd (.inl E)) rfl
 have y4:∀l,l∉HP.bs d->∀O,(z.WO c.s).m l O=J.m l O:=λl E O=>by rw[M];show(if l∈HP.bs d then K.m l O else J.m l O)=_;rw[Yg E]
 have b0:rel z w.C T xk (w.dec r0).1:=by
  refine qX (s:=c.s) hC ?_;rcases a0 with h|h
  ·have e0:z.WO c.s=J:=by
    have h1:(z.WO c.s).m=J.m:=by funext l O;exact y4 l (by rw[z2 h];simp[HP.bs]) O
    cases hK:z.WO c.s with|mk a1 a2 a3=>rw[hK]at yt xv h1;cases J;simp_all
   rw[e0];exact y7
  ·exact gS xv h (λl E O=>y4 l (zv l E) O) y7
 obtain⟨K6,x2,z4,z5⟩:=z3 z T xk rs b1 b0 λA h1 h2=>by rw[M];show I.nm A=none;rw[D.nm A Y];exact o.fr A Y h2
 have b5:K.le z:=by rw[M];exact⟨D.le.nm,D.le.fm,fb.le⟩
 obtain⟨ro,rl⟩:=Zcp (H:=H) z4;have y5:(d++(T++(X++(y++i)))).Perm (T++hx++y):=by classical rw[VS]at W x0⊢;intro Q;have a1:=W Q;have a2:=x0 Q;simp only[VR]at a1 a2⊢;omega
 have y1:K6.m=z.m:=x2.m;refine⟨K6,T,⟨by rw[y1,M];exact(gb.perm y5).left,?_,⟨b5.trans x2.le,λA hi=>?_⟩,by rw[ev];exact ro,by rw[y0,Xp];exact z5,?_,?_⟩⟩;·rw[y1,M];refine(ZG.RB q2 (ZG.QI y5 fb)).sub λl E=>?_;rw[HP.XL];exact Yd (.inl E)
 ·have bh:¬(n<=A/\A<V):=hi;rw[x2.nm A Y,M];exact D.nm A Y
 ·intro f t xs a6 A hi;have a7:(Yj f,(⟨.YL f t,xs⟩:TV))∈b6:=by have:(Yj f,(⟨.YL f t,xs⟩:TV))∈l2:=a6;rwa[y0,Xp]at this
  have h1:c.n<=1000+f/\1000+f<V:=b3 _ a7;omega
 ·intro f _;rw[x2.fm,M];exact congrFun yf f
end
section
variable{R:Type}{Z:Xq}{e:En}{b:Bx}{n:Nat}{k:Wc->Option R}{r:R}
theorem Zim{a}{v}{o}{xs}(P:UG Z a)(T:∀g tv,Rs Z.gl g=some tv->tv.t.nh=true)(h:lC b n k a v o=some r):∃f,k f=some r/\Loc b n f/\(∀j∈o.flatten,∃u,(j,u)∈f.rd)/\BY Z e n xs a.f v o f:=by
 unfold lC at h;obtain⟨v1,c1,R1,h,w,H,I,E⟩:=Zh9 h;obtain⟨x4,c2,R2,Q2,h,s,J,F⟩:=ZiE h;obtain⟨x3,d,R3,Q3,h,t,G⟩:=ax h;obtain⟨hc,h9⟩:=Yk h;clear h;simp only[Yv]at hc;obtain⟨M,hD,hB,x2⟩:=hc;obtain⟨D,m,B⟩:=U3 h9;clear h9;split at B;·cases B
 ·rename_i q C;obtain⟨hl,c⟩:=Yk B;clear B;obtain⟨U,V⟩:=Fb C;have K:=(w.trans s.ts).trans t.ts;have er:d.r=R3++(R2++R1):=by rw[t.r,s.r,w.r,Xp]
  have eq:d.q=Q3++(Q2++[]):=by rw[t.q,s.q,w.q];rfl
  have S:∀p∈d.r,ZF b p.1=some p.2:=λp i=>K.mr p (by rw[<-er];exact i);have Q:∀p∈d.q,ZF b p.1=some p.2:=λp i=>K.mq p (by rw[<-eq];exact i);have x1:(d.r.map (·.1)).Nodup:=by rw[er];exact K.nd
  have x0:o.flatten=[]\/(Ut a.C=true/\Ut (Tw (bif a.u&&d.p then a.B else a.D))=true)/\∀j∈o.flatten,ZF d.r j=none:=by
   rw[Gx]at hl;rcases hl with h|h;·exact .inl (wF h)
   ·simp only[Yv,RK]at h;exact .inr ⟨h.1,λj l=>Option.isNone_iff_eq_none.1 (h.2 j l).1⟩
  have l:∀j∈o.flatten,ZF d.r j=none:=by
   rcases x0 with h|h;·rw[h];simp
   ·exact h.2
  have x:o.flatten=[]\/Ut a.C=true/\Ut (Tw (bif a.u&&d.p then a.B else a.D))=true:=x0.imp id λh=>h.1;cases A:a.u with
  |true=>rw[A]at c x;dsimp only[cond_true]at c;cases i:d.p with|true=>rw[i]at c x;dsimp only[cond_true]at c;rcases h1:J8 d.s d.f a.B x3 d.n d.l with⟨n1,X⟩;rw[h1]at c;dsimp only at c;rcases h2:Ms a.C (a.dec D).1 n1 X with⟨u,n2,l2⟩;rw[h2]at c;dsimp only at c;obtain⟨l',L,N,O⟩:=mX c;obtain⟨z,y⟩:=aC (xs:=xs) (e:=e) P T w H I E s J F t G M hB x2 m C x l h1 h2 N O λW hg hs hf=>⟨_,W.Zh2 A hg hs hf⟩;exact⟨_,L,⟨z,S,λp i=>(Z1 i).elim (U p) (Q p),x1⟩,λj l=>let⟨u,_,m⟩:=V j l;⟨u,Yd (.inl m)⟩,y⟩|false=>rw[i]at c;dsimp only[cond_false]at c;rcases h2:Ms a.C (a.dec D).1 d.n []with⟨u,n2,l2⟩;rw[h2]at c;dsimp only at c;obtain⟨z,y⟩:=Zip (xs:=xs) (e:=e) P T A w H I E s J F t G M m C i (x.imp id λh=>h.1) l h2;exact⟨_,c,⟨z,Zb,λp i=>(Z1 i).elim (U p) λi=>(Z1 i).elim (Q p) (S p),Zb⟩,λj l=>let⟨u,_,m⟩:=V j l;⟨u,Yd (.inl m)⟩,y⟩
  |false=>rw[A]at c x;dsimp only[cond_false]at c;rcases h1:J8 d.s d.f a.D (a.dec D).2 d.n d.l with⟨n1,X⟩;rw[h1]at c;dsimp only at c;rcases h2:Ms a.C (a.dec D).1 n1 X with⟨u,n2,l2⟩;rw[h2]at c;dsimp only at c;obtain⟨l',L,N,O⟩:=mX c;obtain⟨z,y⟩:=aC (xs:=xs) (e:=e) P T w H I E s J F t G M hD x2 m C x l h1 h2 N O λW _ _ _=>⟨_,W.Zh1 A⟩;exact⟨_,L,⟨z,S,λp i=>(Z1 i).elim (U p) (Q p),x1⟩,λj l=>let⟨u,_,m⟩:=V j l;⟨u,Yd (.inl m)⟩,y⟩
end
theorem ai{R}{r:R}{b}{e}:∀{xs:List Operand}{k},vQ b (xs.map (ZW e)) k=some r->∃v f,k v f=some r/\f.length=Lk v.t/\∀(K)(H)(a:Act)(hs)(w)(g),GD K.m hs w->(∀x∈xs,YU K H (ZW e x) (a.eval x))->(∀j∈f.flatten,∃u h,ZF b j=some u/\H j=some h/\Wg K j u h/\∀x∈h,x∈hs)->(∀j∈f.flatten,j∈g)->∃cs,V7 v.t cs (xs.map a.eval)/\Qp (vA H g) K v.t v.x f cs
 |[],k,h=>⟨_,_,h,rfl,λK H a hs w g n _ _ _=>⟨[],⟨rfl,rfl⟩,rfl⟩⟩|x::xs,k,h=>by
  obtain⟨O,j,m,I⟩:=Zbx h;obtain⟨v,f,C,E,J⟩:=ai m;refine⟨_,_,C,by rw[WA,E];rfl,λK H a hs w g n t p o=>?_⟩;have q:∀c∈j,c∈(j::f).flatten:=λc d=>by rw[LC];exact Yd (.inl d)
  have s:∀c∈f.flatten,c∈(j::f).flatten:=λc d=>Zm;obtain⟨i,B,z,y⟩:=I K H (a.eval x) hs w n (t x XP) λc d=>p c (q c d);obtain⟨l,L,G⟩:=J K H a hs w g n (λM F=>t M (XG _ F)) (λc d=>p c (s c d)) λc d=>o c (s c d);refine⟨i++l,⟨i,l,_,_,rfl,rfl,z,B,L⟩,i,l,rfl,z,?_,G⟩;cases j with|nil=>exact y K (KK.le.refl _) Zb|cons N j=>exactλA m D=>y A m λc d=>D c (o c (q c d))
theorem ZhQ{c}{K}:∀{d}{y}{cs vs},V7 d cs vs->rel K d [] cs y->Qp c K d y [] cs:=by intro d;induction d with|cons m n _ k=>rintro y cs vs⟨e,f,v,s,rfl,rfl,a,rfl,j⟩⟨q,r,o,p,g,h,b,l⟩;obtain⟨rfl,rfl⟩:=Oj g.symm;have⟨rfl,rfl⟩:=NK h (by rw[a,WH b]);exact⟨e,f,rfl,a,b,k j l⟩|nl=>rintro y cs vs⟨rfl,_⟩_;rfl|_=>intro y cs vs i;exact i.elim
theorem ZhL {d}{K}{v}{g}{cs vs}(hv:V7 v.t cs vs)(l:Qp d K v.t v.x g cs):∀{a} {x} {b as},V7 a b as->rel K a [] b x->
  V7 (IS a x v).t (b++cs) (as++vs)/\Qp d K (IS a x v).t (IS a x v).x (List.replicate (Lk a) []++g) (b++cs):=by
 intro a
 induction a with
 |cons a r _ n=>
  rintro x b as ⟨e,f,z,A,rfl,rfl,c,rfl,m⟩ ⟨w,y,s,u,j,k,i,q⟩
  obtain⟨rfl,rfl⟩:=Oj j.symm
  have⟨rfl,rfl⟩:=NK k (by rw[c,WH i])
  have⟨o,p⟩:=n m q
  refine⟨⟨e,f++cs,_,_,Zb,rfl,c,rfl,o⟩,e,f++cs,Zb,c,i,p⟩
 |nl=>
  rintro x b as ⟨rfl,rfl⟩ _
  exact⟨hv,l⟩
 |_=>intro x b as h;exact h.elim
theorem ZhK{e}{K}{d}{y}{b j}(hv:V7 d b j)(l:rel K d [] b y):∀{t}{x}{a}{cs vs},a.length=Lk t->V7 t cs vs->Qp e K t x a cs->V7 (IS t x ⟨d,y⟩).t (cs++b) (vs++j)/\Qp e K (IS t x ⟨d,y⟩).t (IS t x ⟨d,y⟩).x a (cs++b):=by intro t;induction t with
 |cons s u _ n=>rintro x a cs vs c⟨f,g,B,C,rfl,rfl,i,rfl,m⟩⟨v,w,k,z,o,p⟩;have⟨rfl,rfl⟩:=NK k Y;cases a with|nil=>cases c|cons A a=>have⟨q,r⟩:=n (by simpa[Lk]using c) m p;exact⟨⟨f,g++b,_,_,Zb,rfl,i,rfl,q⟩,f,g++b,Zb,i,o,r⟩
 |nl=>rintro x a cs vs c⟨rfl,rfl⟩_;have:=MR c;subst this;exact⟨hv,ZhQ hv l⟩|_=>intro x a cs vs _ h;exact h.elim
theorem Ze4 {P}{f}(h:Q7 P f=true){ρ}{g}{as bs}(d:ρ g= .func (.func f) as.toArray bs.toArray){c}(b:c.callee= .value g)(w)(od)(ty)(pos)(aft)(a):
  (execOp ρ ⟨od,.call c,ty,pos,aft,a⟩).run P w= .ok (.enter f (as++(c.args.toList.map ρ++bs)).toArray) w:=by
 simp[execOp,resolve,b,Ym,d,Deferred.ofValue,Y5,YJ,invoke]
 rw[fH h]
 simp_all
section
variable{R:Type}{Z:Xq}{e:En}{b:Bx}{n:Nat}{k:Wc->Option R}{r:R}{d:Option Tmp}{ty:TypeId}{pos:String}{aft:Array Edge}{g:Option (Nat×Bool)}
theorem IY{v}{i}{f}{xs}(p:∀g q,Rs Z.gl g=some q->q.t.nh=true):∀{l},(∀m∈l,UG Z m)->Ka b n k f v i l=some r->∃a,k a=some r/\Loc b n a/\(∀j∈i.flatten,∃u,(j,u)∈a.rd)/\Q7 Z.P f=true/\BY Z e n xs f v i a|[],_,h=>by cases h|m::l,y,h=>by unfold Ka at h;cases c:(Nat.beq _ f&&FE _ _)with|true=>rw[c]at h;rw[Yv]at c;have a:=Xu c.1;obtain⟨s,t,w,x,o⟩:=Zim Zm p h;rw[a]at o;exact⟨s,t,w,x,by rw[<-a];exact(y _ XP).1,o⟩|false=>rw[c]at h;exact IY p Zm h
theorem ZeC{K}{f}{u}{cs}{x}(h:rel K (.YM f u) [] cs x)(e:x=none):rel K .V4 [] cs ():=by
 obtain⟨c,⟨-,a⟩|⟨i,v,a,-⟩⟩:=h;·exact⟨c,a⟩
 ·grind
theorem cA{c}{K}{f}{u B}{x}{j}{cs}(h:Qp c K (.cons (.YM f u) B) x j cs)(e:x.1=none):Qp c K (.cons .V4 B) ((),x.2) j cs:=by have⟨l,m,o,p,a,q⟩:=h;refine⟨l,m,o,p,?_,q⟩;cases i:Lj _ with|true=>rw[i]at a;exactλs t v=>ZeC Zm e|false=>rw[i]at a;exact ZeC a e
theorem Zin{v}{B}{f}{xs}(i:∀g F,Rs Z.gl g=some F->F.t.nh=true){l}(c:∀K∈l,UG Z K)(h:uc b n k f v B l=some r):∃a,k a=some r/\Loc b n a/\(∀j∈B.flatten,∃u,(j,u)∈a.rd)/\Q7 Z.P f=true/\BY Z e n xs f v B a:=by
 unfold uc at h;split at h;·rename_i g u G D;cases m:tz f _ l with|false=>rw[m]at h;exact IY i c h|true=>rw[m,KJ]at h;cases hx:D.1with|some N=>rw[hx]at h;exact IY i c h|none=>rw[hx]at h;obtain⟨a,q,s,t,w,x⟩:=IY i c h;exact⟨a,q,s,t,w,λp o M A E C y J T z L=>x p o _ A E C y _ _ z (cA L hx)⟩
 ·rename_i E g u G D _;cases m:tz f _ l with|false=>rw[m]at h;exact IY i c h|true=>rw[m,KJ]at h;cases hx:D.2.1with|some N=>rw[hx]at h;exact IY i c h|none=>rw[hx]at h;obtain⟨a,q,s,t,w,x⟩:=IY i c h;refine⟨a,q,s,t,w,λp o M A ac C y J T z⟨H,I,O,P,Q,S⟩=>x p o _ A _ C y _ _ z ⟨H,I,O,P,Q,cA S hx⟩⟩
 ·exact IY i c h
theorem Zio {c}{s}{f}{a c'}{x}(x0:∀K∈Z.tb,UG Z K)(V:∀g B,Rs Z.gl g=some B->B.t.nh=true)(m:c.callee= .value s)(T:ZW e s= .v ⟨.fn f a c',x⟩)
  (h:(vQ b (c.args.toList.map (ZW e)) λv j=>uc b n k f (Nq.vO ⟨a,x.1⟩ (Nq.vO v ⟨c',x.2⟩)) (List.replicate (Lk a) []++j) Z.tb)=some r):W4 Z ⟨d,.call c,ty,pos,aft,g⟩ e b n k r:=by
 obtain⟨v,j,L,U,P⟩:=ai h
 have I:(List.replicate (Lk a) []++j).flatten=j.flatten:=by
  simp
 obtain⟨G,M,u,W,S,O⟩:=Zin (e:=e) V x0 L
 refine⟨G,M,u,(λq p w z ac C i=>?_)⟩
 have ma:∀l∈c.args.toList,l∈(Op.call c).operands.toList:=λl o=>by simp[Op.operands,Call.operands,m];exact .inr (by simpa using o)
 obtain⟨x3,⟨_,as,bs,x2,F,⟨ca,va,ra⟩,vb,rb⟩,J⟩:=i.v T (by simp[Op.operands,Call.operands,m])
 obtain⟨cs,hv,N⟩:=P q p ac (w++z) C j.flatten i.gd (λl o=>i.op l (ma l o)) (λA t=>by
  obtain⟨x1,y⟩:=W A Zm
  obtain⟨h,H,Q,X⟩:=i.rd _ y
  exact⟨x1,h,u.rd _ y,H,Q,X⟩) (λA t=>t)
 obtain⟨v2,D⟩:=ZhK vb rb U hv N
 obtain⟨v3,E⟩:=ZhL v2 D va ra
 rw[Ze4 S (by rw[J,F];rfl) m]
 exact(O q p w z ac C i _ _ v3 (by rw[I];exact E))
end
end Go.R
