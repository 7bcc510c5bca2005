import Derived.Test.YtnboodbndkcnaaaGreatDoorG4
set_option linter.all false
namespace Go.Sl
def T6:=@List.set_set
def Rm:=@List.getD_eq_getElem?_getD
def Qt:=@Int.eq_ofNat_of_zero_le
def NS:=@List.take_add_one
def MH:=@Int.natCast_nonneg
def LY:=@decide_eq_false
def Ir:=@List.take_length
def Ez:=@Nat.mod_lt
def yw:=@List.mem_of_mem_take
def tW:=@BitVec.eq_of_getLsbD_eq
def su:=@List.getElem?_set_self
def sC:=@List.mem_of_mem_drop
def sE:=@List.sum_cons
def sK:=@Nat.mul_comm
def kX:=@BitVec.le_refl
def kZ:=@BitVec.toNat_umod
def jz:=@of_decide_eq_false
def Za5:=@BitVec.le_trans
def Za6:=λ{a b}=>(@BitVec.le_zero_iff a b).1
def Za9:=λ{a b}=>(@Classical.not_forall a b).1
def Zbb:=@Int.lt_or_eq_of_le
def Zbf:=@List.drop_zero
def Zbm:=@List.sum_append
def ZkA:=@Decidable.byContradiction
def ZkB:=@List.dropLast_concat_getLast
def ZkG:=@Nat.exists_eq_add_of_le
def ZkH:=@Vector.getElem?_toList
end Go.Sl
namespace Go.R
open Go.Sl
variable {A o:Int}{B z c J e:Nat}{d g:Zt}{C H:ZN}{a k b:ZO 32}{i:ZP}{p:Rf}{j h:Type}{D:Yb}{l:VB}{s:W0}{f:L ZN}{x:Uw}{y P:j}{E:L Zt}{F:Bool}{G:ZO 8}{I:SQ}{K:L j}{M:Zg j}{N:h->Prop}{Q:L V8}{R:ZO 64}{S:OH}
def fA:W (Ad A) λr=>r.length=4:=by unfold Ad;simp only[Wx];simp
theorem ZmX{v}(f:d.length<=100000)(hv:v.2.2.2.2.length<=100000):W (ql d v) λr=>r.length<=200000000:=by unfold ql;simp only[Wx];refine fA.mono λa c=>fA.mono λb e=>⟨Zc,Zc,xf Zc ?_⟩;grind
def yQ{l}{v}(a:l.length<=100000)(hv:v.2.2.2.2.length<=100000):W (IU l v) λ_=>True:=by unfold IU;simp[Wx];exact(ZmX a hv).mono λc b=>(L5 Y).mono λ_ _=>trivial
def ZeZ:W (Db d) λr=>r=true->1<=d.length/\d.length<=32:=by unfold Db;simp[Wx];omega
theorem rA{c}(w:c.length<4000000000):W (IV d c) λr=>r=true->1<=d.length/\d.length<=32/\1<=c.length/\c.length<2147483648/\∀v∈c,v.2.2.2.2.length<=64:=by
 unfold IV;refine W.Zs _ ZeZ λb l=>W.Zs (λf=>f=false->b=true/\c.length≠0) ?_ λf o=>Zr ⟨λ_=>Zb Zc,λg=>WM (rT (λa=>0<=a.2.1/\a.2.1<=c.length/\a.2.1<=a.1/\a.1<2147483648/\∀v∈c.take a.2.1.toNat,v.2.2.2.2.length<=64) (λa=>(c.length-a.2.1).toNat) Zc ZB λa⟨p,q,s,t,e⟩=>?_)⟩;·simp only[Wx];cases b<;>simp
 ·simp only[Wx];obtain⟨i,u⟩:=o g;obtain⟨j,k⟩:=l i;refine⟨λh=>⟨Y,λv n x=>?_⟩,λh=>?_⟩;·refine(yQ Y Y).mono λ_ _=>?_;rw[ZK Y];obtain⟨m,rfl⟩:=X8 n;rw[show(a.2.1+1).toNat=a.2.1.toNat+1by omega,ML m];grind
  ·rw[show a.2.1.toNat=c.length by omega,Ir]at e;exact⟨j,k,Y,Y,e⟩
theorem ii{h}{l}{n}(c:l.length<=100000):W (xy h l n) λ_=>True:=by unfold xy;simp only[Wx];exact⟨Zc,fA.mono λa b=>(BL Zc Zp).mono λ_ _=>trivial⟩
def jX(a:d.length<=100000):W (Ac d) λ_=>True:=by unfold Ac;simp[Wx];exact(BL Zc Zp).mono λ_ _=>trivial
theorem Zk2{v}{c}(n:c.length<4000000000):W (Ab C d c A v) λr=>r.2=0->0<r.1.length/\r.1.length<=c.length+1:=by unfold Ab;simp only[Wx];refine ZeZ.mono λh a=>⟨Zc,λj=>?_⟩;have:=a Zp;have e:=@ii C d (Zm (c.length+1)) Y;refine⟨Y,λk=>?_,Zp⟩;rw[ZK Y];refine⟨Y,λg f=>(rA Y).mono λi b=>⟨Zc,λl=>?_⟩⟩;have m:=(b Zp).2.2.2.2 g (X2 f);exact(yQ Y Y).mono λ_ _=>e.mono λ_ _=>⟨Y,XV,Zc⟩
def bit(k:ZN)(i:Nat):Bool:=(k.toList.getD (i/8) 0#8).getLsbD (7-i%8)
theorem iL(h:∀i,i<256->bit C i=bit H i):C=H:=by apply Vector.ext;intro i b;apply tW;intro a c;have:=h (8*i+(7-a)) Y;unfold bit at this;grind
theorem Zqy(x)(k r)(c:k<=8)(d:r<8):(x&&&~~~(255#8>>>k)).getLsbD (7-r)=(decide (r<k)&&x.getLsbD (7-r)):=by
 have b:∀a,(255#8).getLsbD a=decide _:=λa=>by rw[show 255#8=BitVec.allOnes 8from rfl,BitVec.getLsbD_allOnes]
 grind
theorem Zda{v}(hi:B<32):bit (v.setIfInBounds B G) z=if z/8=B then G.getLsbD (7-z%8)else bit v z:=by unfold bit;rw[Vector.toList_setIfInBounds,Rm,sq];grind
def Bw(k:ZN)(n:Int)(r:Uw):Prop:=r.1=min (max n 0) 256/\∀a:Nat,a<256->bit r.2 a=(decide ((a:Int)<r.1)&&bit k a)
theorem rm:W (D7 C A) (Bw C A):=by
 unfold D7;refine W.Zs (λb=>∀a:Nat,a<256->bit b.2 a=(decide ((a:Int)<min (max A 0) 256)&&bit C a)) (L8 (λb=>0<=b.1/\b.1<=32/\∀a:Nat,a<256->bit b.2 a=if(a:Int)/8<b.1then(decide ((a:Int)<min (max A 0) 256)&&bit C a)else bit C a) (λb=>(32-b.1).toNat) ⟨Zc,Zc,λa c=>by rw[Ys ZB]⟩ Zc λb e=>?_) λb e=>Zb ⟨by simp only[Wx],by simp only[Wx];exact e⟩
 ·obtain⟨p,q,d⟩:=e;refine Zr ⟨λf=>?_,λf=>?_⟩<;>simp only[Wx]at f
  ·have k:Zm (ZX (Tx (V3 A 0) 256) (Zm (VI 8 b.1)))=min (max A 0) 256-8*b.1:=by simp only[Wx];rw[ZK (n:=8*b.1) Y,ZK Y]
   rw[k];refine W.Zs (λv=>∀a:Nat,a<256->bit v a=if(a:Int)/8<b.1+1then(decide ((a:Int)<min (max A 0) 256)&&bit C a)else bit C a) ?_ λv n=>Zb ?_
   ·simp only[Wx];refine⟨λl=>⟨Y,Y,λj o=>⟨Y,⟨Y,Y⟩,λa c=>?_⟩⟩,λl a c=>?_⟩
    ·show bit (b.2.setIfInBounds b.1.toNat _) a=_;rw[Zda Y];by_cases i:a/8=b.1.toNat
     ·rw[Y4 i,Y4 Y];show(j&&&~~~(255#8>>>_)).getLsbD _=_;have m:j.getLsbD (7-a%8)=bit C a:=by have:=d a c;rw[Ys Y]at this;rw[<-this];unfold bit;rw[Rm,i,ZkH,o];rfl
      rw[Zqy _ _ _ Y Y,m];congr 1;exact decide_eq_decide.2 Y
     ·grind
    ·rw[d a c];by_cases g:(a:Int)/8<b.1;·rw[Y4 g,Y4 Y]
     ·rw[Ys g];by_cases h:(a:Int)/8<b.1+1;·rw[Y4 h,PB Y,tZ]
      ·rw[Ys h]
   ·simp only[Wx];rw[ZK Y];exact⟨⟨Y,Y,n⟩,Y⟩
  ·refine Zb λa c=>?_;rw[d a c,Y4 Y]
def Bw.eq{c}(h:Bw C A x)(h':Bw C A c):x=c:=Prod.ext (h.1.trans h'.1.symm) (iL λb a=>by rw[h.2 b a,h'.2 b a,h.1,h'.1])
def fm(p:Uw):Prop:=0<=p.1/\p.1<=256/\∀a:Nat,p.1<=a->a<256->bit p.2 a=false
def hd(p:Uw)(k:ZN):Prop:=fm p/\∀a:Nat,(a:Int)<p.1->bit p.2 a=bit k a
def wi(p q:Uw):Prop:=fm q/\p.1<=q.1/\hd p q.2
def ZeV(h:Bw C A x):fm x:=by refine⟨by have:=h.1;omega,by have:=h.1;omega,λb c a=>?_⟩;rw[h.2 b a,LY Y,k9]
def gH{p}(h:Bw C p.1 x)(f:0<=p.1)(h1:p.1<=256):x=p↔hd p C:=by
 have d:x.1=p.1:=by have:=h.1;omega
 constructor;·rintro rfl;exact⟨ZeV h,λa b=>by rw[h.2 a Y,PB b,tZ]⟩
 ·refineλe=>Prod.ext d (iL λa b=>?_);rw[h.2 a b,d];by_cases c:a<p.1;·rw[PB c,tZ,e.2 a c]
  ·rw[LY c,k9,e.1.2.2 a Y b]
def Zpy:hd x x.2↔fm x:=⟨λa=>a.1,λa=>⟨a,λ_ _=>rfl⟩⟩
def D5:W (JQ x) λb=>b=true↔fm x:=by unfold JQ;simp only[Wx];refine⟨λa=>rm.mono λd c=>by rw[gH c a.1 a.2,Zpy],λa=>by simp[fm];omega⟩
def Bv:W (Hu x C) λb=>b=true↔hd x C:=by
 unfold Hu;simp[Wx];refine D5.mono λb c=>⟨λa=>rm.mono λe d=>?_,λa=>?_⟩;·have:=c.1 a;rw[gH d this.1 this.2.1]
 ·subst a;simp at c;simp[hd,c]
def iz{q}:W (zl x q) λb=>b=true↔wi x q:=by unfold zl;simp only[Wx];refine D5.mono λb d=>⟨λa=>Bv.mono λc e=>by unfold wi;grind,λa=>?_⟩;·unfold wi;grind
theorem Bm:W (Ht C A) λr=>(r=0\/r=1)/\(0<=A->A<256->(r=1↔bit C A.toNat=true)):=by
 unfold Ht;simp only[Wx];refine⟨Zp,λe=>?_⟩;rw[GU Y,oH Y,ZK Y,ZK Y];refine⟨Zc,Y,Y,λa f=>⟨Zc,Y,?_⟩⟩;have c:bit C A.toNat=a.getLsbD (7-A.toNat%8):=by unfold bit;grind
 have d:(Re (VD a (7-A%8).toNat) 1#8).toNat=if a.getLsbD (7-A.toNat%8)then 1 else 0:=by rw[show(7-A%8).toNat=7-A.toNat%8by omega];have:∀b:ZO 8,(b&&&1#8).toNat=if b.getLsbD 0then 1 else 0:=YI;grind
 grind
def Pj(x:ZO 8):Nat:=if x.getLsbD 7then 8 else if x.getLsbD 6then 7 else if x.getLsbD 5then 6 else if x.getLsbD 4then 5 else if x.getLsbD 3then 4 else if x.getLsbD 2then 3 else if x.getLsbD 1then 2 else if x.getLsbD 0then 1 else 0
def Zqe:AO.length=256:=by decide+kernel
def Zfd(n)(h:n<256):AO[n]?=some (BitVec.ofNat 8 (Pj (BitVec.ofNat 8 n)))/\Pj (BitVec.ofNat 8 n)<=8/\(n≠0->1<=Pj (BitVec.ofNat 8 n)/\2^(Pj (BitVec.ofNat 8 n)-1)<=n):=by
 have a:∀n:Fin 256,AO[n.val]?=some (BitVec.ofNat 8 (Pj (BitVec.ofNat 8 n.val)))/\Pj (BitVec.ofNat 8 n.val)<=8/\(n.val≠0->1<=Pj (BitVec.ofNat 8 n.val)/\2^(Pj (BitVec.ofNat 8 n.val)-1)<=n.val):=by decide+kernel
 exact a ⟨n,h⟩
theorem Zqc(x):da x=some (Pj x:Int):=by have c:=x.isLt;obtain⟨a,b,-⟩:=Zfd _ Y;rw[tX,tY]at a b;apply Vp;refine Zn (YN ⟨⟨Zc,by have:=Zqe;simp only[Wx];omega⟩,λe d=>Zb (WX _ ?_)⟩);grind
def lz8(x)(hx:x≠0#8):∃r,r<8/\x.getLsbD (7-r)=true/\(∀j,j<r->x.getLsbD (7-j)=false)/\oo x=some (r:Int):=by
 have d:∀x:ZO 8,x≠0#8->Pj x<=8/\0<Pj x/\x.getLsbD (7-(8-Pj x))=true/\∀j:Fin 8,j.val<8-Pj x->x.getLsbD (7-j.val)=false:=by decide+kernel
 have⟨f,e,a,b⟩:=d x hx;refine⟨8-Pj x,Y,a,λj c=>b ⟨j,Y⟩ c,?_⟩;unfold oo;rw[be (Zqc x)];simp[Wx];rw[ZK Y];grind
def iM{y}(hx:C[B]?=some G)(b:H[B]?=some y){j}(a:j/8=B):(G^^^y).getLsbD (7-j%8)=true↔bit C j≠bit H j:=by unfold bit;simp_all
theorem ZlL:W (nI C H) λr=>0<=r/\r<=256/\(∀i:Nat,i<r->bit C i=bit H i)/\(r<256->bit C r.toNat≠bit H r.toNat):=by
 unfold nI;refine WM (rT (λa=>0<=a/\a<=32/\∀i:Nat,(i:Int)<8*a->bit C i=bit H i) (λa=>(32-a).toNat) ⟨Zc,Zc,λi d=>Y⟩ Zc λa⟨q,s,b⟩=>?_)
 ·simp only[Wx];refine⟨λk=>⟨Y,Y,λo e=>⟨Y,Y,λp f=>⟨λg=>?_,λg=>?_⟩⟩⟩,λk=>⟨Y,Y,λi d=>b i Y,Y⟩⟩
  ·obtain⟨r,v,u,m,h⟩:=lz8 (Tq o p) g;refine IJ h ?_;rw[ZK (n:=8*a) Y,ZK Y];refine⟨Y,Y,λi d=>?_,λ_=>?_⟩
   ·by_cases c:(i:Int)<8*a;·exact b i c
    ·have t:=m (i%8) Y;have l:=not_congr (iM e f (j:=i) Y);grind
   ·rw[show(8*a+(r:Int)).toNat=8*a.toNat+r by omega];refine(iM e f (j:=8*a.toNat+r) Y).1 ?_;grind
  ·rw[ZK Y];refine⟨⟨Y,Y,λi d=>?_⟩,Y⟩;by_cases c:(i:Int)<8*a;·exact b i c
   ·have l:=not_congr (iM e f (j:=i) Y);grind
theorem Zls{q}(a:fm x)(e:fm q):W (nH x q) λr=>wi r x/\wi r q/\(r.1<x.1->r.1<q.1->bit x.2 r.1.toNat≠bit q.2 r.1.toNat):=by
 unfold nH;simp[Wx];refine D5.mono λl h=>?_;have i:=h.2 a;subst i;refine⟨Zc,λ_=>D5.mono λm j=>?_⟩;have k:=j.2 e;subst k;simp;refine ZlL.mono λz⟨o,p,g,s⟩=>rm.mono λr b=>?_;have v:=a.1;have w:=a.2.1;have y:=e.1;have n:=by have:=b.1;omega
 have f:=ZeV b;refine⟨⟨a,Y,f,λc d=>by rw[b.2 c Y,PB d,tZ]⟩,⟨e,Y,f,λc d=>by rw[b.2 c Y,PB d];exact g c Y⟩,λt u=>Zp⟩
def Qr(p:Uw)(b:Bool)(q:Uw):Prop:=fm q/\p.1+1<=q.1/\(∀a:Nat,(a:Int)<p.1->bit p.2 a=bit q.2 a)/\bit q.2 p.1.toNat=b
def ZbY:W (vS x A) λr=>(r.2=true↔fm x/\x.1<256/\(A=0\/A=1))/\(r.2=true->∀q,wi r.1 q↔Qr x (decide (A=1)) q):=by
 unfold vS;simp only[Wx];refine D5.mono λw t=>⟨λj=>⟨λk=>(by cases k),λk=>?_⟩,λj=>?_⟩;·obtain⟨y,C,D⟩:=k;rw[t.2 y]at j;simp at j;omega
 obtain⟨⟨⟨k,E⟩,F⟩,G⟩:=j;have d:=t.1 (by cases w<;>simp_all);have v:=d.1;have H:=d.2.1;refine⟨λh=>?_,λh=>?_⟩
 ·rw[GU v,oH v,ZK (n:=x.1/8) Y,ZK Y];refine⟨Y,Y,Y,λp z=>⟨Y,Y,Y,?_⟩⟩;have l:∀a:Nat,a<256->bit (YJ x.2 (x.1/8).toNat (OS p (VD 128#8 (x.1%8).toNat))) a=(bit x.2 a||decide ((a:Int)=x.1)):=by
   intro a u;show bit (x.2.setIfInBounds _ _) a=_;rw[Zda Y];by_cases m:a/8=(x.1/8).toNat
   ·rw[Y4 m];show(p|||128#8>>>(x.1%8).toNat).getLsbD (7-a%8)=_;rw[BitVec.getLsbD_or];congr 1;·unfold bit;rw[Rm,ZkH,m,z];rfl
    ·have B:∀s A:Fin 8,(128#8>>>s.val).getLsbD (7-A.val)=decide (A.val=s.val):=YI;have:=B ⟨(x.1%8).toNat,Y⟩ ⟨a%8,Y⟩;rw[show(128#8>>>(x.1%8).toNat).getLsbD (7-a%8)=decide (a%8=(x.1%8).toNat)from this];exact decide_eq_decide.2 Y
   ·rw[Ys m,LY Y,yo]
  refine⟨⟨λ_=>⟨d,Y,.inr h⟩,λ_=>trivial⟩,λq=>⟨?_,?_⟩⟩;·rintro⟨f,g,-,e⟩;have i:∀a:Nat,(a:Int)<x.1+1->bit (YJ x.2 (x.1/8).toNat (OS p (VD 128#8 (x.1%8).toNat))) a=bit q.2 a:=e;refine⟨f,g,λa u=>by rw[<-i a Y,l a Y,LY Y,yo],by rw[<-i x.1.toNat Y,l _ Y,PB Y,Bool.or_true,PB h]⟩
  ·rintro⟨f,g,o,e⟩;rw[PB h]at e;refine⟨f,g,⟨show 0<=x.1+1by omega,show x.1+1<=256by omega,λa b c=>by rw[l a c,d.2.2 a Y c,LY Y];rfl⟩,λa b=>?_⟩
   ·have b:(a:Int)<x.1+1:=b;rw[l a Y];by_cases c:(a:Int)=x.1;·rw[PB c,Bool.or_true,<-e];congr 1;omega
    ·rw[LY c,yo,o a Y]
 ·rw[ZK Y];have b:decide (A=1)=false:=LY h;rw[b];refine⟨⟨λ_=>⟨d,Y,Y⟩,λ_=>trivial⟩,λq=>⟨?_,?_⟩⟩;·rintro⟨f,g,-,e⟩;have i:∀a:Nat,(a:Int)<x.1+1->bit x.2 a=bit q.2 a:=e;exact⟨f,g,λa u=>i a Y,by rw[<-i x.1.toNat Y,d.2.2 _ Y Y]⟩
  ·refineλ⟨f,g,o,e⟩=>⟨f,g,⟨show 0<=x.1+1by omega,show x.1+1<=256by omega,λa b c=>d.2.2 a Y c⟩,λa b=>?_⟩;have b:(a:Int)<x.1+1:=b;by_cases c:(a:Int)=x.1;·rw[d.2.2 a Y Y,<-e];congr 1;omega
   ·exact o a Y
abbrev pre(n:SQ):Uw:=n.2.2.2.1
abbrev UV(n:SQ):Int:=n.2.2.2.2.1
abbrev UY(n:SQ):Int:=n.2.2.2.2.2.1
def Wp(n:SQ):Uw:=if n.1=true then(256,n.2.1)else pre n
def Av(k):fm (256,k):=⟨Zc,Zc,Zp⟩
def gC:zU I=some (Wp I):=by apply Vp;unfold zU Wp;simp[Wx];refine⟨λa=>rm.mono λc b=>?_,Zp⟩;rw[Y4 a];exact(gH (p:=(256,I.2.1)) b Zc Zc).2 ⟨Av _,λ_ _=>rfl⟩
def MV(f:VB)(i:Nat)(n:SQ):Prop:=n.1=true\/fm (pre n)/\(pre n).1<256/\(0<=UV n/\UV n<i/\∀a,f[(UV n).toNat]?=some a->Qr (pre n) false (Wp a))/\0<=UY n/\UY n<i/\∀a,f[(UY n).toNat]?=some a->Qr (pre n) true (Wp a)
def Vy(f:VB):Prop:=f.length<=1048576/\∀a b,f[a]?=some b->MV f a b
def MV.ext{g}(h:MV l B I)(hi:B<=l.length):MV (l++g) B I:=by
 obtain h|⟨c,d,⟨e,f,i⟩,j,k,m⟩:=h;·exact .inl h
 ·exact .inr ⟨c,d,⟨e,f,λb a=>i b (by rwa[VE Y]at a)⟩,j,k,λb a=>m b (by rwa[VE Y]at a)⟩
def Vy.snoc(h:Vy l)(g:l.length<1048576)(e:MV l l.length I):Vy (l++[I]):=by
 refine⟨Zp,λb f a=>?_⟩;obtain hi|hi:=Rn b _;·rw[VE hi]at a;exact(h.2 b f a).ext Y
 ·have⟨d,c⟩:=X8 a;have:b=l.length:=by simp at d;omega
  subst this;simp at c;subst c;exact e.ext Zc
def lS:W (zV I C H) λr=>r.length<=200000000:=by unfold zV;simp only[Wx];refine⟨λ_=>⟨Zc,Zc,xf Zc Zc⟩,λ_=>⟨Zc,Zc,Zc,Zc,xf Zc Zc⟩⟩
def jC(f:VB)(n:SQ)(r:VB×Int):Prop:=∃a:SQ,r.1=f++[a]/\r.2=f.length/\a.1=n.1/\Wp a=Wp n/\(n.1=false->pre a=pre n/\UV a=UV n/\UY a=UY n)
def rV(o:l.length<1048576)(h:I.1=true\/0<=UV I/\UV I<l.length/\0<=UY I/\UY I<l.length):W (J9 l I) (jC l I):=by
 unfold J9;simp only[Wx];have i:∀(a:SQ)(j k:ZN)(b:ZN),a.1=I.1->Wp (a.1,a.2.1,a.2.2.1,a.2.2.2.1,a.2.2.2.2.1,a.2.2.2.2.2.1,b)=Wp I->(I.1=false->pre a=pre I/\UV a=UV I/\UY a=UY I)->jC l I (l++[(a.1,a.2.1,a.2.2.1,a.2.2.2.1,a.2.2.2.2.1,a.2.2.2.2.2.1,b)],Zm (((l++[(a.1,a.2.1,a.2.2.1,a.2.2.2.1,a.2.2.2.2.1,a.2.2.2.2.2.1,b)]).length:Int)-1)):=by refineλa j k b c d e=>⟨_,rfl,?_,c,d,e⟩;rw[ZK XV];simp
 refine⟨λc=>by refine lS.mono λn m=>(L5 Y).mono λb _=>⟨XV,(i (I.1,I.2.1,I.2.2.1,(0,zH),-1,-1,zH) b b b rfl (by simp[Wp,c]) λd=>by rw[c]at d;cases d)⟩,λc=>?_⟩
 ·obtain h|⟨d,e,f,g⟩:=h;·rw[c]at h;cases h
  refine⟨⟨d,e⟩,⟨d,e⟩,λ_ _=>⟨⟨f,g⟩,⟨f,g⟩,λ_ _=>lS.mono λn m=>(L5 Y).mono λb _=>⟨XV,i (I.1,zH,zH,pre I,UV I,UY I,zH) b b b rfl (by simp[Wp,c]) λ_=>⟨rfl,rfl,rfl⟩⟩⟩⟩
def Sy{i}(a:0<=i)(h:K[i.toNat]?=some y):ZF K i=some y:=by show(if 0<=i then _ else _)=_;rw[Y4 a,h]
def OL(h:K[B]?=some y):B<K.length:=(X8 h).1
def Zds(h:MV l B I):fm (Wp I):=by
 unfold Wp;obtain h|h:=h;·rw[Y4 h];exact Av _
 ·split;·exact Av _
  ·exact h.1
def ZpU{m}(y:Vy l)(B:l.length<1048576)(i:0<=A)(j:0<=o)(e:l[A.toNat]?=some I)(n:l[o.toNat]?=some m)(D:Wp m=(256,C))(x1:¬hd (Wp I) C):W (zT l A o) λr=>∃x,r.1=l++[x]/\r.2=l.length/\Vy r.1/\∀p,fm p->hd p C->p.1<256->Qr p (bit C p.1.toNat) (Wp I)->Qr p (bit C p.1.toNat) (Wp x):=by
 have la:=OL e;have lb:=OL n;have d:=Zds (y.2 _ _ e);unfold zT;refine XC ⟨⟨i,by simp only[Wx];omega⟩,?_⟩;rw[be (Sy i e),be gC];refine XC ⟨⟨j,by simp only[Wx];omega⟩,?_⟩;rw[be (Sy j n),be gC,D];refine W.Zs _ (Zls d (Av C)) λr hr=>?_;obtain⟨⟨k1,k2,t,K⟩,⟨-,k5,-,q⟩,k7⟩:=hr;have x6:=d.1;have x7:=d.2.1;have x3:=t.1;have x4:r.1<(Wp I).1:=by
  obtain h|h:=Zbb k2;·exact h
  ·exact absurd ⟨d,λf z=>by rw[<-K f Y,q f Y]⟩ x1
 have w:=k7 x4 (show r.1<256by omega);have L:Qr r (bit (Wp I).2 r.1.toNat) (Wp I):=⟨d,Y,K,rfl⟩;have M:Qr r (bit C r.1.toNat) (Wp m):=by rw[D];exact⟨Av _,show r.1+1<=256by omega,q,rfl⟩
 refine W.Zs _ Bm λc Z=>?_;have x0:=Z.2 x3 Y;have v:∀x g:Int,0<=x->x<l.length->0<=g->g<l.length->(∀b,l[x.toNat]?=some b->Qr r false (Wp b))->(∀b,l[g.toNat]?=some b->Qr r true (Wp b))->W (O (some (x,g)) λN=>O (J9 l (false,zH,zH,r,N.1,N.2,zH)) λx5=>some x5) λr=>∃x:SQ,r.1=l++[x]/\r.2=l.length/\Vy r.1/\∀p,fm p->hd p C->p.1<256->Qr p (bit C p.1.toNat) (Wp I)->Qr p (bit C p.1.toNat) (Wp x):=by
  intro x g F G H J hx hy;rw[bs];refine W.Zs _ (rV B (.inr ⟨F,G,H,J⟩)) λxb⟨b,u,P,e3,Q,R⟩=>Zb ?_;obtain⟨S,T,U⟩:=R rfl;have V:Wp b=r:=Q.trans (by simp[Wp]);refine⟨b,u,P,?_,?_⟩;·rw[u];refine y.snoc B (.inr ?_);rw[S,T,U];exact⟨t,show r.1<256by omega,⟨F,G,hx⟩,H,J,hy⟩
  ·intro p hp E xa a;rw[V];obtain⟨v1,v2,v3,v4⟩:=a;have x9:=hp.1;have lt:p.1+1<=r.1:=by
    obtain h|h:=Int.lt_or_le p.1 r.1;·omega
    ·obtain h|h:=Zbb h;·exact absurd (by rw[<-v3 _ Y,E.2 _ Y]) w
     ·exact absurd (by rw[h];exact v4) w
   exact⟨t,lt,λf z=>by rw[E.2 f z,q f Y],q _ Y⟩
 cases k:decide (c=1)
 ·have x8:c≠1:=jz k;rw[show Zw c 1=false from k,Xp];have X:bit (Wp I).2 r.1.toNat=false:=by cases h:bit (Wp I).2 r.1.toNat<;>simp_all
  have s:bit C r.1.toNat=true:=by cases h:bit C r.1.toNat<;>simp_all
  refine v A o i Y j Y (λb a=>by rw[e]at a;cases a;rwa[X]at L) λb a=>?_;·rw[n]at a;cases a;rwa[s]at M
 ·have x2:c=1:=yH k;rw[show Zw c 1=true from k,XD];have s:bit C r.1.toNat=false:=by cases h:bit C r.1.toNat<;>simp_all
  refine v o A j Y i Y (λb a=>by rw[n]at a;cases a;rwa[s]at M) λb a=>?_;·rw[e]at a;cases a;rwa[x0.1 x2]at L
def IW(k:ZN)(n:SQ):Int:=if bit k (pre n).1.toNat=true then UY n else UV n
def nY(f:VB)(k:ZN)(l:L Int)(e:Int):Prop:=∀(c:Nat)(b:Int),l[c]?=some b->∃a,f[b.toNat]?=some a/\0<=b/\a.1=false/\hd (pre a) k/\(l++[e])[c+1]?=some (IW k a)
def Dc(h:MV l B I)(j:I.1=false)(k):0<=IW k I/\IW k I<B/\(pre I).1<256/\∀m,l[(IW k I).toNat]?=some m->Qr (pre I) (bit k (pre I).1.toNat) (Wp m):=by
 obtain h|⟨i,a,⟨b,c,d⟩,e,f,g⟩:=h;·grind
 ·unfold IW;cases hb:bit k _;·exact⟨b,c,a,d⟩
  ·exact⟨e,f,a,g⟩
def Zgk(k:Vy l)(h1:-1<=A)(h2:A<l.length):W (lZ l A C) λr=>nY l C r.1 r.2/\-1<=r.2/\r.2<l.length/\r.1.length<=l.length/\(r.2=-1->r.1=[])/\∀n,0<=r.2->l[r.2.toNat]?=some n->n.1=true\/¬hd (pre n) C:=by
 unfold lZ;refine W.Zs (λa=>nY l C a.2 a.1/\-1<=a.1/\a.1<l.length/\a.2.length+a.1<l.length/\(a.1=-1->a.2=[])/\∀n,0<=a.1->l[a.1.toNat]?=some n->n.1=true\/¬hd (pre n) C) (L8 (λa=>nY l C a.2 a.1/\-1<=a.1/\a.1<l.length/\a.2.length+a.1<l.length/\(a.1=-1->a.2=[])) (λa=>(a.1+1).toNat) ⟨λi t h=>by simp at h,h1,h2,XV,λ_=>rfl⟩ (by have:=k.1;dsimp only;omega) λa b=>?_) λa b=>Zb ⟨b.1,b.2.1,b.2.2.1,by have:=b.2.2.2.1;have:=b.2.1;dsimp only;omega,b.2.2.2.2⟩
 ·obtain⟨p,q,y,z,B⟩:=b;have T:=k.1;obtain h|h:=Zbb q
  ·obtain⟨n,d⟩:∃n,l[a.1.toNat]?=some n:=⟨_,Ve Y⟩;have c:0<=a.1/\a.1<Zi (Zj l):=⟨Y,by simp only[Wx];omega⟩;refine W.Zs (λu=>u=!n.1) ?_ λu e=>W.Zs (λj=>j=true↔n.1=false/\hd (pre n) C) ?_ λj g=>Zr ⟨λf=>Xi ⟨by simp only[Wx,Wl,W6];omega,XC ⟨c,?_⟩⟩,λf=>Zb ?_⟩;·rw[show Zw a.1 (-1)=false from LY Y,show ZA false=true from rfl,XD];refine XC ⟨c,?_⟩;rw[be (Sy c.1 d)];exact Zb rfl
   ·subst e;cases V:n.1;·rw[LN,XD];refine XC ⟨c,?_⟩;rw[be (Sy c.1 d)];exact W.Zs _ Bv λj g=>Zb (by rw[g];simp)
    ·rw[LO,Xp];exact Zb Zc
   ·rw[be (Sy c.1 d)];obtain⟨v,w⟩:=g.1 f;obtain⟨Q,R,D,S⟩:=Dc (k.2 _ _ d) v C;refine W.Zs _ Bm λs K=>?_;have x:=K.2 w.1.1 D;have E:Zf (Zw s 1) (some (UY n)) (some (UV n))=some (IW C n):=by
     unfold IW;cases e:bit C (pre n).1.toNat;·rw[show Zw s 1=false from LY (λh=>by rw[x.1 h]at e;cases e),Xp];rfl
     ·rw[show Zw s 1=true from PB (x.2 e),XD];rfl
    rw[be E];refine Zb ⟨⟨λi t h=>?_,Y,Y,by simp only[Wx,YM,Wl,W6];omega,λh=>Y⟩,ZB⟩;simp only[Wx]at h⊢;obtain J|U:=Rn i a.2.length;·rw[VE J]at h;obtain⟨o,L,M,N,O,P⟩:=p i t h;exact⟨o,L,M,N,O,by rw[VE XV];exact P⟩
    ·have:i=a.2.length:=by have:=OL h;simp at this;omega
     subst this;rw[MK (YA _)]at h;simp at h;subst h;exact⟨n,d,c.1,v,w,Zc⟩
   ·refine⟨p,q,y,z,B,λo I m=>?_⟩;rw[d]at m;cases m;cases G:n.1;·exact .inr λH=>by rw[g.2 ⟨G,H⟩]at f;cases f
    ·exact .inl rfl
  ·have F:Zw a.1 (-1)=true:=PB h.symm;rw[F,show ZA true=false from rfl,Xp,bs,Xp,bs,Xp];exact Zb ⟨p,q,y,z,B,λo I m=>Y⟩
def Vy.pre{f}{i}{n}(a:Vy f)(h:f[i]?=some n):MV f i n:=a.2 i n h
def cF(f:VB)(a:L Int)(k:ZN)(s:Int×Int×VB):Prop:=Vy s.2.2/\(∃e,s.2.2=f++e)/\f.length<s.2.2.length/\-1<=s.2.1/\s.2.1<a.length/\s.2.2.length+s.2.1+1<=f.length+a.length+2/\∃d,0<=s.1/\s.2.2[s.1.toNat]?=some d/\∀(c:Int)(b:SQ),0<=s.2.1->a[s.2.1.toNat]?=some c->f[c.toNat]?=some b->Qr (pre b) (bit k (pre b).1.toNat) (Wp d)
def Zcy{v}(t:Vy l):W (zR l A C v) λr=>Vy r.1/\(r.2.2=0->(∃g,r.1=l++g)/\l.length<r.1.length/\0<=r.2.1/\r.2.1<r.1.length)/\(r.2.2≠0->r.1=l):=by
 unfold zR;refine W.Zs (λX=>X=true->-1<=A/\A<l.length) (by unfold zS;simp only[Wx];omega) λX hb=>Zr ⟨λ_=>Zb ⟨t,(λb=>by cases b),λ_=>rfl⟩,λb=>?_⟩;have ht:=hb (by cases X<;>simp_all[ZA]);refine W.Zs _ (Zgk t ht.1 ht.2) λ⟨i,o⟩⟨U,p2,p3,p4,p5,p6⟩=>?_;dsimp only at U p2 p3 p4 p5 p6;have xv:=t.1;refine Zr ⟨λ_=>Zb ⟨t,(λb=>by cases b),λ_=>rfl⟩,λb=>?_⟩;simp only[Wx]at b;rw[ZK (n:=(l.length:Int)+i.length) Y,ZK Y]at b;refine W.Zs _ (rV Y (.inl rfl)) λg S=>?_;obtain⟨T,B,g2,g3,g4,-⟩:=S;have x5:Wp T=(256,C):=g4.trans (by simp[Wp]);have S:Vy g.1:=by rw[B];exact t.snoc Y (.inl g3)
 have xx:g.1.length=l.length+1:=by rw[B];simp
 have x6:g.1[g.2.toNat]?=some T:=by rw[B,g2];simp
 have x1:∀{E:Nat}{n:SQ},l[E]?=some n->g.1[E]?=some n:=λ{E n}b=>by rw[B,VE (OL b)];exact b
 refine W.Zs (λx2=>x2=true->∃n,0<=o/\l[o.toNat]?=some n/\¬hd (Wp n) C) ?_ λx2 hc=>?_
 ·refine Zr ⟨λe=>?_,λe=>Zb λb=>by cases b⟩;simp only[Wx]at e;have s:0<=o:=Y;obtain⟨n,y⟩:∃n,l[o.toNat]?=some n:=⟨_,Ve Y⟩;have ix:0<=o/\o<Zi (Zj g.1):=⟨s,by simp only[Wx];omega⟩;refine XC ⟨ix,?_⟩;rw[be (Sy s (x1 y))];refine W.Zs (λx3=>x3=true↔n.1=true/\n.2.1=C) ?_ λx3 xb=>Zb λf=>⟨n,s,y,λh=>?_⟩;·refine Zr ⟨λf=>XC ⟨ix,?_⟩,λf=>Zb (by simp[f])⟩;rw[be (Sy s (x1 y))];exact Zb (by simp only[Wx,f])
  ·have h4:¬(n.1=true/\n.2.1=C):=λh5=>by rw[xb.2 h5]at f;cases f
   cases M:n.1
   ·obtain N|N:=p6 n s y;·rw[M]at N;cases N
    ·unfold Wp at h;rw[Ys (by simp[M])]at h;exact N h
   ·refine h4 ⟨M,?_⟩;unfold Wp at h;rw[Y4 M]at h;exact iL λE hi=>h.2 E (show(E:Int)<256by omega)
 refine W.Zs (λk=>Vy k.2/\(∃G,k.2=l++G)/\l.length<k.2.length/\k.2.length<=l.length+2/\∃x,0<=k.1/\k.2[k.1.toNat]?=some x/\∀j,fm j->hd j C->j.1<256->(∀n,0<=o->l[o.toNat]?=some n->Qr j (bit C j.1.toNat) (Wp n))->Qr j (bit C j.1.toNat) (Wp x)) ?_ λk⟨q1,⟨y0,q2⟩,q3,q4,x0,q5,q6,q7⟩=>?_
 ·refine Zr ⟨λe=>?_,λe=>Zb ⟨S,⟨_,B⟩,ZB,ZB,T,ZB,x6,λj hp Z x8 _=>?_⟩⟩;·obtain⟨n,s,y,xh⟩:=hc e;refine W.Zs _ (ZpU S Y s Y (x1 y) x6 x5 xh) λr hr=>Zb ?_;obtain⟨x,m,r2,r3,r4⟩:=hr;refine⟨r3,⟨[T]++[x],by rw[m,B];simp⟩,by rw[m];simp;omega,by rw[m];simp;omega,x,ZB,by dsimp only;rw[m,r2];simp,λj hp Z x8 D=>r4 j hp Z x8 (D n s y)⟩
  ·rw[x5];exact⟨Av _,show j.1+1<=256by omega,Z.2,rfl⟩
 refine W.Zs (λa=>Vy a.2.2/\(∃G,a.2.2=l++G)/\l.length<a.2.2.length/\0<=a.1/\a.1<a.2.2.length) (W.lp (cF l i C) (λa=>(a.2.1+1).toNat) ?_ ?_ (λa u=>?_) λa u=>?_) λa u=>Zb ⟨u.1,λ_=>⟨u.2.1,u.2.2.1,u.2.2.2⟩,λb=>absurd rfl b⟩
 ·rw[show Zm (ZX (Zi (Zj i)) 1)=(i.length:Int)-1by simp only[Wx];exact ZK Y];refine⟨q1,⟨y0,q2⟩,q3,ZB,ZB,ZB,x0,q5,q6,λq n e f h=>?_⟩;dsimp only at e f;obtain⟨n',p,c,z,H,n5⟩:=U _ q f;rw[h]at p;cases p;obtain⟨c1,c2,L,c4⟩:=Dc (t.2 _ _ h) z C;refine q7 _ H.1 H L λd y3 w=>?_;have:o=IW C n:=by rw[show((i.length:Int)-1).toNat+1=i.length by omega]at n5;simpa using n5
  rw[this]at w;exact c4 d w
 ·rw[show Zm (ZX (Zi (Zj i)) 1)=(i.length:Int)-1by simp only[Wx];exact ZK Y];dsimp only;omega
 ·obtain⟨I,⟨G,J⟩,s3,s4,s5,s6,x,K,F,s9⟩:=u;refine Zr ⟨λe=>?_,λe=>Zb ⟨I,⟨G,J⟩,s3,s4,s5,s6,x,K,F,s9⟩⟩;simp only[Wx]at e;obtain⟨q,Q⟩:∃q,i[a.2.1.toNat]?=some q:=⟨_,Ve Y⟩;obtain⟨n,p,c,z,H,n5⟩:=U _ q Q;have D:=s9 q n e Q p;have x7:a.2.2[q.toNat]?=some n:=by rw[J,VE (OL p)];exact p
  have y1:=OL p;have lx:=OL F;obtain⟨c1,c2,L,c4⟩:=Dc (t.2 _ _ p) z C;rw[be (Sy e Q)];refine XC ⟨⟨c,by simp only[Wx];omega⟩,?_⟩;rw[be (Sy c x7)];refine W.Zs _ Bm λV hz=>?_;have xi:=hz.2 H.1.1 L;have P:=I.2 _ _ x7;obtain P|⟨N1,N2,⟨N3,N4,N5⟩,N6,N7,N8⟩:=P;·rw[z]at P;cases P
  have x4:∀c:SQ,c.1=false->pre c=pre n->0<=UV c->UV c<a.2.2.length->0<=UY c->UY c<a.2.2.length->(∀d,a.2.2[(UV c).toNat]?=some d->Qr (pre n) false (Wp d))->(∀d,a.2.2[(UY c).toNat]?=some d->Qr (pre n) true (Wp d))->W (O (some c) λxs=>O (J9 a.2.2 xs) λx9=>some (LR.next (x9.2,Zm (ZX a.2.1 1),x9.1))) (LQ (ρ:=Empty) (cF l i C) (λa=>(a.2.1+1).toNat) (a.2.1+1).toNat (cF l i C) λ_=>True):=by
   intro y4 w1 w2 w3 w4 w5 w6 w7 w8;rw[bs];refine W.Zs _ (rV Y (.inr ⟨w3,w4,w5,w6⟩)) λr⟨d,m,r2,r3,r4,r5⟩=>Zb ?_;obtain⟨r6,r7,r8⟩:=r5 w1;have cu:Wp d=pre n:=by rw[r4];unfold Wp;rw[Ys (by simp[w1]),w2]
   rw[show Zm (ZX a.2.1 1)=a.2.1-1by simp only[Wx];exact ZK Y];refine⟨⟨?_,⟨G++[d],by dsimp only;rw[m,J,Yc]⟩,by dsimp only;rw[m];simp;omega,ZB,ZB,by dsimp only;rw[m];simp;omega,d,ZB,by dsimp only;rw[m,r2];simp,λa2 k hh f h=>?_⟩,ZB⟩;·dsimp only;rw[m];refine I.snoc Y (.inr ?_);rw[r6,r7,r8,w2];exact⟨H.1,L,⟨w3,w4,w7⟩,w5,w6,w8⟩
   ·dsimp only at hh f;obtain⟨m',m1,m2,m3,m4,m5⟩:=U _ a2 f;rw[h]at m1;cases m1;obtain⟨d1,d2,d3,d4⟩:=Dc (t.2 _ _ h) m3 C;rw[cu];have:q=IW C k:=by rw[show(a.2.1-1).toNat+1=a.2.1.toNat by omega,VE Y,Q]at m5;simpa using m5
    subst this;have:=d4 n p;unfold Wp at this;rwa[Ys (by simp[z])]at this
  cases R:decide (V=1)
  ·have y2:V≠1:=jz R;rw[show Zw V 1=false from R,Xp];have xa:bit C (pre n).1.toNat=false:=by cases b:bit C (pre n).1.toNat<;>simp_all
   rw[xa]at D;exact x4 (n.1,n.2.1,n.2.2.1,n.2.2.2.1,a.1,n.2.2.2.2.2) z rfl K (show a.1<_ by omega) N6 (show UY n<_ by omega) (λd w=>by rw[show UV (n.1,n.2.1,n.2.2.1,n.2.2.2.1,a.1,n.2.2.2.2.2)=a.1from rfl,F]at w;cases w;exact D) N8
  ·rw[show Zw V 1=true from R,XD];rw[xi.1 (yH R)]at D;exact x4 (n.1,n.2.1,n.2.2.1,n.2.2.2.1,n.2.2.2.2.1,a.1,n.2.2.2.2.2.2) z rfl N3 (show UV n<_ by omega) K (show a.1<_ by omega) N5 λd w=>by rw[show UY (n.1,n.2.1,n.2.2.1,n.2.2.2.1,n.2.2.2.2.1,a.1,n.2.2.2.2.2.2)=a.1from rfl,F]at w;cases w;exact D
 ·obtain⟨I,J,s3,s4,s5,s6,x,K,F,-⟩:=u;exact⟨I,J,s3,K,by have:=OL F;omega⟩
noncomputable section
theorem ZoO:LD l A=some (if 0<=A then match l[A.toNat]?with|some n=>(n,true)|none=>((false,zH,zH,(0,zH),0,0,zH),false)else((false,zH,zH,(0,zH),0,0,zH),false)):=by apply Vp;unfold LD MD;simp only[Wx];refine⟨λa=>?_,λa=>⟨a,a,λc b=>by rw[Y4 a.1,b]⟩⟩;grind
theorem ZAW{Q}(h1:∀n,0<=A->A<l.length->l[A.toNat]?=some n->Q (n,true))(h2:¬(0<=A/\A<l.length)->∀n,Q (n,false)):W (LD l A) Q:=by
 rw[ZoO];refine Zb ?_;by_cases a:0<=A;·rw[Y4 a];cases b:l[A.toNat]?with|some n=>exact h1 n a (by have:=OL b;omega) b|none=>exact h2 Zp _
 ·rw[Ys a];exact h2 Y _
def Zj9:W (tz l x A o) λr=>r=true↔∃n,0<=o/\l[o.toNat]?=some n/\fm x/\x.1<256/\(A=0\/A=1)/\Qr x (decide (A=1)) (Wp n):=by
 unfold tz;refine W.Zs _ (ZAW (Q:=λr=>(r.2=true->0<=o/\l[o.toNat]?=some r.1)/\(r.2=false->¬(0<=o/\o<l.length))) Zp λa n=>⟨λa=>(by cases a),λ_=>a⟩) λ⟨n,f⟩e=>W.Zs _ ZbY λb j=>?_;cases f;·simp only[Xp,bs];refine Zb ⟨λa=>(by cases a),?_⟩;rintro⟨n,c,d,-⟩;exact absurd ⟨c,by have:=OL d;omega⟩ (e.2 rfl)
 ·simp only[XD,bs];cases k:b.2;·simp only[Xp,bs];refine Zb ⟨λa=>(by cases a),?_⟩;rintro⟨p,-,-,g,h,i,-⟩;simp_all
  ·simp only[XD];rw[be gC,Zl,Zl];refine iz.mono λq m=>Zb (Zb ?_);simp_all
def Zby(i:Vy l):W (tx l I) λr=>Vy r.1/\(r.2.2=0->jC l I (r.1,r.2.1))/\(r.2.2≠0->r.1=l)/\(MV l l.length I->l.length<1048576->r.2.2=0):=by
 unfold tx;have K:=i.1;refine W.Zs (λj=>j=false↔I.1=true\/MV l l.length I) ?_ λj n=>?_
 ·cases d:I.1
  ·rw[show ZA false=true from rfl,XD];refine W.Zs _ Zj9 λx o=>?_;cases x
   ·rw[show ZA false=true from rfl,XD,bs];refine Zb ⟨λh=>(by cases h),?_⟩;rintro(h|h|⟨f,b,⟨a,g,k⟩,J⟩);·cases h
    ·rw[d]at h;cases h
    ·exact absurd (o.2 ⟨_,a,Ve (show(UV I).toNat<_ by omega),f,b,.inl rfl,k _ (Ve _)⟩) Zc
   ·rw[show ZA true=false from rfl,Xp];obtain⟨C,y,p,z,A,-,B⟩:=o.1 rfl;rw[Zl,Zl];refine Zj9.mono λr e=>Zb (Zb ?_);cases r
    ·refine⟨λh=>(by cases h),?_⟩;rintro(h|h|⟨f,b,-,a,g,k⟩);·cases h
     ·rw[d]at h;cases h
     ·exact absurd (e.2 ⟨_,a,Ve (show(UY I).toNat<_ by omega),f,b,.inr rfl,k _ (Ve _)⟩) Zc
    ·obtain⟨H,F,t,-,-,-,G⟩:=e.1 rfl;refine⟨λ_=>.inr (.inr ⟨z,A,⟨y,by have:=OL p;show I.2.2.2.2.1<_;omega,λq c=>?_⟩,F,by have:=OL t;show I.2.2.2.2.2.1<_;omega,λq c=>?_⟩),λ_=>rfl⟩;·have:l[(UV I).toNat]?=some C:=p;rw[this]at c;cases c;exact B
     ·have:l[(UY I).toNat]?=some H:=t;rw[this]at c;cases c;exact G
  ·rw[show ZA true=false from rfl,Xp];exact Zb ⟨λ_=>.inl rfl,λ_=>rfl⟩
 cases j
 ·rw[Xp];have m:MV l l.length I:=(n.1 rfl).elim .inl id;refine Zr ⟨λh=>Zb ⟨i,(λh=>by cases h),λ_=>rfl,λ_ b=>by simp only[Wx]at h;omega⟩,λh=>?_⟩
  ·simp only[Wx]at h;refine W.Zs _ (rV Y ?_) λr e=>Zb ⟨?_,λ_=>e,λh=>absurd rfl h,λ_ _=>rfl⟩
   ·obtain h|⟨f,b,a,g⟩:=m;·exact .inl h
    ·exact .inr ⟨a.1,a.2.1,g.1,g.2.1⟩
   ·obtain⟨q,D,L,s,M,E⟩:=e;rw[D];refine i.snoc Y ?_;obtain h|h:=m;·exact .inl (s.trans h)
    ·cases d:I.1;·obtain⟨u,v,w⟩:=E d;refine .inr ?_;rw[u,v,w];exact h
     ·exact .inl (s.trans d)
 ·rw[XD];refine Zb ⟨i,(λh=>by cases h),λ_=>rfl,λh _=>?_⟩;have:=n.2 (.inr h);cases this
theorem Fa:W (HJ l A) λr=>r.2=0↔-1<=A/\A<l.length:=by unfold HJ zS Zaw;simp only[Wx];refine⟨Zp,λa=>⟨λb=>(BL Zc Zc).mono λ_ _=>⟨λ_=>a,Zc⟩,Zp⟩⟩
open Classical in
def Qs(f:VB)(i:Int):Nat:=if 0<=i then match f[i.toNat]?with|some b=>f.countP λa=>decide (wi (Wp b) (Wp a))|none=>1 else 1
theorem Zdr{α:Type}{p q s t}:∀{l:L α},(∀m∈l,(p m=true->t m=true)/\(q m=true->t m=true)/\(s m=true->t m=true)/\¬(p m=true/\q m=true)/\¬(p m=true/\s m=true)/\¬(q m=true/\s m=true))->l.countP p+l.countP q+l.countP s<=l.countP t|[],_=>Zc|m::l,h=>by have b:=Zdr λm a=>h m (XY _ a);grind
def Zkp(h:fm x):wi x x:=⟨h,Zc,h,λ_ _=>rfl⟩
def l9{q r}(a:fm x)(h:Qr x F q)(h2:wi q r):wi x r/\bit r.2 x.1.toNat=F:=by obtain⟨e,f,g,b⟩:=h;have⟨c,i,j,d⟩:=h2;have:=a.1;exact⟨⟨c,Y,a,Zp⟩,by rw[<-d _ Y,b]⟩
def ZaN{f}{i}(b:Vy f):1<=Qs f i:=by
 unfold Qs;split
 ·split;·rename_i c a;classical exact List.countP_pos_iff.2 ⟨c,X2 a,PB (Zkp (Zds (b.2 _ _ a)))⟩
  ·simp
 ·simp
def kF{f}{i}:Qs f i<=f.length+1:=by
 unfold Qs;split
 ·split;·exact Nat.le_succ_of_le Zbe
  ·simp
 ·simp
def Zkn(w:Vy l)(q:0<=A)(f:l[A.toNat]?=some I)(h1:I.1=false):Qs l (UV I)+Qs l (UY I)+1<=Qs l A:=by
 obtain a|⟨c,x,⟨r,y,s⟩,t,z,u⟩:=w.2 _ _ f;·rw[h1]at a;cases a
 have C:=OL f;have j:l[(UV I).toNat]?=some l[(UV I).toNat]:=Ve Y;have k:l[(UY I).toNat]?=some l[(UY I).toNat]:=Ve Y;have h:=s _ j;have v:=u _ k;have i:Wp I=pre I:=by unfold Wp;rw[Ys (by simp[h1])]
 classical
 have m:Qs l A=l.countP λb=>decide (wi (pre I) (Wp b)):=by unfold Qs;rw[Y4 q,f,<-i]
 have n:Qs l (UV I)=l.countP λb=>decide (wi (Wp l[(UV I).toNat]) (Wp b)):=by unfold Qs;rw[Y4 r,j]
 have o:Qs l (UY I)=l.countP λb=>decide (wi (Wp l[(UY I).toNat]) (Wp b)):=by unfold Qs;rw[Y4 t,k]
 have p:1<=l.countP λb=>decide (Wp b=pre I):=List.countP_pos_iff.2 ⟨I,X2 f,PB i⟩;rw[m,n,o];refine WB (Nat.add_le_add_left p _) (Zdr λb _=>?_);simp only[sP];have B:=c.1;refine⟨λa=>(l9 c h a).1,λa=>(l9 c v a).1,λa=>by rw[a];exact Zkp c,?_,?_,?_⟩;·rintro⟨d,e⟩;have:=(l9 c h d).2;rw[(l9 c v e).2]at this;cases this
 ·rintro⟨d,e⟩;have g:=d.2.1;rw[e]at g;have:=h.2.1;omega
 ·rintro⟨d,e⟩;have g:=d.2.1;rw[e]at g;have:=v.2.1;omega
def TK(f:VB)(l:L Int):Nat:=(l.map (Qs f)).sum
def ZaO{f}(b:Vy f):∀l,l.length<=TK f l|[]=>Zc|a::l=>by have:=ZaO b l;have:=@ZaN f a b;simp[TK,Wb,sE,Wl]at*;omega
def Zko{f}{l}(h:l[l.length-1]?=some A):TK f l=TK f (l.take (l.length-1))+Qs f A:=by
 have a:l=l.take (l.length-1)++[A]:=by have⟨c,b⟩:=X8 h;rw[<-b,<-ML _,show l.length-1+1=l.length by omega,Ir]
 unfold TK;conv=>lhs;rw[a]
 simp
theorem Zf4{f}(e:Vy f):W (qx f A o) λr=>r.length<=1048577/\∀i∈r,0<=i/\i<f.length:=by
 have u:=e.1;unfold qx;refine W.Zs (λa=>a.1.length<=1048577/\∀i∈a.1,0<=i/\i<f.length) (W.lp (λa=>a.1.length+TK f a.2<=1048577/\∀i∈a.1,0<=i/\i<f.length) (λa=>TK f a.2) ⟨by have:=@kF f o;simp[TK];omega,Zc⟩ (by have:=@kF f o;simp[TK];omega) (λa d=>?_) λa d=>⟨Y,d.2⟩) λa d=>Zb d
 ·obtain⟨n,g⟩:=d;have l:=ZaO e a.2;refine Zr ⟨λh=>?_,λh=>Zb ⟨n,g⟩⟩;simp only[Wx]at h;rw[show Zm (ZX (Zi (Zj a.2)) 1)=(a.2.length:Int)-1by simp only[Wx];exact ZK Y];obtain⟨c,j⟩:∃c,a.2[a.2.length-1]?=some c:=⟨_,Ve Y⟩;have y:=Zko (f:=f) j;refine XC ⟨by simp only[Wx];omega,?_⟩;rw[be (Sy Y (show a.2[((a.2.length:Int)-1).toNat]?=some c by rw[show((a.2.length:Int)-1).toNat=a.2.length-1by omega];exact j))];refine EY.2 ⟨by simp only[Wx];omega,?_⟩;have w:=@ZaN f c e;rw[show YK (Yo ((a.2.length:Int)-1)) a.2=a.2.take (a.2.length-1)by simp only[Wx];congr 1;omega];have stop:W (some (LR.next (a.1,a.2.take (a.2.length-1)))) (LQ (ρ:=Empty) (λa=>a.1.length+TK f a.2<=1048577/\∀i∈a.1,0<=i/\i<f.length) (λa=>TK f a.2) (TK f a.2) (λa=>a.1.length+TK f a.2<=1048577/\∀i∈a.1,0<=i/\i<f.length) λ_=>True):=Zb ⟨⟨ZB,g⟩,ZB⟩;refine Zn (ZAW (λb q z s=>?_) λ_ b=>by rw[show ZA false=true from rfl,XD,bs,XD];exact stop)
  ·unfold gO;rw[show ZA true=false from rfl,Xp,bs,bs];refine Zr ⟨λ_=>stop,λ_=>Xi ⟨by simp only[Wx,Wl,W6];omega,?_⟩⟩;have k:∀i∈a.1++[c],0<=i/\i<f.length:=λi v=>by grind
   cases p:b.1
   ·have x:=Zkn e q s p;have t:TK f (a.2.take (a.2.length-1)++[UV b,UY b])=TK f (a.2.take (a.2.length-1))+(Qs f (UV b)+Qs f (UY b)):=by simp[TK]
    rw[show ZA false=true from rfl,XD];refine W.Zs (λm=>m=a.2.take (a.2.length-1)++[UV b,UY b]) (Xi ⟨by simp only[Wx,Wl,W6,UF];omega,Zb rfl⟩) λm l=>Zb ?_;subst l;exact⟨⟨by simp only[Wx,YM,Wl,W6];omega,k⟩,ZB⟩
   ·rw[show ZA true=false from rfl,Xp,bs];exact Zb ⟨⟨by simp only[Wx,YM,Wl,W6];omega,k⟩,ZB⟩
end
def rj(h:E.flatten.length<=4294967296)(a:E.length<=1000:=by exact Nat.le_of_ble_eq_true rfl):W (F0 E) λr=>r=E.flatten:=by exact⟨_,Y4 ⟨a,h⟩,rfl⟩
def Zln(h:d.length<=4000000000):W (pn d) λ_=>True:=by unfold pn;simp only[Wx];exact(rj Zp).mono λb a=>(L5 Zp).mono λ_ _=>trivial
def Zcu:W (ws C H) λ_=>True:=by unfold ws;simp only[Wx];exact⟨Zc,Zc,(rj Zc).mono λb a=>(L5 Xk).mono λ_ _=>trivial⟩
theorem pz:W (AE A C) λ_=>True:=by
 unfold AE;rw[be (BM Zc)];refine Up ⟨Y,?_⟩;have a:(put ([],false) (Xf ((Yl 32 A).setWidth 64) 4)).1.length=4:=by simp[put,Va]
 rw[be (xc Zp),be (EN (by have:=zo (put ([],false) (Xf ((Yl 32 A).setWidth 64) 4)) (Xo 0 (YK 32 (XK C)));grind)),Zl];refine(Zln ?_).mono λ_ _=>Zb trivial;have:=zo (put ([],false) (Xf ((Yl 32 A).setWidth 64) 4)) (Xo 0 (YK 32 (XK C)));grind
def F8(l:L Qj):Int:=(l.map (·.2.1)).sum
def Ql(l:L Qj)(T:Int):Prop:=(∀a∈l,1<=a.2.1)/\F8 l=T
def DY:∀{l}{T},Ql l T->l.length<=T|[],T,h=>by have:=h.2;simp[F8]at this;grind|a::l,T,h=>by have d:=DY (T:=T-a.2.1) ⟨λc b=>h.1 c (XY _ b),by have:=h.2;simp[F8,Wb,sE]at this⊢;omega⟩;have e:=h.1 a Zc;grind
def Zro{l}{p}(h:Ql l A)(b:1<=p.2.1):Ql (l++[p]) (A+p.2.1):=by
 refine⟨λa hx=>?_,by have:=h.2;simp[F8]at this⊢;omega⟩;obtain hx|hx:=ZY hx;·exact h.1 a hx
 ·grind
def ZgD{s}{p}(hs:Ql s A)(x:1<=p.2.1)(C:A+p.2.1<=4294967296):W (Ay s p) λr=>Ql r (A+p.2.1):=by
 unfold Ay;refine W.Zs (λa=>1<=a.2.2.1/\Ql a.1 (A+p.2.1-a.2.2.1)) (W.lp (λa=>1<=a.2.2.1/\Ql a.1 (A+p.2.1-a.2.2.1)) (λa=>a.1.length) ⟨x,by rw[show A+p.2.1-p.2.1=A by omega];exact hs⟩ (by have:=DY hs;dsimp only;omega) (λa c=>?_) λa c=>c) λa c=>?_
 ·obtain⟨j,d⟩:=c;have v:=DY d;refine Zr ⟨λk=>?_,λk=>Zb ⟨j,d⟩⟩;simp only[Wx]at k;rw[show Zm (ZX (Zi (Zj a.1)) 1)=(a.1.length:Int)-1by simp only[Wx];exact ZK Y];refine XC ⟨by simp only[Wx];omega,?_⟩;obtain⟨b,g⟩:∃b,a.1[a.1.length-1]?=some b:=⟨_,Ve Y⟩;rw[be (Sy Y (show a.1[((a.1.length:Int)-1).toNat]?=some b by rw[show((a.1.length:Int)-1).toNat=a.1.length-1by omega];exact g))];have E:=OL g;have n:a.1=a.1.take (a.1.length-1)++[b]:=by obtain⟨q,t⟩:=X8 g;rw[<-t,<-ML q,show a.1.length-1+1=a.1.length by omega,Ir]
  have D:=d.1 b (X2 g);have F:F8 a.1=F8 (a.1.take (a.1.length-1))+b.2.1:=by(conv=>lhs;rw[n]);simp[F8]
  have w:∀l:L Qj,(∀e∈l,1<=e.2.1)->0<=F8 l:=λl f=>by have:=DY (l:=l) ⟨f,rfl⟩;omega
  have m:∀e∈a.1.take (a.1.length-1),1<=e.2.1:=λe y=>d.1 e (yw y);have z:=w _ m;have B:=d.2;have o:Zm (VI 2 b.2.1)=2*b.2.1:=by simp only[Wx];exact ZK Y
  rw[o];refine W.Zs (λi=>i=false->b.2.1=a.2.2.1) ?_ λi u=>Zr ⟨λ_=>Zb ⟨j,d⟩,λh=>?_⟩;·refine Zr ⟨λ_=>Zb (λf=>by cases f),λh=>Jd.2 ⟨Y,Zb λ_=>?_⟩⟩;simpa only[Wx]using h
  ·have:=u h;refine Zn (Zcu.mono λf _=>EY.2 ⟨by simp only[Wx];omega,Zb ?_⟩);rw[show YK (Yo ((a.1.length:Int)-1)) a.1=a.1.take (a.1.length-1)by simp only[Wx];congr 1;omega];refine⟨⟨ZB,m,ZB⟩,by dsimp only;simp;omega⟩
 ·have v:=DY c.2;refine Xi ⟨by simp only[Wx,Wl,W6];omega,Zb ?_⟩;have:=Zro c.2 c.1;rwa[show A+p.2.1-a.2.2.1+a.2.2.1=A+p.2.1by omega]at this
theorem ZeM{s}(hs:s.length<=4294967296):W (pq s) λr=>r.length=s.length:=by
 refine W.Zs _ (W.Tl (λa=>0<=a.2/\a.2<=s.length/\a.1.length=a.2) _ (λa=>(s.length-a.2).toNat) ?_ ?_ (λa b=>?_) λ_ b=>b) λ_ b=>Zb b;all_goals(try simp[Wx,tH,YM,Wl,W6])
 all_goals grind
def Zcv:W (wu A f) λr=>r.1.2.2.length<=2147483648:=by
 unfold wu;refine W.Zs (λe=>e=false->0<=A/\A<=2147483647) (by simp only[Wx];omega) λe j=>W.Zs (λg=>g=false->0<=A/\A<=2147483647/\f.length<=2147483647-A) ?_ λg k=>Zr ⟨λ_=>Zb Zc,λc=>?_⟩;·refine Zr ⟨λ_=>Zb λc=>(by cases c),λc=>Zb λd=>?_⟩;have:=j c;simp only[Wx]at d;rw[ZK Y]at d;omega
 ·obtain⟨o,d,p⟩:=k c;refine W.Zs (λa=>Ql a.1 a.2/\a.2<=f.length) (W.lp (λa=>Ql a.1 a.2/\0<=a.2/\a.2<=f.length) (λa=>(f.length-a.2).toNat) ⟨⟨Zc,rfl⟩,Zc,Zc⟩ ZB (λa b=>?_) λa b=>⟨b.1,b.2.2⟩) λa b=>?_;·obtain⟨i,m,n⟩:=b;refine Zr ⟨λh=>?_,λh=>Zb ⟨i,m,n⟩⟩;simp only[Wx]at h;rw[Zl,YH];refine⟨Y,λq _=>Zn ((ZgD i Zc ZB).mono λr l=>Zb ?_)⟩;rw[show Zm (Zv a.2 1)=a.2+1by simp only[Wx];exact ZK Y];exact⟨Zp,ZB⟩
  ·have:=DY b.1;exact Zn ((ZeM Y).mono λr l=>Zb ZB)
def Zaz(k):0<2^k:=Nat.pow_pos Zc
theorem Zml(a b j)(h:a+b+1=2^j):2*a+1&&&2*b+1=1:=by apply Nat.eq_of_testBit_eq;intro c;rw[Nat.testBit_and];cases c with|zero=>simp|succ c=>
  have f:b=2^j-(a+1):=Y;have d:(2*a+1).testBit (c+1)=a.testBit c:=Zp;have e:(2*b+1).testBit (c+1)=b.testBit c:=by rw[Nat.testBit_succ];congr 1;omega
  grind
def Zrh(n)(h:0<n):∃k m,n=2^k*(2*m+1):=by induction n using Nat.strongRecOn with|ind n a=>
  by_cases c:n%2=1;·exact⟨0,n/2,Y⟩
  ·have⟨k,m,b⟩:=a (n/2) Y Y;refine⟨k+1,m,?_⟩;rw[sL,sK _ 2,Nat.mul_assoc];omega
def Zqn(x)(k m)(h:x.toNat=2^k*(2*m+1)):x&&&-x=BitVec.ofNat 64 (2^k)/\k<64:=by
 have j:=x.isLt;have a:k<64:=by apply ZkA;intro f;have e:2^64<=2^k:=EA Y Y;grind
 refine⟨?_,a⟩;apply yn;have c:(2:Nat)^64=2^k*2^(64-k):=by rw[<-Nat.pow_add];congr 1;omega
 have i:(2:Nat)^(64-k)=2*2^(63-k):=by rw[show 64-k=63-k+1by omega,sL];omega
 have g:=by have:2^k*(2*m+1)<2^k*2^(64-k):=Y;exact Nat.lt_of_mul_lt_mul_left this
 have b:(-x).toNat=2^k*(2*(2^(63-k)-1-m)+1):=by have d:0<x.toNat:=Zp;rw[BitVec.toNat_neg,HZ Y,h,c,<-Nat.mul_sub];congr 1;omega
 rw[BitVec.toNat_and,h,b,CV,HZ Zp,sK,sK (2^k),<-sM,<-sM,<-Nat.shiftLeft_and_distrib,Zml m _ (63-k) Y,sM,O7]
def ZAr:∀k:Fin 64,∃h,(Bu[((BitVec.ofNat 64 (2^k.val)*285870213051353865#64)>>>58).toNat]'h).toNat=k.val:=YI
def ZAs(p:0<A)(h1:A<=2147483647):W (ou (Yl 64 A)) λr=>0<=r/\r<=40:=by
 unfold ou db;obtain⟨a,rfl⟩:∃a:Nat,A=a:=⟨A.toNat,Y⟩;have c:(Yl 64 (a:Int)).toNat=a:=by show(BitVec.ofInt 64 (a:Int)).toNat=a;simp;omega
 obtain⟨b,g,m⟩:=Zrh a Y;obtain⟨h,i⟩:=Zqn (Yl 64 (a:Int)) b g (by rw[c,m]);have s:b<=40:=by apply ZkA;intro q;have n:2^41<=2^b:=EA Y Y;have o:2^b*1<=2^b*(2*g+1):=Nat.mul_le_mul_left _ Y;omega
 have e:=ZAr ⟨b,i⟩;dsimp only at e;generalize l:((BitVec.ofNat 64 (2^b)*285870213051353865#64)>>>58).toNat=I at e;obtain⟨j,k⟩:=e;refine Zn (Zr ⟨λd=>by simp only[Wx]at d;rw[d]at c;simp at c;omega,λd=>SF ⟨MH _,?_⟩⟩);·rw[show Re (Yl 64 (a:Int)) (oQ (Yl 64 (a:Int)))=BitVec.ofNat 64 (2^b)from h];simp only[Wx,Fw,VD];rw[show((58#64).toNat:Int).toNat=58from rfl,l,WL];refine⟨Y,λt f=>?_⟩;rw[Vector.getElem?_eq_getElem j]at f;rw[<-X9 f,k];omega
def Zlp(n:1<=B)(h1:B<4294967296):W (oq (Yl 64 B)) λr=>∃k:Nat,r=k+1/\k<=31/\2^k<=B:=by
 have j:(Yl 64 (B:Int)).toNat=B:=by show(BitVec.ofInt 64 (B:Int)).toNat=B;simp;omega
 have i:∀(g:Nat)(h:ZO 64),g<18446744073709551616->OM (BitVec.ofNat 64 g) h=decide (g<=h.toNat):=λg h s=>by show decide (BitVec.ofNat 64 g<=h)=_;exact decide_eq_decide.2 (by rw[kW,CV,HZ s])
 unfold oq eZ;refine Zn (Zn (W.mono (P:=λb=>b.2=0/\b.1.toNat=B) (by rw[i _ _ Y,j,LY Y,Xp];exact Zb ⟨rfl,j⟩) λb f=>W.Zs (λb=>∃a:Nat,b.2=a/\a<=16/\b.1.toNat=B/2^a/\1<=B/2^a/\B/2^a<65536) ?_ λb f=>W.Zs (λb=>∃a:Nat,b.2=a/\a<=24/\b.1.toNat=B/2^a/\1<=B/2^a/\B/2^a<256) ?_ λb f=>?_))
 ·obtain⟨d,c⟩:=f;rw[i _ _ Y,c];by_cases e:65536<=B;·rw[PB e,XD];refine SF ⟨MH _,Zb ⟨16,by rw[d];simp only[Wx];exact ZK Y,Y,?_,Y,Y⟩⟩;·show(b.1>>>16).toNat=_;rw[Za8,c,Zbq]
  ·rw[LY e,Xp];exact Zb ⟨0,d,Y,by rw[c];simp,by simpa using n,XV⟩
 ·obtain⟨a,d,q,c,l,m⟩:=f;rw[i _ _ Y,c];by_cases e:256<=B/2^a
  ·have o:B/2^(a+8)=B/2^a/256:=by rw[Nat.pow_add,<-Nat.div_div_eq_div_mul]
   rw[PB e,XD];refine SF ⟨MH _,Zb ⟨a+8,by rw[d];simp only[Wx];exact ZK Y,Y,?_,Y,Y⟩⟩;·show(b.1>>>8).toNat=_;rw[Za8,c,Zbq,o]
  ·rw[LY e,Xp];exact Zb ⟨a,d,Y,c,l,Y⟩
 ·obtain⟨a,d,q,c,l,m⟩:=f;obtain⟨t,v,u⟩:=Zfd (B/2^a) m;have p:(Vl 8 b.1).toNat=B/2^a:=by show(b.1.setWidth 8).toNat=_;rw[BitVec.toNat_setWidth,c,HZ Y]
  rw[show Zi (Z7 (Vl 8 b.1))=((B/2^a:Nat):Int)by simp only[Wx];rw[p],be (Sy (MH _) (by rw[WL];exact t))];refine Zb (Zb ⟨a+Pj (BitVec.ofNat 8 (B/2^a))-1,?_,Y,?_⟩);·simp only[Wx];rw[CV,HZ Y,d,ZK Y];omega
  ·rw[show a+Pj (BitVec.ofNat 8 (B/2^a))-1=Pj (BitVec.ofNat 8 (B/2^a))-1+a by omega,Nat.pow_add];exact(Nat.le_div_iff_mul_le (Zaz a)).1 (u Y).2
def zD(c:B<=40):SB 1 B=(2^B:Nat):=by have a:2^B<=2^40:=EA Zc c;have b:(2:Int)^B=(2^B:Nat):=Zc;rw[uU];unfold wM;rw[WL,PA Y,Int.one_mul,b];generalize 2^B=m at a;exact ks Y
def Zxl(h:0<=A)(h1:A<o)(h2:o<=2147483647):W (po A o) λr=>1<=r/\r<=o-A:=by unfold po;rw[show Zm (ZX o A)=((o-A).toNat:Int)by simp only[Wx];rw[ZK Y];omega];refine W.Zs _ (Zlp Y Y) λr d=>?_;obtain⟨b,rfl,j,k⟩:=d;rw[show Zm _=(b:Int)by simp only[Wx];rw[ZK Y];omega];have i:=Zaz b;refine SF ⟨Y,W.Zs _ (Zr ⟨λg=>W.Zs _ (ZAs Zp Y) λc e=>SF ⟨e.1,Zb ?_⟩,λ_=>Zb (by rw[zD Y];omega)⟩) λl f=>Zb f⟩;·obtain⟨a,rfl⟩:∃a:Nat,c=a:=⟨c.toNat,Y⟩;rw[zD Y,zD Y];have:=Zaz a;simp only[Wx];omega
def Zft:W (ww A o) λr=>r=true↔0<=A/\A<=o/\o<=2147483647:=by unfold ww;simp[Wx];omega
def ZlI:W (Fc A o) λr=>r.length<=2147483648/\(0<=A->A<=o->o<=2147483647->(∀x∈r,1<=x)/\r.sum=o-A):=by
 unfold Fc;refine W.Zs _ Zft λj h=>Zr ⟨λf=>Zb ⟨Zc,λg d e=>Zp⟩,λf=>?_⟩
 ·obtain⟨g,d,e⟩:=h.1 Zp;refine W.Zs (λa=>(a.2.length:Int)<=o-A/\(∀x∈a.2,1<=x)/\a.2.sum=o-A) (W.Tl (λa=>A<=a.1/\a.1<=o/\(a.2.length:Int)<=a.1-A/\(∀x∈a.2,1<=x)/\a.2.sum=a.1-A) _ (λa=>(o-a.1).toNat) ⟨Zc,d,Zc,Zc,Zc⟩ ZB (λa b=>?_) λa b=>b) λa b=>Zb ⟨Y,λ_ _ _=>b.2⟩;obtain⟨m,n,p,i,q⟩:=b;refine Zr ⟨λc=>?_,λc=>?_⟩<;>simp only[Wx]at c;·refine W.Zs _ (Zxl Y c e) λr k=>Xi ⟨Zp,Zb ?_⟩;rw[show Zm (Zv a.1 r)=a.1+r by simp only[Wx];exact ZK Y];refine⟨⟨ZB,ZB,Zp,λx l=>?_,Zp⟩,ZB⟩;grind
  ·exact Zb ⟨Y,i,Y⟩
theorem qZ{r}:W (Ax r) λc=>c=true->0<=r.1/\r.1<=r.2.1/\r.2.1<=2147483647/\r.2.2.length<=2147483648/\∃s,Fc r.1 r.2.1=some s/\s.length=r.2.2.length/\(∀x∈s,1<=x)/\s.sum=r.2.1-r.1:=by refine W.Zs _ Zft λc d=>Zn (Zr ⟨λa=>W.Zs _ (W.self ZlI) λs e=>Zb (Zb λb=>?_),λa=>Zb (Zb λa=>by cases a)⟩);grind
def ic{r}:W (wv r) λ_=>True:=by refine W.Zs _ qZ λd f=>W.Zs (λc=>c=false->d=true) (by simp only[Wx];exactλa=>a.1) λc g=>Zr ⟨λ_=>Zb trivial,λa=>Zr ⟨λ_=>W.Zs _ (L5 Zc) λ_ _=>Zb trivial,λe=>?_⟩⟩;·obtain⟨-,-,-,i,-⟩:=f (g a);simp only[Wx]at e⊢;rw[ZK Y,ZK Y];refine⟨Y,λj _=>W.lp (λb=>b.1<r.2.2.length/\-2<=b.1) (λb=>(b.1+1).toNat) ⟨Y,Y⟩ Y (λb h=>?_) λ_ _=>trivial⟩;simp only[Wx];refine⟨λa=>⟨Y,λ_ _=>Zcu.mono λ_ _=>?_⟩,λa=>h⟩;rw[ZK Y];omega
def eG:W (GY f) λ_=>True:=by unfold GY;simp[Wx];exact Zcv.mono λ_ _=>ic.mono λ_ _=>trivial
def dn{α β}{eq}{x:α}{y:β}:∀{l},P8 eq x l=some y->∃a,(a,y)∈l
 |[],h=>by cases h|(a,z)::l,h=>by
  unfold P8 at h;split at h;·grind
  ·have⟨b,c⟩:=dn h;exact⟨b,Zp⟩
def oK{α β}{eq}{x:α}{y:β}{p}:∀{l},p∈Ny eq x y l->p.2=y\/p∈l
 |[],h=>by rw[YV h];exact .inl rfl|(a,z)::l,h=>by
  unfold Ny at h;split at h;·grind
  ·obtain rfl|h:=XL h;·simp
   ·exact(oK h).imp id Zp
def EJ(l:L (Zt×Int))(n:Nat):Prop:=∀a∈l,0<=a.2/\a.2<n
def Zf3{l}{x}(h:EJ l B)(hs:Ta (XJ x l)=true):0<=UN (XJ x l) 0/\UN (XJ x l) 0<B:=by cases e:XJ x l with|none=>grind|some c=>have⟨b,a⟩:=dn e;exact h _ a
def JN(l:L V8):Prop:=l.length<=100000/\∀a∈l,a.1.length<=100000/\a.2.2.2.2.2.length<=100000
def Vz(s:W0):Prop:=Vy s.2.1/\s.2.2.1.length<=2147483648/\(∀a∈s.2.2.1,-1<=a.1/\a.1<s.2.1.length/\JN a.2.2.2.2)/\s.2.2.2.1.length<=s.2.1.length/\(∀b∈s.2.2.2.1,b.2.length<=2147483648)/\EJ s.2.2.2.2 s.2.2.2.1.length
def Zct:I4 C=some (C,[],[],[],[]):=rfl
def Gv{h}:Vz (h,[],[],[],[]):=⟨⟨Zc,Zc⟩,Zc,Zc,Zc,Zc,λa h=>by cases h⟩
def Bs:GW s=some (s.2.2.1.length:Int):=rfl
def xS(h:s.2.2.1.length<=2147483649):W (Dv s) λr=>r=s.2.2.1.map (·.2.2.2.1):=by refine W.Zs _ (W.Tl (λb=>∃a:Nat,b.2=a/\a<=s.2.2.1.length/\b.1=(s.2.2.1.take a).map (·.2.2.2.1)) _ (λb=>(s.2.2.1.length-b.2).toNat) ⟨0,rfl,Zc,rfl⟩ Y (λb⟨a,d,j,e⟩=>?_) λ_ h=>h) λ_ h=>Zb h;have k:b.1.length=a:=Zp;simp only[Wx,d];refine⟨λi=>⟨Y,Y,λl c=>⟨Zp,?_⟩⟩,λi=>Zp⟩;·rw[ZK Y];rw[WL]at c;have⟨f,g⟩:=X8 c;exact⟨⟨a+1,Zc,Y,by rw[ML f,WW,<-e,g];rfl⟩,Y⟩
theorem io{s}(h:s.2.2.1.length<=2147483649):W (xX s) λr=>r=s.2.2.1.map (·.2.1):=by refine W.Zs _ (W.Tl (λb=>∃a:Nat,b.2=a+1/\a<=s.2.2.1.length/\b.1=(s.2.2.1.take a).map (·.2.1)) _ (λb=>(s.2.2.1.length+1-b.2).toNat) ⟨0,rfl,Zc,rfl⟩ Zp (λb⟨a,d,j,e⟩=>?_) λ_ h=>h) λ_ h=>Zb h;have k:b.1.length=a:=Zp;rw[be Bs];simp only[Wx,d];refine⟨λi=>?_,λi=>Zp⟩;·rw[ZK Y,ZK Y];refine⟨Y,Y,λl c=>⟨Zp,?_⟩⟩;rw[show((a:Int)+1-1).toNat=a by omega]at c;have⟨f,g⟩:=X8 c;exact⟨⟨a+1,Zc,Y,by rw[ML f,WW,<-e,g];rfl⟩,Y⟩
def Zlj(h:s.2.2.1.length<=2147483649):W (qS s A) λ_=>True:=by unfold qS;rw[be Bs];refine Zr ⟨λ_=>Zb trivial,λa=>?_⟩;simp only[Wx]at a⊢;rw[ZK Y];exact⟨Y,Y,λ_ _=>(xS h).mono λ_ _=>eG.mono λ_ _=>trivial⟩
def Zpl(h:s.2.2.1.length<=2147483649):W (qT s A C H) λ_=>True:=by unfold qT;simp[Wx];exact(xS h).mono λb a=>pz.mono λ_ _=>⟨Zp,eG.mono λ_ _=>trivial⟩
def iX(h:Vz s):W (Du s d) λc=>c.length<=2147483648:=by obtain⟨-,-,-,-,b,e⟩:=h;refine Zr ⟨λa=>?_,λ_=>Zb Zc⟩;have:=Zf3 e a;refine XC ⟨this,Zn (YN ⟨this,λg f=>Zb (b g (X2 f))⟩)⟩
def Zav(h:Vz s):W (Aq s) λt=>-1<=t/\t<s.2.1.length:=by obtain⟨-,e,b,-⟩:=h;refine Zr ⟨λa=>Zb Y,λa=>?_⟩;simp only[Wx]at a⊢;rw[ZK Y];exact⟨Y,Y,λd c=>⟨(b d (X2 c)).1,(b d (X2 c)).2.1⟩⟩
def wz(g:M7)(l:L V8):Prop:=g.1=l/\g.2.length=l.length/\(∀b∈g.2,b.length<=2147483648)/\∀a∈l,a.1.length<=32/\a.2.2.2.2.2.length<=64
theorem fI(h:Vz s)(D:Q.length<=100000):W (Mg s A Q) λr=>r.2=true->wz r.1 Q:=by
 unfold Mg;have f:∀{m n:Int×M7×M7×L (Zt×Int)->Prop}{v:Int×M7×M7×L (Zt×Int)->Nat}{b:Nat}(g:M7),W (O (some (g,false)) λu=>some (LR.ret u)) (LQ m v b n λr:M7×Bool=>r.2=true->wz r.1 Q):=λg=>by rw[bs];exact Zb λh=>by cases h
 refine WM (W.VQ (λa=>0<=a.1/\a.1<=Q.length/\a.2.2.1.1=Q/\a.2.2.1.2.length=a.1/\(∀c∈a.2.2.1.2,c.length<=2147483648)/\∀b∈Q.take a.1.toNat,b.1.length<=32/\b.2.2.2.2.2.length<=64) (λa=>wz a.2.2.1 Q) (λa=>(Q.length-a.1).toNat) (λr=>r.2=true->wz r.1 Q) ⟨Zc,Zc,rfl,Zc,(λc j=>by cases j),λb d=>by simp at d⟩ ZB (λa e=>?_) (λa e=>Zb λ_=>e) λr p=>p)
 ·obtain⟨E,F,k,G,t,l⟩:=e;refine Zr ⟨λi=>?_,λi=>?_⟩<;>simp only[Wx]at i;rotate_left;·rw[show a.1.toNat=Q.length by omega,Ir]at l;exact Zb ⟨k,Y,t,l⟩
  refine Zn (YN ⟨Y,λg q=>W.Zs _ (iX h) λc j=>Xi ⟨by simp only[Wx];omega,Xi ⟨by simp only[Wx,Wl,W6];omega,Zr ⟨λ_=>f _,λ_=>Zr ⟨λ_=>f _,λ_=>W.Zs _ (rA (by simp only[Wx,YM,Wl,W6];omega)) λw B=>Zr ⟨λ_=>f _,λz=>Xi ⟨by simp only[Wx,Wl,W6];omega,Zb ?_⟩⟩⟩⟩⟩⟩⟩);rw[show Zm (Zv a.1 1)=a.1+1by simp only[Wx];exact ZK Y];obtain⟨o,y⟩:=X8 q;refine⟨⟨ZB,ZB,k,by simp only[Wx,YM,Wl,W6];omega,λx C=>Zp,λb d=>?_⟩,ZB⟩;·rw[show(a.1+1).toNat=a.1.toNat+1by omega,ML o]at d;grind
def nF{l}(h:Vz s)(B:l.length<=100000)(o:∀n∈l,n.1.length<=100000/\n.2.2.2.2.2.length<=100000):W (GX s l) λr=>Vy r.1.2.1/\r.1.1=s.1/\r.1.2.2=s.2.2/\(∃y,r.1.2.1=s.2.1++y)/\(r.2.2=0->-1<=r.2.1/\r.2.1<r.1.2.1.length/\s.2.1.length+l.length<=r.1.2.1.length):=by
 unfold GX;refine W.Zs _ (Zav h) λE e=>WM (W.VQ (λa=>Vy a.2.2.2.1/\a.2.2.1=s.1/\a.2.2.2.2=s.2.2/\(∃y,a.2.2.2.1=s.2.1++y)/\-1<=a.1/\a.1<a.2.2.2.1.length/\0<=a.2.1/\a.2.1<=l.length/\s.2.1.length+a.2.1<=a.2.2.2.1.length) (λa=>Vy a.2.2.2.1/\a.2.2.1=s.1/\a.2.2.2.2=s.2.2/\(∃y,a.2.2.2.1=s.2.1++y)/\-1<=a.1/\a.1<a.2.2.2.1.length/\s.2.1.length+l.length<=a.2.2.2.1.length) (λa=>(l.length-a.2.1).toNat) _ ⟨h.1,rfl,rfl,⟨[],Zc⟩,e.1,e.2,Zc,Zc,Zc⟩ ZB (λa b=>?_) (λa b=>Zb ⟨b.1,b.2.1,b.2.2.1,b.2.2.2.1,λ_=>b.2.2.2.2⟩) λr p=>p)
 ·obtain⟨f,g,i,⟨y,j⟩,w,x,F,G,H⟩:=b;refine Zr ⟨λd=>?_,λd=>Zb ⟨f,g,i,⟨y,j⟩,w,x,by simp only[Wx]at d;omega⟩⟩;simp only[Wx]at d;refine Zn (YN ⟨Y,λz q=>?_⟩);obtain⟨k,A⟩:=o z (X2 q);refine Zn (jX k|>.mono λC _=>Zn (yQ k A|>.mono λv _=>Zn ((Zcy f).mono λr⟨t,D,u⟩=>?_)));refine Zr ⟨λc=>?_,λc=>Zb ?_⟩<;>simp only[Wx]at c;·rw[bs];exact Zb ⟨t,g,i,⟨y,by dsimp only;rw[u c,j]⟩,λm=>absurd m c⟩
  ·rw[show Zm (Zv a.2.1 1)=a.2.1+1by simp only[Wx];exact ZK Y];exact⟨Zp,ZB⟩
def Zdq(h:JN Q):W (qV Q) λr=>r=Q:=by refine W.Zs _ (W.Tl (λb=>∃a:Nat,b.2=a/\a<=Q.length/\b.1=Q.take a) _ (λb=>(Q.length-b.2).toNat) ⟨0,rfl,Zc,rfl⟩ (by have:=h.1;omega) (λb⟨a,d,k,e⟩=>?_) λ_ h=>h) λ_ h=>Zb h;have m:b.1.length=a:=Zp;have l:=h.1;simp only[Wx,d];refine⟨λi=>⟨Y,λj c=>?_⟩,λi=>Zp⟩;·have:=h.2 j Zp;rw[ZK Y];rw[WL]at c;have⟨f,g⟩:=X8 c;exact⟨Y,Y,Zp,⟨a+1,Zc,Y,by rw[ML f,<-e,g]⟩,Y⟩
theorem xB{g}(h:Vz s)(E:-1<=A)(F:A<s.2.1.length)(P:g.2.length=g.1.length)(Q:∀c∈g.2,c.length<=2147483648)(k:JN g.1)(b:s.2.2.2.1.length+g.1.length<=s.2.1.length)(N:s.2.2.1.length<2147483648):W (I5 s A o g) λr=>Vz r/\r.1=s.1/\r.2.1=s.2.1/\∃x,r.2.2.1=s.2.2.1++[x]:=by
 obtain⟨w,X,H,Z,I,J⟩:=h;have O:=w.1;unfold I5;refine Zn (Fa.mono λV _=>W.Zs (λa=>a.2.1=s.1/\a.2.2.1=s.2.1/\a.2.2.2.1=s.2.2.1/\a.2.2.2.2.1.length<=s.2.1.length/\(∀e∈a.2.2.2.2.1,e.2.length<=2147483648)/\EJ a.2.2.2.2.2 a.2.2.2.2.1.length) (W.lp (λa=>a.2.1=s.1/\a.2.2.1=s.2.1/\a.2.2.2.1=s.2.2.1/\0<=a.1/\a.1<=g.1.length/\a.2.2.2.2.1.length<=s.2.2.2.1.length+a.1/\(∀e∈a.2.2.2.2.1,e.2.length<=2147483648)/\EJ a.2.2.2.2.2 a.2.2.2.2.1.length) (λa=>(g.1.length-a.1).toNat) ⟨rfl,rfl,rfl,Zc,Zc,Zc,I,J⟩ (by have:=k.1;dsimp only;omega) (λa d=>?_) λa d=>⟨d.1,d.2.1,d.2.2.1,by have:=d.2.2.2.2.1;have:=d.2.2.2.2.2.1;omega,d.2.2.2.2.2.2⟩) λa d=>?_)
 ·obtain⟨l,f,i,n,p,q,t,m⟩:=d;have S:=k.1;refine Zr ⟨λu=>?_,λu=>Zb ⟨l,f,i,n,p,q,t,m⟩⟩;simp only[Wx]at u;refine Zn (YN ⟨Y,λx G=>?_⟩);have T:=k.2 x (X2 G);refine W.Zs (λv=>0<=v.1/\v.1<v.2.2.2.2.1.length/\v.2.1=s.1/\v.2.2.1=s.2.1/\v.2.2.2.1=s.2.2.1/\v.2.2.2.2.1.length<=s.2.2.2.1.length+a.1+1/\(∀e∈v.2.2.2.2.1,e.2.length<=2147483648)/\EJ v.2.2.2.2.2 v.2.2.2.2.1.length) ?_ λv⟨y,z,v3,v4,v5,v6,v7,v8⟩=>?_
  ·refine Zr ⟨λC=>Xi ⟨by simp only[Wx];omega,Xi ⟨by simp only[Wx,Wl,W6];omega,Zb ?_⟩⟩,λC=>Zb ?_⟩
   ·simp only[Wx,YM,Wl,W6];refine⟨Y,Y,l,f,i,Y,λe b=>?_,λe b=>?_⟩
    ·obtain b|b:=ZY b;·exact t e b
     ·rw[YV b];simp
    ·obtain b|b:=oK b;·rw[b];omega
     ·have:=m e b;omega
   ·have:=Zf3 m (x:=x.1) (by cases R:Ta (XJ x.1 a.2.2.2.2.2)<;>simp_all[ZA]);exact⟨this.1,this.2,l,f,i,ZB,t,m⟩
  ·refine Zn (YN ⟨Y,λc M=>XC ⟨⟨y,z⟩,Zn (YN ⟨⟨y,z⟩,λx0 U=>Zb ?_⟩)⟩⟩);rw[show Zm (Zv a.1 1)=a.1+1by simp only[Wx];exact ZK Y];simp only[Wx,Pz];grind
 ·obtain⟨l,f,i,n,p,q⟩:=d;refine Zn (pz.mono λL _=>Zn ((Zdq k).mono λK D=>Xi ⟨by simp only[Wx,Wl,W6];rw[i];omega,Zb ?_⟩));subst D;simp only[Wx];refine⟨⟨by rw[f];exact w,by rw[i];simp;omega,?_,by rw[f];exact n,p,q⟩,l,f,⟨_,by rw[i]⟩⟩<;>dsimp only
  ·rw[f,i];intro B j;obtain j|j:=ZY j;·exact H B j
   ·rw[YV j];exact⟨E,F,k⟩
def xe{y}{a}(h:Vz s)(d:Vy l)(e:l=s.2.1++y):Vz (a,l,s.2.2):=by
 obtain⟨-,f,c,g,i,j⟩:=h;have:s.2.1.length<=l.length:=by rw[e];simp
 exact⟨d,f,λe b=>⟨(c e b).1,by have:=(c e b).2.1;show e.1<l.length;omega,(c e b).2.2⟩,WB g this,i,j⟩
def Zj1(hs:Vz s)(a:Q.length<=100000):W (qU s A Q C) λr=>Vy r.1.2.1/\r.1.1=s.1/\r.1.2.2=s.2.2/\(∃y,r.1.2.1=s.2.1++y)/\(r.2.2.2=true->-1<=r.2.1/\r.2.1<r.1.2.1.length/\s.2.1.length+Q.length<=r.1.2.1.length/\wz r.2.2.1 Q/\Mg s A Q=some (r.2.2.1,true)):=by have f:Vy _/\s.1=s.1/\s.2.2=s.2.2/\∃y,s.2.1=s.2.1++y:=⟨hs.1,rfl,rfl,[],Zc⟩;refine W.Zs _ (W.self (fI hs a)) λl i=>Zr ⟨λg=>Zb ⟨f.1,f.2.1,Zc,Zc,Zc⟩,λg=>W.Zs _ (nF hs a λk j=>by have:=(i.2 Zp).2.2.2 k j;omega) λn⟨b,c,d,e,o⟩=>Zr ⟨λh=>Zb ⟨b,c,d,e,Zc⟩,λh=>Zn (Fa.mono λr m=>Zb ⟨b,c,d,e,λC=>?_⟩)⟩⟩;grind
def BJ{l}(hs:Vz s)(I:s.2.2.1.length<2147483647):W (QI s l) λr=>Vz r.1/\r.1.1=s.1/\(r.2=0->∃x,r.1.2.2.1=s.2.2.1++[x])/\(r.2≠0->r.1.2.2=s.2.2):=by
 unfold QI;refine Zr ⟨λc=>Zb ⟨hs,rfl,(λc=>by cases c),λ_=>rfl⟩,λc=>?_⟩;simp only[Wx]at c;refine WM (W.Pk (λb=>0<=b.2/\b.2<=l.length/\b.1.length=b.2) (λb=>(l.length-b.2).toNat) (λr=>r.1=s/\r.2≠0) ⟨Zc,Zc,Zc⟩ ZB (λb p=>?_) (λb p=>?_) λr f=>⟨by rw[f.1];exact hs,by rw[f.1],λc=>absurd c f.2,λ_=>by rw[f.1]⟩)
 ·obtain⟨B,C,D⟩:=p;refine Zr ⟨λj=>?_,λj=>Zb ⟨B,C,D⟩⟩;simp only[Wx]at j;refine Zn (YN ⟨Y,λx L=>W.Zs _ (iX hs) λE H=>W.Zs _ (Zk2 Y) λg k=>Zr ⟨λd=>?_,λd=>?_⟩⟩)<;>simp only[Wx]at d;·rw[bs];exact Zb ⟨rfl,d⟩
  ·obtain⟨F,G⟩:=k d;rw[show Zm (ZX (Zi (Zj g.1)) 1)=(g.1.length:Int)-1by simp only[Wx];exact ZK Y,show Zm (Zv b.2 1)=b.2+1by simp only[Wx];exact ZK Y];refine Zn (YN ⟨Y,λv K=>Xi ⟨by simp only[Wx,Wl,W6];omega,Zb ⟨⟨ZB,ZB,by simp only[Wx,YM,Wl,W6];omega⟩,ZB⟩⟩⟩)
 ·have m:b.1.length<=100000:=Y;refine W.Zs _ (fI hs m) λg k=>Zr ⟨λ_=>Zb ⟨hs,rfl,(λc=>by cases c),λ_=>rfl⟩,λj=>?_⟩;have e:=k (by cases J:g.2<;>simp_all[ZA]);refine Zn (IJ (show MD s.2.1=some _ from rfl) (W.Zs _ (nF hs m λn h=>by have:=e.2.2.2 n h;omega) λq⟨t,u,i,⟨N,w⟩,y⟩=>?_));have o:Vz q.1:=by have:=xe (a:=q.1.1) hs t w;rwa[<-i]at this
  refine Zr ⟨λd=>Zb ⟨o,u,λc=>absurd c (by simpa only[Wx]using d),λ_=>i⟩,λd=>?_⟩;simp only[Wx]at d;obtain⟨z,A,M⟩:=y d;refine Zn ((xB o z A (by rw[e.1];exact e.2.1) e.2.2.1 ⟨by rw[e.1];exact m,λn h=>by rw[e.1]at h;have:=e.2.2.2 n h;omega⟩ (by rw[e.1,i];have:=hs.2.2.2.1;omega) (by rw[i];omega)).mono λr f=>Zb ?_);grind
def pC:W (GO l A) λ_=>True:=by exact Zn (ZAW (λ_ _ _ _=>Zb trivial) λ_ _=>Zb trivial)
def dI:W (vY l A) λ_=>True:=by exact Zn (ZAW (λ_ _ _ _=>Zb trivial) λ_ _=>Zb trivial)
def ZwL:W (gR l A) λ_=>True:=by have b:∀a:SQ×Bool,W (Zf a.1.1 (some (true,a.1.2.1,a.1.2.2.1,(0,Rk _ 0#8),Rk _ 0#8,Rk _ 0#8)) (O (GO l a.1.2.2.2.2.1) λc=>O (GO l a.1.2.2.2.2.2.1) λd=>some (false,Rk _ 0#8,Rk _ 0#8,a.1.2.2.2.1,c,d))) λ_=>True:=λa=>Zr ⟨λ_=>Zb trivial,λ_=>Zn (pC.mono λ_ _=>Zn (pC.mono λ_ _=>Zb trivial))⟩;exact Zn (ZAW (λ_ _ _ _=>b _) λ_ _=>b _)
theorem ZlQ(f:Vy l):W (qw l A o) λr=>r.1.length<=1048577:=by refine Zn (Fa.mono λr _=>W.Zs (λ_=>True) (by simp only[Wx]) λd _=>Zr ⟨λ_=>Zb Zc,λ_=>W.Zs _ (Zf4 f) λc h=>?_⟩);have i:(c.mergeSort λe d=>decide (e<=d)).length=c.length:=List.length_mergeSort _;unfold F1;rw[Y4 Y,bs];refine W.Zs (λa=>a.1.length<=1048577) (W.lp (λa=>0<=a.2/\a.2<=c.length/\a.1.length=a.2) (λa=>(c.length-a.2).toNat) ⟨Zc,Zc,Zc⟩ Y (λa b=>?_) λa b=>Y) λa b=>Zb b;obtain⟨j,k,m⟩:=b;simp only[Wx];refine⟨λg=>⟨Y,Y,λ_ _=>ZwL.mono λ_ _=>⟨Zp,?_⟩⟩,Y⟩;rw[ZK Y];grind
def Zrg(e:Vy l):W (qy l A) λr=>r.length<=1048577/\∀i∈r,0<=i/\i<l.length:=by
 have u:=e.1;unfold qy;refine W.Zs (λa=>a.1.length<=1048577/\∀i∈a.1,0<=i/\i<l.length) (W.lp (λa=>a.1.length+TK l a.2<=1048577/\∀i∈a.1,0<=i/\i<l.length) (λa=>TK l a.2) ⟨by have:=@kF l A;simp[TK];omega,Zc⟩ (by have:=@kF l A;simp[TK];omega) (λa d=>?_) λa d=>⟨Y,d.2⟩) λa d=>Zb d
 ·obtain⟨o,f⟩:=d;have k:=ZaO e a.2;refine Zr ⟨λg=>?_,λg=>Zb ⟨o,f⟩⟩;simp only[Wx]at g;rw[show Zm (ZX (Zi (Zj a.2)) 1)=(a.2.length:Int)-1by simp only[Wx];exact ZK Y];obtain⟨c,h⟩:∃c,a.2[a.2.length-1]?=some c:=⟨_,Ve Y⟩;have x:=Zko (f:=l) h;refine XC ⟨by simp only[Wx];omega,?_⟩;rw[be (Sy Y (show a.2[((a.2.length:Int)-1).toNat]?=some c by rw[show((a.2.length:Int)-1).toNat=a.2.length-1by omega];exact h))];refine EY.2 ⟨by simp only[Wx];omega,?_⟩;have v:=@ZaN l c e;rw[show YK (Yo ((a.2.length:Int)-1)) a.2=a.2.take (a.2.length-1)by simp only[Wx];congr 1;omega];have stop:W (some (LR.next (a.1,a.2.take (a.2.length-1)))) (LQ (ρ:=Empty) (λa=>a.1.length+TK l a.2<=1048577/\∀i∈a.1,0<=i/\i<l.length) (λa=>TK l a.2) (TK l a.2) (λa=>a.1.length+TK l a.2<=1048577/\∀i∈a.1,0<=i/\i<l.length) λ_=>True):=Zb ⟨⟨ZB,f⟩,ZB⟩;refine Zn (ZAW (λb n q s=>?_) λ_ b=>by rw[show ZA false=true from rfl,XD,bs,XD];exact stop)
  ·unfold gL;rw[show ZA true=false from rfl,Xp,bs,bs];refine Zr ⟨λ_=>stop,λ_=>Xi ⟨by simp only[Wx,Wl,W6];omega,?_⟩⟩;have j:∀i∈a.1++[c],0<=i/\i<l.length:=λi hi=>by
    obtain hi|hi:=ZY hi;·exact f i hi
    ·rw[YV hi];exact⟨n,q⟩
   cases p:b.1
   ·have w:=Zkn e n s p;have t:TK l (a.2.take (a.2.length-1)++[UV b,UY b])=TK l (a.2.take (a.2.length-1))+(Qs l (UV b)+Qs l (UY b)):=by simp[TK]
    rw[show ZA false=true from rfl,XD];refine W.Zs (λm=>m=a.2.take (a.2.length-1)++[UV b,UY b]) (Xi ⟨by simp only[Wx,Wl,W6,UF];omega,Zb rfl⟩) λm k=>Zb ?_;subst k;exact⟨⟨by simp only[Wx,YM,Wl,W6];omega,j⟩,ZB⟩
   ·rw[show ZA true=false from rfl,Xp,bs];exact Zb ⟨⟨by simp only[Wx,YM,Wl,W6];omega,j⟩,ZB⟩
theorem Zqr{e}{r}(d:Vy l):W (gP ((),e) l r) λo=>Vy o.2.1/\(∃y,o.2.1=l++y)/\(o.2.2.2=0->0<=o.2.2.1/\o.2.2.1<o.2.1.length):=by
 have h:W (gQ ((),e) l r) λ_=>True:=by refine Zr ⟨λ_=>Zb trivial,λ_=>W.Zs (λ_=>True) (Zr ⟨λ_=>Zb trivial,λ_=>Zb trivial⟩) λ_ _=>Zb trivial⟩
 refine W.Zs _ h λp _=>Zr ⟨λ_=>Zb ⟨d,⟨[],Zc⟩,λa=>by cases a⟩,λ_=>W.Zs _ (Zby d) λm i=>?_⟩;obtain⟨b,f,g,-⟩:=i;refine Zr ⟨λa=>?_,λa=>?_⟩<;>simp only[Wx]at a;·obtain⟨j,k,n,-⟩:=f a;refine Zn (pC.mono λ_ _=>Zb ⟨b,⟨[j],k⟩,λ_=>?_⟩);grind
 ·exact Zr ⟨λ_=>Zb ⟨b,⟨[],by rw[g a];simp⟩,λc=>absurd c a⟩,λ_=>Zb ⟨b,Xk,λc=>by cases c⟩⟩
def ZkO{i}(g:Vy l)(E:i.length<=1000000000):W (qv l A i C) λo=>Vy o.1/\(∃y,o.1=l++y)/\(o.2.2=0->-1<=o.2.1/\o.2.1<o.1.length):=by
 have p:∃y,l=l++y:=⟨[],Zc⟩;unfold qv;refine W.Zs _ Fa λG t=>Zr ⟨λ_=>Zb ⟨g,p,λC=>by cases C⟩,λm=>W.Zs _ (Zrg g) λu D=>W.Zs (λa=>a.2.1=l) (W.lp (λa=>a.2.1=l/\0<=a.1) (λa=>(u.length-a.1).toNat) ⟨rfl,Zc⟩ ZB (λa b=>?_) λa b=>b.1) λa b=>?_⟩;·simp only[Wx];refine⟨λe=>⟨Y,Y,λ_ _=>pC.mono λ_ _=>?_⟩,λe=>b⟩;rw[ZK Y];exact⟨⟨b.1,Y⟩,Y⟩
 ·simp only[Wx]at m;have n:=t.1 m;refine WM (W.Pk (λv=>Vy v.2.2.1/\(∃y,v.2.2.1=l++y)/\-1<=v.1/\v.1<v.2.2.1.length/\0<=v.2.1) (λv=>(i.length-v.2.1).toNat) _ ⟨by rw[b];exact g,by rw[b];exact p,n.1,by rw[b];exact n.2,Zc⟩ ZB (λv h=>?_) (λv h=>?_) λo s=>s)
  ·obtain⟨c,⟨y,d⟩,j,k,q⟩:=h;refine Zr ⟨λe=>?_,λe=>Zb ⟨c,⟨y,d⟩,j,k,q⟩⟩;simp only[Wx]at e;refine Zn (YN ⟨Y,λI F=>W.Zs _ (Zqr c) λo⟨w,⟨B,x⟩,z⟩=>?_⟩);refine Zr ⟨λf=>?_,λf=>?_⟩<;>simp only[Wx]at f;·rw[bs];exact Zb ⟨w,⟨y++B,by rw[x,d,Yc]⟩,λr=>absurd r f⟩
   ·have:=z f;rw[show Zm (Zv v.2.1 1)=v.2.1+1by simp only[Wx];exact ZK Y];exact Zb ⟨Zp,ZB⟩
  ·obtain⟨c,d,j,k,q⟩:=h;refine Zn (Fa.mono λH _=>Zr ⟨λ_=>Zb ⟨c,d,λC=>by cases C⟩,λ_=>Zb ⟨c,d,λ_=>⟨j,k⟩⟩⟩)
def Zpr:Mg (C,l,s.2.2) A Q=Mg s A Q:=rfl
def ZkK{p}(hs:Vz s)(d:p.length<=1000000000)(m:Q.length<=100000)(C:s.2.2.1.length<2147483647):W (qQ s S p Q) λo=>o.2=0->Vz o.1/\S.1=s.2.2.1.length+1/\∃x,o.1.2.2.1=s.2.2.1++[x]:=by
 unfold qQ;refine Zr ⟨λ_=>Zb λS=>(by cases S),λe=>W.Zs _ (Zj1 hs m) λb⟨q,K,f,⟨M,A⟩,B⟩=>?_⟩;simp only[Wx]at e;rw[ZK Y]at e;have k:Vz b.1:=by have:=xe (a:=b.1.1) hs q A;rwa[<-f]at this
 refine W.Zs (λh=>h=false->b.2.2.2=true) ?_ λh w=>Zr ⟨λ_=>Zb λS=>(by cases S),λi=>?_⟩;·refine Zr ⟨λ_=>Zb λS=>(by cases S),λi=>Zn ((Zpl (by rw[f];omega)).mono λ_ _=>Zb λ_=>?_)⟩;cases D:b.2.2.2<;>simp_all[ZA]
 ·obtain⟨G,H,I,c,z⟩:=B (w i);refine Zn (IJ (show MD b.1.2.1=some _ from rfl) (W.Zs _ (Zav k) λL E=>W.Zs _ (ZkO q d) λa⟨r,⟨N,g⟩,t⟩=>Zr ⟨λ_=>Zb λS=>(by cases S),λj=>?_⟩));simp only[Wx]at j;obtain⟨u,v⟩:=t j;have l:Vz (b.1.1,a.1,b.1.2.2):=xe k r g;rw[f]at l⊢;rw[be (Zpr.trans z)];have F:b.1.2.1.length<=a.1.length:=by rw[g];simp
  refine Zn ((xB l u v (by rw[c.1];exact c.2.1) c.2.2.1 ⟨by rw[c.1];exact m,λy n=>by rw[c.1]at n;have:=c.2.2.2 y n;omega⟩ (by rw[c.1];have:=hs.2.2.2.1;dsimp only;omega) (show s.2.2.1.length<_ by omega)).mono λJ d=>Zb λ_=>⟨d.1,e,d.2.2.2⟩)
def Zcs(r:JN Q)(H:f.length<=1000000000):W (Dr S Q f) λo=>o.2=0->∃s,o.1=some s/\Vz s/\S.1=s.2.2.1.length:=by
 unfold Dr;refine Zr ⟨λ_=>Zb λS=>(by cases S),λp=>?_⟩;simp only[Wx]at p;rw[be Zct];have G:=r.1;refine WM (W.VQ (λb=>Vz b.2.2/\JN b.1/\0<=b.2.1/\b.2.1<=f.length/\b.2.2.2.2.1.length=b.2.1) (λb=>Vz b.2.2/\b.2.2.2.2.1.length=f.length) (λb=>(f.length-b.2.1).toNat) _ ⟨Gv,r,Zc,Zc,Zc⟩ ZB (λb d=>?_) (λb d=>by refine Zn ((Zlj (by have:=d.1.2.1;omega)).mono λE _=>W.Zs (λ_=>True) (by simp only[Wx]) λj _=>Zr ⟨λ_=>Zb λS=>(by cases S),λ_=>Zb λ_=>⟨_,rfl,d.1,by rw[p,d.2]⟩⟩)) λo w=>w)
 ·obtain⟨i,n,P,R,T⟩:=d;have U:=n.1;refine Zr ⟨λq=>?_,λq=>?_⟩<;>simp only[Wx]at q;rotate_left;·exact Zb ⟨i,Y⟩
  refine Zn (YN ⟨Y,λV I=>W.Zs (λc=>0<=c/\c<=b.1.length) (W.lp (λc=>0<=c/\c<=b.1.length) (λc=>(b.1.length-c).toNat) ⟨Zc,Zc⟩ Y (λc g=>?_) λc g=>g) λc g=>?_⟩);·refine W.Zs (λj=>j=true->c<b.1.length) (by simp only[Wx];exactλS=>⟨Y,λ_ _ _=>S⟩) λj v=>Zr ⟨λk=>Zb ?_,λk=>Zb g⟩;·have:=v k;rw[show Zm (Zv c 1)=c+1by simp only[Wx];exact ZK Y];exact⟨Y,ZB⟩
  ·refine Zn (IJ (show MD b.2.2.2.1=some _ from rfl) (Zn (L9.2 ⟨Y,?_⟩)));have t:JN ((b.1.take c.toNat).drop (0:Int).toNat):=⟨XV,λm l=>n.2 m (yw (sC l))⟩;refine W.Zs _ (Zj1 i t.1) λu⟨B,O,h,⟨Z,C⟩,D⟩=>Zr ⟨λ_=>by rw[bs];exact Zb λS=>(by cases S),λk=>?_⟩;obtain⟨x,y,J,e,K⟩:=D (by cases F:u.2.2.2<;>simp_all[ZA]);refine Zn ((xB (by have:=xe (a:=u.1.1) i B C;rwa[<-h]at this) x y (by rw[e.1];exact e.2.1) e.2.2.1 (by rw[e.1];exact t) (by rw[e.1,h];have:=i.2.2.2.1;omega) (by rw[h];omega)).mono λL⟨z,M,N,X,A⟩=>Zn (L9.2 ⟨by simp only[Wx];omega,Zb ?_⟩));rw[show Zm (Zv b.2.1 1)=b.2.1+1by simp only[Wx];exact ZK Y];refine⟨⟨z,⟨XV,λm l=>n.2 m (yw (sC l))⟩,ZB,ZB,by dsimp only;rw[A,h];simp;omega⟩,ZB⟩
def wB:W (xY s A) λb=>b=true↔1<=A/\A<=s.2.2.1.length:=by
 refine Zn (Zr ⟨λa=>?_,λa=>?_⟩)<;>simp at a;·rw[be Bs];simp[Wx];omega
 ·exact Zb (Zb ⟨Zc,Y⟩)
def j4(h:Vz s):W (Dt s A) JN:=by have f:=h.2.1;refine W.Zs _ wB λd a=>Zr ⟨λ_=>Zb ⟨Zc,Zc⟩,λe=>?_⟩;have:=a.1 Zp;simp only[Wx];rw[ZK Y];refine⟨Y,Y,λc b=>?_⟩;have:=(h.2.2.1 c (X2 b)).2.2;exact(Zdq this).mono λi g=>Zp
def ZlE(h:Vz s):W (Ap s A) λr=>r.length<=1048577:=by have e:=h.2.1;refine W.Zs _ wB λc a=>Zr ⟨λ_=>Zb Zc,λd=>?_⟩;have:=a.1 Zp;simp only[Wx];rw[ZK Y];exact⟨Y,Y,λi f=>⟨Y,Y,λj g=>(ZlQ h.1).mono λr b=>b⟩⟩
def lR(h:0<=A/\A<=o/\o<=f.length):W (Cz f A o) λr=>r.length<=2147483648:=by unfold Cz;simp[Wx];exact⟨h,Zcv⟩
def Zz6(d:f.length<=4294967296):W (lY f A) λr=>r.1.1.length<=2147483648/\r.1.2.length<=2147483648:=by unfold lY;simp only[Wx];exact⟨Zc,λc=>(lR Y).mono λ_ a=>(lR Y).mono λ_ b=>⟨a,b⟩⟩
def Zz5(d:f.length<=4294967296):W (lX f A) λr=>r.1.1.length<=2147483648/\r.1.2.length<=2147483648:=by unfold lX;simp only[Wx];exact⟨Zc,λc=>(lR Y).mono λ_ a=>(lR (by rw[ZK Y];omega)).mono λ_ b=>⟨a,b⟩⟩
theorem Zk3(h:s.2.2.1.length<=2147483648):W (gY s A o) λr=>r.1.1.length<=2147483648/\r.1.2.length<=2147483648:=by
 refine W.Zs (λb=>b=false->0<=A/\o<=s.2.2.1.length/\A<=o) ?_ λb d=>Zr ⟨λ_=>Zb Zc,λa=>W.Zs _ (xS Y) λr e=>?_⟩
 ·refine Zr ⟨λa=>?_,λa=>?_⟩<;>simp at a;·simp[Wx];omega
  ·refine Zn (Zr ⟨λc=>?_,λc=>?_⟩)<;>simp[Wx]at c<;>refine Zb (Zb ?_)<;>simp[Wx]<;>omega
 ·refine EY.2 ⟨Zp,Zn ((Zz6 Zp).mono λ_ h=>Zb h)⟩
def Zlu(h:s.2.2.1.length<=2147483648):W (fa s A o) λr=>r.1.1.length<=2147483648/\r.1.2.length<=2147483648:=by
 refine W.Zs (λb=>b=false->1<=A/\o<=s.2.2.1.length/\A<=o) ?_ λb d=>Zr ⟨λ_=>Zb Zc,λa=>W.Zs _ (xS Y) λr e=>?_⟩
 ·refine Zr ⟨λa=>?_,λa=>?_⟩<;>simp at a;·simp[Wx];omega
  ·refine Zn (Zr ⟨λc=>?_,λc=>?_⟩)<;>simp[Wx]at c<;>refine Zb (Zb ?_)<;>simp[Wx]<;>omega
 ·refine EY.2 ⟨Zp,Zn ((Zz5 Zp).mono λ_ h=>Zb h)⟩
theorem ZcN{c}(h:c.length<=4294967296):W (qm c A) λr=>r.length<=c.length/\∃n,r=c.take n:=by
 refine W.Zs _ (W.lp (λn=>0<=n/\n<=c.length) (λn=>(c.length-n).toNat) ⟨Zc,Zc⟩ Y (λn a=>?_) λn a=>a) λn a=>?_;·refine W.Zs (λb=>b=true->n<c.length) (by simp only[Wx];exactλh=>⟨Y,λ_ _ _=>h⟩) λb e=>Zr ⟨λd=>Zb ?_,λd=>Zb a⟩;·have:=e d;rw[show Zm _=n+1by simp[Wx];exact ZK Y];exact⟨Y,Zp⟩
 ·simp[Wx];refine⟨Y,Zp,Zp,n.toNat,Zc⟩
def ZrJ(f:Vy l):W (nW l A C) λr=>r.1.1.length<=1048577:=by
 have v:=f.1;unfold nW;refine W.Zs _ Fa λr j=>Zr ⟨λ_=>Zb Zc,λe=>?_⟩;simp only[Wx]at e;have g:=j.1 e;refine W.Zs (λa=>a.2.1.length<=1048577) (W.Tl (λa=>-1<=a.1/\a.1<l.length/\a.2.1.length+a.1<l.length) _ (λa=>(a.1+1).toNat) ⟨g.1,g.2,XV⟩ ZB (λa b=>?_) λa b=>b) λa b=>Zb b;obtain⟨D,E,F⟩:=b;refine Zn (ZAW (λc z B k=>?_) λ_ c=>by rw[show ZA false=true from rfl,XD];exact Zb (by simp only[Wx];omega))
 ·rw[show ZA true=false from rfl,Xp];refine Zr ⟨λ_=>Zb (by simp only[Wx];omega),λw=>W.Zs _ Bv λq u=>Zr ⟨λ_=>Zn (dI.mono λ_ _=>Zn (dI.mono λ_ _=>Zb (by simp only[Wx];omega))),λs=>W.Zs _ Bm λG y=>?_⟩⟩;obtain t|⟨m,n,⟨h,o,-⟩,i,p,-⟩:=f.2 _ _ k;·grind
  refine W.Zs (λd=>0<=d.1/\d.1<a.1) (Zr ⟨λ_=>Zb ⟨i,show UY c<a.1by omega⟩,λ_=>Zb ⟨h,show UV c<a.1by omega⟩⟩) λd x=>Zn (dI.mono λ_ _=>Xi ⟨Zp,Zb ⟨Zp,ZB⟩⟩)
def ZlM(h:Vz s):W (fe s d A) λr=>r.1.2.1.1.length<=1048577/\r.1.2.2.length<=2147483648:=by have k:=h.2.1;refine W.Zs (λb=>b=false->d.length<=32) (by refine Zr ⟨λa=>?_,λa=>?_⟩<;>simp[Wx]at a<;>refine Zb ?_<;>simp[Wx]<;>omega) λb g=>Zr ⟨λ_=>Zb Zc,λf=>W.Zs _ wB λe c=>Zr ⟨λ_=>Zb Zc,λa=>?_⟩⟩;·have:=c.1 Zp;have m:=g f;rw[show Zm _=A-1by simp[Wx];exact ZK Y];refine XC ⟨Zp,Zn (YN ⟨Y,λq n=>Zn ((jX Y).mono λo _=>W.Zs _ (ZrJ h.1) λp i=>Zr ⟨λ_=>Zb Zc,λ_=>W.Zs _ (iX h) λe c=>W.Zs _ (ZcN Y) λj l=>Zb ⟨i,Zp⟩⟩)⟩)⟩
def Sim(f g:VB):Prop:=∀(c:Nat)(a:SQ),g[c]?=some a->∃b,f[c]?=some b/\a.1=b.1/\Wp a=Wp b
def ZkT(h:Vz s):W (qR s) λr=>Vz r/\r.2.2.1=s.2.2.1:=by
 obtain⟨D,s2,s3,s4,s5,s6⟩:=h;have x1:=D.1;unfold qR;rw[be Zct];refine Zn (IJ (show MD s.2.1=some _ from rfl) (W.Zs (λa=>Vy a.2.2.1/\a.2.2.1.length=s.2.1.length/\a.2.2.2.2=([],[])) (W.Tl (λa=>Vy a.2.2.1/\a.1=a.2.2.1.length/\a.2.2.1.length<=s.2.1.length/\Sim s.2.1 a.2.2.1/\a.2.2.2.2=([],[])) _ (λa=>(s.2.1.length-a.1).toNat) ⟨Gv (h:=s.1)|>.1,rfl,W7 _,(λo p l=>by cases l),rfl⟩ ZB (λa i=>?_) λa i=>i) λa i=>Xi ⟨by simp only[Wx];omega,W.Zs (λv=>v.2.2.1=a.2.2.1/\v.2.2.2.1=s.2.2.1/\v.2.2.2.2.1.length<=s.2.2.2.1.length/\(∀e∈v.2.2.2.2.1,e.2.length<=2147483648)/\EJ v.2.2.2.2.2 v.2.2.2.2.1.length) (W.lp (λv=>v.2.2.1=a.2.2.1/\v.2.2.2.1=s.2.2.1/\0<=v.1/\v.1<=s.2.2.2.1.length/\v.2.2.2.2.1.length=v.1/\(∀e∈v.2.2.2.2.1,e.2.length<=2147483648)/\EJ v.2.2.2.2.2 v.2.2.2.2.1.length) (λv=>(s.2.2.2.1.length-v.1).toNat) ?_ ZB (λv d=>?_) λv d=>⟨d.1,d.2.1,by have:=d.2.2.2.1;have:=d.2.2.2.2.1;omega,d.2.2.2.2.2⟩) λv d=>Zb ?_⟩))
 ·obtain⟨n,t,u,w,E⟩:=i;refine Zr ⟨λf=>?_,λf=>Zb ⟨n,by simp only[Wx]at f;omega,E⟩⟩;simp only[Wx]at f;refine Zn (ZAW (λC n1 n2 q=>?_) λV=>absurd ⟨Y,f⟩ V);have U:MV a.2.2.1 a.2.2.1.length C:=by
   have X:a.1.toNat=a.2.2.1.length:=Y;rw[X]at q;obtain h|⟨f,N,⟨O,P,Q⟩,R,S,T⟩:=D.2 _ _ q;·exact .inl h
   ·refine .inr ⟨f,N,⟨O,P,λp l=>by obtain⟨n',g,-,m⟩:=w _ _ l;rw[m];exact Q _ g⟩,R,S,λp l=>by obtain⟨n',g,-,m⟩:=w _ _ l;rw[m];exact T _ g⟩
  refine W.Zs _ (Zby n) λI⟨J,K,a3,L⟩=>Zb ?_;obtain⟨p,g,m2,m,m4,-⟩:=K (L U Y);dsimp only at g;have hl:I.1.length=a.2.2.1.length+1:=by rw[g];simp
  rw[show Zm (Zv a.1 1)=a.1+1by simp only[Wx];exact ZK Y];refine⟨⟨J,ZB,ZB,λo z c=>?_,E⟩,ZB⟩;dsimp only at c;rw[g]at c;obtain B|B:=Rn o a.2.2.1.length;·rw[VE B]at c;exact w o z c
  ·have Z:=OL c;simp at Z;have:o=a.2.2.1.length:=Y;subst this;rw[MK (YA _)]at c;simp at c;subst c;exact⟨C,by rw[<-q];congr 1;omega,m,m4⟩
 ·obtain⟨n,t,u⟩:=i;refine⟨rfl,rfl,Zc,Zc,?_,?_,?_⟩<;>dsimp only<;>rw[u];·rfl
  ·intro e b;cases b
  ·intro e b;cases b
 ·obtain⟨j,k,F,x,y,G,H⟩:=d;simp only[Wx];refine⟨λf=>⟨Y,Y,λz c=>?_⟩,λf=>⟨j,k,F,x,y,G,H⟩⟩;have x0:=s5 z (X2 c);rw[ZK Y];refine⟨Y,XV,⟨j,k,Y,Y,XV,λe b=>?_,λe b=>?_⟩,Y⟩
  ·obtain b|b:=ZY b;·exact G e b
   ·rw[YV b];exact x0
  ·obtain b|b:=oK b;·rw[b];simp;omega
   ·have:=H e b;simp;omega
 ·obtain⟨n,t,u⟩:=i;obtain⟨j,k,F,x,y⟩:=d;refine⟨⟨by rw[j];exact n,by rw[k];exact s2,λM A=>?_,by rw[j];omega,x,y⟩,k⟩;rw[k]at A;rw[j,t];exact s3 M A
def XR(c:Nat)(w w':ZP):Prop:=(w.2=true->w'=w)/\w'.1.length<=w.1.length+c
def XR.trans{w' b}(h:XR B i w')(k:XR z w' b):XR (B+z) i b:=⟨λa=>by have:=h.1 a;subst this;exact k.1 a,by have:=h.2;have:=k.2;omega⟩
def XR.le{w'}(h:XR B i w')(k:B<=z):XR z i w':=⟨h.1,by have:=h.2;omega⟩
def XR.put{w}{l}:XR l.length w (put w l):=⟨Ca,zo w l⟩
theorem XR.Vd{w}{x m}:XR 0 w (Vd w x m):=⟨λa=>by unfold Go.R.Vd;grind,by rw[CM];omega⟩
def uX(h:i.1.length<=4000000000):W (Hf i) (XR 1 i):=by unfold Hf;rw[be (ip Y)];exact Zb ((XR.Vd.trans XR.put).le (by rw[Va];omega))
def Ft(h:i.1.length<=4000000000):W (Px i A) (XR 1 i):=by rw[ip Y];exact Zb ((XR.Vd.trans XR.put).le (by rw[Va];omega))
def DP(h:i.1.length<=4000000000):W (Qk i A) (XR 4 i):=by refine Zn (W.mono (P:=λ_=>True) (by simp[Wx]) λa _=>Zr ⟨λ_=>Zn ((uX h).mono λ_ h=>Zb (h.le Zc)),λ_=>?_⟩);rw[be (BM Y)];exact Zb (XR.put.le (by rw[Va];omega))
def ZqF(h:i.1.length<=4000000000):W (DM i A) (XR 1 i):=by exact Zn (W.mono (P:=λ_=>True) (by simp[Wx]) λa _=>Zr ⟨λ_=>Zn ((uX h).mono λ_ h=>Zb h),λ_=>Zn ((Ft h).mono λ_ h=>Zb h)⟩)
def ZfL(h:i.1.length<=2000000000)(a:d.length<=2000000000):W (NO i d) (XR (2+d.length) i):=by rw[rR Y];exact Zb ((XR.Vd.trans XR.put).le (by simp[Va]))
def oM(h:i.1.length<=2000000000):W (Lj i d) (XR 66 i):=by refine Zr ⟨λ_=>Zn ((uX Y).mono λ_ h=>Zb (h.le Zc)),λa=>?_⟩;simp[Wx]at a;exact Zn ((ZfL h Y).mono λ_ h=>Zb (h.le Y))
def vD(h:i.1.length<=2000000000)(a:d.length<=2000000000):W (Tp i d) (XR d.length i):=by rw[xc Y];exact Zb XR.put
def Nv(h:i.1.length<=2000000000):W (Pl i C) (XR 32 i):=by refine Up ⟨Zc,Zn ((vD h Zc).mono λ_ h=>Zb Zp)⟩
theorem fJ:W (Kj S) λr=>r.1.length<=72:=by refine Zn (W.mono (P:=λ_=>True) (by unfold Fh;simp only[Wx]) λi _=>Zr ⟨λ_=>Zb Zc,λ_=>?_⟩);have a:XR 4 ([],false) (put ([],false) (Xf ((Yl 32 S.1).setWidth 64) 4)):=XR.put.le (by rw[Va];omega);rw[be (BM Zc)];have b:=a.trans (XR.put (l:=Xf ((Yl 32 S.2.1).setWidth 64) 4));rw[Va]at b;have g:=a.2;have h:=b.2;simp at g h;rw[be (BM Y)];refine Up ⟨Y,W.Zs _ (vD Y (by simp[Xo,YK,XK])) λj c=>Up ⟨Y,W.Zs _ (vD (by have:=c.2;grind) Zc) λk f=>?_⟩⟩;have d:=c.2;have e:=f.2;simp[Xo,YK,XK]at d e;rw[be (EN Y)];refine Zb ?_;grind
def ZeJ{s}(h:i.1.length<=1000000000)(hs:s.2.length<=1000000000):W (Fi i s) (XR (74+s.2.length) i):=by refine W.Zs _ fJ λd c=>Zr ⟨λ_=>Zn ((Ft Y).mono λ_ h=>Zb (h.le Y)),λ_=>W.Zs _ (vD Y Y) λe a=>Zn ((ZfL (by have:=a.2;omega) Y).mono λf b=>Zb ((a.trans b).le Y))⟩
def wW{n:ZP->j->Zg ZP}{c}(B:i.1.length<=500000000)(y:c<=10000)(z:K.length<=4294967296)(hi:∀i x,x∈K->i.1.length<=600000000->W (n i x) (XR c i)):W (O (Oh i (Zi (Zj K))) λr=>O (YE (λd=>Zf (ZC d.1 (Zi (Zj K))) (O (ZF K d.1) λs=>O (n d.2 s) λt=>some (.next (Zm (Zv d.1 1),t))) (some (.brk d))) (0,r)) λu=>some u.2) (XR (2+4096*c) i):=by
 rw[be (jL Y)];have f:XR 2 i (put (Vd i (Zi (Zj K)) 4096) (Xf (BitVec.ofInt 64 (Zi (Zj K))) 2)):=(XR.Vd.trans XR.put).le (by rw[Va];omega);have b:(put (Vd i (Zi (Zj K)) 4096) (Xf (BitVec.ofInt 64 (Zi (Zj K))) 2)).2=true\/K.length<=4096:=by
  by_cases e:K.length<=4096;·exact .inr e
  ·refine .inl ?_;have:Vd i (Zi (Zj K)) 4096=(i.1,true):=by unfold Vd;rw[Y4 (by simp only[Wx];omega)]
   rw[this];simp[put]
 generalize put (Vd i (Zi (Zj K)) 4096) (Xf (BitVec.ofInt 64 (Zi (Zj K))) 2)=v at f b;have w:=f.2;have hm:c*K.length<=4096*c\/v.2=true:=by
  obtain b|b:=b;·exact .inr b
  ·exact .inl (by rw[sK];exact Q0 c b)
 refine W.Zs (λa=>XR (4096*c) v a.2) (W.Tl (λa=>0<=a.1/\a.1<=K.length/\XR (c*a.1.toNat) v a.2/\(v.2=true->a.2=v)) _ (λa=>(K.length-a.1).toNat) ⟨Zc,Zc,⟨λ_=>rfl,Zc⟩,λ_=>rfl⟩ ZB (λa g=>?_) λ_ e=>e) λa g=>Zb (f.trans g);obtain⟨C,D,h,o⟩:=g;have A:c*a.1.toNat<=c*K.length:=Nat.mul_le_mul_left c Y;have p:a.2.1.length<=v.1.length+4096*c:=by
  obtain hm|hm:=hm;·have:=h.2;omega
  ·rw[o hm];omega
 refine Zr ⟨λl=>?_,λl=>Zb ⟨h.1,p⟩⟩;simp only[Wx]at l;refine Zn (YN ⟨Y,λx q=>Zn ((hi _ _ (X2 q) Y).mono λE m=>Zb ?_)⟩);rw[show Zm (Zv a.1 1)=a.1+1by simp only[Wx];exact ZK Y];refine⟨⟨ZB,ZB,(h.trans m).le<|by dsimp only;rw[show(a.1+1).toNat=a.1.toNat+1by omega,Nat.mul_add,Ga];omega,λk=>by dsimp only;have:=o k;rw[<-this];exact m.1 (by rw[this];exact k)⟩,ZB⟩
def ew(b:i.1.length<=500000000)(a:f.length<=4294967296):W (AZ i f) (XR 131074 i):=by exact wW b (c:=32) Zc a λi e _ d=>Nv Y
def ZfN{t}(c:i.1.length<=400000000)(h1:t.1.length<=4294967296)(h2:t.2.length<=4294967296):W (vq i t) (XR 262148 i):=by exact W.Zs _ (ew Y h1) λd a=>Zn ((ew (by have:=a.2;omega) h2).mono λe b=>Zb ((a.trans b).le Zc))
def dB(h:i.1.length<=1000000000):W (AY i x) (XR 34 i):=by refine W.Zs _ D5 λb _=>Zr ⟨λ_=>Zn ((uX Y).mono λ_ h=>Zb (h.le Zc)),λ_=>?_⟩;rw[be (ZcL Y)];have a:XR 2 i (put (Vd i x.1 65535) (Xf (BitVec.ofInt _ x.1) 2)):=(XR.Vd.trans XR.put).le (by rw[Va];omega);exact Zn ((Nv (by have:=a.2;omega)).mono λ_ h=>Zb (a.trans h))
def ZqW{p}(h:i.1.length<=1000000000):W (oB i p) (XR 66 i):=by exact W.Zs _ (dB h) λb a=>Zn ((Nv (by have:=a.2;omega)).mono λ_ h=>Zb (a.trans h))
def jn{α}{c}{A B}{Q:α->Prop}(h1:c=true->W A Q)(h2:c=false->W B Q):W (O (Zf c A B) λz=>some z) Q:=Zn (Zr ⟨λa=>(h1 a).mono λ_ b=>Zb b,λa=>(h2 a).mono λ_ b=>Zb b⟩)
def ZqP{p}(o:i.1.length<=400000000)(h1:p.1.length<=4294967296):W (vo i p) (XR 280000 i):=by unfold vo;refine W.Zs _ (show W (vz i p.1) (XR 270338 i)by unfold vz;exact wW Y (c:=66) Y h1 λi f _ m=>ZqW Y) λv d=>W.Zs (λg=>XR 280000 i g.1) ?_ λg j=>Zb j;have n:=d.2;refine Zr ⟨λ_=>Zn ((Ft Y).mono λf a=>Zb ((d.trans a).le Y)),λ_=>jn (λ_=>by refine W.Zs _ (Ft Y) λf a=>W.Zs _ (Nv (by have:=a.2;omega)) λk b=>Zn ((Nv (by have:=a.2;have:=b.2;omega)).mono λl e=>Zb ((((d.trans a).trans b).trans e).le Y))) λ_=>jn (λ_=>by refine W.Zs _ (Ft Y) λf a=>W.Zs _ (dB (by have:=a.2;omega)) λk b=>W.Zs _ (Nv (by have:=a.2;have:=b.2;omega)) λl e=>Zn ((Nv (by have:=a.2;have:=b.2;have:=e.2;omega)).mono λq h=>Zb (((((d.trans a).trans b).trans e).trans h).le Y))) λ_=>Zn ((uX Y).mono λf a=>Zb ((d.trans a).le Y))⟩
def ZfP{v}(l:i.1.length<=1000000000):W (vr i v) (XR 138 i):=by refine W.Zs _ (DP Y) λf d=>W.Zs _ (DP (by have:=d.2;omega)) λg a=>?_;have a:=d.trans a;refine W.Zs _ (Nv (by have:=a.2;omega)) λh b=>?_;have b:=a.trans b;refine W.Zs _ (Nv (by have:=b.2;omega)) λj c=>?_;have c:=b.trans c;exact Zn ((oM (by have:=c.2;omega)).mono λk e=>Zb ((c.trans e).le Zc))
def ZqS{r}(j:i.1.length<=900000000):W (vp i r) (XR 99 i):=by unfold vp;rw[be (Zca Y)];have c:XR 1 i (put i [if r.1then 1#8 else 0#8]):=XR.put;have h:=c.2;refine Zr ⟨λ_=>W.Zs _ (Nv Y) λd a=>Zn ((Nv (by have:=a.2;omega)).mono λe b=>Zb (((c.trans a).trans b).le Y)),λ_=>W.Zs _ (dB Y) λd a=>W.Zs _ (Nv (by have:=a.2;omega)) λe b=>Zn ((Nv (by have:=a.2;have:=b.2;omega)).mono λg f=>Zb ((((c.trans a).trans b).trans f).le Y))⟩
def ZqH{n}(e:i.1.length<=900000000):W (oA i n) (XR 204 i):=by exact W.Zs _ (oM Y) λc a=>Zn ((ZfP (by have:=a.2;omega)).mono λd b=>Zb (a.trans b))
def eS(m:Yy):Prop:=m.2.2.2.2.2.2.2.2.2.1.2.length<=1000000000/\m.2.2.2.2.2.2.2.2.2.2.1.1.length<=4294967296/\m.2.2.2.2.2.2.2.2.2.2.1.2.length<=4294967296/\m.2.2.2.2.2.2.2.2.2.2.2.1.1.length<=4294967296/\m.2.2.2.2.2.2.2.2.2.2.2.1.2.length<=4294967296/\m.2.2.2.2.2.2.2.2.2.2.2.2.2.1.1.length<=4294967296/\m.2.2.2.2.2.2.2.2.2.2.2.2.2.2.1.length<=4294967296/\m.2.2.2.2.2.2.2.2.2.2.2.2.2.2.2.1.length<=4294967296/\m.2.2.2.2.2.2.2.2.2.2.2.2.2.2.2.2.1.length<=4294967296/\m.2.2.2.2.2.2.2.2.2.2.2.2.2.2.2.2.2.length<=4294967296
def ZoW{m}(B:i.1.length<=100000000)(h:m.2.2.2.2.2.2.2.2.2.1.2.length<=20000000\/True)(l:eS m):W (SW i m A) λr=>r.1.length<=i.1.length+1001000000/\(m.2.2.2.2.2.2.2.2.2.1.2.length<=100000->r.1.length<=i.1.length+1100000):=by obtain⟨o,q,s,t,u,v,w,x,y,p⟩:=l;unfold SW;have a:∀{c:Nat}{d:Zg ZP},W d (XR c i)->c<=1001000000->(m.2.2.2.2.2.2.2.2.2.1.2.length<=100000->c<=1100000)->W (O d λf=>some (f,m)) λr=>r.1.1.length<=i.1.length+1001000000/\(m.2.2.2.2.2.2.2.2.2.1.2.length<=100000->r.1.1.length<=i.1.length+1100000):=λg z j=>Zn (g.mono λf b=>Zb ⟨by have:=b.2;dsimp only;omega,λk=>by have:=b.2;have:=j k;dsimp only;omega⟩);refine W.Zs _ (Zr ⟨λ_=>a (DP Y) Y Y,λ_=>jn (λ_=>a (DP Y) Y Y) λ_=>jn (λ_=>a (DP Y) Y Y) λ_=>jn (λ_=>a (DP Y) Y Y) λ_=>jn (λ_=>a (DP Y) Y Y) λ_=>jn (λ_=>a (ZqF Y) Y Y) λ_=>jn (λ_=>a (oM Y) Y Y) λ_=>jn (λ_=>a (oM Y) Y Y) λ_=>jn (λ_=>a (ZeJ Y o) Y Y) λ_=>jn (λ_=>a (ZfN Y q s) Y Y) λ_=>jn (λ_=>a (ZfN Y t u) Y Y) λ_=>jn (λ_=>a (Nv Y) Y Y) λ_=>jn (λ_=>a (ZqP Y v) Y Y) λ_=>jn (λ_=>a (c:=565250) (by unfold oF;exact wW Y (c:=138) Y w λi e _ h=>ZfP Y) Y Y) λ_=>jn (λ_=>a (c:=405506) (by unfold A7;exact wW Y (c:=99) Y x λi e _ h=>ZqS Y) Y Y) λ_=>jn (λ_=>a (c:=835586) (by unfold A8;exact wW Y (c:=204) Y y λi e _ h=>ZqH Y) Y Y) λ_=>jn (λ_=>a (ew Y p) Y Y) λ_=>Zb ⟨ZB,λ_=>ZB⟩⟩) λr n=>Zb n
def Zeo:W (Mm A) λl=>l.length<=12:=by repeat(first|exact Zb Zc|refine Zr ⟨λ_=>Zb Zc,λ_=>?_⟩)
def aM{m}:W (Fv m A) λ_=>True:=by unfold Fv;simp[Wx]
theorem ZkX{m}(i:eS m)(hs:m.2.2.2.2.2.2.2.2.2.1.2.length<=100000):W (UP m) λr=>r.1.length<=14000000:=by
 unfold UP;refine W.Zs _ Zeo λe n=>Zr ⟨λ_=>Zb Zc,λ_=>W.Zs _ (Ft Zc) λv j=>?_⟩;have o:=j.2;refine W.Zs (λa=>a.2.2.1.length<=14000000) (W.lp (λa=>0<=a.1/\a.1<=e.length/\a.2.1=m/\a.2.2.1.length<=1+1100000*a.1.toNat) (λa=>(e.length-a.1).toNat) ⟨Zc,Zc,rfl,XV⟩ ZB (λa c=>?_) λa c=>Y) λa c=>?_;·obtain⟨f,g,b,h⟩:=c;refine Zr ⟨λd=>?_,λd=>Zb ⟨f,g,b,h⟩⟩;simp only[Wx]at d;refine Zn (YN ⟨Y,λq p=>Zn (aM.mono λl _=>Zr ⟨λ_=>Zb ⟨f,g,b,h⟩,λ_=>Zn ((ZoW Y (.inr trivial) (by rw[b];exact i)).mono λs k=>Zb ?_)⟩)⟩);have:=k.2 (by rw[b];exact hs);rw[show Zm (Zv a.1 1)=a.1+1by simp only[Wx];exact ZK Y];exact⟨⟨ZB,ZB,b,ZB⟩,ZB⟩
 ·rw[be (EN Y)];refine Zr ⟨λ_=>Zb Zc,λ_=>Zb ?_⟩;grind
def Rd(r:ZP)(P:j->Prop)(o:ZP×j):Prop:=o.1.1.length<=r.1.length/\P o.2
def KA(h:i.2=false)(a:0<=A)(h1:A<=i.1.length):tk i A=((i.1.drop A.toNat,false),i.1.take A.toNat):=by unfold tk;rw[Ys Zp,Ys Y]
def q9:W (DL i) λo=>o.1.length<=i.1.length:=by unfold DL;rw[be Pp];exact Zb Te.1
def Dn:W (SU i) (Rd i λn=>0<=n/\n<2147483648):=by unfold SU;rw[be Pq];refine Zr ⟨λ_=>Zn (q9.mono λc a=>Zb ⟨WB a Te.1,Zc⟩),λa=>Zb ⟨Te.1,?_⟩⟩;have:¬2147483648#32<=(pk i 4).1.setWidth _:=Xk;rw[kW]at this;simp at this⊢;have b:(2147483648#32).toNat=2147483648:=rfl;omega
def ZnS:W (DK i) (Rd i λn=>0<=n/\n<=13):=by unfold DK;rw[be uo];refine Zr ⟨λ_=>Zn (q9.mono λb a=>Zb ⟨WB a Te.1,Zc⟩),λa=>Zb ⟨Te.1,?_⟩⟩;grind
theorem Zz9{r}{n}:(tk r n).2.length<=n.toNat:=by unfold tk;grind
theorem zI{r}{m}(a:0<=m):(TX r m).1.1.length<=r.1.length/\(TX r m).2.length<=m/\(TX r m).2.length<=8192:=by
 unfold TX;split;·grind
 ·have b:=@Te (tk r 2).1 (pk r 2).1.toNat;have c:=@Te r 2;have d:=@Zz9 (tk r 2).1 (pk r 2).1.toNat;omega
def qM(h:i.1.length<=4000000000):W (Ml i) (Rd i λb=>b.length<=64):=by unfold Ml;rw[be (JX Y)];have:=@zI i 64 Zc;exact Zb ⟨this.1,Y⟩
def Nn:W (P7 i) (Rd i λ_=>True):=by refine Up ⟨Zc,?_⟩;rw[be Pp];exact Zb ⟨Te.1,Zc⟩
def gj{r}{m}(h:0<=m):(M6 r m).1.1.length<=r.1.length/\0<=(M6 r m).2/\(M6 r m).2<=m:=by
 unfold M6;split;·grind
 ·exact⟨Te.1,Zc,Y⟩
def wO{h:ZP->Zg (ZP×j)}{P}(f:i.1.length<=B)(hi:∀i,i.1.length<=B->W (h i) (Rd i P)):W (O (LH i 4096) λm=>X4 (X3 (λc=>Zf (ZC c.2.1 m.2) (O (h c.2.2) λd=>O (QT d.1) λv=>Zf v (O (some (d.1,[])) λw=>some (.ret w)) (Yt (Zj c.1) (Zj [d.2]) (some (.next (Ye c.1 [d.2],Zm (Zv c.2.1 1),d.1))))) (some (.brk c))) ([],0,m.1)) λn=>some (n.2.2,n.1)) (Rd i λl=>l.length<=4096/\∀x∈l,P x):=by
 rw[be um];obtain⟨p,q,y⟩:=@gj i 4096 Y;refine WM (W.Pk (λa=>0<=a.2.1/\a.2.1<=(M6 i 4096).2/\a.1.length=a.2.1/\a.2.2.1.length<=i.1.length/\∀x∈a.1,P x) (λa=>((M6 i 4096).2-a.2.1).toNat) _ ⟨Zc,q,Zc,p,λx b=>by cases b⟩ ZB (λa e=>?_) (λa e=>Zb ⟨e.2.2.2.1,Zp,e.2.2.2.2⟩) λi f=>f);obtain⟨r,s,t,u,k⟩:=e;refine Zr ⟨λb=>?_,λb=>Zb ⟨r,s,t,u,k⟩⟩;simp only[Wx]at b;refine W.Zs _ (hi _ Y) λo g=>?_;have z:=g.1;rw[be (show QT o.1=some o.1.2from rfl),bs];refine Zr ⟨λ_=>Zb ⟨ZB,Zc,λx b=>by cases b⟩,λ_=>Xi ⟨Zp,Zb ?_⟩⟩;rw[show Zm (Zv a.2.1 1)=a.2.1+1by simp only[Wx];exact ZK Y];refine⟨⟨ZB,ZB,Zp,ZB,λx hx=>?_⟩,ZB⟩;obtain hx|hx:=ZY hx;·exact k x hx
 ·rw[YV hx];exact g.2
abbrev LL(l:L j):Prop:=l.length<=4096
def fP:W (vu i) (Rd i λl=>LL l/\∀x∈l,True):=by exact wO (YA _) λi _=>Nn
def ZdS:W (oy i) (Rd i λt=>LL t.1/\LL t.2):=by exact W.Zs _ fP λc a=>Zn (fP.mono λd b=>Zb ⟨WB b.1 a.1,a.2.1,b.2.1⟩)
def gV:W (AX i) (Rd i λ_=>True):=by unfold AX;rw[be Zwo];refine W.Zs _ Nn λc a=>Zn (D5.mono λd _=>Zr ⟨λ_=>Zn (q9.mono λe b=>Zb ⟨WB b (WB a.1 Te.1),Zc⟩),λ_=>Zb ⟨WB a.1 Te.1,Zc⟩⟩)
def Zoi:W (di i) (Rd i λ_=>True):=by exact W.Zs _ gV λc a=>Zn (Nn.mono λd b=>Zb ⟨WB b.1 a.1,Zc⟩)
def Zoc:W (dh i) (Rd i λp=>LL p.1):=by refine W.Zs _ (by unfold dk;exact wO (YA _) λi _=>Zoi) λf j=>?_;obtain⟨d,a,-⟩:=j;rw[be uo];have e:=@Te f.1 1;refine jn (λ_=>Zb ⟨Zp,a⟩) λ_=>jn (λ_=>W.Zs _ Nn λg b=>Zn (Nn.mono λh c=>Zb ⟨WB c.1 (WB b.1 (WB e.1 d)),a⟩)) λ_=>jn (λ_=>W.Zs _ gV λg b=>W.Zs _ Nn λh c=>Zn (Nn.mono λl k=>Zb ⟨WB k.1 (WB c.1 (WB b.1 (WB e.1 d))),a⟩)) λ_=>Zn (q9.mono λn m=>Zb ⟨Zp,a⟩)
def ZdU(h:i.1.length<=4000000000):W (oz i) (Rd i λv=>v.2.2.2.2.length<=64):=by exact W.Zs _ Dn λf a=>W.Zs _ Dn λg b=>W.Zs _ Nn λj c=>W.Zs _ Nn λk d=>Zn ((qM (by have:=a.1;have:=b.1;have:=c.1;have:=d.1;omega)).mono λl e=>Zb ⟨by have:=a.1;have:=b.1;have:=c.1;have:=d.1;have:=e.1;grind,e.2⟩)
def Zof:W (ox i) (Rd i λ_=>True):=by
 unfold ox;rw[be bz];have g:(pi i).1.1.length<=i.1.length:=by refine WB Te.1 ?_;split<;>simp
 refine Zr ⟨λ_=>W.Zs _ Nn λc a=>Zn (Nn.mono λd b=>Zb ⟨by have:=a.1;have:=b.1;grind,Zc⟩),λ_=>W.Zs _ gV λc a=>W.Zs _ Nn λd b=>Zn (Nn.mono λf e=>Zb ⟨by have:=a.1;have:=b.1;have:=e.1;grind,Zc⟩)⟩
def Zn5(h:i.1.length<=4000000000):W (de i) (Rd i λn=>n.1.length<=64/\n.2.2.2.2.2.length<=64):=by exact W.Zs _ (qM h) λc a=>Zn ((ZdU (by have:=a.1;omega)).mono λd b=>Zb ⟨WB b.1 a.1,a.2,b.2⟩)
def ZeQ:W (Fh S) λc=>c=true->1<=S.1/\S.1<2147483648:=by unfold Fh;simp only[Wx];exactλS=>⟨S.1.1.1,S.1.1.2⟩
def Zpt:W (fL d) λr=>r.2=0->d.length=72/\1<=r.1.1/\r.1.1<2147483648:=by refine Zr ⟨λ_=>Zb Zc,λa=>?_⟩;simp[Wx]at a;rw[be (O1 Y),be Pq,KA rfl Y Zp,be Pq,KA rfl Y Zp,be Pp,KA rfl Zc Zp];refine Zn (rU.2 ⟨Zp,?_⟩);rw[be Pp,KA rfl Zc Zp];refine Zn (rU.2 ⟨Zp,W.Zs _ ZeQ λb e=>Zr ⟨λ_=>Zb Zc,λc=>Zb λ_=>?_⟩⟩);grind
def ZeK(h:i.1.length<=4000000000):W (wC i) (Rd i λs=>s.2.length<=8192):=by unfold wC;rw[be Pp];have a:=@Te i 72;refine W.Zs _ Zpt λc d=>Zr ⟨λ_=>by rw[be Pp];exact Zb ⟨WB Te.1 a.1,Zc⟩,λ_=>?_⟩;·rw[be (JX Y)];have b:=@zI (tk i 72).1 8192 Zc;rw[be (show QT _=some _ from rfl)];exact Zr ⟨λ_=>Zb ⟨Zp,Zc⟩,λ_=>Zb ⟨WB b.1 a.1,b.2.2⟩⟩
def Qi(m:Yy):Prop:=(0<=m.2.1/\m.2.1<2147483648)/\(0<=m.2.2.1/\m.2.2.1<2147483648)/\(0<=m.2.2.2.1/\m.2.2.2.1<2147483648)/\(0<=m.2.2.2.2.1/\m.2.2.2.2.1<2147483648)/\(0<=m.2.2.2.2.2.1/\m.2.2.2.2.2.1<2147483648)/\(0<=m.2.2.2.2.2.2.1/\m.2.2.2.2.2.2.1<=13)/\m.2.2.2.2.2.2.2.1.length<=64/\m.2.2.2.2.2.2.2.2.1.length<=64/\m.2.2.2.2.2.2.2.2.2.1.2.length<=8192/\(LL m.2.2.2.2.2.2.2.2.2.2.1.1/\LL m.2.2.2.2.2.2.2.2.2.2.1.2)/\(LL m.2.2.2.2.2.2.2.2.2.2.2.1.1/\LL m.2.2.2.2.2.2.2.2.2.2.2.1.2)/\LL m.2.2.2.2.2.2.2.2.2.2.2.2.2.1.1/\(LL m.2.2.2.2.2.2.2.2.2.2.2.2.2.2.1/\∀v∈m.2.2.2.2.2.2.2.2.2.2.2.2.2.2.1,v.2.2.2.2.length<=64)/\LL m.2.2.2.2.2.2.2.2.2.2.2.2.2.2.2.1/\JN m.2.2.2.2.2.2.2.2.2.2.2.2.2.2.2.2.1/\LL m.2.2.2.2.2.2.2.2.2.2.2.2.2.2.2.2.2
def ZnY{m}(h:i.1.length<=4000000000)(z:Qi m):W (RZ i m A) λo=>o.1.1.length<=i.1.length/\Qi o.2:=by obtain⟨b,l,n,p,q,r,s,t,u,c,d,e,f,g,j,k⟩:=z;unfold RZ;refine Zn (W.mono (P:=λo=>o.1.1.length<=i.1.length/\Qi o.2) (Zr ⟨λ_=>Zn (Dn.mono λw a=>Zb ⟨a.1,⟨a.2,l,n,p,q,r,s,t,u,c,d,e,f,g,j,k⟩⟩),λ_=>jn (λ_=>Zn (Dn.mono λw a=>Zb ⟨a.1,⟨b,a.2,n,p,q,r,s,t,u,c,d,e,f,g,j,k⟩⟩)) λ_=>jn (λ_=>Zn (Dn.mono λw a=>Zb ⟨a.1,⟨b,l,a.2,p,q,r,s,t,u,c,d,e,f,g,j,k⟩⟩)) λ_=>jn (λ_=>Zn (Dn.mono λw a=>Zb ⟨a.1,⟨b,l,n,a.2,q,r,s,t,u,c,d,e,f,g,j,k⟩⟩)) λ_=>jn (λ_=>Zn (Dn.mono λw a=>Zb ⟨a.1,⟨b,l,n,p,a.2,r,s,t,u,c,d,e,f,g,j,k⟩⟩)) λ_=>jn (λ_=>Zn (ZnS.mono λw a=>Zb ⟨a.1,⟨b,l,n,p,q,a.2,s,t,u,c,d,e,f,g,j,k⟩⟩)) λ_=>jn (λ_=>Zn ((qM h).mono λw a=>Zb ⟨a.1,⟨b,l,n,p,q,r,a.2,t,u,c,d,e,f,g,j,k⟩⟩)) λ_=>jn (λ_=>Zn ((qM h).mono λw a=>Zb ⟨a.1,⟨b,l,n,p,q,r,s,a.2,u,c,d,e,f,g,j,k⟩⟩)) λ_=>jn (λ_=>Zn ((ZeK h).mono λw a=>Zb ⟨a.1,⟨b,l,n,p,q,r,s,t,a.2,c,d,e,f,g,j,k⟩⟩)) λ_=>jn (λ_=>Zn (ZdS.mono λw a=>Zb ⟨a.1,⟨b,l,n,p,q,r,s,t,u,a.2,d,e,f,g,j,k⟩⟩)) λ_=>jn (λ_=>Zn (ZdS.mono λw a=>Zb ⟨a.1,⟨b,l,n,p,q,r,s,t,u,c,a.2,e,f,g,j,k⟩⟩)) λ_=>jn (λ_=>Zn (Nn.mono λw a=>Zb ⟨a.1,⟨b,l,n,p,q,r,s,t,u,c,d,e,f,g,j,k⟩⟩)) λ_=>jn (λ_=>Zn (Zoc.mono λw a=>Zb ⟨a.1,⟨b,l,n,p,q,r,s,t,u,c,d,a.2,f,g,j,k⟩⟩)) λ_=>jn (λ_=>Zn ((show W (oC i) (Rd i λx=>LL x/\∀v∈x,v.2.2.2.2.length<=64)by unfold oC;exact wO h λi h=>ZdU h).mono λw a=>Zb ⟨a.1,⟨b,l,n,p,q,r,s,t,u,c,d,e,a.2,g,j,k⟩⟩)) λ_=>jn (λ_=>Zn ((show W (oD i) (Rd i λx=>LL x/\∀v∈x,True)by unfold oD;exact wO h λi h=>Zof).mono λw a=>Zb ⟨a.1,⟨b,l,n,p,q,r,s,t,u,c,d,e,f,a.2.1,j,k⟩⟩)) λ_=>jn (λ_=>Zn ((show W (oE i) (Rd i λx=>LL x/\∀y∈x,y.1.length<=64/\y.2.2.2.2.2.length<=64)by unfold oE;exact wO h λi h=>Zn5 h).mono λw a=>Zb ⟨a.1,⟨b,l,n,p,q,r,s,t,u,c,d,e,f,g,⟨by have:=a.2.1;dsimp only;omega,λy B=>by have:=a.2.2 y B;omega⟩,k⟩⟩)) λ_=>jn (λ_=>Zn (fP.mono λw a=>Zb ⟨a.1,⟨b,l,n,p,q,r,s,t,u,c,d,e,f,g,j,a.2.1⟩⟩)) λ_=>Zb ⟨YA _,⟨b,l,n,p,q,r,s,t,u,c,d,e,f,g,j,k⟩⟩⟩) λo C=>Zb C)
theorem Zb2{b}(h:b.length<=1000000):W (RY b) λo=>o.2=0->Qi o.1:=by
 unfold RY;rw[be (O1 Y),be uo];refine W.Zs _ Zeo λf k=>Zr ⟨λ_=>Zb Zc,λ_=>W.Zs _ (W.lp (λa=>0<=a.1/\a.1<=f.length/\Qi a.2.1/\a.2.2.1.length<=1000000) (λa=>(f.length-a.1).toNat) ⟨Zc,Zc,by refine⟨⟨?_,?_⟩,Zc,Zc,Zc,Zc,⟨?_,?_⟩,?_,?_,?_,Zc,Zc,?_,Zc,?_,⟨?_,?_⟩,?_⟩<;>simp[LL],WB Te.1 h⟩ Zp (λa c=>?_) λa c=>c.2.2.1) λa c=>?_⟩;·obtain⟨g,i,d,j⟩:=c;refine Zr ⟨λe=>?_,λe=>Zb ⟨g,i,d,j⟩⟩;simp only[Wx]at e;refine Zn (YN ⟨Y,λn l=>Zn (aM.mono λb _=>Zr ⟨λ_=>Zb ⟨g,i,d,j⟩,λ_=>W.Zs _ (ZnY Y d) λp m=>Zb ?_⟩)⟩);rw[show Zm _=a.1+1by simp only[Wx];exact ZK Y];exact⟨Zp,ZB⟩
 ·rw[be JW];exact Zr ⟨λ_=>Zb Zc,λ_=>Zb λ_=>c⟩
def Zlm{a b}:W (pm a b) λ_=>True:=by
 unfold pm;refine W.Zs _ qZ λC V=>W.Zs (λw=>w=false->C=true/\W (Ax b) λk=>k=true) ?_ λw X=>W.Zs (λk=>k=false->w=false) (by simp only[Wx];exactλe=>e.1) λk z=>Zr ⟨λ_=>Zb trivial,λe=>?_⟩;·refine Zr ⟨λ_=>Zb (λe=>by cases e),λr=>Zn ((W.self qZ).mono λk z=>Zb λx=>⟨by cases C<;>simp_all[ZA],IJ z.1 (by cases k<;>simp_all[ZA])⟩)⟩
 obtain⟨r,x⟩:=X (z e);obtain⟨a1,a2,a3,a4,t,K,M,N,a8⟩:=V r;obtain⟨e2,Z,s⟩:=x;obtain⟨e3,E,y⟩:=@qZ b;rw[Z]at E;cases E;obtain⟨b1,b2,b3,b4,A,P,R,S,b8⟩:=y s;have x0:∀p:L Int,(∀f∈p,1<=f)->0<=p.sum:=λp=>by induction p with|nil=>simp|cons f p ih=>intro e;have:=ih λv l=>e v (XY _ l);have:=e f (XQ ..);simp only[sE];omega
 have H:∀(i:I3)(d:L Int)(B:L Qj)(h:Int),Fc i.1 i.2.1=some d->d.length=i.2.2.length->(∀f∈d,1<=f)->Ql B h->h+d.sum<=4294967294->d.length<=2147483648->W (O (Fc i.1 i.2.1) λu=>O (YE (λ(j:L Qj×xI)=>Zf (ZC j.2.2 (Zi (Zj u))) (O (ZF u j.2.2) λJ=>O (ZF i.2.2 j.2.2) λx1=>O (Ay j.1 (j.2.1,J,x1)) λx2=>some (.next (x2,Zm (Zv j.2.1 J),Zm (Zv j.2.2 1)))) (some (.brk j))) (B,i.1,0)) λx3=>some x3.1) λq=>Ql q (h+d.sum):=by
  intro i d B h r x s y h5 h6;rw[be r];refine W.Zs (λc=>Ql c.1 (h+d.sum)) (W.Tl (λc=>0<=c.2.2/\c.2.2<=d.length/\Ql c.1 (h+(d.take c.2.2.toNat).sum)) _ (λc=>(d.length-c.2.2).toNat) ⟨Zc,Zc,by simpa using y⟩ ZB (λc g=>?_) λc g=>g) λc g=>Zb g;obtain⟨m,n,I⟩:=g;refine Zr ⟨λe=>?_,λe=>Zb ?_⟩<;>simp only[Wx]at e
  ·refine Zn (YN ⟨Y,λf G=>Zn (YN ⟨Y,λv l=>?_⟩)⟩);obtain⟨T,U⟩:=X8 G;have D:d.take (c.2.2.toNat+1)=d.take c.2.2.toNat++[f]:=by rw[ML T,U]
   have F:(d.take (c.2.2.toNat+1)).sum<=d.sum:=by
    have k:d.sum=(d.take (c.2.2.toNat+1)).sum+(d.drop (c.2.2.toNat+1)).sum:=by rw[<-Zbm,TM]
    have:=x0 (d.drop (c.2.2.toNat+1)) λx4 hz=>s x4 (sC hz);omega
   rw[D,Zbm]at F;simp only[sE,List.sum_nil]at F;refine Zn ((ZgD I (s f (X2 G)) ZB).mono λx5 hq=>Zb ?_);rw[show Zm (Zv c.2.2 1)=c.2.2+1by simp only[Wx];exact ZK Y];refine⟨⟨ZB,ZB,?_⟩,ZB⟩;dsimp only;rw[show(c.2.2+1).toNat=c.2.2.toNat+1by omega,D,Zbm];simp only[sE,List.sum_nil];rw[show h+((d.take c.2.2.toNat).sum+(f+0))=h+(d.take c.2.2.toNat).sum+f by omega];exact hq
  ·rwa[show c.2.2.toNat=d.length by omega,Ir]at I
 refine WM (W.VQ (λc=>c.2=0/\Ql c.1 0\/c.2=1/\Ql c.1 (0+t.sum)\/c.2=2/\Ql c.1 (0+t.sum+A.sum)) (λc=>Ql c.1 (0+t.sum+A.sum)) (λc=>(2-c.2).toNat) (λ_=>True) (.inl ⟨rfl,⟨Zc,rfl⟩⟩) ZB (λc g=>?_) (λc g=>?_) λ_ _=>trivial)
 ·obtain⟨m,n⟩|⟨m,n⟩|⟨m,n⟩:=g;·rw[m];refine Zr ⟨λ_=>XC ⟨by simp only[Wx,Wl,W6];omega,?_⟩,λe=>by simp only[Wx,Wl,W6]at e;omega⟩;rw[be (show ZF [a,b] 0=some a from rfl)];have:=H a t c.1 0 K M N n Y Y;rw[Zl]at this⊢;refine this.mono λu o=>?_;rw[Zl]at o⊢;refine o.mono λv l=>Zb ⟨.inr (.inl ⟨?_,Za (Q:=λq=>Ql q _).1 l⟩),?_⟩<;>(rw[show Zm (Zv 0 1)=1by simp only[Wx];exact ZK Y])<;>simp
  ·rw[m];refine Zr ⟨λ_=>XC ⟨by simp only[Wx,Wl,W6];omega,?_⟩,λe=>by simp only[Wx,Wl,W6]at e;omega⟩;rw[be (show ZF [a,b] 1=some b from rfl)];have:=H b A c.1 _ P R S n Y Y;rw[Zl]at this⊢;refine this.mono λu o=>?_;rw[Zl]at o⊢;refine o.mono λv l=>Zb ⟨.inr (.inr ⟨?_,Za (Q:=λq=>Ql q _).1 l⟩),?_⟩<;>(rw[show Zm (Zv 1 1)=2by simp only[Wx];exact ZK Y])<;>simp
  ·rw[m];exact Zr ⟨λe=>by simp only[Wx,Wl,W6]at e;omega,λ_=>Zb n⟩
 ·have:=DY g;exact Zn ((ZeM Y).mono λ_ _=>Zb trivial)
def bV{l}(h1:1<=l.length)(h2:l.length<=10):W (tw C l) λ_=>True:=by refine Zn (YN ⟨Y,λg c=>Zn (L9.2 ⟨Zp,WM (W.Pk (λa=>0<=a.1) (λa=>(l.length-a.1).toNat) (λ_=>True) Zc Y (λa b=>?_) (λa b=>Zn (ic.mono λf _=>by simp only[Wx])) λ_ _=>trivial)⟩)⟩);·refine Zr ⟨λC=>?_,λC=>Zb b⟩;simp only[Wx,VF,UF]at C;refine Zn (YN ⟨Zp,λh d=>Zn (Zlm.mono λe _=>Zr ⟨λ_=>by rw[bs];exact Zb trivial,λ_=>Zb ?_⟩)⟩);rw[show Zm _=a.1+1by simp only[Wx];exact ZK Y];exact⟨Y,Zp⟩
def ZpP{t}:W (Zau t A o C H) λ_=>True:=by exact Zr ⟨λ_=>Zb trivial,λ_=>Zr ⟨λ_=>Zb trivial,λ_=>Zr ⟨λ_=>Zb trivial,λ_=>Zn ((bV Zc Zc).mono λ_ _=>Zr ⟨λ_=>Zn ((bV Zc Zc).mono λ_ _=>Zb trivial),λ_=>Zb trivial⟩)⟩⟩⟩
def ZpO{t}:W (Zat t A o C H) λ_=>True:=by refine W.Zs (λ_=>True) (by simp[Wx]) λ_ _=>W.Zs (λ_=>True) (by simp[Wx]) λ_ _=>Zr ⟨λ_=>Zb trivial,λ_=>Zn ((bV Zc Zc).mono λ_ _=>Zb trivial)⟩
theorem Uz{B:Zg j}{f}(h1:F=true->W M λ_=>True)(h2:F=false->W B λ_=>True)(b:∀x,W (f x) N):W (O (Zf F M B) f) N:=Zn (Zr ⟨Zp,λa=>(h2 a).mono λx _=>b x⟩)
def fU:W (vX x C H) λr=>r.length<=200000000:=by exact Zn (lS.mono λ_ a=>Zb a)
def Yu{B}{f}(P:j->Prop)(h1:F=true->W M P)(h2:F=false->W B P)(b:∀x,P x->W (f x) N):W (O (Zf F M B) f) N:=Zn (Zr ⟨λa=>(h1 a).mono b,λa=>(h2 a).mono b⟩)
def Ur[DecidableEq j]:(Zw y P=true)=(y=P):=Zc
def M9[DecidableEq j]:(Zw y P=false)=¬y=P:=Zc
def Zo1{p}(h:p.1.length<=4294967296):W (nV p C) λb=>b=true->p.2.1=0\/p.2.1=1\/p.2.1=2:=by
 unfold nV;refine WM (W.Pk (λa=>0<=a.1) (λa=>(p.1.length-a.1).toNat) (λb=>b=false) Zc ZB (λa d=>?_) (λa d=>?_) λb f=>by rw[f];simp);·refine Zr ⟨λh=>?_,λh=>Zb d⟩;simp only[Wx]at h;refine Zn (YN ⟨⟨d,Y⟩,λl i=>Zn (Bv.mono λb _=>Uz (λ_=>Zb trivial) (λ_=>Zn (iz.mono λ_ _=>Zb trivial)) λe=>Zr ⟨λ_=>by rw[bs];exact Zb rfl,λ_=>Zn (Bm.mono λj _=>Zn (ZbY.mono λk _=>Zr ⟨λ_=>by rw[bs];exact Zb rfl,λ_=>Zb ?_⟩))⟩)⟩);rw[show Zm (Zv a.1 1)=a.1+1by simp only[Wx];exact ZK Y];exact⟨ZB,ZB⟩
 ·refine Zr ⟨λc=>Zb λ_=>.inl (by rwa[Ur]at c),λ_=>Zr ⟨λc=>Zn (Bv.mono λ_ _=>Zb λ_=>.inr (.inl (by rwa[Ur]at c))),λ_=>Zr ⟨λc=>Uz (λ_=>Zn (iz.mono λ_ _=>Zb trivial)) (λ_=>Zb trivial) λe=>Uz (λ_=>Zn (Bv.mono λ_ _=>Zb trivial)) (λ_=>Zb trivial) λg=>Zb λ_=>.inr (.inr (by rwa[Ur]at c)),λ_=>Zb Zc⟩⟩⟩
def Zor{p}:W (cC p) λr=>r.1.length<=200000000/\(p.2.1=0\/p.2.1=1\/p.2.1=2->r.2=true):=by exact Zr ⟨λ_=>Zn ((xf Zc Zc).mono λ_ a=>Zb ⟨a,λ_=>rfl⟩),λb=>Zr ⟨λ_=>Zn (lS.mono λ_ a=>Zb ⟨a,λ_=>rfl⟩),λc=>Zr ⟨λ_=>Zn (fU.mono λ_ a=>Zb ⟨a,λ_=>rfl⟩),λd=>Zb ⟨Zc,Zp⟩⟩⟩⟩
def ZlY{p}(h:p.1.length<=1000000000)(n:p.2.1=0\/p.2.1=1\/p.2.1=2):W (nX p C) λr=>(1<=r.length/\r.length<=1000000001)/\∀x∈r,x.length<=200000000:=by
 unfold nX;refine Zn (Zor (p:=p).mono λm k=>Zr ⟨Zp,λ_=>Zn (W.lp (λa=>a.1.length<=200000000/\a.2.1.length=p.1.length-a.2.2/\-1<=a.2.2/\a.2.2<p.1.length/\∀x∈a.2.1,x.length<=200000000) (λa=>(a.2.2+1).toNat) ?_ ?_ (λa b=>?_) λa b=>Zb ⟨Y,b.2.2.2.2⟩)⟩);·rw[show Zm (ZX (Zi (Zj p.1)) 1)=(p.1.length:Int)-1by simp only[Wx];exact ZK Y];exact⟨k.1,by simp only[VJ];omega,ZB,ZB,Zp⟩
 ·rw[show Zm (ZX (Zi (Zj p.1)) 1)=(p.1.length:Int)-1by simp only[Wx];exact ZK Y];dsimp only;omega
 ·obtain⟨f,g,i,e,j⟩:=b;refine Zr ⟨λd=>Zn ((L5 Y).mono λt _=>?_),λ_=>Zb ⟨f,g,i,e,j⟩⟩;simp only[Wx]at d;refine Zn (YN ⟨⟨d,e⟩,λv q=>Zn (Bm.mono λs _=>Yu _ (λ_=>Zn (fU.mono λ_ c=>Zb c)) (λ_=>Zn (fU.mono λ_ c=>Zb c)) λu l=>Xi ⟨by simp only[Wx,VJ];omega,Zb ?_⟩)⟩);rw[show Zm (ZX a.2.2 1)=a.2.2-1by simp only[Wx];exact ZK Y];refine⟨⟨l,Zp,ZB,ZB,λx o=>Zp⟩,ZB⟩
def ZrF{p}(h:p.1.length<=1000000000):W (cB p C H) λ_=>True:=by refine Zn ((Zo1 Y).mono λe f=>Zr ⟨λ_=>Zb trivial,λg=>Zn ((ZlY h Zp).mono λc a=>?_)⟩);rw[show Zm _=c.length-1by simp only[Wx];exact ZK Y];exact Zn (YN ⟨Y,λd b=>Zn ((L5 (by have:=a.2 d (X2 b);omega)).mono λi _=>Zr ⟨λ_=>Zb trivial,λ_=>Uz (λ_=>Zb trivial) (λ_=>Zb trivial) λ_=>Zr ⟨λ_=>Zb trivial,λ_=>Zb trivial⟩⟩)⟩)
def ZmW{c}(f:d.length<=100000)(e:c.length<4000000000):W (iY d c C) λ_=>True:=by refine Zn ((rA e).mono λi a=>Uz (λb=>?_) (λ_=>Zb trivial) λ_=>Zb trivial);have a:=a b;rw[show Zm _=c.length-1by simp[Wx];exact ZK Y];exact Zn (YN ⟨Y,λh g=>Zn ((yQ f (by have:=a.2.2.2.2 h (X2 g);omega)).mono λj _=>Zb trivial)⟩)
def ZlN{s}(h1:s.2.1.1.length<=1000000000)(h2:s.2.2.length<=2000000000):W (gX d s) λ_=>True:=by refine Yu (λa=>a=false->d.length<=32) (λ_=>Zb Zc) (λ_=>Zb λb=>Zp) λa c=>Zr ⟨λ_=>Zb trivial,λb=>Zn ((jX Zp).mono λe _=>Zn ((ZrF h1).mono λf _=>Zr ⟨λ_=>Zb trivial,λ_=>Zr ⟨λ_=>Zb trivial,λ_=>Xi ⟨Zp,Zn ((ZmW (by have:=c b;omega) Y).mono λ_ _=>Zb trivial)⟩⟩⟩))⟩
theorem tD{id}(g:E.length<=1000)(e:∀p∈E,p.length<=1000000):W (Fs id a A E) λ_=>True:=by unfold Fs;simp only[Wx];refine⟨YI,Y,Zc,YI,YI,YI,YI,Zc,(W.lp (λb=>0<=b.2/\b.2<=E.length/\b.1.length<=22+b.2.toNat*1000000) (λb=>(E.length-b.2).toNat) Zc Y (λb c=>?_) λb c=>(L5 Y).mono λ_ _=>trivial)⟩;·refine Zr ⟨λd=>?_,λ_=>Zb c⟩;simp at d;refine Zn (YN ⟨Y,λf h=>?_⟩);have:=e f Zp;refine Xi ⟨Y,Zb ?_⟩;rw[ZK Y];exact⟨Zp,Zp⟩
def Zl4{Q}(h:W M Q):M=some (M.getD y):=by obtain⟨a,b,-⟩:=h;grind
abbrev tl(h:ZN):Zt:=Xo 0 (YK 32 (XK h))
def Ef(h):(tl h).length=32:=Zc
def ig{id:Tj}:W (ve id a A C) λ_=>True:=by exact Up ⟨Zc,Zn ((tD Zc Zc).mono λ_ _=>Zb trivial)⟩
theorem iZ{id:Tj}{b:Int}(f:0<=o)(g:b<=1000):W (wZ id a A C o b) λ_=>True:=by refine Zn (W.lp (λc=>0<=c.1) (λc=>(b-c.1).toNat) f Y (λc e=>?_) λc e=>Zb trivial);refine Zr ⟨λd=>Up ⟨Zc,Zn ((tD Zc Zc).mono λ_ _=>Zb ?_)⟩,λd=>Zb e⟩;simp at d;rw[show Zm _=c.1+1by simp[Wx];exact ZK Y];exact⟨Y,Zp⟩
theorem F_w{id:Tj}(h:f.length<=10000):W (w9 id a f) λ_=>True:=by
 unfold w9;refine L7.2 ⟨by simp only[Wx];rw[ZK Y];omega,Zn (W.lp (λb=>0<=b.2/\b.2<=f.length/\b.1.length=32*b.2.toNat) (λb=>(f.length-b.2).toNat) ?_ ?_ (λb d=>?_) λb d=>?_)⟩;·simp
 ·dsimp only;omega
 ·obtain⟨e,g,i⟩:=d;refine Zr ⟨λc=>?_,λc=>Zb ⟨e,g,i⟩⟩;simp only[Wx]at c;refine Zn (YN ⟨Y,λk j=>Up ⟨YI,Xi ⟨?_,Zb ?_⟩⟩⟩);·grind
  ·rw[show Zm (Zv b.2 1)=b.2+1by simp only[Wx];exact ZK Y];refine⟨⟨ZB,ZB,?_⟩,ZB⟩;grind
 ·exact Zn ((tD Zc XV).mono λ_ _=>Zb trivial)
def Zmm(x m)(h:0<=m/\m<256):0<=Fl x m/\Fl x m<=m:=by
 obtain⟨a,rfl⟩:=Qt h.1;have b:(BitVec.ofInt _ x&&&BitVec.ofInt 64 a).toNat<=a:=by refine WB Nat.and_le_right ?_;grind
 unfold Fl;rw[ks Y];omega
def TF(f:Rf):Prop:=f=(1,265,7)\/f=(2,133,6)\/f=(4,67,4)\/f=(8,34,0)
def TF.bits(h:TF p):p.1=1\/p.1=2\/p.1=4\/p.1=8:=by obtain rfl|rfl|rfl|rfl:=h<;>simp
def oL(f:Rf):Nat:=2^f.1.toNat-1
def ZfF(h:TF p):og p=some (oL p:Int):=by refine Vp (SF ⟨by obtain e|e|e|e:=h.bits<;>omega,Zb ?_⟩);obtain e|e|e|e:=h.bits<;>rw[uU,Cn,NL]<;>unfold oL<;>rw[e]<;>decide
def ZdN(a:TF p):W (DF p C) λl=>(l.length:Int)=p.2.1/\∀d∈l,0<=d/\d<=oL p:=by
 unfold DF;rw[Y4 (show _\/_\/_\/_ from a)];unfold GR;refine Zb ⟨?_,λd c=>?_⟩;·rw[UF,qJ,YM,LP,Bd];obtain rfl|rfl|rfl|rfl:=a<;>rfl
 ·obtain⟨g,-,e⟩:=List.mem_flatMap.1 (yw c);obtain⟨f,-,rfl⟩:=VR e;have b:dg p.1.toNat g f=Fl _ _:=ZaI _;rw[b];obtain rfl|rfl|rfl|rfl:=a<;>exact Zmm _ _ Zc
theorem dN:W (Sm A) λr=>(r.2=true->1<=A/\A<=4/\TF r.1)/\(1<=A->A<=4->r.2=true):=by refine Yu (λb=>b=true↔¬(1<=A/\A<=4)) (λa=>Zb<|Zp) (λa=>Zb<|Zp) λb g=>Zr ⟨λa=>Zb ⟨Zc,Zp⟩,λa=>Zn (xk.2 ⟨Zp,λh c=>Zb ?_⟩)⟩;·have f:¬¬(1<=A/\A<=4):=λd=>Zp;refine⟨λ_=>⟨Y,Y,?_⟩,λ_ _=>rfl⟩;have:A=1\/A=2\/A=3\/A=4:=Y;obtain e|e|e|e:=this<;>subst e<;>cases c<;>first|exact .inl rfl|exact .inr (.inl rfl)|exact .inr (.inr (.inl rfl))|exact .inr (.inr (.inr rfl))
theorem Zf2(x):∀(k)(a),List.foldl (λ(x:ZO 64)b=>x<<<8|||b.setWidth 64) a (Xf x k)=a<<<(8*k)|||(x.setWidth (8*k)).setWidth 64|0,a=>by show a=_;grind|k+1,a=>by show List.foldl _ _ (Xf x k)=_;rw[Zf2 x k];grind
def oW(x)(k):TA (Xf x k)=(x.setWidth (8*k)).setWidth 64:=by unfold TA;rw[Zf2];grind
def Cx(l m)(h:A=l.length):tk (l++m,false) A=((m,false),l):=by subst h;rw[KA rfl Zc Zp];simp
def w4(x:ZO 32):Zt:=Xf (x.setWidth 64) 4
def UD(x):(w4 x).length=4:=Va _ _
def zu(x)(l):T4 (w4 x++l,false)=some ((l,false),x):=by
 rw[Pq,Cx _ _ (by rfl)];have:pk (w4 x++l,false) 4=(TA (w4 x),true):=by unfold pk;rw[Ys (by simp[UD]),KQ (by rw[UD];omega),UT (by rw[UD];omega)]
 rw[this];unfold w4;rw[oW];simp_all
def TF.n(h:TF p):34<=p.2.1/\p.2.1<=265:=by obtain rfl|rfl|rfl|rfl:=h<;>decide
def TF.m(h:TF p):oL p<=255:=by obtain rfl|rfl|rfl|rfl:=h<;>decide
theorem Zlw{id:Tj}(h:Sm A=some (p,true))(c:TF p):W (p9 A id a C) λo=>o.2=0:=by
 unfold p9;rw[be h];have j:=c.n;have i:=c.m;refine Zr ⟨Zc,λ_=>L7.2 ⟨Zp,Zn (W.lp (λb=>0<=b.1/\b.2.length=p.2.1.toNat) (λb=>(p.2.1-b.1).toNat) ?_ ?_ (λb e=>?_) λb e=>?_)⟩⟩;·simp
 ·omega
 ·obtain⟨f,g⟩:=e;refine Zr ⟨λd=>Zn (ig.mono λk _=>Zn (IJ (ZfF c) (Zn ((iZ Y Zp).mono λl _=>XC ⟨?_,Zb ?_⟩)))),λd=>Zb ⟨f,g⟩⟩;·grind
  ·simp at d;rw[show Zm _=b.1+1by simp[Wx];exact ZK Y];exact⟨Zp,Zp⟩
 ·exact Zn ((F_w Y).mono λ_ _=>Zb rfl)
def ZgE(l m):put (l,false) m=(l++m,false):=rfl
def NN(h:d.length<=4000000000):S6 (d,false) a=some (d++w4 a,false):=BM Zp
def Ek(h:d.length+g.length<=4000000000):Tp (d,false) g=some (d++g,false):=xc Zp
def tJ(a:d.length<=3000000000):Tp (d,false) (Xo 0 (YK 32 (XK C)))=some (d++tl C,false):=Ek Zp
def Ig(h:d.length<=4000000000):QU (d,false)=some (d,0):=EN Zp
def ZlO{id:Tj}(s:Sm A=some (p,true))(g:TF p)(z:d.length<=1000000):W (oc A id a C d) λo=>o.2=0/\(o.1.length:Int)=36+32*p.2.1:=by
 have D:=g.n;have B:=g.m;unfold oc;rw[be s];refine Zr ⟨λc=>(by cases c),λ_=>Zn (ig.mono λt _=>?_)⟩;have E:=Ef t;rw[be (NN Zc)];refine Up ⟨YI,?_⟩;have x:=UD (Yl 32 A);rw[be (tJ (by simp only[UG];omega))];refine Up ⟨YI,Zn ((tD Zc (by simp[Ef];omega)).mono λb _=>Zn ((ZdN g).mono λk r=>?_))⟩;obtain⟨w,n⟩:=r;refine Zn (W.Tl (λb=>0<=b.1/\b.1<=k.length/\b.2.2=false/\(b.2.1.length:Int)=36+32*b.1) (λb=>b.2.2=false/\(b.2.1.length:Int)=36+32*p.2.1) (λb=>(k.length-b.1).toNat) ?_ ?_ (λb h=>?_) λb h=>?_);·grind
 ·dsimp only;omega
 ·obtain⟨i,⟨u,v⟩⟩:=b;obtain⟨j,m,e,f⟩:=h;dsimp only at j m e f;subst e;refine Zr ⟨λc=>?_,λc=>Zb ⟨rfl,?_⟩⟩;·simp only[Wx]at c;refine Zn (YN ⟨⟨j,c⟩,λl q=>?_⟩);have y:=n l (X2 q);refine Zn (ig.mono λF _=>Zn ((iZ Y Y).mono λG _=>Up ⟨YI,?_⟩));dsimp only;rw[be (tJ Y)];rw[show Zm (Zv i 1)=i+1by simp only[Wx];exact ZK Y];refine Zb ⟨⟨ZB,ZB,rfl,?_⟩,ZB⟩;grind
  ·simp only[Wx]at c;dsimp only;omega
 ·obtain⟨i,⟨u,v⟩⟩:=b;obtain⟨e,f⟩:=h;dsimp only at e f;subst e;rw[be (Ig Y)];exact Zb ⟨rfl,f⟩
def tt{Q:Vector (ZO 8) B->Prop}(h:d.length=B)(a:∀x:Vector (ZO 8) B,x.toList=d->Q x):W (KC B d) Q:=by refine rU.2 ⟨Y,a _ ?_⟩;unfold tu;grind
def il:W (wY A) λn=>∀f,Sm A=some (f,true)->TF f->n=36+32*f.2.1:=by refine Zn (dN.self.mono λe d=>Zr ⟨λb=>Zb λf a=>Zp,λb=>Zb λf a c=>?_⟩);·rw[d.1]at a;cases a;have:=c.n;rw[show Zm (Zv 1 _)=1+f.2.1by simp[Wx];exact ZK Y,show Zm (VI _ _)=32*(1+f.2.1)by simp[Wx];exact ZK Y];simp[Wx];rw[ZK Y];omega
theorem ZlA{id:Tj}(D:d.length<=1000000)(B:g.length<=1000000):W (oa id a d g) λ_=>True:=by
 unfold oa;rw[be (O1 Y),be Pq];refine Zn (dN.self.mono λc A=>?_);refine Yu (λj=>j=false->c.2=true/\TF c.1/\(g.length:Int)=36+32*c.1.2.1) (λe=>Zb Zc) (λe=>Zn (il.mono λL G=>Zb λz=>?_)) λj u=>Zr ⟨λe=>Zb trivial,λe=>?_⟩;·grind
 obtain⟨c,x⟩:=c;obtain⟨rfl,f,s⟩:=u e;change TF c at f;have t:=f.n;dsimp only at s t;rw[KA rfl Y (by show(4:Int)<=g.length;omega)];rw[be Pp,KA rfl Y (by show(32:Int)<=(List.drop 4 g).length;rw[VF];omega)];refine L7.2 ⟨ZB,Zn ((tD Zc XV).mono λ_ _=>Zn ((ZdN f).mono λy n=>?_))⟩;have C:=n.1;have E:=f.m;refine Zn (W.lp (λb=>0<=b.1/\b.1<=c.2.1/\b.2.1.2=false/\(b.2.1.1.length:Int)=32*(c.2.1-b.1)/\b.2.2.length=c.2.1.toNat) (λb=>(c.2.1-b.1).toNat) ?_ ?_ (λb o=>?_) λb o=>?_);·grind
 ·dsimp only;omega
 ·obtain⟨p,⟨q,I⟩,H⟩:=b;obtain⟨h,k,l,m,i⟩:=o;dsimp only at h k l m i;subst l;refine Zr ⟨λe=>?_,λe=>Zb ⟨h,k,rfl,m,i⟩⟩;simp only[Wx]at e;refine Zn (YN ⟨⟨h,e⟩,λr w=>?_⟩);have v:=n.2 r (X2 w);dsimp only;rw[be Pp,KA rfl Y (by show(32:Int)<=q.length;omega)];refine Zn (tt (by show(List.take 32 q).length=32;rw[UF];omega) λJ F=>?_);rw[be (ZfF f)];refine Zn ((iZ v.1 Y).mono λK _=>XC ⟨by simp only[Wx];omega,Zb ?_⟩);rw[show Zm (Zv p 1)=p+1by simp only[Wx];exact ZK Y];refine⟨⟨ZB,ZB,rfl,?_,?_⟩,ZB⟩;·grind
  ·show(List.set _ _ _).length=_;rw[Pz];exact i
 ·exact Zn ((F_w Y).mono λ_ _=>Zb trivial)
theorem ZfT{id}(l:E.length<=1000)(f:∀p∈E,p.length<=1000000):W (vk id A o E) λ_=>True:=by
 unfold vk;refine Up ⟨YI,?_⟩;have h:(Xo 0 (YK 16 (XK id))).length<=16:=Zc;rw[be (Ek (by simp only[W6];omega)),be (NN (by simp only[UG];omega))];have k:=UD (Yl 32 A);refine W.Zs (λc=>c.1.length<=30) (IJ (ZcL Zp) ?_) λc m=>?_;·have:=zo (Vd ([]++Xo 0 (YK 16 (XK id))++w4 (Yl 32 A),false) o 65535) (Xf (BitVec.ofInt 64 o) 2);rw[CM,Va]at this;grind
 ·refine Zn (W.lp (λa=>0<=a.1/\a.1<=E.length/\a.2.1.length<=30+a.1.toNat*1000000) (λa=>(E.length-a.1).toNat) Zp ZB (λa b=>?_) λa b=>?_);·refine Zr ⟨λe=>?_,λ_=>Zb b⟩;simp only[Wx]at e;refine Zn (YN ⟨Y,λd g=>?_⟩);have i:=f d (X2 g);rw[be (xc Y)];have j:=zo a.2 d;refine Zb ?_;rw[show Zm (Zv a.1 1)=a.1+1by simp only[Wx];exact ZK Y];exact⟨Zp,ZB⟩
  ·rw[be (EN Y)];refine Zn ((L5 ?_).mono λ_ _=>Zb trivial);grind
def Zcq{id:Tj}:W (oj id A C) λ_=>True:=by exact Up ⟨Zc,Zn ((ZfT Zc Zc).mono λ_ _=>Zb trivial)⟩
def Zcm{id:Tj}:W (oi id A C H) λ_=>True:=by exact Up ⟨Zc,Up ⟨Zc,Zn ((ZfT Zc Zc).mono λ_ _=>Zb trivial)⟩⟩
theorem Zrn{k}:W (Sm k) λr=>r.2=false->r.1=(0,0,0):=by exact Yu (λb=>b=true↔¬(1<=k/\k<=4)) (λa=>Zb Zp) (λa=>Zb Zp) λb d=>Zr ⟨λa=>Zb λ_=>rfl,λa=>Zn (xk.2 ⟨Zp,λf e=>Zb λc=>Zp⟩)⟩
theorem dc:W (AQ A o) λb=>b=true↔(1<=A/\A<=4)/\∃f,Sm o=some (f,true)/\TF f:=by
 refine Yu (λc=>c=true↔1<=A/\A<=4) (λa=>Zb<|Zp) (λa=>Zb<|Zp) λc e=>Yu _ (λa=>?_) (λa=>Zb<|Zp) λm g=>Zb g
 ·refine Zn (Zn (dN.self.mono λj i=>Zb<|Zb ⟨λd=>⟨e.1 a,?_⟩,λ⟨_,f,d,h⟩=>?_⟩))
  ·by_cases p:j.2=true;·grind
   ·obtain⟨l,n,q⟩:=Zrn (k:=o);grind
  ·rw[i.1]at d;have:=h.n;grind
def tB(h1:1<=B)(a:B<=4):2<=2^B/\2^B<=16:=by have:B=1\/B=2\/B=3\/B=4:=Y;obtain e|e|e|e:=this<;>subst e<;>decide
def ZqC(h1:1<=B)(f:B<=4)(d:Sm A=some (p,true))(c:TF p):AQ B A=some true:=by obtain⟨e,a,b⟩:=dc;rw[a,b.2 ⟨Y,p,d,c⟩]
def Zz7{id:Tj}(h1:1<=B)(j:B<=4)(l:Sm A=some (p,true))(k:TF p):W (DH (B:Int) A id C) λo=>o.2=0/\∃T,o.1=some ((B:Int),A,id,C,T)/\T.length=2*2^B:=by
 unfold DH;rw[be (ZqC h1 j l k),zD (show B<=40by omega)];have w:=tB h1 j;generalize x:2^B=N at*;rw[show Zm (VI 2 (N:Int))=2*N by simp only[Wx];exact ZK Y];refine Zr ⟨λa=>(by cases a),λ_=>SF ⟨Y,L7.2 ⟨Y,WM ?_⟩⟩⟩;refine W.VQ (λb=>0<=b.1/\∃T,b.2=((B:Int),A,id,C,T)/\T.length=2*N) (λb=>∃T,b.2=((B:Int),A,id,C,T)/\T.length=2*N) (λb=>(N-b.1).toNat) (λ_=>False) ?_ ?_ (λb h=>?_) (λb h=>?_) λ_ c=>c.elim;·exact⟨Zc,_,rfl,by simp only[RB,Yo,sA];omega⟩
 ·dsimp only;omega
 ·obtain⟨u,T,c,f⟩:=h;refine Zr ⟨λa=>?_,λa=>Zb ⟨T,c,f⟩⟩;simp only[Wx]at a;refine Zn ((Zlw l k).mono λo n=>Zr ⟨λa=>by rw[n]at a;simp only[Wx]at a,λ_=>Zn (Zcq.mono λt _=>XC ⟨?_,Zb ?_⟩)⟩);·rw[c];simp only[Wx];rw[ZK Y];omega
  ·rw[show Zm (Zv b.1 1)=b.1+1by simp only[Wx];exact ZK Y,c];exact⟨⟨ZB,_,rfl,by simp only[Xc,Pz];exact f⟩,ZB⟩
 ·obtain⟨T,c,f⟩:=h;refine Zn (W.Tl (λv=>0<=v.1/\v.1<N/\∃T,v.2=((B:Int),A,id,C,T)/\T.length=2*N) (λv=>∃T,v.2=((B:Int),A,id,C,T)/\T.length=2*N) (λv=>v.1.toNat) ?_ ?_ (λv i=>?_) λv i=>Zb ?_);·rw[show Zm (ZX (N:Int) 1)=N-1by simp only[Wx];exact ZK Y];exact⟨ZB,ZB,T,c,f⟩
  ·rw[show Zm (ZX (N:Int) 1)=N-1by simp only[Wx];exact ZK Y];dsimp only;omega
  ·obtain⟨d,D⟩:=v;obtain⟨r,s,g,e,m⟩:=i;dsimp only at r s e;subst e;refine Zr ⟨λa=>?_,λa=>Zb ⟨g,rfl,m⟩⟩;simp only[Wx]at a;dsimp only;rw[show Zm (VI 2 d)=2*d by simp only[Wx];exact ZK Y,show Zm (Zv (2*d) 1)=2*d+1by simp only[Wx];exact ZK Y];refine XC ⟨by simp only[Wx];omega,Zn (YN ⟨Y,λt y=>XC ⟨by simp only[Wx];omega,Zn (YN ⟨Y,λE z=>Zn (Zcm.mono λF _=>XC ⟨by simp only[Wx];omega,Zb ?_⟩)⟩)⟩⟩)⟩;rw[show Zm (ZX d 1)=d-1by simp only[Wx];exact ZK Y];exact⟨⟨ZB,ZB,_,rfl,by simp only[Xc,Pz];exact m⟩,ZB⟩
  ·obtain⟨g,e,q⟩:=i;exact⟨rfl,g,by rw[e],q⟩
def lB(r:Nat):Nat:=if r%2=0then r+1 else r-1
def ZAL(h:B<32):tR B 1=(lB B:Nat):=by rw[Zkr];have:∀B:Fin 32,pT B.val 1=(lB B.val:Int):=YI;exact this ⟨B,h⟩
def jZ{id}(a:0<=A)(h1:A<=4):vh (some (A,o,id,C,f))=some ((2^A.toNat:Nat):Int):=by obtain⟨c,rfl⟩:=Qt a;refine Vp (Zr ⟨Zc,λ_=>ZcO.2 ⟨Zc,λd b=>?_⟩⟩);cases b;exact SF ⟨a,Zb (zD Y)⟩
def ko{a:h}{s}:Yv (some a) M s=s a:=by rw[Mq]
def ZjZ{id:Tj}{s:ZN}{m:Zt}(h1:1<=B)(u:B<=4)(D:Sm A=some (p,true))(i:TF p)(w:f.length=2*2^B)(J:z<2^B)(y:m.length<=1000000):W (vi (some ((B:Int),A,id,s,f)) (z:Int) m) λo=>o.2=0/\(o.1.length:Int)=44+32*p.2.1+32*B:=by
 have H:=tB h1 u;have I:=i.n;unfold vi;refine Zr ⟨λa=>(by cases a),λ_=>Yu (λh=>h=false) (λa=>?_) (λa=>?_) λh x=>?_⟩;·simp only[Wx]at a;omega
 ·rw[be (jZ Y Y)];refine Zb ?_;simp only[Wx,WL];omega
 subst x;refine Zr ⟨λa=>(by cases a),λ_=>?_⟩;rw[ko,ko,ko];refine Zn ((ZlO D i y).mono λo j=>Zr ⟨λa=>by rw[j.1]at a;simp only[Wx]at a,λ_=>?_⟩);obtain⟨r,P⟩:=o;obtain⟨-,C⟩:=j;dsimp only at C;have M:=UD (Yl 32 (z:Int));have N:=UD (Yl 32 (B:Int));rw[be (NN Zc),be (Ek (by simp only[UG];omega)),ko,be (NN (by simp only[UG,YM];omega)),be (jZ Y Y)];rw[WL,show Zm (Zv ((2^B:Nat):Int) (z:Int))=((2^B+z:Nat):Int)by simp only[Wx];rw[ZK Y];omega];refine Zn (W.Tl (λb=>∃n c:Nat,n<=B/\b.1=c/\2^n<=c/\c<2*2^n/\b.2.2=false/\b.2.1.length=8+r.length+32*(B-n)) (λb=>b.2.2=false/\b.2.1.length=8+r.length+32*B) (λb=>b.1.toNat) ?_ ?_ (λb g=>?_) λb g=>?_);·refine⟨B,2^B+z,YA _,rfl,Y,Y,rfl,?_⟩;simp only[UG,YM];omega
 ·dsimp only;omega
 ·obtain⟨F,⟨t,G⟩⟩:=b;obtain⟨n,c,d,e,k,l,q,E⟩:=g;dsimp only at e q E;subst e q;have v:2^n<=2^B:=EA Y d;refine Zr ⟨λa=>?_,λa=>Zb ⟨rfl,?_⟩⟩;·simp only[Wx]at a;cases n with|zero=>simp at l;omega|succ n=>
    dsimp only;rw[sL]at k l v;rw[ko,ZAL Y];have K:lB c<f.length:=by rw[w];unfold lB;split<;>omega
    refine Zn (YN ⟨ZB,λQ O=>Up ⟨YI,?_⟩⟩);rw[be (tJ Y)];refine Jd.2 ⟨YI,Zb ?_⟩;rw[show Zm (Sf (c:Int) 2)=((c/2:Nat):Int)by rw[GU Y,ZK Y];omega];refine⟨⟨n,c/2,Y,rfl,Y,Y,rfl,?_⟩,ZB⟩;show(t++tl _).length=_;rw[YM,Ef];omega
  ·simp only[Wx]at a;dsimp only;cases n with|zero=>omega|succ n=>rw[sL]at k;have:=Nat.one_le_two_pow (n:=n);omega
 ·obtain⟨F,⟨t,G⟩⟩:=b;obtain⟨d,e⟩:=g;dsimp only at d e;subst d;rw[be (Ig Y)];exact Zb ⟨rfl,ZB⟩
theorem Zne{id:Tj}(d:f.length<=1000):W (eD id A C f) λ_=>True:=by refine Zn (W.lp (λa=>0<=a.2.1) (λa=>(f.length-a.2.1).toNat) Zc Zp (λa c=>?_) λa c=>Zb trivial);refine Zr ⟨λb=>?_,λb=>Zb c⟩;simp[Wx]at b;refine Zn (YN ⟨Y,λh e=>Jd.2 ⟨Zc,Uz (λ_=>Zb trivial) (λ_=>Zb trivial) λg=>Jd.2 ⟨Zc,Zn (Zcm.mono λi _=>Zb ?_)⟩⟩⟩);rw[show Zm (Zv _ 1)=a.2.1+1by simp[Wx];exact ZK Y];exact⟨Zp,Zp⟩
def ez:W (vf A o) λn=>1<=A/\A<=4->∀f,Sm o=some (f,true)->TF f->n=44+32*f.2.1+32*A:=by refine Zn (dc.mono λg h=>Zr ⟨λc=>Zb λd f b a=>Zp,λc=>Zn (il.mono λn e=>Zb λd f b a=>?_)⟩);·have:=e f b a;have:=a.n;rw[show Zm (Zv 8 n)=8+n by simp[Wx];exact ZK Y,show Zm (VI _ A)=32*A by simp[Wx];exact ZK Y];simp[Wx];rw[ZK Y];omega
def FQ{Q:ZP×ZO 32->Prop}(h:4<=d.length)(a:∀v,True->Q ((d.drop 4,false),v)):W (T4 (d,false)) Q:=by rw[Pq,KA rfl Zc Zp];exact Zb (a _ trivial)
def zt{b}{Q}(a:0<=A)(h:A<=b.length)(c:Q ((b.drop A.toNat,false),b.take A.toNat)):W (TZ (b,false) A) Q:=by rw[Pp,KA rfl a h];exact Zb c
def qI(h:d.length=B):(d++g).drop B=g:=Zp
def tq(h:d.length=B):(d++g).take B=d:=Zp
def ZAd(h:B<4294967296):Zi (Z7 (Yl 32 B))=B:=by grind
def lW(a:0<=A)(h:A<4294967296):Zi (Z7 (Yl 32 A))=A:=by obtain⟨b,rfl⟩:=Qt a;exact ZAd Y
def ZrQ(h1:1<=B)(C:B<=4)(r:Sm A=some (p,true))(k:TF p)(D:d.length<=1000000):W (ol d (B:Int) A) λo=>o.2=true->(0<=o.1.1/\o.1.1<((2^B:Nat):Int))/\(o.1.2.1.length:Int)=36+32*p.2.1/\o.1.2.2.length=B:=by
 have E:=k.n;unfold ol;refine Zn (ez.mono λK s=>Zr ⟨λb=>Zb (λf=>by cases f),λb=>?_⟩);have s:=s ⟨Y,Y⟩ p r k;simp only[Wx]at b;rw[be (O1 Y)];refine Zn (FQ Y λH _=>Zn (il.mono λL n=>?_));have n:=n p r k;subst n;refine Zn (zt Y (by rw[VF];omega) (Zn (FQ (by simp only[VF];omega) λI _=>?_)));dsimp only;refine Zn (W.Tl (λa=>0<=a.1/\a.1<=B/\0<=a.2.1.1/\(a.2.1.2.1.length:Int)=36+32*p.2.1/\(a.2.1.2.2.length:Int)=a.1/\a.2.2.2=false/\(a.2.2.1.length:Int)=32*(B-a.1)) (λa=>0<=a.2.1.1/\(a.2.1.2.1.length:Int)=36+32*p.2.1/\a.2.1.2.2.length=B/\a.2.2=([],false)) (λa=>(B-a.1).toNat) ?_ ?_ (λa m=>?_) λa m=>?_);·refine⟨Zc,ZB,MH _,?_,rfl,rfl,?_⟩<;>simp only[VF,UF]<;>omega
 ·dsimp only;omega
 ·obtain⟨q,⟨x,y,u⟩,⟨g,G⟩⟩:=a;obtain⟨i,j,c,e,v,t,w⟩:=m;dsimp only at i j c e v t w;subst t;refine Zr ⟨λb=>?_,λb=>Zb ⟨c,e,?_,?_⟩⟩
  ·simp only[Wx]at b;refine Zn (zt Y Y (Zn (tt (by show(List.take 32 g).length=32;rw[UF];omega) λz F=>Xi ⟨by simp only[Wx,VJ];omega,Zb ?_⟩)));rw[show Zm (Zv q 1)=q+1by simp only[Wx];exact ZK Y];refine⟨⟨ZB,ZB,c,e,?_,rfl,?_⟩,ZB⟩;·show((u++[z]).length:Int)=_;rw[YM,VJ];dsimp only;omega
   ·show((List.drop 32 g).length:Int)=_;rw[VF];dsimp only;omega
  ·simp only[Wx]at b;dsimp only;omega
  ·simp only[Wx]at b;show(g,false)=_;rw[Ok (l:=g) Y]
 ·obtain⟨q,⟨x,y,u⟩,g⟩:=a;obtain⟨i,j,c,e⟩:=m;dsimp only at i j c e;subst e;rw[be JW];refine Zr ⟨λ_=>?_,λb=>by simp at b⟩;dsimp only;refine Zr ⟨λb=>SF ⟨Y,Zr ⟨λh=>?_,λh=>Zb λf=>by cases f⟩⟩,λb=>Zb λf=>by cases f⟩;rw[zD Y]at h;simp only[Wx]at h;rw[be (O1 Y)];exact Zn (FQ Y λJ _=>Zb λ_=>⟨⟨i,h⟩,j,c⟩)
def tlD(h:ZN):(Xo 0 (YK 32 (XK h))).length=32:=Ef h
theorem ZkY(k:d.length<=4000000000):W (aG d g) λc=>d=g->c=true:=by
 refine Zr ⟨λb=>Zb λf=>Zp,λb=>WM (W.Pk (λa=>0<=a) (λa=>(d.length-a).toNat) _ Zc Y (λa e=>?_) (λa e=>Zb λ_=>rfl) λc i=>i)⟩
 ·simp[Wx]at b;refine Zr ⟨λh=>?_,λ_=>Zb e⟩;simp[Wx]at h;refine Zn (YN ⟨Y,λn l=>Zn (YN ⟨Y,λo m=>Zr ⟨λj=>?_,λ_=>Zb ?_⟩⟩)⟩);·rw[bs];refine Zb λf=>?_;grind
  ·rw[show Zm _=a+1by simp[Wx];exact ZK Y];exact⟨Y,Zp⟩
def Ze8{c:Zt}(l:g.length<=1000000)(hs:c.length<=1000000):W (vj d g c) λ_=>True:=by unfold vj;refine Zr ⟨λa=>Zb trivial,λa=>?_⟩;simp only[Wx]at a;rw[be (O1 Y)];refine Zn (FQ Y λe _=>Zn (FQ (by rw[VF];omega) λo _=>Zn (zt Y Zp (Zn (tt Zp λt _=>Zn (zt Y (by simp only[VF];omega) (Zn (dc.mono λp j=>?_))))))));have k:0<=Zi (Z7 e):=MH _;generalize Zi (Z7 e)=i at*;generalize Zi (Z7 o)=x at*;refine Zr ⟨λ_=>Zb trivial,λf=>?_⟩;obtain⟨r,q,n,b⟩:=j.1 (by simpa only[Wx]using f);obtain⟨i,rfl⟩:=Qt k;have s:=b.n;refine Zn ((ZrQ Y Y n b hs).mono λw m=>Zr ⟨λ_=>Zb trivial,λh=>?_⟩);obtain⟨-,u,v⟩:=m (by simpa only[Wx]using h);refine Zn ((ZlA l Y).mono λz _=>Zr ⟨λ_=>Zb trivial,λ_=>SF ⟨Y,Zn (Zcq.mono λy _=>Zn ((Zne Y).mono λA _=>Up ⟨YI,Zn ((ZkY (by rw[tlD];omega)).mono λ_ _=>Zb trivial)⟩))⟩⟩)
noncomputable def ch(sd:ZN)(b:Zt):Tj×ZN:=(wG sd b).getD (Rk 16 0#8,zH)
theorem Zdk(e:d.length<=1000):wG C d=some (ch C d):=by refine Zl4 (Q:=λ_=>True) (Up ⟨Zc,Yu (λc=>c.length<=2/\∀a∈c,a.length<=1000) (λ_=>Xi ⟨Zc,Zb ⟨Zc,λa b=>Zp⟩⟩) (λ_=>Zb ⟨Zc,λa b=>Zp⟩) λc f=>Zn ((BL Y λa b=>Zp).mono λg _=>Up ⟨Zc,Zn (tt Zc λh _=>Zn ((BL Y λa b=>Zp).mono λi _=>Zb trivial))⟩)⟩)
noncomputable def CA(h:Nat)(t:Int)(c:Tj×ZN):Zg Kf:=((DH (h:Int) t c.1 c.2).getD (none,0)).1
def zQ(c:Tj×ZN)(h1:1<=B)(e:B<=4)(g:Sm A=some (p,true))(f:TF p):DH (B:Int) A c.1 c.2=some (CA B A c,0)/\∃T,CA B A c=some ((B:Int),A,c.1,c.2,T)/\T.length=2*2^B:=by
 obtain⟨h,a,i,T,b,d⟩:=Zz7 h1 e g f;have:CA B A c=h.1:=by unfold CA;rw[a];rfl
 rw[this];exact⟨Zp,T,b,d⟩
noncomputable def wb(w:Int):Zt:=[Yl 8 (QO w (Zi (Z7 24#64))),Yl 8 (QO w (Zi (Z7 16#64))),Yl 8 (QO w (Zi (Z7 8#64))),Yl 8 w]
def GI(a h:Nat)(t:Int)(sd:ZN)(s:Me):Prop:=s.1=h/\s.2.1=t/\s.2.2.1=sd/\s.2.2.2.1=CA a t (ch sd [])/\(s.2.2.2.2.2=-1\/s.2.2.2.2.1=CA h t (ch sd (wb s.2.2.2.2.2)))
def Zpu{a h:Nat}{sd}(b:1<=a)(c:a<=4)(h1:1<=h)(g:h<=4)(f:Sm A=some (p,true))(e:TF p):W (fN a h A sd) λo=>o.2=0/\∃s,o.1=some s/\GI a h A sd s:=by refine Zn (ez.mono λj i=>Zr ⟨λd=>Zp,λd=>?_⟩);·rw[be (Zdk Zc),be (zQ _ b c f e).1];exact Zr ⟨Zp,λ_=>Zb ⟨rfl,_,rfl,rfl,rfl,rfl,rfl,.inl rfl⟩⟩
def Zxb{s}{w}(j:0<=w)(h1:1<=z)(f:z<=4)(h:Sm A=some (p,true))(g:TF p)(hs:GI B z A C s):W (fO s w) λo=>o.2.2=0/\o.2.1=CA z A (ch C (wb w))/\GI B z A C o.1:=by have⟨a,b,c,d,i⟩:=hs;refine Zr ⟨λe=>Zb ⟨rfl,Zp,a,b,c,d,i⟩,λe=>SF ⟨Zc,SF ⟨Zc,SF ⟨Zc,?_⟩⟩⟩⟩;·rw[c,a,b,be (Zdk Zc),be (zQ _ h1 f h g).1];exact Zr ⟨Zc,λ_=>Zb ⟨rfl,rfl,rfl,rfl,rfl,d,.inr rfl⟩⟩
def ZjY{h:Nat}{t:Int}{id:Tj}{s:ZN}{T:L ZN}(a:2<=T.length):W (oh (some ((h:Int),t,id,s,T))) λb=>b.length=56:=by
 refine Zr ⟨Zc,λ_=>?_⟩;have c:(Xo 0 (YK 16 (XK id))).length=16:=by simp
 rw[ko,be (NN Zc),ko,be (NN (by simp[UD])),ko];refine Up ⟨YI,?_⟩;rw[be (Ek (by simp[UD])),ko];refine Zn (YN ⟨ZB,λe d=>Up ⟨YI,?_⟩⟩);have:=UD (Yl 32 h);have:=UD (Yl 32 t);rw[be (tJ Zp),be (Ig Zp)];exact Zb Xk
def Zw9{a:Nat}(c:1<=a)(d:a<=4)(j:Sm A=some (p,true))(g:TF p):∃b:Zt,b.length<=1000/\∀s,GI a B A C s->wF s=some b:=by obtain⟨T,e,n⟩:=(zQ _ c d j g).2;have l:=tB c d;obtain⟨k,f,o⟩:=ZjY (T:=T) Y;have m:=UD 2#32;refine⟨w4 2#32++k,Zp,λs i=>?_⟩;unfold wF;rw[i.2.2.2.1,e,be f];refine Vp (Zn ((rj Xk).mono λq h=>Zb ?_));rw[h];simp;congr 1
def Zlo:Em i=some (i.1.length:Int):=rfl
def Zb9:QT i=some i.2:=rfl
def ZeL{a:Zt}(j:g.length<=1000000)(hs:a.length<=1000000):W (pK d g a) λ_=>True:=by unfold pK;refine Zr ⟨λ_=>Zb trivial,λh=>?_⟩;simp only[Wx]at h;rw[be (O1 Y)];refine Zn (FQ Y λp _=>Zr ⟨λ_=>Zb trivial,λ_=>Zn (FQ (by rw[VF];omega) λq _=>Zn (FQ XV λs _=>?_))⟩);rw[be (O1 Y),be Pq];have i:=Te (r:=(a,false)) (n:=4);refine Zr ⟨λ_=>Zb trivial,λ_=>Zn (ez.mono λf _=>?_)⟩;rw[be Pp,be Pp,be Zlo,be Pp,be Zb9];generalize tk (a,false) 4=b at*;dsimp only at i⊢;have l:=Te (r:=b.1) (n:=f);generalize tk b.1 f=c at*;have m:=Te (r:=c.1) (n:=56);generalize tk c.1 56=e at*;have o:=Te (r:=e.1) (n:=(e.1.1.length:Int));refine Uz (λ_=>Zn (L9.2 ⟨by simp only[Wx];omega,Zn ((Ze8 Y Y).mono λ_ _=>Zb trivial)⟩)) (λ_=>Zb trivial) λk=>Uz (λ_=>Zn ((Ze8 j Y).mono λ_ _=>Zb trivial)) (λ_=>Zb trivial) λ_=>Zb trivial
def ZcB{s}(hs:s.2.length<=1000000):W (AG s d) λ_=>True:=by refine Zn (fJ.mono λa b=>Uz (λ_=>Zn ((ZeL Y hs).mono λ_ _=>Zb trivial)) (λ_=>Zb trivial) λ_=>Zb trivial)
def Zcp{s}(c:1<=B)(d:B<=4)(h1:1<=z)(i:z<=4)(g:Sm A=some (p,true))(f:TF p)(hs:GI B z A C s):DD s=some ((2^B*2^z:Nat):Int):=by obtain⟨h,e,j⟩:=(zQ _ c d g f).2;unfold DD;rw[hs.2.2.2.1,e,be (jZ Zc Y),hs.1];refine Vp (SF ⟨Zc,Zb ?_⟩);have:(B=1\/B=2\/B=3\/B=4)/\(z=1\/z=2\/z=3\/z=4):=Y;obtain⟨a|a|a|a,b|b|b|b⟩:=this<;>subst a b<;>rw[uU]<;>rfl
def Zxw:∀h:Fin 5,∀k:Fin 256,pS k.val h.val=(k.val/2^h.val:Nat)/\Fl k.val (QS (wM 1 h.val-1))=(k.val%2^h.val:Nat):=by decide+kernel
def Zxv(b:B<5)(c:z<256):QO z B=(z/2^B:Nat)/\SO z (Zm (ZX (SB 1 B) 1))=(z%2^B:Nat):=by rw[Zi2,rW,uU,Cn,show∀a,Zm a=QS a fromλa=>by rw[NL]];exact Zxw ⟨B,b⟩ ⟨z,c⟩
def Zpv{a h:Nat}{i:Int}{m:Zt}(k:1<=a)(l:a<=4)(h1:1<=h)(f:h<=4)(e:Sm A=some (p,true))(d:TF p)(hi:0<=i)(J:i<((2^a*2^h:Nat):Int))(M:m.length<=1000000):∃b:Zt,b.length<=500+64*p.2.1.toNat/\∀s,GI a h A C s->W (pJ s i m) λo=>GI a h A C o.1/\o.2=(b,0):=by
 obtain⟨g,rfl⟩:=Qt hi;have G:=tB k l;have I:=tB h1 f;have L:g<256:=by have:=Nat.mul_le_mul G.2 I.2;omega
 obtain⟨D,B⟩:=Zxv (show h<5by omega) L;have O:g/2^h<2^a:=Nat.div_lt_of_lt_mul (by rw[sK];omega);have K:g%2^h<2^h:=Ez _ Y;generalize g/2^h=w at*;generalize g%2^h=j at*;obtain⟨U,R,P⟩:=(zQ (ch C []) k l e d).2;obtain⟨v,S,Q⟩:=(zQ (ch C (wb (w:Int))) h1 f e d).2;obtain⟨r,x,X⟩:=ZjY (h:=h) (t:=A) (id:=(ch C (wb (w:Int))).1) (s:=(ch C (wb (w:Int))).2) (T:=v) Y;obtain⟨⟨t,s1⟩,y,rfl,E⟩:=ZjZ (m:=r) (id:=(ch C []).1) (s:=(ch C []).2) k l e d P O Y;obtain⟨⟨u,s2⟩,z,rfl,F⟩:=ZjZ (id:=(ch C (wb (w:Int))).1) (s:=(ch C (wb (w:Int))).2) h1 f e d Q K M;have Z:=d.n;have V:=UD 1#32;dsimp only at E F;refine⟨w4 1#32++(t++(r++u)),by simp only[YM];omega,λs q=>?_⟩;unfold pJ;refine Yu (λb=>b=false) (λc=>?_) (λc=>?_) λb H=>?_;·simp only[Wx]at c;omega
 ·rw[be (Zcp k l h1 f e d q)];refine Zb ?_;simp only[Wx];exact J
 ·subst H;have x0:=q.1;refine Zr ⟨λc=>(by cases c),λ_=>SF ⟨Y,SF ⟨Y,?_⟩⟩⟩;rw[q.1,D];refine Zn ((Zxb (w:=(w:Int)) Y h1 f e d q).mono λo n=>Zr ⟨λc=>by rw[n.1]at c;simp only[Wx]at c,λ_=>?_⟩);rw[n.2.1,S,be x,n.2.2.2.2.2.1,R,be y];refine Zr ⟨λc=>by simp only[Wx]at c,λ_=>?_⟩;rw[B,be z];refine Zr ⟨λc=>by simp only[Wx]at c,λ_=>Zn ((rj Zp).mono λx1 N=>Zb ⟨n.2.2,?_⟩)⟩;rw[N];simp only[Iq,Zbg,XX];rfl
abbrev PG:Type:=Vector (ZO 8) 128
def OB(l:L PG)(w:L GN):L PG:=w.foldl (λl a=>l.set a.1.toNat a.2) l
def xn(w):∀l,(OB l w).length=l.length:=by induction w with|nil=>intro l;rfl|cons b w a=>intro l;show(OB _ w).length=_;rw[a,Pz]
def iC(l)(w)(x):OB l (w++[x])=(OB l w).set x.1.toNat x.2:=by unfold OB;simp_all
def DI(N c:Nat)(d:Yb):Prop:=d.1.length=N/\d.2.1=OB d.1 d.2.2.1/\(∀a∈d.2.2.1,0<=a.1/\a.1<N)/\d.2.2.1.length<=c
variable {r:L PG}{T:PG}
def DI.seen(h:DI B z D):D.2.1.length=B:=by rw[h.2.1,xn,h.1]
def DI.le{c'}(h:DI B z D)(a:z<=c'):DI B c' D:=⟨h.1,h.2.1,h.2.2.1,WB h.2.2.2 a⟩
theorem Zic:W (xP D A) λr=>D.2.2.2.2=true/\r=6\/D.2.2.2.2=false/\¬(0<=A/\A<D.1.length)/\r=4\/D.2.2.2.2=false/\(0<=A/\A<D.1.length)/\r=0:=by unfold xP;rw[show xM D=some _ from rfl,bs];refine Zr ⟨λa=>Zb Zp,λa=>Yu (λb=>b=true↔¬(0<=A/\A<D.1.length)) (λa=>Zb<|Zp) (λa=>Zb<|Zp) λb d=>Zr ⟨λc=>Zb Zp,λc=>Zb (.inr (.inr ⟨a,Zp,rfl⟩))⟩⟩
theorem ib(h:DI B z D):W (qz D A) λo=>(o.2=0->D.2.2.2.2=false/\0<=A/\A<B/\∃v:PG,D.2.1[A.toNat]?=some v/\o.1=v.toList)/\(D.2.2.2.2=false->0<=A->A<B->o.2=0):=by
 have m:=h.seen;have k:=h.1;refine Zn (Zic.mono λn l=>Zr ⟨λc=>Zb ⟨λi=>Zp,λe f g=>Zp⟩,λc=>?_⟩)
 ·have⟨a,b,j⟩:D.2.2.2.2=false/\0<=A/\A<D.1.length:=by grind
  refine XC ⟨Zp,Up ⟨Zc,Zn (YN ⟨Y,λv d=>Xi ⟨Zc,Zb ⟨λ_=>⟨a,b,Y,v,d,?_⟩,Zc⟩⟩⟩)⟩⟩;·show List.drop 0 (List.take _ _)=_;rw[Zbf,UT Zc]
def Zgf:W (qA D) λo=>(o.1.1=D.1/\o.1.2.1=D.2.1/\o.1.2.2.1=D.2.2.1)/\o.2=!o.1.2.2.2.2/\(D.2.2.2.1<0->o.1=D)/\(D.2.2.2.2=true->o.1.2.2.2.2=true):=by refine Yu _ (λc=>Zb<|Zp) (λc=>Yu (λa=>(a.1=D.1/\a.2.1=D.2.1/\a.2.2.1=D.2.2.1)/\(D.2.2.2.1<0->a=D)/\(D.2.2.2.2=true->a.2.2.2.2=true)) (λd=>Zb<|Zp) (λd=>Zb<|Zc) λa b=>Zb b) λa b=>Zb ⟨b.1,Zc,b.2⟩
def ZcP{b}(h:DI B z D)(H:z<4000000000):W (xO D A b) λo=>DI B (z+1) o.1/\o.1.1=D.1/\(o.2=0->0<=A/\A<B/\D.2.2.2.2=false/\o.1.2.2.2.2=false/\∃v:PG,v.toList=b/\o.1.2.2.1=D.2.2.1++[(A,v)])/\(o.2≠0->o.1.2.2.1=D.2.2.1)/\(o.2=6->o.1.2.2.2.2=true)/\(b.length=128->0<=A->A<B->o.2=0\/o.2=6)/\(D.2.2.2.1<0->D.2.2.2.2=false->b.length=128->0<=A->A<B->o.2=0/\o.1.2.2.2=D.2.2.2):=by
 have I:=h.seen;have x:=h.1;unfold xO;refine Zn (Zic.mono λJ n=>Zr ⟨λm=>Zb ?_,λm=>Zr ⟨λu=>Zb ?_,λu=>?_⟩⟩)
 ·simp only[Wx]at m;refine⟨h.le Y,rfl,λa=>absurd a m,λ_=>rfl,λa=>?_,λg i k=>?_,λg i k p r=>?_⟩
  ·dsimp only at a⊢;obtain⟨f,c⟩|⟨-,-,c⟩|⟨-,-,c⟩:=n;·exact f
   ·omega
   ·omega
  ·obtain⟨f,c⟩|⟨-,w,c⟩|⟨-,-,c⟩:=n;·exact .inr c
   ·omega
   ·omega
  ·obtain⟨f,c⟩|⟨-,w,c⟩|⟨-,-,c⟩:=n;·rw[i]at f;cases f
   ·omega
   ·omega
 ·simp only[Wx]at u;exact⟨h.le Y,rfl,λa=>(by cases a),λ_=>rfl,λa=>(by cases a),λg i k=>Y,λg i k p r=>Y⟩
 ·simp only[Wx]at m u;have⟨f,c,w⟩:D.2.2.2.2=false/\0<=A/\A<D.1.length:=by
   obtain⟨-,a⟩|⟨-,-,a⟩|⟨f,c,-⟩:=n;·omega
   ·omega
   ·exact⟨f,c⟩
  refine Zn (Zgf.mono λo y=>Zr ⟨λd=>Zb ?_,λd=>?_⟩)
  ·obtain⟨⟨j,l,e⟩,s,t,F⟩:=y;simp only[Wx]at d;rw[s]at d;have d:o.1.2.2.2.2=true:=by simpa using d
   refine⟨⟨by rw[j,x],by rw[j,l,e,h.2.1],by rw[e];exact h.2.2.1,by rw[e];have:=h.2.2.2;omega⟩,j,λa=>(by cases a),λ_=>e,λ_=>d,λ_ _ _=>.inr rfl,λg i k p r=>?_⟩;rw[t g,i]at d;cases d
  ·obtain⟨⟨j,l,e⟩,s,t,F⟩:=y;simp only[Wx]at d;rw[s]at d;refine Zn (tt Y λv G=>Xi ⟨by rw[e];simp only[Wx,VJ];have:=h.2.2.2;omega,XC ⟨by rw[l];simp only[Wx];omega,Zb (⟨⟨by rw[<-x,<-j],?_,?_,?_⟩,j,λ_=>⟨c,Y,f,by simpa using d,v,G,?_⟩,λa=>absurd rfl a,λa=>(by cases a),λ_ _ _=>.inl rfl,λg i k p r=>⟨rfl,?_⟩⟩)⟩⟩);·show List.set o.1.2.1 A.toNat v=OB o.1.1 (o.1.2.2.1++[(A,v)]);rw[j,l,e,iC,<-h.2.1]
   ·intro E C;change E∈o.1.2.2.1++[(A,v)]at C;obtain q|q:=ZY C;·rw[e]at q;exact h.2.2.1 E q
    ·rw[YV q];exact⟨c,ZB⟩
   ·show(o.1.2.2.1++[(A,v)]).length<=_;rw[e,YM,VJ];have:=h.2.2.2;omega
   ·show o.1.2.2.1++[(A,v)]=_;rw[e]
   ·show o.1.2.2.2=_;rw[t g]
def Zcb(h:DI B z D)(E:z<4000000000):W (xN D) λo=>DI B z o.1/\(o.2=0\/o.2=6)/\(o.2=0->D.2.2.2.2=false/\o.1.2.2.2.2=false/\o.1.1=OB D.1 D.2.2.1/\o.1.2.2.1=[])/\(o.2=6->o.1.1=D.1/\o.1.2.2.1=D.2.2.1/\o.1.2.2.2.2=true)/\(D.2.2.2.1<0->D.2.2.2.2=false->o.2=0/\o.1.2.2.2=D.2.2.2):=by
 have u:=h.1;unfold xN;rw[show xM D=some D.2.2.2.2from rfl,bs];refine Zr ⟨λj=>Zb ⟨h,.inr rfl,λc=>(by cases c),λ_=>⟨rfl,rfl,j⟩,λ_ c=>by rw[j]at c;cases c⟩,λj=>Zn (Zgf.mono λo v=>Zr ⟨λb=>Zb ?_,λb=>?_⟩)⟩
 ·obtain⟨⟨e,n,d⟩,p,q,C⟩:=v;simp only[Wx]at b;rw[p]at b;have b:o.1.2.2.2.2=true:=by simpa using b
  refine⟨⟨by rw[e,u],by rw[e,n,d,h.2.1],by rw[d];exact h.2.2.1,by rw[d];exact h.2.2.2⟩,.inr rfl,λc=>(by cases c),λ_=>⟨e,d,b⟩,λm t=>?_⟩;rw[q m,t]at b;cases b
 ·obtain⟨⟨e,n,d⟩,p,q,C⟩:=v;simp only[Wx]at b;rw[p]at b;have b:o.1.2.2.2.2=false:=by simpa using b
  refine Zn (W.Tl (λa=>0<=a.1/\a.1<=D.2.2.1.length/\a.2.1=D.2.2.1/\a.2.2.1=OB D.1 (D.2.2.1.take a.1.toNat)/\a.2.2.2=o.1.2) (λa=>a.2.2.1=OB D.1 D.2.2.1/\a.2.2.2=o.1.2) (λa=>(D.2.2.1.length-a.1).toNat) ⟨Zc,ZB,d,e,rfl⟩ ?_ (λa s=>?_) λa s=>Zb ?_);·have:=h.2.2.2;dsimp only;omega
  ·obtain⟨i,F,A,G⟩:=a;obtain⟨f,g,x,k,y⟩:=s;dsimp only at f g x k y;subst x y;rw[d];refine Zr ⟨λr=>?_,λr=>Zb ⟨?_,rfl⟩⟩
   ·simp only[Wx]at r;refine Zn (YN ⟨ZB,λl w=>XC ⟨?_,Zb ?_⟩⟩);·have:=h.2.2.1 l (X2 w);rw[k];simp only[Wx,xn];omega
    ·rw[show Zm (Zv i 1)=i+1by simp only[Wx];exact ZK (by have:=h.2.2.2;omega)];refine⟨⟨ZB,ZB,rfl,?_,rfl⟩,ZB⟩;show List.set A l.1.toNat l.2=_;rw[k,show(i+1).toNat=i.toNat+1by omega,NS,show D.2.2.1[i.toNat]?=some l from w];exact(iC _ _ _).symm
   ·simp only[Wx]at r;show A=_;rw[k,UT Y]
  ·obtain⟨f,g⟩:=s;refine⟨⟨?_,?_,Zc,Zc⟩,.inl rfl,λ_=>⟨j,?_,f,rfl⟩,λc=>(by cases c),λm t=>⟨rfl,?_⟩⟩;·show a.2.2.1.length=B;rw[f,xn,u]
   ·show a.2.2.2.1=a.2.2.1;rw[f,g,n,h.2.1]
   ·show a.2.2.2.2.2.2=_;rw[g,b]
   ·show a.2.2.2.2.2=_;rw[g,q m]
abbrev Un:PG:=Rk 128 0#8
def OZ(o v:PG)(c:Nat):PG:=yb o 0 (v.toList.take c)
def ZAq(o v)(h:B<=128):(OZ o v B).toList=v.toList.take B++o.toList.drop B:=by unfold OZ;rw[Zkj _ _ _ Zp,List.take_zero,UG,UF,Bd,PA h,Qc]
def Cy(l:L PG)(x:L (GN×Nat)):L PG:=x.foldl (λl x=>l.set x.1.1.toNat (OZ (l.getD x.1.1.toNat Un) x.1.2 x.2)) l
def ZAm(x):∀l,(Cy l x).length=l.length:=by induction x with|nil=>intro l;rfl|cons b x a=>intro l;show(Cy _ x).length=_;rw[a,Pz]
def NZ(l:L PG)(w:L GN)(c:L PG):Prop:=∃a:L Nat,a.length=w.length/\(∀b∈a,b<=128)/\c=Cy l (w.zip a)
def NZ.nil{l}:NZ l [] l:=⟨[],rfl,Zc,rfl⟩
def NZ.snoc{a}{w}{x}(h:NZ r w a)(f:B<=128):NZ r (w++[x]) (a.set x.1.toNat (OZ (a.getD x.1.toNat Un) x.2 B)):=by obtain⟨c,b,e,rfl⟩:=h;refine⟨c++[B],by simp[b],λd g=>Zp,?_⟩;·rw[List.zip_append b.symm];unfold Cy;rw[sf];rfl
def ZcA{cuts}(h:DI B z D)(w:z<4000000000):W (Dl D cuts) λo=>DI B 0 o/\o.2.2=([],-1,false)/\NZ D.1 D.2.2.1 o.1:=by
 have v:=h.2.2.2;unfold Dl;refine Zn (W.Tl (λa=>0<=a.1/\a.1<=D.2.2.1.length/\a.2.1=D.2.2.1/\NZ D.1 (D.2.2.1.take a.1.toNat) a.2.2.1/\a.2.2.1.length=B/\a.2.2.2=D.2) (λa=>NZ D.1 D.2.2.1 a.2.2.1/\a.2.2.1.length=B/\a.2.2.2=D.2) (λa=>(D.2.2.1.length-a.1).toNat) ⟨Zc,ZB,rfl,NZ.nil,h.1,rfl⟩ ZB (λa g=>?_) λa g=>Zb ?_)
 ·obtain⟨c,A,d,C⟩:=a;obtain⟨j,k,l,m,n,t⟩:=g;dsimp only at j k l m n t;subst l t;refine Zr ⟨λf=>?_,λf=>Zb ⟨?_,n,rfl⟩⟩
  ·simp only[Wx]at f;refine Zn (YN ⟨ZB,λb s=>Yu (λq=>0<=q/\q<=128) (λr=>?_) (λr=>Zb Y) λq u=>?_⟩);·simp only[Wx]at r;refine Zn (YN ⟨ZB,λp i=>Zb ?_⟩);simp only[Wx];omega
   ·have y:=h.2.2.1 b (X2 s);obtain⟨z,rfl⟩:=Qt u.1;refine XC ⟨by simp only[Wx];omega,Up ⟨Y,Up ⟨Y,Zn (YN ⟨ZB,λp i=>Zb ?_⟩)⟩⟩⟩;rw[show Zm (Zv c 1)=c+1by simp only[Wx];exact ZK Y];dsimp only at i;have e:List.set d b.1.toNat (yb p 0 (List.take ((z:Int)-0).toNat (List.drop 0 (List.take z b.2.toList))))=d.set b.1.toNat (OZ (d.getD b.1.toNat Un) b.2 z):=by rw[Zbf,show((z:Int)-0).toNat=z by omega,Is,Nat.min_self,Rm,i];rfl
    refine⟨⟨ZB,ZB,rfl,?_,?_,rfl⟩,ZB⟩;·show NZ _ _ (List.set d b.1.toNat (yb p 0 (List.take ((z:Int)-0).toNat (List.drop 0 (List.take z b.2.toList)))));rw[e];dsimp only;rw[show(c+1).toNat=c.toNat+1by omega,NS,show D.2.2.1[c.toNat]?=some b from s];exact m.snoc Y
    ·show(List.set d _ _).length=B;rw[Pz];exact n
  ·simp only[Wx]at f;dsimp only;rwa[UT Y]at m
 ·obtain⟨j,k,l⟩:=g;have x:=h.seen;have e:Ye (YK (Zj a.2.2.2.1) a.2.2.1) (Xo (Zj a.2.2.1) a.2.2.2.1)=a.2.2.1:=by grind
  rw[e];exact⟨⟨k,rfl,Zc,Zc⟩,rfl,j⟩
def ZnM{ds}{n}(c:0<=n)(h1:n<=4096):W (gS ds n) λo=>o.2.2=0/\o.2.1=some ds.length/\o.1=ds++[(List.replicate n.toNat Un,List.replicate n.toNat Un,[],-1,false)]:=by refine Yu (λa=>a=false) (λb=>Zp) (λb=>Zb Zp) λa d=>Zr ⟨Zp,λ_=>L7.2 ⟨Y,L7.2 ⟨Y,Zb ⟨rfl,rfl,rfl⟩⟩⟩⟩
def Zrd(l)(b):TA (l++[b])=TA l<<<8|||b.setWidth 64:=by unfold TA;simp_all
theorem Zc7(x:ZO 64)(b):∀k,k+1<=8->Xf (x<<<8|||b.setWidth 64) (k+1)=Xf x k++[b]|0,_=>by show[BitVec.setWidth 8 _]=[b];simp_all|k+1,h=>by show BitVec.setWidth 8 _::Xf _ _=BitVec.setWidth 8 _::Xf x k++[b];rw[Zc7 x b k Y];congr 1;grind
def qe:∀(k)(l),l.length=k->k<=8->Xf (TA l) k=l|0,l,h,_=>by rw[Ok h];rfl|k+1,l,h,hk=>by obtain⟨a,b,rfl⟩:∃a b,l=a++[b]:=⟨l.dropLast,l.getLast _,(ZkB Zp).symm⟩;rw[Zrd,Zc7 _ _ _ hk,qe k a Zp Y]
def vR(h:B<=d.length):pk (d,false) B=(TA (d.take B),true):=by unfold pk;rw[Ys Zp]
def Zh8{Q}(h:8<=d.length)(a:Q ((d.drop 8,false),TA (d.take 8))):W (HU (d,false)) Q:=by rw[mB,KA rfl Zc Zp,vR h];exact Zb a
def uq{b:Zt}{Q}(h:1<=b.length)(c:∀x l,b=x::l->Q ((l,false),x.toNat)):W (Ii (b,false)) Q:=by rw[uo,vR h];refine Zb ?_;cases b with|nil=>grind|cons x l=>
  have:=c x l rfl;have a:(TA (List.take 1 (x::l))).toNat=x.toNat:=by show(0#64<<<8|||x.setWidth _).toNat=_;simp;omega
  rw[a];exact this
def QL(g:ZO 32)(n:ZO 32):ZO 64:=g.setWidth 64<<<32|||n.setWidth 64
def ZqR(g n):(QL g n>>>32).setWidth 32=g:=by apply tW;intro b a;simp[QL,a,Y,show 32+b<64by omega]
def ZfJ(g n):(QL g n).setWidth 32=n:=by apply tW;intro b a;simp[QL,a,Y]
def Zfs{p}:kB p=some (QL p.1 (Yl 32 p.2.1)):=by exact Vp (SF ⟨Zc,Zb rfl⟩)
def Rj(g:ZO 32)(n:Int)(k:ZO 8)(d:Zt):Zt:=Xf (QL g (Yl 32 n)) 8++k::BitVec.ofNat 8 d.length::(d++(List.replicate (110-d.length) 0#8++Xf (QL g (Yl 32 n)) 8))
def ZrT(h:d.length<=110):(Rj a A G d).length=128:=by unfold Rj;simp[YM,Wl,Va,sA];omega
def be1(h:A=G.toNat):Xf (BitVec.ofInt 64 A) 1=[G]:=by show[BitVec.setWidth 8 _]=[G];grind
def yc{x}{k}(h:x=k.toNat)(a:d.length<=4000000000):Px (d,false) x=some (d++[k],false):=by rw[ip Zp,be1 h];unfold Vd;rw[Ys Y];rfl
def kw(a:d.length<=4000000000):Eo (d,false) R=some (d++Xf R 8,false):=Zl3 Zp
def ZrM{k}(hx:o=k.toNat)(c:d.length<=110):kC (a,A,o,d)=some (Rj a A k d,0):=by unfold kC;rw[be Zfs,be (kw Zc),be (yc hx (by simp[Va])),be (yc (k:=BitVec.ofNat 8 d.length) Zp (by simp[Va])),be (Ek (by simp[Va];omega)),show Zm _=((110-d.length:Nat):Int)by simp only[Wx];rw[ZK Y];omega];refine Vp (L7.2 ⟨Y,?_⟩);have b:RB (Yo ((110-d.length:Nat):Int)) 0#8=List.replicate (110-d.length) 0#8:=Zc;rw[b,be (Ek (by simp[Va];omega)),be Zfs,be (kw (by simp[Va];omega)),be (Ig (by simp[Va];omega))];refine Zb ?_;unfold Rj;simp
def TW(b:Zt):ZO 32:=(TA (b.take 8)>>>32).setWidth 32
def ll(b:Zt):Nat:=(b.getD 9 0#8).toNat
def kk(b:Zt):Int:=((b.getD 8 0#8).toNat:Int)
def wP(b:Zt):xJ:=(TW b,(((TA (b.take 8)).setWidth 32).toNat:Int),kk b,(b.drop 10).take (ll b))
def LG(b:Zt)(n:Int):Prop:=ll b<=110/\(∀a∈((b.drop 10).drop (ll b)).take (110-ll b),a=0#8)/\b.drop 120=b.take 8/\(ll b=110\/¬SO (kk b) 2=0)/\kk b<=3/\(((TA (b.take 8)).setWidth 32).toNat:Int)=n
def Zrc(h:TA d=TA g)(b:d.length=g.length)(a:d.length<=8):d=g:=by rw[<-qe _ d rfl a,<-qe _ g rfl Y,h,b]
def Zkq(P:d.length=128):W (kD d A a) λo=>(o.2=true↔LG d A/\a<=TW d)/\(o.2=true->o.1=wP d):=by
 unfold kD;rw[be (O1 Y)];refine Zn (Zh8 Y (SF ⟨YI,Zn (uq (by rw[VF];omega) λt I l=>Zn (uq (b:=I) ?_ λc h u=>?_))⟩));·have:=WX List.length l;rw[VF,Wl]at this;omega
 have k:List.drop 10 d=h:=by rw[show 10=8+2from rfl,<-TD,l,u];rfl
 have Q:h.length=118:=by rw[<-k,VF];omega
 have B:kk d=t.toNat:=by
  unfold kk;have:d[8]?=some t:=by have:=WX (·[0]?) l;simpa[Py]using this
  rw[Rm,this];rfl
 have n:ll d=c.toNat:=by
  unfold ll;have:d[9]?=some c:=by have:=WX (·[1]?) l;rw[u]at this;simpa[Py]using this
  rw[Rm,this];rfl
 refine Zr ⟨λm=>Zb ⟨⟨λe=>(by cases e),λe=>?_⟩,λe=>by cases e⟩,λm=>?_⟩;·simp only[Wx]at m;have:=e.1.1;omega
 simp only[Wx]at m;refine Zn (zt (b:=h) Y Y ?_);rw[WL,show Zm (ZX 110 (c.toNat:Int))=((110-c.toNat:Nat):Int)by simp only[Wx];rw[ZK Y];omega];refine Zn (zt (b:=List.drop c.toNat h) Y (by rw[VF];omega) ?_);rw[WL];have R:(List.take (110-c.toNat) (List.drop c.toNat h)).length=110-c.toNat:=by rw[UF,VF];omega
 refine WM (W.VQ (λf=>0<=f.1/\f.1<=(110-c.toNat:Nat)/\∀i∈(List.take (110-c.toNat) (List.drop c.toNat h)).take f.1.toNat,i=0#8) (λf=>∀i∈List.take (110-c.toNat) (List.drop c.toNat h),i=0#8) (λf=>(110-c.toNat-f.1).toNat) (λE=>E.2=false/\¬LG d A) ⟨Zc,ZB,Zc⟩ ZB (λf r=>?_) (λf r=>?_) λE p=>⟨⟨λe=>(by rw[p.1]at e;cases e),λe=>(p.2 e.1).elim⟩,λe=>by rw[p.1]at e;cases e⟩)
 ·obtain⟨S,T,D⟩:=r;refine Zr ⟨λb=>?_,λb=>Zb ?_⟩
  ·simp only[Wx]at b;refine Zn (YN ⟨ZB,λi C=>Zr ⟨λj=>?_,λj=>Zb ?_⟩⟩);·rw[bs];simp only[Wx]at j;refine Zb ⟨rfl,λe=>j ?_⟩;have:=e.2.1 i;rw[k,n]at this;exact this (X2 C)
   ·simp only[Wx]at j;rw[show Zm (Zv f.1 1)=f.1+1by simp only[Wx];exact ZK Y];refine⟨⟨ZB,ZB,λF s=>?_⟩,ZB⟩;dsimp only at s;rw[show(f.1+1).toNat=f.1.toNat+1by omega,NS,show(List.take (110-c.toNat) (List.drop c.toNat h))[f.1.toNat]?=some i from C]at s;obtain q|q:=ZY s;·exact D F q
    ·rw[show F=i by simpa using q];exact j
  ·simp only[Wx]at b;rwa[UT Y]at D
 ·have H:List.drop (110-c.toNat) (List.drop c.toNat h)=List.drop 120 d:=by rw[TD,<-k,TD];congr 1;omega
  dsimp only;rw[H];refine Zn (Zh8 (by rw[VF];omega) ?_);rw[show List.take 8 (List.drop 120 d)=List.drop 120 d from UT (by rw[VF];omega),show List.drop 8 (List.drop 120 d)=[]by rw[TD];exact QZ Y];dsimp only;rw[be JW];refine Yu (λg=>g=true↔List.drop 120 d=List.take 8 d) (λb=>Zb ?_) (λb=>Zb ?_) λJ v=>Yu (λg=>g=true↔ll d=110\/¬SO (kk d) 2=0) (λb=>Zb ?_) (λb=>Zb ?_) λK w=>Yu (λg=>g=true↔List.drop 120 d=List.take 8 d/\(ll d=110\/¬SO (kk d) 2=0)) (λb=>Zb<|⟨λe=>⟨v.1 b,w.1 e⟩,λe=>w.2 e.2⟩) (λb=>Zb<|⟨λe=>(by cases e),λe=>by rw[v.2 e.1]at b;cases b⟩) λL x=>Yu (λg=>g=true↔(List.drop 120 d=List.take 8 d/\(ll d=110\/¬SO (kk d) 2=0))/\kk d<=3) (λb=>Zb ?_) (λb=>Zb ⟨λe=>(by cases e),λe=>by rw[x.2 e.1]at b;cases b⟩) λM y=>Yu (λg=>g=true↔((List.drop 120 d=List.take 8 d/\(ll d=110\/¬SO (kk d) 2=0))/\kk d<=3)/\(((TA (d.take 8)).setWidth 32).toNat:Int)=A) (λb=>Zb ?_) (λb=>Zb<|⟨λe=>(by cases e),λe=>by rw[y.2 e.1]at b;cases b⟩) λN z=>Yu (λg=>g=true↔(((List.drop 120 d=List.take 8 d/\(ll d=110\/¬SO (kk d) 2=0))/\kk d<=3)/\(((TA (d.take 8)).setWidth 32).toNat:Int)=A)/\a<=TW d) (λb=>Zb ?_) (λb=>Zb ⟨λe=>(by cases e),λe=>by rw[z.2 e.1]at b;cases b⟩) λO G=>Zb ⟨?_,λ_=>?_⟩;·rw[Ur]at b;have:=Zrc b (by rw[VF,UF];omega) (by rw[VF];omega);simp[this]
  ·rw[M9]at b;simp only[RK,false_iff];exactλe=>b (by rw[e])
  ·rw[Ur]at b;simp only[true_iff];left;omega
  ·rw[M9]at b;rw[B];simp only[Wx];refine⟨λe=>.inr e,?_⟩
   ·rintro(e|e);·exfalso;omega
    ·exact e
  ·simp only[Wx];exact⟨λe=>⟨x.1 b,Y⟩,λe=>Y⟩
  ·rw[Ur];exact⟨λe=>⟨y.1 b,e⟩,λe=>e.2⟩
  ·simp only[Wx];exact⟨λe=>⟨z.1 b,e⟩,λe=>e.2⟩
  ·rw[G];unfold LG;rw[k,n];exact⟨λe=>⟨⟨Y,r,e.1.1.1.1,e.1.1.1.2,e.1.1.2,e.1.2⟩,e.2⟩,λe=>⟨⟨⟨⟨e.1.2.2.1,e.1.2.2.2.1⟩,e.1.2.2.2.2.1⟩,e.1.2.2.2.2.2⟩,e.2⟩⟩
  ·show(TW d,_,(t.toNat:Int),List.take c.toNat h)=wP d;unfold wP;rw[B,n,k]
def nA:(Rj a A G d).take 8=Xf (QL a (Yl 32 A)) 8:=by exact tq (Va _ _)
def dL(g n):TA (Xf (QL g n) 8)=QL g n:=by rw[oW];simp_all
def Zgp:TW (Rj a A G d)=a:=by unfold TW;rw[nA,dL,ZqR]
def Zgn{g}{n}{k}{d}:(Rj g n k d).drop 8=k::BitVec.ofNat 8 d.length::(d++(List.replicate (110-d.length) 0#8++Xf (QL g (Yl 32 n)) 8)):=by exact qI (Va _ _)
def Zgo:kk (Rj a A G d)=G.toNat:=by
 have:=by have:=WX (·[0]?) (Zgn (g:=a) (n:=A) (k:=G) (d:=d));simpa[Py]using this
 rfl
def ny(h:d.length<=110):ll (Rj a A G d)=d.length:=by
 unfold ll;have:=by have:=WX (·[1]?) (Zgn (g:=a) (n:=A) (k:=G) (d:=d));simpa[Py]using this
 grind
def nw:(Rj a A G d).drop 10=d++(List.replicate (110-d.length) 0#8++Xf (QL a (Yl 32 A)) 8):=by rfl
def Zrl(a:0<=A)(h1:A<4294967296):(Yl 32 A).toNat=A:=lW a h1
def ZrV{n}{k}{d}(h:d.length<=110)(e:0<=n)(h1:n<4294967296)(g:k.toNat<=3)(f:d.length=110\/¬SO k.toNat 2=0):LG (Rj a n k d) n/\wP (Rj a n k d)=(a,n,(k.toNat:Int),d):=by
 have b:=Zrl e h1;refine⟨⟨by rw[ny h];exact h,?_,?_,by rw[ny h];exact f,by rw[Zgo];omega,by rw[nA,dL,ZfJ];exact b⟩,?_⟩;·intro i c;rw[nw,ny h,qI rfl,tq Zc]at c;exact(List.mem_replicate.1 c).2
 ·rw[show 120=10+110from rfl,<-TD,nw,<-Yc];exact qI Zp
 ·unfold wP;rw[Zgp,nA,dL,ZfJ,b,Zgo,nw,ny h,tq rfl]
def YQ(l:L PG)(i:Nat):Zt:=(l.getD i Un).toList
def zi(l)(i):(YQ l i).length=128:=by unfold YQ;simp
def Mc(l:L PG)(f pos n:Nat):Zt:=((List.range' pos n).map λa=>(wP (YQ l (f+a))).2.2.2).flatten
def xw(l)(f pos n):Mc l f pos (n+1)=Mc l f pos n++(wP (YQ l (f+(pos+n)))).2.2.2:=by unfold Mc;rw[List.range'_concat,WW];simp
def iW(l)(f pos):∀n k,(Mc l f pos n).length<=(Mc l f pos (n+k)).length|n,0=>YA _|n,k+1=>by have:=iW l f pos n k;rw[show n+(k+1)=n+k+1by omega,xw,YM];omega
def Kh(b:Zt):Prop:=¬SO (kk b) 1=0
def DJ(b:Zt):Prop:=¬SO (kk b) 2=0
def Oy(l:L PG)(f sp pos:Nat)(m:ZO 32)(r:Zt)(b:Nat)(g:ZO 32):Prop:=pos<b/\b<=sp/\m<=g/\r.length<=6000/\(∀a,pos<=a->a<b->LG (YQ l (f+a)) ((a:Int)+1)/\TW (YQ l (f+a))=g/\(Kh (YQ l (f+a))↔a=pos)/\(DJ (YQ l (f+a))↔a+1=b))/\r=Mc l f pos (b-pos)
def Stop(l:L PG)(f sp pos:Nat)(m:ZO 32):Prop:=∀c b a,¬Oy l f sp pos m c b a
def Qf(l:L PG)(f sp:Nat):Nat->ZO 32->L Zt->Nat->ZO 32->Prop|pos,m,[],a,m'=>pos=a/\m=m'|pos,m,r::R,a,m'=>∃c b,Oy l f sp pos m r c b/\Qf l f sp c b R a m'
def Qf.snoc:∀{R}{pos}{m}{e}{b},Qf r B z pos m R e b->Oy r B z e b d c a->Qf r B z pos m (R++[d]) c a|[],_,_,_,_,⟨rfl,rfl⟩,h=>⟨c,a,h,rfl,rfl⟩|_::_,_,_,_,_,⟨p,g,h1,h2⟩,h=>⟨p,g,h1,h2.snoc h⟩
def Oy.uniq(h:Oy r B z c a d J k)(h':Oy r B z c a g e b):d=g/\J=e/\k=b:=by
 have⟨l,m,n,o,f,p⟩:=h;have⟨s,t,u,v,i,w⟩:=h';have x:J=e:=by
  obtain q|q|q:=Nat.lt_trichotomy J e;·have j:=(i _ Y Y).2.2.2.1 ((f (J-1) Y Y).2.2.2.2 Y);omega
  ·exact q
  ·have j:=(f _ Y Y).2.2.2.1 ((i (e-1) Y Y).2.2.2.2 Y);omega
 grind
def Qf.uniq:∀{R c}{pos}{m}{p b}{g a},Qf r B z pos m R p g->Stop r B z p g->Qf r B z pos m c b a->Stop r B z b a->R=c/\p=b/\g=a|[],[],_,_,_,_,_,_,⟨rfl,rfl⟩,_,⟨rfl,rfl⟩,_=>⟨rfl,rfl,rfl⟩|[],_::_,_,_,_,_,_,_,⟨rfl,rfl⟩,s,⟨p,g,h1,_⟩,_=>(s _ _ _ h1).elim|_::_,[],_,_,_,_,_,_,⟨p,g,h1,_⟩,_,⟨rfl,rfl⟩,s=>(s _ _ _ h1).elim|_::_,_::_,_,_,_,_,_,_,⟨p,g,h1,h2⟩,s,⟨b,a,h1',d⟩,s'=>by have⟨rfl,rfl,rfl⟩:=h1.uniq h1';have⟨rfl,rfl,rfl⟩:=h2.uniq s d s';exact⟨rfl,rfl,rfl⟩
def Gs(l:L PG)(f b p:Nat)(e m:ZO 32)(c:Zt)(d:ZO 32):Prop:=b<=p/\c=Mc l f b (p-b)/\c.length<=6000/\(p=b/\d=0#32/\m=e\/b<p/\d=m/\e<=m/\¬m=0#32/\∀a,b<=a->a<p->LG (YQ l (f+a)) ((a:Int)+1)/\TW (YQ l (f+a))=m/\(Kh (YQ l (f+a))↔a=b)/\¬DJ (YQ l (f+a)))
def Gs.ZpI{l}(h:Gs l B c J a k d b){r}{g}(o:Oy l B z c a r e g):J<e/\(c<J->g=k):=by
 have⟨p,s,t,m⟩:=h;have⟨n,u,v,w,f,x⟩:=o;obtain⟨i,-,-⟩|⟨i,-,-,-,j⟩:=m;·grind
 ·refine⟨?_,λ_=>by rw[<-(f c Y n).2.1,(j _ Zc i).2.1]⟩;obtain q|q:=Rn J e;·exact q
  ·exact((j _ Y Y).2.2.2 ((f (e-1) Y Y).2.2.2.2 Y)).elim
def Gs.stop(h:Gs r B c J a k d b)(x:¬(J<z/\(LG (YQ r (B+J)) (J+1)/\k<=TW (YQ r (B+J)))/\(Kh (YQ r (B+J))↔b=0#32)/\(¬b=0#32->TW (YQ r (B+J))=b)/\d.length+(wP (YQ r (B+J))).2.2.2.length<=6000)):Stop r B z c a:=by
 intro I i H n;obtain⟨v,w⟩:=h.ZpI n;obtain⟨A,p,C,j⟩:=h;obtain⟨D,E,q,F,s,t⟩:=n;obtain⟨u,l,m,G⟩:=s J Y v;refine x ⟨Y,⟨u,?_⟩,?_,λe=>Xk,?_⟩
 ·obtain⟨e,-,f⟩|⟨e,-,-,-,y⟩:=j;·rw[l,f];exact q
  ·rw[l,w e];exact kX _
 ·obtain⟨e,g,f⟩|⟨e,g,-,f,y⟩:=j;·rw[m];exact⟨λ_=>g,λ_=>e⟩
  ·rw[m];exact⟨λo=>Y,λo=>absurd (g▸o) f⟩
 ·have:=iW r B c (J-c+1) (i-c-(J-c+1));rw[show J-c+1+(i-c-(J-c+1))=i-c by omega,<-t,xw,YM,<-p,show c+(J-c)=J by omega]at this;omega
def Gs.next(h:Gs r B c J a k d b)(y:¬a=0#32)(h1:J<z)(h2:LG (YQ r (B+J)) (J+1))(I:k<=TW (YQ r (B+J)))(w:Kh (YQ r (B+J))↔b=0#32)(K:¬b=0#32->TW (YQ r (B+J))=b)(x:d.length+(wP (YQ r (B+J))).2.2.2.length<=6000):(¬DJ (YQ r (B+J))->Gs r B c (J+1) a (TW (YQ r (B+J))) (d++(wP (YQ r (B+J))).2.2.2) (TW (YQ r (B+J))))/\(DJ (YQ r (B+J))->Oy r B z c a (d++(wP (YQ r (B+J))).2.2.2) (J+1) (TW (YQ r (B+J)))):=by
 obtain⟨G,v,H,m⟩:=h;have p:d++(wP (YQ r (B+J))).2.2.2=Mc r B c (J+1-c):=by rw[show J+1-c=J-c+1by omega,xw,<-v,show c+(J-c)=J by omega]
 have s:(d++(wP (YQ r (B+J))).2.2.2).length<=6000:=by rw[YM];exact x
 have i:a<=TW (YQ r (B+J)):=by grind
 have A:¬TW (YQ r (B+J))=0#32:=by intro f;rw[f]at i;exact y (Za6 i)
 have o:∀e,c<=e->e<J->LG (YQ r (B+e)) ((e:Int)+1)/\TW (YQ r (B+e))=TW (YQ r (B+J))/\(Kh (YQ r (B+e))↔e=c)/\¬DJ (YQ r (B+e)):=λe j u=>by
  obtain⟨f,-,-⟩|⟨f,g,-,n,L⟩:=m;·omega
  ·grind
 have t:Kh (YQ r (B+J))↔J=c:=by
  rw[w];obtain⟨f,g,-⟩|⟨f,g,-,n,-⟩:=m;·exact⟨λ_=>f,λ_=>g⟩
  ·exact⟨λq=>absurd (g▸q) n,λq=>Y⟩
 refine⟨λl=>⟨Y,p,s,.inr ⟨Y,rfl,i,A,λe j u=>?_⟩⟩,λl=>⟨Y,Y,i,s,λe j u=>?_,p⟩⟩
 ·obtain q|q:=Rn e J;·exact o e j q
  ·rw[show e=J by omega];exact⟨h2,rfl,t,l⟩
 ·obtain q|q:=Rn e J;·obtain⟨C,D,E,F⟩:=o e j q;exact⟨C,D,E,λf=>absurd f F,λf=>Y⟩
  ·rw[show e=J by omega];exact⟨h2,rfl,t,λ_=>rfl,λ_=>l⟩
theorem Zkk(j:D.1.length<=4096):W (kA D A o a k) λb=>b=true↔0<=A/\0<=o/\A+o<=D.1.length/\0#32<a/\a<=k:=by
 unfold kA GQ;refine Yu (λb=>b=true↔0<=A/\0<=o) λc=>Zb<|by simp only[Wx]at c⊢;omega λc=>Zb<|by simp only[Wx]at c;simp;omega λb d=>Yu (λb=>b=true↔0<=A/\0<=o/\A<=D.1.length) (λc=>?_) (λc=>Zb<|Zp) λf e=>Yu (λb=>b=true↔0<=A/\0<=o/\A+o<=D.1.length) (λc=>?_) (λc=>Zb<|Zp) λg l=>Yu (λb=>b=true↔(0<=A/\0<=o/\A+o<=D.1.length)/\0#32<a) (λc=>Zb<|Zp) (λc=>Zb<|Zp) λh m=>Yu (λb=>b=true↔((0<=A/\0<=o/\A+o<=D.1.length)/\0#32<a)/\a<=k) (λc=>Zb<|Zp) (λc=>Zb<|Zp) λi n=>Zb Zp;·rw[bs];refine Zb ?_;have:=d.1 c;simp only[Wx];omega
 ·rw[bs];refine Zb ?_;have:=e.1 c;rw[show Zm (ZX (Zi (Zj D.1)) A)=D.1.length-A by simp only[Wx];exact ZK Y];simp only[Wx];omega
def Jv{ds}{d}{f:Yb->Zg j}(h:ds[B]?=some d):O (ZF ds (Zi B)) f=f d:=be (Sy Zc h)
def ZAG{ds}{f sp:Nat}{a g}(X:ds[c]?=some D)(J:DI B z D)(x7:D.2.2.2.2=false)(hN:B<=4096):W (HT ds (some c) f sp a g) λo=>(o.2.2=0->f+sp<=B/\0#32<a/\a<=g/\∃n m,n<=sp/\o.1=some (some c,(f:Int),(sp:Int),g,(n:Int),false)/\o.2.1.length<=sp/\Qf D.2.1 f sp 0 a o.2.1 n m/\Stop D.2.1 f sp n m)/\(f+sp<=B->0#32<a->a<=g->o.2.2=0):=by
 have h1:=J.1;have hs:=J.seen;unfold HT;rw[ko,Jv X];refine Zn ((Zkk Y).mono λxs T=>Zr ⟨λr=>Zb ⟨λb=>(by cases b),λa1 a2 a3=>?_⟩,λr=>?_⟩);·simp only[Wx]at r;rw[T.2 ⟨Y,Y,Y,a2,a3⟩]at r;cases r
 have I:=T.1 (by simpa only[Wx]using r);have x6:¬a=0#32:=λb=>by have:=I.2.2.2.1;rw[b]at this;exact absurd this YI
 refine WM (W.VQ (λe=>∃n:Nat,e.2.2.1=n/\n<=sp/\e.2.1.length<=n/\e.2.2.2=(some c,(f:Int),(sp:Int),g,(n:Int),false)/\¬e.1=0#32/\Qf D.2.1 f sp 0 a e.2.1 n e.1) (λe=>∃n m,n<=sp/\e.2.1.length<=sp/\e.2.2.2=(some c,(f:Int),(sp:Int),g,((n:Nat):Int),false)/\Qf D.2.1 f sp 0 a e.2.1 n m/\Stop D.2.1 f sp n m) (λe=>(sp-e.2.2.1).toNat) (λ_=>False) ⟨0,rfl,Y,Zc,rfl,x6,rfl,rfl⟩ ZB (λe K=>?_) (λe K=>Zb ⟨λ_=>?_,λ_ _ _=>rfl⟩) λ_ b=>b.elim)
 ·obtain⟨x,N,u3,u4⟩:=e;obtain⟨n,Q,p,e3,R,E,A⟩:=K;dsimp only at Q e3 R E A;subst Q R;refine Zr ⟨λG=>?_,λG=>Zb ⟨n,x,p,ZB,rfl,A,λk d g' i=>?_⟩⟩
  ·simp only[Wx]at G;refine WM (W.VQ (λv=>∃d:Nat,v.2.2.1=d/\d<=sp/\v.2.1=N/\v.2.2.2.2.2=(some c,(f:Int),(sp:Int),g,(n:Int),false)/\Gs D.2.1 f n d x v.1 v.2.2.2.1 v.2.2.2.2.1) (λ_=>False) (λv=>(sp-v.2.2.1).toNat) (λk=>match k with|.brk j=>j.2.1=N/\j.2.2.2=(some c,(f:Int),(sp:Int),g,(n:Int),false)/\Stop D.2.1 f sp n x|.next j=>∃k w,j.2.2.1=((w:Nat):Int)/\j.2.1=N++[k]/\j.2.2.2=(some c,(f:Int),(sp:Int),g,(w:Int),false)/\Oy D.2.1 f sp n x k w j.1|.ret _=>False) ⟨n,rfl,p,rfl,rfl,YA _,by simp[Mc],Zc,.inl ⟨rfl,rfl,rfl⟩⟩ ZB (λ⟨v1,v2,v3,v4,h,v6⟩⟨d,q1,q2,q3,q4,l⟩=>?_) (λ_ b=>b.elim) λk i=>?_)
   ·dsimp only at q1 q3 q4 l;subst q1 q3 q4;refine Zr ⟨λs=>?_,λs=>?_⟩;·rw[Ur]at s;rw[bs];exact Zb ⟨rfl,rfl,l.stop λb=>by have:=b.1;dsimp only at s;omega⟩
    rw[M9]at s;have hp:d<sp:=by dsimp only at s;omega
    dsimp only;rw[ko,Jv X,show Zm (Zv (f:Int) (d:Int))=((f+d:Nat):Int)by simp only[Wx];rw[ZK Y];omega];refine Zn ((ib J).mono λrd x2=>?_);have x1:=x2.2 x7 Y Y;obtain⟨-,-,-,pv,x0,xa⟩:=x2.1 x1;refine Zr ⟨λS=>by rw[x1]at S;simp only[Wx]at S,λ_=>?_⟩;have xb:rd.1=YQ D.2.1 (f+d):=by rw[xa];unfold YQ;rw[WL]at x0;rw[Rm,x0];rfl
    rw[xb,show Zm (Zv (d:Int) 1)=(d:Int)+1by simp only[Wx];exact ZK Y];refine Zn ((Zkq (zi _ _)).mono λx4 L=>Yu (λz=>(z=false->(LG (YQ D.2.1 (f+d)) ((d:Int)+1)/\v1<=TW (YQ D.2.1 (f+d)))/\x4.1=wP (YQ D.2.1 (f+d))/\(Kh (YQ D.2.1 (f+d))↔h=0#32))/\(z=true->¬((LG (YQ D.2.1 (f+d)) ((d:Int)+1)/\v1<=TW (YQ D.2.1 (f+d)))/\(Kh (YQ D.2.1 (f+d))↔h=0#32)))) (λt=>Zb ?_) (λt=>Zb ?_) λz U=>Zr ⟨λH=>?_,λH=>?_⟩);·rw[t];refine⟨λb=>(by cases b),λ_ b=>?_⟩;rw[L.1.2 b.1]at t;cases t
    ·have x3:x4.2=true:=by simpa only[Wx]using t
     have M:=L.2 x3;rw[M];have V:ZA (GZ (Zw h 0#32) (ZA (Zw (SO (wP (YQ D.2.1 (f+d))).2.2.1 1) 0)))=false↔(Kh (YQ D.2.1 (f+d))↔h=0#32):=by show ZA (GZ (Zw h 0#32) (ZA (Zw (SO (kk (YQ D.2.1 (f+d))) 1) 0)))=false↔(¬SO (kk (YQ D.2.1 (f+d))) 1=0↔h=0#32);by_cases c1:h=0#32<;>by_cases c2:SO (kk (YQ D.2.1 (f+d))) 1=0<;>simp[Zw,Jz,GZ,ZA,c1,c2]
     refine⟨λb=>⟨L.1.1 x3,rfl,V.1 b⟩,λb p=>?_⟩;rw[V.2 p.2]at b;cases b
    ·rw[bs];exact Zb ⟨rfl,rfl,l.stop λb=>U.2 H ⟨b.2.1,b.2.2.1⟩⟩
    ·obtain⟨⟨Z,x9⟩,M,x8⟩:=U.1 H;rw[M];refine Yu (λx5=>x5=false↔¬h=0#32->TW (YQ D.2.1 (f+d))=h) (λu=>Zb ?_) (λu=>Zb ?_) λx5 hz=>Zr ⟨λC=>?_,λC=>?_⟩;·simp only[Wx]at u;show ZA (Zw (TW (YQ D.2.1 (f+d))) h)=false↔_;simp only[Wx];exact⟨λb _=>b,λb=>b u⟩
     ·simp only[Wx]at u;exact⟨λ_ b=>absurd u b,λ_=>rfl⟩
     ·rw[bs];exact Zb ⟨rfl,rfl,l.stop λb=>by rw[hz.2 b.2.2.2.1]at C;cases C⟩
     ·have xx:(wP (YQ D.2.1 (f+d))).2.2.2.length<=110:=by have:=Z.1;show(List.take _ _).length<=110;rw[UF];omega
      have xv:=l.2.2.1;refine Xi ⟨by simp only[Wx];omega,Zr ⟨λF=>?_,λF=>?_⟩⟩;·rw[bs];refine Zb ⟨rfl,rfl,l.stop λb=>?_⟩;have:=b.2.2.2.2;simp only[Wx,YM]at F;omega
      ·obtain⟨xh,xi⟩:=l.next E hp Z x9 x8 (hz.1 C) (by simp only[Wx,YM]at F;omega);rw[show(d:Int)+1=((d+1:Nat):Int)from rfl];refine Zr ⟨λq=>Xi ⟨by simp only[Wx,VJ];omega,?_⟩,λq=>Zb ⟨⟨d+1,rfl,Y,rfl,rfl,xh ?_⟩,ZB⟩⟩;·rw[bs];refine Zb ⟨_,d+1,rfl,rfl,rfl,xi ?_⟩;simp only[Wx]at q;exact q
       ·simp only[Wx]at q;exactλb=>b q
   ·cases k with|ret _=>exact i.elim|brk j=>exact⟨n,x,p,by rw[i.1];omega,i.2.1,by rw[i.1];exact A,i.2.2⟩|next j=>obtain⟨k,w,O,P,b3,y⟩:=i;have b5:=y.1;refine⟨⟨w,O,y.2.1,by rw[P,YM,VJ];omega,b3,λb=>?_,by rw[P];exact A.snoc y⟩,by dsimp only;rw[O];omega⟩;have:=y.2.2.1;rw[b]at this;exact E (Za6 this)
  ·simp only[Wx]at G;have:=i.1;have:=i.2.1;omega
 ·obtain⟨n,m,k1,k2,k3,k4,k5⟩:=K;exact⟨Y,I.2.2.2.1,I.2.2.2.2,n,m,k1,by rw[k3],k2,k4,k5⟩
def Lh(b:Zt)(g:Nat):Prop:=(∀a:Nat,a<3->b.getD a 0#8=0#8/\b.getD (120+a) 0#8=0#8)/\(b.getD 3 0#8).toNat<g/\(b.getD 123 0#8).toNat<g
def qd(x):∀(k i),i<k->(Xf x k).getD i 0#8=(x>>>(8*(k-1-i))).setWidth 8|0,i,h=>Y|k+1,0,_=>by simp[Xf]|k+1,i+1,h=>by show(Xf x k).getD i _=_;rw[qd x k i Y];grind
def ZqQ{n}(f:a.toNat<256):(∀i,i<3->(Xf (QL a n) 8).getD i 0#8=0#8)/\((Xf (QL a n) 8).getD 3 0#8).toNat=a.toNat:=by
 have e:∀b,8<=b->a.getLsbD b=false:=λb c=>by rw[BitVec.getLsbD,Nat.testBit_lt_two_pow (C7 f (by have:=EA (show 0<2by simp) c;simpa using this))]
 refine⟨λi g=>?_,?_⟩;·rw[qd _ _ _ Y];apply tW;intro b c;have d:n.getLsbD (8*(8-1-i)+b)=false:=BitVec.getLsbD_of_ge _ _ Y;simp[QL,c,Y,d,e (8*(8-1-i)+b-32) Y]
 ·rw[qd _ _ _ Zc];have:(QL a n>>>(8*(8-1-3))).setWidth 8=a.setWidth 8:=by apply tW;intro b c;simp[QL,c,Y,show 32+b<64by omega,Y]
  grind
def ZrU(b:a.toNat<256)(h:d.length<=110):(∀i,i<3->(Rj a A G d).getD i 0#8=0#8/\(Rj a A G d).getD (120+i) 0#8=0#8)/\((Rj a A G d).getD 3 0#8).toNat=a.toNat/\((Rj a A G d).getD 123 0#8).toNat=a.toNat:=by
 have⟨j,e⟩:=ZqQ (n:=Yl _ A) b;have g:∀i:Nat,i<8->(Rj a A G d).getD i _=(Xf _ 8).getD i 0#8:=λi c=>by rw[<-nA,Rm,Rm,NQ,Y4 c]
 have f:∀i:Nat,(Rj a A G d).getD _ _=(Xf _ 8).getD i 0#8:=λi=>by
  have:(Rj a A G d).drop 120=Xf (QL a (Yl _ A)) 8:=by rw[show 120=10+110from rfl,<-TD,nw,<-Yc];exact qI XV
  rw[<-this,Rm,Rm,Py]
 exact⟨Zp,by exact e,Zp⟩
def HK{v}(b:B<=128)(i):(OZ T v B).toList.getD i 0#8=if i<B then v.toList.getD i 0#8 else T.toList.getD i 0#8:=by
 rw[ZAq T v b,Rm,List.getElem?_append];have c:(List.take B v.toList).length=B:=Zp;rw[c];by_cases a:i<B;·grind
 ·rw[Ys a,Ys a,Py,Rm,show B+(i-B)=i by omega]
def Zgq{b:PG}(h:∀i,i<128->T.toList.getD i 0#8=b.toList.getD i 0#8):T=b:=by
 apply Vector.toList_inj.1;apply se;intro i;by_cases a:i<128;·simp_all
 ·simp_all
def Zj4(b:Zt)(g:Nat):Prop:=(∀a:Nat,a<3->b.getD a 0#8=0#8/\b.getD (120+a) 0#8=0#8)/\(b.getD 3 0#8).toNat=g/\(b.getD 123 0#8).toNat=g
def dw(h:d.drop 120=d.take 8)(i)(hi:i<8):d.getD (120+i) 0#8=d.getD i 0#8:=by have:=WX (·.getD i 0#8) h;simp only[Rm,Py,NQ,Y4 hi]at this⊢;exact this
def ZAn{v}(b:B<=128)(k:Lh T.toList z)(hv:Zj4 v.toList z)(j:v.toList.drop 120=v.toList.take 8):(OZ T v B=T\/OZ T v B=v\/¬(OZ T v B).toList.drop 120=(OZ T v B).toList.take 8)/\Lh (OZ T v B).toList (z+1):=by
 obtain⟨f,o,p⟩:=k;obtain⟨g,l,q⟩:=hv;refine⟨?_,λa c=>⟨?_,?_⟩,by rw[HK b];split<;>omega,by rw[HK b];split<;>omega⟩
 ·by_cases m:B<=3
  ·left;apply Zgq;intro a c;rw[HK b];by_cases d:a<B;·rw[Y4 d,(g a Y).1,(f a Y).1]
   ·rw[Ys d]
  ·right;by_cases e:(OZ T v B).toList.drop 120=(OZ T v B).toList.take 8
   ·left;by_cases n:B<=123;·exfalso;have:=dw e 3 Y;rw[HK b,HK b,Ys Y,Y4 Y]at this;have:=WX BitVec.toNat this;rw[l]at this;change(T.toList.getD 123 0#8).toNat=z at this;omega
    ·apply Zgq;intro a c;by_cases d:a<B;·rw[HK b,Y4 d]
     ·have h:=dw e (a-120) Y;have i:=dw j (a-120) Y;rw[show 120+(a-120)=a by omega]at h i;rw[h,HK b,Y4 Y,i]
   ·exact .inr e
 ·rw[HK b];split;·exact(g a c).1
  ·exact(f a c).1
 ·rw[HK b];split;·exact(g a c).2
  ·exact(f a c).2
def Xl(n:Nat):Nat:=max ((n+109)/110) 1
def Zcw{n:Nat}(h:n<=1000000000):kz n=some (Xl n:Int):=by refine Vp (Zr ⟨λb=>Zp,λ_=>Jd.2 ⟨Zc,Zb ?_⟩⟩);·rw[show Zm (ZX n 1)=n-1by simp[Wx];exact ZK Y];unfold Xl;cases n with|zero=>rw[show Sf _ _=0 by rw[gT];rfl,show Zm 0=0from ZK Zc,show Zm _=1by simp[Wx];exact ZK Zc];simp only[Wx];rfl|succ a=>rw[GU Zc,show Zm (((a+1:Nat)-1)/110)=a/110by rw[ZK Y];omega,show Zm _=a/110+1by simp[Wx];rw[ZK Y]];simp[Wx];omega
def Pm(l:Zt):PG:=if h:l.length=128then⟨l.toArray,by simp[h]⟩else Un
def DO(h:d.length=128):(Pm d).toList=d:=by unfold Pm;simp_all
def ZfD{v:PG}(h:v.toList=d):v=Pm d:=by apply Vector.toList_inj.1;rw[DO Zp,h]
def kd(K i:Nat):ZO 8:=(if i=0then 1#8 else 0#8)|||if i+1=K then 2#8 else 0#8
def SY(G:ZO 32)(n K:Nat)(b:Zt)(i:Nat):Zt:=Rj G ((n+i+1:Nat):Int) (kd K i) ((b.drop (110*i)).take 110)
def SA(G:ZO 32)(f n K:Nat)(b:Zt)(j:Nat):L GN:=(List.range j).map λa=>(((f+n+a:Nat):Int),Pm (SY G n K b a))
def dY:SA a B z c d (J+1)=SA a B z c d J++[(((B+z+J:Nat):Int),Pm (SY a z c d J))]:=by unfold SA;rw[yB,WW];rfl
theorem zj{K}:(SY a B K d z).length=128:=ZrT Zp
def or1:FE 0 1=1:=by rw[nq];decide
def or2:FE 0 2=2:=by rw[nq];decide
def or3:FE 1 2=3:=by rw[nq];decide
def Zp3(K i):(kd K i).toNat<=3:=by unfold kd;split<;>split<;>decide
def OU{ds:L j}(a:ds[B]?=some y):ds=ds.set B y:=by
 have b:=(X8 a).1;apply se;intro c;rw[sq];split;·grind
 ·rfl
def Zkm{l}:tL l 6=some ((l.1,l.2.1,l.2.2.1,l.2.2.2.1,l.2.2.2.2.1,true),6):=by exact Vp (Yu (λa=>a=true) (λ_=>Zb rfl) (λ_=>Zb Zc) λa b=>Zb Zp)
def ZAH{l}(h:l.2.2.2.2.2=false):tL l 0=some ((l.1,l.2.1,l.2.2.1,l.2.2.2.1,l.2.2.2.2.1,false),0):=by exact Vp (Yu (λa=>a=false) Zp (λ_=>Zb Zc) λa b=>Zb (by rw[b]))
def ZaJ{ds}{f sp}{G}{fl}{b}(N:ds[c]?=some D)(w:DI B z D)(hc:z<=1000000000)(hN:B<=4096)(x6:f+sp<=B)(hn:J<=sp)(Z:b.length<=1000000000):W (tK (some c,f,sp,G,J,fl) ds b) λo=>∃d' j,o.2.1=ds.set c d'/\DI B (z+4096) d'/\d'.1=D.1/\d'.2.2.1=D.2.2.1++SA G f J (Xl b.length) b j/\j<=Xl b.length/\J+j<=sp/\(o.2.2=0/\fl=false/\b.length<=6000/\J+Xl b.length<=sp/\j=Xl b.length/\o.1=(some c,(f:Int),(sp:Int),G,((J+Xl b.length:Nat):Int),false)\/o.2.2=6/\o.1=(some c,(f:Int),(sp:Int),G,(J:Int),true)/\(fl=true->d'=D/\j=0)/\(fl=false->b.length<=6000/\J+Xl b.length<=sp)\/(o.2.2=3\/o.2.2=5)/\fl=false/\d'=D/\j=0/\o.1=(some c,(f:Int),(sp:Int),G,(J:Int),fl))/\(fl=false->b.length<=6000->J+Xl b.length<=sp->D.2.2.2.1<0->D.2.2.2.2=false->o.2.2=0/\d'.2.2.2=D.2.2.2):=by
 have x:=OU N;unfold tK;rw[be (Zcw (n:=b.length) Z)];refine Zr ⟨λe=>Zb ⟨D,0,x,w.le Y,rfl,by simp[SA],Y,Y,.inr (.inl ⟨rfl,?_,λ_=>⟨rfl,rfl⟩,λk=>?_⟩),λk=>?_⟩,λe=>?_⟩;·dsimp only at e;rw[e]
 ·dsimp only at e;rw[e]at k;cases k
 ·dsimp only at e;rw[e]at k;cases k
 dsimp only at e;subst e;refine Zr ⟨λe=>Zb ⟨D,0,x,w.le Y,rfl,by simp[SA],Y,Y,.inr (.inr ⟨.inl rfl,rfl,rfl,rfl,rfl⟩),λ_ k=>?_⟩,λe=>?_⟩;·simp only[Wx]at e;omega
 simp only[Wx]at e;rw[show ky (some c,(f:Int),(sp:Int),G,(J:Int),false)=some ((sp-J:Nat):Int)by unfold ky;dsimp only;simp only[Wx];rw[ZK Y];congr 1;omega,bs];refine Zr ⟨λA=>Zb ⟨D,0,x,w.le Y,rfl,by simp[SA],Y,Y,.inr (.inr ⟨.inr rfl,rfl,rfl,rfl,rfl⟩),λ_ _ k=>?_⟩,λA=>?_⟩;·simp only[Wx]at A;omega
 simp only[Wx]at A;have M:b.length<=6000:=Y;have O:J+Xl b.length<=sp:=Y;generalize X:Xl b.length=K at*;have x5:K=max ((b.length+109)/110) 1:=X.symm;refine WM (W.VQ (λi=>∃(a:Nat)(d':Yb),i.1=a/\a<=K/\i.2.1=ds.set c d'/\i.2.2=(some c,(f:Int),(sp:Int),G,(J:Int),false)/\DI B (z+a) d'/\d'.1=D.1/\d'.2.2.1=D.2.2.1++SA G f J K b a/\(D.2.2.2.1<0->D.2.2.2.2=false->d'.2.2.2=D.2.2.2)) (λi=>∃(d':Yb),i.2.1=ds.set c d'/\i.2.2=(some c,(f:Int),(sp:Int),G,(J:Int),false)/\DI B (z+K) d'/\d'.1=D.1/\d'.2.2.1=D.2.2.1++SA G f J K b K/\(D.2.2.2.1<0->D.2.2.2.2=false->d'.2.2.2=D.2.2.2)) (λi=>(K-i.1).toNat) (λy=>∃(a:Nat)(d':Yb),a<=K/\y.1=(some c,(f:Int),(sp:Int),G,(J:Int),true)/\y.2.1=ds.set c d'/\y.2.2=6/\DI B (z+a+1) d'/\d'.1=D.1/\d'.2.2.1=D.2.2.1++SA G f J K b a/\(D.2.2.2.1<0->D.2.2.2.2=false->False)) ⟨0,D,rfl,Y,x,rfl,w,rfl,by simp[SA],λ_ _=>rfl⟩ ZB (λi F=>?_) (λi F=>Zb ?_) λy⟨a,d',S,T,U,V,H,I,q7,q8⟩=>⟨d',a,U,H.le Y,I,q7,S,Y,.inr (.inl ⟨V,T,λk=>(by cases k),λ_=>⟨M,O⟩⟩),λ_ _ _ g h=>(q8 g h).elim⟩)
 ·obtain⟨u1,u2,u3⟩:=i;obtain⟨a,d',L,e2,n,p,t,q,r,m⟩:=F;dsimp only at L n p;subst L n p;refine Zr ⟨λu=>?_,λu=>Zb ⟨d',rfl,rfl,?_,q,?_,m⟩⟩
  ·simp only[Wx]at u;dsimp only;have x3:Zm (VI (a:Int) 110)=((110*a:Nat):Int):=by simp only[Wx];rw[ZK Y];omega
   have x4:Zm (VI (Zm (Zv (a:Int) 1)) 110)=((110*a+110:Nat):Int):=by simp only[Wx];rw[ZK (n:=(a:Int)+1) Y,ZK Y];omega
   rw[x3,x4];refine Zn (L9.2 ⟨by simp only[Wx];omega,?_⟩);have x0:List.drop ((110*a:Nat):Int).toNat (List.take (Tx ((110*a+110:Nat):Int) (Zi (Zj b))).toNat b)=(b.drop (110*a)).take 110:=by
    simp only[Wx];rw[KM,WL];by_cases hq:110*a+110<=b.length;·congr 1;omega
    ·rw[UT (by rw[VF];omega),UT (by rw[VF];omega)]
   rw[x0];have x1:Zm (Zv (Zm (Zv (J:Int) (a:Int))) 1)=((J+a+1:Nat):Int):=by simp only[Wx];rw[ZK (n:=(J:Int)+a) Y,ZK Y];omega
   rw[x1];refine Yu (λs=>s=(G,((J+a+1:Nat):Int),(if a=0then 1 else 0:Int),(b.drop (110*a)).take 110)) (λd=>Zb ?_) (λd=>Zb ?_) λs E=>?_;·simp only[Wx]at d;rw[Y4 Y,or1]
   ·simp only[Wx]at d;rw[Ys Y]
   subst E;refine Yu (λs=>s=(G,((J+a+1:Nat):Int),((kd K a).toNat:Int),(b.drop (110*a)).take 110)) (λd=>Zb ?_) (λd=>Zb ?_) λs E=>?_
   ·simp only[Wx]at d;rw[ZK Y]at d;have:a+1=K:=Y;unfold kd;rw[Y4 this];by_cases l:a=0;·rw[Y4 l,Y4 l];dsimp only;rw[or3];rfl
    ·rw[Ys l,Ys l];dsimp only;rw[or2];rfl
   ·simp only[Wx]at d;rw[ZK Y]at d;have:¬a+1=K:=Y;unfold kd;rw[Ys this];by_cases l:a=0;·rw[Y4 l,Y4 l];rfl
    ·rw[Ys l,Ys l];rfl
   subst E;rw[be (ZrM (k:=kd K a) rfl (by rw[UF];omega))];refine Zr ⟨λd=>by simp only[Wx]at d,λ_=>?_⟩;rw[ko,Jv (d:=d') (by rw[sq,Y4 rfl,Y4 (X8 N).1])];have x2:Zm (Zv (Zm (Zv (f:Int) (J:Int))) (a:Int))=((f+J+a:Nat):Int):=by simp only[Wx];rw[ZK (n:=(f:Int)+J) Y,ZK Y];omega
   rw[x2];refine Zn ((ZcP (b:=Rj G ((J+a+1:Nat):Int) (kd K a) ((b.drop (110*a)).take 110)) t Y).mono λo⟨P,Q,o3,o4,o5,o6,R⟩=>?_);have C:(Rj G ((J+a+1:Nat):Int) (kd K a) ((b.drop (110*a)).take 110)).length=128:=zj (K:=K);refine Zr ⟨λd=>?_,λd=>Zb ?_⟩
   ·simp only[Wx]at d;rw[(o6 C Y Y).resolve_left d,be Zkm,bs];refine Zb ⟨a,o.1,Y,rfl,?_,rfl,P,by rw[Q,q],by rw[o4 d,r],λg h=>?_⟩;·show Xc (ds.set c d') c o.1=_;simp only[Wx,T6]
    ·have:=R (by rw[m g h];exact g) (by rw[m g h];exact h) C Y Y;exact d this.1
   ·simp only[Wx]at d;obtain⟨S,T,U,V,v,H,I⟩:=o3 d;refine⟨⟨a+1,o.1,?_,Y,?_,rfl,P,by rw[Q,q],by rw[I,r,dY,Yc,ZfD H];rfl,λg h=>?_⟩,?_⟩;·show Zm (Zv (a:Int) 1)=_;simp only[Wx];rw[ZK Y];rfl
    ·show Xc (ds.set c d') c o.1=_;simp only[Wx,T6]
    ·have:=R (by rw[m g h];exact g) (by rw[m g h];exact h) C Y Y;rw[this.2];exact m g h
    ·show((K:Int)-Zm (Zv (a:Int) 1)).toNat<_;simp only[Wx];rw[ZK Y];omega
  ·simp only[Wx]at u;have:a=K:=Y;rw[<-this];exact t
  ·simp only[Wx]at u;have:a=K:=Y;rwa[this]at r
 ·obtain⟨u1,u2,u3⟩:=i;obtain⟨d',n,p,t,q,r,m⟩:=F;dsimp only at n p;subst n p;refine⟨d',K,rfl,t.le Y,q,r,Y,Y,.inl ⟨rfl,rfl,M,O,rfl,?_⟩,λ_ _ _ g h=>⟨rfl,m g h⟩⟩;dsimp only;rw[show Zm (Zv (J:Int) (K:Int))=((J+K:Nat):Int)by simp only[Wx];rw[ZK Y];omega]
def ZaL{ds}{f sp n}{G}{fl}(d:ds[c]?=some D)(b:DI B z D)(k:z<4000000000):W (kx (some c,f,sp,G,n,fl) ds) λo=>∃d',o.2.1=ds.set c d'/\DI B z d'/\(o.2.2=0/\fl=false/\o.1=(some c,f,sp,G,n,false)/\d'.1=OB D.1 D.2.2.1/\d'.2.2.1=[]\/o.2.2=6/\o.1=(some c,f,sp,G,n,true)/\d'.1=D.1/\d'.2.2.1=D.2.2.1)/\(fl=false->D.2.2.2.1<0->D.2.2.2.2=false->o.2.2=0/\d'.2.2.2=D.2.2.2):=by
 refine Zr ⟨λa=>Zb ⟨D,OU d,b,.inr ⟨rfl,?_,rfl,rfl⟩,λe=>?_⟩,λa=>?_⟩;·dsimp only at a;rw[a]
 ·grind
 subst a;rw[ko,Jv d];refine Zn ((Zcb b k).mono λo⟨g,l,m,p,r⟩=>?_);obtain e|e:=l;·have⟨h,i,j,q⟩:=m e;rw[e,be (ZAH rfl)];exact Zb ⟨o.1,rfl,g,.inl ⟨rfl,rfl,rfl,j,q⟩,Zp⟩
 ·obtain⟨h,i,j⟩:=p e;rw[e,be Zkm];exact Zb ⟨o.1,rfl,g,.inr ⟨rfl,rfl,h,i⟩,Zp⟩
def Lh.mono(h:Lh d B)(a:B<=z):Lh d z:=⟨h.1,by have:=h.2.1;omega,by have:=h.2.2;omega⟩
def dX(m:d.length=128)(h:Lh d B):(TW d).toNat<B:=by
 obtain⟨c,k,-⟩:=h;have l:Xf _ 8=d.take 8:=qe 8 _ Zp Zc;have b:∀a,a<8->d.getD a _=(TA _>>>(8*(8-1-a))).setWidth 8:=λa f=>by rw[<-qd _ 8 a f,l,Rm,Rm,NQ,Y4 f]
 have g:=WX BitVec.toNat ((b 0 Zc).symm.trans (c 0 Zc).1);have i:=WX BitVec.toNat ((b 1 Zc).symm.trans (c 1 Zc).1);have j:=WX BitVec.toNat ((b 2 Zc).symm.trans (c 2 Zc).1);have e:=k;rw[b 3 Zc]at e;unfold TW;simp at g i j e⊢;omega
theorem wy(h:B<K.length):(K.set B y).getD z P=if B=z then y else K.getD z P:=by rw[Rm,sq];grind
theorem iD{G}{f n K}{b}{l}:∀{j},f+n+j<=l.length->(∀x,x<f+n\/f+n+j<=x->(OB l (SA G f n K b j)).getD x Un=l.getD x Un)/\∀i,i<j->(OB l (SA G f n K b j)).getD (f+n+i) Un=Pm (SY G n K b i)|0,_=>⟨λ_ _=>rfl,Zc⟩|j+1,h=>by obtain⟨a,c⟩:=iD (f:=f) (n:=n) (l:=l) (j:=j) Y;rw[dY,iC,WL];refine⟨λx e=>by rw[wy (by rw[xn];omega),Ys Y];exact a x Y,λi d=>?_⟩;·rw[wy (by rw[xn];omega)];grind
theorem Zas{G}{f n K}{b}{l}:∀{j}{d},f+n+j<=l.length->NZ l (SA G f n K b j) d->(∀x,x<f+n\/f+n+j<=x->d.getD x Un=l.getD x Un)/\∀i,i<j->∃c,c<=128/\d.getD (f+n+i) Un=OZ (l.getD (f+n+i) Un) (Pm (SY G n K b i)) c
 |0,d,_,⟨cs,g,k,a⟩=>by
  have:d=l:=by rw[a];rfl
  grind|j+1,d,h,⟨cs,g,k,a⟩=>by
  have q:cs≠[]:=by intro m;rw[m]at g;simp[SA]at g
  obtain⟨e,c,rfl⟩:∃e c,cs=e++[c]:=⟨cs.dropLast,cs.getLast q,(ZkB q).symm⟩;rw[dY]at g a;simp only[YM,VJ]at g;have o:e.length=(SA G f n K b j).length:=Y;obtain⟨s,r⟩:=Zas (G:=G) (f:=f) (n:=n) (K:=K) (b:=b) (l:=l) (j:=j) Y ⟨e,o,λc p=>k c (List.mem_append_left _ p),rfl⟩;have p:=k c Zc;rw[List.zip_append o.symm]at a;unfold Cy at a;rw[sf]at a;change d=List.set (Cy l ((SA G f n K b j).zip e)) ((f+n+j:Nat):Int).toNat (OZ (List.getD (Cy l ((SA G f n K b j).zip e)) ((f+n+j:Nat):Int).toNat Un) (Pm (SY G n K b j)) c)at a;rw[WL]at a;rw[a];refine⟨λx u=>Zp,λi t=>?_⟩
  ·rw[wy (by rw[ZAm];omega)];by_cases m:i=j;·grind
   ·rw[Ys Y];exact r i Y
def Oy.congr{l a}{f sp pos}{m}{r}{p}{g}(h:Oy l f sp pos m r p g)(q:∀i,pos<=i->i<p->l.getD (f+i) Un=a.getD (f+i) Un):Oy a f sp pos m r p g:=by
 obtain⟨c,d,e,j,t,k⟩:=h;have s:∀i,pos<=i->i<p->YQ l _=YQ a _:=λi n o=>by unfold YQ;rw[q i n o]
 refine⟨c,d,e,j,Xk,?_⟩;rw[k];unfold Mc;congr 1;apply List.map_congr_left;intro i b;rw[List.mem_range']at b;obtain⟨v,u,rfl⟩:=b;rw[s _ Zc Y]
def Qf.le:∀{R}{pos}{m}{p}{g},Qf r B z pos m R p g->pos<=p/\m<=g|[],_,_,_,_,⟨rfl,rfl⟩=>⟨Zc,Zc⟩|_::_,_,_,_,_,⟨p,g,h1,h2⟩=>⟨by have:=h1.1;have:=h2.le.1;omega,Za5 h1.2.2.1 h2.le.2⟩
def Qf.congr{b}:∀{R}{pos}{m}{p}{g},Qf r B z pos m R p g->(∀i,i<p->r.getD (B+i) Un=b.getD (B+i) Un)->Qf b B z pos m R p g|[],_,_,_,_,h,_=>h|_::_,_,_,_,_,⟨p,g,h1,h2⟩,a=>⟨p,g,h1.congr λi _ c=>a i (by have:=h2.le.1;omega),h2.congr a⟩
def Nb(l:L PG)(f sp:Nat)(G:ZO 32)(R:L Zt)(n:Nat)(m:ZO 32):Prop:=Qf l f sp 0 1#32 R n m/\Stop l f sp n m/\m<=G/\n<=sp/\∀a,n<=a->a<sp->Lh (YQ l (f+a)) G.toNat
def Nb.up(h:Nb r B z a E c b)(d:a<=k):Nb r B z k E c b:=⟨h.1,h.2.1,Za5 h.2.2.1 d,h.2.2.2.1,λg e f=>(h.2.2.2.2 g e f).mono d⟩
def aL(e:k<=a)(h:c<z->Lh (YQ r (B+c)) k.toNat):Stop r B z c a:=by intro j i b⟨a1,a2,a3,a4,a5,a6⟩;have d:=dX (zi _ _) (h Y);rw[(a5 c Zc a1).2.1]at d;have f:k.toNat<=a.toNat:=e;have g:a.toNat<=b.toNat:=a3;omega
def Zp2(K i):¬SO (kd K i).toNat 1=0↔i=0:=by
 unfold kd;rw[rW];by_cases a:i=0<;>by_cases b:i+1=K;·rw[Y4 b];simp[a,iff_true];decide
 ·rw[Ys b];simp[a,iff_true];decide
 ·rw[Y4 b];simp[a,iff_false];decide
 ·rw[Ys b];simp[a,iff_false];decide
def Ze5(K i):¬SO (kd K i).toNat 2=0↔i+1=K:=by
 unfold kd;rw[rW];by_cases a:i=0<;>by_cases b:i+1=K;·rw[Y4 a];simp[b,iff_true];decide
 ·rw[Y4 a];simp[b,iff_false];decide
 ·rw[Ys a];simp[b,iff_true];decide
 ·rw[Ys a];simp[b,iff_false];decide
def ZsO{n i}(h:i+1=Xl n):n<=110*(i+1):=by unfold Xl at h;omega
def ZsM{n i}(h:i+1<Xl n):110*(i+1)<=n:=by unfold Xl at h;omega
theorem vQ{G}{n}{b}{i}(h:n<=4096)(g:b.length<=6000)(hi:i<Xl b.length):LG (SY G n (Xl b.length) b i) ((n+i:Nat)+1)/\TW (SY G n (Xl b.length) b i)=G/\(Kh (SY G n (Xl b.length) b i)↔i=0)/\(DJ (SY G n (Xl b.length) b i)↔i+1=Xl b.length)/\(wP (SY G n (Xl b.length) b i)).2.2.2=(b.drop (110*i)).take 110:=by
 have f:Xl b.length<=55:=by unfold Xl;omega
 obtain⟨a,c⟩:=ZrV (n:=((n+i+1:Nat):Int)) (k:=kd (Xl _) i) (d:=(b.drop (110*i)).take 110) Zp Y Y (Zp3 _ _) (by
  by_cases e:i+1=Xl b.length;·right;rw[Ze5];exact e
  ·left;have:=ZsM (n:=b.length) (i:=i) Y;grind);refine⟨by exact a,Zgp,by unfold Kh SY;exact Zp2 _ _,by unfold DJ SY;exact Ze5 _ _,by unfold SY;rw[c]⟩
def Zdi{l}{f n}{G}{b}(c:n<=4096)(a:b.length<=6000)(h:∀i,i<Xl b.length->l.getD (f+n+i) Un=Pm (SY G n (Xl b.length) b i)):∀j,j<=Xl b.length->Mc l f n j=b.take (110*j)|0,_=>by simp[Mc]|j+1,d=>by rw[xw,Zdi c a h j Y,show f+(n+j)=f+n+j by omega];unfold YQ;rw[h j Y,DO zj,(vQ c a Y).2.2.2.2,show 110*(j+1)=110*j+110by omega,yC]
theorem Zie(n:z<=4096)(e:d.length<=6000)(j:k<=a)(f:c+Xl d.length<=z)(h:∀i,i<Xl d.length->r.getD (B+c+i) Un=Pm (SY a c (Xl d.length) d i)):Oy r B z c k d (c+Xl d.length) a:=by
 have l:0<Xl d.length:=by unfold Xl;omega
 refine⟨Y,f,j,e,λi g m=>?_,?_⟩
 ·obtain⟨b,rfl⟩:=ZkG g;have f:=vQ (G:=a) (n:=c) (i:=b) Y e Y;have:YQ r (B+(c+b))=SY a c (Xl d.length) d b:=by unfold YQ;rw[show B+(c+b)=B+c+b by omega,h b Y,DO zj]
  grind
 ·rw[show c+Xl _-c=Xl d.length by simp,Zdi Y e h _ Zc,UT];have:=ZsO (n:=d.length) (i:=Xl d.length-1) Y;omega
def Nb.app(h:Nb r B z a E c k)(x:B+z<=r.length)(o:z<=4096)(q:d.length<=6000)(e:c+Xl d.length<=z):Nb (OB r (SA a B c (Xl d.length) d (Xl d.length))) B z a (E++[d]) (c+Xl d.length) a:=by
 have⟨m,u,n,v,p⟩:=h;obtain⟨g,s⟩:=iD (f:=B) (n:=c) (l:=r) (j:=Xl d.length) Y;have f:∀b,c+Xl d.length<=b->b<z->Lh (YQ _ _) _:=λb t l=>by unfold YQ;rw[g (B+b) Y];exact p b Y l
 exact⟨(m.congr λb w=>(g _ Y).symm).snoc (Zie o q n e s),aL Zc λi=>f _ Zc i,Zc,e,f⟩
theorem ZrW(b:a.toNat<256):Zj4 (SY a B z d c) a.toNat:=ZrU b Zp
def Nb.gD{b}(h:Nb r B z a E c k)(x6:B+z<=r.length)(U:z<=4096)(W:a.toNat<256)(hj:J<=Xl d.length)(x4:c+J<=z)(m:0<J->d.length<=6000/\c+Xl d.length<=z)(ht:NZ r (SA a B c (Xl d.length) d J) b):Nb b B z (a+1#32) E c k\/0<J/\Nb b B z (a+1#32) (E++[d]) (c+Xl d.length) a:=by
 obtain⟨S,T,G,V,s⟩:=h;obtain⟨u,q2⟩:=Zas Y ht;have X:(a+1#32).toNat=a.toNat+1:=by rw[BitVec.toNat_add];simp;omega
 have H:a<=a+1#32:=by show a.toNat<=(a+1#32).toNat;omega
 have C:∀i,i<J->(b.getD (B+c+i) Un=r.getD (B+c+i) Un\/b.getD (B+c+i) Un=Pm (SY a c (Xl d.length) d i)\/¬(YQ b (B+c+i)).drop 120=(YQ b (B+c+i)).take 8)/\Lh (YQ b (B+c+i)) (a.toNat+1):=λi n=>by obtain⟨x2,Z,e⟩:=q2 i n;have A:=s (c+i) Y Y;unfold YQ at A⊢;rw[show B+(c+i)=B+c+i by omega]at A;have:=ZAn Z A (v:=Pm (SY a c (Xl d.length) d i)) (by rw[DO zj];exact ZrW W) (by rw[DO zj];exact(vQ (G:=a) (n:=c) (b:=d) (i:=i) Y (m Y).1 Y).1.2.2.1);rw[e];exact this
 have N:∀i,c<=i->i<z->Lh (YQ b (B+i)) (a+1#32).toNat:=λi D F=>by
  rw[X];by_cases hq:i<c+J;·have:=(C (i-c) Y).2;rwa[show B+c+(i-c)=B+i by omega]at this
  ·unfold YQ;rw[u (B+i) Y];exact(s i D F).mono Y
 have K:Qf b B z 0 1#32 E c k:=S.congr λi n=>(u (B+i) Y).symm;by_cases j:Stop b B z c k;·exact .inl ⟨K,j,Za5 G H,V,N⟩
 obtain⟨x1,j⟩:=Za9 j;obtain⟨g,j⟩:=Za9 j;obtain⟨q,j⟩:=Za9 j;have Q:=Classical.not_not.1 j;have⟨D,F,a3,a4,x,a6⟩:=Q;have P:∀i,i<J->Pm (SY a c (Xl d.length) d i)=b.getD (B+c+i) Un->YQ b (B+(c+i))=SY a c (Xl d.length) d i:=λi n e=>by unfold YQ;rw[show B+(c+i)=B+c+i by omega,<-e,DO zj]
 by_cases L:q=a
 ·subst L;have I:∀i,c+i<g->i<J/\b.getD (B+c+i) Un=Pm (SY q c (Xl d.length) d i):=λi n=>by
   have l:=x (c+i) Y n;by_cases t:i<J
   ·refine⟨t,?_⟩;obtain e|e|e:=(C i t).1
    ·exfalso;have y:=dX (zi _ _) (s (c+i) Y Y);have:YQ b (B+(c+i))=YQ r (B+(c+i)):=by unfold YQ;rw[show B+(c+i)=B+c+i by omega,e]
     rw[<-this,l.2.1]at y;omega
    ·exact e
    ·exfalso;rw[show B+c+i=B+(c+i)by omega]at e;exact e l.1.2.2.1
   ·exfalso;have y:=dX (zi _ _) (s (c+i) Y Y);have:YQ b (B+(c+i))=YQ r (B+(c+i)):=by unfold YQ;rw[u _ Y]
    rw[<-this,l.2.1]at y;omega
  have M:=I (g-1-c) Y;have x5:g=c+Xl d.length:=by have o:=M.1;have:=(x (g-1) Y Y).2.2.2.2 Y;have O:=P (g-1-c) o M.2.symm;rw[show c+(g-1-c)=g-1by omega]at O;rw[O]at this;have:=(vQ (G:=q) (n:=c) (b:=d) (i:=g-1-c) Y (m Y).1 Y).2.2.2.1.1 this;omega
  have x3:J=Xl d.length:=Y;have o:0<J:=Y;right;have x0:∀i,c+Xl d.length<=i->i<z->Lh (YQ b (B+i)) q.toNat:=λi w p=>by unfold YQ;rw[u (B+i) Y];exact s i Y p
  exact⟨o,K.snoc (Zie U (m o).1 G (m o).2 λi n=>(I i Y).2),aL (kX _) λR=>x0 _ (YA _) R,H,(m o).2,λi w p=>N i Y p⟩
 ·exfalso;refine T x1 g q (Q.congr λi w p=>?_);obtain⟨f,rfl⟩:=ZkG w;have l:=x (c+f) w p;by_cases t:f<J
  ·rw[show B+(c+f)=B+c+f by omega];obtain e|e|e:=(C f t).1;·exact e
   ·exfalso;rw[P f t e.symm]at l;have:=(vQ (G:=a) (n:=c) (b:=d) (i:=f) Y (m Y).1 Y).2.1;rw[l.2.1]at this;exact L this
   ·exfalso;rw[show B+c+f=B+(c+f)by omega]at e;exact e l.1.2.2.1
  ·exact u _ Y
def Zrb(x):TA (Xf x 8)=x:=by rw[oW];simp
def rd8(x)(l):HU (Xf x 8++l,false)=some ((l,false),x):=by rw[mB,Cx _ _ (by rfl),vR (by simp[Va]),tq (Va _ _),Zrb]
def Zf0{n:Nat}(h:n<65536):(TA (Xf (BitVec.ofInt 64 n) 2)).toNat=n:=by rw[oW];grind
def pk2(h:B<65536)(l):pk (Xf (BitVec.ofInt 64 B) 2++l,false) 2=(TA (Xf (BitVec.ofInt 64 B) 2),true):=by rw[vR (by simp[Va]),tq (Va _ _)]
def mC{b l}{m:Int}(h:b.length<=m)(h2:b.length<=8192)(a:l.length<=4000000000):KE (Xf (BitVec.ofInt 64 b.length) 2++(b++l),false) m=some ((l,false),b):=by rw[JX (by simp[Va];omega)];unfold TX;rw[pk2 Y,Zf0 (n:=b.length) Y,Ys (by simp[Va];omega),Cx _ _ (by rfl),Cx _ _ rfl]
def rdP(h:A=d.length):TZ (d++g,false) A=some ((g,false),d):=by rw[Pp,Cx _ _ h]
def rdF:yd ((if F then 1#8 else 0#8)::d,false)=some ((d,false),F):=by
 rw[bz];have a:pk ((if F then 1#8 else 0#8)::d,false) 1=(if F then 1#64 else 0#64,true):=by cases F<;>rfl
 have b:tk _ 1=((d,false),[if F then 1#8 else 0#8]):=Cx _ d rfl;unfold pi;cases F<;>rfl
def encS(s:ZO 64)(x:Zt):Zt:=Xf s 8++(Xf (BitVec.ofInt 64 (x.length:Int)) 2++(x++(List.replicate (110-x.length) 0#8++Xf s 8)))
def Zd4(h:d.length<=110):(encS R d).length=128:=by unfold encS;simp[Va];omega
def Zw8(h:d.length<=110):lI R d=some (encS R d,0):=by
 unfold lI;rw[be (kw Zc),be (rR (by simp[Va];omega))];have b:Vd (([]++Xf R 8,false):ZP) (d.length:Int) 8192=([]++Xf R 8,false):=by unfold Vd;rw[Ys Y]
 rw[b,ZgE,show Zm _=((110-d.length:Nat):Int)by simp only[Wx];rw[ZK Y];omega];refine Vp (L7.2 ⟨Y,?_⟩);have a:RB (Yo ((110-d.length:Nat):Int)) 0#8=List.replicate (110-d.length) 0#8:=Zc;rw[a,be (Ek (by simp[Va];omega)),be (kw (by simp[Va];omega)),be (Ig (by simp[Va];omega))];refine Zb ?_;unfold encS;simp
def Zw7(h:d.length<=110)(hs:¬R=0#64):F3 (encS R d)=some (R,d,true):=by unfold F3 encS;rw[be (O1 (by simp[Va];omega)),be (rd8 _ _),be (mC Y Y (by simp[Va];omega)),show QT _=some _ from rfl,bs,Xp,show Zm _=(110-d.length:Nat)by simp[Wx];rw[ZK Y];omega,be (rdP Zc)];have:=rd8 R [];rw[XX]at this;rw[be this];refine Vp (Yu (λa=>a=true) (λb=>Zb<|Zp) (λb=>Zb<|Zp) λa e=>Yu (λa=>a=true) (λb=>by rw[be JW];exact Zb Zc) (λb=>Zp) λc f=>Zb Zp)
theorem Zz8{r}{n}:(tk r n).2.length<=n.toNat:=by unfold tk;grind
def ZxJ{r}{m}(a:0<=m):(TX r m).2.length<=m:=by
 unfold TX;split;·grind
 ·next h=>have:=Zz8 (r:=(tk r 2).1) (n:=(pk r 2).1.toNat);omega
def ZiR{b}(h:b.length=128):W (F3 b) λo=>o.2.1.length<=110/\(o.2.2=true->¬o.1=0#64/\o.1=(pk (b,false) 8).1):=by
 unfold F3;rw[be (O1 Y),be mB,be (JX (by have:=Te (r:=(b,false)) (n:=8).1;grind))];have i:(TX (tk ((b,false):ZP) 8).1 110).2.length<=110:=by have:=ZxJ (r:=(tk ((b,false):ZP) 8).1) (m:=110) Y;omega
 refine Zn (Zl8 rfl (Zb (Zr ⟨λ_=>Zb ⟨Zc,Zc⟩,λ_=>?_⟩)));rw[be Pp,be mB];refine Yu (λd=>d=true->¬(pk _ 8).1=0#64) (λc=>Zb Zc) (λc=>Zb λa=>by cases a) λd f=>Yu (λe=>e=true->d=true) (λc=>by rw[be JW];exact Zb λ_=>c) (λc=>Zb λa=>by cases a) λe g=>Zb ⟨i,λa=>⟨f (g a),rfl⟩⟩
def Jb(l:L PG)(s:ZO 64)(x:Zt):Prop:=(¬s=0#64->F3 (YQ l (s.toNat%2))=some (s,x,true))/\(s=0#64->x=[])/\∀a:Nat,a<2->¬a=s.toNat%2\/s=0#64->∀b,F3 (YQ l a)=some b->b.2.2=true->b.1<s
def SJ(s:ZO 64)(x:Zt)(i:Nat)(s':ZO 64)(a:Zt):Prop:=¬s=0#64/\s.toNat%2<i/\s'=s/\a=x\/(s=0#64\/i<=s.toNat%2)/\(s'<s\/s'=0#64/\a=[])
def ZiS(L:DI B z D)(hN:2<=B):W (uW D 0) λo=>o.2.1.length<=110/\(D.2.2.2.2=false->o.2.2=0/\∀s x,Jb D.2.1 s x->o.1=s/\o.2.1=x):=by
 have hs:=L.seen;unfold uW;refine WM (W.VQ (λe=>∃a:Nat,e.2.2=a/\a<=2/\e.2.1.length<=110/\∀s x,Jb D.2.1 s x->SJ s x a e.1 e.2.1) (λe=>e.2.1.length<=110/\∀s x,Jb D.2.1 s x->SJ s x 2 e.1 e.2.1) (λe=>(2-e.2.2).toNat) (λP=>P.2.1.length<=110/\(D.2.2.2.2=false->False)) ⟨0,rfl,Y,Zc,λs x h=>.inr ⟨.inr (W7 _),.inr ⟨rfl,rfl⟩⟩⟩ Zc (λe r=>?_) (λe r=>Zb ⟨r.1,λ_=>⟨rfl,λs x h=>?_⟩⟩) λP M=>⟨M.1,λb=>(M.2 b).elim⟩)
 ·obtain⟨H,V,u3⟩:=e;obtain⟨a,J,X,w,y⟩:=r;dsimp only at J w y;subst J;refine Zr ⟨λA=>?_,λA=>Zb ⟨w,?_⟩⟩
  ·simp only[Wx]at A;dsimp only;rw[show Zm (Zv 0 (a:Int))=a by simp only[Wx];rw[ZK Y];omega];refine Zn ((ib L).mono λo n=>Zr ⟨λm=>?_,λm=>?_⟩);·rw[bs];simp only[Wx]at m;exact Zb ⟨Zc,λb=>m (n.2 b Y Y)⟩
   simp only[Wx]at m;obtain⟨Z,h2,h3,v,K,R⟩:=n.1 m;have T:o.1=YQ D.2.1 a:=by rw[R];unfold YQ;rw[Rm];rw[WL]at K;rw[K];rfl
   rw[T];refine Zn ((ZiR (zi _ _)).self.mono λd⟨F,U,x0⟩=>Yu (λQ=>Q=true↔d.2.2=true/\d.1.toNat%2=a) (λc=>Gx.2 ⟨YI,Zb ?_⟩) (λc=>Zb ?_) λQ O=>Yu (λt=>t=true↔(d.2.2=true/\d.1.toNat%2=a)/\H<d.1) (λc=>Zb ?_) (λc=>Zb ?_) λt q=>Yu (λG=>t=true/\G=(d.1,d.2.1)\/t=false/\G=(H,V)) (λc=>Zb (.inl ⟨c,rfl⟩)) (λc=>Zb (.inr ⟨c,rfl⟩)) λG p=>Zb ?_)
   ·rw[Ur];constructor;·refineλb=>⟨c,?_⟩;have:=WX BitVec.toNat b;rwa[show(Nx d.1 2#64).toNat=d.1.toNat%2from kZ,show(Yl 64 (a:Int)).toNat=a by show(BitVec.ofInt 64 (a:Int)).toNat=a;rw[Ip];simp;omega]at this
    ·rintro⟨-,b⟩;apply yn;rw[show(Nx d.1 2#64).toNat=d.1.toNat%2from kZ,show(Yl 64 (a:Int)).toNat=a by show(BitVec.ofInt 64 (a:Int)).toNat=a;rw[Ip];simp;omega];exact b
   ·exact⟨λb=>(by cases b),λb=>by rw[b.1]at c;cases c⟩
   ·simp only[Wx];exact⟨λb=>⟨O.1 c,b⟩,λb=>b.2⟩
   ·exact⟨λb=>(by cases b),λb=>by rw[O.2 b.1]at c;cases c⟩
   rw[show Zm (Zv (a:Int) 1)=((a+1:Nat):Int)by simp only[Wx];rw[ZK Y];rfl];refine⟨⟨a+1,rfl,Y,by obtain⟨-,rfl⟩|⟨-,rfl⟩:=p;exact U;exact w,λs x h=>?_⟩,ZB⟩;dsimp only;have E:=y s x h;by_cases k:s=0#64
   ·refine .inr ⟨.inl k,?_⟩;obtain⟨j,rfl⟩|⟨-,rfl⟩:=p;·exact .inl (h.2.2 a Y (.inr k) d F (q.1 j).1.1)
    ·obtain⟨g,-⟩|⟨-,g⟩:=E;·exact(g k).elim
     ·exact g
   by_cases C:a=s.toNat%2
   ·have i:=h.1 k;rw[<-C,F]at i;have i:=X9 i;have S:H<s:=by
     obtain⟨-,g,-⟩|⟨-,g|⟨g,-⟩⟩:=E;·omega
     ·exact g
     ·rw[g];exact Nat.pos_of_ne_zero λb=>k (yn b)
    have j:=q.2 ⟨⟨by rw[i],by rw[i];exact C.symm⟩,by rw[i];exact S⟩;obtain⟨-,rfl⟩|⟨N,-⟩:=p;·exact .inl ⟨k,Y,by rw[i],by rw[i]⟩
    ·rw[j]at N;cases N
   ·have n:=h.2.2 a Y (.inl C) d F;obtain⟨a1,f,l,u⟩|⟨a1,f⟩:=E
    ·obtain⟨j,rfl⟩|⟨-,rfl⟩:=p;·have I:=(q.1 j).2;rw[l]at I;exact(Nat.lt_asymm (n (q.1 j).1.1) I).elim
     ·exact .inl ⟨a1,Y,l,u⟩
    ·refine .inr ⟨.inr (by obtain a1|a1:=a1;exact(k a1).elim;omega),?_⟩;obtain⟨j,rfl⟩|⟨-,rfl⟩:=p;·exact .inl (n (q.1 j).1.1)
     ·exact f
  ·simp only[Wx]at A;rwa[show a=2by omega]at y
 ·obtain⟨a1,f,l,u⟩|⟨a1|a1,f⟩:=r.2 s x h;·exact⟨l,u⟩
  ·obtain f|⟨f,l⟩:=f;·rw[a1]at f;exact(Nat.not_lt_zero _ f).elim
   ·exact⟨by rw[f,a1],by rw[l,h.2.1 a1]⟩
  ·omega
def Lz(s:ZO 64):Nat:=(s+1#64).toNat%2
def Zgm{v:PG}(h:B<r.length):YQ (r.set B v) z=if B=z then v.toList else YQ r z:=by unfold YQ;rw[wy h];split<;>rfl
def Jb.save{x}(h:Jb r R d)(o:2<=r.length)(hs:¬R+1#64=0#64)(hx:x.length<=110):Jb (r.set (Lz R) (Pm (encS (R+1#64) x))) (R+1#64) x:=by
 have p:Lz R<2:=Ez _ Y;have g:R<R+1#64:=by grind
 refine⟨λ_=>?_,λa=>(hs a).elim,λb f i l c k=>?_⟩;·rw[Zgm Y,Y4 (show Lz R=(R+1#64).toNat%2from rfl),DO (Zd4 hx)];exact Zw7 hx hs
 ·have j:¬Lz R=b:=λa=>i.elim (λm=>m a.symm) hs;rw[Zgm Y,Ys j]at c;by_cases e:R=0#64;·exact BitVec.lt_trans (h.2.2 b f (.inr e) l c k) g
  ·by_cases n:b=R.toNat%2;·have:=h.1 e;grind
   ·grind
def Zxa(j:DI B z D)(G:2<=B)(R:z<1000000000)(hx:d.length<=4000000):W (lH D 0 d) λo=>(DI B (z+1) o.1/\(D.2.2.2.1<0->D.2.2.2.2=false->o.1.2.2.2=D.2.2.2))/\∀s y,d.length<=110->Jb D.1 s y->¬s+1#64=0#64->D.2.2.1=[]->D.2.2.2.1<0->D.2.2.2.2=false->o.2.2=0/\o.1.1=D.1.set (Lz s) (Pm (encS (s+1#64) d))/\o.1.2.2.1=[]:=by
 have t:=j.le (c':=z+1) Y;unfold lH;refine Zr ⟨λl=>Zb ⟨⟨t,λ_ _=>rfl⟩,λs y g=>?_⟩,λl=>?_⟩;·simp only[Wx]at l;omega
 simp only[Wx]at l;refine Zn ((ZiS j G).mono λo x=>Zr ⟨λm=>Zb ⟨⟨t,λ_ _=>rfl⟩,λs y _ _ _ _ _ g=>?_⟩,λm=>?_⟩);·simp only[Wx]at m;exact(m (x.2 g).1).elim
 have I:D.2.2.1=[]->D.2.1=D.1:=λg=>by rw[j.2.1,g];rfl
 refine Zr ⟨λE=>Zb ⟨⟨t,λ_ _=>rfl⟩,λs y _ i r h _ g=>?_⟩,λE=>?_⟩;·grind
 rw[be (Zw8 Y)];refine Zr ⟨λF=>by simp only[Wx]at F,λ_=>Gx.2 ⟨YI,?_⟩⟩;have H:(Nx (WO o.1 1#64) 2#64).toNat=Lz o.1:=kZ;have S:Lz o.1<2:=Ez _ Y;rw[show Zm (Zv 0 (Zm (Zi (Z7 (Nx (WO o.1 1#64) 2#64)))))=((Lz o.1:Nat):Int)by show Zm (Zv 0 (Zm (((Nx (WO o.1 1#64) 2#64).toNat:Nat):Int)))=_;rw[H];simp only[Wx];rw[ZK (n:=(Lz o.1:Int)) Y,ZK Y];omega];refine Zn ((ZcP (b:=encS (WO o.1 1#64) d) j Y).mono λV⟨A,N,O,X,Z,w6,P⟩=>?_);have u:=λa c=>P a c (Zd4 Y) Y Y;refine Zr ⟨λp=>Zb ⟨⟨A,λa c=>(u a c).2⟩,λs y _ i r h f e=>?_⟩,λp=>Zn ((Zcb A Y).mono λw⟨C,z2,Q,z4,z5⟩=>?_)⟩;·simp only[Wx]at p;exact(p (u f e).1).elim
 have k:D.2.2.2.1<0->D.2.2.2.2=false->w.2=0/\w.1.2.2.2=D.2.2.2:=λa c=>by simp_all
 refine Zr ⟨λq=>Zb ⟨⟨C,λa c=>(k a c).2⟩,λs y _ i r h f e=>?_⟩,λq=>Zb ⟨⟨C,λa c=>(k a c).2⟩,λs y _ i r h f e=>?_⟩⟩;·simp only[Wx]at q;exact(q (k f e).1).elim
 ·obtain⟨T,U,J,K⟩:=Q (k f e).1;obtain⟨-,-,-,-,v,L,M⟩:=O (u f e).1;refine⟨rfl,?_,K⟩;show w.1.1=_;rw[J,M,h,N,ZfD L,<-((x.2 e).2 s y (by rw[I h];exact i)).1];show List.set D.1 ((Lz o.1:Nat):Int).toNat _=_;rw[WL]
def Kg(b:Bool)(a g:ZO 32):Zt:=(if b then 1#8 else 0#8)::(w4 a++w4 g)
def qP(b)(a g):(Kg b a g).length=9:=by unfold Kg;simp[UD]
def ZAB{s}:ki s=some (Kg s.1 s.2.1 s.2.2):=by unfold ki;rw[be (Zca Zc),ZgE,be (NN Zc),be (NN (by simp[UD])),be (Ig (by simp[UD]))];unfold Kg;simp
def ZAz(e:0#32<a)(h1:a<=k)(h2:k<4294967295#32):z9 (Kg F a k)=some ((F,a,k),true):=by unfold z9 Kg;rw[be (O1 (by simp[UD])),be rdF,be (zu _ _)];have:=zu k [];rw[XX]at this;rw[be this,be JW];refine Vp (Yu (λF=>F=true) (λk=>Zb Zp) (λk=>by simp at k) λF f=>Yu (λF=>F=true) (λk=>Zb<|Zp) (λk=>Zp) λc g=>Yu (λF=>F=true) (λk=>Zb<|Zp) (λk=>Zp) λd b=>Zb (by rw[b]))
def ZAA(h:d.length<=4000000000):W (z9 d) λo=>o.2=true->0#32<o.1.2.1/\o.1.2.1<=o.1.2.2/\o.1.2.2<4294967295#32:=by unfold z9;rw[be (O1 Y),be bz,be Pq,be Pq,be JW];refine Yu (λd=>d=true->0#32<_) (λb=>Zb λa=>by simp at a;exact a) (λb=>Zb λa=>Zp) λd i=>Yu (λc=>c=true->d=true/\_<=_) (λb=>Zb λa=>by simp at a;exact⟨b,a⟩) (λb=>Zb λa=>Zp) λc g=>Yu (λf=>f=true->c=true/\_<_) (λb=>Zb λa=>Zp) (λb=>Zb λa=>by cases a) λf e=>Zb λa=>⟨i (g (e a).1).1,(g (e a).1).2,(e a).2⟩
def Zkl{ds}(L:ds[c]?=some D)(K:DI B z D)(hN:B<=4096):W (HT ds (some c) J e a k) λo=>o.2.1.length<=e/\(∀r∈o.2.1,r.length<=6000)/\(o.2.2=0->J+e<=B/\∃n,n<=e/\o.1=some (some c,(J:Int),(e:Int),k,(n:Int),false)):=by
 have h1:=K.1;unfold HT;rw[ko,Jv L];refine Zn ((Zkk Y).mono λx2 hb=>Zr ⟨λG=>Zb ⟨Zc,Zc,λg=>by cases g⟩,λG=>?_⟩);have x3:=hb.1 (by simpa only[Wx]using G);refine WM (W.VQ (λd=>∃b n:Nat,d.2.2.1=b/\b<=e/\n<=e/\d.2.1.length<=b/\(∀r∈d.2.1,r.length<=6000)/\d.2.2.2=(some c,(J:Int),(e:Int),k,(n:Int),false)) (λd=>∃n:Nat,n<=e/\d.2.1.length<=e/\(∀r∈d.2.1,r.length<=6000)/\d.2.2.2=(some c,(J:Int),(e:Int),k,(n:Int),false)) (λd=>(e-d.2.2.1).toNat) (λr=>r.2.1.length<=e/\(∀j∈r.2.1,j.length<=6000)/\¬r.2.2=0) ⟨0,0,rfl,Y,Y,Zc,Zc,rfl⟩ ZB (λd p=>?_) (λd p=>Zb ?_) λr f=>⟨f.1,f.2.1,λg=>(f.2.2 g).elim⟩)
 ·obtain⟨u1,t,u3,u4⟩:=d;obtain⟨s,n,A,U,C,V,l,E⟩:=p;dsimp only at A V l E;subst A E;refine Zr ⟨λH=>?_,λH=>Zb ⟨n,C,ZB,l,rfl⟩⟩;simp only[Wx]at H;dsimp only;refine WM (W.VQ (λv=>∃b:Nat,v.2.2.1=b/\s<=b/\b<=e/\v.2.1=t/\v.2.2.2.1.length<=6000/\v.2.2.2.2.2=(some c,(J:Int),(e:Int),k,(n:Int),false)) (λ_=>False) (λv=>(e-v.2.2.1).toNat) (λr=>match r with|.brk h=>h.2.1=t/\h.2.2.2=(some c,(J:Int),(e:Int),k,(n:Int),false)|.next h=>∃b:Nat,h.2.2.1=(b:Int)/\s<b/\b<=e/\(∃r,h.2.1=t++[r]/\r.length<=6000)/\h.2.2.2=(some c,(J:Int),(e:Int),k,(b:Int),false)|.ret r=>r.2.1.length<=e/\(∀j∈r.2.1,j.length<=6000)/\¬r.2.2=0) ⟨s,rfl,YA _,U,rfl,Zc,rfl⟩ ZB (λ⟨v1,v2,v3,v4,v5,v6⟩⟨b,P,q2,q3,Q,q5,R⟩=>?_) (λ_ g=>g.elim) λr f=>?_)
  ·dsimp only at P Q q5 R;subst P Q R;refine Zr ⟨λm=>by rw[bs];exact Zb ⟨rfl,rfl⟩,λm=>?_⟩;rw[M9]at m;have hp:b<e:=by dsimp only at m;omega
   dsimp only;rw[ko,Jv L,show Zm (Zv (J:Int) (b:Int))=((J+b:Nat):Int)by simp only[Wx];rw[ZK Y];omega];refine Zn ((ib K).mono λrd x1=>Zr ⟨λi=>?_,λi=>?_⟩);·simp only[Wx]at i;rw[bs,bs];exact Zb ⟨Zc,Zc,i⟩
   simp only[Wx]at i;obtain⟨-,-,-,pv,x5,x0⟩:=x1.1 i;refine Zn ((Zkq (by rw[x0];simp)).mono λu M=>?_);rw[show Zm (Zv (b:Int) 1)=((b+1:Nat):Int)by simp only[Wx];rw[ZK Y];rfl];refine Yu (λz=>z=false->u.2=true) (λ_=>Zb λg=>?_) (λX=>Zb λg=>by simpa[ZA]using X) λz hc=>Zr ⟨λ_=>by rw[bs];exact Zb ⟨rfl,rfl⟩,λZ=>?_⟩;·simpa[ZA]using g
   have N:=hc Z;have x4:u.1.2.2.2.length<=110:=by rw[M.2 N];have:=(M.1.1 N).1.1;show(List.take _ _).length<=110;rw[UF];omega
   refine Uz (λ_=>Zb trivial) (λ_=>Zb trivial) λx6=>Zr ⟨λ_=>by rw[bs];exact Zb ⟨rfl,rfl⟩,λ_=>(Xi ⟨by simp only[Wx];omega,Zr ⟨λF=>by rw[bs];exact Zb ⟨rfl,rfl⟩,λF=>?_⟩⟩)⟩;have I:(v4++u.1.2.2.2).length<=6000:=by simp only[Wx]at F;omega
   refine Zr ⟨λ_=>Xi ⟨by simp only[Wx,VJ];omega,?_⟩,λ_=>Zb ⟨⟨b+1,rfl,Y,Y,rfl,I,rfl⟩,ZB⟩⟩;rw[bs];exact Zb ⟨b+1,rfl,Y,Y,⟨_,rfl,I⟩,rfl⟩
  ·cases r with|ret _=>exact f|brk h=>exact⟨n,C,by rw[f.1];omega,by rw[f.1];exact l,f.2⟩|next h=>
    obtain⟨b,w,b2,x,⟨r,y,S⟩,T⟩:=f;refine⟨⟨b,b,w,x,x,by rw[y,YM,VJ];omega,λj O=>?_,T⟩,by dsimp only;rw[w];omega⟩;rw[y]at O;obtain q|q:=ZY O;·exact l j q
    ·rw[YV q];exact S
 ·obtain⟨n,k1,k2,k3,k4⟩:=p;exact⟨k2,k3,λ_=>⟨Y,n,k1,by rw[k4]⟩⟩
def kl{v}:W (Ei v A) λo=>o.2=A/\o.1.1=v.1/\o.1.2.1=v.2.1/\o.1.2.2.1=v.2.2.1/\(o.1.2.2.2=true↔v.2.2.2=true\/A=6):=by refine Yu _ (λa=>Zb<|Zp) (λa=>Zb Zp) λc b=>Zb ⟨rfl,rfl,rfl,rfl,b⟩
def R7(N:Nat):Nat:=(N-2)/2
def tE{ds}{v}(b:ds[B]?=some D)(a:DI z c D)(hv:v.1=some B)(h2:2<=z)(d:z<=4096):Ic v ds=some (R7 z:Int):=by unfold Ic;rw[hv,ko,Jv b,show GQ D=some (D.1.length:Int)from rfl,bs,a.1];refine Vp (Jd.2 ⟨Zc,Zb ?_⟩);rw[show Zm (ZX z 2)=(z-2:Nat)by simp[Wx];rw[ZK Y];omega,GU Zc,ZK Y];unfold R7;omega
def Zkg{ds}{v}(d:ds[B]?=some D)(b:DI z c D)(hv:v.1=some B)(h2:2<=z)(a:z<=4096):CF v ds F=some ((if F then 2+R7 z else 2:Nat):Int):=by
 have e:R7 z<=4096:=by unfold R7;omega
 unfold CF;cases F;·rw[Xp];rfl
 ·rw[XD,be (tE d b hv h2 a),Y4 rfl];congr 1;simp only[Wx];rw[ZK Y];omega
def ZaE{ds}{v}{b}(p:ds[c]?=some D)(hv:v.1=some c)(n:DI B z D)(l:2<=B)(m:z<1000000000):W (Ej v ds b) λo=>∃d',o.2.1=ds.set c d'/\DI B (z+1) d'/\(D.2.2.2.1<0->D.2.2.2.2=false->d'.2.2.2=D.2.2.2)/\o.1.1=some c/\o.1.2.2.1=v.2.2.1/\(o.2.2=0->o.1=(v.1,b,v.2.2))/\∀s y,Jb D.1 s y->¬s+1#64=0#64->D.2.2.1=[]->D.2.2.2.1<0->D.2.2.2.2=false->o.2.2=0/\d'.1=D.1.set (Lz s) (Pm (encS (s+1#64) (Kg b.1 b.2.1 b.2.2)))/\d'.2.2.1=[]:=by unfold Ej;rw[be ZAB,hv,ko,Jv p];refine Zn ((Zxa n l m (by rw[qP];omega)).mono λo a=>Zr ⟨λd=>?_,λd=>Zb (by refine⟨o.1,rfl,a.1.1,a.1.2,rfl,rfl,λ_=>rfl,λs y e f g h i=>⟨rfl,(a.2 s y (by rw[qP];omega) e f g h i).2⟩⟩)⟩);·simp at d;refine Zn (kl.mono λq j=>Zb ⟨o.1,rfl,a.1.1,a.1.2,by rw[j.2.1,hv],j.2.2.2.1,λk=>by rw[j.1]at k;exact(d k).elim,λs y e f g h i=>(d (a.2 s y (by rw[qP];omega) e f g h i).1).elim⟩)
def VW(N k:Nat)(v:Tk):Prop:=v.1=some k/\∃(b a c:Nat)(d:ZO 32)(e:Bool),v.2.2.1=some (some k,(b:Int),(a:Int),d,(c:Int),e)/\b+a<=N/\c<=a
def Sv(l:L PG)(g a:Nat)(R:L Zt)(n:Nat)(m:ZO 32):Prop:=Jb l (BitVec.ofNat 64 g) (if g=0then[]else Kg false 1#32 (BitVec.ofNat 32 g))/\Nb l 2 449 (BitVec.ofNat 32 a) R n m
def Nb.congr{f}(h:Nb r B z a E c k)(b:∀i,i<z->r.getD (B+i) Un=f.getD (B+i) Un):Nb f B z a E c k:=by have⟨l,m,n,o,p⟩:=h;exact⟨l.congr λi q=>b i Y,λt s j e=>m t s j (e.congr λi _ q=>(b i (by have:=e.2.1;omega)).symm),n,o,λi g d=>by unfold YQ;rw[<-b i d];exact p i g d⟩
def X0{ds:L j}(a:ds[B]?=some y):(ds.set B P)[B]?=some P:=by have:=(X8 a).1;rw[su this]
def Zf5(h:B<250):BitVec.ofNat 64 B+1#64=BitVec.ofNat 64 (B+1):=by apply yn;simp
def ze(h:B<250):BitVec.ofNat 32 B+1#32=BitVec.ofNat 32 (B+1):=by apply yn;simp
def ZaD{ds}(y:ds[c]?=some D)(w:DI B z D)(hN:4<=B)(E:B<=4096)(hc:z<1000000000):W (tF ds (some c)) λo=>∃d',o.1=ds.set c d'/\DI B (z+1) d'/\o.2.2.1.length<=R7 B/\(∀r∈o.2.2.1,r.length<=6000)/\(o.2.2.2=0->∃v,o.2.1=some v/\VW B c v)/\(¬o.2.2.2=0->o.2.1=none)/\(D.2.2.2.1<0->D.2.2.2.2=false->d'.2.2.2=D.2.2.2)/\∀g R n m,B=900->g<250->D.2.2.1=[]->D.2.2.2.1<0->D.2.2.2.2=false->Sv D.1 g (g+1) R n m->o.2.2.2=0/\o.2.2.1=R/\d'.2.2.1=[]/\Sv d'.1 (g+1) (g+1) R n m/\o.2.1=some (some c,(false,1#32,BitVec.ofNat 32 (g+1)),some (some c,2,449,BitVec.ofNat 32 (g+1),(n:Int),false),false):=by
 have h1:=w.1;have x3:=OU y;have Z:=w.le (c':=z+1) Y;have x8:D.2.2.1=[]->D.2.1=D.1:=λk=>by rw[w.2.1,k];rfl
 have x4:∀(A:Bool)(a C:ZO 32),(∀g R n m,B=900->g<250->D.2.2.1=[]->D.2.2.2.1<0->D.2.2.2.2=false->Sv D.1 g (g+1) R n m->A=false/\a=1#32/\C=BitVec.ofNat 32 g)->W (O (Ej (some c,(false,0#32,0#32),none,false) ds (A,a,WO C 1#32)) λq=>Zf (ZA (Zw q.2.2 0)) (some (q.2.1,(none:Zg Tk),([]:L Zt),q.2.2)) (O (CF q.1 q.2.1 A) λxi=>O (Ic q.1 q.2.1) λxs=>O (HT q.2.1 (some c) xi xs a (WO C 1#32)) λK=>Zf (ZA (Zw K.2.2 0)) (some (q.2.1,none,[],K.2.2)) (some (q.2.1,some (q.1.1,q.1.2.1,K.1,q.1.2.2.2),K.2.1,0)))) λo=>∃d',o.1=ds.set c d'/\DI B (z+1) d'/\o.2.2.1.length<=R7 B/\(∀r∈o.2.2.1,r.length<=6000)/\(o.2.2.2=0->∃v,o.2.1=some v/\VW B c v)/\(¬o.2.2.2=0->o.2.1=none)/\(D.2.2.2.1<0->D.2.2.2.2=false->d'.2.2.2=D.2.2.2)/\∀g R n m,B=900->g<250->D.2.2.1=[]->D.2.2.2.1<0->D.2.2.2.2=false->Sv D.1 g (g+1) R n m->o.2.2.2=0/\o.2.2.1=R/\d'.2.2.1=[]/\Sv d'.1 (g+1) (g+1) R n m/\o.2.1=some (some c,(false,1#32,BitVec.ofNat 32 (g+1)),some (some c,2,449,BitVec.ofNat 32 (g+1),(n:Int),false),false):=by
  refineλA a C P=>Zn ((ZaE y rfl w Y hc).mono λo G=>?_);obtain⟨d',o1,s,H,T,o5,o6,o7⟩:=G;have F:(ds.set c d')[c]?=some d':=X0 y;have S:∀g R n m,B=900->g<250->D.2.2.1=[]->D.2.2.2.1<0->D.2.2.2.2=false->Sv D.1 g (g+1) R n m->o.2.2=0/\d'.2.2.1=[]/\Sv d'.1 (g+1) (g+1) R n m:=by
   intro g R n m j e h i b d;obtain⟨rfl,rfl,rfl⟩:=P g R n m j e h i b d;have x0:¬BitVec.ofNat 64 g+1#64=0#64:=by rw[Zf5 e];intro k;have:=WX BitVec.toNat k;simp at this;omega
   obtain⟨M,t,u⟩:=o7 _ _ d.1 x0 h i b;refine⟨M,u,by rw[t,Ys Y,<-Zf5 e,<-ze e];exact d.1.save (x:=Kg false 1#32 (BitVec.ofNat 32 g+1#32)) Y x0 (by rw[qP];omega),?_⟩;·rw[t];refine d.2.congr λxx hi=>?_;have:Lz (BitVec.ofNat 64 g)<2:=Ez _ Y;rw[wy Y,Ys Y]
  refine Zr ⟨λp=>Zb ⟨d',o1,s,Zc,Zc,λk=>?_,λ_=>rfl,H,λg R n m j e h i b d=>?_⟩,λp=>?_⟩;·simp only[Wx]at p;exact(p k).elim
  ·simp only[Wx]at p;exact(p (S g R n m j e h i b d).1).elim
  simp only[Wx]at p;rw[o1,be (Zkg F s T Y E),be (tE F s T Y E)];refine Zn ((Zkl F s E).self.mono λJ⟨x9,xa,xb,xh⟩=>?_);have X:∀g R n m,B=900->g<250->D.2.2.1=[]->D.2.2.2.1<0->D.2.2.2.2=false->Sv D.1 g (g+1) R n m->J.2.2=0/\J.2.1=R/\J.1=some (some c,2,449,BitVec.ofNat 32 (g+1),(n:Int),false):=by
   intro g R n m j e h i b d;obtain⟨M,t,u⟩:=S g R n m j e h i b d;obtain⟨rfl,rfl,rfl⟩:=P g R n m j e h i b d;subst j;have⟨w',e1,e2,e3⟩:=ZAG (f:=2) (sp:=449) (a:=1#32) (g:=BitVec.ofNat 32 g+1#32) F s (by rw[H i b];exact b) E;have:w'=J:=X9 (e1.symm.trans x9);subst this;have x6:(1#32:ZO 32)<=BitVec.ofNat 32 g+1#32:=by rw[ze e];show(1#32).toNat<=(BitVec.ofNat 32 (g+1)).toNat;simp;omega
   have hz:=e3 Y YI x6;obtain⟨-,-,-,n',m',f1,f2,f3,U,V⟩:=e2 hz;have x7:d'.2.1=d'.1:=by rw[s.2.1,t];rfl
   rw[x7]at U V;obtain⟨rfl,rfl,rfl⟩:=U.uniq V u.2.1 u.2.2.1;exact⟨hz,rfl,by rw[f2,ze e];rfl⟩
  refine Zr ⟨λl=>Zb ⟨d',rfl,s,Zc,Zc,λk=>by simp only[Wx]at l;exact(l k).elim,λ_=>rfl,H,λg R n m j e h i b d=>by simp only[Wx]at l;exact(l (X g R n m j e h i b d).1).elim⟩,λl=>Zb ⟨d',rfl,s,xa,xb,λ_=>⟨_,rfl,T,?_⟩,λk=>(k rfl).elim,H,λg R n m j e h i b d=>?_⟩⟩;·simp only[Wx]at l;obtain⟨h9,n,q1,q2⟩:=xh l;exact⟨_,_,n,_,false,q2,h9,q1⟩
  ·obtain⟨M,t,u⟩:=S g R n m j e h i b d;obtain⟨c1,c2,c3⟩:=X g R n m j e h i b d;obtain⟨rfl,rfl,rfl⟩:=P g R n m j e h i b d;refine⟨rfl,c2,t,u,?_⟩;rw[o6 p];dsimp only;rw[c3];show some (some c,(false,1#32,BitVec.ofNat 32 g+1#32),_,false)=_;rw[ze e]
 unfold tF;rw[ko,Jv y,show GQ D=some (D.1.length:Int)from rfl,bs,h1];refine Zr ⟨λg=>?_,λg=>?_⟩;·simp only[Wx]at g;omega
 rw[ko,Jv y];refine Zn ((ZiS w Y).mono λo G=>Zr ⟨λp=>Zb ⟨D,x3,Z,Zc,Zc,λk=>?_,λ_=>rfl,λ_ _=>rfl,λg R n m j e h i b d=>?_⟩,λp=>?_⟩);·simp only[Wx]at p;exact(p k).elim
 ·simp only[Wx]at p;exact(p (G.2 b).1).elim
 have Q:∀g R n m,D.2.2.1=[]->D.2.2.2.2=false->Sv D.1 g (g+1) R n m->o.1=BitVec.ofNat 64 g/\o.2.1=if g=0then[]else Kg false 1#32 (BitVec.ofNat 32 g):=λg R n m h b d=>(G.2 b).2 _ _ (by rw[x8 h];exact d.1);refine Zr ⟨λl=>?_,λl=>?_⟩
 ·simp only[Wx]at l;have x5:∀g R n m,g<250->D.2.2.1=[]->D.2.2.2.2=false->Sv D.1 g (g+1) R n m->¬g=0:=λg R n m e h b d k=>by have:=(Q g R n m h b d).1;rw[this,k]at l;exact absurd l YI
  refine Zn ((ZAA Y).self.mono λI⟨x1,xv⟩=>?_);have x2:∀g R n m,g<250->D.2.2.1=[]->D.2.2.2.2=false->Sv D.1 g (g+1) R n m->I=((false,1#32,BitVec.ofNat 32 g),true):=λg R n m e h b d=>by have h0:=x5 g R n m e h b d;have:=(Q g R n m h b d).2;rw[Ys h0]at this;rw[this,ZAz YI (by show(1#32).toNat<=(BitVec.ofNat 32 g).toNat;simp;omega) (by show(BitVec.ofNat 32 g).toNat<(4294967295#32).toNat;simp;omega)]at x1;exact(X9 x1).symm
  refine Zr ⟨λN=>Zb ⟨D,x3,Z,Zc,Zc,λk=>(by cases k),λ_=>rfl,λ_ _=>rfl,λg R n m j e h i b d=>?_⟩,λN=>x4 I.1.1 I.1.2.1 I.1.2.2 λg R n m j e h i b d=>by rw[x2 g R n m e h b d];exact⟨rfl,rfl,rfl⟩⟩;·rw[x2 g R n m e h b d]at N;simp only[Wx]at N
 ·simp only[Wx]at l;refine x4 false 1#32 0#32 λg R n m j e h i b d=>⟨rfl,rfl,?_⟩;have:=(Q g R n m h b d).1;rw[Za6 l]at this;have:=WX BitVec.toNat this;simp at this;rw[show g=0 by omega]
def DI.sm(h:DI B z D)(a:D.2.2.1.length<=c):DI B c D:=⟨h.1,h.2.1,h.2.2.1,a⟩
def nB:(SA a B z c d J).length=J:=by unfold SA;simp
def HQ(k:Nat)(g n:Nat)(fd:Bool):Tk:=(some k,(false,1#32,BitVec.ofNat 32 g),some (some k,(2:Int),(449:Int),BitVec.ofNat 32 g,(n:Int),fd),fd)
def K8(d:Yb)(g n:Nat)(B:Zt->Prop):Prop:=∃a b,d.2.2.1=SA (BitVec.ofNat 32 g) 2 n (Xl a.length) a b/\b<=Xl a.length/\n+b<=449/\(0<b->a.length<=6000/\n+Xl a.length<=449/\B a)
def K8.nil{d}{g n}{B}(h:d.2.2.1=[])(a:n<=449):K8 d g n B:=⟨[],0,by rw[h];rfl,Zc,Y,Zc⟩
def K8.mono{g}{B B'}(h:K8 D g z B)(i:∀b,B b->B' b):K8 D g z B':=by obtain⟨b,e,a,c,d,f⟩:=h;exact⟨b,e,a,c,d,Xk⟩
def K8.len{g}{B}(h:K8 D g z B):D.2.2.1.length<=449:=by have⟨b,f,a,c,d,e⟩:=h;rw[a,nB];omega
def PV(k g:Nat)(B:Zt->Prop)(R:L Zt)(n:Nat)(fd:Bool)(d:Yb):Prop:=DI 900 449 d/\(∃a,Sv d.1 g g R n a)/\K8 d g n B/\(fd=false->d.2.2.1=[])
def ZAy{ds}{v}(hv:VW B c v)(j:ds[c]?=some D)(i:DI B z D)(r:z<=1000000000)(p:B<=4096)(q:d.length<=1000000000):W (zZ v ds d) λo=>∃d',o.2.1=ds.set c d'/\DI B (z+4096) d'/\VW B c o.1:=by
 obtain⟨y,f,h,k,e,x,n,b,g⟩:=id hv;refine Zr ⟨λm=>Zb ⟨D,OU j,i.le Zc,hv⟩,λm=>?_⟩;rw[n,ko];refine Zn ((ZaJ j i r p b g q).mono λo⟨d',A,t,u,C,E,F,G,w,H⟩=>Zn (kl.mono λI s=>Zb ⟨d',t,u,Zp,?_⟩));rw[s.2.2.2.1];obtain⟨-,-,-,l,-,a⟩|⟨-,a,-⟩|⟨-,-,-,-,a⟩:=w;·exact⟨f,h,_,e,_,by rw[a],b,l⟩
 ·exact⟨f,h,k,e,_,by rw[a],b,g⟩
 ·exact⟨f,h,k,e,_,by rw[a],b,g⟩
def ZAE{ds}{v}(hv:VW B c v)(h:ds[c]?=some D)(g:DI B z D)(t:z<=1000000000):W (z8 v ds) λo=>∃d',o.2.1=ds.set c d'/\DI B z d'/\VW B c o.1:=by
 have⟨m,d,k,j,b,s,n,e,f⟩:=id hv;refine Zr ⟨λl=>Zb ⟨D,OU h,g,hv⟩,λl=>?_⟩;rw[n,ko];refine Zn ((ZaL h g Y).mono λo⟨d',p,q,r,u⟩=>Zn (kl.mono λw i=>Zb ⟨d',p,q,by rw[i.2.1];exact m,?_⟩));rw[i.2.2.2.1];obtain⟨-,-,a,-⟩|⟨-,a,-⟩:=r;·exact⟨d,k,j,b,_,by rw[a],e,f⟩
 ·exact⟨d,k,j,b,_,by rw[a],e,f⟩
def Zki{v}:Ei v 6=some ((v.1,v.2.1,v.2.2.1,true),6):=by exact Vp (Yu (λa=>a=true) (λ_=>Zb rfl) (λ_=>Zb Zc) λa b=>Zb Zp)
def ZaF{v}(d:¬A=6):Ei v A=some (v,A):=by exact Vp (Yu (λa=>a=v.2.2.2) (λb=>Zb b.symm) (λb=>Zb Zp) λa c=>Zb (by rw[c]))
def VM(k g n:Nat)(fd:Bool)(v:Tk):Prop:=∃a:Nat,v=HQ k g a fd/\a<=449/\(fd=false->a=n)
def VM.w{k}{v}(h:VM k B z F v):VW 900 k v:=by obtain⟨b,rfl,a,-⟩:=h;exact⟨rfl,2,449,b,_,_,rfl,Zc,a⟩
noncomputable def kp(v:Tk)(ds:L Yb)(b:Zt):Zg (Tk×L Yb×Int):=O (zZ v ds b) λa=>Zf (ZA (Zw a.2.2 0)) (some a) (z8 a.1 a.2.1)
def Zqb{k}{B}{ds}{v}(hv:VM k z c F v)(M:ds[k]?=some D)(h:PV k z B E c F D)(hb:d.length<=1000000000)(R:B d):W (kp v ds d) λo=>∃d',o.2.1=ds.set k d'/\((o.2.2=0/\o.1=HQ k z (c+Xl d.length) false/\∀B',PV k z B' (E++[d]) (c+Xl d.length) false d')\/¬o.2.2=0/\∃Q,VM k z c Q o.1/\PV k z B E c Q d')/\(F=false->D.2.2.2.1<0->D.2.2.2.2=false->d.length<=6000->c+Xl d.length<=449->o.2.2=0/\d'.2.2.2=D.2.2.2):=by obtain⟨J,⟨T,y⟩,⟨_,_,_,_,_,_⟩,h4⟩:=id h;have u:c<=449:=Y;obtain⟨n',rfl,x2,x0⟩:=id hv;unfold kp zZ;cases F with|true=>rw[show Zf (HQ k z n' true).2.2.2=Zf true from rfl,XD,bs];refine Zr ⟨λ_=>Zb ⟨D,OU M,.inr ⟨Zc,true,hv,h⟩,λa=>by cases a⟩,λa=>by simp only[Wx]at a;omega⟩|false=>
  have q:=(x0 rfl).symm;subst q;rw[show Zf (HQ k z c false).2.2.2=Zf false from rfl,Xp,show(HQ k z c false).2.2.1=some (some k,(2:Int),(449:Int),BitVec.ofNat 32 z,(c:Int),false)from rfl,ko];refine Zn (Zn ((ZaJ (f:=2) (sp:=449) (G:=BitVec.ofNat 32 z) (fl:=false) (b:=d) M J Y Y Y u hb).mono λo N=>?_));obtain⟨d',j,O,U,A,p,V,X,o7,C⟩:=N;rw[h4 rfl,UG]at p;obtain⟨q,-,r,s,w,e4⟩|⟨q,r,-,s⟩|⟨q,-,r,s,w⟩:=o7
  ·rw[q,be (ZaF YI)];refine Zb (Zr ⟨λa=>by simp only[Wx]at a,λ_=>?_⟩);dsimp only;unfold z8;rw[show Zf (HQ k z c false).2.2.2=Zf false from rfl];dsimp only;rw[Xp,e4,ko,O];refine Zn ((ZaL (f:=2) (sp:=449) (G:=BitVec.ofNat 32 z) (n:=((c+Xl d.length:Nat):Int)) (fl:=false) (X0 M) U Y).mono λx3⟨P,w1,w2,w3,w4⟩=>?_);obtain⟨H,-,I,x,t⟩|⟨H,I,x,t⟩:=w3
   ·rw[H,be (ZaF YI)];refine Zb ⟨P,by rw[w1,T6],.inl ⟨rfl,by rw[I];rfl,λB'=>⟨w2.sm (by rw[t];simp),⟨BitVec.ofNat 32 z,?_,?_⟩,K8.nil t Y,λ_=>t⟩⟩,λ_ b e m n=>⟨rfl,?_⟩⟩
    ·rw[x,A,p,w];obtain⟨s1,s2,s3⟩:=y.1;obtain⟨i,-⟩:=iD (G:=BitVec.ofNat 32 z) (f:=2) (n:=c) (K:=Xl d.length) (b:=d) (l:=D.1) (j:=Xl d.length) (by rw[J.1];omega);have S:∀g,g<2->YQ (OB D.1 (SA (BitVec.ofNat 32 z) 2 c (Xl d.length) d (Xl d.length))) g=YQ D.1 g:=λg L=>by unfold YQ;rw[i g Y]
     refine⟨λa=>?_,s2,λg L u o N x1=>s3 g L u o (by rw[<-S g L];exact N) x1⟩;rw[S _ (Ez _ Y)];exact s1 a
    ·rw[x,A,p,w];exact y.2.app (by rw[J.1];omega) Y r s
    ·have i:=(C rfl m n b e).2;have Z:=(w4 rfl (by rw[i];exact b) (by rw[i];exact e)).2;rw[Z,i]
   ·rw[H,be Zki];refine Zb ⟨P,by rw[w1,T6],.inr ⟨by show¬(6:Int)=0;decide,true,⟨c+Xl d.length,by rw[I];rfl,Y,λa=>by cases a⟩,w2.sm (by rw[t,p,nB];omega),⟨T,by rw[x,A];exact y⟩,⟨d,j,by rw[t,p],V,X,λ_=>⟨r,s,R⟩⟩,λa=>by cases a⟩,λ_ b e m n=>?_⟩;·have i:=(C rfl m n b e).2;have Z:=(w4 rfl (by rw[i];exact b) (by rw[i];exact e)).1;omega
  ·rw[q,be Zki];refine Zb (Zr ⟨λ_=>Zb ⟨d',O,.inr ⟨by show¬(6:Int)=0;decide,true,⟨c,by rw[r];rfl,u,λa=>by cases a⟩,U.sm (by rw[p,nB];omega),⟨T,by rw[A];exact y⟩,⟨d,j,p,V,X,λ_=>⟨(s rfl).1,(s rfl).2,R⟩⟩,λa=>by cases a⟩,λ_ b e m n=>?_⟩,λa=>by simp only[Wx]at a;omega⟩);have:=(C rfl m n b e).1;omega
  ·rw[be (ZaF Y)];refine Zb (Zr ⟨λ_=>Zb ⟨d',O,.inr ⟨ZB,false,⟨c,by rw[w];rfl,u,λ_=>rfl⟩,by rw[r];exact h⟩,λ_ b e m n=>?_⟩,λa=>by simp only[Wx]at a;omega⟩);have:=(C rfl m n b e).1;omega
def ZsN{n}(h:n<=6000):Xl n<=55:=by unfold Xl;omega
def Zi9(h:B<=4096):R7 B<=4096:=by unfold R7;omega
def ZAD{ds}{v}(hv:v.1=some c)(h:ds[c]?=some D)(g:DI B z D)(h2:2<=B)(f:B<=4096)(s:E.length<=1000000):W (kg v ds E) λ_=>True:=by
 have t:R7 B<=4096:=by unfold R7;omega
 unfold kg;refine WM (W.VQ (λa=>∃b:Nat,a.2=b/\b<=E.length/\0<=a.1/\a.1<=5000) (λ_=>True) (λa=>(E.length-a.2).toNat) (λ_=>True) Zp ZB (λa i=>?_) (λa i=>?_) λ_ _=>trivial)
 ·obtain⟨j,w⟩:=a;obtain⟨b,e,r,k,l⟩:=i;dsimp only at e k l;subst e;refine Zr ⟨λp=>?_,λ_=>Zb trivial⟩;simp only[Wx]at p;refine Zn (YN ⟨ZB,λd u=>Zr ⟨λ_=>by rw[bs];exact Zb trivial,λq=>?_⟩⟩);simp only[Wx]at q;rw[be (Zcw (n:=d.length) Y),be (tE h g hv h2 f)];have:=ZsN (n:=d.length) Y;have m:Zm (Zv (b:Int) 1)=((b+1:Nat):Int):=by simp only[Wx];rw[ZK Y];rfl
  have o:Tx (Zm (Zv j ((Xl d.length:Nat):Int))) (Zm (Zv ((R7 B:Nat):Int) 1))=min (j+(Xl d.length:Nat)) ((R7 B:Nat)+1):=by simp only[Wx];rw[ZK Y,ZK Y]
  dsimp only;rw[m,o];refine Zb ⟨⟨b+1,rfl,Y,ZB,ZB⟩,ZB⟩
 ·dsimp only;rw[be (tE h g hv h2 f)];exact Uz (λ_=>Zb trivial) (λ_=>Zb trivial) λ_=>Zr ⟨λ_=>Zb trivial,λ_=>Zb trivial⟩
theorem ZAC{ds}{v}{y}(hv:VW B c v)(e:ds[c]?=some D)(p:DI B z D)(h2:2<=B)(m:B<=4096)(hR:E.length<=10000)(hc:z<=100000000)(L:∀r∈E,r.length<=1000000000):W (ke v ds y E) λo=>o.1=v/\∃d',o.2.1=ds.set c d'/\DI B (z+4096) d'/\(o.2.2.2=0->∃(f sp n:Nat)(G:ZO 32)(fl:Bool),o.2.2.1=some (some c,(f:Int),(sp:Int),G,(n:Int),fl)/\f+sp<=B/\n<=sp):=by
 have F:=OU e;have x1:=Zi9 m;unfold ke;rw[be (Zkg e p hv.1 h2 m),be (tE e p hv.1 h2 m),hv.1];refine Zn ((Zkl e p m).mono λx2 P=>Zr ⟨λd=>Zb ⟨rfl,D,F,p.le Y,λt=>?_⟩,λd=>?_⟩);·simp only[Wx]at d;exact(d t).elim
 simp only[Wx]at d;obtain⟨M,S,O,N⟩:=P.2.2 d;rw[N,ko];generalize hf:(if ZA y.1then 2+R7 B else 2:Nat)=f at*;refine WM (W.VQ (λb=>∃(g:Nat)(d':Yb),b.1=g/\g<=E.length/\b.2.1=ds.set c d'/\∃(n:Nat)(G:ZO 32)(fl:Bool),b.2.2=(some c,(f:Int),((R7 B:Nat):Int),G,(n:Int),fl)/\n<=R7 B/\DI B (z+n) d') (λb=>∃(d':Yb),b.2.1=ds.set c d'/\DI B (z+4096) d'/\∃(n:Nat)(G:ZO 32)(fl:Bool),b.2.2=(some c,(f:Int),((R7 B:Nat):Int),G,(n:Int),fl)/\n<=R7 B) (λb=>(E.length-b.1).toNat) (λr=>r.1=v/\(∃d',r.2.1=ds.set c d'/\DI B (z+4096) d')/\¬r.2.2.2=0) ⟨0,D,rfl,Y,F,S,y.2.2,false,rfl,O,p.le Y⟩ ZB (λb w=>?_) (λb w=>?_) λr C=>⟨C.1,?_⟩)
 ·obtain⟨X,Z,u3⟩:=b;obtain⟨g,d',A,e2,j,n,G,fl,l,u,k⟩:=w;dsimp only at A j l;subst A j l;refine Zr ⟨λd=>?_,λd=>Zb ⟨d',rfl,k.le Y,n,G,fl,rfl,u⟩⟩;simp only[Wx]at d;refine Zn (YN ⟨ZB,λx0 Q=>Zn ((ZaJ (X0 e) k Y m M u (L x0 (X2 Q))).mono λo⟨i,R,s,h,T,H,o5,o6,U,o8⟩=>?_)⟩);have h:DI B (z+n+R) i:=h.sm (by rw[H,YM,nB];have:=k.2.2.2;omega);refine Zr ⟨λq=>?_,λq=>Zb ?_⟩;·rw[bs];simp only[Wx]at q;refine Zb ⟨rfl,⟨i,by rw[<-T6 (a:=d'),<-s],h.le Y⟩,q⟩
  ·simp only[Wx]at q;rw[show Zm (Zv (g:Int) 1)=((g+1:Nat):Int)by simp only[Wx];rw[ZK Y];rfl];refine⟨⟨g+1,i,rfl,Y,by rw[s,T6],?_⟩,ZB⟩;obtain⟨-,-,-,x,q3,V⟩|⟨x,-⟩|⟨x,-⟩:=U;·exact⟨_,G,false,V,x,h.le Y⟩
   ·omega
   ·omega
 ·obtain⟨X,Z,u3⟩:=b;obtain⟨d',j,k,n,G,fl,l,u⟩:=w;dsimp only at j l;subst j l;refine Zn ((ZaL (X0 e) k Y).mono λo⟨i,s,h,T,H⟩=>Zb<|⟨rfl,i,by rw[s,T6],h,λ_=>?_⟩);grind
 ·obtain⟨-,⟨d',I,J⟩,K⟩:=C;exact⟨d',I,J,λt=>(K t).elim⟩
def Zkh{ds}{v}(hv:VW B c v)(a:ds[c]?=some D)(b:DI B z D)(h2:2<=B)(i:B<=4096)(P:E.length<=5000)(Q:z<=90000000)(C:∀r∈E,r.length<=1000000000):W (Eh v ds E) λo=>∃d',o.2.1=ds.set c d'/\DI B (z+5000) d'/\VW B c o.1:=by have j:=OU a;unfold Eh;refine Zr ⟨λ_=>Zb ⟨D,j,b.le Y,hv⟩,λ_=>Zn ((ZAD hv.1 a b h2 i Y).mono λV _=>Zr ⟨λ_=>Zb ⟨D,j,b.le Y,hv⟩,λ_=>Zn ((ZaE a hv.1 b h2 Y).mono λo F=>?_)⟩)⟩;obtain⟨w,l,m,-,f,I,R,-⟩:=F;have d:VW B c o.1:=⟨f,by rw[I];exact hv.2⟩;refine Zr ⟨λ_=>Zb ⟨w,l,m.le Y,d⟩,λ_=>?_⟩;rw[l];refine Zn ((ZAC d (X0 a) m h2 i Y Y C).mono λU⟨e,x,s,t,K⟩=>Zr ⟨λ_=>Zn (kl.mono λX k=>Zb ⟨x,by rw[s,T6],t.le Y,by rw[k.2.1,e];exact f,by rw[k.2.2.2.1,e];exact d.2⟩),λh=>?_⟩);simp only[Wx]at h;obtain⟨y,L,H,u,A,M,N,O⟩:=K h;rw[s,T6];refine Zn ((ZaE (X0 a) (by rw[e];exact f) t h2 Y).mono λS G=>?_);obtain⟨g,n,p,-,q,J,T,-⟩:=G;refine Zr ⟨λ_=>Zb ⟨g,by rw[n,T6],p.le Y,q,by rw[J,e];exact d.2⟩,λ_=>Zb ⟨g,by rw[n,T6],p.le Y,q,y,L,H,u,A,M,N,O⟩⟩
end Go.R
