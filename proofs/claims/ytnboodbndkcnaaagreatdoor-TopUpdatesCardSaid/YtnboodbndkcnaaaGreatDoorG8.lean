import Derived.RangeFuncBox
import Derived.RangeFuncLeaves
import Derived.RangeFuncCalls
import Derived.Shelf.Abstract
import Derived.WalkKit
import Derived.OwnWalkIn
import Derived.TacticsInMore
import Derived.LoopNIn
import Derived.LoopIn
import Derived.Stop.RegionWithIn
import Derived.Test.YtnboodbndkcnaaaGreatDoorProg
import Derived.Test.YtnboodbndkcnaaaGreatDoorG7
set_option linter.all false
namespace Go.Sl
def CU:=@Go.RowKit.Below.heap_alloc
def Bg:=@Go.World.grownBy_alloc
def yl:=@Array.replicate_succ
def ym:=@Array.replicate_zero
def yr:=@List.append_toArray
def yA:=@List.push_toArray
def yG:=@Go.World.alloc_heap_new
def jv:=@Go.callsIn_of_wp
end Go.Sl
set_option maxRecDepth 100000
namespace Go.R
open Go.Sl
variable {a:Nat->Prop}{b:World}{c d:Nat}
section
set_option maxHeartbeats 400000
open Go.Proofs Go.RowKit Go.Shelf
attribute [local go_sem]Oper.semAt_some
@[reducible] def JA(b c s:Int):Value:=.agg #[.int .i64 b,.int .i64 c,.int .i64 s]
def ZfG(F:Fence)(n:Nat)(h:F.fn 182)(d:F.round=none)(b c s:Int)(a:b=1\/b=2\/b=4\/b=8)(w:World):CallsIn F n Tryz.prog 182 #[.agg #[.int .i64 b,.int .i64 c,.int .i64 s]] w λe w'=>e=.returned (.int .i64 (2^b.toNat-1))/\w'=w.alloc (.cells #[.int .i64 b,.int .i64 c,.int .i64 s] 307):=by refine jv Tryz.func182 rfl h ?_ d;simp only[Tryz.ntmps182,Ew,Wl,W6,Nat.reduceAdd,Nat.reduceSub,yl,ym,yA,yr,UG,Oj];obtain rfl|rfl|rfl|rfl:=a<;>(gi_wp2;go_ret;exact⟨rfl,rfl⟩)
def Ug(X:Nat->Prop)(W c:World):Prop:=∀a b,¬X a->W.heap[a]?=some b->b.isCells=true->c.heap[a]?=some b
def Ug.refl(W:World):Ug a W W:=λ_ _ _ b _=>b
def Ug.trans{B C:World}(h:Ug a b B)(k:Ug a B C):Ug a b C:=λc f d g e=>k c f d (h c f d g e) e
def Ug.alloc{X:Nat->Prop}{A B:World}(h:Ug X A B)(o:Obj):Ug X A (B.alloc o):=λa e c b d=>by have:=h a e c b d;exact(CU _ _ _ (U0 this).1).trans this
def Ug.drew{B:World}(h:Ug a b B):Ug a b B.drew:=h
def Ug.cell{X:Nat->Prop}{A B:World}(h:Ug X A B){p:Addr}{v:Value}(b:¬X p.block)(e:A.cell? p=some v):B.cell? p=some v:=by
 unfold World.cell? at e⊢;split at e;·rename_i a;rw[h _ _ b a rfl];exact e
 ·cases e
def GK{x y z:Value}(h:b.heap[c]?=some (.cells #[x,y,z] d)):b.cell? ⟨c,0,none⟩=some x/\b.cell? ⟨c,1,none⟩=some y/\b.cell? ⟨c,2,none⟩=some z:=by unfold World.cell?;rw[h];exact⟨rfl,rfl,rfl⟩
def ZAx{F:Fence}{P:Program}{o:Oper}{a:Act}{next:Act->World->Prop}{Q:Exit->Act->World->Prop}{g:FuncId}{tmps:Array Value}{assign body:Code}{R:Ending->World->Prop}(k:1<=c)(h:RoundIn F (c-1) P d g tmps assign body b R)(j:∀e f,R e f->∃v,e=.returned v/\next (a.put o.dst v) f):o.uponIn F c P a next Q (.ok (.round d g tmps assign body) b):=by refine⟨λ_=>k,ju h λe f i=>?_⟩;obtain⟨v,rfl,l⟩:=j e f i;exact l
def Zog{zs:L Nat}(h:d<zs.length):Tw c (zs.take (d+1))=Tw c (zs.take d)++(List.range (8/c)).map (dg c zs[d]):=by unfold Tw;rw[ML h,List.flatMap_append];simp
def Zdx(n:Nat)(hn:1<=n)(X:Nat->Prop)(l b off cap bt:Nat)(c s:Int)(C:bt=1\/bt=2\/bt=4\/bt=8)(zs:L Nat)(yf:zs.length<=1000)(hb:¬X b)(i H:L Int->World->Prop)(W:World)(N:∀k,W.heap.size<=k->¬X k)(hJ:AbidesFrom W.heap.size i)(hY:∀pre x W,i pre W->pre.length<(Tw bt zs).length->YieldAt Fence.wide (n-1) Tryz.prog l #[.int .i64 x] W λe g=>e=.returned (.bool true)/\i (pre++[x]) g/\Ug X W g\/e=.returned (.bool false)/\H (pre++[x]) g)(hc:∀j(hj:j<zs.length),W.cell? ⟨b,off+j,none⟩=some (.int .u8 (zs[j]:Nat)))(h0:i [] W):CallsIn Fence.wide n Tryz.prog 270 #[.agg #[.int .i64 bt,.int .i64 c,.int .i64 s],.slice (some ⟨b,off,none⟩) zs.length cap,.func (.yield l) #[] #[]] W λe g=>(∃v,e=.returned v)/\(i (Tw bt zs) g\/∃pre,H pre g):=by
 have x8:=qJ (bt:=bt) (zs:=zs);obtain⟨v,r⟩:∃v:Int,v=bt:=⟨_,rfl⟩;rw[<-r];obtain⟨m,A⟩:∃m:Int,m=2^bt-1:=⟨_,rfl⟩;obtain⟨d,hm⟩:∃d:Nat,d=8/bt:=⟨_,rfl⟩;have O:∃_:True,(Tw bt zs).length=zs.length*d/\(∀k,(Tw bt (zs.take k)).length=min k zs.length*d)/\(∀k(h:k<zs.length),Tw bt (zs.take (k+1))=Tw bt (zs.take k)++(List.range d).map (dg bt zs[k]))/\(∀j:Nat,j<d->∃a:Nat,8-(bt:Int)*(j+1)=a/\a<8/\8-bt*(j+1)=a/\(a:Int)-bt=8-bt*((j+1:Nat)+1))/\∃a:Int,8-(bt:Int)*(d+1)=a/\¬0<=a:=by
  subst hm;refine⟨trivial,x8,λk=>by rw[qJ,UF],λk h=>Zog h,λj hj=>⟨8-bt*(j+1),?_⟩,_,rfl,?_⟩;·obtain rfl|rfl|rfl|rfl:=C<;>omega
  ·obtain rfl|rfl|rfl|rfl:=C<;>omega
 clear x8;obtain⟨f,q⟩:∃f:Obj,f=.cells #[.int .i64 v,.int .i64 c,.int .i64 s] 307:=⟨_,rfl⟩;have x9:∃_:True,∀(k j a:Nat)(E:k<zs.length)(wr:World),i (Tw bt (zs.take k)++(List.range j).map (dg bt zs[k])) wr->j<d->8-bt*(j+1)=a->YieldAt Fence.wide (n-1) Tryz.prog l #[.int .i64 (bits BinOp.and IntKind.i64 (IntKind.i64.wrap (zs[k]:Nat)/2^a) m)] (wr.alloc f).drew λe g=>∃u:Bool,e=.returned (.bool u)/\∃_:True,(u=true->i (Tw bt (zs.take k)++(List.range (j+1)).map (dg bt zs[k])) g/\Ug X wr g)/\(u=false->∃pre,H pre g):=by
  refine⟨trivial,λk j a E wr h1 h2 h3=>?_⟩;obtain⟨-,w,y,-⟩:=O;have h4:i _ (wr.alloc f).drew:=hJ _ _ _ none h1 ⟨rfl,rfl,rfl,(Bg wr f none).size,(Bg wr f none).block⟩ λ_ e=>by cases e
  have h5:dg bt zs[k] j=bits BinOp.and IntKind.i64 (IntKind.i64.wrap (zs[k]:Nat)/2^a) m:=by unfold dg;rw[h3,A]
  have h6:(k+1)*d<=zs.length*d:=Q0 d E;rw[SE,O7]at h6;obtain⟨Z,xa,U,V,t,B⟩:=hY _ (dg bt zs[k] j) (wr.alloc f).drew h4 (by rw[YM,y,w,LP,List.length_range,PA (jl E)];omega);rw[h5]at t;refine⟨Z,xa,U,V,t,ju B ?_⟩;rintro e g(⟨rfl,S,q2⟩|⟨rfl,S⟩);·refine⟨true,rfl,trivial,λ_=>⟨?_,(Ug.refl wr|>.alloc f|>.drew).trans q2⟩,λe=>by cases e⟩;rw[yB,WW,<-Yc];exact S
  ·exact⟨false,rfl,trivial,(λe=>by cases e),λ_=>⟨_,S⟩⟩
 clear hY;refine jv Tryz.func270 rfl trivial ?_ rfl;simp only[Tryz.ntmps270,Ew,Wl,W6,Nat.reduceAdd,Nat.reduceSub,yl,ym,yA,yr,UG,Oj];have xv:v=1/\m=1\/v=2/\m=3\/v=4/\m=15\/v=8/\m=255:=by obtain h|h|h|h:=C<;>rw[h]at r A<;>simp[r,A]
 have G:∃_:True,(bt:Int)=v:=⟨trivial,r.symm⟩;clear C r hm;obtain⟨T,K⟩:∃T,m=T:=⟨_,rfl⟩;rw[K]at x9;obtain⟨rfl,h⟩|⟨rfl,h⟩|⟨rfl,h⟩|⟨rfl,h⟩:=xv<;>rw[K]at h<;>subst h<;>clear K A;all_goals
  gi_wp2;rw[<-q];have xs:(W.alloc f).heap[W.heap.size]?=some f:=yG W _;gi_loopw[11](λo wr=>∃k:Nat,k<=zs.length/\o=.int .i64 k/\i (Tw bt (zs.take k)) wr/\Ug X (W.alloc f) wr)λo _=>zs.length-(RowKit.intOf o).toNat;case atStart=>exact⟨0,W7 _,rfl,hJ _ _ _ none h0 (Bg W _ none) (λ_ e=>by cases e),Ug.refl _⟩
  case round=>
   obtain⟨k,E,rfl,x3,R⟩:=hrel;have x4:wr.heap[W.heap.size]?=some f:=R _ _ (N _ (YA _)) xs (by rw[q];rfl);have x5:=x4;rw[q]at x5;obtain⟨y3,-,-⟩:=GK x5;by_cases F:k<zs.length
   ·have y8:wr.cell? ⟨b,off+k,none⟩=some (.int .u8 (zs[k]:Nat)):=R.cell (p:=⟨b,off+k,none⟩) hb (((Ug.refl W).alloc f).cell (p:=⟨b,off+k,none⟩) hb (hc k F));gi_wp2;gi_loopw[8](λo w2=>∃j:Nat,j<=d/\o=.int .i64 (8-bt*(j+1))/\i (Tw bt (zs.take k)++(List.range j).map (dg bt zs[k])) w2/\Ug X wr w2)λo _=>(RowKit.intOf o+8).toNat;case atStart=>exact⟨0,W7 _,by obtain⟨-,e⟩:=G;rw[e];rfl,by simpa using x3,Ug.refl _⟩
    case round=>
     obtain⟨j,hj,rfl,x2,Q⟩:=hrel;have M:=Q _ _ (N _ (YA _)) x4 (by rw[q];rfl);rw[q]at M;obtain⟨y4,y5,y6⟩:=GK M;obtain⟨-,w,y,z,I,A0,J,e6⟩:=id O;by_cases P:j<d;·obtain⟨a,hA,y2,x0,x1⟩:=I j P;rw[hA];have x6:∃_:True,_:=⟨trivial,x9.elim (λ_ xb=>xb) k j a F wr x2 P x0⟩;rw[q]at x6;have D:∃_:True,(a:Int)-bt=8-bt*((j+1:Nat)+1):=⟨trivial,x1⟩;clear hA x0 x1 w y z I J e6;gi_wp2;gi_region_with(first|(refine⟨trivial,?_⟩;gi_at_call 182;refine(ZfG Fence.wide (n-1) trivial rfl _ c s YI _).mono ?_;rintro e w'⟨rfl,rfl⟩)|(obtain⟨-,Z,xa,U,V,t,B⟩:=x6;rw[t];clear t;refine ZAx hn B ?_;clear B;rintro e W3⟨u,rfl,hz⟩;refine⟨_,rfl,?_⟩));obtain⟨-,y0,y1⟩:=hz;cases u with|false=>obtain⟨pre,xx⟩:=y1 rfl;gi_wp2;refine bodyPost_ret (results_none rfl _ _ _) rfl ?_;exact⟨⟨_,rfl⟩,.inr ⟨_,xx⟩⟩|true=>obtain⟨xh,x7⟩:=y0 rfl;have xi:=x7 _ _ (N _ (YA _)) M rfl;obtain⟨y7,-,-⟩:=GK xi;gi_wp2;obtain⟨-,G⟩:=G;obtain⟨-,D⟩:=D;rw[G]at D⊢;exact⟨⟨j+1,P,by rw[D],xh,Q.trans x7⟩,by simp[RowKit.intOf];omega⟩
     ·obtain rfl:j=d:=Y;rw[J];clear w y z I J;gi_wp2;obtain⟨-,-,-,z,-⟩:=O;exact⟨⟨k+1,F,Zc,by rw[z k F];exact x2,R.trans Q⟩,by simp[RowKit.intOf];omega⟩
   ·obtain rfl:k=zs.length:=Y;gi_wp2;go_end0;exact⟨⟨_,rfl⟩,.inl (by rwa[Ir]at x3)⟩
end
end Go.R
