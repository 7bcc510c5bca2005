import Derived.RangeFuncFrom
import Derived.Shelf.RegionOpen
import Derived.ArgAppend
import Derived.Maps.AppendAt
import Derived.Deep.RegionLawGrows
import Derived.Test.YtnboodbndkcnaaaGreatDoorProg
import Derived.Shelf.Spec.SlicesGrow
import Derived.Shelf.Sort.Plain
import Derived.Shelf.Slices.In.SortNone
import Derived.Test.YtnboodbndkcnaaaGreatDoorG8
set_option linter.all false
namespace Go.Sl
def kT:=@Go.grownBy_setCell'
def Zbv:=@Go.World.size_alloc
end Go.Sl
set_option maxRecDepth 100000
namespace Go.R
open Go.Sl
variable {b e g h i j l y:Type}{s B:World}{f a A:Nat}{o:Ending->World->Prop}{d:L Int}{c:L Value}{p:Nat->Prop}{k:Obj}{r:Program}{x:Addr}{z:HP}{C:YO}
section
set_option maxHeartbeats 400000
open Go.Proofs Go.RowKit Go.Shelf
attribute [local go_sem]Oper.semAt_some
abbrev sd1(n g:Nat)(lb:Array Value)(X:Nat->Prop)(a:L Int)(w:World):Prop:=SeqStopsK Fence.wide n Tryz.prog g lb (λb:Int=>#[.int .i64 b]) (Ug X) (λc=>c=a) (λ_=>True) a.length w
def Zks{args:Array Value}(h:YieldAt Fence.wide f r A args s o):YieldAt Fence.wide a r A args s o:=by obtain⟨i,k,c,d,j,b⟩:=h;exact⟨i,k,c,d,j,b.1,λe g _=>b.2 e g λl h=>by cases h⟩
def ZnZ(n:Nat)(Q:2<=n)(X:Nat->Prop)(h e b off cap bt:Nat)(c s:Int)(C:bt=1\/bt=2\/bt=4\/bt=8)(zs:L Nat)(G:zs.length<=1000)(A:¬X b)(w:World)(z:∀k,w.heap.size<=k->¬X k)(o:w.heap[h]?=some (.cells #[.int .i64 bt,.int .i64 c,.int .i64 s] 307))(l:w.heap[e]?=some (.cells #[.slice (some ⟨b,off,none⟩) zs.length cap] 28))(B:b<w.heap.size)(m:∀j(q:j<zs.length),w.cell? ⟨b,off+j,none⟩=some (.int .u8 (zs[j]:Nat))):sd1 n 269 #[.pointer (some ⟨h,0,none⟩),.pointer (some ⟨e,0,none⟩)] X (Tw bt zs) w:=λH r t a d y _ i x=>by
 obtain⟨M,N,O⟩:=GK ((d.block _ (U0 o).1).trans o);have P:a.cell? ⟨e,0,none⟩=some (.slice (some ⟨b,off,none⟩) zs.length cap):=by unfold World.cell?;rw[(d.block _ (U0 l).1).trans l];rfl
 have D:=Zdx (n-1) Y X H b off cap bt c s C zs G A r t a (λk F=>z k (WB d.size F)) y (λg I a u b=>Zks (i g I a u b)) (λj q=>(d.cell (p:=⟨b,off+j,none⟩) B).trans (m j q)) x;clear i m;refine jv Tryz.func269 rfl trivial ?_ rfl;simp only[Tryz.ntmps269,Ew,Wl,W6,Nat.reduceAdd,Nat.reduceSub,yl,ym,yA,yr,UG,Oj];gi_wp2_with(refine⟨trivial,λ_=>Y,?_⟩;gi_at_call 270;refine D.mono ?_;rintro K J⟨⟨v,rfl⟩,E⟩);go_end0;exact⟨⟨_,rfl⟩,E.imp (λf=>⟨_,rfl,f⟩) λ⟨g,f⟩=>⟨g,trivial,f⟩⟩
def ZxK(n:Nat)(O:2<=n)(X:Nat->Prop)(g b bt:Nat)(c s:Int)(E:bt=1\/bt=2\/bt=4\/bt=8)(zs:L Nat)(A:zs.length=32)(C:¬X b)(w:World)(B:∀k,w.heap.size<=k->¬X k)(r:w.heap[g]?=some (.cells #[.int .i64 bt,.int .i64 c,.int .i64 s] 307))(D:b<w.heap.size)(o:∀j(t:j<zs.length),w.cell? ⟨b,0+j,none⟩=some (.int .u8 (zs[j]:Nat))):sd1 n 326 #[.pointer (some ⟨g,0,none⟩),.pointer (some ⟨b,0,none⟩)] X (Tw bt zs) w:=λH h u a e l _ m y=>by
 obtain⟨K,M,N⟩:=GK ((e.block _ (U0 r).1).trans r);have z:h [] a.drew:=l _ _ _ none y ⟨rfl,rfl,rfl,YA _,λ_ _ _=>rfl⟩ λ_ i=>by cases i
 have q:=Zdx (n-1) Y X H b 0 32 bt c s E zs Y C h u a.drew (λk G=>B k (WB e.size G)) l (λf I a x b=>Zks (m f I a x b)) (λj t=>(e.cell (p:=⟨b,0+j,none⟩) D).trans (o j t)) z;rw[A]at q;clear m o;refine jv Tryz.func326 rfl trivial ?_ rfl;simp only[Tryz.ntmps326,Ew,Wl,W6,Nat.reduceAdd,Nat.reduceSub,yl,ym,yA,yr,UG,Oj];gi_wp2;gi_region_with(refine⟨trivial,λ_=>Y,?_⟩;gi_at_call 270;refine q.mono ?_;rintro i J⟨⟨v,rfl⟩,F⟩);go_end0;exact⟨⟨_,rfl⟩,F.imp (λd=>⟨_,rfl,d⟩) λ⟨f,d⟩=>⟨f,trivial,d⟩⟩
end
section
set_option maxHeartbeats 400000
open Go.Proofs Go.RowKit Go.Shelf
attribute [local go_sem]Oper.semAt_some
def Zm7{v:Value}(o:Obj)(h:s.cell? x=some v):((s.alloc o).drew).cell? x=some v:=show(s.alloc o).cell? x=some v from cell_kept h (Bg s o none) λb a=>by cases a
def Zo9{v:Value}(o:Obj)(h:s.cell? x=some v)(b:s.frozen? x=false):((s.alloc o).drew).frozen? x=false:=show(s.alloc o).frozen? x=false from(frozen_kept h (Bg s o none) λc a=>by cases a).trans b
def Ug.grown{C:World}{row:Zg Nat}(h:Ug p s B)(d:B.grownBy C row)(f:∀r,row=some r->p r):Ug p s C:=λb g c a e=>by have:=h b g c a e;exact(d.block b (U0 this).1 λa=>c (f b a.symm)).trans this
def Ug.put(V:World)(l:Nat)(o o':Obj)(_:f<=l)(e:V.heap[l]?=some o)(d:o.isCells=false)(_:o.isWalk=false):Ug p V (V.putObj l o'):=λg h _ a c=>by
 by_cases b:g=l;·subst b;rw[e]at a;cases a;rw[d]at c;cases c
 ·rw[Bh b];exact a
def box0{v:Value}(h:s.heap[f]?=some (.cells #[v] a)):s.cell? ⟨f,0,none⟩=some v/\s.frozen? ⟨f,0,none⟩=false:=by unfold World.cell? World.frozen?;rw[h];exact⟨rfl,rfl⟩
def ZxB{M x:Int}:sm M (d++[x])=IntKind.i64.wrap (sm M d+IntKind.i64.wrap (M-x)):=by unfold sm;rw[sf];rfl
def ZxL(n:Nat)(hn:3<=n)(bt:Nat)(c:Int)(s:Nat)(hs:s<64)(R:bt=1\/bt=2\/bt=4\/bt=8)(zs:L Nat)(P:zs.length=32)(w:World):CallsIn Fence.wide n Tryz.prog 268 #[.agg #[.int .i64 bt,.int .i64 c,.int .i64 s],.agg (zs.map λx:Nat=>Value.int .u8 (x:Int)).toArray] w λe w'=>∃B,e=.returned (.slice (some ⟨B,0,none⟩) 2 2)/\w.heap.size<=B/\Below w.heap.size w w'/\w'.heap[B]?=some (.cells #[.int .u8 (sv bt s zs/256%256),.int .u8 (sv bt s zs%256)] 5):=by
 refine callsIn_of_wp_marks Tryz.func268 rfl trivial ?_ rfl;simp only[Tryz.ntmps268,Ew,Wl,W6,Nat.reduceAdd,Nat.reduceSub,yl,ym,yA,yr,UG,Oj];gi_wp2;obtain⟨h,k⟩:∃h:Obj,h=.cells #[.int .i64 bt,.int .i64 c,.int .i64 s] 307:=⟨_,rfl⟩;obtain⟨i,H⟩:∃i:Obj,i=.cells (zs.map λx:Nat=>Value.int .u8 (x:Int)).toArray 34:=⟨_,rfl⟩;obtain⟨d,j⟩:∃d,((w.alloc h).alloc i).alloc (.cells #[.int .i64 0] 3)=d:=⟨_,rfl⟩;rw[<-k,<-H,j];have x2:d.heap.size=w.heap.size+3:=by rw[<-j];simp
 have G:d.heap[w.heap.size]?=some h:=by rw[<-j];exact(CU _ _ _ XV).trans ((CU _ _ _ Zc).trans (yG w _))
 have N:d.heap[w.heap.size+1]?=some i:=by rw[<-j];have:=yG (w.alloc h) i;rw[Zbv]at this;exact(CU _ _ _ Zc).trans this
 have O:d.heap[w.heap.size+2]?=some (.cells #[.int .i64 0] 3):=by rw[<-j];have:=yG ((w.alloc h).alloc i) (.cells #[.int .i64 0] 3);rw[Zbv,Zbv]at this;exact this
 have Q:Below w.heap.size w d:=by rw[<-j];exact(((Below.refl _ w).alloc (YA _) _).alloc Zc _).alloc XV _
 refine wpIn_rangeFunc_ownF rfl Y (gf:=326) (lb:=#[.pointer (some ⟨w.heap.size,0,none⟩),.pointer (some ⟨w.heap.size+1,0,none⟩)]) rfl trivial (enters_of Tryz.func326 ZV rfl) (ZxK (n-1) Y (λE=>E=w.heap.size+2) w.heap.size (w.heap.size+1) bt c s R zs P Y d (λE hk=>Y) (by rw[G,k]) Y λx3 S=>by unfold World.cell?;rw[N,H];simp[S]) Ug.trans Ug.put (Below.refl _ _) (λ_=>rfl) (λl a=>a.heap[w.heap.size+2]?=some (.cells #[.int .i64 (sm (2^bt-1) l)] 3)/\a.heap[w.heap.size]?=some h/\Below w.heap.size w a) (λ_ _ _=>False) (λs V B x5⟨f,b,g⟩C D=>⟨(C.block _ (U0 f).1 λe=>by have:=(D _ e.symm).1;omega).trans f,(C.block _ (U0 b).1 λe=>by have:=(D _ e.symm).1;omega).trans b,g.grown C g.size λE e=>by have:=(D _ e).1;omega⟩) (λ_ _ _ _ _ t _ _=>t) ⟨O,G,Q⟩ (λx=>{tmps:=#[.agg #[.int .i64 bt,.int .i64 c,.int .i64 s],.agg (zs.map λx:Nat=>Value.int .u8 (x:Int)).toArray,.pointer (some ⟨w.heap.size,0,none⟩),.pointer (some ⟨w.heap.size+1,0,none⟩),.slice none 0 0,.pointer (some ⟨w.heap.size+1+1,0,none⟩),.int .i64 x,.func (.func 326) #[] #[.pointer (some ⟨w.heap.size,0,none⟩),.pointer (some ⟨w.heap.size+1,0,none⟩)],.int .i64 x,undef,undef,undef,undef,undef,undef,undef,undef,undef,undef,undef,undef,undef,undef,undef,undef],defers:=[]}) ?assign ?body ?done ?stop;case assign=>intro I x a W o;gi_wp2;exact o
 case body=>
  rintro I l x a⟨f,b,g⟩_;rw[k]at b;obtain⟨J,K,M⟩:=GK b;have r:a.cell? ⟨w.heap.size+1+1,0,none⟩=some (.int .i64 (sm (2^bt-1) l)):=by unfold World.cell?;rw[f];rfl
  have F:a.frozen? ⟨w.heap.size+1+1,0,none⟩=false:=by unfold World.frozen?;rw[f];rfl
  have X:=Zm7 (Obj.cells #[Value.int IntKind.i64 bt,Value.int IntKind.i64 c,Value.int IntKind.i64 s] 307) r;have Z:=Zo9 (Obj.cells #[Value.int IntKind.i64 bt,Value.int IntKind.i64 c,Value.int IntKind.i64 s] 307) r F;have x1:Tryz.prog.follows .mixedOrders=true:=ZV;have hd:1<=n-1-1:=Y;gi_wp2;gi_region_with_o(refine⟨trivial,?_⟩;gi_at_call 182;refine(CallsIn.inRound I (ZfG Fence.wide _ trivial rfl bt c s Y _)).mono ?_;rintro e w'⟨rfl,rfl⟩);all_goals gi_wp2
  all_goals
   have u:=Bg a (Obj.cells #[Value.int IntKind.i64 bt,Value.int IntKind.i64 c,Value.int IntKind.i64 s] 307) none;have z:=kT (a.alloc (Obj.cells #[Value.int IntKind.i64 bt,Value.int IntKind.i64 c,Value.int IntKind.i64 s] 307)) (w.heap.size+1+1) (Value.int IntKind.i64 (IntKind.i64.wrap (sm (2^bt-1) l+IntKind.i64.wrap (2^bt-1-x))));refine⟨((KeepsOthers.alloc _ _).trans (KeepsOthers.setCell _ _ _)).trans (KeepsOthers.drew _),(((Ug.refl a).grown u λ_ e=>by cases e).grown z λx4 e=>by cases e;rfl).drew,?_,?_,?_⟩;·rw[ZxB];exact Boxed.set _ (Boxed.alloc (show Boxed a (w.heap.size+2) 3 _ from f) _)
   ·rw[k];exact(z.block _ (C7 (U0 b).1 u.size) λe=>by have:=X9 e;omega).trans ((u.block _ (U0 b).1 λe=>by cases e).trans b)
   ·exact((g.alloc g.size _).setCell (p:=⟨w.heap.size+1+1,0,none⟩) (by show w.heap.size<=w.heap.size+1+1;omega) _).drew
 case done=>
  rintro q ys a hD rfl⟨f,b,g⟩o;rw[k]at b;obtain⟨J,K,M⟩:=GK b;obtain⟨r,F⟩:=box0 f;have x0:=(U0 o).1;gi_wp2;obtain⟨m,A⟩:∃m,a.setCell ⟨w.heap.size+1+1,0,none⟩ (Value.int IntKind.i64 (wrap64 (sm (2^bt-1) (Tw bt zs)*2^s)))=m:=⟨_,rfl⟩;rw[A];have z:=kT a (w.heap.size+1+1) (Value.int IntKind.i64 (wrap64 (sm (2^bt-1) (Tw bt zs)*2^s)));have v:=g.setCell (p:=⟨w.heap.size+1+1,0,none⟩) (by show w.heap.size<=w.heap.size+1+1;omega) (Value.int IntKind.i64 (wrap64 (sm (2^bt-1) (Tw bt zs)*2^s)));have y:=(KeepsOthers.setCell a ⟨w.heap.size+1+1,0,none⟩ (Value.int IntKind.i64 (wrap64 (sm (2^bt-1) (Tw bt zs)*2^s)))).same q _ o rfl;have U:m.heap.size=a.heap.size:=by rw[<-A];simp
  rw[A]at v y;have T:=yG m (Obj.cells #[Value.int IntKind.u8 (wrap64 (sm (2^bt-1) (Tw bt zs)*2^s)/256%256),Value.int IntKind.u8 (wrap64 (sm (2^bt-1) (Tw bt zs)*2^s)%256)] 5);refine⟨Zc,.inl ⟨_,_,rfl,run_takeDeferred ((CU _ _ _ Y).trans y),?_⟩⟩;refine⟨_,results_tmp rfl _ _ _,a.heap.size,rfl,g.size,(v.alloc v.size _).trans (belowK_b (w:=w) (YA _) _ q _ _ Y ((CU _ _ _ Y).trans y) rfl rfl),?_⟩;rw[Bh Y,<-U];exact T
 case stop=>rintro q c l a _ _ t _;exact t.elim
end
section
set_option maxHeartbeats 4000000
open Go.Proofs Go.RowKit Go.Shelf
attribute [local go_sem]Oper.semAt_some
abbrev wI(a:L Int):L Value:=a.map λb=>.int .i64 b
def ZxG{ops:Array Oper}{o:Oper}{a:Act}{K:Act->World->Prop}{Q:Exit->Act->World->Prop}{E:Prop}{R:Ending->World->Prop}(i:o.guard=none)(f:FuncId)(x y:Operand)(n:Array TypeId)(j:o.op=Op.call {callee:=.value (.func f),args:=#[x,y],argTypes:=n})(h:∀args s,(callFunc f args).run r s=.ok (.enter f args) s)(d:Calls r f #[a.eval x,a.eval y] s R)(c:∀e w',R e w'->∃v,e=.returned v/\K (a.put o.dst v) w'):if Region.wanted o (yielded ops a.tmps)=true then Oper.wp r o a s K Q else E:=by
 have m:Region.wanted o (yielded ops a.tmps)=true:=by simp[Region.wanted,i]
 rw[Y4 m];unfold Oper.wp;have g:a.eval (Operand.func f)=.func (.func f) #[] #[]:=rfl;have k:(execOp a.eval o).run r s=.ok (.enter f #[a.eval x,a.eval y]) s:=by simp[execOp,j,resolve,invoke,Result.andThen,Deferred.ofValue,g,h]
 rw[k];exact Calls.mono d λe w' b=>by obtain⟨v,rfl,l⟩:=c e w' b;exact l
def DB(U:World)(o:Obj)(k:Nat)(e:U.heap.size=k):(U.alloc o).heap[k]?=some o:=e▸yG U o
def Sk{o':Obj}(h:s.heap[f]?=some k):(s.alloc o').heap[f]?=some k:=(CU _ _ _ (U0 h).1).trans h
structure DG(w:World)(O:Obj)(L:List Value)(ch Ba b cap:Nat)(V:World):Prop where
 al:V.heap[Ba]?=some (.cells #[.slice (some ⟨b,0,none⟩) 34 cap] 28)ar:∃U8,V.heap[b]?=some (.cells U8 5)/\U8.toList.take 34=L
 fo:V.heap[w.heap.size]?=some O
 ot:V.heap[w.heap.size+2]?=some (.cells (madeCells #[.int .i64 0] ch) 3)bx:V.heap[w.heap.size+3]?=some (.cells #[.slice (some ⟨w.heap.size+2,0,none⟩) 0 ch] 29)be:Below w.heap.size w V
 gb:w.heap.size+4<=b
def DG.mk2{cap:Nat}(h:B.heap[a]?=some (.cells #[.slice none 0 0] 28))(w:s.heap.size+4<=a)(n:∃b,B.heap[A]?=some (.cells b 5)/\b.toList.take 34=c)(q:B.heap[s.heap.size]?=some k)(v:B.heap[s.heap.size+2]?=some (.cells (madeCells #[.int .i64 0] f) 3))(bx:B.heap[s.heap.size+3]?=some (.cells #[.slice (some ⟨s.heap.size+2,0,none⟩) 0 f] 29))(o:Below s.heap.size s B)(r:s.heap.size+4<=A):DG s k c f a A cap (B.setCell ⟨a,0,none⟩ (.slice (some ⟨A,0,none⟩) 34 cap)):=by have t:=kT B a (.slice (some ⟨A,0,none⟩) 34 cap);have d:∀{e i},B.heap[e]?=some i->e≠a->(B.setCell ⟨a,0,none⟩ (.slice (some ⟨A,0,none⟩) 34 cap)).heap[e]?=some i:=λ{e i}l u=>(t.block _ (U0 l).1 λg=>u (X9 g)).trans l;obtain⟨b,j,m⟩:=n;refine⟨Boxed.set _ (show Boxed B a 28 _ from h),⟨b,d j λg=>?_,m⟩,d q Y,d v Y,d bx Y,o.setCell (p:=⟨a,0,none⟩) (by show s.heap.size<=a;omega) _,r⟩;subst g;rw[j]at h;cases h
def ZwK{n cap:Nat}(h:s.ownsRow f a 1 (.slice (some ⟨A,0,none⟩) n cap) n c)(k:0<n):f<=A/\∃b,s.heap[A]?=some (.cells b a)/\b.toList.take n=c:=by
 obtain⟨a,-⟩|⟨j,i,b,a,d,e,-,-,-,g⟩:=h.2;·cases a
 ·cases a;exact⟨d,b,e,by simpa using g⟩
def LC(a:Addr)(i n:Nat)(b:Array Value):Sem (Array Value):=loadCellsFrom a i n b
def ZAY(a:Addr)(i n:Nat)(b:Array Value):loadCellsFrom a i n b=LC a i n b:=rfl
def pV{P:Program}{V:World}{k m:Nat}{l:L Value}(e:l.length=m)(h:V.heap[k]?=some (.cells l.toArray f)):(LC ⟨k,0,none⟩ 0 m #[]).run P V=.ok l.toArray V:=by
 have:=yI (P:=P) V ⟨k,0,none⟩ l λa v c=>by
  have b:(⟨k,0,none⟩:Addr).add a=⟨k,a,none⟩:=by unfold Addr.add;split<;>simp_all
  rw[b,cell_of_row _ _ a _ _ _ h];simpa using c
 rw[<-e];simpa[loadCells,LC]using this
attribute [local go_sem↓]ZAY
def Zn0(n:Nat)(hn:4<=n)(bt a s:Nat)(hs:s<64)(b1:a<=300)(xh:bt=1\/bt=2\/bt=4\/bt=8)(zs:L Nat)(x4:zs.length=32)(w:World):CallsIn Fence.wide n Tryz.prog 179 #[.agg #[.int .i64 bt,.int .i64 a,.int .i64 s],.agg (zs.map λx:Nat=>Value.int .u8 (x:Int)).toArray] w λe w'=>∃g,e=.returned (.slice (some ⟨g,0,none⟩) (GR bt a s zs).length a)/\w'.ownsRow w.heap.size 3 1 (.slice (some ⟨g,0,none⟩) (GR bt a s zs).length a) (GR bt a s zs).length (wI (GR bt a s zs))/\Below w.heap.size w w':=by
 obtain⟨i0,hi,xv,x8,xx⟩:=info_parts (show(Tryz.prog.info? 3).map (λB=>(B.zero,B.size,B.bytes))=some (some (.int .i64 0),1,8)by kernel_rfl);obtain⟨c,z⟩:∃c:L Value,(zs.map λx:Nat=>Value.int .u8 (x:Int))=c:=⟨_,rfl⟩;have z4:∀V,Calls Tryz.prog 268 #[.agg #[.int .i64 bt,.int .i64 a,.int .i64 s],.agg c.toArray] V λe w'=>∃D,e=.returned (.slice (some ⟨D,0,none⟩) 2 2)/\V.heap.size<=D/\Below V.heap.size V w'/\w'.heap[D]?=some (.cells #[.int .u8 (sv bt s zs/256%256),.int .u8 (sv bt s zs%256)] 5):=λV=>z▸callsIn_wide.1 (ZxL 3 Y bt a s hs xh zs x4 V);have x1:c.length=32:=by rw[<-z,LP,x4]
 have ad:∀v∈c,v.oneCell'=true:=λv hv=>by rw[<-z]at hv;obtain⟨x,-,rfl⟩:=VR hv;rfl
 rw[z];have al:c.toArray.size=32:=by simpa using x1
 refine callsIn_of_wp_marks Tryz.func179 rfl trivial ?_ rfl;simp only[Tryz.ntmps179,Ew,Wl,W6,Nat.reduceAdd,Nat.reduceSub,yl,ym,yA,yr,UG,Oj,Wb,NR];have z1:∀V:World,(Instr.makeSlice 29 (.int .i64 0) (.int .i64 (a:Int))).run Tryz.prog V=.ok (.slice (some ⟨V.heap.size,0,none⟩) 0 a) (V.alloc (.cells (madeCells (Value.int .i64 0).cells a) 3)):=λV=>by have:=Go.run_make (P:=Tryz.prog) V 29 3 i0 (.int .i64 0) ZV hi xv .i64 .i64 0 a (HY _) Y (by rw[xx];omega) Y;rw[x8]at this;simp only[Int.toNat_zero,WL,Ga]at this;exact this
 have z:∃_:True,_:=⟨trivial,z⟩;gi_wp2;obtain⟨j0,hj,z7,zc,zv⟩:=info_parts (show(Tryz.prog.info? 5).map (λB=>(B.zero,B.size,B.bytes))=some (some (.int .u8 0),1,1)by kernel_rfl);obtain⟨r,G⟩:∃r:Obj,r=.cells #[.int .i64 bt,.int .i64 a,.int .i64 s] 307:=⟨_,rfl⟩;obtain⟨f,y⟩:∃f,(((w.alloc r).alloc (.cells c.toArray 34)).alloc (.cells (madeCells #[.int .i64 0] a) 3)).alloc (.cells #[.slice (some ⟨w.heap.size+2,0,none⟩) 0 a] 29)=f:=⟨_,rfl⟩;rw[<-G,y];have z5:f.heap.size=w.heap.size+4:=by rw[<-y];simp
 have W:f.heap[w.heap.size]?=some r:=by rw[<-y];exact Sk (Sk (Sk (DB _ _ _ Zc)))
 have X:f.heap[w.heap.size+1]?=some (.cells c.toArray 34):=by rw[<-y];exact Sk (Sk (DB _ _ _ Zc))
 have g2:f.heap[w.heap.size+2]?=some (.cells (madeCells #[.int .i64 0] a) 3):=by rw[<-y];exact Sk (DB _ _ _ Zc)
 have g3:f.heap[w.heap.size+3]?=some (.cells #[.slice (some ⟨w.heap.size+2,0,none⟩) 0 a] 29):=by rw[<-y];exact DB _ _ _ Zc
 have hB:Below w.heap.size w f:=by rw[<-y];exact((((Below.refl _ w).alloc (YA _) _).alloc Zc _).alloc XV _).alloc XV _
 have b3:=pV (P:=Tryz.prog) (V:=f.drew) x1 X;have b5:=pV (P:=Tryz.prog) (V:=(f.alloc (.cells #[.slice none 0 0] 28)).drew) x1 (Sk X);have b6:=pV (P:=Tryz.prog) (V:=f.drew) (k:=w.heap.size) (m:=3) (l:=[.int .i64 bt,.int .i64 a,.int .i64 s]) rfl (G▸W);have b7:=pV (P:=Tryz.prog) (V:=(f.alloc (.cells #[.slice none 0 0] 28)).drew) (k:=w.heap.size) (m:=3) (l:=[.int .i64 bt,.int .i64 a,.int .i64 s]) rfl (G▸Sk W);clear y;refine MM (Q:=Exit.then (λa' V=>∃(I E x2:Nat)(y0 y3 y4 y5 y6:Value),a'={tmps:=#[.agg #[.int .i64 bt,.int .i64 a,.int .i64 s],.agg c.toArray,.pointer (some ⟨w.heap.size,0,none⟩),.pointer (some ⟨w.heap.size+1,0,none⟩),.slice none 0 0,.pointer (some ⟨w.heap.size+1+1+1,0,none⟩),.pointer (some ⟨I,0,none⟩),undef,.pointer (some ⟨w.heap.size,1,none⟩),.int .i64 a,.slice (some ⟨w.heap.size+1+1,0,none⟩) 0 a,y0,y3,y4,y5,y6,undef,undef,undef,undef,undef,undef,undef,undef,undef,undef,undef,undef],defers:=[]}/\DG w r (c++[.int .u8 (sv bt s zs/256%256),.int .u8 (sv bt s zs%256)]) a I E x2 V) λ_ _ _=>False) (wpIn_wide.2 ?_) ?_
 ·clear hi xv x8 xx z1 G;go_region_law(first
   |(refine ZxG rfl 268 (.tmp 12) (.tmp 13) _ rfl (enters_of Tryz.func268 ZV rfl) (z4 _) ?_;rintro e V⟨D,rfl,p1,C,p3⟩;have c1:V.heap[w.heap.size+1]?=some (.cells c.toArray 34):=(C.block _ (by simp<;>omega)).trans (by first|exact X|exact Sk X);have R:V.heap[w.heap.size]?=some r:=(C.block _ (by simp<;>omega)).trans (by first|exact W|exact Sk W);have S:V.heap[w.heap.size+2]?=some (.cells (madeCells #[.int .i64 0] a) 3):=(C.block _ (by simp<;>omega)).trans (by first|exact g2|exact Sk g2);have T:V.heap[w.heap.size+3]?=some (.cells #[.slice (some ⟨w.heap.size+2,0,none⟩) 0 a] 29):=(C.block _ (by simp<;>omega)).trans (by first|exact g3|exact Sk g3);have F:Below w.heap.size w V:=(by first|exact hB.drew|exact hB.drew.alloc hB.size _:Below w.heap.size w _).trans (C.mono XV);have J:w.heap.size+4<=V.heap.size:=WB XV C.size;try(have c2:V.heap[w.heap.size+4]?=some (.cells #[.slice none 0 0] 28):=(C.block _ XV).trans (DB _ _ _ z5))
     refine⟨_,rfl,?_⟩)
   |(refine step_append_grows rfl (.tmp 11) (.tmp 14) 28 rfl 5 j0 (.int .u8 0) 1 1 ZV hj z7 zc zv rfl YI (some ⟨w.heap.size+1,0,none⟩) 32 32 c (by simp[Act.eval,Act.put]) (λe=>by cases e) (by rw[x1]) λE e A a6 M=>by cases e;rw[RH];unfold World.cell?;first|(rw[c1];simpa using M)|(rw[Sk c1];simpa using M) ⟨D,0,none⟩ 2 2 [.int .u8 (sv bt s zs/256%256),.int .u8 (sv bt s zs%256)] (by simp[Act.eval,Act.put]) rfl λA a6 M=>by rw[RH];unfold World.cell?;first|(rw[p3];simpa using M)|(rw[Sk p3];simpa using M) (by simp[Value.oneCell']) Y YI Y ?_;intro v' H q2 j;obtain⟨g,x3,rfl⟩:=ownsRow_succ q2;obtain⟨r1,r2⟩:=ZwK q2 YI;have e1:H.heap[w.heap.size]?=some r:=by first|exact(j.block _ (U0 R).1 λe=>by cases e).trans R|exact(j.block _ (U0 (Sk R)).1 λe=>by cases e).trans (Sk R)
     have e2:H.heap[w.heap.size+2]?=some (.cells (madeCells #[.int .i64 0] a) 3):=by first|exact(j.block _ (U0 S).1 λe=>by cases e).trans S|exact(j.block _ (U0 (Sk S)).1 λe=>by cases e).trans (Sk S)
     have e3:H.heap[w.heap.size+3]?=some (.cells #[.slice (some ⟨w.heap.size+2,0,none⟩) 0 a] 29):=by first|exact(j.block _ (U0 T).1 λe=>by cases e).trans T|exact(j.block _ (U0 (Sk T)).1 λe=>by cases e).trans (Sk T)
     have U:Below w.heap.size w H:=by first|exact F.grown j F.size λ_ e=>by cases e|exact(F.alloc F.size _).grown j (F.alloc F.size _).size λ_ e=>by cases e
     have e5:w.heap.size+4<=g:=WB (by first|exact J|exact WB J Zc) r1;have e6:w.heap.size+4<=H.heap.size:=WB (by first|exact J|exact WB J Zc) j.size;try(have c7:=(j.block _ (by first|exact(U0 c2).1|exact(U0 (Sk c2)).1) λe=>by cases e).trans c2;obtain⟨c3,c4⟩:=box0 c7)
     try(have c8:=(j.block V.heap.size Zc λe=>by cases e).trans (DB V (.cells #[.slice none 0 0] 28) _ rfl);obtain⟨c5,c6⟩:=box0 c8)));all_goals first|exact⟨_,g,x3,_,_,_,_,_,rfl,DG.mk2 c7 Y r2 e1 e2 e3 U e5⟩|exact⟨_,g,x3,_,_,_,_,_,rfl,DG.mk2 c8 J r2 e1 e2 e3 U e5⟩|exact⟨_,g,x3,_,_,_,_,_,rfl,⟨DB H _ _ rfl,by obtain⟨O,N,y2⟩:=r2;exact⟨O,Sk N,y2⟩,Sk e1,Sk e2,Sk e3,U.alloc U.size _,e5⟩⟩
 ·rintro e a' V u;cases e with|normal=>
   obtain⟨I,E,x2,y0,y3,y4,y5,y6,rfl,i⟩:=u;obtain⟨p,x9⟩:∃p:L Nat,p=zs++[(sv bt s zs/256%256).toNat,(sv bt s zs%256).toNat]:=⟨_,rfl⟩;have a0:p.length=34:=by rw[x9,YM,x4];rfl
   have hL:c++[.int .u8 (sv bt s zs/256%256),.int .u8 (sv bt s zs%256)]=p.map λx:Nat=>Value.int .u8 (x:Int):=by rw[x9,WW,z.elim λ_ u=>u];simp only[Wb,NR];rw[Zbc Y,Zbc Y]
   rw[hL]at i;clear hL z;have yt:∀A(hj:A<p.length),V.cell? ⟨E,0+A,none⟩=some (.int .u8 (p[A]:Nat)):=λA hj=>by
    obtain⟨O,N,y2⟩:=i.ar;unfold World.cell?;rw[N];have:(O.toList.take 34)[A]?=some (.int .u8 (p[A]:Nat)):=by rw[y2];simp[hj]
    rw[NQ]at this;split at this;·simpa using this
    ·cases this
   gi_wp2;have x5:GR bt a s zs=(Tw bt p).take a:=by rw[x9];rfl
   have ar:=i.gb;have ai:=(U0 i.bx).1;have yf:E<V.heap.size:=by obtain⟨O,N,-⟩:=i.ar;exact(U0 N).1
   refine wpIn_rangeFunc_ownF rfl Y (gf:=269) (lb:=#[.pointer (some ⟨w.heap.size,0,none⟩),.pointer (some ⟨I,0,none⟩)]) rfl trivial (enters_of Tryz.func269 ZV rfl) (ZnZ (n-1) Y (λk=>k=w.heap.size+2\/k=w.heap.size+3) w.heap.size I E 0 x2 bt a s xh p Y Y V (λk hk=>Y) (by rw[i.fo,G]) (by rw[a0];exact i.al) yf yt) Ug.trans Ug.put (Below.refl _ _) (λ_=>rfl) (λb d=>d.heap[w.heap.size+3]?=some (.cells #[.slice (some ⟨w.heap.size+2,0,none⟩) (b.take a).length a] 29)/\d.ownsRow w.heap.size 3 1 (.slice (some ⟨w.heap.size+2,0,none⟩) (b.take a).length a) (b.take a).length (wI (b.take a))/\d.heap[w.heap.size]?=some r/\Below w.heap.size w d) (λ_ _ _=>False) (λb a7 D b8⟨h,o,q,t⟩Z hr=>⟨(Z.block _ (U0 h).1 λe=>by have:=(hr _ e.symm).1;omega).trans h,o.kept Z (.inr λe=>by have:=(hr (w.heap.size+2) (by simpa[Value.ownBlock]using e.symm)).1;omega),(Z.block _ (U0 q).1 λe=>by have:=(hr _ e.symm).1;omega).trans q,t.grown Z t.size λk e=>by have:=(hr _ e).1;omega⟩) (λ_ _ _ _ _ u _ _=>u) ⟨by simpa using i.bx,⟨Zc,.inr ⟨w.heap.size+2,a,_,rfl,Y,i.ot,Zc,by simp[maxLen];omega,by rw[size_madeCells];simp,Zc⟩⟩,i.fo,i.be⟩ ?a1 ?assign ?body ?done ?stop;case assign=>intro l x d a8 K;gi_wp2;exact K
   case body=>
    rintro l b x d⟨h,o,q,t⟩_;have xb:=q;rw[G]at xb;obtain⟨f0,f1,f2⟩:=GK xb;have y7:=t.size;by_cases z0:b.length<a;·rw[UT (jl z0)]at h o;have hv:Boxed d (w.heap.size+3) 29 _:=h;obtain⟨b0,b4⟩:=box0 h;gi_wp2_with(gi_at_builtin;refine wpListIn_append_fits _ rfl _ _ 29 rfl w.heap.size 3 i0 1 ZV hi x8 (w.heap.size+2) b.length a (wI b) rfl (o.alloc _) ⟨d.heap.size,0,none⟩ 1 1 [.int .i64 x] rfl rfl (cell_one_new _ _ _) (by simp[Value.oneCell']) Y ?_;intro w1 z2 x0;obtain⟨xs,z6,z3,yy,y8⟩:=hv.appended YI o y7 Y z2 x0;have av:=xs.cell;have b2:=xs.frozen);have x6:(b++[x]).take a=b++[x]:=UT XV;have hA:=Bg d (Obj.cells #[Value.int IntKind.i64 x] 3) none;have hS:=kT w1 (w.heap.size+3) (Value.slice (some {block:=w.heap.size+2,off:=0}) (b.length+1) a);refine⟨yy,(((Ug.refl d).grown hA λ_ e=>by cases e).grown x0 λa5 e=>by cases e;exact .inl rfl).grown hS λa5 e=>by cases e;exact .inr rfl,?_⟩;dsimp only;rw[x6,YM,VJ];refine⟨z6,by simpa[wI]using z3,?_,t.trans y8⟩;have q1:=C7 (U0 q).1 hA.size;exact(hS.block _ (C7 q1 x0.size) λe=>by have:=X9 e;omega).trans ((x0.block _ q1 λe=>by have:=X9 e;omega).trans ((hA.block _ (U0 q).1 λe=>by cases e).trans q))
    ·obtain⟨ps,x7⟩:∃ps,b.take a=ps:=⟨_,rfl⟩;have xi:ps.length=a:=by rw[<-x7,UF];omega
     have x6:(b++[x]).take a=ps:=by rw[KQ Y,x7]
     rw[x7,xi]at h o;obtain⟨b0,b4⟩:=box0 h;gi_wp2;exact⟨KeepsOthers.refl _,Ug.refl _,by dsimp only;rw[x6,xi];exact⟨h,o,q,t⟩⟩
   case done=>rintro xa ys d ag rfl⟨h,o,q,t⟩K;obtain⟨ds,yv⟩:∃ds,(Tw bt p).take a=ds:=⟨_,rfl⟩;rw[yv]at h o x5;obtain⟨b0,b4⟩:=box0 h;gi_wp2;refine⟨Zc,.inl ⟨_,_,rfl,run_takeDeferred K,?_⟩⟩;exact⟨_,results_tmp rfl _ _ _,w.heap.size+2,by rw[x5];rfl,by rw[x5];exact ownsRow_putObj o _ K rfl,t.trans (belowK_b (w:=w) (YA _) _ xa _ _ Y K rfl rfl)⟩
   case stop=>rintro xa ab b d _ _ u _;exact u.elim|_=>exact u.elim
end
section
open Go.Proofs
abbrev QW:Ty:=.un .u8 8
abbrev Xx:Ty:=.vec 32 QW
abbrev Xr:Ty:=.hole 0
abbrev Xy:Ty:=.sl QW
abbrev UE:Ty:=.un .u32 32
abbrev QX:Ty:=.un .u64 64
abbrev O4:Ty:=.vec 16 QW
abbrev MF:Ty:=.full QW
abbrev HV:Ty:=.full .int
abbrev yj:Ty:=.vec 8 UE
abbrev yi:Ty:=.hole 500
abbrev kL:Ty:=.vec 64 UE
abbrev t0:Ty:=.own kL
abbrev t1:Ty:=.own yj
abbrev t2:Ty:=.own Xx
abbrev t3:Ty:=.full Xy
abbrev t4:Ty:=.full Xx
abbrev t5:Ty:=.pair (.YU QW) .bool
abbrev t6:Ty:=.own t5
abbrev t7:Ty:=.pair Xx t4
abbrev t8:Ty:=.pair O4 t7
abbrev t9:Ty:=.pair .int t8
abbrev t10:Ty:=.pair .int t9
abbrev t11:Ty:=.own t10
abbrev t12:Ty:=.pair Xy .bool
abbrev J4:Ty:=.own t12
abbrev t14:Ty:=.full (.vec 128 QW)
abbrev aQ:Ty:=.pair .int (.vec 128 QW)
abbrev t16:Ty:=.YU aQ
abbrev aS:Ty:=.pair .int .bool
abbrev t18:Ty:=.pair t16 aS
abbrev t19:Ty:=.pair t14 t18
abbrev t20:Ty:=.pair t14 t19
abbrev Eb:Ty:=.own t20
abbrev t22:Ty:=.sl aQ
abbrev t23:Ty:=.pair .int Xy
abbrev t24:Ty:=.pair .int t23
abbrev th:Ty:=.pair UE t24
abbrev t26:Ty:=.own th
abbrev HC:Ty:=.YT 0 Eb
abbrev t28:Ty:=.pair UE aS
abbrev t29:Ty:=.pair .int t28
abbrev t30:Ty:=.pair .int t29
abbrev t31:Ty:=.pair HC t30
abbrev Ct:Ty:=.own t31
abbrev lQ:Ty:=.pair Xy Xy
abbrev t34:Ty:=.pair .int lQ
abbrev Ed:Ty:=.pair .int t34
abbrev t36:Ty:=.pair Xx Xy
abbrev t37:Ty:=.pair Xx t36
abbrev t38:Ty:=.pair .int t37
abbrev J8:Ty:=.pair .int t38
abbrev Cu:Ty:=.pair Xy J8
abbrev Of:Ty:=.sl Cu
abbrev RD:Ty:=.sl J8
abbrev t43:Ty:=.YU RD
abbrev t44:Ty:=.pair Of t43
abbrev t45:Ty:=.own t44
abbrev t46:Ty:=.map .str .int
abbrev RE:Ty:=.pair .int Xx
abbrev Cv:Ty:=.pair .int RE
abbrev t49:Ty:=.pair RE Cv
abbrev t50:Ty:=.pair Xx t49
abbrev t51:Ty:=.pair Xx t50
abbrev HE:Ty:=.pair .bool t51
abbrev t53:Ty:=.own HE
abbrev t54:Ty:=.YU HE
abbrev t55:Ty:=.only t54
abbrev HF:Ty:=.own t55
abbrev t57:Ty:=.pair Xx Of
abbrev t58:Ty:=.pair .int t57
abbrev t59:Ty:=.pair Xx t58
abbrev t60:Ty:=.pair .int t59
abbrev t61:Ty:=.YU t60
abbrev t62:Ty:=.pair Xy RD
abbrev t63:Ty:=.full t62
abbrev t64:Ty:=.pair t63 t46
abbrev t65:Ty:=.pair t61 t64
abbrev t66:Ty:=.pair HF t65
abbrev t67:Ty:=.pair Xx t66
abbrev MC:Ty:=.own t67
abbrev tm:Ty:=.full Cu
abbrev t70:Ty:=.pair UE UE
abbrev zN:Ty:=.pair .bool t70
abbrev t72:Ty:=.opt t31
abbrev t73:Ty:=.pair t72 .bool
abbrev t74:Ty:=.pair zN t73
abbrev t75:Ty:=.pair HC t74
abbrev tp:Ty:=.own t75
abbrev RF:Ty:=.sl Xx
abbrev t78:Ty:=.pair Xx RF
abbrev t79:Ty:=.pair O4 t78
abbrev t80:Ty:=.pair .int t79
abbrev t81:Ty:=.pair .int t80
abbrev Ee:Ty:=.ptr t81
abbrev t83:Ty:=.pair Ee .int
abbrev t84:Ty:=.pair Ee t83
abbrev t85:Ty:=.pair Xx t84
abbrev t86:Ty:=.pair .int t85
abbrev t87:Ty:=.pair .int t86
abbrev t88:Ty:=.own t87
abbrev t89:Ty:=.pair .int .int
abbrev t90:Ty:=.map .int t89
abbrev t91:Ty:=.YU Ed
abbrev t92:Ty:=.pair t91 .int
abbrev t93:Ty:=.pair t90 t92
abbrev t94:Ty:=.pair (.YU .int) t93
abbrev t95:Ty:=.pair MC t94
abbrev t96:Ty:=.pair t88 t95
abbrev t97:Ty:=.pair tp t96
abbrev Cw:Ty:=.own t97
abbrev Kz:Ty:=.YS 5 Cw
abbrev Zji:Ty:=.pair Xx Xx
abbrev ZxO:Ty:=.pair .int Zji
abbrev LA:Ty:=.pair .int ZxO
abbrev MA:Ty:=.pair LA Xy
abbrev ZxP:Ty:=.YU Xx
abbrev ZxQ:Ty:=.YU Cu
abbrev ZxR:Ty:=.pair ZxP ZxQ
abbrev ZxS:Ty:=.pair MA ZxR
abbrev Zjj:Ty:=.pair .bool ZxS
abbrev td:Ty:=.own Zjj
abbrev ZxT:Ty:=.pair RF Of
abbrev ZxU:Ty:=.pair MA ZxT
abbrev aO:Ty:=.pair .bool ZxU
abbrev Zjl:Ty:=.own aO
abbrev ZxV:Ty:=.pair Xy t4
abbrev ZxW:Ty:=.pair .int ZxV
abbrev zJ:Ty:=.full Cv
abbrev R8:Ty:=.YS 0 Eb
abbrev J3:Ty:=.pair RF RF
abbrev te:Ty:=.pair RE Xx
abbrev aP:Ty:=.sl te
abbrev ZxX:Ty:=.pair RE Zji
abbrev ZxY:Ty:=.pair Xx ZxX
abbrev Zjn:Ty:=.pair Xx ZxY
abbrev Zjo:Ty:=.pair .int Zjn
abbrev LB:Ty:=.pair aP Zjo
abbrev F9:Ty:=.pair .bool Zjn
abbrev Ea:Ty:=.sl F9
abbrev ZxZ:Ty:=.pair Of RF
abbrev Zx0:Ty:=.pair Ea ZxZ
abbrev Zx1:Ty:=.pair RD Zx0
abbrev Zx2:Ty:=.pair LB Zx1
abbrev Zx3:Ty:=.pair Xx Zx2
abbrev Zx4:Ty:=.pair J3 Zx3
abbrev Zx5:Ty:=.pair J3 Zx4
abbrev Zx6:Ty:=.pair MA Zx5
abbrev Zx7:Ty:=.pair Xy Zx6
abbrev Zx8:Ty:=.pair Xy Zx7
abbrev Zx9:Ty:=.pair .int Zx8
abbrev Zya:Ty:=.pair .int Zx9
abbrev Zyb:Ty:=.pair .int Zya
abbrev Zyc:Ty:=.pair .int Zyb
abbrev Zyd:Ty:=.pair .int Zyc
abbrev Zye:Ty:=.pair .int Zyd
abbrev TY:Ty:=.pair .int Zye
abbrev Zyf:Ty:=.YU TY
abbrev Zyg:Ty:=.pair .int aS
abbrev Zyh:Ty:=.pair .int Zyg
abbrev Zyi:Ty:=.pair Zyf Zyh
abbrev Zyj:Ty:=.pair MA Zyi
abbrev Zyk:Ty:=.pair MC Zyj
abbrev Zyl:Ty:=.pair .int Zyk
abbrev Zym:Ty:=.pair .int Zyl
abbrev Zjq:Ty:=.pair Xy Zym
abbrev Zjr:Ty:=.pair tp Zjq
abbrev Cq:Ty:=.own Zjr
abbrev J5:Ty:=.YS 1 Cq
abbrev aR:Ty:=.pair .int Cv
abbrev Zyn:Ty:=.pair .int aR
abbrev Zyo:Ty:=.pair .int Zyn
abbrev Zyq:Ty:=.pair .int Zyo
abbrev Zyr:Ty:=.pair .int Zyq
abbrev zK:Ty:=.pair .int Zyr
abbrev Zys:Ty:=.YU HC
abbrev lL:Ty:=.YT 5 Cw
abbrev lM:Ty:=.YT 1 Cq
abbrev Zyt:Ty:=.full lM
abbrev Zyu:Ty:=.pair .bool TY
abbrev Zyv:Ty:=.pair .int Zyu
abbrev Zyw:Ty:=.pair .int Zyv
abbrev Zyx:Ty:=.pair LA Zyw
abbrev Zyy:Ty:=.pair .int Zyx
abbrev Zyz:Ty:=.pair Xy Zyy
abbrev Zjs:Ty:=.pair .int Zyz
abbrev tf:Ty:=.own Zjs
abbrev aT:Ty:=.YT 3 tf
abbrev Zjt:Ty:=.pair .int RD
abbrev Zju:Ty:=.pair Xy Zjt
abbrev aU:Ty:=.own Zju
abbrev lN:Ty:=.YT 4 aU
abbrev Zjv:Ty:=.map .str lN
abbrev ZyB:Ty:=.pair .int Zjv
abbrev ZyC:Ty:=.pair .int ZyB
abbrev ZyD:Ty:=.pair .int ZyC
abbrev ZyE:Ty:=.pair TY ZyD
abbrev Zjw:Ty:=.pair aT ZyE
abbrev zL:Ty:=.own Zjw
abbrev aV:Ty:=.YT 2 zL
abbrev ZyF:Ty:=.YU aV
abbrev ZyG:Ty:=.YT 6 MF
abbrev Zjx:Ty:=.pair .int ZyG
abbrev ZyI:Ty:=.full Zjx
abbrev aW:Ty:=.pair ZyI .int
abbrev ZyJ:Ty:=.pair LA RD
abbrev ZyK:Ty:=.pair .int ZyJ
abbrev Cr:Ty:=.pair Xy ZyK
abbrev ZyL:Ty:=.pair TY Cr
abbrev ZyM:Ty:=.pair TY ZyL
abbrev ZyN:Ty:=.pair .int ZyM
abbrev ZyO:Ty:=.pair .int ZyN
abbrev Zjz:Ty:=.pair .int ZyO
abbrev ZyP:Ty:=.YU Zjz
abbrev ZyQ:Ty:=.pair .int Ed
abbrev aX:Ty:=.pair .int ZyQ
abbrev ZyR:Ty:=.full aX
abbrev ZyS:Ty:=.pair ZyR (.YU .int)
abbrev ZyT:Ty:=.pair ZyP ZyS
abbrev ZyU:Ty:=.pair aW ZyT
abbrev ZyV:Ty:=.pair Xy ZyU
abbrev ZyW:Ty:=.pair ZyF ZyV
abbrev ZyX:Ty:=.pair Zyt ZyW
abbrev ZyY:Ty:=.pair lL ZyX
abbrev ZyZ:Ty:=.pair Zys ZyY
abbrev Zy0:Ty:=.pair HV ZyZ
abbrev Zy1:Ty:=.pair .int Zy0
abbrev aY:Ty:=.pair zK Zy1
abbrev SC:Ty:=.own aY
abbrev HA:Ty:=.YS 2 zL
abbrev MB:Ty:=.YS 3 tf
abbrev Zy2:Ty:=.own zK
abbrev ZjB:Ty:=.own LB
abbrev Pt:Ty:=.own TY
abbrev OW:Ty:=.YS 6 MF
abbrev ZjC:Ty:=.full F9
abbrev ZjD:Ty:=.full TY
abbrev ZjE:Ty:=.only J4
abbrev Cs:Ty:=.own ZjE
abbrev ZjF:Ty:=.full te
abbrev aZ:Ty:=.full J8
abbrev a9:Ty:=.own ZjD
abbrev Zy3:Ty:=.pair tm RF
abbrev Zy4:Ty:=.pair Ea Zy3
abbrev Zy5:Ty:=.pair RD Zy4
abbrev Zy6:Ty:=.pair LB Zy5
abbrev Zy7:Ty:=.pair Xx Zy6
abbrev Zy8:Ty:=.pair J3 Zy7
abbrev Zy9:Ty:=.pair J3 Zy8
abbrev Zza:Ty:=.pair MA Zy9
abbrev Zzb:Ty:=.pair Xy Zza
abbrev Zzc:Ty:=.pair Xy Zzb
abbrev Zze:Ty:=.pair .int Zzc
abbrev Zzf:Ty:=.pair .int Zze
abbrev Zzg:Ty:=.pair .int Zzf
abbrev Zzh:Ty:=.pair .int Zzg
abbrev Zzi:Ty:=.pair .int Zzh
abbrev Zzj:Ty:=.pair .int Zzi
abbrev Zzk:Ty:=.pair .int Zzj
abbrev Zzl:Ty:=.pair ZjF Zjo
abbrev ZjG:Ty:=.own RE
abbrev lO:Ty:=.map Xx .int
abbrev Zzm:Ty:=.pair Xr lO
abbrev Zzn:Ty:=.own Zzm
abbrev ti:Ty:=.sl TY
abbrev Zzo:Ty:=.pair .int RF
abbrev HB:Ty:=.pair .int Zzo
abbrev Ec:Ty:=.YS 4 aU
abbrev Ky:Ty:=.sl Xy
abbrev Zab:Ty:=.pair .int t89
abbrev J6:Ty:=.sl Ed
abbrev Zzp:Ty:=.own Ed
abbrev lP:Ty:=.cons yi .nl
abbrev ZjH:Ty:=.fn 279 .nl lP
abbrev ZjI:Ty:=.sl lQ
abbrev Zad:Ty:=.pair Of (.sl RD)
abbrev ZjJ:Ty:=.pair .int (.pair Xy RF)
abbrev ZjK:Ty:=.opt t67
abbrev tj:Ty:=.pair .int (.pair .int (.pair .int (.pair .int (.pair Xy (.pair Xy (.sl .int))))))
abbrev ZjL:Ty:=.pair .int (.pair Cr Zjt)
abbrev J7:Ty:=.cons Xr .nl
abbrev ZjM:Ty:=.fn 158 .nl lP
abbrev Zae:Ty:=.pair Xx (.pair LB RD)
abbrev Zzq:Ty:=.own (.pair (.hole 90) lO)
abbrev ZjN:Ty:=.sl tj
abbrev Zzr:Ty:=.sl aX
abbrev ZjO:Ty:=.pair HF lO
abbrev a1(a:Ty):Ty:=.cons a .nl
abbrev a2(a b:Ty):Ty:=.cons a (.cons b .nl)
abbrev a3(a b c:Ty):Ty:=.cons a (.cons b (.cons c .nl))
abbrev a4(a b c d:Ty):Ty:=.cons a (.cons b (.cons c (.cons d .nl)))
abbrev a5(a b c d e:Ty):Ty:=.cons a (.cons b (.cons c (.cons d (.cons e .nl))))
abbrev a6(a b c d e f:Ty):Ty:=.cons a (.cons b (.cons c (.cons d (.cons e (.cons f .nl)))))
abbrev Vo:Ty:=a2 Xr .int
abbrev Xs:Ty:=a1 .int
abbrev X1:Ty:=a1 .bool
abbrev WH:Ty:=a1 Xr
abbrev Tf:Ty:=a1 Xy
abbrev TL:Ty:=a1 Xx
abbrev LM:Ty:=a2 Xy .int
abbrev KH:Ty:=a2 Xr TY
abbrev Il:Ty:=a2 .int .int
abbrev Et:Ty:=a2 Xr Xy
abbrev tS:Ty:=a3 Xr .int .int
abbrev LK:Ty:=a1 ZjL
abbrev yk:Ty:=a2 TY .bool
abbrev tT:Ty:=a2 Xx .int
abbrev tU:Ty:=a2 TY .int
abbrev Er:Ty:=a1 QX
abbrev kM:Ty:=a2 .Ub TY
abbrev kN:Ty:=a2 QW Ky
abbrev ZaS:Ty:=a3 Xr .int Xy
abbrev kO:Ty:=a2 Xr tj
abbrev ZaT:Ty:=a3 Xr TY .int
abbrev kP:Ty:=a2 J3 .int
abbrev B0:L (Nat×Ty):=[(1000,R8)]
abbrev B1:L (Nat×Ty):=[(0,t6)]
abbrev B2:L (Nat×Ty):=[(0,Eb)]
abbrev B3:L (Nat×Ty):=[(0,J4)]
abbrev B4:L (Nat×Ty):=[(0,tp)]
abbrev B5:L (Nat×Ty):=[(0,tp),(1000,R8)]
abbrev B6:L (Nat×Ty):=[(0,Cw)]
abbrev B7:L (Nat×Ty):=[(0,MC)]
abbrev B8:L (Nat×Ty):=[(0,t88)]
abbrev B9:L (Nat×Ty):=[(500,Zzp)]
abbrev S8:L (Nat×Ty):=[(0,HF)]
abbrev B11:L (Nat×Ty):=[(1000,R8),(1005,Kz)]
abbrev B12:L (Nat×Ty):=[(0,td)]
abbrev B13:L (Nat×Ty):=[(0,.own (.pair (.hole 90) Zjq))]
abbrev jD:L (Nat×Ty):=[(0,Ct)]
abbrev sW:L (Nat×Ty):=[(0,Ct),(1000,R8)]
abbrev NT:L (Nat×Ty):=[(0,Cq)]
abbrev B17:L (Nat×Ty):=[(1000,R8),(1001,J5)]
abbrev sX:L (Nat×Ty):=[(0,SC),(1000,R8),(1001,J5),(1005,Kz)]
abbrev B19:L (Nat×Ty):=[(1003,MB)]
abbrev sY:L (Nat×Ty):=[(1000,R8),(1001,J5),(1002,HA),(1003,MB),(1005,Kz)]
abbrev O8:L (Nat×Ty):=[(0,SC)]
abbrev Iu:L (Nat×Ty):=[(0,tf)]
abbrev Om:L (Nat×Ty):=[(0,SC),(1006,OW)]
abbrev B24:L (Nat×Ty):=[(0,SC),(1,zL),(1003,MB),(1006,OW)]
abbrev B25:L (Nat×Ty):=[(0,SC),(1002,HA),(1003,MB),(1006,OW)]
abbrev sZ:L (Nat×Ty):=[(0,Cw),(1000,R8)]
abbrev jE:L (Nat×Ty):=[(500,.own .int)]
abbrev B28:L (Nat×Ty):=[(0,HF),(500,.own .int)]
abbrev B30:L (Nat×Ty):=[(0,SC),(1000,R8),(1005,Kz),(1006,OW)]
abbrev Uq:L (Nat×Ty):=[(0,Cs)]
abbrev B32:L (Nat×Ty):=[(0,Cs),(1,Pt)]
abbrev jF:L (Nat×Ty):=[(500,Pt)]
abbrev B34:L (Nat×Ty):=[(500,Pt),(501,a9)]
abbrev B35:L (Nat×Ty):=[(0,SC),(1005,Kz),(1006,OW)]
abbrev B36:L (Nat×Ty):=[(0,Cq),(1,Pt)]
abbrev jG:L (Nat×Ty):=[(0,Zzq),(90,HF)]
abbrev Gg:L (Nat×Ty):=[(0,Cq),(1000,R8)]
abbrev B39:L (Nat×Ty):=[(0,SC),(1,Cq),(1000,R8),(1006,OW)]
abbrev B40:L (Nat×Ty):=[(0,SC),(1,zL),(1003,MB)]
abbrev B41:L (Nat×Ty):=[(1004,Ec)]
abbrev jH:L (Nat×Ty):=[(0,aU)]
abbrev B43:L (Nat×Ty):=[(0,SC),(2,zL),(1003,MB),(1004,Ec)]
abbrev B44:L (Nat×Ty):=[(0,SC),(1002,HA),(1003,MB),(1004,Ec)]
abbrev Bl:L (Nat×Ty):=[(0,SC),(1000,R8),(1001,J5),(1002,HA),(1003,MB),(1004,Ec),(1005,Kz),(1006,OW)]
abbrev B46:L (Nat×Ty):=[(0,SC),(1001,J5),(1006,OW)]
abbrev rc:L (Nat×Ty):=[(1000,R8),(1001,J5),(1002,HA),(1003,MB),(1004,Ec),(1005,Kz),(1006,OW)]
abbrev Wj(f:b->Zg h)(a:b×e)(_:g):=f a.1
abbrev LF(f:e->b->Zg i)(a:b×g)(x:e×h):=f x.1 a.1
abbrev W2(f:b->e->Zg i)(a:b×e×g)(_:h):=f a.1 a.2.1
abbrev HO(f:b->e->g->h->Zg l)(a:b×e×g×h×i)(_:j):=f a.1 a.2.1 a.2.2.1 a.2.2.2.1
abbrev O0(f:b->e->g->Zg j)(a:b×e×g×h)(_:i):=f a.1 a.2.1 a.2.2.1
abbrev Xd(f:g->e->Zg j)(a:b×e×h)(x:g×i):=f x.1 a.2.1
abbrev R9(f:h->e->g->Zg l)(a:b×e×g×i)(x:h×j):=f x.1 a.2.1 a.2.2.1
abbrev WG(f:b->Zg h)(_:e)(x:b×g):=f x.1
abbrev Pu(f:g->h->e->Zg l)(a:b×e×i)(x:g×h×j):=f x.1 x.2.1 a.2.1
abbrev Eg(f:i->e->g->h->Zg y)(a:b×e×g×h×j)(x:i×l):=f x.1 a.2.1 a.2.2.1 a.2.2.2.1
abbrev hi(i:Nat)(t:Ty):HI:=⟨i,false,t⟩
abbrev hb(i:Nat)(t:Ty):HI:=⟨i,true,t⟩
abbrev H0:L HI:=[hi 0 UE,hi 2 .int]
abbrev H1:L HI:=[hi 0 QX,hi 2 .int]
abbrev H2:L HI:=[hb 1 Zy2,hb 27 SC]
abbrev H3:L HI:=hb 1003 MB::H2
abbrev H4:L HI:=hb 1002 HA::H3
abbrev H5:L HI:=hb 1000 R8::H4
abbrev H6:L HI:=[hi 16 .int,hb 0 t6]
abbrev H7:L HI:=[hb 0 t6,hb 3 ZjB]
abbrev H8:L HI:=[hb 0 t6,hb 4 Pt]
abbrev H9:L HI:=[hb 1006 OW,hb 0 SC]
abbrev H10:L HI:=[hi 3 t4,hi 4 .int]
abbrev H11:L HI:=[hi 7 HV,hi 8 HV]
abbrev y9:L HI:=[hi 12 .int,hb 0 Cs]
abbrev jP:L HI:=[hb 0 Cs,hb 3 ZjB]
abbrev Q7:L HI:=[hb 0 Cs,hb 1 Pt]
abbrev rE:L HI:=[hb 3 Pt,hb 5 a9]
abbrev jQ:L HI:=hb 0 Cw::rE
abbrev H17:L HI:=[hb 0 HF,hb 32 Zzn]
abbrev jR:L HI:=[hb 1000 R8,hb 0 Cq]
abbrev H19:L HI:=[hb 0 SC,hb 6 Pt]
abbrev jS:L HI:=hb 1006 OW::H19
abbrev H21:L HI:=hb 1005 Kz::H9
abbrev H22:L HI:=hb 1004 Ec::H21
abbrev H23:L HI:=hb 1003 MB::H22
abbrev H24:L HI:=hb 1002 HA::H23
abbrev H25:L HI:=hb 1001 J5::H24
abbrev H26:L HI:=hb 1000 R8::H25
abbrev H27:L HI:=[hb 1006 OW,hb 21 SC]
abbrev H28:L HI:=hb 1005 Kz::H27
abbrev H29:L HI:=hb 1004 Ec::H28
abbrev H30:L HI:=hb 1003 MB::H29
abbrev H31:L HI:=hb 1002 HA::H30
abbrev H32:L HI:=hb 1001 J5::H31
abbrev rF:L HI:=hb 1000 R8::H32
abbrev Z2(r:b):(b×Unit)×Unit:=((r,()),())
abbrev Z3(c:b×Unit)(_:Unit):b:=c.1
abbrev W4(r:b×e):(b×e×Unit)×Unit:=((r.1,r.2,()),())
abbrev W5(c:b×e×Unit)(_:Unit):b×e:=(c.1,c.2.1)
abbrev Aj(r:b×e×g):(b×e×g×Unit)×Unit:=((r.1,r.2.1,r.2.2,()),())
abbrev As(c:b×e×g×Unit)(_:Unit):b×e×g:=(c.1,c.2.1,c.2.2.1)
abbrev Ui(r:b):Unit×b×Unit:=((),(r,()))
abbrev Ul(_:Unit)(d:b×Unit):b:=d.1
abbrev WP(r:b×e):(e×Unit)×b×Unit:=((r.2,()),(r.1,()))
abbrev WQ(c:e×Unit)(d:b×Unit):b×e:=(d.1,c.1)
abbrev QF(r:b×e×g):(e×g×Unit)×b×Unit:=((r.2.1,r.2.2,()),(r.1,()))
abbrev QJ(c:e×g×Unit)(d:b×Unit):b×e×g:=(d.1,c.1,c.2.1)
abbrev Zdy(r:b×e×g×h):(e×g×h×Unit)×b×Unit:=((r.2.1,r.2.2.1,r.2.2.2,()),(r.1,()))
abbrev Zeg(c:e×g×h×Unit)(d:b×Unit):b×e×g×h:=(d.1,c.1,c.2.1,c.2.2.1)
abbrev xH(r:b×e):Unit×b×e×Unit:=((),(r.1,r.2,()))
abbrev we(_:Unit)(d:b×e×Unit):b×e:=(d.1,d.2.1)
abbrev OE(r:b×e×g):(g×Unit)×b×e×Unit:=((r.2.2,()),(r.1,r.2.1,()))
abbrev OJ(c:g×Unit)(d:b×e×Unit):b×e×g:=(d.1,d.2.1,c.1)
abbrev Ak(r:b×e×g×h):(g×h×Unit)×b×e×Unit:=((r.2.2.1,r.2.2.2,()),(r.1,r.2.1,()))
abbrev Au(c:g×h×Unit)(d:b×e×Unit):b×e×g×h:=(d.1,d.2.1,c.1,c.2.1)
abbrev ZnH(r:b×e×g):Unit×b×e×g×Unit:=((),(r.1,r.2.1,r.2.2,()))
abbrev ZoJ(_:Unit)(d:b×e×g×Unit):b×e×g:=(d.1,d.2.1,d.2.2.1)
abbrev Zdz(r:b×e×g×h):(h×Unit)×b×e×g×Unit:=((r.2.2.2,()),(r.1,r.2.1,r.2.2.1,()))
abbrev Zeh(c:h×Unit)(d:b×e×g×Unit):b×e×g×h:=(d.1,d.2.1,d.2.2.1,c.1)
abbrev ZnI(r:b×e×g×h):Unit×b×e×g×h×Unit:=((),(r.1,r.2.1,r.2.2.1,r.2.2.2,()))
abbrev ZoK(_:Unit)(d:b×e×g×h×Unit):b×e×g×h:=(d.1,d.2.1,d.2.2.1,d.2.2.2.1)
abbrev Dh(r:b×e×g×h×i):(i×Unit)×b×e×g×h×Unit:=((r.2.2.2.2,()),(r.1,r.2.1,r.2.2.1,r.2.2.2.1,()))
abbrev Dw(c:i×Unit)(d:b×e×g×h×Unit):b×e×g×h×i:=(d.1,d.2.1,d.2.2.1,d.2.2.2.1,c.1)
abbrev ZnJ(r:b×e×g×h×i×j):(j×Unit)×b×e×g×h×i×Unit:=((r.2.2.2.2.2,()),(r.1,r.2.1,r.2.2.1,r.2.2.2.1,r.2.2.2.2.1,()))
abbrev ZoL(c:j×Unit)(d:b×e×g×h×i×Unit):b×e×g×h×i×j:=(d.1,d.2.1,d.2.2.1,d.2.2.2.1,d.2.2.2.2.1,c.1)
abbrev ZnK(r:b×e×g×h×i×j×l):(j×l×Unit)×b×e×g×h×i×Unit:=((r.2.2.2.2.2.1,r.2.2.2.2.2.2,()),(r.1,r.2.1,r.2.2.1,r.2.2.2.1,r.2.2.2.2.1,()))
abbrev ZoM(c:j×l×Unit)(d:b×e×g×h×i×Unit):b×e×g×h×i×j×l:=(d.1,d.2.1,d.2.2.1,d.2.2.2.1,d.2.2.2.2.1,c.1,c.2.1)
abbrev ZdA(r:b×e×g×h×i×j×l×y):(y×Unit)×b×e×g×h×i×j×l×Unit:=((r.2.2.2.2.2.2.2,()),(r.1,r.2.1,r.2.2.1,r.2.2.2.1,r.2.2.2.2.1,r.2.2.2.2.2.1,r.2.2.2.2.2.2.1,()))
abbrev Zei(c:y×Unit)(d:b×e×g×h×i×j×l×Unit):b×e×g×h×i×j×l×y:=(d.1,d.2.1,d.2.2.1,d.2.2.2.1,d.2.2.2.2.1,d.2.2.2.2.2.1,d.2.2.2.2.2.2.1,c.1)
abbrev ZnL(r:b×e×g×h×i×j×l×y):Unit×b×e×g×h×i×j×l×y×Unit:=((),(r.1,r.2.1,r.2.2.1,r.2.2.2.1,r.2.2.2.2.1,r.2.2.2.2.2.1,r.2.2.2.2.2.2.1,r.2.2.2.2.2.2.2,()))
abbrev ZoN(_:Unit)(d:b×e×g×h×i×j×l×y×Unit):b×e×g×h×i×j×l×y:=(d.1,d.2.1,d.2.2.1,d.2.2.2.1,d.2.2.2.2.1,d.2.2.2.2.2.1,d.2.2.2.2.2.2.1,d.2.2.2.2.2.2.2.1)
abbrev ZdB{I:Type}(r:b×e×g×h×i×j×l×y×I):(I×Unit)×b×e×g×h×i×j×l×y×Unit:=((r.2.2.2.2.2.2.2.2,()),(r.1,r.2.1,r.2.2.1,r.2.2.2.1,r.2.2.2.2.1,r.2.2.2.2.2.1,r.2.2.2.2.2.2.1,r.2.2.2.2.2.2.2.1,()))
abbrev Zej{I:Type}(c:I×Unit)(d:b×e×g×h×i×j×l×y×Unit):b×e×g×h×i×j×l×y×I:=(d.1,d.2.1,d.2.2.1,d.2.2.2.1,d.2.2.2.2.1,d.2.2.2.2.2.1,d.2.2.2.2.2.2.1,d.2.2.2.2.2.2.2.1,c.1)
noncomputable def Z0:XF:={P:=Tryz.prog,ov:=[(8,.pair .int (.pair .int (.pair .bool QW))),(14,.pair .str QX),(25,SC),(31,tj),(36,LA),(39,Cr),(41,ZjL),(43,lL),(47,MA),(56,lM),(62,aX),(67,aR),(69,zK),(78,aW),(81,aY),(89,tp),(90,t88),(91,MC),(92,t90),(95,t97),(103,Zjr),(105,HC),(109,aT),(111,aV),(112,Zjv),(115,J3),(118,RE),(120,LB),(124,TY),(126,Zjw),(136,Zjx),(144,.own aW),(150,HF),(153,t46),(155,t67),(159,t6),(161,t5),(166,J4),(172,Ee),(174,t87),(178,t20),(184,Zjs),(190,Ed),(193,Cs),(195,ZjE),(201,.ptr TY),(209,aQ),(213,t60),(218,t12),(223,ZjJ),(232,t81),(241,Zjj),(247,t6),(249,t5),(258,t89),(267,J8),(271,F9),(275,Cu),(287,Zjz),(288,lN),(299,HB),(307,Zab),(320,zN),(323,Ct),(325,t75),(332,t55),(358,lQ),(363,t44),(376,te),(383,Zae),(396,Zju),(407,Cv),(423,t31),(425,th),(428,td),(446,t62),(472,HE),(502,.own ZjO),(503,lO),(505,ZjO),(515,.ptr .int),(525,.ptr QX),(538,.ptr QW)],gl:=[(0,⟨.vec 5 (.pair .int (.pair .int .int)),yY⟩),(1,⟨.vec 8 UE,yW⟩),(2,⟨.vec 64 UE,yX⟩),(3,⟨.vec 32 QW,yZ⟩),(4,⟨.vec 64 QW,Bu⟩)],tb:=[],hs:=[],cl:=[46,53,253,256,355]}
structure CO where
 c:FC
 k:U4 Z0 c
noncomputable def mk(f:Nat)(A:Ty)(B:L (Nat×Ty))(C:Ty)(D:L (Nat×Ty))(m:A.den->(TJ B).den->Zg b)(dec:b->C.den×(TJ D).den)(d:C.den->(TJ D).den->b)(g:Func)(hs:L jU)(tb:L CO)(u:Bool:=false)(sp:L Nat:=[])(fz:L Nat:=[])(i:Tryz.prog.funcs[f]?=some g:=by kernel_rfl)(h:Jk Tryz.prog f=true:=by kernel_rfl)(j:∀y z,dec (d y z)=(y,z):=by intros;rfl)(k:∀a x,dx {Z0 with tb:=tb.map CO.c,hs:=hs,sp:=sp,fz:=fz} g u A B C D d a x=m a x:=by intros;kernel_rfl):CO:=⟨⟨f,A,B,C,D,b,u,m,dec⟩,U4.cfg (Z:={Z0 with tb:=tb.map CO.c,hs:=hs,sp:=sp,fz:=fz}) rfl rfl (ZqK i h d j (λl e=>by obtain⟨c,_,rfl⟩:=VR e;exact U4.cfg rfl rfl c.k) (Zq7 ZV) Znh (show Tryz.prog.follows .mixedOrders=true by kernel_rfl) λa x n e=>(k a x).trans e)⟩
end
section
open Go.Proofs Go.Shelf Go.RowKit
def Zrz(b:GD C z s)(c:Below s.heap.size s B)(i:s.heap.size<=f)(n:B.heap[f]?=some k):GD C ((f,0,k)::z) B/\ZW s B C C z.bs (f::z.bs):=by
 have m:∀k,C f k=none:=λk=>by cases e:C f k with|none=>rfl|some v=>exact absurd (b.lt e) (Nat.not_lt.2 i)
 refine⟨⟨λg d v h=>(Be (a:=⟨g,d,none⟩) (c.block _ (b.lt h))).trans (b.mem g d v h),List.nodup_cons.2 ⟨λh=>absurd (b.P6 h) (Nat.not_lt.2 i),b.nodup⟩,λj hx=>?_,λj hx d l=>?_⟩,c.os,c.tape,c.output,c.size,λg hk _=>⟨c.block g hk,λ_=>rfl⟩,λg hk=>?_,Wy.refl _⟩
 ·obtain rfl|hx:=XL hx;·exact n
  ·exact(c.block _ (b.P6 (VV hx))).trans (b.Xb j hx)
 ·obtain rfl|hx:=XL hx;·exact m d
  ·exact b.free j hx d l
 ·obtain rfl|hk:=XL hk;·exact .inr i
  ·exact .inl hk
def Ziz{K:KK}:∀{l:L (ZO 8)}{row:L Value},Row 1 (rel K (.un .u8 8)) [] row l->row=(l.map BitVec.toNat).map λx:Nat=>Value.int .u8 (x:Int)|[],_,h=>h.1|_::_,_,⟨c,c',g,d,e,b,_,⟨_,a⟩,q⟩=>by obtain⟨rfl,rfl⟩:=O5 b.symm;rw[e,a,Ziz q];rfl
def bW{K:KK}:∀(l:L Int),Row 1 (rel K .int) [] (l.map λy=>Value.int .i64 y) l|[]=>⟨rfl,rfl⟩|x::l=>⟨[Value.int .i64 x],_,[],[],rfl,rfl,rfl,⟨rfl,rfl⟩,bW l⟩
def Zn1:U4 Z0 (pg 179 (a2 (.pair .int (.pair .int .int)) (.vec 32 (.un .u8 8))) (.sl .int) λa=>DF a.1 a.2.1):=by
 refine Zpb rfl ⟨ZV,λa x8 O c j hA q I U vs x h x4 f s H x3=>?_⟩;obtain⟨⟨k,m,w⟩,g,⟨⟩⟩:=a;have c:DF (k,m,w) g=some O:=c;unfold DF at c;split at c;case isFalse=>cases c
 rename_i r;cases c;obtain⟨P,Q,v,x6,rfl,rfl,F,rfl,R,S,v2,x7,rfl,rfl,x5,rfl,rfl,rfl⟩:=f;obtain rfl:=SZ (t:=a2 (.pair .int (.pair .int .int)) (.vec 32 (.un .u8 8))) rfl s;obtain⟨g1,x1,V,W,z,y,⟨g3,g4,d3,d4,x0,rfl,⟨-,rfl⟩,g5,g6,d5,d6,-,rfl,⟨-,rfl⟩,-,rfl⟩,g2,x2,X,Z,A,rfl,f,rfl,rfl⟩:=s;obtain⟨rfl,rfl⟩:=O5 z.symm;obtain⟨rfl,-⟩:=O5 A.symm;have f:=Ziz f;obtain⟨rfl,o⟩:=MJ y F;rw[XX,XX]at o;subst o;rw[f];obtain⟨b,d,t,rfl,rfl,rfl,B,C,D⟩:∃b d t:Nat,k=b/\m=d/\w=t/\t<64/\d<=300/\(b=1\/b=2\/b=4\/b=8):=by
  obtain e|e|e|e:=r<;>cases e;·exact⟨1,265,7,rfl,rfl,rfl,YI⟩
  ·exact⟨2,133,6,rfl,rfl,rfl,YI⟩
  ·exact⟨4,67,4,rfl,rfl,rfl,YI⟩
  ·exact⟨8,34,0,rfl,rfl,rfl,YI⟩
 clear r c;simp only[WL];have h:GD j.m (q++I) x:=h;refine(callsIn_wide.1 (Zn0 4 Y b d t B C D (g.toList.map BitVec.toNat) Zc x)).mono ?_;generalize GR b d t _=l;rintro e w'⟨p,rfl,G,E⟩;obtain⟨-,⟨e,-⟩|⟨g',T,n,e,L,M,N,-,u,i⟩⟩:=G;·cases e
 cases e;rw[Ga]at u i;obtain⟨J,K⟩:=Zrz h E L M;refine⟨_,rfl,j,[(p,0,.cells n 3)],q,KK.le.refl _,rfl,⟨[_],[_],rfl,⟨[_],[],_,[],rfl,rfl,rfl,rfl,rfl,rfl⟩,⟨[_],[],[_],[],rfl,rfl,.inr ⟨p,3,d,wI l,n.toList.drop l.length,[],rfl,?_,bW l,N,?_⟩,rfl,rfl⟩⟩,λ_=>⟨J,K,H,λ_ _ _ g=>(by cases g),λ_ _=>rfl⟩,λe=>by cases e⟩;·rw[<-i,TM];rfl
 ·rw[<-i,TM,Za3,u];exact(Ga _).symm
end
section
open Go.Proofs Go.Shelf Go.RowKit
def AA(n:Int):Zg Zt:=if 0<=n/\n<=4294967296then some []else none
def rG:Ren:=⟨λ_=>122,λ|22=>28|25=>5|n=>n,λn=>n⟩
def Ze9:Lays8.n4 Tryz.prog rG:=⟨ZV,⟨Tryz.f122.name,ZV,ZV⟩,ZV,λ_=>rfl,λ_=>rfl,λ_=>rfl,ZV,λ_=>rfl,λ_=>rfl,λ_=>rfl,ZV,λ_=>rfl,λ_=>rfl,λ_=>rfl,ZV,λ_=>rfl,λ_=>rfl,λ_=>rfl,ZV,λ_=>rfl,λ_=>rfl,λ_=>rfl,ZV,λ_=>rfl,λ_=>rfl,λ_=>rfl⟩
def Zpq:U4 Z0 ⟨122,.cons .Tz (.cons .int .nl),[],.cons (.full (.un .u8 8)) .nl,[],Zt,false,λa _=>AA a.2.1,λr=>((r,()),())⟩:=by
 refine⟨ZV,λa I r f d Z e i O vs c k x1 F E x2 x0=>?_⟩;obtain⟨⟨⟩,b,⟨⟩⟩:=a;have f:AA b=some r:=f;unfold AA at f;split at f;case isFalse=>cases f
 rename_i D;cases f;obtain⟨b,rfl⟩:=Qt D.1;obtain⟨K,L,v,x3,rfl,rfl,B,rfl,M,N,v2,x4,rfl,rfl,C,rfl,rfl,rfl⟩:=F;obtain⟨U,V,P,Q,rfl,s,⟨rfl,rfl⟩,W,X,R,S,rfl,rfl,⟨rfl,rfl⟩,rfl,rfl⟩:=E;obtain⟨rfl,t⟩:=MJ s B;obtain⟨rfl,T⟩:=MJ t C;have k:GD d.m (e++i) c:=k;have o:∀{hC:HP}{g:World}{v:Value},rel d (.full (.un .u8 8)) hC [v] ([]:Zt)->GD d.m (hC++(e++i)) g->ZW c g d.m d.m (e++i).bs (hC++(e++i)).bs->∃p,Ending.returned v=.returned p/\∃q hC z,K9 ⟨122,.cons .Tz (.cons .int .nl),[],.cons (.full (.un .u8 8)) .nl,[],Zt,false,λa _=>AA a.2.1,λr=>((r,()),())⟩ I [] d [] e i c p g q hC z:=λ{hC g v}w x y=>by
  refine⟨v,rfl,d,hC,[],KK.le.refl _,rfl,⟨[v],[v],rfl,⟨[v],[],v,[],rfl,rfl,rfl,rfl,rfl,rfl⟩,⟨hC,[],[v],[],Zc,Zc,w,rfl,rfl⟩⟩,λ_=>⟨?_,?_,trivial,λ_ _ _ h=>(by cases h),λ_ _=>rfl⟩,λl=>by cases l⟩;·rw[XX];exact x.sub (r:=e) (by classical rw[VX];intro x5;simp only[VU];omega)
  ·exact y.sub λJ j=>by simp only[HP.bs,WW,Sr,XX]at j⊢;exact j.elim .inl λh=>.inr (.inr h)
 by_cases u:b=0;·subst u;refine(Any8.slices_Grow_room Ze9 none 0 0 0 c Y Y Y Y).mono ?_;rintro l g⟨rfl,rfl⟩;exact o (hC:=[]) (.inl ⟨rfl,rfl,none,rfl⟩) k (ZW.refl _ _ _)
 ·obtain⟨H,A,G,hs,j⟩:=info_parts (show(Tryz.prog.info? 5).map (λn=>(n.zero,n.size,n.bytes))=some (some (.int .u8 0),1,1)by kernel_rfl);refine(Any8.slices_Grow_grow Ze9 H _ A G Y none 0 0 b [] c Y Y (by rw[j];omega) Y Zc (λ_=>rfl) λ_ h=>by cases h).mono ?_;rintro l g⟨rfl,rfl⟩;obtain⟨hC,m⟩:∃hC:HP,hC=[(c.heap.size,0,Obj.cells ((#[]:Array Value)++Builtin.zeroCells (Value.int .u8 0).cells (0+b-0)++Builtin.zeroCells (Value.int .u8 0).cells (grownCap c (0+b) 0 5-(0+b))) 5 (0,0))]:=⟨_,rfl⟩;refine o (hC:=hC) ?_ (by subst m;exact GD.newObj k.drew _) (by subst m;exact(ZW.drew c d.m _).trans (ZW.alloc c.drew d.m _ _));subst m;refine .inr ⟨c.heap.size,5,grownCap c (0+b) 0 5,[],(Builtin.zeroCells (Value.int .u8 0).cells (0+b-0)++Builtin.zeroCells (Value.int .u8 0).cells (grownCap c (0+b) 0 5-(0+b))).toList,[],rfl,?_,⟨rfl,rfl⟩,W7 _,?_⟩;·show[_]=[(_,_,cellsOf _ _)];unfold cellsOf;simp
  ·have:=grownCap_ge c (0+b) 0 5;simp only[UG,Za3,Array.size_append,size_zeroCells];show(0+b-0)*1+(_-(0+b))*1=_*1;omega
def U4.weaken{Z}{c}{m}(h:U4 Z c)(k:∀a x r,m a x=some r->c.m a x=some r):U4 Z {c with m:=m}:=⟨h.1,λa x r d=>by refineλe q s w g y z i j l n o p=>(h.2 a x r (k a x r d) e q s w g y z i j l n o p).mono ?_;rintro d A⟨v,rfl,f,t,u,b⟩;exact⟨v,rfl,f,t,u,⟨b.le,b.nm,b.res,b.full,b.only⟩⟩⟩
noncomputable def go(l:L Zt):Zg Zt:=O (YE (λ(a:Int×Int)=>Zf (ZC a.2 (Zi (Zj l))) (O (ZF l a.2) λb=>O (Zf (ZC (Zm (Zv a.1 (Zi (Zj b)))) 0) none (some ())) λ_=>some (.next (Zm (Zv a.1 (Zi (Zj b))),Zm (Zv a.2 1)))) (some (.brk a))) (0,0)) λa=>O (AA a.1) λb=>O (YE (λ(a:Zt×Int)=>Zf (ZC a.2 (Zi (Zj l))) (O (ZF l a.2) λb=>Yt (Zj a.1) (Zj b) (some (.next (Ye a.1 b,Zm (Zv a.2 1))))) (some (.brk a))) (b,0)) λa=>some a.1
def Znt{l}(h:l.length<=1000)(q:l.flatten.length<=4294967296):W (go l) λr=>r=l.flatten:=by
 have n:∀a,(l.take a).flatten.length<=4294967296:=λa=>by
  have:l.flatten.length=(l.take a).flatten.length+(l.drop a).flatten.length:=by rw[<-YM,<-C0,TM]
  omega
 have k:∀a(c:a<l.length),(l.take (a+1)).flatten=(l.take a).flatten++l[a]:=λa c=>by rw[ML c,C0];simp
 unfold go AA;refine W.Zs (λb=>b.1=(l.flatten.length:Int)) (L8 (λb=>0<=b.2/\b.2<=l.length/\b.1=((l.take b.2.toNat).flatten.length:Nat)) (λb=>(l.length-b.2).toNat) ⟨Zc,Zc,Zc⟩ ZB λb e=>?_) λb e=>?_;·obtain⟨o,a⟩:=b;obtain⟨d,m,g⟩:=e;obtain⟨a,rfl⟩:=Qt d;dsimp only at d m g;subst g;simp only[Wx,WL];refine⟨λf=>⟨⟨d,f⟩,λp i=>?_⟩,λf=>by rw[show a=l.length by omega,Ir]⟩;have c:a<l.length:=Y;have j:=n (a+1);rw[k a c,YM]at j;rw[Ve c]at i;cases i;rw[ZK Y,ZK Y,show((a:Int)+1).toNat=a+1by omega,k a c,YM];omega
 ·rw[Y4 Y];refine Zn (Zb (W.Zs (λb=>b.1=l.flatten) (L8 (λb=>0<=b.2/\b.2<=l.length/\b.1=(l.take b.2.toNat).flatten) (λb=>(l.length-b.2).toNat) ⟨Zc,Zc,Zc⟩ ZB λb e=>?_) λb e=>Zb e));obtain⟨o,a⟩:=b;obtain⟨d,m,g⟩:=e;obtain⟨a,rfl⟩:=Qt d;dsimp only at d m g;subst g;simp only[Wx,WL];refine⟨λf=>⟨⟨d,f⟩,λp i=>?_⟩,λf=>by rw[show a=l.length by omega,Ir]⟩;have c:a<l.length:=Y;have j:=n (a+1);rw[k a c,YM]at j;rw[Ve c]at i;cases i;rw[ZK Y,show((a:Int)+1).toNat=a+1by omega,k a c];exact⟨j,⟨Y,Y,rfl⟩,Y⟩
noncomputable def ZtE:CO:=⟨_,Zpq⟩
noncomputable def Ztd:=mk 83 (a1 (.sl (.sl (.un .u8 8)))) [] (a1 (.full (.un .u8 8))) [] (λa _=>go a.1) Z2 Z3 Tryz.f83 [⟨0,[hi 3 .int,hi 11 .int]⟩,⟨10020,[]⟩,⟨2,[hi 6 (.full (.un .u8 8)),hi 27 .int]⟩] [ZtE]
def Znu:U4 Z0 (pg 83 (a1 (.sl (.sl (.un .u8 8)))) (.full (.un .u8 8)) λa=>F0 a.1):=Ztd.k.weaken λa e d b=>by
  have b:F0 a.1=some d:=b;unfold F0 at b;split at b;·rename_i c;cases b;exact Vp (Znt c.1 c.2)
  ·cases b
end
section
open Go.Proofs Go.Shelf Go.RowKit
def rS:Ren:=⟨λ|189=>308|125=>348|257=>347|128=>374|129=>375|294=>365|295=>366|296=>367|297=>368|298=>369|299=>370|216=>371|300=>372|301=>373|328=>384|329=>385|330=>386|331=>387|332=>388|215=>389|343=>398|n=>n,λ|28=>29|46=>295|51=>163|53=>216|183=>494|182=>493|131=>444|218=>512|222=>515|228=>525|229=>526|n=>n,λn=>n⟩
def Zfa:Lays.n189 Tryz.prog rS:=⟨ZV,ZV,ZV,ZV,ZV,ZV,ZV,ZV,ZV,ZV,ZV,ZV,ZV,ZV,ZV,ZV,ZV,ZV,ZV,ZV,ZV,ZV,Tryz.underlying0,Tryz.isAgg0,Tryz.sizeOf0,Tryz.zeroValue0,Tryz.underlying3,Tryz.isAgg3,Tryz.sizeOf3,Tryz.zeroValue3,Tryz.underlying4,Tryz.isAgg4,Tryz.sizeOf4,Tryz.zeroValue4,Tryz.underlying5,Tryz.isAgg5,Tryz.sizeOf5,Tryz.zeroValue5,Tryz.underlying9,Tryz.isAgg9,Tryz.sizeOf9,Tryz.zeroValue9,Tryz.underlying29,Tryz.isAgg29,Tryz.sizeOf29,Tryz.zeroValue29,Tryz.underlying295,Tryz.isAgg295,Tryz.sizeOf295,Tryz.zeroValue295,Tryz.underlying163,Tryz.isAgg163,Tryz.sizeOf163,Tryz.zeroValue163,Tryz.underlying216,Tryz.isAgg216,Tryz.sizeOf216,Tryz.zeroValue216,Tryz.underlying444,Tryz.isAgg444,Tryz.sizeOf444,Tryz.zeroValue444,Tryz.underlying493,Tryz.isAgg493,Tryz.sizeOf493,Tryz.zeroValue493,Tryz.underlying494,Tryz.isAgg494,Tryz.sizeOf494,Tryz.zeroValue494,Tryz.underlying512,Tryz.isAgg512,Tryz.sizeOf512,Tryz.zeroValue512,Tryz.underlying515,Tryz.isAgg515,Tryz.sizeOf515,Tryz.zeroValue515,Tryz.underlying525,Tryz.isAgg525,Tryz.sizeOf525,Tryz.zeroValue525,Tryz.underlying526,Tryz.isAgg526,Tryz.sizeOf526,Tryz.zeroValue526⟩
def Zll{T}(b:s.heap[f]?=some (cellsOf c T))(h:∀(j:Nat)(x),d[j]?=some x->c[j]?=some (Value.int .i64 x)):Sort.Holds (Value.int .i64) s f 0 d.toArray:=by
 intro j g;have a:j<d.length:=by simpa using g
 have e:=h j (d[j]'a) (Ve a);rw[Qc];refine⟨?_,?_⟩;·rw[show d.toArray[j]! =d[j]by simp[a]];unfold World.cell?;simp[b,cellsOf,e]
 ·unfold World.frozen?;simp[b,cellsOf]
def ZxD{k}{T}{d:L Int}{os}(j:GD C ((f,0,cellsOf c T)::z) s){o'}(x:Sort.onCells (Sort.putCells (Value.int .i64) 0 d.toArray) (cellsOf c T)=o'):GD C ((f,0,o')::z) (Sort.grow (Sort.putRow (Value.int .i64) (Sort.ahead s k) f 0 d.toArray) os)/\∀bs,f∈bs->ZW s (Sort.grow (Sort.putRow (Value.int .i64) (Sort.ahead s k) f 0 d.toArray) os) C C bs bs:=by
 have r:=j.Xb (f,0,cellsOf c T) Zc;obtain⟨g,m⟩:∃g:World,g={Sort.ahead s k with heap:=s.heap.setIfInBounds f o'}:=⟨_,rfl⟩;have t:Sort.putRow (Value.int .i64) (Sort.ahead s k) f 0 d.toArray=g:=by
  rw[m];unfold Sort.putRow Sort.mapBlock;congr 1;apply ZaZ;intro e;rw[kU,Io];by_cases h:f=e;·subst h;rw[Y4 rfl,Y4 rfl,Y4 (U0 r).1];show s.heap[f]?.map _=_;rw[r];exact WX some x
  ·rw[Ys h,Ys h];rfl
 have i:GD C ((f,0,o')::z) g:=by rw[m];exact GD.setObj o' (w:=Sort.ahead s k) ⟨j.mem,j.nodup,j.Xb,j.free⟩
 have u:∀bs,f∈bs->ZW s g C C bs bs:=λbs n=>by have b:=ZW.setObj (w:=Sort.ahead s k) (m:=C) (o':=o') n;rw[m];exact⟨rfl,rfl,rfl,b.size,b.Vu,b.own,b.le⟩
 have o:∀{e:Nat},e<g.heap.size->(Sort.grow g os).heap[e]?=g.heap[e]?:=λl=>Za0 l;rw[t];refine⟨⟨λp e v l=>?_,i.nodup,λA y=>?_,i.free⟩,λbs n=>?_⟩;·exact(Be (a:=⟨p,e,none⟩) (o (i.lt l))).trans (i.mem p e v l)
 ·have q:=i.Xb A y;rw[o (U0 q).1];exact q
 ·have b:=u bs n;exact⟨b.os,b.tape,b.output,WB b.size (by simp[Sort.grow]),λe h w=>⟨by rw[o (C7 h b.size)];exact(b.Vu e h w).1,λ_=>rfl⟩,b.own,b.le⟩
def ZeU{K}:∀{l:L Int}{row},Row 1 (rel K .int) [] row l->row=l.map λy=>Value.int .i64 y|[],_,h=>h.1|_::_,_,⟨c,c',g,d,e,b,_,⟨_,a⟩,q⟩=>by obtain⟨rfl,rfl⟩:=O5 b.symm;rw[e,a,ZeU q];rfl
def ZsR{row}(h:d.length=row.length):Sort.putCells (Value.int .i64) 0 d.toArray (row++c).toArray=(d.map (λy=>Value.int .i64 y)++c).toArray:=by
 unfold Sort.putCells;apply ZaZ;intro b;rw[Array.getElem?_mapIdx,KP,KP];by_cases a:b<d.length;·rw[VE Y,VE (by simpa using a),Ve Y,so,Ve a];simp[a]
 ·rw[MK Y,MK XV,LP,h];cases e:c[b-row.length]?with|none=>rfl|some v=>simp;omega
def ZxC:U4 Z0 ⟨308,.cons (.hole 0) .nl,[(0,.full .int)],.nl,[(0,.full .int)],L Int,false,λ_ x=>F1 x.1,λr=>((),(r,()))⟩:=by
 refine⟨ZV,λc x r J e hA H h Q vs q X x7 g x0 x1 x6=>?_⟩;obtain⟨x4,c',v,xb,rfl,rfl,hl,rfl,rfl,rfl⟩:=g;obtain⟨h1,h2,d,d',rfl,t,⟨rfl,xa,N,rfl,_⟩,rfl,rfl⟩:=x0;rw[XX,XX]at t;subst t;obtain⟨b,⟨⟩⟩:=x;obtain⟨R,f,l,⟨Q,W,w⟩,-⟩:=x1;have y:F1 b=some r:=J;clear J;unfold F1 at y;split at y;case isFalse=>cases y
 rename_i x8;cases y;have z:GD e.m (R++(f++h)) q:=X.perm (by classical rw[VX]at l⊢;intro i;have:=l i;simp only[VU,O6]at this⊢;omega);have u:(b.mergeSort λc a=>decide (c<=a)).length=b.length:=List.length_mergeSort _;have O:∀{h':HP}{m:World}{s:L Value},rel e (.full .int) h' s (b.mergeSort λc a=>decide (c<=a))->(∀i∈s,e.nm 0=some i)->GD e.m (h'++(f++h)) m->ZW q m e.m e.m (HP.bs ([]++[]++H++h)) (HP.bs (h'++(f++h)))->∃v,Ending.returned (.tuple #[])=.returned v/\∃P S T,K9 ⟨308,.cons (.hole 0) .nl,[(0,.full .int)],.nl,[(0,.full .int)],L Int,false,λ_ x=>F1 x.1,λr=>((),(r,()))⟩ (b,()) (b.mergeSort λc a=>decide (c<=a)) e ([]++[]) H h q v m P S T:=λ{h' m s}C D q3 q4=>⟨_,rfl,e,[],h'++f,KK.le.refl _,rfl,⟨[],[],rfl,⟨rfl,rfl⟩,⟨rfl,rfl⟩⟩,λ_=>⟨by simpa using q3,by simpa using q4,⟨h',f,.refl _,⟨s,C,D⟩,trivial⟩,λx5 x9 xs Z=>by simp[VP,Yp]at Z,Vf.refl _ _⟩,λj=>by cases j⟩;obtain⟨rfl,rfl,F,rfl⟩|⟨a,n,G,o,p,h',rfl,rfl,M,U,x2⟩:=W;·have g:=w _ (TE rfl);rw[N]at g;cases g;refine(Any.slices_Sort_int_none Zfa F 0 q).mono ?_;rintro t m⟨rfl,rfl⟩;refine O (h':=[]) (.inl ⟨Zc,rfl,F,rfl⟩) w z ?_;refine ZW.Qm (hs1:=[]++(f++h)) ?_ (ZW.refl _ _ _);classical rw[VX]at l⊢;intro i;have:=l i;simp only[VU,O6]at this⊢;omega
 ·have g:=w _ (TE rfl);rw[N]at g;cases g;obtain rfl:h'=[]:=Row.Kn (λ_ _ _ j=>j.1) M;have A:o=b.map λE=>Value.int .i64 E:=ZeU M;have I:=z.Xb (a,0,cellsOf (o++p) n) Zc;have V:∀(B:Nat)(x:Int),b[B]?=some x->(o++p)[B]?=some (.int .i64 x):=λB x j=>by rw[VE (by rw[A,LP];exact(X8 j).1),A,so,j];rfl
  have K:o.length=b.length:=by rw[A,LP]
  refine(Any.slices_Sort_int Zfa a 0 G b q (Zll I V) (U0 I).1 ?_).mono ?_;·omega
  ·rintro t m⟨rfl,x3,os,rfl⟩;obtain⟨C,D⟩:=ZxD (k:=x3) (d:=b.mergeSort λc a=>decide (c<=a)) (os:=os) z (o':=cellsOf ((b.mergeSort λc a=>decide (c<=a)).map (λE=>Value.int .i64 E)++p) n) (WX (Obj.cells · n (0,0)) (ZsR (by rw[u,K])));refine O (h':=[(a,0,_)]) (.inr ⟨a,n,G,_,p,[],by rw[u],rfl,?_,by rw[u];exact U,by rw[YM,LP,u,<-K,<-YM];exact x2⟩) ?_ C ?_;·exact bW _
   ·exact w
   ·refine ZW.Qm (hs1:=(a,0,cellsOf (o++p) n)::(f++h)) ?_ (D _ (by simp[HP.bs]));classical rw[VX]at l⊢;intro i;have:=l i;simp only[VU,je,Oj,UG]at this⊢;omega
end
end Go.R
namespace Go.Sl
variable {f e:Nat}{j:Operand}
section
variable {α β:Type}{c:We}{Z:Array Oper}{l:L Oper}{Γ Γ':YG}{H H' H1:L YC}{K:Act->World->Prop}{d:Tmp}{od:Zg Tmp}{ty:TypeId}{pos:String}{aft:Array Edge}{g:Zg (Nat×Bool)}
def Ze0{ST XT T E EX:TypeId}{y}{b i cap}{R:Z1 α}{zs}{xs}(hx:Xe Γ j (val (.slice (some ⟨b,0,none⟩) i cap)))(N:Ra H (Jg b T R zs) H')(hy:ZcI c Γ H y R xs.length xs)(J:i+xs.length<=cap)(hz:i+xs.length<=zs.length)(F:J0 c.P ST E R.n=true)(G:c.P.underlying XT=some (.slice EX))(D:Nat.blt d c.N=true)(k:QB c Z l ((d,val (.slice (some ⟨b,0,none⟩) (i+xs.length) cap))::Γ) (Jg b T R (zs.take i++xs.map some++zs.drop (i+xs.length))::H') K):QB c Z (⟨some d,.call {callee:=.builtin .append,args:=#[j,y],argTypes:=#[ST,XT]},ty,pos,aft,none⟩::l) Γ H K:=by
 refine Ze4 rfl ?_ k;intro q V h f s _ w n Q;have B:h.eval j=_:=hx q h (n.Z9 j);obtain⟨a0,z,C,x0⟩:=hy q V h f s w (n.Z9 y);obtain⟨g1,r,u,⟨a,L,p⟩,W⟩:=w.pick N;subst L;have t:=s.perm u;obtain⟨hu,x2,x3,M,x1,-⟩:=uV F;have X:(sizeOf E).run c.P f=.ok R.n f:=by simp[sizeOf,typeInfo,M,x1]
 obtain⟨e,-,m,S⟩:=Src.run (P:=c.P) (R:=R) (cap:=z) x0 xs.length (YA _);rw[Ir]at m;have v:=m.length;have O:i*R.n+e.length<=a.length:=by rw[v,p.length,<-SE];exact Q0 _ hz
 have x:=zC (P:=c.P) (b:=b) (o:=i*R.n) (T:=T) e 0 a f m.cell (t.Xb (b,T,a) Zc) (by simpa using O);simp only[Ey]at x;have I:=iF (rt:=ty) hu G X J S (base:=some ⟨b,0,none⟩) (by simpa[RH]using x);have U:(execOp h.eval ⟨some d,.call {callee:=.builtin .append,args:=#[j,y],argTypes:=#[ST,XT]},ty,pos,aft,none⟩).run c.P f=.ok (.value (.slice (some ⟨b,0,none⟩) (i+xs.length) cap)) (Vv f b T (a.take (i*R.n)++e++a.drop (i*R.n+e.length))):=by simp only[execOp,resolve,YF,Xz,Y3,invoke,builtin];simp only[C4,Wb,NR,B,C,I,Y3];rw[Yc]
 rw[U];have A:i*R.n+e.length=(i+xs.length)*R.n:=by rw[v,SE]
 refine⟨q,(b,T,a.take (i*R.n)++e++a.drop (i*R.n+e.length))::r,t.Vv _,n.put (by rw[Q];simpa[TN]using D) rfl,⟨[_],r,rfl,⟨_,rfl,?_⟩,W⟩,ZW.Zf7 u (ZW.Vv (by simp[Hp.bs]))⟩;rw[A];exact((p.cut i).1.append (VT.of m)).append (p.cut _).2
def Ze2{ST T E:TypeId}{b o}{R:Z1 α}{zs}(hx:Xe Γ j (val (.slice (some ⟨b,o*R.n,none⟩) f e)))(N:Ra H (Jg b T R zs) H')(q:0<f)(L:o+f<=zs.length)(G:J0 c.P ST E R.n=true)(X:((MG c.P E).elim false λzc=>zc.all (·.oneCell'))=true)(k:QB c Z l Γ (Jg b T R (zs.take o++List.replicate f none++zs.drop (o+f))::H') K):QB c Z (⟨none,.call {callee:=.builtin .clear,args:=#[j],argTypes:=#[ST]},ty,pos,aft,none⟩::l) Γ H K:=by
 refine Ze4 rfl ?_ k;intro D hs n i M _ V x hn;have F:n.eval j=_:=hx D n (x.Z9 j);obtain⟨g1,u,A,⟨h,J,r⟩,U⟩:=V.pick N;subst J;have y:=M.perm A;obtain⟨W,x3,a,z,x2,-,-,C,x0⟩:=uV G;have x1:∀i:World,(zeroValue E).run c.P i=.ok a i:=λi=>by simp[zeroValue,typeInfo,z,C]
 have Q:a.cells.toList.all (·.oneCell')=true:=by have p:=X;rw[show MG c.P E=some a.cells.toList by simp[MG,z,C]]at p;exact p
 have I:∀v∈(Builtin.zeroCells a.cells f).toList,v.oneCell'=true:=λv t=>by
  have:v∈a.cells.toList:=by unfold Builtin.zeroCells at t;simp at t⊢;obtain⟨n,w,rfl⟩:=t;have q:n%a.cells.size<a.cells.size:=Ez _ (Nat.pos_of_ne_zero λp=>by rw[p]at w;simp at w);rw[getElem!_pos a.cells _ q];exact Array.getElem_mem q
  exact CZ Q v this
 have s:(Builtin.zeroCells a.cells f).toList.length=f*R.n:=by simp[Builtin.zeroCells,x0]
 have O:o*R.n+(Builtin.zeroCells a.cells f).toList.length<=h.length:=by rw[s,r.length,<-SE];exact Q0 _ L
 have B:=zC (P:=c.P) (b:=b) (o:=o*R.n) (T:=T) _ 0 h i I (y.Xb (b,T,h) Zc) (by simpa using O);simp only[Ey]at B;obtain⟨m,rfl⟩:∃m,f=m+1:=⟨f-1,Y⟩;have S:(execOp n.eval ⟨none,.call {callee:=.builtin .clear,args:=#[j],argTypes:=#[ST]},ty,pos,aft,none⟩).run c.P i=.ok (.value (.tuple #[])) (Vv i b T (h.take (o*R.n)++(Builtin.zeroCells a.cells (m+1)).toList++h.drop (o*R.n+(Builtin.zeroCells a.cells (m+1)).toList.length))):=by simp only[execOp,resolve,YF,Xz,Y3,invoke,builtin];simp only[C4,Wb,NR,F,Builtin.clear_,KP,KN,YF,W8 W,Y3,x1,B,Xz]
 rw[S];refine⟨D,(b,T,h.take (o*R.n)++(Builtin.zeroCells a.cells (m+1)).toList++h.drop (o*R.n+(Builtin.zeroCells a.cells (m+1)).toList.length))::u,y.Vv _,x,⟨[_],u,rfl,⟨_,rfl,?_⟩,U⟩,ZW.Zf7 A (ZW.Vv (by simp[Hp.bs]))⟩;rw[s,<-SE];exact((r.cut o).1.append (VT.dJ _ s)).append (r.cut _).2
def Zgv{sz:Nat}{x q r s}{R:Z1 α}{v}{xs}{i j k}(hx:Xe Γ x (ov v))(I:Ra H (own e R v xs) H')(h1:Xe Γ q (i64.slot i))(h2:Xe Γ r (i64.slot j))(F:Xe Γ s (i64.slot k))(q0:0<=i)(q1:i<=j)(q2:j<=k)(q3:k<=xs.length)(G:US c.P f sz=true):PJ c ⟨od,.slice f x (some q) (some r) (some s),ty,pos,aft,g⟩ Γ H any:=Nz λm X a o W _ M h=>by
  have A:a.eval x=v:=(JP.1 (hx m a (h x Yr))).1;have B:=V6 (h1 m a (h q Yr));have C:=V6 (h2 m a (h r Yr));have D:=V6 (F m a (h s Yr));obtain⟨T,U,_,J,_⟩:=M.pick I;obtain⟨Q,z,O,V⟩:=own.shape J;subst O;obtain⟨S,N,L⟩:=FZ G;have P:=NJ L o;have n:∀(b:Int)(p:Nat)(t:BoundsCode),0<=b->b<=p->(Instr.sliceBound (.int .i64 b) p t).run c.P o=.ok b.toNat o:=by intro b p t E h1;simp[Instr.sliceBound,asIntOf,E,h1]
  have u:=n k z .slice3Acap Y Y;have w:=n j k.toNat .slice3B Y Y;have y:=n i j.toNat .slice3C Y Y;exact⟨_,by simp only[execOp,A,B,C,D,Gc,YF,Instr.sliceAt,W8 N,Y3,Instr.slice,Instr.sliceBounds,Qe,Option.isSome_some,u,w,y,Xz,P];rfl,trivial⟩
def slV(b lo n sz:Nat):Wh:=⟨λ_ v=>∃a e,v=.slice a n e/\(0<n->a=some ⟨b,lo*sz,none⟩),λ_ f=>f⟩
def Zgw{n cap sz j:Nat}{x y}(hx:Xe Γ x (val (.slice (some ⟨e,0,none⟩) n cap)))(r:Xe Γ y (i64.slot j))(h1:j<=n)(h2:n<=cap)(p:US c.P f sz=true):PJ c ⟨od,.slice f x (some y) none none,ty,pos,aft,g⟩ Γ H (slV e j (n-j) sz):=Nz λi u a s t _ _ b=>by have k:a.eval x=_:=hx i a (b x Yr);have m:=V6 (r i a (b y Yr));have q:=am (P:=c.P) p (a:=some ⟨e,0,none⟩) (len:=n) (cap:=cap) (lo:=some (.int .i64 (j:Int))) (hi:=none) (l:=some (j:Int)) (h:=none) (.inr ⟨.i64,j,rfl,rfl⟩) (.inl ⟨rfl,rfl⟩) Zc XV XV s;refine⟨_,by simp only[execOp,k,m,sN,Gc,YF,q];rfl,_,_,rfl,λo=>?_⟩;simp only[jt,Option.getD_none,WL]at o⊢;rw[Ys Y];simp[RH]
def Zjb{b lo}{T}{R:Z1 α}{zs}{xs}(hx:Xe Γ j (slV b lo f R.n))(t:Ra H (Jg b T R zs) H')(C:xs.length=f)(h:(zs.drop lo).take xs.length=xs.map some):ZcI c Γ H j R f xs:=by
 intro z x k F s y r;obtain⟨m,n,p,q⟩:=hx z k r;obtain⟨A,B,v,⟨o,rfl,w⟩,_⟩:=y.pick t;have u:(b,T,o)∈x:=v.mem_iff.2 Zc;have i:=((w.cut lo).2.cut xs.length).1;rw[h]at i;refine⟨m,n,p,?_⟩;obtain e|e:=Nat.eq_zero_or_pos xs.length;·exact .inl (jh e)
 ·refine .inr ⟨b,lo*R.n,_,q Y,VT.to i,λD E a=>?_⟩;rw[NQ]at a;split at a;·rw[Py]at a;exact s.cells u _ _ a
  ·cases a
end
section
open Go.Proofs
def ZdH{α:Type}(s:L α)(i j a)(h1:i<=j)(h2:j<=s.length):let b:=(s.map some++List.replicate a none).take i++(s.drop j).map some++(s.map some++List.replicate a none).drop (i+(s.drop j).length)
  b.take (i+(s.drop j).length)++List.replicate (s.length-(i+(s.drop j).length)) none++b.drop (i+(s.drop j).length+(s.length-(i+(s.drop j).length)))=(s.take i++s.drop j).map some++List.replicate (j-i+a) none:=by
 intro b;have f:(s.drop j).length=s.length-j:=VF;have e:(s.map some++List.replicate a (none:Zg α)).take i=(s.take i).map some:=by rw[KQ XV,List.map_take]
 have c:((s.take i).map some++(s.drop j).map (some:α->Zg α)).length=i+(s.drop j).length:=XV;have d:b=(s.take i).map some++(s.drop j).map some++(s.map some++List.replicate a (none:Zg α)).drop (i+(s.drop j).length):=by show _++_++_=_;rw[e]
 rw[d,CT c,<-TD,kS c,TD,show i+(s.drop j).length+(s.length-(i+(s.drop j).length))=(s.map (some:α->Zg α)).length by simp;omega,kS rfl,WW,Yc,List.replicate_append_replicate];congr 2;omega
set_option maxHeartbeats 4000000in
def ZmY{G}{T}{a}{g}(h1:f<=e)(h2:e<=a.length):Gk Tryz.prog G 64 [ov g,i64.slot f,i64.slot e] [own T (Go.R.ND true 2 nofun) g a] (λk=>ov k) λk=>[own T (Go.R.ND true 2 nofun) k (a.take f++a.drop e)]:=by
 refine Zdv Tryz.func64 rfl 33 rfl rfl λt v s=>?_;show Rt _ _ _ [(0,ov g),(1,i64.slot (f:Int)),(2,i64.slot (e:Int))] _;refine QN ?_;refine NE ?_;refine Ze1 (T:=136) (Go.R.ND true 2 nofun) rfl λu=>?_;refine P4 ?_;refine QN ?_;refine NE ?_;refine Vk (UR (Xg rfl)) rfl rfl rfl ?_;refine Vk (UR (Xg rfl)) rfl rfl rfl ?_;refine Vk (UR (Xg rfl)) rfl rfl rfl ?_;refine Vk (UR (Xg rfl)) rfl rfl rfl ?_;refine Vk (Zgt (sz:=2) (Xg rfl) (.next .here) ZV) rfl rfl rfl ?_;refine Vk (Zgv (sz:=2) (Xg rfl) (.next .here) (Xg rfl) (Xg rfl) (Xg rfl) Y Y Y Y ZV) rfl rfl rfl ?_;refine P4 ?_;refine QN ?_;refine QN ?_;refine NE ?_;refine Vk (UR (Xg rfl)) rfl rfl rfl ?_;refine Vk (UR (Xg rfl)) rfl rfl rfl ?_;refine Vk (cf (Xg rfl) (Xg rfl)) rfl rfl rfl ?_;refine P4 ?_;refine ZiJ (Xg rfl) (λh=>?_) λh=>?_
 ·have l:f=e:=by have:=yH h;omega
  subst l;rw[TM];refine QN ?_;refine NE ?_;refine Vk (UR (Xg rfl)) rfl rfl rfl ?_;refine Vk (Hr (Xg rfl)) rfl rfl rfl ?_;refine P4 ?_;exact lm λm r j=>ml j rfl (.tmp rfl) g (λ_ _ d=>d) (.cons (.next .here)<|.nil)
 ·have l:f<e:=by have:=jz h;omega
  have p:a≠[]:=by intro d;rw[d]at h2;simp at h2;omega
  have i:(a.drop e).length=a.length-e:=VF;refine ZiP ?_;refine QN ?_;refine NE ?_;refine Ze3 (.next .here) p λb c q=>?_;subst q;refine Vk (UR (Xg rfl)) rfl rfl rfl ?_;refine Vk (nD (sz:=2) (AC (Xg rfl)) ZV) rfl rfl rfl ?_;refine Vk (Hr (Xg rfl)) rfl rfl rfl ?_;refine P4 ?_;refine QN ?_;refine ZiL (n:=6) ZV ZV ZV ZV (.read (.plain rfl (UR (Xg rfl)))<|.read (.plain rfl (UR (Xg rfl)))<|.read (.plain rfl (nE (sz:=2) (AC (Xg rfl)) .no (.yes (Xg rfl) Ha) 0 f rfl rfl Y Y Y ZV))<|.read (.plain rfl (UR (Xg rfl)))<|.read (.plain rfl (UR (Xg rfl)))<|.read (.plain rfl (Zgw (sz:=2) (AC (Xg rfl)) (Xg rfl) h2 Y ZV))<|.nil) ?_;refine Ze0 (T:=T) (E:=136) (EX:=136) (b:=b) (i:=f) (cap:=a.length+c) (R:=Go.R.ND true 2 nofun) (xs:=a.drop e) (Xg rfl) .here (by rw[i];exact Zjb (b:=b) (lo:=e) (Xg rfl) .here i (by rw[KJ (by simpa using h2),i,CT Zc,List.map_drop])) Y XV ZV ZV ZV ?_;refine Vk (Hr (Xg rfl)) rfl rfl rfl ?_;refine P4 ?_;refine QN ?_;refine NE ?_;refine Vk (UR (Xg rfl)) rfl rfl rfl ?_;refine Vk (UR (Xg rfl)) rfl rfl rfl ?_;refine Vk (nD (sz:=2) (Xg rfl) ZV) rfl rfl rfl ?_;refine Vk (UR (Xg rfl)) rfl rfl rfl ?_;refine Vk (nE (sz:=2) (cap:=a.length+c) (Xg rfl) (.yes (Xg rfl) Ha) (.yes (Xg rfl) Ha) (f+(a.drop e).length) a.length rfl rfl Y Y Y ZV) rfl rfl rfl ?_;refine Ze2 (T:=T) (E:=136) (b:=b) (o:=f+(a.drop e).length) (R:=Go.R.ND true 2 nofun) (Xg rfl) .here Y XV ZV ZV ?_;refine P4 ?_;refine QN ?_;refine NE ?_;refine Vk (UR (Xg rfl)) rfl rfl rfl ?_;refine Vk (Hr (Xg rfl)) rfl rfl rfl ?_;refine P4 ?_;refine ZiI (a.take f++a.drop e) (e-f+c) (f+(a.drop e).length) (a.length+c) .here (ZdH a f e c h1 h2) XV XV ?_;exact lm λm r j=>ml j rfl (.tmp rfl) (.slice (some ⟨b,0,none⟩) (f+(a.drop e).length) (a.length+c)) (λ_ _ d=>JP.2 ⟨d,rfl⟩) (.cons .here<|.nil)
set_option maxHeartbeats 4000000in
def ZmZ{G}{T}{a}{g}(h1:f<=e)(h2:e<=a.length):Gk Tryz.prog G 252 [ov g,i64.slot f,i64.slot e] [own T (Go.R.ND true 279 nofun) g a] (λk=>ov k) λk=>[own T (Go.R.ND true 279 nofun) k (a.take f++a.drop e)]:=by
 refine Zdv Tryz.func252 rfl 33 rfl rfl λt v s=>?_;show Rt _ _ _ [(0,ov g),(1,i64.slot (f:Int)),(2,i64.slot (e:Int))] _;refine QN ?_;refine NE ?_;refine Ze1 (T:=124) (Go.R.ND true 279 nofun) rfl λu=>?_;refine P4 ?_;refine QN ?_;refine NE ?_;refine Vk (UR (Xg rfl)) rfl rfl rfl ?_;refine Vk (UR (Xg rfl)) rfl rfl rfl ?_;refine Vk (UR (Xg rfl)) rfl rfl rfl ?_;refine Vk (UR (Xg rfl)) rfl rfl rfl ?_;refine Vk (Zgt (sz:=279) (Xg rfl) (.next .here) ZV) rfl rfl rfl ?_;refine Vk (Zgv (sz:=279) (Xg rfl) (.next .here) (Xg rfl) (Xg rfl) (Xg rfl) Y Y Y Y ZV) rfl rfl rfl ?_;refine P4 ?_;refine QN ?_;refine QN ?_;refine NE ?_;refine Vk (UR (Xg rfl)) rfl rfl rfl ?_;refine Vk (UR (Xg rfl)) rfl rfl rfl ?_;refine Vk (cf (Xg rfl) (Xg rfl)) rfl rfl rfl ?_;refine P4 ?_;refine ZiJ (Xg rfl) (λh=>?_) λh=>?_
 ·have l:f=e:=by have:=yH h;omega
  subst l;rw[TM];refine QN ?_;refine NE ?_;refine Vk (UR (Xg rfl)) rfl rfl rfl ?_;refine Vk (Hr (Xg rfl)) rfl rfl rfl ?_;refine P4 ?_;exact lm λm r j=>ml j rfl (.tmp rfl) g (λ_ _ d=>d) (.cons (.next .here)<|.nil)
 ·have l:f<e:=by have:=jz h;omega
  have p:a≠[]:=by intro d;rw[d]at h2;simp at h2;omega
  have i:(a.drop e).length=a.length-e:=VF;refine ZiP ?_;refine QN ?_;refine NE ?_;refine Ze3 (.next .here) p λb c q=>?_;subst q;refine Vk (UR (Xg rfl)) rfl rfl rfl ?_;refine Vk (nD (sz:=279) (AC (Xg rfl)) ZV) rfl rfl rfl ?_;refine Vk (Hr (Xg rfl)) rfl rfl rfl ?_;refine P4 ?_;refine QN ?_;refine ZiL (n:=6) ZV ZV ZV ZV (.read (.plain rfl (UR (Xg rfl)))<|.read (.plain rfl (UR (Xg rfl)))<|.read (.plain rfl (nE (sz:=279) (AC (Xg rfl)) .no (.yes (Xg rfl) Ha) 0 f rfl rfl Y Y Y ZV))<|.read (.plain rfl (UR (Xg rfl)))<|.read (.plain rfl (UR (Xg rfl)))<|.read (.plain rfl (Zgw (sz:=279) (AC (Xg rfl)) (Xg rfl) h2 Y ZV))<|.nil) ?_;refine Ze0 (T:=T) (E:=124) (EX:=124) (b:=b) (i:=f) (cap:=a.length+c) (R:=Go.R.ND true 279 nofun) (xs:=a.drop e) (Xg rfl) .here (by rw[i];exact Zjb (b:=b) (lo:=e) (Xg rfl) .here i (by rw[KJ (by simpa using h2),i,CT Zc,List.map_drop])) Y XV ZV ZV ZV ?_;refine Vk (Hr (Xg rfl)) rfl rfl rfl ?_;refine P4 ?_;refine QN ?_;refine NE ?_;refine Vk (UR (Xg rfl)) rfl rfl rfl ?_;refine Vk (UR (Xg rfl)) rfl rfl rfl ?_;refine Vk (nD (sz:=279) (Xg rfl) ZV) rfl rfl rfl ?_;refine Vk (UR (Xg rfl)) rfl rfl rfl ?_;refine Vk (nE (sz:=279) (cap:=a.length+c) (Xg rfl) (.yes (Xg rfl) Ha) (.yes (Xg rfl) Ha) (f+(a.drop e).length) a.length rfl rfl Y Y Y ZV) rfl rfl rfl ?_;refine Ze2 (T:=T) (E:=124) (b:=b) (o:=f+(a.drop e).length) (R:=Go.R.ND true 279 nofun) (Xg rfl) .here Y XV ZV ZV ?_;refine P4 ?_;refine QN ?_;refine NE ?_;refine Vk (UR (Xg rfl)) rfl rfl rfl ?_;refine Vk (Hr (Xg rfl)) rfl rfl rfl ?_;refine P4 ?_;refine ZiI (a.take f++a.drop e) (e-f+c) (f+(a.drop e).length) (a.length+c) .here (ZdH a f e c h1 h2) XV XV ?_;exact lm λm r j=>ml j rfl (.tmp rfl) (.slice (some ⟨b,0,none⟩) (f+(a.drop e).length) (a.length+c)) (λ_ _ d=>JP.2 ⟨d,rfl⟩) (.cons .here<|.nil)
end
end Go.Sl
