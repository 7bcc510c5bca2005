import Derived.Test.YtnboodbndkcnaaaGreatDoorG1
set_option linter.all false
namespace Go.Sl
def YV:=λ{a b c}=>(@List.mem_singleton a b c).1
def VJ:=@List.length_singleton
def VU:=@List.count_append
def VX:=@List.perm_iff_count
def Ue:=@List.Perm.refl
def TE:=λ{a b c}=>(@List.mem_singleton a b c).2
def Su:=@cond_false
def S7:=@cond_true
def Pz:=@List.length_set
def O5:=λ{a b c}=>(@List.append_eq_nil_iff a b c).1
def MJ:=@List.append_inj
def LP:=@List.length_map
def LW:=@Nat.le_succ
def LX:=@Or.imp
def Ga:=@Nat.mul_one
def Gb:=@Ne.symm
def C0:=@List.flatten_append
def C5:=@List.mem_cons
def yp:=@List.all_cons
def yE:=@Nat.ble_eq
def yH:=@of_decide_eq_true
def tV:=@Array.toList_map
def se:=@List.ext_getElem?
def sQ:=@decide_false
def kU:=@Array.getElem?_modify
def kV:=@Array.getElem?_toList
def jo:=@Nat.lt_succ_self
def ZaY:=@List.replicate_succ'
def Za3:=@Array.length_toList
def Zbd:=@List.Perm.trans
def Zbg:=@List.flatten_nil
def Zbh:=@List.getElem?_eq_none
def Zbs:=@Go.Value.slice.injEq
end Go.Sl
namespace Go.R
open Go.Sl
abbrev HP:=L (Nat×Nat×Obj)
def HP.bs(hs:HP):L Nat:=hs.map (·.1)
def HP.Wo(a b):HP.bs (a++b)=a.bs++b.bs:=WW
structure GD(m:YO)(hs:HP)(w:World):Prop where
 mem:∀b o v,m b o=some v->w.cell? ⟨b,o,none⟩=some v
 nodup:hs.bs.Nodup
 Xb:∀h∈hs,w.heap[h.1]?=some h.2.2free:∀h∈hs,∀o,h.2.1<=o->m h.1 o=none
variable {C B f:Nat}{j:Zg (Nat×Bool)}{o:Array Edge}{s:Type}{y Q:Operand}{D:Zg Tmp}{E:String}{r b g:TypeId}{G:s}{I:XF}{d:Bx}{J:En}{H:World}{c e:HP}{z:Act}{M:Ty}{N:L Operand}{x:Int}{A:L Value}{k:Bool}{P a:CS}{p:L PS}{S:SV}{T:HP->L Value->s->Prop}{U:Program}{l:TV}{i:Value}
def GD.perm{m}(h:GD m c H)(p:c.Perm e):GD m e H where mem:=h.mem;nodup:=(p.map _).nodup_iff.1 h.nodup;Xb:=λa b=>h.Xb a Zp;free:=λa b=>h.free a (p.mem_iff.2 b)
def GD.right{m}{hs}(h:GD m (hs++c) H):GD m c H where
 mem:=h.mem;nodup:=by have:=h.nodup;rw[HP.Wo]at this;exact(List.nodup_append.1 this).2.1
 Xb:=λa b=>h.Xb a Zp;free:=λa b=>h.free a Zp
def GD.left{m}(h:GD m (c++e) H):GD m c H:=(h.perm Wr).right
def GD.nil{m}{hs}{w}(h:GD m hs w):GD m [] w:=GD.right (by simpa using h)
def GD.lt{m}(a:GD m c H){v}(h:m C B=some v):C<H.heap.size:=Zbt H _ (a.mem C B v h)
def GD.P6{m}(a:GD m c H)(h:C∈c.bs):C<H.heap.size:=by obtain⟨d,b,rfl⟩:=VR h;have:=a.Xb d b;grind
def GD.drew{m}(a:GD m c H):GD m c H.drew:=⟨a.mem,a.nodup,a.Xb,a.free⟩
def GD.frame{m i}{h1 h1'}{w'}(f:GD m (h1++c) H)(g:GD i h1' w')(e:ZW H w' m i h1.bs h1'.bs):GD i (h1'++c) w'/\ZW H w' m i (h1++c).bs (h1'++c).bs:=by
 have k:=f.nodup;rw[HP.Wo,T5]at k;have j:=λd a q=>k.2.2 d q d a rfl;have l:∀d∈HP.bs c,d<H.heap.size:=λd a=>f.P6 (by rw[HP.Wo];exact Ym (.inr a));refine⟨⟨g.mem,?_,?_,?_⟩,by rw[HP.Wo,HP.Wo];exact e.wide _⟩
 ·rw[HP.Wo,T5];refine⟨g.nodup,k.2.1,λd a r p o=>?_⟩;subst o;obtain h|h:=e.own d a;·exact j d p h
  ·grind
 ·intro b hx;obtain hx|hx:=ZY hx;·exact g.Xb b hx
  ·have a:b.1∈HP.bs c:=Ol ⟨b,hx,rfl⟩;rw[(e.Vu b.1 (l _ a) (j _ a)).1];exact f.Xb b (Ym (.inr hx))
 ·intro b hx n;obtain hx|hx:=ZY hx;·exact g.free b hx n
  ·have a:b.1∈HP.bs c:=Ol ⟨b,hx,rfl⟩;rw[(e.Vu b.1 (l _ a) (j _ a)).2];exact f.free b (Ym (.inr hx)) n
def ZW.Qm{w'}{m e}{hs1:HP}{d}(p:c.Perm hs1)(h:ZW H w' m e hs1.bs d):ZW H w' m e c.bs d:=by have f:∀a,a∈c.bs↔a∈hs1.bs:=λa=>(p.map _).mem_iff;exact{h with Vu:=λa b g=>h.Vu a b Xk,own:=λa b=>(h.own a b).imp (f a).2 id}
def ZW.Od{w'}{m a}{bs}(p:e.Perm c)(h:ZW H w' m a bs e.bs):ZW H w' m a bs c.bs:=by exact h.sub (λd b=>((p.map (·.1)).mem_iff).2 b)
structure KK where
 nm:Nat->Option Value
 fm:Nat->Nat->Option Value
 m:YO
structure KK.le(K K':KK):Prop where
 nm:∀j v,K.nm j=some v->K'.nm j=some v
 fm:∀f i v,K.fm f i=some v->K'.fm f i=some v
 m:Wy K.m K'.m
def KK.le.refl(K):KK.le K K:=⟨Zc,Zc,Wy.refl _⟩
def KK.le.trans{a b c}(h:KK.le a b)(k:KK.le b c):KK.le a c:=⟨λg v d=>k.nm g v (h.nm g v d),λe f v d=>k.fm e f v (h.fm e f v d),h.m.trans k.m⟩
def Row{α:Type}(n:Nat)(R:HP->L Value->α->Prop):HP->L Value->L α->Prop|hs,cs,[]=>cs=[]/\hs=[]|hs,cs,x::xs=>∃a b c d,cs=a++b/\hs=c++d/\a.length=n/\R c a x/\Row n R d b xs
def F2{α β:Type}(R:α->β->Prop):L α->L β->Prop|[],ys=>ys=[]|x::xs,ys=>∃a b,ys=a::b/\R x a/\F2 R xs b
def XZ(ag:Bool)(cs:L Value):Value:=match ag with|true=>.agg cs.toArray|false=>cs.headD undef
def UC:Ty->L Value->L Value->Prop|.cons a b,cs,vs=>∃c d v e,cs=c++d/\vs=v::e/\c.length=a.n/\v=XZ a.ag c/\UC b d e|.nl,cs,vs=>cs=[]/\vs=[]|_,_,_=>False
def cellsOf(cs:L Value)(T:TypeId):Obj:=.cells cs.toArray T (0,0)
def Hk:L Nat->Nat|[]=>0|0::l=>Hk l|(k+1)::l=>k+Hk l
def rel(K:KK):(t:Ty)->HP->L Value->t.den->Prop|.int,hs,cs,x=>hs=[]/\cs=[.int .i64 x]|.un k w,hs,cs,x=>hs=[]/\cs=[.int k ((x:ZO w).toNat:Int)]|.bool,hs,cs,x=>hs=[]/\cs=[.bool x]|.str,hs,cs,x=>hs=[]/\∃H:ByteArray,cs=[.string H]/\H.data.toList.map UInt8.toBitVec=x|.vec n t,hs,cs,x=>Row t.n (rel K t) hs cs (Vector.toList x)|.pair d a,hs,cs,x=>∃r s o q,hs=r++s/\cs=o++q/\rel K d r o x.1/\rel K a s q x.2|.only t,hs,cs,x=>rel K t hs cs x|.sl t,hs,cs,x=>hs=[]/\∃d e,cs=[.slice d (List.length x) e]/\List.length x<=e/\(x=[]\/∃a i b,d=some ⟨a,i,none⟩/\Row t.n (rel K t) [] b x/\At K.m a i b)|.nz t,hs,cs,x=>hs=[]/\(x=[]/\cs=[.slice none 0 0]\/x≠[]/\∃a i b e,cs=[.slice (some ⟨a,i,none⟩) (List.length x) e]/\List.length x<=e/\Row t.n (rel K t) [] b x/\At K.m a i b)|.ptr t,hs,cs,x=>hs=[]/\(x=none/\cs=[.pointer none]\/∃l a i g,x=some l/\cs=[.pointer (some ⟨a,i,none⟩)]/\rel K t [] g l/\At K.m a i g)|.YT f _,hs,cs,x=>hs=[]/\(x=none/\cs=[.pointer none]\/∃n v,x=some n/\K.fm f n=some v/\cs=[v]/\v.oneCell'=true)|.hole j,hs,cs,_=>hs=[]/\∃v,K.nm j=some v/\cs=[v]/\v.oneCell'=true|.Um j p,hs,cs,_=>hs=[]/\∃a,K.nm j=some (.pointer (some ⟨a,0,none⟩))/\cs=[.pointer (some ⟨a,Hk p,none⟩)]|.fn f d c,hs,cs,x=>hs=[]/\∃y z C,cs=[.func (.func f) y.toArray z.toArray]/\(∃A,UC d A y/\rel K d [] A x.1)/\UC c C z/\rel K c [] C x.2|.Tz,hs,cs,_=>hs=[]/\cs=[.slice none 0 0]|.Ub,hs,cs,_=>hs=[]/\cs=[.pointer none]|.Hg,hs,cs,_=>hs=[]/\cs=[.map none]|.vG,hs,cs,_=>hs=[]/\cs=[.nilFunc]|.bit a,hs,cs,_=>hs=[]/\cs=[.bool a]|.own t,hs,cs,x=>∃a m g h,hs=(a,0,cellsOf g m)::h/\cs=[.pointer (some ⟨a,0,none⟩)]/\rel K t h g x|.opt t,hs,cs,x=>x=none/\hs=[]/\cs=[.pointer none]\/∃l a m g h,x=some l/\hs=(a,0,cellsOf g m)::h/\cs=[.pointer (some ⟨a,0,none⟩)]/\rel K t h g l|.full t,hs,cs,x=>(x=[]/\hs=[]/\∃d,cs=[.slice d 0 0])\/∃a m e b u h,cs=[.slice (some ⟨a,0,none⟩) (List.length x) e]/\hs=(a,0,cellsOf (b++u) m)::h/\Row t.n (rel K t) h b x/\List.length x<=e/\(b++u).length=e*t.n|.YU t,hs,cs,x=>(x=[]/\hs=[]/\∃d,cs=[.slice d 0 0])\/∃a m e b u,cs=[.slice (some ⟨a,0,none⟩) (List.length x) e]/\hs=[(a,b.length,cellsOf (b++u) m)]/\Row t.n (rel K t) [] b x/\At K.m a 0 b/\List.length x<=e/\(b++u).length=e*t.n|.map k v,hs,cs,x=>∃a F J,cs=[.map (some a)]/\hs=[(a,0,.map F J)]/\F2 (λ(E:MapEntry)(l:k.den×v.den)=>(∃B,E.key=XZ k.ag B/\rel K k [] B l.1)/\∃D,E.val=XZ v.ag D/\rel K v [] D l.2) F.toList x|.YS f t,hs,cs,x=>cs=[]/\∃I,(∀G v,I[G]?=some v->K.fm f G=some v)/\Row 1 (rel K t) hs I x|.nl,hs,cs,_=>hs=[]/\cs=[]|.cons d a,hs,cs,x=>∃r s o q,hs=r++s/\cs=o++q/\rel K d r o x.1/\rel K a s q x.2
def Row.imp{α}{n}{R a}(h:∀hs cs x,R hs cs x->a hs cs x):∀{xs:L α}{hs}{cs},Row n R hs cs xs->Row n a hs cs xs|[],_,_,k=>k|_::_,_,_,⟨c,c',g,d,e,b,l,r,k⟩=>⟨c,c',g,d,e,b,l,h _ _ _ r,Row.imp h k⟩
def F2.imp{α β}{R a}(h:∀x y,R x y->a x y):∀{xs:L α}{ys:L β},F2 R xs ys->F2 a xs ys|[],_,k=>k|_::_,_,⟨y,b,e,r,k⟩=>⟨y,b,e,h _ _ r,F2.imp h k⟩
def Xw{K K'}(g:K.le K'):∀{t}{hs}{cs}{x},rel K t hs cs x->rel K' t hs cs x:=by intro t;induction t with|vec L t e=>intro hs cs x a;exact Row.imp (λ_ _ _ a=>e a) a|pair s d q F=>rintro hs cs x⟨B,C,w,y,b,z,u,G⟩;exact⟨B,C,w,y,b,z,q u,F G⟩|only t e=>intro hs cs x a;exact e (x:=x) a|sl t e=>rintro hs cs x⟨b,s,i,c,l,a⟩;refine⟨b,s,i,c,l,a.imp id λ⟨d,r,m,R,f,k⟩=>⟨d,r,m,R,Row.imp (λ_ _ _ a=>e a) f,k.mono g.m⟩⟩|nz t e=>rintro hs cs x⟨b,a⟩;refine⟨b,a.imp id λ⟨V,d,r,m,i,c,l,f,k⟩=>⟨V,d,r,m,i,c,l,Row.imp (λ_ _ _ a=>e a) f,k.mono g.m⟩⟩|ptr t e=>rintro hs cs x⟨b,a⟩;refine⟨b,a.imp id λ⟨I,d,r,n,o,c,f,k⟩=>⟨I,d,r,n,o,c,e f,k.mono g.m⟩⟩|YT J t _=>rintro hs cs x⟨b,a⟩;refine⟨b,a.imp id λ⟨L,v,o,j,c,A⟩=>⟨L,v,o,g.fm _ _ _ j,c,A⟩⟩|hole Z=>rintro hs cs x⟨b,v,j,c,A⟩;exact⟨b,v,g.nm _ _ j,c,A⟩|Um Z u=>rintro hs cs x⟨b,d,j,c⟩;exact⟨b,d,g.nm _ _ j,c⟩|fn J s x0 q X=>rintro hs cs x⟨b,M,N,Q,c,⟨O,D,f⟩,U,T⟩;exact⟨b,M,N,Q,c,⟨O,D,q f⟩,U,X T⟩|own t e=>rintro hs cs x⟨d,h,n,p,b,c,f⟩;exact⟨d,h,n,p,b,c,e (x:=x) f⟩|opt t e=>intro hs cs x a;refine LX id (λ⟨I,d,h,n,p,o,b,c,f⟩=>⟨I,d,h,n,p,o,b,c,e f⟩) a|full t e=>intro hs cs x a;refine LX id (λ⟨d,h,i,m,H,p,c,b,f,l,E⟩=>⟨d,h,i,m,H,p,c,b,Row.imp (λ_ _ _ a=>e a) f,l,E⟩) a|YU t e=>intro hs cs x a;refine LX id (λ⟨d,h,i,m,H,c,b,f,k,l,E⟩=>⟨d,h,i,m,H,c,b,Row.imp (λ_ _ _ a=>e a) f,k.mono g.m,l,E⟩) a|map x3 v x1 x2=>rintro hs cs x⟨d,S,P,c,b,a⟩;refine⟨d,S,P,c,b,F2.imp ?_ a⟩;grind|YS J t e=>rintro hs cs x⟨b,vs,D,f⟩;exact⟨b,vs,λW v j=>g.fm _ _ _ (D W v j),Row.imp (λ_ _ _ a=>e a) f⟩|cons s d q F=>rintro hs cs x⟨B,C,w,y,b,z,u,G⟩;exact⟨B,C,w,y,b,z,q u,F G⟩|_=>intro hs cs x a;exact a
def Row.length{α}{n}{R}:∀{xs:L α}{hs}{cs},Row n R hs cs xs->cs.length=xs.length*n|[],_,_,h=>by simp[h.1]|_::xs,_,_,⟨c,c',g,b,e,a,l,r,k⟩=>by rw[e,YM,l,Row.length k,Wl,SE,O7,yD]
def Row.cell{α}{n}{R}(a:∀hs cs x,R hs cs x->∀v∈cs,v.oneCell'=true):∀{xs:L α}{hs}{cs},Row n R hs cs xs->∀v∈cs,v.oneCell'=true|[],_,_,h,v,hv=>by simp[h.1]at hv|_::xs,_,_,⟨c,c',g,d,e,b,l,r,k⟩,v,hv=>by rw[e,Sr]at hv;exact hv.elim (a _ _ _ r v) (Row.cell a k v)
def WU{K}:∀{t}{hs}{cs}{x},rel K t hs cs x->cs.length=t.n:=by intro t;induction t with|vec n t b=>intro hs cs x h;have:=Row.length h;simpa[Ty.n]using this|pair d c i j=>rintro hs cs x⟨s,u,q,r,a,rfl,e,k⟩;simp[Ty.n,i e,j k]|cons d c i j=>rintro hs cs x⟨s,u,q,r,a,rfl,e,k⟩;simp[Ty.n,i e,j k]|only t b=>intro hs cs x h;exact b h|sl t b=>rintro hs cs x⟨a,d,g,rfl,_⟩;rfl|nz t b=>rintro hs cs x⟨a,⟨_,rfl⟩|⟨_,c,y,p,g,rfl,_⟩⟩<;>rfl|ptr t b=>rintro hs cs x⟨a,⟨_,rfl⟩|⟨A,c,y,l,_,rfl,_⟩⟩<;>rfl|YT m t _=>rintro hs cs x⟨a,⟨_,rfl⟩|⟨n,v,_,_,rfl,_⟩⟩<;>rfl|hole w=>rintro hs cs x⟨a,v,_,rfl,_⟩;rfl|Um w e=>rintro hs cs x⟨a,c,_,rfl⟩;rfl|fn m d D _ _=>rintro hs cs x⟨a,B,C,F,rfl,_⟩;rfl|str=>rintro hs cs x⟨a,J,rfl,_⟩;rfl|own t b=>rintro hs cs x⟨c,f,l,o,a,rfl,H⟩;rfl|opt t b=>rintro hs cs x(⟨_,_,rfl⟩|⟨A,c,f,l,o,_,_,rfl,_⟩)<;>rfl|full t b=>rintro hs cs x(⟨_,_,d,rfl⟩|⟨c,f,g,p,z,o,rfl,_⟩)<;>rfl|YU t b=>rintro hs cs x(⟨_,_,d,rfl⟩|⟨c,f,g,p,z,rfl,_⟩)<;>rfl|map I v _ _=>rintro hs cs x⟨c,G,E,rfl,_⟩;rfl|YS m t b=>rintro hs cs x⟨rfl,_⟩;rfl|_=>rintro hs cs x⟨_,rfl⟩;rfl
def Qn{K}:∀{t}{hs}{cs}{x},rel K t hs cs x->∀v∈cs,v.oneCell'=true:=by
 intro t;induction t with|vec y t b=>intro hs cs x f;exact Row.cell (λ_ _ _ f=>b f) f|pair e d s u=>rintro hs cs x⟨q,r,o,p,c,rfl,m,A⟩v a;grind|cons e d s u=>rintro hs cs x⟨q,r,o,p,c,rfl,m,A⟩v a;grind|only t b=>intro hs cs x f;exact b (x:=x) f|sl t b=>rintro hs cs x⟨c,e,h,rfl,_⟩v a;simp at a;subst a;rfl|nz t b=>rintro hs cs x⟨c,⟨_,rfl⟩|⟨_,d,z,n,h,rfl,_⟩⟩v a<;>(simp at a;subst a;rfl)|ptr t b=>rintro hs cs x⟨c,⟨_,rfl⟩|⟨D,d,z,j,_,rfl,_⟩⟩v a<;>(simp at a;subst a;rfl)|YT k t _=>
  rintro hs cs x⟨c,⟨_,rfl⟩|⟨y,v,_,_,rfl,i⟩⟩C a;·simp at a;subst a;rfl
  ·simp at a;subst a;exact i|hole w=>rintro hs cs x⟨c,v,_,rfl,i⟩C a;simp at a;subst a;exact i|Um w m=>rintro hs cs x⟨c,d,_,rfl⟩v a;simp at a;subst a;rfl|fn k e G _ _=>rintro hs cs x⟨c,E,F,I,rfl,_⟩v a;simp at a;subst a;rfl|str=>rintro hs cs x⟨c,N,rfl,_⟩v a;simp at a;subst a;rfl|own t b=>rintro hs cs x⟨d,g,j,l,c,rfl,L⟩v a;simp at a;subst a;rfl|opt t b=>rintro hs cs x(⟨_,_,rfl⟩|⟨D,d,g,j,l,_,_,rfl,_⟩)v a<;>(simp at a;subst a;rfl)|full t b=>rintro hs cs x(⟨_,_,e,rfl⟩|⟨d,g,h,n,B,l,rfl,_⟩)v a<;>(simp at a;subst a;rfl)|YU t b=>rintro hs cs x(⟨_,_,e,rfl⟩|⟨d,g,h,n,B,rfl,_⟩)v a<;>(simp at a;subst a;rfl)|map M v _ _=>rintro hs cs x⟨d,J,H,rfl,_⟩v a;simp at a;subst a;rfl|YS k t b=>rintro hs cs x⟨rfl,_⟩v a;simp at a|nl=>rintro hs cs x⟨_,rfl⟩v a;simp at a|_=>rintro hs cs x⟨_,rfl⟩v a;simp at a;subst a;rfl
def Row.Kn{α}{n}{R:HP->L Value->α->Prop}(a:∀hs cs x,R hs cs x->hs=[]):∀{xs}{hs}{cs},Row n R hs cs xs->hs=[]|[],_,_,h=>h.2|_::xs,_,_,⟨c,c',g,d,e,b,l,r,k⟩=>by rw[b,a _ _ _ r,Row.Kn a k];rfl
def SZ{K}:∀{t},t.plain=true->∀{hs}{cs}{x},rel K t hs cs x->hs=[]:=by intro t;induction t with|vec q t b=>exactλa hs cs x c=>Row.Kn (λ_ _ _ c=>b a c) c|pair e f k l=>intro a;simp[Ty.plain,YL]at a;rintro hs cs x⟨i,j,g,h,d,rfl,m,n⟩;grind|cons e f k l=>intro a;simp[Ty.plain,YL]at a;rintro hs cs x⟨i,j,g,h,d,rfl,m,n⟩;grind|only t b=>exactλa hs cs x c=>b a c|own t b=>intro a;cases a|opt t b=>intro a;cases a|full t b=>intro a;cases a|YU t b=>intro a;cases a|map p v _ _=>intro a;cases a|YS o t b=>intro a;cases a|_=>exactλa hs cs x⟨d,_⟩=>d
def Row.append{α:Type}{n:Nat}{R:HP->L Value->α->Prop}:∀{xs ys}{h1 h2}{a b},Row n R h1 a xs->Row n R h2 b ys->Row n R (h1++h2) (a++b) (xs++ys)|[],_,_,_,_,_,h,k=>by rw[h.1,h.2];exact k|_::_,_,_,_,_,_,⟨c,c',g,d,e,i,l,r,k⟩,f=>⟨c,c'++_,g,d++_,Zp,Zp,l,r,Row.append k f⟩
def Row.split{α:Type}{n:Nat}{R:HP->L Value->α->Prop}:∀{xs ys}{hs}{cs},Row n R hs cs (xs++ys)->∃h1 h2,hs=h1++h2/\Row n R h1 (cs.take (xs.length*n)) xs/\Row n R h2 (cs.drop (xs.length*n)) ys|[],ys,hs,cs,h=>⟨[],hs,rfl,by simp[Row],Xk⟩|x::xs,ys,hs,cs,⟨c,c',g,j,e,f,l,r,k⟩=>by have⟨h1,h2,i,b,d⟩:=Row.split k;have a:(x::xs).length*n=c.length+xs.length*n:=Zp;refine⟨g++h1,h2,Zp,⟨c,c'.take _,g,h1,Zp,rfl,l,r,b⟩,by rw[a,e];simpa[QZ]using d⟩
def Row.single(a:A.length=C)(h:T c A G):Row C T c A [G]:=⟨A,[],c,[],Zc,Zc,a,h,rfl,rfl⟩
def Row.dO(h:Row C T c A [G]):A.length=C/\T c A G:=by obtain⟨a,b,f,g,d,e,k,l,i,j⟩:=h;grind
def Row.at{α:Type}{n:Nat}{R:HP->L Value->α->Prop}{xs}{hs}{cs}(h:Row n R hs cs xs){i}(hi):∃h1 a h2,hs=h1++(a++h2)/\Row n R h1 (cs.take (i*n)) (xs.take i)/\R a ((cs.drop (i*n)).take n) xs[i]/\Row n R h2 (cs.drop (i*n+n)) (xs.drop (i+1))/\i*n+n<=cs.length:=by have l:=h.length;rw[eC hi]at h;have⟨h1,h2,f,d,e⟩:=Row.split h;obtain⟨a,k,g,b,c⟩:=Row.split e;have j:(List.take i xs).length=i:=Zp;rw[j]at d e b c;simp at b c;refine⟨h1,a,k,by rw[f,g],d,b.dO.2,c,?_⟩;have:(i+1)*n<=xs.length*n:=Q0 _ hi;grind
def Row.set{n:Nat}{R:HP->L Value->s->Prop}{xs:L s}{i}(hi:i<xs.length){h2}{a}{y}(g:Row n R c (A.take (i*n)) (xs.take i))(h:Row n R h2 (A.drop (i*n+n)) (xs.drop (i+1)))(d:a.length=n)(f:R e a y):Row n R (c++(e++h2)) (A.take (i*n)++a++A.drop (i*n+n)) (xs.set i y):=by
 have b:xs.set i y=xs.take i++([y]++xs.drop (i+1)):=by rw[ZkF,Y4 hi,C6]
 rw[b,Yc];exact g.append ((Row.single d f).append h)
def Row.take{xs}(k)(h:Row C T [] A xs):Row C T [] (A.take (k*C)) (xs.take k):=by
 by_cases d:k<=xs.length;·rw[<-TM k xs]at h;have⟨b,c,a,f,_⟩:=Row.split h;simp_all
 ·have e:xs.take k=xs:=UT Y;have:A.take (k*C)=A:=UT (by rw[h.length];exact Q0 _ Y);grind
def Row.drop{R:HP->L Value->s->Prop}{xs}(k)(h:Row C R [] A xs):Row C R [] (A.drop (k*C)) (xs.drop k):=by
 by_cases e:k<=xs.length;·rw[<-TM k xs]at h;have⟨c,d,b,_,f⟩:=Row.split h;simp_all
 ·have a:xs.drop k=[]:=QZ Y;have:A.drop (k*C)=[]:=QZ (by rw[h.length];exact Q0 _ Y);rw[a,this];exact⟨rfl,rfl⟩
inductive PK:TV->List PS->TV->Prop|nil{v:TV}:PK v [] v|a{a b:Ty}{x:(Ty.pair a b).den}{p:List PS}{u:TV}:PK ⟨a,x.1⟩ p u->PK ⟨.pair a b,x⟩ (.a::p) u|b{a b:Ty}{x:(Ty.pair a b).den}{p:List PS}{u:TV}:PK ⟨b,x.2⟩ p u->PK ⟨.pair a b,x⟩ (.b a.n::p) u|o{t:Ty}{x:t.den}{p:List PS}{u:TV}:PK ⟨t,x⟩ p u->PK ⟨.only t,x⟩ (.o::p) u|vec{n:Nat}{t:Ty}{x:Vector t.den n}{i:Int}{y:t.den}{p:List PS}{u:TV}:ya x i=some y->PK ⟨t,y⟩ p u->PK ⟨.vec n t,x⟩ (.ix i t.n n::p) u
inductive RO:TV->List PS->TV->TV->Prop|nil{v y:TV}:v.t.n=y.t.n->RO v [] y y|a{a b:Ty}{x:(Ty.pair a b).den}{p:List PS}{y r:TV}:RO ⟨a,x.1⟩ p y r->RO ⟨.pair a b,x⟩ (.a::p) y ⟨.pair r.t b,(r.x,x.2)⟩|b{a b:Ty}{x:(Ty.pair a b).den}{p:List PS}{y r:TV}:RO ⟨b,x.2⟩ p y r->RO ⟨.pair a b,x⟩ (.b a.n::p) y ⟨.pair a r.t,(x.1,r.x)⟩|o{t:Ty}{x:t.den}{p:List PS}{y r:TV}:RO ⟨t,x⟩ p y r->RO ⟨.only t,x⟩ (.o::p) y ⟨.only r.t,r.x⟩|ZaG{n:Nat}{t:Ty}{x:Vector t.den n}{i:Int}{z:t.den}:RO ⟨.vec n t,x⟩ [.ix i t.n n] ⟨t,z⟩ ⟨.vec n t,x.setIfInBounds i.toNat z⟩|vec{n:Nat}{t:Ty}{x:Vector t.den n}{i:Int}{w z:t.den}{p:List PS}{y:TV}:ya x i=some w->RO ⟨t,w⟩ p y ⟨t,z⟩->RO ⟨.vec n t,x⟩ (.ix i t.n n::p) y ⟨.vec n t,x.setIfInBounds i.toNat z⟩
def BQ{d:Nat}(h:(Nat.beq C B&&Nat.beq f d)=true):C=B/\f=d:=by simp_all
def Yq{x}(h:(bif k then x else none)=some G):k=true/\x=some G:=by grind
def Rv{v}{k}(h:Sd M v k=some G):∃x,v=⟨M,x⟩/\k x=some G:=by
 unfold Sd at h;split at h;·obtain⟨a,x⟩:=v;grind
 ·cases h
def JB{R}:∀{p}{v}{k}{r:R},Mh v p k=some r->∃u,PK v p u/\k u=some r
 |[],v,k,r,h=>by
  have:Mh v [] k=k v:=by rfl
  exact⟨v,.nil,h⟩|s::p,⟨t,x⟩,k,r,h=>by
  cases t<;>cases s<;>simp[Mh]at h<;>try grind
  ·have⟨e,f⟩:=Yq h;have⟨e,i⟩:=BQ e;subst e i;have⟨l,j,g⟩:=Ti f;have⟨u,d,c⟩:=JB g;exact⟨u,.vec j d,c⟩
  ·have⟨u,d,c⟩:=JB h;exact⟨u,.a d,c⟩
  ·have⟨e,f⟩:=Yq h;cases Wc e;have⟨u,d,c⟩:=JB f;exact⟨u,.b d,c⟩
  ·have⟨u,d,c⟩:=JB h;exact⟨u,.o d,c⟩
def lA:∀{v y}{k}{r:s},Ps v p y k=some r->∃u,RO v p y u/\k u=some r:=by
 induction p with|nil=>
  intro v y k r c;have:Ps v [] y k=bif Nat.beq v.t.n y.t.n then k y else none:=by cases v;rfl
  rw[this]at c;obtain⟨d,c⟩:=Yq c;exact⟨y,.nil (Wc d),c⟩|cons q p h=>
  rintro⟨t,A⟩y k r c;cases t<;>cases q<;>(first|(simp only[Ps]at rfl;done)|(cases p<;>simp only[Ps]at c<;>cases c<;>done)|skip);case vec.ix=>cases p with|nil=>simp only[Ps]at c;obtain⟨d,f⟩:=Yq c;obtain⟨d,j⟩:=BQ d;subst d j;obtain⟨w,rfl,i⟩:=Rv f;exact⟨_,.ZaG,i⟩|cons x p=>simp only[Ps]at c;obtain⟨d,f⟩:=Yq c;obtain⟨d,j⟩:=BQ d;subst d j;obtain⟨z,n,i⟩:=Ti f;obtain⟨u,e,l⟩:=h i;obtain⟨w,rfl,m⟩:=Rv l;exact⟨_,.vec n e,m⟩
  case pair.a=>simp only[Ps]at c;obtain⟨u,e,g⟩:=h c;exact⟨_,.a e,g⟩
  case pair.b=>simp only[Ps]at c;obtain⟨d,f⟩:=Yq c;cases Wc d;obtain⟨u,e,g⟩:=h f;exact⟨_,.b e,g⟩
  case only.o=>simp only[Ps]at c;obtain⟨u,e,g⟩:=h c;exact⟨_,.o e,g⟩
def focus{K}{v u}{p}(h:PK v p u):∀{hs}{cs},rel K v.t hs cs v.x->∃k d,hs.Perm (k++d)/\rel K u.t k ((cs.drop (Yd p)).take u.t.n) u.x/\Yd p+u.t.n<=cs.length/\∀{K'}{y B},K.le K'->RO v p y B->∀{m}{s},rel K' y.t m s y.x->y.t.n=u.t.n/\∃f,f.Perm (m++d)/\rel K' B.t f (cs.take (Yd p)++s++cs.drop (Yd p+u.t.n)) B.x:=by induction h with
 |@nil v=>intro hs cs d;have M:=WU d;refine⟨hs,[],Zc,by simpa[Yd,<-M]using d,by simp[Yd,M],?_⟩;intro K' y B j q m s l;cases q with|nil E=>exact⟨E.symm,m,Zc,by simpa[Yd,<-M]using l⟩
 |@a a b x p u h G=>rintro hs cs⟨e,g,L,Z,rfl,rfl,J,O⟩;obtain⟨k,d,q,A,H,F⟩:=G J;refine⟨k,d++g,by rw[<-Yc];exact q.append_right g,by rw[show Yd (.a::p)=Yd p from rfl,KJ Y,KQ (by rw[VF];omega)];exact A,by rw[show Yd (.a::p)=Yd p from rfl,YM];omega,?_⟩;·intro K' y B j c m s l;cases c with|@a _ _ _ _ _ r c=>obtain⟨E,f,I,z⟩:=F j c l;refine⟨E,f++g,by rw[<-Yc];exact I.append_right g,f,g,_,_,rfl,?_,z,Xw j O⟩;rw[show Yd (.a::p)=Yd p from rfl,KQ Y,KJ Y];simp only[Yc]
 |@b a b x p u h G=>
  rintro hs cs⟨e,g,L,Z,rfl,rfl,J,O⟩;obtain⟨k,d,q,A,H,F⟩:=G O;have D:Yd (.b a.n::p)=L.length+Yd p:=by rw[WU J];rfl
  refine⟨k,e++d,?_,by rw[D,jf,QZ Y,UG];simpa using A,by rw[D,YM];omega,?_⟩;·refine(q.append_left e).trans ?_;rw[<-Yc,<-Yc];exact Wr.append_right d
  ·intro K' y B j c m s l;cases c with|@b _ _ _ _ _ r c=>
    obtain⟨E,f,I,z⟩:=F j c l;refine⟨E,e++f,?_,e,f,L,_,rfl,?_,Xw j J,z⟩;·refine(I.append_left e).trans ?_;rw[<-Yc,<-Yc];exact Wr.append_right d
    ·rw[D,List.take_append,UT Y,jf,QZ Y];simp only[Yc,UG];congr 3;·congr 1;omega
     ·congr 2;omega
 |@o t x p u h G=>intro hs cs d;obtain⟨k,z,q,A,H,F⟩:=G (hs:=hs) (cs:=cs) d;refine⟨k,z,q,A,H,?_⟩;intro K' y B j c m s l;cases c with|@o _ _ _ _ r c=>exact F j c l
 |@vec n t x i y p u hv h G=>
  intro hs cs d;obtain⟨h0,hi,x0⟩:=kq hv;have P:i.toNat<x.toList.length:=by simpa using hi
  obtain⟨e,hm,g,eh,k1,N,k3,x4⟩:=Row.at (xs:=x.toList) d P;have x1:x.toList[i.toNat]=y:=by rw[<-x0];simp
  rw[x1]at N;obtain⟨k,z,q,A,H,F⟩:=G N;have D:Yd (.ix i t.n n::p)=i.toNat*t.n+Yd p:=rfl;have x3:Yd p+u.t.n<=t.n:=by rw[<-WU N];exact H
  refine⟨k,e++(z++g),?_,?_,by rw[D];omega,?_⟩;·rw[eh];refine(V5 e (q.append_right g)).trans ?_;rw[Yc,<-Yc e,<-Yc k];exact Wr.append_right _
  ·rw[KM,TD,Is]at A;rw[D,<-PA (show u.t.n<=t.n-Yd p by omega)];exact A
  ·intro K' U B j c m s l;have T:∀{C:t.den},RO ⟨t,y⟩ p U ⟨t,C⟩->U.t.n=u.t.n/\∃f,f.Perm (m++(e++(z++g)))/\rel K' (.vec n t) f (cs.take (Yd (.ix i t.n n::p))++s++cs.drop (Yd (.ix i t.n n::p)+u.t.n)) (x.setIfInBounds i.toNat C):=by
    intro C c;obtain⟨E,f,I,Q⟩:=F j c l;refine⟨E,e++(f++g),?_,?_⟩;·refine(V5 e (I.append_right g)).trans ?_;rw[Yc,<-Yc e,<-Yc m];exact Wr.append_right _
    ·have e1:(x.setIfInBounds i.toNat C).toList=x.toList.set i.toNat C:=by simp[Vector.toList]
     show Row t.n (rel K' t) _ _ (Vector.toList (x.setIfInBounds i.toNat C));rw[e1];refine cast (WX (λX=>Row t.n (rel K' t) _ X _) ?_) (Row.set (R:=rel K' t) (y:=C) P (Row.imp (λ_ _ _ h=>Xw j h) k1) (Row.imp (λ_ _ _ h=>Xw j h) k3) (WU Q) Q);rw[D];have x2:=WU l;simp only[Yc,Is,KM,TD];rw[<-Yc (List.take _ _) (List.take _ _)];have V:List.take (i.toNat*t.n) cs++List.take (min (Yd p) t.n) (List.drop (i.toNat*t.n) cs)=List.take (i.toNat*t.n+Yd p) cs:=by rw[PA Y,yC]
     have W:List.take (t.n-(Yd p+u.t.n)) (List.drop (i.toNat*t.n+(Yd p+u.t.n)) cs)++List.drop (i.toNat*t.n+t.n) cs=List.drop (i.toNat*t.n+Yd p+u.t.n) cs:=by
      have:List.drop (i.toNat*t.n+t.n) cs=List.drop (t.n-(Yd p+u.t.n)) (List.drop (i.toNat*t.n+(Yd p+u.t.n)) cs):=by rw[TD];congr 1;omega
      rw[this,TM];congr 1;omega
     rw[V,W]
   cases c with
   |ZaG=>cases h with|nil=>exact T (.nil rfl)
   |@vec _ _ _ _ w C _ _ S c=>rw[hv]at S;cases S;exact T c
def Qw:L PS->Prop|[]=>True|.ix i _ m::p=>(0<=i/\i.toNat<m)/\Qw p|_::p=>Qw p
def RO.at{v r}(h:RO v p l r):Qw p->∃u,PK v p u:=by induction h with|nil _=>exactλ_=>⟨_,.nil⟩|a _ c=>intro b;have⟨u,h⟩:=c b;exact⟨u,.a h⟩|b _ c=>intro b;have⟨u,h⟩:=c b;exact⟨u,.b h⟩|o _ c=>intro b;have⟨u,h⟩:=c b;exact⟨u,.o h⟩|@ZaG n t x i z=>intro b;have⟨⟨e,f⟩,_⟩:=b;exact⟨_,.vec (y:=x[i.toNat]) (by unfold ya;grind) .nil⟩|vec d _ c=>intro b;have⟨u,h⟩:=c b.2;exact⟨u,.vec d h⟩
def WC(K:KK)(j:Nat)(v:TV)(h:HP):Prop:=∃a,rel K v.t h a v.x/\∀b∈a,K.nm j=some b
def ZS(K:KK):Bx->HP->Prop|[],_=>True|(j,v)::b,hs=>∃a c,hs.Perm (a++c)/\WC K j v a/\ZS K b c
def WC.mono{K K'}(a:K.le K'){v}(p:WC K C v c):WC K' C v c:=by have⟨b,d,e⟩:=p;exact⟨b,Xw a d,λg f=>a.nm _ _ (e g f)⟩
def ZS.mono{K K'}(a:K.le K'):∀{b}{hs},ZS K b hs->ZS K' b hs|[],_,_=>trivial|_::_,_,⟨h1,h2,c,p,q⟩=>⟨h1,h2,c,p.mono a,ZS.mono a q⟩
def ZS.perm{K}:∀{b}{hs a},hs.Perm a->ZS K b hs->ZS K b a|[],_,_,_,_=>trivial|_::_,_,_,c,⟨h1,h2,d,p,q⟩=>⟨h1,h2,c.symm.trans d,p,q⟩
def ZS.more{K}:∀{b}{hs}(r),ZS K b hs->ZS K b (hs++r)|[],_,_,_=>trivial|_::_,_,r,⟨h1,h2,a,p,q⟩=>⟨h1,h2++r,by rw[<-Yc];exact a.append_right r,p,ZS.more r q⟩
def ZS.append{K}:∀{b c}{hs},ZS K (b++c) hs↔∃h1 h2,hs.Perm (h1++h2)/\ZS K b h1/\ZS K c h2
 |[],c,hs=>⟨λk=>⟨[],hs,Zc,trivial,k⟩,λ⟨h1,h2,a,_,d⟩=>(ZS.more _ d).perm (Wr.trans a.symm)⟩|(j,v)::b,c,hs=>by
  constructor;·rintro⟨h1,h2,a,h,d⟩;have⟨e,f,g,l,i⟩:=ZS.append.1 d;exact⟨h1++e,f,by rw[Yc];exact a.trans (V5 _ g),⟨h1,e,Zc,h,l⟩,i⟩
  ·exactλ⟨h1,h2,a,⟨e,f,g,h,d⟩,i⟩=>⟨e,f++h2,by rw[<-Yc];exact a.trans (g.append_right _),h,ZS.append.2 ⟨f,h2,Zc,d,i⟩⟩
def ZS.nil{K}{hs}:ZS K [] hs:=trivial
def M4{v}:ZJ ((C,v)::d) B=bif Nat.beq C B then some v else ZJ d B:=rfl
def beq_false(h:C≠B):Nat.beq C B=false:=by cases hb:Nat.beq C B<;>simp_all
def ZS.del{K}{j}:∀{b}{hs},ZS K b hs->ZS K (VA b j) hs|[],_,_=>trivial|(i,v)::b,hs,⟨h1,h2,a,p,q⟩=>by show ZS K (bif Nat.beq i j then VA b j else(i,v)::VA b j) _;cases hb:Nat.beq i j with|true=>exact(ZS.more _ (ZS.del q)).perm (Wr.trans a.symm)|false=>exact⟨h1,h2,a,p,ZS.del q⟩
def ZS.get{K}{j}{v}:∀{b}{hs},ZJ b j=some v->ZS K b hs->∃h1 h2,hs.Perm (h1++h2)/\WC K j v h1/\ZS K (VA b j) h2|[],_,e,_=>by cases e|(i,u)::b,hs,e,⟨h1,h2,c,p,q⟩=>by rw[M4]at e;cases hb:Nat.beq i j with|true=>rw[hb]at e;cases Wc hb;cases e;refine⟨h1,h2,c,p,?_⟩;unfold VA;rw[hb];exact ZS.del q|false=>
   rw[hb]at e;have⟨d,a,f,g,h⟩:=ZS.get e q;refine⟨d,h1++a,?_,g,?_⟩;·refine c.trans ((V5 _ f).trans ?_);rw[<-Yc,<-Yc];exact Wr.append_right _
   ·show ZS K (bif Nat.beq i j then VA b j else(i,u)::VA b j) _;rw[hb];exact⟨h1,a,Zc,p,h⟩
structure Y5(w:World)(K:KK)(hs:HP)(K':KK)(hs':HP):Prop where
 le:K.le K'
 nm:K'.nm=K.nm
 step:GD K.m hs w->GD K'.m hs' w/\ZW w w K.m K'.m hs.bs hs'.bs
def Y5.refl(w)(K)(hs):Y5 w K hs K hs:=⟨KK.le.refl K,rfl,λa=>⟨a,ZW.refl _ _ _⟩⟩
def Y5.trans{K d K2}{h2}(a:Y5 H K c d e)(b:Y5 H d e K2 h2):Y5 H K c K2 h2:=⟨a.le.trans b.le,b.nm.trans a.nm,λj=>let⟨h,f⟩:=a.step j;let⟨i,g⟩:=b.step h;⟨i,f.trans g⟩⟩
def Y5.frame{K K'}{h1 h1'}(h2)(a:Y5 H K h1 K' h1'):Y5 H K (h1++h2) K' (h1'++h2):=⟨a.le,a.nm,λb=>let⟨d,c⟩:=a.step b.left;GD.frame b d c⟩
def Y5.perm{K K'}{g b}(p:g.Perm c)(q:e.Perm b)(a:Y5 H K c K' e):Y5 H K g K' b:=⟨a.le,a.nm,λh=>let⟨f,d⟩:=a.step (h.perm p);⟨f.perm q,ZW.Od q (ZW.Qm p d)⟩⟩
def Y5.Zf8{K}(p:c.Perm e):Y5 H K c K e:=Y5.perm Zc p (Y5.refl H K c)
def YO.QM(m:YO)(b k:Nat)(cs:L Value):YO:=λc a=>if c=b/\a<k then cs[a]?else m c a
def n9{K}{k}(b:GD K.m ((C,0,cellsOf A r)::c) H):∃K',K.le K'/\K'.fm=K.fm/\(∀o v,o<k->A[o]?=some v->K'.m C o=some v)/\Y5 H K ((C,0,cellsOf A r)::c) K' ((C,k,cellsOf A r)::c):=by
 have n:∀o,K.m C o=none:=λo=>b.free (C,0,cellsOf A r) Zc o (W7 _);have g:Wy K.m (YO.QM K.m C k A):=by intro d o v a;unfold YO.QM;grind
 have j:=b.Xb (C,0,cellsOf A r) Zc;have l:=b.nodup;simp only[HP.bs,Wb,Ss]at l;refine⟨⟨K.nm,K.fm,YO.QM K.m C k A⟩,⟨λ_ _ c=>c,λ_ _ _ c=>c,g⟩,rfl,?_,⟨λ_ _ c=>c,λ_ _ _ c=>c,g⟩,rfl,λ_=>⟨⟨?_,b.nodup,?_,?_⟩,?_⟩⟩;·intro o v h a;show YO.QM K.m C k A C o=some v;unfold YO.QM;rw[Y4 ⟨rfl,h⟩];exact a
 ·intro d o v a;simp only[YO.QM]at a;split at a;·rename_i e;obtain⟨rfl,_⟩:=e;simp only[World.cell?,j,cellsOf];simpa using a
  ·exact b.mem d o v a
 ·intro i hx;obtain rfl|hx:=XL hx;·exact j
  ·exact b.Xb i (XY _ hx)
 ·intro i hx o h;obtain rfl|hx:=XL hx;·simp only[YO.QM];grind
  ·simp only[YO.QM];rw[Ys (by exactλ⟨c,_⟩=>(λa=>l.1 (by rw[<-a];exact VV (f:=(·.1)) hx)) c)];exact b.free i (XY _ hx) o h
 ·refine⟨rfl,rfl,rfl,YA _,λd _ m=>⟨rfl,λo=>?_⟩,λd e=>.inl e,g⟩;simp only[YO.QM];rw[Ys (by exactλ⟨c,_⟩=>(λa=>m (by simp[HP.bs,a])) c)]
def KK.W1(K:KK)(s:L (Nat×Nat)):KK:={K with nm:=λa=>if Nat.blt a 1000=true then(Td s a).bind K.nm else K.nm a}
def KK.Hy{K K':KK}(h:K.le K'){s s'}(hs:∀i j,Td s i=some j->Td s' i=some j):(K.W1 s).le (K'.W1 s'):=by
 refine⟨λi v a=>?_,h.fm,h.m⟩;simp[KK.W1]at a⊢;split at a;·rename_i b;have⟨j,c,d⟩:=C8 a;rw[Y4 b,hs i j c];exact h.nm _ _ d
 ·rename_i b;rw[Ys b];exact h.nm _ _ a
def mH{K K2}(S:K2.fm=K.fm)(r:K2.m=K.m):∀{t},t.nh=true->∀{hs}{cs}{x},rel K t hs cs x->rel K2 t hs cs x:=by intro t;induction t with|vec x4 t d=>exactλa hs cs x b=>Row.imp (λ_ _ _ b=>d a b) b|pair q e o E=>intro a;simp only[Ty.nh,YL]at a;rintro hs cs x⟨A,B,u,w,c,y,s,F⟩;exact⟨A,B,u,w,c,y,o a.1 s,E a.2 F⟩|only t d=>exactλa hs cs x b=>d a (x:=x) b|sl t d=>refineλa hs cs x⟨c,q,i,f,k,b⟩=>⟨c,q,i,f,k,b.imp id λ⟨e,p,l,P,g,j⟩=>⟨e,p,l,P,Row.imp (λ_ _ _ b=>d a b) g,by rw[r];exact j⟩⟩|nz t d=>refineλa hs cs x⟨c,b⟩=>⟨c,b.imp id λ⟨V,e,p,l,i,f,k,g,j⟩=>⟨V,e,p,l,i,f,k,Row.imp (λ_ _ _ b=>d a b) g,by rw[r];exact j⟩⟩|ptr t d=>refineλa hs cs x⟨c,b⟩=>⟨c,b.imp id λ⟨H,e,p,m,z,f,g,j⟩=>⟨H,e,p,m,z,f,d a g,by rw[r];exact j⟩⟩|YT I t _=>refineλa hs cs x⟨c,b⟩=>⟨c,b.imp id ?_⟩;grind|hole Z=>intro a;cases a|Um Z s=>intro a;cases a|fn I q x0 o X=>intro a;simp only[Ty.nh,YL]at a;rintro hs cs x⟨c,J,L,O,f,⟨M,C,g⟩,U,T⟩;exact⟨c,J,L,O,f,⟨M,C,o a.1 g⟩,U,X a.2 T⟩|own t d=>exactλa hs cs x⟨e,h,m,n,c,f,g⟩=>⟨e,h,m,n,c,f,d a (x:=x) g⟩|opt t d=>refineλa hs cs x b=>LX id (λ⟨H,e,h,m,n,z,c,f,g⟩=>⟨H,e,h,m,n,z,c,f,d a g⟩) b|full t d=>refineλa hs cs x b=>LX id (λ⟨e,h,i,l,G,n,f,c,g,k,D⟩=>⟨e,h,i,l,G,n,f,c,Row.imp (λ_ _ _ b=>d a b) g,k,D⟩) b|YU t d=>refineλa hs cs x b=>LX id (λ⟨e,h,i,l,G,f,c,g,j,k,D⟩=>⟨e,h,i,l,G,f,c,Row.imp (λ_ _ _ b=>d a b) g,by rw[r];exact j,k,D⟩) b|map x3 v x1 x2=>intro a;simp only[Ty.nh,YL]at a;rintro hs cs x⟨e,Q,N,f,c,b⟩;refine⟨e,Q,N,f,c,F2.imp ?_ b⟩;grind|YS I t d=>exactλa hs cs x⟨c,vs,C,g⟩=>⟨c,vs,λW v R=>by rw[S];exact C W v R,Row.imp (λ_ _ _ b=>d a b) g⟩|cons q e o E=>intro a;simp only[Ty.nh,YL]at a;rintro hs cs x⟨A,B,u,w,c,y,s,F⟩;exact⟨A,B,u,w,c,y,o a.1 s,E a.2 F⟩|_=>exactλa hs cs x b=>b
def FT{K}{s}{t}(a:t.nh=true){x}(h:rel K t c A x):rel (K.W1 s) t c A x:=mH (K:=K) (K2:=K.W1 s) rfl rfl a h
def mJ{K}{s}(a:M.nh=true){x}(h:rel (K.W1 s) M c A x):rel K M c A x:=mH (K:=K.W1 s) (K2:=K) rfl rfl a h
def Yx(K:KK)(b:Bx):Prop:=∀a d(e:L d.den),(Yp a,(⟨.YS a d,e⟩:TV))∈b->∀c,e.length<=c->K.fm a c=none
def Vf(K K':KK)(b:Bx):Prop:=∀a,(∀c∈b,c.1≠Yp a)->K'.fm a=K.fm a
def Vf.refl(K)(b):Vf K K b:=λ_ _=>rfl
def Yx.sub{K}{c}(h:Yx K d)(s:∀p∈c,p∈d):Yx K c:=λa e f b=>h a e _ (s _ b)
def GB:∀p∈VA d C,p∈d:=by induction d with|nil=>intro p a;cases a|cons c d e=>have⟨b,v⟩:=c;intro p a;have a:p∈bif Nat.beq b C then VA d C else(b,v)::VA d C:=a;cases hb:Nat.beq b C<;>grind
def Vn{j}{v}(h:ZJ d j=some v):(j,v)∈d:=by induction d with|nil=>cases h|cons b d c=>have⟨a,e⟩:=b;rw[M4]at h;cases hb:Nat.beq a j<;>simp_all
def IP{v}(h:ZJ (VA d B) C=some v):ZJ d C=some v/\C≠B:=by induction d with|nil=>cases h|cons g d e=>have⟨a,f⟩:=g;have h:ZJ (bif Nat.beq a B then VA d B else(a,f)::VA d B) C=some v:=h;rw[M4];cases hb:Nat.beq a B with|true=>rw[hb]at h;cases Wc hb;have⟨b,c⟩:=e h;rw[beq_false Zp];exact⟨b,c⟩|false=>rw[hb]at h;simp[Su,M4]at h;cases hk:Nat.beq a C<;>grind
def IQ{b}{i}{v}:∀{r},ZJ (Wm r b) i=some v->ZJ b i=some v|[],h=>h|_::r,h=>IQ (IP h).1
def ZdF(r s b):Wm (r++s) b=Wm r (Wm s b):=by simp[Wm]
def Ju{b}:∀{r},∀p∈Wm r b,p∈b|[],p,h=>h|_::r,p,h=>Ju p (GB p h)
def ZmO:ZJ (VA d C) C=none:=by cases h:ZJ _ C with|none=>rfl|some v=>exact absurd rfl (IP h).2
def ZmN(h:ZJ d C=none):ZJ (VA d B) C=none:=by cases h2:ZJ _ C with|none=>rfl|some v=>rw[(IP h2).1]at h;cases h
def Jh{b}{i}{v}:∀{r},ZJ (Wm r b) i=some v->∀p∈r,p.1≠i
 |x::r,h,p,a=>by
  obtain rfl|a:=XL a;·exactλc=>(IP h).2 c.symm
  ·exact Jh (IP h).1 p a
structure Uf(c c':CS)(R Q:Bx):Prop where
 r:c'.r=R++c.r
 q:c'.q=Q++c.q
 g:c'.g=Wm R c.g
 f:c'.f=c.f
 n:c'.n=c.n
 s:∀i j,Td c.s i=some j->Td c'.s i=some j
 mr:∀p∈R,ZJ c.g p.1=some p.2nd:(R.map (·.1)).Nodup
 mq:∀p∈Q,ZJ c.g p.1=some p.2dj:(∀p∈c.l,ZJ c.g p.1=none)->∀p∈c'.l,ZJ c'.g p.1=none
 ids:∀p∈c'.l,∃q∈c.l++R,q.1=p.1p:c'.p=false->c.p=false
def Uf.refl(c):Uf c c [] []:=⟨rfl,rfl,rfl,rfl,rfl,Zc,Zc,Zc,Zc,λa=>a,Zp,λa=>a⟩
def Uf.trans{c}{Q o m}(h:Uf P a d Q)(k:Uf a c o m):Uf P c (o++d) (m++Q)where
 r:=by rw[k.r,h.r,Yc]
 q:=by rw[k.q,h.q,Yc]
 g:=by rw[k.g,h.g,ZdF]
 f:=k.f.trans h.f;n:=k.n.trans h.n;s:=λj l e=>k.s j l (h.s j l e);mr:=λp b=>(ZY b).elim (λb=>by have:=k.mr p b;rw[h.g]at this;exact IQ this) (h.mr p);nd:=by rw[WW,T5];refine⟨k.nd,h.nd,λj u l v e=>?_⟩;subst e;obtain⟨p,b,rfl⟩:=VR u;obtain⟨q,i,e⟩:=VR v;have:=k.mr p b;rw[h.g]at this;exact Jh this q i e
 mq:=λp b=>(ZY b).elim (λb=>by have:=k.mq p b;rw[h.g]at this;exact IQ this) (h.mq p);dj:=λt=>k.dj (h.dj t);ids:=λp b=>by
  obtain⟨q,i,e⟩:=k.ids p b;obtain i|i:=ZY i;·obtain⟨y,x,w⟩:=h.ids q i;grind
  ·grind
 p:=λe=>h.p (k.p e)
def EC(t:Ty)(v:TV)(c:CS)(x:t.den)(c':CS)(R Q:Bx):Prop:=∀(j:World)(a:KK)(f e d:HP)(g:L Value),GD a.m (f++(e++d)) j->rel a v.t f g v.x->ZS a c.l e->ZS a R d->(∀p∈Q,∃k,WC a p.1 p.2 k)->Yx a (c.l++R)->(∀p∈c.l,ZJ c.g p.1=none)->∃b i h,Y5 j a (f++(e++d)) b (i++h)/\rel (b.W1 c'.s) t i g x/\ZS b c'.l h/\Yx b c'.l/\Vf a b (c.l++R)/\(c'.p=false->b=a)
def Coe(t:Ty)(v:TV)(c:CS)(x:t.den)(c':CS):Prop:=∃b a,Uf c c' b a/\EC t v c x c' b a
def Coe.id{t}(f:t.nh=true)(x)(c):Coe t ⟨t,x⟩ c x c:=by refine⟨[],[],Uf.refl c,λl a h d b i k g e _ _ j _=>⟨a,h,d++b,Y5.refl _ _ _,FT f g,ZS.more _ e,Zp,Vf.refl _ _,λ_=>rfl⟩⟩
def Coe.imp{v}{x}(c)(h:∀K hv cs,rel K v.t hv cs v.x->rel (K.W1 c.s) M hv cs x):Coe M v c x c:=by refine⟨[],[],Uf.refl c,λi K hv b a cs g e d _ _ f _=>⟨K,hv,b++a,Y5.refl _ _ _,h K _ _ e,ZS.more _ d,Zp,Vf.refl _ _,λ_=>rfl⟩⟩
def M0{v}{k}(h:U6 M v k=some G):M.nh=true/\∃x,v=⟨M,x⟩/\k x=some G:=by have⟨a,h⟩:=Yq h;exact⟨a,Rv h⟩
def GD.sub{m}{hs r:HP}(h:GD m hs H)(p:hs.Perm (c++r)):GD m c H:=(h.perm p).left
def Yx.next{K K'}{e k}(h:Uf P a d k)(m:Yx K (e++d++P.l))(n:Yx K' a.l)(q:Vf K K' (P.l++d))(o:∀p∈P.l,ZJ P.g p.1=none)(r:∀p∈e,ZJ a.g p.1=some p.2):Yx K' (a.l++e):=by
 intro c j t hx i g;obtain hx|hx:=ZY hx;·exact n c j _ hx i g
 ·have f:=r _ hx;rw[h.g]at f;have s:∀p∈P.l++d,p.1≠Yp c:=by
   intro p b;obtain b|b:=ZY b;·intro l;have:=o p b;rw[l,IQ f]at this;cases this
   ·exact Jh f p b
  rw[q c s];exact m c j _ Zp i g
def EC.seq{b}{v}{j}{x}{y}{k u z}(D:Uf P a d u)(E:Uf a j k z)(m1:EC M l P x a d u)(m2:EC b v a y j k z):∀(w)(K)(h1 h2 e m)(q r),GD K.m (h1++h2++(e++m)) w->rel K l.t h1 q l.x->rel K v.t h2 r v.x->ZS K P.l e->ZS K (k++d) m->(∀p∈z++u,∃h,WC K p.1 p.2 h)->Yx K (P.l++(k++d))->(∀p∈P.l,ZJ P.g p.1=none)->∃K' g t hl',Y5 w K (h1++h2++(e++m)) K' (g++t++hl')/\rel (K'.W1 j.s) M g q x/\rel (K'.W1 j.s) b t r y/\ZS K' j.l hl'/\Yx K' j.l/\Vf K K' (P.l++(k++d))/\(j.p=false->K'=K):=by
 intro w K h1 h2 e m q r Q r1 r2 x3 x0 L J B;obtain⟨c,i,x4,xa,x9⟩:=ZS.append.1 x0;have R:(h1++h2++(e++m)).Perm (h1++(e++i)++(h2++c)):=by
  refine(V5 (h1++h2) (V5 e x4)).trans ?_;have A:(h1++h2++(e++(c++i))).Perm (h1++(h2++(e++(i++c)))):=by rw[Yc];exact V5 h1 (V5 h2 (V5 e Wr))
  refine A.trans ?_;have V:(h2++(e++(i++c))).Perm (e++i++(h2++c)):=by
   have:h2++(e++(i++c))=h2++(e++i)++c:=by simp[Yc]
   rw[this];refine(Wr.append_right c).trans ?_;rw[Yc]
  have:=V5 h1 V;simpa[Yc]using this
 obtain⟨H,g,hl',o,x7,xb,W,I,x5⟩:=m1 w K h1 e i q (Q.sub R) r1 x3 x9 (λp f=>L p (Ym (.inr f))) (J.sub (by intro p f;obtain h|h:=ZY f<;>simp[h])) B;have F:Y5 w K (h1++h2++(e++m)) H (g++hl'++(h2++c)):=Y5.perm R (Ue _) (o.frame (h2++c));have S:(g++hl'++(h2++c)).Perm (h2++(hl'++c)++g):=by
  have A:(g++hl'++(h2++c)).Perm (g++(h2++(hl'++c))):=by rw[Yc];refine V5 g ?_;rw[<-Yc,<-Yc];exact Wr.append_right c
  exact A.trans Wr
 obtain⟨T,t,x2,G,x8,xh,X,Z,x6⟩:=m2 w H h2 hl' c r ((F.step Q).1.sub S) (Xw o.le r2) xb (xa.mono o.le) (λp f=>let⟨h,C⟩:=L p (Ym (.inl f));⟨h,C.mono o.le⟩) (Yx.next (K:=K) D (J.sub Zp) W I B E.mr) (D.dj B);refine⟨T,g,t,x2,?_,Xw (KK.Hy G.le E.s) x7,x8,xh,X,?_,λn=>(x6 n).trans (x5 (E.p n))⟩;·refine F.trans (Y5.perm S ?_ (G.frame g));rw[Yc g];exact Wr
 ·intro s N;have O:∀p∈P.l++d,p.1≠Yp s:=λp f=>N p (by obtain h|h:=ZY f<;>simp[h]);have x1:∀p∈a.l++k,p.1≠Yp s:=by
   intro p f n;obtain f|f:=ZY f;·obtain⟨C,hq,U⟩:=D.ids p f;exact O C hq (U.trans n)
   ·exact N p (by simp[f]) n
  rw[Z s x1,I s O]
def ZlX(c:CS)(j:Nat)(v:TV)(g:CS)(R:Bx):Prop:=∀(a:KK)(e b:HP),ZS a c.l e->ZS a R b->∃d f,(e++b).Perm (d++f)/\WC a j v d/\ZS a g.l f
structure Gw(c:CS)(j:Nat)(v:TV)(c1:CS)(R:Bx):Prop where
 S:Uf c c1 R []M:ZlX c j v c1 R
 mem:(j,v)∈c.l++R
 sub:∀p∈c1.l,p∈c.l++R
 none:(∀p∈c.l,ZJ c.g p.1=none)->ZJ c1.g j=none
 ne:∀p∈c1.l,p.1≠j
 sl:∀p∈c1.l,p∈c.l
def ZmF:∀p∈VA d C,p.1≠C:=by induction d with|nil=>intro p h;cases h|cons c d e=>have⟨a,v⟩:=c;intro p h;have h:p∈bif Nat.beq a C then VA d C else(a,v)::VA d C:=h;cases hb:Nat.beq a C with|true=>grind|false=>
   rw[hb]at h;obtain rfl|h:=XL h;·intro b;rw[show Nat.beq a C=true from by rw[It];exact b]at hb;cases hb
   ·grind
def iJ(h:ZJ d C=none):∀p∈d,p.1≠C:=by induction d with|nil=>simp|cons e d f=>have⟨b,v⟩:=e;rw[M4]at h;intro p a;cases hb:Nat.beq b C with|true=>grind|false=>
   rw[hb]at h;obtain rfl|a:=XL a;·intro c;rw[show Nat.beq b C=true from by rw[It];exact c]at hb;cases hb
   ·grind
def NK{k}{r:s}(h:QQ P C k=some r):∃v n B,Gw P C v n B/\k v n=some r:=by
 unfold QQ at h;split at h;·rename_i v hv;refine⟨v,{P with l:=VA P.l C},[],⟨⟨rfl,rfl,rfl,rfl,rfl,λ_ _ h=>h,Zc,Zc,Zc,λc b a=>c b (GB b a),λb a=>⟨b,by simp[GB b a],rfl⟩,λh=>h⟩,λo j e m q=>?_,by simp[Vn hv],λb a=>by simp[GB b a],λc=>c _ (Vn hv),ZmF,λb a=>GB b a⟩,h⟩;obtain⟨f,d,a,i,p⟩:=ZS.get hv m;exact⟨f,d++e,by rw[<-Yc];exact a.append_right e,i,p.more e⟩
 ·split at h;·rename_i v hv;refine⟨v,{P with g:=VA P.g C,r:=(C,v)::P.r},[(C,v)],⟨⟨rfl,rfl,rfl,rfl,rfl,λ_ _ h=>h,Zp,Zc,Zc,λc b a=>ZmN (c b a),λb a=>⟨b,by simp[a],rfl⟩,λh=>h⟩,λo j e m⟨f,d,a,i,_⟩=>⟨f,j++d,(V5 j a).trans ?_,i,m.more d⟩,Zc,Zp,λc=>ZmO,iJ (by assumption),λb a=>a⟩,h⟩;rw[<-Yc,<-Yc];exact Wr.append_right d
  ·cases h
def Gw.put{v}(h:Gw P C v a d)(u){b}(g:b=false->a.p=false):Uf P {a.put C u with p:=b} d []:={h.S with
  dj:=λe p c=>by
   obtain rfl|c:=XL c;·exact h.none e
   ·exact h.S.dj e p c
  ids:=λp c=>by
   obtain rfl|c:=XL c;·exact⟨(C,v),h.mem,rfl⟩
   ·exact h.S.ids p c
  p:=λf=>h.S.p (g f)}
def Gw.fr{v}{K}(h:Gw P C v a d)(b:Yx K (P.l++d)):Yx K a.l:=b.sub h.sub
def pI{K}{v}{x:Unit}(h:rel K (.hole C) c A x)(f:WC K C v e)(g:v.t.n=1):c=[]/\rel K v.t e A v.x:=by obtain⟨i,l,k,rfl,_⟩:=h;have⟨b,d,j⟩:=f;have a:=WU d;rw[g]at a;match b,a with|[m],_=>simp_all
def Zez{K}{l:L M.den}(n:M.plain=true)(j:GD K.m c H)(o:rel K (.full M) c A l):∃K' h',Y5 H K c K' h'/\K'.fm=K.fm/\rel K' (.YU M) h' A l:=by
 obtain⟨rfl,rfl,e,rfl⟩|⟨f,d,g,q,r,h',rfl,rfl,a,k,p⟩:=o;·exact⟨K,[],Y5.refl _ _ _,rfl,.inl ⟨rfl,rfl,e,rfl⟩⟩
 ·have h:=Row.Kn (λ_ _ _ c=>SZ n c) a;subst h;obtain⟨K',m,i,s,b⟩:=n9 j;refine⟨K',_,b,i,.inr ⟨f,d,g,q,r,rfl,rfl,Row.imp (λ_ _ _ c=>Xw m c) a,λu v t=>?_,k,p⟩⟩;grind
def lU{K}{l:L M.den}(e:rel K (.YU M) c A l):rel K (.sl M) [] A l:=by
 obtain⟨rfl,rfl,a,rfl⟩|⟨g,f,b,k,m,rfl,rfl,i,h,d,j⟩:=e;·exact⟨rfl,a,0,rfl,Zc,.inl rfl⟩
 ·exact⟨rfl,_,b,rfl,d,Zp⟩
def Coe.pair{c:CS}{b a' b'}{x}{y}{z}(h1:Coe M ⟨a',x.1⟩ P y a)(h2:Coe b ⟨b',x.2⟩ a z c):Coe (.pair M b) ⟨.pair a' b',x⟩ P (y,z) c:=by have⟨J,H,d,t⟩:=h1;have⟨K,I,e,u⟩:=h2;refine⟨_,_,d.trans e,?_⟩;rintro G g S R Q L p⟨N,O,i,j,rfl,rfl,B,C⟩E D n m o;have⟨h,r,s,q,f,w,A,F,k,l,v⟩:=EC.seq d e t u G g _ _ _ _ _ _ p B C E D n m o;exact⟨h,_,q,f,⟨r,s,i,j,rfl,rfl,w,A⟩,F,k,l,v⟩
def Coe.cons{c d e:CS}{a b a' b'}{x}{y}{z}(h1:Coe a ⟨a',x.1⟩ c y d)(h2:Coe b ⟨b',x.2⟩ d z e):Coe (.cons a b) ⟨.cons a' b',x⟩ c (y,z) e:=by have⟨L,J,f,v⟩:=h1;have⟨M,K,g,w⟩:=h2;refine⟨_,_,f.trans g,?_⟩;rintro I i S R Q N r⟨O,P,k,l,rfl,rfl,D,E⟩G F p o q;have⟨j,t,u,s,h,B,C,H,m,n,A⟩:=EC.seq f g v w I i _ _ _ _ _ _ r D E G F p o q;exact⟨j,_,s,h,⟨t,u,k,l,rfl,rfl,B,C⟩,H,m,n,A⟩
def Coe.only{b}{x}{y}(h:Coe M ⟨b,x⟩ P y a):Coe (.only M) ⟨.only b,x⟩ P y a:=h
def Coe.hole{g:CS}{v}{x}(c:Gw P C v a d)(E:v.t.n=1)(h:Coe M v a x g):Coe M ⟨.hole C,()⟩ P x g:=by
 obtain⟨R2,Q2,p,N⟩:=h;refine⟨_,_,c.S.trans p,λZ K hv f y r B I V S hQ j l=>?_⟩;obtain⟨e,z,G,U,T⟩:=ZS.append.1 S;obtain⟨k,n,F,A,X⟩:=c.M K f z V T;obtain⟨rfl,J⟩:=pI I A E;have b:(f++y).Perm (k++(n++e)):=by refine(V5 f (G.trans Wr)).trans ?_;rw[<-Yc,<-Yc];exact F.append_right e
 obtain⟨K',L,D,q,Q,W,u,w,O⟩:=N Z K k n e r (by simpa using B.perm b) J X U Zp (Yx.next (K:=K) (K':=K) c.S (j.sub Zp) (c.fr (j.sub Zp)) (Vf.refl _ _) l p.mr) (c.S.dj l);refine⟨K',L,D,Y5.perm (by simpa using b) (Ue _) q,Q,W,u,λt m=>w t λo b i=>?_,O⟩;obtain b|b:=ZY b;·obtain⟨R,H,s⟩:=c.S.ids o b;exact m R (by obtain h|h:=ZY H<;>simp[h]) (s.trans i)
 ·exact m o (by simp[b]) i
def Coe.own{c j:CS}{t m}{x}{y}(h:Coe t ⟨m,x⟩ c y j):Coe (.own t) ⟨.own m,x⟩ c y j:=by
 have⟨r,q,F,C⟩:=h;refine⟨r,q,F,?_⟩;rintro J o L g f K A⟨b,a,d,e,rfl,rfl,B⟩H G w v z;have l:((b,0,cellsOf d a)::e++(g++f)).Perm (e++(g++f)++[(b,0,cellsOf d a)]):=by have:=Wr (l₁:=[(b,0,cellsOf d a)]) (l₂:=e++(g++f));simpa using this
 have⟨p,i,k,n,E,I,s,u,D⟩:=C J o _ _ _ _ (A.sub l) B H G w v z;refine⟨p,(b,0,cellsOf _ a)::i,k,Y5.perm l ?_ (n.frame _),⟨b,a,d,i,rfl,rfl,E⟩,I,s,u,D⟩;have:=Wr (l₁:=i++k) (l₂:=[(b,0,cellsOf d a)]);simpa using this
def Coe.Zrt{b}{x:b.den}{y:M.den}(h:Coe (.own M) ⟨.own b,x⟩ P y a):Coe (.opt M) ⟨.own b,x⟩ P (some y) a:=by have⟨g,f,A,v⟩:=h;refine⟨g,f,A,λD d H G F E r t C B p o q=>?_⟩;have⟨e,u,s,c,⟨j,i,k,n,l,m,w⟩,z⟩:=v D d _ _ _ _ r t C B p o q;exact⟨e,u,s,c,.inr ⟨y,j,i,k,n,rfl,l,m,w⟩,z⟩
def Coe.Zf6{c}{x:(Ty.opt c).den}{d}{y:M.den}(hx:x=some d)(h:Coe (.own M) ⟨.own c,d⟩ P y a):Coe (.own M) ⟨.opt c,x⟩ P y a:=by
 have⟨g,f,v,t⟩:=h;refine⟨g,f,v,λA e E D C B r s z w p o q=>t A e _ _ _ _ r ?_ z w p o q⟩;obtain⟨b,_⟩|⟨F,j,i,k,n,b,l,m,u⟩:=s;·grind
 ·rw[hx]at b;cases b;exact⟨j,i,k,n,l,m,u⟩
def Coe.ptr{f}{x:f.den}{y:M.den}(H:M.plain=true)(h:Coe (.own M) ⟨.own f,x⟩ P y a):Coe (.ptr M) ⟨.own f,x⟩ P (some y) {a with p:=true}:=by have⟨t,s,K,m⟩:=h;refine⟨t,s,{K with p:=λh=>by grind},λQ r J W U S l I N L C B D=>?_⟩;obtain⟨R,n,G,g,⟨b,j,c,T,rfl,u,q⟩,O,z,A,Z⟩:=m Q r _ _ _ _ l I N L C B D;have w:=SZ H q;subst w;obtain⟨i,X,k,V,d⟩:=n9 (by simpa using(g.step l).1);refine⟨i,[],(b,c.length,cellsOf _ j)::G,g.trans (by simpa using d),⟨rfl,.inr ⟨y,b,0,c,rfl,u,Xw (KK.Hy d.le λ_ _ h=>h) q,?_⟩⟩,((O.mono d.le).more [(b,c.length,cellsOf c j)]).perm Zc,by intro e M xs n o F;rw[k];exact z e M _ n o F,by intro e E;rw[k];exact A e E,Zc⟩;·intro o v J;show i.m b _=some v;grind
def Coe.YU{t}{l:L t.den}(n:t.plain=true)(m:t.nh=true)(c):Coe (.YU t) ⟨.full t,l⟩ c l {c with p:=true}:=by refine⟨[],[],{Uf.refl c with p:=λw=>by grind},λz u x k h v i o s _ _ g _=>?_⟩;have⟨e,f,a,d,r⟩:=Zez n i.left o;exact⟨e,f,k++h,a.frame _,FT (t:=.YU t) m r,(s.mono a.le).more _,λb t A y q j=>by rw[d];exact g b t _ Zp q j,λb _=>by rw[d],Zc⟩
def Coe.Tc{t}{l:L t.den}{v}(j:Gw P C v a d)(J:t.nh=true)(hv:v=⟨.YU t,l⟩/\k=a.p\/(v=⟨.full t,l⟩/\t.plain=true)/\k=true):Coe (.sl t) ⟨.hole C,()⟩ P l {a.put C ⟨.YU t,l⟩with p:=k}:=by
 refine⟨d,[],j.put _ Zp,λx e X I D U F q sl Q _ B V=>?_⟩;obtain⟨i,h,o,E,R⟩:=j.M e I D sl Q;obtain⟨rfl,r⟩:=pI q E (by obtain⟨rfl,_⟩|⟨⟨rfl,_⟩,_⟩:=hv<;>rfl);obtain⟨g,w,M,rfl,W⟩:=q;have G:GD e.m (i++h) x:=by simpa using F.perm o
 have⟨b,c,f,n,u,O⟩:∃b c,Y5 x e i b c/\b.fm=e.fm/\rel b (.YU t) c [w] l/\(k=false->b=e):=by
  obtain⟨rfl,_⟩|⟨⟨rfl,K⟩,g⟩:=hv;·exact⟨e,i,Y5.refl _ _ _,rfl,r,λ_=>rfl⟩
  ·obtain⟨b,c,f,y,z⟩:=Zez K G.left r;exact⟨b,c,f,y,z,λA=>by rw[A]at g;cases g⟩
 refine⟨b,[],c++h,Y5.perm (by simpa using o) (Ue _) (f.frame h),FT (t:=.sl t) J (lU u),⟨c,h,Ue _,⟨[w],u,by intro Z s;simp at s;subst s;exact f.le.nm _ _ M⟩,R.mono f.le⟩,?_,λm _=>by rw[n],O⟩
 ·intro m S T hx N H;obtain g|hx:=XL hx;·grind
  ·rw[n];exact(j.fr B) m S T hx N H
def Coe.ZrR{l:L M.den}(r:ZJ P.g C=some ⟨.YU M,l⟩)(h:M.nh=true):Coe (.sl M) ⟨.hole C,()⟩ P l {P with q:=(C,⟨.YU M,l⟩)::P.q}:=by refine⟨[],[(C,⟨.YU M,l⟩)],⟨rfl,rfl,rfl,rfl,rfl,Zc,Zc,Zc,Zp,λb=>b,Zp,λc=>c⟩,λk a t g e m s i sl u d n p=>?_⟩;have⟨o,f⟩:=d _ (TE rfl);obtain⟨rfl,j⟩:=pI i f rfl;exact⟨a,[],g++e,Y5.refl k a _,FT (t:=.sl M) h (lU j),sl.more _,Zp,Vf.refl _ _,λ_=>rfl⟩
structure VZ(t t':Ty):Prop where
 n:t'.n=t.n
 ag:t'.ag=t.ag
 UC:∀cs vs,UC t' cs vs->UC t cs vs
def VZ.refl(t):VZ t t:=⟨rfl,rfl,Zc⟩
def Coe.fn{b:CS}{f}{d a' d'}{x}{y}{z}(v:M.plain=true)(w:d.plain=true)(F:VZ M a')(G:VZ d d')(h1:Coe M ⟨a',x.1⟩ P y a)(h2:Coe d ⟨d',x.2⟩ a z b):Coe (.fn f M d) ⟨.fn f a' d',x⟩ P (y,z) b:=by have⟨U,S,h,D⟩:=h1;have⟨V,T,i,E⟩:=h2;refine⟨_,_,h.trans i,?_⟩;rintro R k hv Z X W B⟨rfl,m,n,c,rfl,⟨o,O,I⟩,Q,J⟩L K u t A;have⟨l,k1,k2,C,j,e,g,N,r,s,H⟩:=EC.seq h i D E R k _ _ _ _ _ c B I J L K u t A;have p:=SZ v e;have q:=SZ w g;subst p q;exact⟨l,[],C,j,⟨rfl,m,n,c,rfl,⟨o,F.UC _ _ O,e⟩,G.UC _ _ Q,g⟩,N,r,s,H⟩
def fp(h:Yp C=Yp B):C=B:=by simp[Yp]at h;omega
def Coe.push{J:CS}{v}{y}{l:L M.den}(hv:v.t.n=1)(hn:M.nh=true)(h:Coe M v P y a)(j:Gw a (Yp C) ⟨.YS C M,l⟩ J d):Coe (.YT C M) v P (some (Zj l)) (J.nG (Yp C) ⟨.YS C M,Ye l [y]⟩):=by
 obtain⟨R1,Q1,F,m1⟩:=h;refine⟨_,_,F.trans (j.put _ (b:=true) λh=>by cases h),λxa K o n hR N T E sl sR hQ Q S=>?_⟩;obtain⟨k,t,x4,x7,x6⟩:=ZS.append.1 sR;have V:(o++(n++hR)).Perm (o++(n++t)++k):=by
  have:o++(n++t)++k=o++(n++(t++k)):=by simp[Yc]
  rw[this];exact V5 o (V5 n (x4.trans Wr))
 obtain⟨f,i,B,H,q1,x8,x0,O,xx⟩:=m1 xa K o n t N (T.sub V) E sl x6 (λs m=>hQ s (by simp[m])) (Q.sub (by intro s m;obtain h|h:=ZY m<;>simp[h])) S;have I:=Y5.perm V (Ue _) (H.frame k);have xh:=(I.step T).1;obtain⟨q,r,x2,⟨xb,⟨rfl,G,xv,W⟩,_⟩,x9⟩:=j.M f B k x8 (x7.mono H.le);have z:Yx f (a.l++d):=Yx.next (K:=K) F (Q.sub (by intro s m;obtain h|h:=ZY m;obtain h|h:=ZY h<;>simp[h];simp[h])) x0 O S (by simpa using j.S.mr);have xi:G.length=l.length:=by have:=Row.length W;simpa using this
 have x1:f.fm C l.length=none:=z C M l j.mem _ (YA _);have R:=WU E;rw[hv]at R;match N,R with
 |[u],_=>
  let p:KK:={f with fm:=λc e=>if c=C/\e=l.length then some u else f.fm c e};have w:f.le p:=by
   refine⟨λ_ _ h=>h,λc e v h=>?_,Wy.refl _⟩;show(if c=C/\e=l.length then some u else f.fm c e)=some v;split;·rename_i h';obtain⟨rfl,rfl⟩:=h';rw[x1]at h;cases h
   ·exact h
  have x3:(i++B++k).Perm ([]++(q++i++r)):=by
   have x:(i++B++k).Perm (i++(q++r)):=by rw[Yc];exact V5 i x2
   refine x.trans ?_;rw[UG,<-Yc];exact Wr.append_right r
  refine⟨p,[],q++i++r,(I.trans ⟨w,rfl,λh=>⟨⟨h.mem,h.nodup,h.Xb,h.free⟩,ZW.refl _ _ _⟩⟩).trans (Y5.Zf8 x3),⟨rfl,.inr ⟨l.length,u,rfl,by simp[KK.W1,p],rfl,Qn E u Zc⟩⟩,⟨q++i,r,Ue _,⟨[],⟨rfl,G++[u],Zp,?_⟩,Zc⟩,x9.mono w⟩,?_,?_,λh=>by cases h⟩;·show Row 1 (rel p M) (q++i) (G++[u]) (l++[y]);exact(Row.imp (λ_ _ _ h=>Xw w h) W).append (Row.single rfl (Xw w (mJ hn q1)))
  ·intro c X xs hx e U;obtain g|hx:=XL hx;·injection g with x e2;cases fp x;injection e2 with e3 e4;injection e3 with _ e5;subst e5;cases e4;rw[show Ye l [y]=l++[y]from rfl,YM,VJ]at U;show(if C=C/\e=l.length then some u else f.fm C e)=none;rw[Ys (by rintro⟨_,g⟩;omega)];exact z C X l j.mem e Y
   ·have D:c≠C:=λg=>j.ne _ hx (WX Yp g);show(if c=C/\e=l.length then some u else f.fm c e)=none;rw[Ys (by exactλ⟨g,_⟩=>D g)];exact z c X xs (j.sub _ hx) e U
  ·intro c A;have D:c≠C:=by
    rintro rfl;obtain h|h:=ZY j.mem;·obtain⟨q',x5,Z⟩:=F.ids _ h;exact A q' (Ym ((ZY x5).imp (λh=>h) λh=>Ym (.inr h))) Z
    ·exact A _ (Ym (.inr (Ym (.inl h)))) rfl
   have:p.fm c=f.fm c:=by funext e;show(if c=C/\e=l.length then some u else f.fm c e)=_;rw[Ys (by exactλ⟨g,_⟩=>D g)]
   rw[this];exact O c λs m=>A s (by obtain h|h:=ZY m<;>simp[h])
def Lo{R}{o:Zg s}{d}{k}{r:R}(h:Yv o d k=some r):o=none/\d=some r\/∃x,o=some x/\k x=some r:=by rw[Mq]at h;cases o<;>grind
def VZ.cons{a b a' b'}(h:VZ a a')(k:VZ b b'):VZ (.cons a b) (.cons a' b'):=by refine⟨by simp[Ty.n,h.n,k.n],rfl,λm n⟨c,d,v,l,e,f,g,i,j⟩=>⟨c,d,v,l,e,f,by rw[g,h.n],by rw[i,h.ag],k.UC _ _ j⟩⟩
def VZ.pair{b a' b'}(h:VZ M a')(k:VZ b b'):VZ (.pair M b) (.pair a' b'):=⟨by simp[Ty.n,h.n,k.n],rfl,λ_ _ h=>h.elim⟩
def VZ.only{a'}(h:VZ M a'):VZ (.only M) (.only a'):=⟨by simp[Ty.n,h.n],rfl,λ_ _ h=>h.elim⟩
def MQ(t:Ty)(v:TV)(c:CS)(x:t.den)(c':CS):Prop:=VZ t v.t/\Coe t v c x c'
def MQ.same{v}{x}(a:M.nh=true)(e:v=⟨M,x⟩)(c):MQ M v c x c:=by subst e;exact⟨VZ.refl _,Coe.id a x c⟩
def PR{v}{k:M.den->CS->Zg s}(h:U6 M v (λx=>k x P)=some G):∃x c',k x c'=some G/\MQ M v P x c':=by have⟨c,x,a,b⟩:=M0 h;exact⟨x,P,b,MQ.same c a P⟩
def HG{v}{k:M.den->CS->Zg s}(h:(bif M.plain then U6 M v λx=>k x P else none)=some G):∃x c',k x c'=some G/\MQ M v P x c':=PR (Yq h).2
def ZeR{K}{s}{x:Unit}(f:Nat.blt C 1000=true)(hs:Td s C=some B)(h:rel K (.hole B) c A x):rel (K.W1 s) (.hole C) c A x:=by have⟨a,e,g,b,d⟩:=h;exact⟨a,e,by simp only[KK.W1];grind,b,d⟩
def uT{b}:Td ((C,f)::b) B=bif Nat.beq C B then some f else Td b B:=rfl
def Coe.bind{x:Unit}(d:Nat.blt C 1000=true)(hs:Td P.s C=none):Coe (.hole C) ⟨.hole B,x⟩ P () {P with s:=(C,B)::P.s}:=by refine⟨[],[],⟨rfl,rfl,rfl,rfl,rfl,?_,Zc,Zc,Zc,λa=>a,Zp,λa=>a⟩,λo b h e c j m g f _ _ k _=>⟨b,h,e++c,Y5.refl _ _ _,ZeR d (by rw[uT,show Nat.beq C C=true by simp];rfl) g,ZS.more _ f,Zp,Vf.refl _ _,λ_=>rfl⟩⟩;·intro i n a;rw[uT];cases l:Nat.beq C i<;>simp_all
def oX{K}{l:L M.den}(h:rel K (.nz M) c A l):rel K (.sl M) c A l:=by
 obtain⟨a,⟨rfl,rfl⟩|⟨i,e,j,k,b,rfl,d,g,f⟩⟩:=h;·exact⟨a,none,0,rfl,Zc,.inl rfl⟩
 ·exact⟨a,_,b,rfl,d,Zp⟩
def aB{K}{l}(hx:l≠[])(h:rel K (.sl M) c A l):rel K (.nz M) c A l:=by
 obtain⟨d,k,b,rfl,f,h⟩:=h;obtain h|⟨a,i,j,rfl,g,e⟩:=h;·grind
 ·exact⟨d,.inr ⟨hx,a,i,j,b,rfl,f,g,e⟩⟩
def Coe.aB{v}{l}(hx:l≠[])(h:Coe (.sl M) v P l a):Coe (.nz M) v P l a:=by have⟨R,e,r,o⟩:=h;refine⟨R,e,r,λt c y x w u j m sl s g f i=>?_⟩;have⟨d,n,k,b,p,q⟩:=o t c _ _ _ _ j m sl s g f i;exact⟨d,n,k,b,Go.R.aB hx p,q⟩
def Zi5{k}(h:lE M C P k=some G):∃l c',k l c'=some G/\Coe (.sl M) ⟨.hole C,()⟩ P l c':=by
 unfold lE at h;split at h
 ·split at h;·rename_i n l i;have⟨b,e,c,a⟩:=M0 h;cases c;exact⟨_,_,a,Coe.ZrR i b⟩
  ·obtain⟨m,g,f,d,h⟩:=NK h;split at h;·have⟨j,h⟩:=Yq h;have⟨b,e,c,a⟩:=M0 h;exact⟨_,_,a,Coe.Tc (t:=M) d b Zp⟩
   ·cases h
 ·obtain⟨m,g,f,d,h⟩:=NK h;split at h;·have⟨j,h⟩:=Yq h;have⟨b,e,c,a⟩:=M0 h;exact⟨_,_,a,Coe.Tc (t:=M) d b Zp⟩
  ·have⟨b,e,c,a⟩:=M0 h;cases c;exact⟨_,_,a,Coe.Tc (t:=M) d b Zc⟩
  ·cases h
def ZoQ{v}{y}{k}(hv:v.t.n=1)(e:Coe M v P y a)(h:Zek C M y a k=some G):∃x c',k x c'=some G/\Coe (.YT C M) v P x c':=by have⟨j,g,f,d,h⟩:=NK h;obtain⟨c,i,rfl,b⟩:=M0 h;exact⟨_,_,b,Coe.push hv c e d⟩
def gn{R}{r:R}:∀{t}{v}{c}{k},VK t v c k=some r->∃x c',k x c'=some r/\MQ t v c x c':=by intro t;induction t generalizing R with
 |bool=>
  intro v c k a;unfold VK at a;split at a;·exact⟨_,_,a,⟨rfl,rfl,λ_ _ a=>a.elim⟩,Coe.imp c λi m n a=>a⟩
  ·exact PR a|pair j p P X=>intro v c k a;obtain⟨h,x⟩:=v;cases h with
  |pair B M=>replace a:(bif(j.plain&&p.plain&&j.beq B&&p.beq M&&j.nh&&p.nh)then U6 (.pair j p) ⟨.pair B M,x⟩ λd=>k d c else VK j ⟨B,x.1⟩ c λd c=>VK p ⟨M,x.2⟩ c λA c=>k (d,A) c)=some r:=a;cases F:(j.plain&&p.plain&&j.beq B&&p.beq M&&j.nh&&p.nh)with|true=>rw[F]at a;exact PR a|false=>rw[F]at a;obtain⟨d,y,a,e,b⟩:=P a;obtain⟨A,o,a,Q,K⟩:=X a;exact⟨_,_,a,e.pair Q,b.pair K⟩
  |_=>exact HG a
 |cons j p P X=>intro v c k a;obtain⟨h,x⟩:=v;cases h with|cons B M=>replace a:(VK j ⟨B,x.1⟩ c λd c=>VK p ⟨M,x.2⟩ c λA c=>k (d,A) c)=some r:=a;obtain⟨d,y,a,e,b⟩:=P a;obtain⟨A,o,a,Q,K⟩:=X a;exact⟨_,_,a,e.cons Q,b.cons K⟩|_=>exact HG a
 |nl=>intro v c k a;obtain⟨h,x⟩:=v;cases h with|nl=>exact⟨(),c,a,VZ.refl _,Coe.id rfl _ _⟩|_=>exact HG a
 |only t f=>intro v c k a;obtain⟨h,x⟩:=v;cases h with|only w=>replace a:VK t ⟨w,x⟩ c k=some r:=a;obtain⟨d,y,a,e,b⟩:=f a;exact⟨_,_,a,e.only,Coe.only b⟩|_=>exact HG a
 |sl t f=>
  intro v c k a;unfold VK at a;split at a;·refine⟨_,_,a,⟨rfl,rfl,λ_ _ a=>a.elim⟩,Coe.imp c λi m n a=>⟨a.1,none,0,a.2,YA _,.inl rfl⟩⟩
  ·obtain⟨S,c',a,b⟩:=Zi5 a;exact⟨_,_,a,⟨rfl,rfl,λ_ _ a=>a.elim⟩,b⟩
  ·rename_i w S;obtain⟨V,l',q,u⟩:=M0 a;cases q;exact⟨_,_,u,⟨rfl,rfl,λ_ _ a=>a.elim⟩,Coe.imp c λi m n a=>FT (t:=.sl t) V (oX a)⟩
  ·exact PR a|nz t f=>
  intro v c k a;unfold VK at a;split at a;·exact⟨_,_,a,⟨rfl,rfl,λ_ _ a=>a.elim⟩,Coe.imp c λi m n a=>⟨a.1,.inl ⟨rfl,a.2⟩⟩⟩
  ·obtain⟨S,c',a,b⟩:=Zi5 a;cases S with|nil=>cases a|cons d S=>exact⟨_,_,a,⟨rfl,rfl,λ_ _ a=>a.elim⟩,Coe.aB Zc b⟩
  ·exact PR a|ptr t f=>
  intro v c k a;unfold VK at a;split at a;·exact⟨_,_,a,⟨rfl,rfl,λ_ _ a=>a.elim⟩,Coe.imp c λi m n a=>⟨a.1,.inl ⟨rfl,a.2⟩⟩⟩
  ·obtain⟨C,y,N,l,a⟩:=NK a;split at a;·obtain⟨O,a⟩:=Yq a;obtain⟨d,o,a,e,b⟩:=f a;exact⟨_,_,a,⟨rfl,rfl,λ_ _ a=>a.elim⟩,Coe.hole l rfl (Coe.ptr O (Coe.own b))⟩
   ·cases a
  ·exact PR a|own t f=>intro v c k a;obtain⟨h,x⟩:=v;cases h with
  |hole z=>
   replace a:(QQ c z λC c=>match C with|⟨.own w,x⟩=>VK t ⟨w,x⟩ c k|⟨.opt w,x⟩=>Yv x none λd=>VK t ⟨w,d⟩ c k|_=>none)=some r:=a;obtain⟨C,y,N,l,a⟩:=NK a;split at a;·obtain⟨d,o,a,e,b⟩:=f a;exact⟨_,_,a,⟨rfl,rfl,λ_ _ a=>a.elim⟩,Coe.hole l rfl (Coe.own b)⟩
   ·obtain⟨_,a⟩|⟨x0,T,a⟩:=Lo a;·cases a
    ·obtain⟨d,o,a,e,b⟩:=f a;exact⟨_,_,a,⟨rfl,rfl,λ_ _ a=>a.elim⟩,Coe.hole l rfl (Coe.Zf6 T (Coe.own b))⟩
   ·cases a|own w=>replace a:VK t ⟨w,x⟩ c k=some r:=a;obtain⟨d,o,a,e,b⟩:=f a;exact⟨_,_,a,⟨rfl,rfl,λ_ _ a=>a.elim⟩,Coe.own b⟩|opt w=>
   replace a:(Yv (α:=w.den) x none λd=>VK t ⟨w,d⟩ c k)=some r:=a;obtain⟨_,a⟩|⟨x0,T,a⟩:=Lo a;·cases a
   ·obtain⟨d,o,a,e,b⟩:=f a;exact⟨_,_,a,⟨rfl,rfl,λ_ _ a=>a.elim⟩,Coe.Zf6 T (Coe.own b)⟩|_=>exact HG a
 |opt t f=>
  intro v c k a;unfold VK at a;split at a;·exact⟨_,_,a,⟨rfl,rfl,λ_ _ a=>a.elim⟩,Coe.imp c λi m n a=>.inl ⟨rfl,a.1,a.2⟩⟩
  ·obtain⟨C,y,N,l,a⟩:=NK a;split at a;·obtain⟨d,o,a,e,b⟩:=f a;exact⟨_,_,a,⟨rfl,rfl,λ_ _ a=>a.elim⟩,Coe.hole l rfl (Coe.Zrt (Coe.own b))⟩
   ·obtain⟨d,o,a,e,b⟩:=PR a;exact⟨_,_,a,⟨rfl,rfl,λ_ _ a=>a.elim⟩,Coe.hole l rfl b⟩
   ·cases a
  ·exact PR a|full t f=>
  intro v c k a;unfold VK at a;split at a;·exact⟨_,_,a,⟨rfl,rfl,λ_ _ a=>a.elim⟩,Coe.imp c λi m n a=>.inl ⟨rfl,a.1,none,a.2⟩⟩
  ·obtain⟨C,y,N,l,a⟩:=NK a;obtain⟨d,o,a,e,b⟩:=PR a;exact⟨_,_,a,⟨rfl,rfl,λ_ _ a=>a.elim⟩,Coe.hole l e.n b⟩
  ·exact PR a|YU t f=>
  intro v c k a;unfold VK at a;split at a;·exact⟨_,_,a,⟨rfl,rfl,λ_ _ a=>a.elim⟩,Coe.imp c λi m n a=>.inl ⟨rfl,a.1,none,a.2⟩⟩
  ·obtain⟨C,y,N,l,a⟩:=NK a;split at a;·obtain⟨O,a⟩:=Yq a;obtain⟨V,l',q,u⟩:=M0 a;cases q;exact⟨_,_,u,⟨rfl,rfl,λ_ _ a=>a.elim⟩,Coe.hole l rfl (Coe.YU O V _)⟩
   ·obtain⟨d,o,a,e,b⟩:=PR a;exact⟨_,_,a,⟨rfl,rfl,λ_ _ a=>a.elim⟩,Coe.hole l e.n b⟩
  ·exact PR a|map j p _ _=>
  intro v c k a;unfold VK at a;split at a;·obtain⟨C,y,N,l,a⟩:=NK a;obtain⟨d,o,a,e,b⟩:=PR a;exact⟨_,_,a,⟨rfl,rfl,λ_ _ a=>a.elim⟩,Coe.hole l e.n b⟩
  ·exact PR a|YT U t f=>
  intro v c k a;unfold VK at a;split at a;·exact⟨_,_,a,⟨rfl,rfl,λ_ _ a=>a.elim⟩,Coe.imp c λi m n a=>⟨a.1,.inl ⟨rfl,a.2⟩⟩⟩
  ·obtain⟨d,y,a,e,b⟩:=f a;obtain⟨A,c3,a,K⟩:=ZoQ rfl b a;exact⟨_,_,a,⟨rfl,rfl,λ_ _ a=>a.elim⟩,K⟩
  ·exact PR a|YS U t f=>intro v c k a;unfold VK at a;exact PR a|hole g=>intro v c k a;obtain⟨h,x⟩:=v;cases h with
  |hole z=>
   replace a:(bif Nat.blt g 1000then match Td c.s g with|some J=>bif Nat.beq z J then k () c else none|none=>k () {c with s:=(g,z)::c.s}else bif Nat.beq g z then k () c else none)=some r:=a
   cases hb:Nat.blt g 1000with|true=>
    rw[hb]at a;simp only[S7]at a;split at a;·rename_i J H;obtain⟨G,u⟩:=Yq a;cases Wc G;exact⟨_,_,u,⟨rfl,rfl,λ_ _ a=>a.elim⟩,Coe.imp c λi m n W=>ZeR hb H W⟩
    ·rename_i H;exact⟨_,_,a,⟨rfl,rfl,λ_ _ a=>a.elim⟩,Coe.bind hb H⟩|false=>rw[hb]at a;obtain⟨G,u⟩:=Yq a;cases Wc G;refine⟨_,_,u,VZ.refl _,Coe.imp c λi m n W=>?_⟩;obtain⟨q,L,I,D,ho⟩:=W;exact⟨q,L,by simp only[KK.W1];rw[hb];exact I,D,ho⟩
  |_=>exact HG a
 |Um g x1=>intro v c k a;obtain⟨h,x⟩:=v;cases h with
  |Um z q'=>
   replace a:(bif decide (x1=q')then(bif Nat.blt g 1000then match Td c.s g with|some J=>bif Nat.beq z J then k () c else none|none=>k () {c with s:=(g,z)::c.s}else bif Nat.beq g z then k () c else none)else none)=some r:=a;obtain⟨hq,E⟩:=Yq a;have x4:x1=q':=by simpa using hq
   subst x4;cases hb:Nat.blt g 1000with|true=>
    rw[hb]at E;simp only[S7]at E;split at E;·rename_i J H;obtain⟨G,u⟩:=Yq E;cases Wc G;refine⟨_,_,u,⟨rfl,rfl,λ_ _ a=>a.elim⟩,Coe.imp c λi m n⟨q,L,I,D⟩=>?_⟩;exact⟨q,L,by simp only[KK.W1];rw[Y4 hb,H];exact I,D⟩
    ·rename_i H;refine⟨_,_,E,⟨rfl,rfl,λ_ _ a=>a.elim⟩,[],[],⟨rfl,rfl,rfl,rfl,rfl,?_,Zc,Zc,Zc,λa=>a,λx6 O=>⟨x6,by simpa using O,rfl⟩,λa=>a⟩,?_⟩;·intro i' J a;show Td ((g,z)::c.s) i'=some J;rw[uT];cases x2:Nat.beq g i' with|true=>cases Wc x2;rw[H]at a;cases a|false=>exact a
     ·intro C i m hl hR n hg⟨q,L,I,D⟩x3 _ _ hF _;refine⟨i,m,hl++hR,Y5.refl _ _ _,⟨q,L,?_,D⟩,ZS.more hR x3,hF.sub Zc,Vf.refl _ _,λ_=>rfl⟩;simp only[KK.W1];rw[Y4 hb,uT,show Nat.beq g g=true by rw[It]];exact I|false=>rw[hb]at E;obtain⟨G,u⟩:=Yq E;cases Wc G;refine⟨_,_,u,VZ.refl _,Coe.imp c λi m n⟨q,L,I,D⟩=>⟨q,L,by simp only[KK.W1];rw[hb];exact I,D⟩⟩
  |_=>exact HG a
 |fn U j Z P x5=>intro v c k a;obtain⟨h,x⟩:=v;cases h with|fn f' B d'=>replace a:(bif Nat.beq U f'&&(j.plain&&Z.plain)then VK j ⟨B,x.1⟩ c λd c=>VK Z ⟨d',x.2⟩ c λA c=>k (d,A) c else none)=some r:=a;obtain⟨F,a⟩:=Yq a;simp only[YL]at F;cases Wc F.1;obtain⟨d,y,a,e,b⟩:=P a;obtain⟨A,o,a,Q,K⟩:=x5 a;exact⟨_,_,a,⟨rfl,rfl,λ_ _ a=>a.elim⟩,Coe.fn F.2.1 F.2.2 e Q b K⟩|_=>exact HG a
 |_=>intro v c k a;exact HG a
structure Vw(n n':Nat)(K K':KK):Prop where
 m:K'.m=K.m
 fm:K'.fm=K.fm
 le:K.le K'
 nm:∀i,¬(n<=i/\i<n')->K'.nm i=K.nm i
def Vw.refl(n n')(K):Vw n n' K K:=⟨rfl,rfl,KK.le.refl _,λ_ _=>rfl⟩
def Vw.trans{K a K2}(c:C<=B)(d:B<=f)(h:Vw C B K a)(k:Vw B f a K2):Vw C f K K2:=⟨k.m.trans h.m,k.fm.trans h.fm,h.le.trans k.le,λb e=>(k.nm b Y).trans (h.nm b Zp)⟩
def Ot(n n':Nat)(K:KK):Prop:=∀a,n<=a->a<n'->K.nm a=none
def Vw.fresh{K a}(h:Vw C B K a)(d:Ot C f K)(g:C<=B):Ot B f a:=λb e c=>(h.nm b Y).trans (d b Y c)
def KK.name(K:KK)(n:Nat)(v:Value):KK:={K with nm:=λa=>if a=n then some v else K.nm a}
def KK.Fx{K}(h:K.nm C=none)(v):Vw C (C+1) K (K.name C v):=by
 refine⟨rfl,rfl,⟨λa b c=>?_,λ_ _ _ h=>h,Wy.refl _⟩,λa d=>?_⟩;·show(if a=C then some v else K.nm a)=some b;grind
 ·show(if a=C then some v else K.nm a)=K.nm a;rw[Ys Y]
def KK.Oa{K:KK}{v}:(K.name C v).nm C=some v:=by simp[KK.name]
structure ID(t:Ty)(x:t.den)(n:Nat)(l:Bx)(u:TV)(n':Nat)(l':Bx):Prop where
 le:n<=n'
 tn:u.t.n=t.n
 ag:u.t.ag=t.ag
 h:∃new,l'=new++l/\(∀p∈new,n<=p.1/\p.1<n')/\∀(K:KK)(hs:HP)(cs:List Value),rel K t hs cs x->Ot n n' K->∃K' hu hn,hs.Perm (hu++hn)/\Vw n n' K K'/\rel K' u.t hu cs u.x/\ZS K' new hn
def ID.same{x}:ID M x C d ⟨M,x⟩ C d:=⟨Zc,rfl,rfl,[],rfl,Zc,λa c e b _=>⟨a,c,[],Zc,Vw.refl _ _ _,b,trivial⟩⟩
def ID.box{t}{x}{n}{l}(h1:t.n=1)(h:t.ag=false):ID t x n l ⟨.hole n,()⟩ (n+1) ((n,⟨t,x⟩)::l):=by refine⟨Zc,h1.symm,h.symm,[(n,⟨t,x⟩)],rfl,Zc,λf d g a i=>?_⟩;have c:=WU a;rw[h1]at c;match g,c with|[v],_=>have b:=KK.Fx (i n Zc Zc) v;exact⟨f.name n v,[],d,Zc,b,⟨rfl,v,KK.Oa,rfl,Qn a v Zc⟩,⟨d,[],Zc,⟨[v],Xw b.le a,by intro j e;simp at e;subst e;exact KK.Oa⟩,trivial⟩⟩
def vL:∀{t}{x}{n}{l}{u}{n'}{b},Tb t x n l=(u,n',b)->ID t x n l u n' b:=by intro t;induction t with|pair F o x3 x4=>
  intro x n l u n' b h;unfold Tb at h;rcases a:Tb F x.1 n l with⟨f,B,A⟩;rw[a]at h;rcases s:Tb o x.2 B A with⟨L,n2,l2⟩;dsimp only at h;rw[s]at h;replace h:((⟨.pair f.t L.t,(f.x,L.x)⟩:TV),n2,l2)=(u,n',b):=h;cases h;have k:=x3 a;have q:=x4 s;obtain⟨w1,T,P,k1⟩:=k.h;obtain⟨w2,U,Q,k2⟩:=q.h;have x9:=k.le;have xa:=q.le;refine⟨Y,by simp[Ty.n,k.tn,q.tn],rfl,w2++w1,by rw[U,T,Yc],?_,?_⟩
  ·intro e c;obtain c|c:=ZY c;·have:=Q e c;omega
   ·have:=P e c;omega
  ·rintro E hs R⟨V,W,G,H,rfl,rfl,r1,r2⟩j;obtain⟨O,K,N,p1,D,q1,s1⟩:=k1 E V G r1 λx0 a s=>j x0 a Y;obtain⟨m,M,C,p2,g,q2,s2⟩:=k2 O W H (Xw D.le r2) (D.fresh j k.le);refine⟨m,K++M,C++N,(p1.append p2).trans ?_,D.trans k.le q.le g,⟨K,M,G,H,rfl,rfl,Xw g.le q1,q2⟩,ZS.append.2 ⟨C,N,Ue _,s2,s1.mono g.le⟩⟩;rw[Yc,Yc];refine V5 _ ?_;rw[<-Yc,<-Yc];refine(Wr.append_right C).trans ?_;rw[Yc,Yc];exact V5 _ Wr|only t z=>intro x n l u n' b h;unfold Tb at h;rcases a:Tb t x n l with⟨f,B,A⟩;rw[a]at h;cases h;have d:=z a;exact⟨d.le,d.tn,rfl,d.h⟩|own t z=>
  intro x n l u n' b h;unfold Tb at h;rcases a:Tb t x (n+1) l with⟨f,B,A⟩;rw[a]at h;cases h;have d:=z a;obtain⟨x8,S,o,x5⟩:=d.h;have Z:=d.le;refine⟨Y,rfl,rfl,(n,⟨.own f.t,f.x⟩)::x8,by rw[S];rfl,?_,?_⟩
  ·intro e c;obtain rfl|c:=XL c;·exact⟨YA _,Y⟩
   ·have:=o e c;omega
  ·rintro E hs R⟨i,r,p,X,rfl,rfl,hr⟩j;have w:=KK.Fx (j n (YA _) Y) (.pointer (some ⟨i,0,none⟩));obtain⟨m,y,I,e,g,x6,x7⟩:=x5 _ X p (Xw w.le hr) (w.fresh j (LW _));have J:m.nm n=some (.pointer (some ⟨i,0,none⟩)):=g.le.nm _ _ KK.Oa;refine⟨m,[],(i,0,cellsOf p r)::y++I,NP _ e,w.trans (LW _) Z g,⟨rfl,_,J,rfl,rfl⟩,⟨(i,0,cellsOf p r)::y,I,Ue _,⟨_,⟨i,r,p,y,rfl,rfl,x6⟩,by intro v hv;simp at hv;subst hv;exact J⟩,x7⟩⟩|full t _=>intro x n l u n' b h;unfold Tb at h;cases h;exact ID.box rfl rfl|YU t _=>intro x n l u n' b h;unfold Tb at h;cases h;exact ID.box rfl rfl|map F o _ _=>intro x n l u n' b h;unfold Tb at h;cases h;exact ID.box rfl rfl|_=>intro x n l u n' b h;unfold Tb at h;cases h;exact ID.same
def Gu(r:Value)(p:L PS)(b:Nat):Prop:=r=.pointer (some ⟨b,0,none⟩)/\Qw p\/∃c e a g f d,r=.slice (some ⟨b,0,none⟩) c e/\p=.ix a g f::d/\0<=a/\a.toNat<c/\Qw d
def Lw(K:KK)(j:Nat):L PS->Zg Value|.m i::_=>K.fm (j-1000) i|_=>K.nm j
def Ck:L PS->L PS|.m _::q=>q|p=>p
def Rc(K:KK)(j:Nat)(p:L PS)(b:Nat):Prop:=∃a,Lw K j p=some a/\Gu a (Ck p) b
def zd:Obj->Nat->Zg Value|.cells cs _ _,o=>cs[o]?|_,_=>none
def QA(K:KK)(c:HP):Prop:=∀b∈c,∀a v,zd b.2.2 a=some v->K.m b.1 a=some v
def QA.at{K}(h:QA K c)(a:(C,B,cellsOf A r)∈c):At K.m C 0 A:=λd v b=>by rw[Qc];exact h _ a d v (by simpa[zd,cellsOf]using b)
abbrev HM:=Nat->Zg HP
def R1(K:KK)(H:HM):SV->Value->Prop|.v a,v=>∃c,rel K a.t [] c a.x/\v=XZ a.t.ag c|.SP d p,v=>∃b,Rc K d p b/\v=.pointer (some ⟨b,Yd p,none⟩)|.sub d p sz m lo hi,v=>∃b f,Rc K d p b/\v=.slice (some ⟨b,Yd p+lo.toNat*sz,none⟩) (hi-lo).toNat f/\(hi-lo).toNat<=f/\0<=lo/\lo<=hi/\hi.toNat<=m|.Sq a,v=>∃b j h,v=.pointer (some ⟨b,j,none⟩)/\rel K a.t [] h a.x/\At K.m b j h|.gl g,v=>v=.pointer (some ⟨g,0,none⟩)|.bv k a,v=>∀(e:KK),K.le e->(∀d∈k,∃i,H d=some i/\QA e i)->∃c,rel e a.t [] c a.x/\v=XZ a.t.ag c|.un,v=>v=undef|.any,_=>True|_,_=>False
def R0(K:KK)(s:SV)(v:Value):Prop:=Us s=[]/\R1 K (λ_=>none) s v
def RT(K:KK):SV->L Value->Prop|.tc a s,vs=>∃v b,vs=v::b/\R0 K a v/\RT K s b|.tn,vs=>vs=[]|_,_=>False
def Y0(K:KK)(H:HM)(s:SV)(v:Value):Prop:=match s with|.tc a r=>∃b:L Value,v=.tuple b.toArray/\RT K (.tc a r) b|.tn=>v=.tuple #[]|s=>R1 K H s v
variable {K:HM}
def ZwI{K K'}(h:K.le K')(e:Lw K C p=some i):Lw K' C p=some i:=by cases p with|nil=>exact h.nm _ _ e|cons a p=>cases a<;>first|exact h.nm _ _ e|exact h.fm _ _ _ e
def Rc.mono{K K'}(h:K.le K')(r:Rc K C p B):Rc K' C p B:=by have⟨r,a,b⟩:=r;exact⟨r,ZwI h a,b⟩
def R1.mono{K K'}(h:K.le K'){H}:∀{s}{v},R1 K H s v->R1 K' H s v|.v _,_,⟨cs,r,e⟩=>⟨cs,Xw h r,e⟩|.SP _ _,_,⟨bl,r,e⟩=>⟨bl,r.mono h,e⟩|.sub _ _ _ _ _ _,_,⟨bl,cap,r,e⟩=>⟨bl,cap,r.mono h,e⟩|.Sq _,_,⟨bl,o,ds,e,r,k⟩=>⟨bl,o,ds,e,Xw h r,k.mono h.m⟩|.gl _,_,e=>e|.bv _ _,_,k=>λb a=>k _ (h.trans a)|.un,_,e=>e|.any,_,_=>trivial
def R0.mono{K K'}(h:K.le K'){s}{v}(r:R0 K s v):R0 K' s v:=⟨r.1,r.2.mono h⟩
def RT.mono{K K'}(h:K.le K'):∀{s}{vs},RT K s vs->RT K' s vs|.tc _ _,_,⟨v,r,e,p,q⟩=>⟨v,r,e,p.mono h,RT.mono h q⟩|.tn,_,e=>e
def Y0.Hj{K}{H}{s}{v}(h:R1 K H s v):Y0 K H s v:=by cases s<;>first|exact h|exact h.elim
def Y0.mono{K K'}(h:K.le K'){H}{s}{v}(r:Y0 K H s v):Y0 K' H s v:=by cases s with|tc j s=>have⟨i,d,e⟩:=r;exact⟨i,d,e.mono h⟩|tn=>exact r|v c=>exact R1.mono (H:=H) (s:=.v _) h r|SP a b=>exact R1.mono (H:=H) (s:=.SP a b) h r|sub a b n f m k=>exact R1.mono (H:=H) (s:=.sub a b _ f _ _) h r|Sq c=>exact R1.mono (H:=H) (s:=.Sq _) h r|gl g=>exact R1.mono (H:=H) (s:=.gl g) h r|bv l c=>exact R1.mono (s:=.bv _ _) h r|un=>exact R1.mono (H:=H) (s:=.un) h r|any=>trivial
def Y0.boxes{K}{H H'}{v}(h:∀j∈Us S,H' j=H j)(r:Y0 K H S v):Y0 K H' S v:=by
 cases S<;>first|exact r|skip
 exactλg d e=>r _ d λj a=>let⟨c,b,f⟩:=e j a;⟨c,h j a▸b,f⟩
def R1.boxes{K}{H H'}{v}(h:∀j∈Us S,H' j=H j)(r:R1 K H S v):R1 K H' S v:=by
 cases S<;>first|exact r|skip
 exactλg d e=>r _ d λj a=>let⟨c,b,f⟩:=e j a;⟨c,h j a▸b,f⟩
def R1.oY{K}{H}{v}(h:R0 K S v):R1 K H S v:=h.2.boxes λb a=>by rw[h.1]at a;cases a
def Zdp{K}{H}(v):R1 K H (gw v) v:=by
 unfold gw;split;·exact⟨_,⟨rfl,rfl⟩,rfl⟩
 ·rename_i a b _
  cases hb:(CE a&&Nat.blt b _)with|true=>
   rw[YL]at hb;have d:b<2^a.bits:=Xk;refine⟨_,⟨rfl,rfl⟩,?_⟩;have c:(Yl a.bits (.ofNat b)).toNat=b:=by grind
   show Value.int a b=Value.int a _;rw[c]|false=>trivial
 ·exact⟨_,⟨rfl,rfl⟩,rfl⟩
 ·exact⟨_,⟨rfl,_,rfl,rfl⟩,rfl⟩
 ·exact⟨_,⟨rfl,rfl⟩,rfl⟩
 ·exact⟨_,⟨rfl,rfl⟩,rfl⟩
 ·exact⟨_,⟨rfl,rfl⟩,rfl⟩
 ·exact⟨_,⟨rfl,rfl⟩,rfl⟩
 ·trivial
structure Mv(n n':Nat)(K K':KK):Prop where
 le:K.le K'
 nm:∀i,¬(n<=i/\i<n')->K'.nm i=K.nm i
def Mv.refl(n n')(K):Mv n n' K K:=⟨KK.le.refl _,λ_ _=>rfl⟩
def Mv.trans{K a K2}(h:Mv C B K a)(k:Mv C B a K2):Mv C B K K2:=⟨h.le.trans k.le,λc b=>(k.nm c b).trans (h.nm c b)⟩
def Mv.wide{b}{K a}(h:Mv C B K a)(h1:f<=C)(h2:B<=b):Mv f b K a:=⟨h.le,λc d=>h.nm c Y⟩
def Y5.mv{K K'}(h:Y5 H K c K' e)(n n'):Mv n n' K K':=⟨h.le,λa _=>by rw[h.nm]⟩
def Vw.mv{K K'}(h:Vw C B K K'):Mv C B K K':=⟨h.le,h.nm⟩
def NW(Z:XF)(K:KK):Prop:=∀c a,Qa Z.gl c=some a->∃b,rel K a.t [] b a.x/\At K.m c 0 b
def NW.mono{K K'}(h:NW I K)(a:K.le K'):NW I K':=λd g c=>let⟨b,f,e⟩:=h d _ c;⟨b,Xw a f,e.mono a.m⟩
structure TP(Z:XF)(e:En)(n:Nat)(f:Ww)(xs:List Operand)(K:KK)(H:HM)(hr hx:HP)(a:Act)(w:World):Prop where
 gd:GD K.m (hr++hx) w
 gl:NW Z K
 sr:ZS K f.r hr
 rd:∀p∈f.rd,∃h,H p.1=some h/\WC K p.1 p.2 h/\∀x∈h,x∈hr++hx
 rx:∀p∈f.rd,(∀q∈f.r,q.1≠p.1)->∀h,H p.1=some h->∀x∈h,x∈hx
 op:∀x∈xs,Y0 K H (Z9 e x) (a.eval x)fr:Ot n f.n K
 lt:f.n<=500YT:Yx K f.r
 dj:∀p∈f.rd,∀q∈f.rd,p.1≠q.1->∀h h',H p.1=some h->H q.1=some h'->∀x∈h,x∉h'
 ZoS:Yx K f.rd
 ndd:∀p∈f.rd,∀h,H p.1=some h->(HP.bs h).Nodup
structure Aft(n:Nat)(f:Ww)(K:KK)(H:HM)(hr hx:HP)(w:World)(v:Value)(w':World)(K':KK)(hw:HP):Prop where
 gd:GD K'.m (hw++hx) w'
 JA:ZW w w' K.m K'.m (hr++hx).bs (hw++hx).bs
 mv:Mv n f.n K K'
 v:Y0 K' H f.v v
 sw:ZS K' f.w hw
 YT:Yx K' f.w
 fk:Vf K K' f.r
def EL(Z:XF)(o:Oper)(e:En)(n:Nat)(f:Ww):Prop:=∀c b g h d a,TP Z e n f o.op.operands.toList c b g h d a->RS Z.P (λv k=>∃i j,Aft n f c b g h a v k i j) ((execOp d.eval o).run Z.P a)
abbrev Ww.val(s:SV)(a:Bx)(n:Nat):Ww:=⟨s,a,[],[],n⟩
variable {F:Ww->Zg s}{R:Ww}
def Wq{o}(h:∀K H b hx a w,TP I J C (Ww.val S d C) o.op.operands.toList K H b hx a w->∃v,(execOp a.eval o).run I.P w=.ok (.value v) w/\Y0 K H S v):EL I o J C (Ww.val S d C):=by intro K H b hx a w c;have⟨v,e,f⟩:=h K H _ _ a w c;rw[e];exact⟨K,b,c.gd,ZW.refl _ _ _,Mv.refl _ _ _,f,trivial,λ_ _ _ h=>(by cases h),Vf.refl _ _⟩
def RW(a:Act):L Operand->YG|[]=>[]|.tmp t::l=>(t,val (a.tmps.getD t undef))::RW a l|_::l=>RW a l
def wd{a}{t:Nat}:∀{l},Operand.tmp t∈l->lk (RW a l) t=some (val (a.tmps.getD t undef))
 |.tmp u::l,h=>by
  by_cases b:u=t;·subst b;exact JH _ _ _
  ·rw[show RW a _=(u,val _)::RW a l from rfl,He b];exact wd Zp|.const _::l,h=>wd (l:=l) Zp|.global _::l,h=>wd (l:=l) Zp|.func _::l,h=>wd (l:=l) Zp
def Ar(h:y∈N):Xe (RW z N) y (val (z.eval y)):=by cases y with|tmp d=>exactλc a b=>b _ (wd h)|_=>intro c a _;rfl
def Zeb{m}:S9 (RW z N) m z:=by
 induction N with|nil=>intro b f a;cases a|cons g N e=>cases g with|tmp c=>
   intro b f a;by_cases d:c=b;·subst d;rw[show RW z _=(c,val _)::RW z N from rfl,JH]at a;cases a;rfl
   ·rw[show RW z _=(c,val _)::RW z N from rfl,He d]at a;exact e b f a|_=>exact e
def cx(P:Program):We:=⟨P,0,⟨λ_=>True,λ_ _=>trivial⟩,λ_ _=>none,default,[],none,false⟩
def Sn{o}(h:∀K H c hx a w,TP I J C (Ww.val S d C) o.op.operands.toList K H c hx a w->∃e,PJ (cx I.P) o (RW a o.op.operands.toList) [] e/\∀(K')v,K.le K'->e.p K'.m v->Y0 K' H S v):EL I o J C (Ww.val S d C):=by intro K H c hx a w b;have⟨e,k,l⟩:=h K H _ _ a w b;refine(k _ _ a w ⟨b.gd.mem,by simp[Hp.bs],Zc,Zc⟩ trivial rfl λp _=>Zeb.Z9 p).mono λv r⟨i,j,n,f⟩=>?_;have g:K.le {K with m:=i}:=⟨Zc,Zc,f.le⟩;have q:=GD.frame (h1:=[]) (h1':=[]) (by simpa using b.gd) ⟨j.mem,by simp[HP.bs],Zc,Zc⟩ f;exact⟨{K with m:=i},c,Zp,Zp,⟨g,λ_ _=>rfl⟩,l _ v g n,trivial,λ_ _ _ h=>(by cases h),λ_ _=>rfl⟩
structure Loc(b:Bx)(n:Nat)(f:Ww):Prop where
 le:n<=f.n
 r:∀p∈f.r,ZJ b p.1=some p.2rd:∀p∈f.rd,ZJ b p.1=some p.2nd:(f.r.map (·.1)).Nodup
def Vg(Z:XF)(o:Oper)(e:En)(b:Bx)(n:Nat)(k:Ww->Zg s)(r:s):Prop:=∃a,k a=some r/\Loc b n a/\EL Z o e n a
def Loc.val:Loc d C (Ww.val S [] C):=⟨Zc,Zc,Zc,Zc⟩
def TP.v{K:KK}{H:HM}{w:World}(d:TP I J C R N K H c e z w)(b:Z9 J y=.v l)(a:y∈N):∃cs,rel K l.t [] cs l.x/\z.eval y=XZ l.t.ag cs:=by have:=d.op y a;rwa[b]at this
def TP.int{K:KK}{H:HM}{w:World}(d:TP I J C R N K H c e z w)(b:Z9 J y=.v ⟨.int,x⟩)(a:y∈N):z.eval y=.int .i64 x:=by obtain⟨f,⟨_,rfl⟩,J⟩:=d.v b a;exact J
def TP.un{K:KK}{H:HM}{w:World}(d:TP I J C R N K H c e z w){k}{p:ZO B}(b:Z9 J y=.v ⟨.un k B,p⟩)(a:y∈N):z.eval y=.int k p.toNat:=by obtain⟨f,⟨_,rfl⟩,J⟩:=d.v b a;exact J
def TP.bool{K:KK}{H:HM}{w:World}(d:TP I J C R N K H c e z w)(b:Z9 J y=.v ⟨.bool,k⟩)(a:y∈N):z.eval y=.bool k:=by obtain⟨f,⟨_,rfl⟩,J⟩:=d.v b a;exact J
def TP.bit{K:KK}{H:HM}{w:World}(d:TP I J C R N K H c e z w){u:Unit}(b:Z9 J y=.v ⟨.bit k,u⟩)(a:y∈N):z.eval y=.bool k:=by obtain⟨f,⟨_,rfl⟩,J⟩:=d.v b a;exact J
def Nq{K:KK}{H:HM}{w:World}(f:TP I J C R N K H c e z w)(d:Z9 J y=.v ⟨.int,x⟩)(a:y∈N):Xe (RW z N) y (i64.slot x):=AB (Ar a) λg v b=>by rw[b];exact Vj.2 (f.int d a)
def PZ{K:KK}{H:HM}{w:World}(f:TP I J C R N K H c e z w){k}{p:ZO B}(d:Z9 J y=.v ⟨.un k B,p⟩)(a:y∈N):Xe (RW z N) y ((un k B).slot p):=AB (Ar a) λB v b=>by rw[b];exact WV.2 (f.un d a)
def Ff{K:KK}{H:HM}{w:World}(d:TP I J C R N K H c e z w){p}(h:z.eval y=.bool p)(b:y∈N):Xe (RW z N) y (bl.slot p):=AB (Ar b) λf v a=>by rw[a];exact Qd h
def D0(K')(v)(h:(i64.slot x).p K'.m v):Y0 K' K (.v ⟨.int,x⟩) v:=⟨_,⟨rfl,rfl⟩,V6 h⟩
def D3{k}{p}(K')(v)(h:((un k C).slot p).p K'.m v):Y0 K' K (.v ⟨.un k C,p⟩) v:=⟨_,⟨rfl,rfl⟩,Uu h⟩
def Hn(K')(v)(h:(bl.slot k).p K'.m v):Y0 K' K (.v ⟨.bool,k⟩) v:=⟨_,⟨rfl,rfl⟩,Tv.1 h⟩
def Zgg(K')(v)(h:(bl.slot k).p K'.m v):Y0 K' K (.v ⟨.bit k,()⟩) v:=⟨_,⟨rfl,rfl⟩,Tv.1 h⟩
def FB{e}{q z:Int}(hx:Z9 J y=.v ⟨.int,x⟩)(i:Z9 J Q=.v ⟨.int,q⟩)(f:Ws C F .int z=some G)(h:∀(c)Γ,Xe Γ y (i64.slot x)->Xe Γ Q (i64.slot q)->PJ c ⟨D,.binOp e r y Q b,g,E,o,j⟩ Γ [] (i64.slot z)):Vg I ⟨D,.binOp e r y Q b,g,E,o,j⟩ J d C F G:=⟨_,f,Loc.val,Sn λl k p t n u a=>⟨_,h _ _ (Nq a hx Yr) (Nq a i Yr),λm v _=>D0 _ v⟩⟩
def nk{e}{q:Int}(hx:Z9 J y=.v ⟨.int,x⟩)(i:Z9 J Q=.v ⟨.int,q⟩)(f:Ws C F .bool k=some G)(h:∀(c)Γ,Xe Γ y (i64.slot x)->Xe Γ Q (i64.slot q)->PJ c ⟨D,.binOp e r y Q b,g,E,o,j⟩ Γ [] (bl.slot k)):Vg I ⟨D,.binOp e r y Q b,g,E,o,j⟩ J d C F G:=⟨_,f,Loc.val,Sn λm l t u p w a=>⟨_,h _ _ (Nq a hx Yr) (Nq a i Yr),λn v _=>Hn _ v⟩⟩
def FD{e}{u}{p q z:ZO B}(hx:Z9 J y=.v ⟨.un u B,p⟩)(i:Z9 J Q=.v ⟨.un u B,q⟩)(f:Ws C F (.un u B) z=some G)(h:∀(c)Γ,Xe Γ y ((un u B).slot p)->Xe Γ Q ((un u B).slot q)->PJ c ⟨D,.binOp e r y Q b,g,E,o,j⟩ Γ [] ((un u B).slot z)):Vg I ⟨D,.binOp e r y Q b,g,E,o,j⟩ J d C F G:=⟨_,f,Loc.val,Sn λl k t w n x a=>⟨_,h _ _ (PZ a hx Yr) (PZ a i Yr),λm v _=>D3 _ v⟩⟩
def nn{e}{u}{p q:ZO B}(hx:Z9 J y=.v ⟨.un u B,p⟩)(i:Z9 J Q=.v ⟨.un u B,q⟩)(f:Ws C F .bool k=some G)(h:∀(c)Γ,Xe Γ y ((un u B).slot p)->Xe Γ Q ((un u B).slot q)->PJ c ⟨D,.binOp e r y Q b,g,E,o,j⟩ Γ [] (bl.slot k)):Vg I ⟨D,.binOp e r y Q b,g,E,o,j⟩ J d C F G:=⟨_,f,Loc.val,Sn λm l w x t z a=>⟨_,h _ _ (PZ a hx Yr) (PZ a i Yr),λn v _=>Hn _ v⟩⟩
def zX{a}{w}(h:CD a w=true):a.bits=w/\a.signed=false:=by simp[CD,YL]at h;refine⟨Xk,?_⟩;have:=h.1;cases a<;>first|rfl|cases this
def JG{k}(h:Lf S k=some G):∃q,k q=some G/\(S=.v ⟨.int,q⟩\/∃(u:IntKind)(m:Nat)(p:ZO m),S=.v ⟨.un u m,p⟩/\q=p.toNat):=by
 unfold Lf at h;split at h;·exact⟨_,h,.inl rfl⟩
 ·exact⟨_,h,Zp⟩
 ·cases h
def pA{K}{H}{w}(d:TP I J C R N K H c e z w)(a:Z9 J y=.v ⟨.int,x⟩\/∃(u:IntKind)(m:Nat)(p:ZO m),Z9 J y=.v ⟨.un u m,p⟩/\x=p.toNat)(b:y∈N):∃s,Xe (RW z N) y s/\L1 s x:=by
 obtain a|⟨u,m,p,a,rfl⟩:=a;·exact⟨_,Nq d a b,Ha⟩
 ·exact⟨_,PZ d a b,pQ⟩
def P3{c}[Decidable c]{x}(h:Zf (decide c) x none=some G):c/\x=some G:=gE h
def Zmy{u}{v}{k:ZO C->Zg s}(h:Sd (.un u C) v k=some G):∃q,v=⟨.un u C,q⟩/\k q=some G:=Rv h
def ZmR{u}(N:∀neg,wc I d C F r neg (Z9 J y) (Z9 J Q)=some G->u=(match neg with|true=>.neq|false=>.eql)->Vg I ⟨D,.binOp u r y Q b,g,E,o,j⟩ J d C F G)(h:iK I d C F r u (Z9 J y) (Z9 J Q)=some G):Vg I ⟨D,.binOp u r y Q b,g,E,o,j⟩ J d C F G:=by
 unfold iK at h;split at h;·exact N false h rfl
 ·exact N true h rfl
 ·rename_i w _ e;obtain⟨x,h,f⟩:=JG h;obtain⟨l,h⟩:=P3 h;rw[uU]at h;exact⟨_,h,Loc.val,Sn λA z H K B M n=>by obtain⟨L,c,a⟩:=pA n f Yr;exact⟨_,Zse (Nq n e Yr) c a l,λq v _=>D0 q v⟩⟩
 ·rename_i w _ e;obtain⟨x,h,f⟩:=JG h;obtain⟨l,h⟩:=P3 h;rw[Zi2]at h;exact⟨_,h,Loc.val,Sn λA z H K B M n=>by obtain⟨L,c,a⟩:=pA n f Yr;exact⟨_,Zsf (Nq n e Yr) c a l,λq v _=>D0 q v⟩⟩
 ·rename_i P O w _ e;obtain⟨t,h⟩:=Yq h;obtain⟨m,p⟩:=zX t;obtain⟨x,h,f⟩:=JG h;obtain⟨l,h⟩:=P3 h;exact⟨_,h,Loc.val,Sn λA z H K B M n=>by obtain⟨L,c,a⟩:=pA n f Yr;exact⟨_,ZsA m p (PZ n e Yr) c a l,λq v _=>D3 q v⟩⟩
 ·rename_i P O w _ e;obtain⟨t,h⟩:=Yq h;obtain⟨m,p⟩:=zX t;obtain⟨x,h,f⟩:=JG h;obtain⟨l,h⟩:=P3 h;exact⟨_,h,Loc.val,Sn λA z H K B M n=>by obtain⟨L,c,a⟩:=pA n f Yr;exact⟨_,ZsB m (PZ n e Yr) c a l,λq v _=>D3 q v⟩⟩
 ·rename_i e f;simp only[NL,ZcT]at h;exact FB e f h λi k c a=>Zr2 c a
 ·rename_i e f;simp only[NL,Cn]at h;exact FB e f h λi k c a=>Zsg c a
 ·rename_i e f;simp only[NL,ZfO]at h;exact FB e f h λi k c a=>Zr8 c a
 ·rename_i e f;obtain⟨l,h⟩:=P3 h;simp only[NL,gT]at h;exact FB e f h λi k c a=>Zsc c a l
 ·rename_i e f;obtain⟨l,h⟩:=P3 h;simp only[NL,ZfE]at h;exact FB e f h λi k c a=>Zsd c a l
 ·rename_i e f;simp only[NL,rW]at h;exact FB e f h λi k c a=>Zr3 c a
 ·rename_i e f;simp only[NL,nq]at h;exact FB e f h λi k c a=>Zsb c a
 ·rename_i e f;simp only[NL,Zkr]at h;exact FB e f h λi k c a=>Zsh c a
 ·rename_i e f;exact nk e f h λi k c a=>Zr7 c a
 ·rename_i e f;exact nk e f h λi k c a=>Zr6 c a
 ·rename_i e f;exact nk e f h λi k c a=>Zr5 c a
 ·rename_i e f;exact nk e f h λi k c a=>Zr4 c a
 ·rename_i P O w v _ _ _ _ e f;obtain⟨t,h⟩:=Yq h;obtain⟨m,p⟩:=zX t;obtain⟨x,rfl,a⟩:=Zmy h;clear h;split at a;·exact FD e f a λi k c a=>Zsm m p c a
  ·exact FD e f a λi k c a=>ZsC m p c a
  ·exact FD e f a λi k c a=>Zst m p c a
  ·obtain⟨l,a⟩:=P3 a;exact FD e f a λi k c a=>Zsy m p c a l
  ·obtain⟨l,a⟩:=P3 a;exact FD e f a λi k c a=>Zsz c a l
  ·exact FD e f a λi k c a=>Zsn m p c a
  ·exact FD e f a λi k c a=>Zsx m p c a
  ·exact FD e f a λi k c a=>ZsD m p c a
  ·exact nn e f a λi k c a=>Zss c a
  ·exact nn e f a λi k c a=>Zsr c a
  ·exact nn e f a λi k c a=>Zsq c a
  ·exact nn e f a λi k c a=>Zsp c a
  ·cases a
 ·cases h
def ZqN(h:Tn C F (Z9 J y)=some G):Vg I ⟨D,.move y,r,E,o,j⟩ J d C F G:=⟨_,h,Loc.val,Wq λc b f g e i a=>⟨_,rfl,a.op y Yr⟩⟩
def ZmD(h:Tn C F (Z9 J y)=some G):Vg I ⟨D,.assign y,r,E,o,j⟩ J d C F G:=⟨_,h,Loc.val,Wq λc b f g e i a=>⟨_,rfl,a.op y Yr⟩⟩
def oV(h:BitVec.ofInt C x=BitVec.allOnes C)(p):BitVec.ofInt C (BitVec.ofInt C x^^^BitVec.ofInt C (p.toNat:Int)).toNat= ~~~p:=by rw[Ip,Ip,tX,tX,tY,tY,h,BitVec.allOnes_xor]
def Zsw{c}{Γ}{H}{u}{p}(d:u.bits=C)(hs:u.signed=false)(hx:Xe Γ y ((un u C).slot p)):PJ c ⟨D,.unOp .xor b y,r,E,o,j⟩ Γ H ((un u C).slot (~~~p)):=Nz λC f a g _ _ _ e=>by
  subst d;refine⟨_,by simp only[execOp,Uu (hx C a (e y Yr)),Op.unary,hs,RK,UH,Op.intBits];rfl,WV.2 ?_⟩;rw[ME rfl hs];congr 2;cases u<;>first|(cases hs)|skip
  ·exact WX _ (oV YI p)
  ·exact WX _ (oV YI p)
  ·exact WX _ (oV YI p)
  ·exact WX _ (oV YI p)
def ZAt{t}(h:unX C F t (Z9 J y)=some G):Vg I ⟨D,.unOp t b y,r,E,o,j⟩ J d C F G:=by
 unfold unX at h;split at h;·rename_i l _ hx;exact⟨_,h,Loc.val,Sn λf e i k g m a=>⟨_,Zgu (Ff a (a.bit hx Yr) Yr),λc v _=>Zgg c v⟩⟩
 ·rename_i l _ hx;exact⟨_,h,Loc.val,Sn λf e i k g m a=>⟨_,Zgu (Ff a (a.bool hx Yr) Yr),λc v _=>Hn _ v⟩⟩
 ·rename_i l _ hx;simp only[NL,Cn]at h;exact⟨_,h,Loc.val,Sn λf e i k g m a=>⟨_,Zr9 (Nq a hx Yr),λc v _=>D0 c v⟩⟩
 ·rename_i w u l _ hx;have⟨q,h⟩:=Yq h;have⟨n,p⟩:=zX q;exact⟨_,h,Loc.val,Sn λf e i k g m a=>⟨_,Zsu n p (PZ a hx Yr),λc v _=>D3 _ v⟩⟩
 ·rename_i w u l _ hx;have⟨q,h⟩:=Yq h;have⟨n,p⟩:=zX q;exact⟨_,h,Loc.val,Sn λf e i k g m a=>⟨_,Zsw n p (PZ a hx Yr),λc v _=>D3 c v⟩⟩
 ·cases h
def ZAu{q}(h:CE q=true):q.signed=false:=by cases q<;>first|rfl|cases h
def ZeT{q}(h1:(U.underlying r).isNone=false)(h2:U.underlying b=some (.int q)):JF U r b q=true:=by simp[JF,h2,YL];simp_all
def dF{x}(h:(bif k then none else x)=some G):k=false/\x=some G:=by grind
def Znx(H:qs d C F (Z9 J y)=some G->b=g->HN I.P b=true->Vg I ⟨D,.convert b g y,r,E,o,j⟩ J d C F G)(hs:M8 d (.un .u8 8) (Z9 J y) (λl G=>F ⟨.v ⟨.str,l⟩,G,[],[],C⟩)=some G->I.P.underlying g=some .string->HN I.P b=true->Vg I ⟨D,.convert b g y,r,E,o,j⟩ J d C F G)(h:gx I d C F b g (Z9 J y)=some G):Vg I ⟨D,.convert b g y,r,E,o,j⟩ J d C F G:=by
 unfold gx at h;obtain⟨x,h⟩:=dF h;split at h
 ·rename_i p;simp only[NL]at h;have f:=ZeT x p;split at h;·rename_i w e;exact⟨_,h,Loc.val,Sn λm k q t n u c=>⟨_,Zgr f (Nq c e Yr) Ha,λa v _=>D0 a v⟩⟩
  ·rename_i K A w e;cases hb:Nat.blt A 64with|true=>rw[hb]at h;exact⟨_,h,Loc.val,Sn λm k q t n u c=>⟨_,ZrY (by rwa[TN]at hb) f (PZ c e Yr),λa v _=>D0 a v⟩⟩|false=>rw[hb]at h;exact⟨_,h,Loc.val,Sn λm k q t n u c=>⟨_,Zgr f (PZ c e Yr) pQ,λa v _=>D0 a v⟩⟩
  ·cases h
 ·rename_i M _ p;obtain⟨i,h⟩:=Yq h;have z:=ZAu i;have f:=ZeT x p;split at h;·rename_i w e;exact⟨_,h,Loc.val,Sn λm k q t n u c=>⟨_,ZrZ rfl z f (Nq c e Yr) Ha,λa v _=>D3 a v⟩⟩
  ·rename_i K A w e;exact⟨_,h,Loc.val,Sn λm k q t n u c=>⟨_,Zr0 rfl z f (PZ c e Yr),λa v _=>D3 a v⟩⟩
  ·cases h
 ·rename_i L p;obtain⟨i,B⟩:=Yq h;rw[YL]at i;exact H B (Wc i.1) i.2
 ·grind
 ·cases h
inductive NV:TV->List PS->TV->Prop|own{t:Ty}{x:t.den}{p:List PS}{u:TV}:PK ⟨t,x⟩ p u->NV ⟨.own t,x⟩ p u|full{t:Ty}{x:List t.den}{i:Int}{m:Nat}{y:t.den}{p:List PS}{u:TV}:Mj x i=some y->PK ⟨t,y⟩ p u->NV ⟨.full t,x⟩ (.ix i t.n m::p) u|YU{t:Ty}{x:List t.den}{i:Int}{m:Nat}{y:t.den}{p:List PS}{u:TV}:Mj x i=some y->PK ⟨t,y⟩ p u->NV ⟨.YU t,x⟩ (.ix i t.n m::p) u
inductive EB:TV->List PS->TV->Prop|box{v:TV}{p:List PS}{u:TV}:NV v p u->EB v p u|mem{f:Nat}{t:Ty}{x:List t.den}{i:Nat}{y:t.den}{p:List PS}{u:TV}:Mj x (i:Int)=some y->NV ⟨t,y⟩ p u->EB ⟨.YS f t,x⟩ (.m i::p) u
def ZeC{v}{k}(h:pu v p k=some G):∃u,NV v p u/\k u=some G:=by
 unfold pu at h;split at h;·have⟨u,b,a⟩:=JB h;exact⟨u,.own b,a⟩
 ·have⟨e,c⟩:=Yq h;cases Wc e;have⟨g,f,d⟩:=Ti c;have⟨u,b,a⟩:=JB d;exact⟨u,.full f b,a⟩
 ·have⟨e,c⟩:=Yq h;cases Wc e;have⟨g,f,d⟩:=Ti c;have⟨u,b,a⟩:=JB d;exact⟨u,.YU f b,a⟩
 ·grind
def px{v}{k}(h:Az v p k=some G):∃u,EB v p u/\k u=some G:=by
 unfold Az at h;split at h;·have⟨e,d,c⟩:=Ti h;have⟨u,b,a⟩:=ZeC c;exact⟨u,.mem d b,a⟩
 ·have⟨u,b,a⟩:=ZeC h;exact⟨u,.box b,a⟩
def IH(v:Value)(b:Nat):Prop:=v=.pointer (some ⟨b,0,none⟩)\/∃c a,v=.slice (some ⟨b,0,none⟩) c a
def IH.uniq{v}(h:IH v C)(k:IH v B):C=B:=by obtain rfl|⟨d,b,rfl⟩:=h<;>obtain a|⟨e,c,a⟩:=k<;>cases a<;>rfl
def Rc.zA{K}(h:Rc K C p B):∃r,Lw K C p=some r/\IH r B:=by
 obtain⟨r,a,⟨rfl,_⟩|⟨e,b,c,g,d,f,rfl,_⟩⟩:=h;·exact⟨_,a,.inl rfl⟩
 ·exact⟨_,a,.inr ⟨_,_,rfl⟩⟩
def GD.cell{m}{hs}{w}(a:GD m hs w){b k}{cs}{T}(h:(b,k,cellsOf cs T)∈hs){i}{v}(hv:cs[i]?=some v):w.cell? ⟨b,i,none⟩=some v:=by have:=a.Xb _ h;simp[World.cell?,this,cellsOf];simpa using hv
def Zdb{K}{v}(o:rel K v.t c A v.x)(d:NV v p l):∃r b k T cs a,A=[r]/\IH r b/\(b,k,cellsOf cs T)∈c/\(∀x∈a,x∈c)/\Yd p+l.t.n<=cs.length/\rel K l.t a ((cs.drop (Yd p)).take l.t.n) l.x:=by
 cases d with|@own t x p l d=>obtain⟨b,T,E,H,rfl,rfl,o⟩:=o;obtain⟨a,D,g,e,n,_⟩:=focus d o;exact⟨_,b,0,T,E,a,rfl,.inl rfl,Zc,λx z=>XY _ (g.mem_iff.2 (Ym (.inl z))),n,e⟩|@full t x i m y p l hy d=>
  obtain⟨I,j,B⟩:=Fp hy;obtain⟨rfl,_⟩|⟨b,T,s,h,q,H,rfl,rfl,w,M,P⟩:=o;·simp at j
  ·obtain⟨J,C,L,u,Q,f,R,N⟩:=Row.at w j;rw[B]at f;obtain⟨a,D,g,e,n,_⟩:=focus d f;have O:Yd p+l.t.n<=t.n:=by rw[<-WU f];exact n
   refine⟨_,b,0,T,h++q,a,rfl,.inr ⟨x.length,s,rfl⟩,XQ,?_,?_,?_⟩;·refineλx z=>XY _ ?_;rw[u];exact Ym (.inr (Ym (.inl (g.mem_iff.2 (Ym (.inl z))))))
   ·show i.toNat*t.n+Yd p+l.t.n<=_;rw[YM];omega
   ·show rel K l.t a (((h++q).drop (i.toNat*t.n+Yd p)).take l.t.n) l.x;rw[KM,TD,Is,PA Y]at e;rw[KJ Y,KQ (by rw[VF];omega)];exact e|@YU t x i m y p l hy d=>
  obtain⟨I,j,B⟩:=Fp hy;obtain⟨rfl,_⟩|⟨b,T,s,h,q,rfl,rfl,w,S,M,P⟩:=o;·simp at j
  ·obtain⟨J,C,L,u,Q,f,R,N⟩:=Row.at w j;rw[B]at f;obtain⟨a,D,g,e,n,_⟩:=focus d f;have O:Yd p+l.t.n<=t.n:=by rw[<-WU f];exact n
   have F:C=[]:=by have:=u.symm;simp only[List.append_eq_nil_iff]at this;exact this.2.1
   have G:a=[]:=by rw[F]at g;have:=g.symm.eq_nil;exact(O5 this).1
   refine⟨_,b,h.length,T,h++q,a,rfl,.inr ⟨x.length,s,rfl⟩,TE rfl,by rw[G];simp,?_,?_⟩;·show i.toNat*t.n+Yd p+l.t.n<=_;rw[YM];omega
   ·show rel K l.t a (((h++q).drop (i.toNat*t.n+Yd p)).take l.t.n) l.x;rw[KM,TD,Is,PA Y]at e;rw[KJ Y,KQ (by rw[VF];omega)];exact e
def NV.nom{v}(h:NV v p l):∀i q,p≠.m i::q:=by rintro i q rfl;cases h with|own h=>cases h
def NV.rest{v}(h:NV v p l):Ck p=p/\∀K j,Lw K j p=K.nm j:=by cases p with|nil=>exact⟨rfl,λ_ _=>rfl⟩|cons a p=>cases a<;>first|exact⟨rfl,λ_ _=>rfl⟩|exact absurd rfl (h.nom _ _)
def Row.GA{K}{xs}{y}(j:Row 1 (rel K M) c A xs)(k:Mj xs C=some y):∃v b,A[C]?=some v/\(∀x∈b,x∈c)/\rel K M b [v] y:=by
 have⟨m,f,q⟩:=Fp k;have g:=by simpa using f
 have⟨n,i,o,l,r,a,s,p⟩:=Row.at j g;have d:xs[C]=y:=Xk;rw[d]at a;have h:C<A.length:=Y;have e:(A.drop (C*1)).take 1=[A[C]]:=by rw[Ga,KL h];rfl
 rw[e]at a;exact⟨A[C],i,Zc,Zp,a⟩
def qg{K}{v}(q:I8 C v.t=true)(o:WC K C v c)(a:EB v p l):∃r b k T cs d,Lw K C p=some r/\IH r b/\(b,k,cellsOf cs T)∈c/\(∀x∈d,x∈c)/\Yd p+l.t.n<=cs.length/\rel K l.t d ((cs.drop (Yd p)).take l.t.n) l.x:=by have⟨B,e,E⟩:=o;cases a with|box a=>obtain⟨r,b,k,T,cs,d,rfl,rest⟩:=Zdb e a;exact⟨r,b,k,T,cs,d,(a.rest.2 K C).trans Zp,rest⟩|@mem f t x i y p l hy a=>obtain⟨_,G,A,u⟩:=e;have⟨v,F,z,w,s⟩:=u.GA hy;obtain⟨r,b,k,T,cs,d,g,h,j,D,m,n⟩:=Zdb s a;cases g;refine⟨v,b,k,T,cs,d,?_,h,w _ j,Zp,m,n⟩;show K.fm _ i=some v;rw[Wc q,show Yp f-1000=f by simp[Yp]];exact A i v z
def AH(K:KK)(w:World):KK:={K with m:=λa b=>w.cell? ⟨a,b,none⟩}
def pG{K:KK}(b:GD K.m c H):K.le (AH K H):=⟨λ_ _ a=>a,λ_ _ _ a=>a,b.mem⟩
def Aa{a}(h:H.heap[C]?=some a)(o):H.cell? ⟨C,o,none⟩=zd a o:=by unfold World.cell?;rw[h];cases a<;>rfl
def pF{K}(a:GD K.m c H):QA (AH K H) c:=by intro e b d v hv;show H.cell? _=some v;rw[Aa (a.Xb _ b)];exact hv
def Zwz{K K2}(r:K2.fm=K.fm):∀{t},Uy t=true->t.plain=true->∀{hs}{cs}{x},rel K t hs cs x->rel K2 t hs cs x:=by intro t;induction t with|vec s t j=>exactλc a hs cs x b=>Row.imp (λ_ _ _ b=>j c a b) b|pair k l m p=>intro c a;simp[Uy,Ty.plain,YL]at c a;rintro hs cs x⟨h,i,e,f,d,g,n,q⟩;exact⟨h,i,e,f,d,g,Zp,Zp⟩|only t j=>exactλc a hs cs x b=>j c a b|YT o t _=>refineλc a hs cs x⟨d,b⟩=>⟨d,b.imp id ?_⟩;grind|cons k l m p=>intro c a;simp[Uy,Ty.plain,YL]at c a;rintro hs cs x⟨h,i,e,f,d,g,n,q⟩;exact⟨h,i,e,f,d,g,m c.1 a.1 n,Zp⟩|int=>exactλ_ _ hs cs x b=>b|un _ _=>exactλ_ _ hs cs x b=>b|bool=>exactλ_ _ hs cs x b=>b|str=>exactλ_ _ hs cs x b=>b|nl=>exactλ_ _ hs cs x b=>b|own t _=>intro _ a;cases a|opt t _=>intro _ a;cases a|full t _=>intro _ a;cases a|YU t _=>intro _ a;cases a|map k l _ _=>intro _ a;cases a|YS o t _=>intro _ a;cases a|_=>intro c;cases c
structure KV(K:KK)(w:World)(t:Ty)(l:List t.den)(v:Value):Prop where h:∃a cap,v=.slice a l.length cap/\l.length<=cap/\(l=[]\/∃bl o row,a=some ⟨bl,o,none⟩/\Row t.n (rel K t) [] row l/\∀i u,row[i]?=some u->w.cell? ⟨bl,o+i,none⟩=some u)
def gW{K}{l:L M.den}(i:GD K.m c H)(k:rel K (.sl M) e A l):∃v,A=[v]/\KV K H M l v:=by obtain⟨_,a,d,rfl,j,h⟩:=k;refine⟨_,rfl,a,d,rfl,j,h.imp id λ⟨b,p,q,f,m,g⟩=>⟨b,p,q,f,m,λo r n=>i.mem _ _ _ (g o r n)⟩⟩
def E7{b}:∀{a}{r},IR b a=some r->(∀p∈r,ZJ b p.1=some p.2)/\∀j∈a,∃u,ZJ b j=some u/\(j,u)∈r
 |[],r,h=>by cases h;exact⟨Zc,Zc⟩|j::a,r,h=>by
  unfold IR at h;split at h;·rename_i v q hv c;have⟨d,e⟩:=E7 c;grind
  ·grind
def Zd1{K}{l:L M.den}{v}(j:M.plain=true)(h:GD K.m c H)(k:rel K (.full M) e [v] l)(m:∀x∈e,x∈c):KV K H M l v:=by
 obtain⟨rfl,_,d,a⟩|⟨f,o,g,n,t,p,a,rfl,b,i,r⟩:=k;·cases a;exact⟨d,0,rfl,Zc,.inl rfl⟩
 ·cases a;have a:=Row.Kn (λ_ _ _ e=>SZ j e) b;subst a;refine⟨_,g,rfl,i,.inr ⟨f,0,n,rfl,b,λs u q=>h.cell (m _ XQ) Zp⟩⟩
def BR{v}(h:GC d C=some v):ZJ d C=some v/\I8 C v.t=true:=by unfold GC at h;grind
def OC{K}{v}(e:WC K C v c)(h:K.nm C=some i)(f:v.t.n=1):rel K v.t c [i] v.x:=by have⟨b,d,g⟩:=e;have a:=WU d;rw[f]at a;match b,a with|[j],_=>simp_all
def Zon{K}{l:L M.den}{v}(b:GD K.m c H)(hv:K.nm C=some v)(a:WC K C ⟨.YU M,l⟩ e):KV K H M l v:=by have⟨f,d,h⟩:=a;have⟨j,i,g⟩:=gW b (lU d);simp_all
def Dq{k}(h:M8 d M S k=some G):∃l T,k l T=some G/\(∀p∈T,ZJ d p.1=some p.2)/\∀(K)(H)(hs)(w)(v),GD K.m hs w->(∀p∈T,∃h,H p.1=some h/\WC K p.1 p.2 h/\∀x∈h,x∈hs)->Y0 K H S v->KV K w M l v:=by
 unfold M8 at h;split at h;·refine⟨[],[],h,Zc,?_⟩;rintro K H hs w v c _⟨o,⟨_,rfl⟩,rfl⟩;exact⟨none,0,rfl,YA _,.inl rfl⟩
 ·obtain⟨l,b,a⟩:=Rv h;cases b;refine⟨l,[],a,Zc,?_⟩;rintro K H hs w v c _⟨o,E,rfl⟩;obtain⟨n,rfl,O⟩:=gW c E;exact O
 ·obtain⟨l,b,a⟩:=Rv h;cases b;refine⟨l,[],a,Zc,?_⟩;rintro K H hs w v c _⟨o,E,rfl⟩;obtain⟨n,rfl,O⟩:=gW c (oX E);exact O
 ·rename_i z x;split at h;·rename_i L l q;obtain⟨f,h⟩:=Yq h;obtain⟨F,b,a⟩:=Rv h;cases b;refine⟨F,[(z,_)],a,λp f=>by rw[YV f];exact q,?_⟩;rintro K H hs w v c g⟨o,⟨_,n,y,rfl,_⟩,rfl⟩;obtain⟨C,_,i,j⟩:=g _ (TE rfl);exact Zd1 f c (OC i y rfl) j
  ·rename_i L l q;obtain⟨F,b,a⟩:=Rv h;cases b;refine⟨F,[(z,_)],a,λp f=>by rw[YV f];exact q,?_⟩;rintro K H hs w v c g⟨o,⟨_,n,y,rfl,_⟩,rfl⟩;obtain⟨C,_,i,j⟩:=g _ (TE rfl);exact Zon c y i
  ·cases h
 ·rename_i x1 t0 x;obtain⟨_,h⟩|⟨J,r,h⟩:=Lo h;·cases h
  ·split at h
   ·rename_i f' L xs q;obtain⟨e,h⟩:=Yq h;rw[YL]at e;cases Wc e.1;obtain⟨y8,b,a⟩:=Rv h;cases b;obtain⟨l,P,D⟩:=Ti a;refine⟨l,[(Yp x1,_)],D,λp f=>by rw[YV f];exact q,?_⟩;rintro K H hs w v c g⟨o,⟨_,R⟩,rfl⟩;obtain⟨C,_,i,j⟩:=g _ (TE rfl);obtain⟨cv,⟨_,vs,xi,Q⟩,_⟩:=i;obtain⟨n,y,hv,xh,u⟩:=Row.GA Q P;obtain⟨b,_⟩|⟨i',u',W,I,rfl,_⟩:=R;·have B:x=none:=b;rw[r]at B;cases B
    ·have B:x=some i':=W;rw[r]at B;cases B;rw[xi J n hv]at I;cases I;exact Zd1 e.2 c u λy1 hy=>j _ (xh y1 hy)
   ·cases h
 ·rename_i js L l;obtain⟨e,h⟩:=Yq h;rw[YL]at e;obtain⟨F,b,a⟩:=Rv h;cases b;clear h;split at a
  ·rename_i xx hq;obtain⟨D,h4⟩:=E7 hq;refine⟨F,xx,a,D,λK H hs w v c g E=>?_⟩;obtain⟨o,u,rfl⟩:=E (AH K w) (pG c) λz hj=>by obtain⟨n,W,I⟩:=h4 z hj;obtain⟨C,eh,i,j⟩:=g _ I;exact⟨C,eh,λx R=>pF c x (j x R)⟩
   obtain⟨_,x0,N,rfl,P,x5⟩:=u;refine⟨x0,N,rfl,P,x5.imp (λh=>h) λ⟨V,xv,y0,ea,Q,x2⟩=>⟨V,xv,y0,ea,Row.imp (λ_ _ _ h=>Zwz (K:=AH K w) (K2:=K) rfl e.1 e.2 h) Q,x2⟩⟩
  ·cases a
 ·rename_i z p sz m A r;split at h
  ·rename_i v x3;obtain⟨q,x6⟩:=BR x3;obtain⟨w0,ha,h⟩:=px h;split at h
   ·rename_i m' L x;obtain⟨e,a⟩:=Yq h;clear h;rw[YL]at e;obtain⟨rfl,rfl⟩:=BQ e.1;obtain⟨U,b,D⟩:=Rv a;cases b;clear a;refine⟨_,[(z,v)],D,λp f=>by rw[YV f];exact q,?_⟩;rintro K H hs w n c g⟨V,N,xb,rfl,x4,h0,y6,y3⟩;obtain⟨C,_,i,j⟩:=g _ (TE rfl);obtain⟨r0,b0,k0,y2,o,y,x8,x9,x7,y7,y5,u⟩:=qg x6 i ha;obtain⟨r1,Z,xa⟩:=xb.zA;rw[x8]at Z;cases Z;have eb:=x9.uniq xa;subst eb;have e0:y=[]:=SZ (t:=.vec m M) e.2 u;subst e0;have X:(Xo (Yo A) (YK (Yo r) (XK U))).length=(r-A).toNat:=by show(List.drop A.toNat (List.take r.toNat U.toList)).length=_;rw[VF,UF,Bd];omega
    refine⟨_,N,by rw[X],by rw[X];exact x4,.inr ⟨b0,_,_,rfl,Row.drop (R:=rel K M) (Yo A) (Row.take (Yo r) (show Row M.n (rel K M) [] _ (Vector.toList U)from u)),λJ n t=>c.cell (j _ x7) ?_⟩⟩;have y4:=(X8 t).1;rw[Py,NQ,NQ,Py]at t;split at t
    ·split at t;·rw[<-t];congr 1;show Yd p+A.toNat*M.n+J=Yd p+(A.toNat*M.n+J);omega
     ·cases t
    ·cases t
   ·cases h
  ·cases h
 ·cases h
def ZpE{s}(h:Mi s=true)(e:Td s C=some B):C=B:=by induction s with|nil=>cases e|cons c s b=>have⟨a,d⟩:=c;simp only[Mi,yp,YL]at h;rw[uT]at e;cases hb:Nat.beq a C with|true=>rw[hb]at e;cases e;exact(Wc hb).symm.trans (Wc h.1)|false=>rw[hb]at e;exact b h.2 e
def JY{K:KK}{s}(h:Mi s=true):(K.W1 s).le K:=by
 refine⟨λd v a=>?_,λ_ _ _ h=>h,Wy.refl _⟩;simp[KK.W1]at a;split at a;·have⟨e,b,c⟩:=C8 a;rw[ZpE h b];exact c
 ·grind
def I1{v}{k}(h:Ni M v P k=some G):∃x c',k x c'=some G/\Mi c'.s=true/\MQ M v P x c':=by have⟨x,c',h,a⟩:=gn h;have⟨b,h⟩:=Yq h;exact⟨x,c',h,b,a⟩
def F5{K}{H}{v}(h:QP S=some l)(a:Y0 K H S v):∃cs,rel K l.t [] cs l.x/\v=XZ l.t.ag cs:=by
 unfold QP at h;split at h;·cases h;exact a
 ·cases h;obtain⟨b,e,c,rfl,a,d⟩:=a;exact⟨_,⟨rfl,.inr ⟨_,b,e,c,rfl,rfl,a,d⟩⟩,rfl⟩
 ·grind
def oU(h:∀p∈d,ZJ [] p.1=some p.2):d=[]:=by cases d with|nil=>rfl|cons p d=>have:=h p XQ;cases this
def Zno{v}{x}(h:MQ M v {g:=[]} x P)(hi:Mi P.s=true):∀(K)(hs)(w)(cs),GD K.m hs w->rel K v.t [] cs v.x->∃K' hx j,Y5 w K hs K' (hx++j++hs)/\K'.fm=K.fm/\rel K' M hx cs x/\XZ v.t.ag cs=XZ M.ag cs:=by intro K hs w cs i l;have⟨n,q,p,s,m⟩:=h;have d:=oU s.mr;have c:=oU s.mq;subst d c;have⟨K',hx,k,b,o,_,_,e,_⟩:=m w K _ [] [] _ (by simpa using i.nil) l trivial trivial Zc (by intro a M r f;simp at f) Zc;refine⟨K',hx,k,Y5.perm Zc Zc (b.frame hs),by funext a;exact e a Zc,Xw (JY hi) o,by rw[n.ag]⟩
def Y5.drop{K K'}{b}(h:Y5 H K c K' (e++b)):Y5 H K c K' b:=⟨h.le,h.nm,λa=>⟨(h.step a).1.right,(h.step a).2.sub λf d=>by rw[HP.Wo];exact Ym (.inr d)⟩⟩
def ZsF{k}(p:M.plain=true)(h:Lp M S k=some G):∃x,k x=some G/\∀(K)(H)(hs)(w)(v),GD K.m hs w->Y0 K H S v->∃K' cs,Y5 w K hs K' hs/\K'.fm=K.fm/\rel K' M [] cs x/\v=XZ M.ag cs:=by
 have b:∀a:TV,QP S=some a->(Ni M a {g:=[]} λx e=>bif e.r.isEmpty then k x else none)=some G->∃x,k x=some G/\∀K H hs w v,GD K.m hs w->Y0 K H S v->∃K' cs,Y5 w K hs K' hs/\K'.fm=K.fm/\rel K' M [] cs x/\v=XZ M.ag cs:=by intro a hs h;have⟨x,u,h,o,m⟩:=I1 h;have⟨_,l⟩:=Yq h;refine⟨x,l,λK H t w v n q=>?_⟩;obtain⟨cs,r,rfl⟩:=F5 hs q;have⟨K',z,y,d,i,c,j⟩:=Zno m o K t w _ n r;have f:=SZ p c;subst f;exact⟨K',cs,d.drop,i,c,j⟩
 unfold Lp at h;split at h;·exact b _ rfl h
 ·exact b _ rfl h
 ·cases h
def cj{k:Bool->Zg s}(h:Lp .bool S k=some G):∃x,k x=some G/\∀(K)(H)(hs)(w)(v),GD K.m hs w->Y0 K H S v->v=.bool x:=by have⟨x,h,c⟩:=ZsF rfl h;refine⟨x,h,λK H hs w v a b=>?_⟩;obtain⟨d,e,_,_,⟨_,rfl⟩,rfl⟩:=c K H _ w v a b;rfl
def ZrX{z}(h:Mo I J d C F (.pick y Q z)=some G):Vg I ⟨D,.pick y Q z,r,E,o,j⟩ J d C F G:=by
 simp[Mo]at h;split at h;·rename_i l b;refine⟨_,h,Loc.val,Wq λe c i k f g a=>⟨f.eval Q,?_,a.op Q Yr⟩⟩;simp[execOp,a.bit b Yr,asBool]
 ·rename_i l b;refine⟨_,h,Loc.val,Wq λe c i k f g a=>⟨f.eval z,?_,a.op z Yr⟩⟩;simp[execOp,a.bit b Yr,asBool]
 ·rename_i p b;have⟨l,h,m⟩:=cj h;have⟨v,h,n⟩:=cj h;refine⟨_,h,Loc.val,Wq λe c i k f g a=>⟨.bool _,?_,⟨_,⟨rfl,rfl⟩,rfl⟩⟩⟩;cases p<;>simp[execOp,a.bool b Yr,m e c _ g _ a.gd (a.op Q Yr),n e c _ g _ a.gd (a.op z Yr),asBool,Zdo]
 ·grind
def Ziy{K}:∀{xs:L (ZO 8)}{hs}{cs},Row 1 (rel K (.un .u8 8)) hs cs xs->cs=xs.map λx=>Value.int .u8 x.toNat|[],_,cs,h=>h.1|x::xs,_,cs,⟨a,b,h1,h2,e,_,_,r,q⟩=>by rw[e,r.2,Ziy q];rfl
def Zj8(h:HN U r=true):∃e,U.underlying r=some (.slice e)/\U.underlying e=some (.int .u8):=by
 unfold HN at h;split at h;·grind
 ·grind
def ZxI{K}{l:L (ZO 8)}{v}(m:HN U r=true)(c:U.underlying b=some .string)(h:KV K H (.un .u8 8) l v):∃s,(convert r b v).run U H=.ok (.string s) H/\s.data.toList.map UInt8.toBitVec=l:=by
 have⟨a,e,d⟩:=Zj8 m;obtain⟨g,j,rfl,q,rfl|⟨i,n,u,rfl,k,p⟩⟩:=h.h;·refine⟨ByteArray.empty,?_,rfl⟩;rw[run_convert_bytes_string H r b a _ _ _ e d c];cases g with|none=>rfl|some o=>rfl
 ·have t:=Ziy k;refine⟨_,run_convert_bytes_arg H r a e d i n l.length j (l.map λf=>f.toNat) Zc Zp b c,?_⟩;simp[strOfNums,List.map_map];refine(List.map_congr_left λf _=>?_).trans (List.map_id _);simp
def Zmg:∀{t:Ty},t.ag=false->t.n=1\/(∃f u,t=.YS f u)\/t=.nl\/∃a b,t=.cons a b:=by intro t c;cases t<;>first|(cases c;done)|exact .inl rfl|simp|simp|simp
def na(a:A.length=C)(h1:k=false->C=1):TI k A=XZ k A:=by cases k with|true=>rfl|false=>rw[h1 rfl]at a;match A,a with|[v],_=>rfl
def Ib(h:vT M=true):M.ag=false->M.n=1:=by
 intro a;obtain e|⟨d,f,rfl⟩|rfl|⟨b,c,rfl⟩:=Zmg a;·omega
 ·cases h
 ·cases h
 ·cases h
def Jj:∀{p q},Qw p->I9 q=true->Qw (p++q)|[],[],_,_=>trivial|[],.a::q,_,h=>Jj (p:=[]) trivial (q:=q) h|[],.b _::q,_,h=>Jj (p:=[]) trivial (q:=q) h|[],.o::q,_,h=>Jj (p:=[]) trivial (q:=q) h|[],.ix _ _ _::_,_,h=>by cases h|[],.m _::_,_,h=>by cases h|.ix _ _ _::p,q,⟨h1,h2⟩,h=>⟨h1,Jj h2 h⟩|.a::p,q,h1,h=>Jj (p:=p) h1 h|.b _::p,q,h1,h=>Jj (p:=p) h1 h|.o::p,q,h1,h=>Jj (p:=p) h1 h|.m _::p,q,h1,h=>Jj (p:=p) h1 h
def BW:∀{p}{i}{sz m},Qw p->0<=i->i.toNat<m->Qw (p++[.ix i sz m])|[],_,_,_,_,c,h1=>⟨Y,trivial⟩|.ix _ _ _::p,_,_,_,⟨h1,h2⟩,c,h=>⟨h1,BW h2 c h⟩|.a::p,_,_,_,h1,c,h=>BW (p:=p) h1 c h|.b _::p,_,_,_,h1,c,h=>BW (p:=p) h1 c h|.o::p,_,_,_,h1,c,h=>BW (p:=p) h1 c h|.m _::p,_,_,_,h1,c,h=>BW (p:=p) h1 c h
def DW:∀(p q),Yd (p++q)=Yd p+Yd q|[],q=>by simp[Yd]|.ix i _ m::p,q=>by simp[Yd,DW p q,sG]|.a::p,q=>by simp[Yd,DW p q]|.b o::p,q=>by simp[Yd,DW p q,sG]|.o::p,q=>by simp[Yd,DW p q]|.m i::p,q=>by simp[Yd,DW p q]
def Gu.more{q}(h:Gu i p C)(e:Qw p->Qw (p++q))(f:∀x s,p=x::s->Qw s->Qw (s++q)):Gu i (p++q) C:=by
 obtain⟨rfl,h⟩|⟨k,a,g,l,j,s,rfl,rfl,b,c,d⟩:=h;·exact .inl ⟨rfl,e h⟩
 ·exact .inr ⟨k,a,g,l,j,s++q,rfl,rfl,b,c,f _ _ rfl d⟩
def Rc.more{K}{q}(h:Rc K C p B)(g:p≠[]\/∀i s,q≠.m i::s)(d:∀p,Qw p->Qw (p++q)):Rc K C (p++q) B:=by
 have⟨a,c,e⟩:=h;cases p with|nil=>
  have j:=g.resolve_left λh=>h rfl;have f:Lw K C q=K.nm C/\Ck q=q:=by cases q with|nil=>exact⟨rfl,rfl⟩|cons b q=>cases b<;>first|exact⟨rfl,rfl⟩|grind
  refine⟨a,f.1.trans c,?_⟩;show Gu a _ B;have:=Gu.more e (d _) Zp;simpa[Ck]using this|cons b p=>cases b<;>first|exact⟨a,c,Gu.more e (d _) Zp⟩
def Zo5(h:I9 p=true):∀i s,p≠.m i::s:=by rintro i s rfl;cases h
def Rc.field{K}{q}(h:Rc K C p B)(a:I9 q=true):Rc K C (p++q) B:=h.more (.inr (Zo5 a)) λ_ b=>Jj b a
def Rc.index{K}{m}(h:Rc K C p B)(a:0<=x)(h1:x.toNat<m):Rc K C (p++[.ix x f m]) B:=h.more Zc λ_ b=>BW b a h1
def Ho{K}{H}{y:M.den}{u:Unit}(hv:Y0 K H (.v ⟨.hole C,u⟩) i)(a:WC K C ⟨.own M,y⟩ c):∃b T ds h',c=(b,0,cellsOf ds T)::h'/\K.nm C=some (.pointer (some ⟨b,0,none⟩))/\i=.pointer (some ⟨b,0,none⟩)/\rel K M h' ds y:=by obtain⟨e,⟨_,j,d,rfl,_⟩,rfl⟩:=hv;obtain⟨b,T,ds,h',g,f,h⟩:=OC a d rfl;grind
def co{K}{H}{v}(e:placeOf S=some (C,p))(hv:Y0 K H S i)(w:I8 C v.t=true)(g:WC K C v c)(a:EB v p l):∃b k T cs d,i=.pointer (some ⟨b,Yd p,none⟩)/\(b,k,cellsOf cs T)∈c/\(∀x∈d,x∈c)/\Yd p+l.t.n<=cs.length/\rel K l.t d ((cs.drop (Yd p)).take l.t.n) l.x:=by
 have⟨s,b,k,T,cs,d,q,m,j,r,h,o⟩:=qg w g a;unfold placeOf at e;split at e;·cases e;obtain⟨B,z,rfl⟩:=hv;have⟨J,n,y⟩:=z.zA;rw[q]at n;cases n;cases m.uniq y;exact⟨b,k,T,cs,d,rfl,j,r,h,o⟩
 ·cases e;cases a with|box a=>cases a with|@own t x p l a=>
    obtain⟨u,A,D,G,F,I,rfl,_⟩:=Ho hv g;have:s=.pointer (some ⟨u,0,none⟩):=by have E:K.nm C=some s:=q;grind
    subst this;obtain f|⟨_,_,f⟩:=m;·cases f;exact⟨b,k,T,cs,d,rfl,j,r,h,o⟩
    ·grind
 ·grind
inductive Iv:TV->List PS->TV->TV->Prop|own{t:Ty}{x:t.den}{p:List PS}{y r:TV}:RO ⟨t,x⟩ p y r->Iv ⟨.own t,x⟩ p y ⟨.own r.t,r.x⟩|fE{t:Ty}{x:List t.den}{i:Int}{m:Nat}{z:t.den}:Iv ⟨.full t,x⟩ [.ix i t.n m] ⟨t,z⟩ ⟨.full t,x.set i.toNat z⟩|full{t:Ty}{x:List t.den}{i:Int}{m:Nat}{w z:t.den}{p:List PS}{y:TV}:Mj x i=some w->RO ⟨t,w⟩ p y ⟨t,z⟩->Iv ⟨.full t,x⟩ (.ix i t.n m::p) y ⟨.full t,x.set i.toNat z⟩
inductive KR:TV->List PS->TV->TV->Prop|box{v:TV}{p:List PS}{y r:TV}:Iv v p y r->KR v p y r|mem{f:Nat}{t:Ty}{x:List t.den}{i:Nat}{w z:t.den}{p:List PS}{y:TV}:Mj x (i:Int)=some w->Iv ⟨t,w⟩ p y ⟨t,z⟩->KR ⟨.YS f t,x⟩ (.m i::p) y ⟨.YS f t,x.set i z⟩
def Zi1{v}{k}(h:ly v p l k=some G):∃u,Iv v p l u/\k u=some G:=by
 unfold ly at h;split at h;·have⟨u,d,g⟩:=lA h;exact⟨_,.own d,g⟩
 ·have⟨c,a⟩:=Yq h;cases Wc c;obtain⟨j,rfl,b⟩:=Rv a;exact⟨_,.fE,b⟩
 ·have⟨c,a⟩:=Yq h;cases Wc c;have⟨m,i,b⟩:=Ti a;have⟨u,d,e⟩:=lA b;obtain⟨j,rfl,f⟩:=Rv e;exact⟨_,.full i d,f⟩
 ·grind
def lz{v}{k}(h:Kw v p l k=some G):∃u,KR v p l u/\k u=some G:=by
 unfold Kw at h;split at h;·have⟨g,f,b⟩:=Ti h;have⟨u,a,c⟩:=Zi1 b;obtain⟨i,rfl,d⟩:=Rv c;exact⟨_,.mem f a,d⟩
 ·have⟨u,a,e⟩:=Zi1 h;exact⟨_,.box a,e⟩
def Zdc{K}{v}(z:rel K v.t c A v.x)(h:NV v p l)(x1:∀t x,v≠⟨.YU t,x⟩):∃r b T cs j P,A=[r]/\IH r b/\c.Perm ((b,0,cellsOf cs T)::(j++P))/\Yd p+l.t.n<=cs.length/\rel K l.t j ((cs.drop (Yd p)).take l.t.n) l.x/\∀{K'}{y q},K.le K'->Iv v p y q->∀{k}{d},rel K' y.t k d y.x->y.t.n=l.t.n/\∃h',h'.Perm ((b,0,cellsOf (cs.take (Yd p)++d++cs.drop (Yd p+l.t.n)) T)::(k++P))/\rel K' q.t h' [r] q.x:=by cases h with
 |@own t x p l h=>obtain⟨b,T,G,h',rfl,rfl,z⟩:=z;obtain⟨j,B,L,C,J,N⟩:=focus h z;refine⟨_,b,T,G,j,B,rfl,.inl rfl,NP _ L,J,C,?_⟩;intro K' y q o e k d D;cases e with|@own _ _ _ _ r e=>obtain⟨u,E,M,x2⟩:=N o e D;exact⟨u,(b,0,cellsOf (G.take (Yd p)++d++G.drop (Yd p+l.t.n)) T)::E,NP _ M,b,T,_,E,rfl,rfl,x2⟩
 |@full t x i m y p l k h=>
  obtain⟨h0,I,x4⟩:=Fp k;obtain⟨rfl,_⟩|⟨b,T,F,a,f,h',rfl,rfl,x3,hl,hz⟩:=z;·simp at I
  ·obtain⟨g,hm,n,eh,k1,O,k3,x0⟩:=Row.at x3 I;rw[x4]at O;obtain⟨j,B,L,C,J,N⟩:=focus h O;have x5:Yd p+l.t.n<=t.n:=by rw[<-WU O];exact J
   have H:Yd (.ix i t.n m::p)=i.toNat*t.n+Yd p:=rfl;refine⟨_,b,T,a++f,j,g++(B++n),rfl,.inr ⟨x.length,F,rfl⟩,?_,by rw[H,YM];omega,?_,?_⟩;·refine NP _ ?_;rw[eh];refine(V5 g (L.append_right n)).trans ?_;rw[Yc,<-Yc g,<-Yc j];exact Wr.append_right _
   ·rw[H];rw[KM,TD,Is,PA Y]at C;rw[KJ Y,KQ (by rw[VF];omega)];exact C
   ·intro K' X q o e V d D;have W:∀{s:t.den},RO ⟨t,y⟩ p X ⟨t,s⟩->X.t.n=l.t.n/\∃h',h'.Perm ((b,0,cellsOf ((a++f).take (Yd (.ix i t.n m::p))++d++(a++f).drop (Yd (.ix i t.n m::p)+l.t.n)) T)::(V++(g++(B++n))))/\rel K' (.full t) h' [.slice (some ⟨b,0,none⟩) x.length F] (x.set i.toNat s):=by
     intro s e;obtain⟨u,E,M,S⟩:=N o e D;have Q:=Row.set (R:=rel K' t) (y:=s) I (Row.imp (λ_ _ _ c=>Xw o c) k1) (Row.imp (λ_ _ _ c=>Xw o c) k3) (WU S) S;have Z:a.take (i.toNat*t.n)++((a.drop (i.toNat*t.n)).take t.n).take (Yd p)=a.take (i.toNat*t.n+Yd p):=by rw[Is,PA Y,yC]
     have a2:((a.drop (i.toNat*t.n)).take t.n).drop (Yd p+l.t.n)++a.drop (i.toNat*t.n+t.n)=a.drop (i.toNat*t.n+Yd p+l.t.n):=by
      have:a.drop (i.toNat*t.n+t.n)=(a.drop (i.toNat*t.n+(Yd p+l.t.n))).drop (t.n-(Yd p+l.t.n)):=by rw[TD];congr 1;omega
      rw[KM,TD,this,TM];congr 1;omega
     have e1:a.take (i.toNat*t.n)++(((a.drop (i.toNat*t.n)).take t.n).take (Yd p)++d++((a.drop (i.toNat*t.n)).take t.n).drop (Yd p+l.t.n))++a.drop (i.toNat*t.n+t.n)=a.take (i.toNat*t.n+Yd p)++d++a.drop (i.toNat*t.n+Yd p+l.t.n):=by rw[<-Z,<-a2];simp only[Yc]
     rw[e1]at Q;have x6:i.toNat*t.n+t.n<=a.length:=x0;have e2:(a++f).take (Yd (.ix i t.n m::p))++d++(a++f).drop (Yd (.ix i t.n m::p)+l.t.n)=a.take (i.toNat*t.n+Yd p)++d++a.drop (i.toNat*t.n+Yd p+l.t.n)++f:=by rw[H,KQ Y,KJ Y];simp only[Yc]
     refine⟨u,(b,0,cellsOf (a.take (i.toNat*t.n+Yd p)++d++a.drop (i.toNat*t.n+Yd p+l.t.n)++f) T)::(g++(E++n)),?_,.inr ⟨b,T,F,_,f,_,by rw[Pz],rfl,Q,by rw[Pz];exact hl,?_⟩⟩;·rw[e2];refine NP _ ((V5 g (M.append_right n)).trans ?_);rw[Yc,<-Yc g,<-Yc V];exact Wr.append_right _
     ·rw[<-hz];simp only[YM,UF,VF,WU D,u];omega
    cases e with
    |fE=>cases h with|nil=>exact W (.nil rfl)
    |@full _ _ _ _ w s _ _ U e=>rw[k]at U;cases U;exact W e
 |@YU t x i m y p l k h=>exact absurd rfl (x1 _ _)
def Zfh{l}(h:Mj l C=some G):∃hi,l[C]=G:=by obtain⟨_,hi,a⟩:=Fp h;exact⟨Y,Xk⟩
def iP{K}{v}(hf:I8 C v.t=true)(hb:WC K C v c)(n:EB v p l)(hs:∃y k,KR v p y k):∃r b T cs a d,Lw K C p=some r/\IH r b/\c.Perm ((b,0,cellsOf cs T)::(a++d))/\Yd p+l.t.n<=cs.length/\rel K l.t a ((cs.drop (Yd p)).take l.t.n) l.x/\∀{K'}{y k},K.le K'->KR v p y k->∀{q}{o},rel K' y.t q o y.x->y.t.n=l.t.n/\∃h',h'.Perm ((b,0,cellsOf (cs.take (Yd p)++o++cs.drop (Yd p+l.t.n)) T)::(q++d))/\WC K' C k h':=by obtain⟨cv,Q,G⟩:=hb;cases n with
 |box n=>
  have I:∀t x,v≠⟨.YU t,x⟩:=by rintro t x rfl;obtain⟨y,k,hs⟩:=hs;cases hs with|box hs=>cases hs
  obtain⟨r,b,T,cs,a,d,rfl,⟨u,A,B,D,E⟩⟩:=Zdc Q n I;refine⟨r,b,T,cs,a,d,(n.rest.2 K C).trans (G _ Zc),u,A,B,D,?_⟩;intro K' y k j g q o M;cases g with|box g=>obtain⟨H,h',J,L⟩:=E j g M;exact⟨H,h',J,[r],L,λl a=>j.nm _ _ (G l a)⟩|mem=>exact absurd rfl (n.nom _ _)
 |@mem f t x e y p l q n=>
  obtain⟨ec,m,V,S⟩:=Q;obtain⟨P,x1⟩:=Zfh q;obtain⟨h,gm,i,eh,k1,N,k3,x2⟩:=Row.at S P;rw[x1]at N;have x0:=Row.length S;have F:e<m.length:=by rw[x0];omega
  have e2:(m.drop (e*1)).take 1=[m[e]]:=by rw[Ga,KL F];rfl
  rw[e2]at N;have I:∀Z x',(⟨t,y⟩:TV)≠⟨.YU Z,x'⟩:=by intro Z x' s;cases s;obtain⟨y',k,hs⟩:=hs;cases hs with|mem _ hs=>cases hs|box hs=>cases hs
  obtain⟨r,b,T,cs,a,d,s,u,A,B,D,E⟩:=Zdc (v:=⟨t,y⟩) N n I;have O:m[e]=r:=by simpa using s
  refine⟨r,b,T,cs,a,h++(d++i),?_,u,?_,B,D,?_⟩;·show K.fm (C-1000) e=some r;rw[Wc hf,show Yp f-1000=f by simp[Yp],<-O];exact V e _ (Ve F)
  ·rw[eh];refine(V5 h (A.append_right i)).trans ?_;have:h++((b,0,cellsOf cs T)::(a++d)++i)=h++(b,0,cellsOf cs T)::a++(d++i):=Zc;rw[this];refine(Wr.append_right _).trans ?_;simp
  ·intro K' yy k j g X o M;cases g with|box g=>cases g|@mem _ _ _ _ w z _ _ W g=>
    rw[q]at W;cases W;obtain⟨H,h',J,L⟩:=E j g M;have U:=Row.set (R:=rel K' t) (y:=z) P (Row.imp (λ_ _ _ c=>Xw j c) k1) (Row.imp (λ_ _ _ c=>Xw j c) k3) rfl L;have e3:m.take (e*1)++[r]++m.drop (e*1+1)=m:=by rw[Ga,<-O,Yc,C6,<-KL F,TM]
    rw[e3]at U;refine⟨H,h++(h'++i),(V5 h (J.append_right i)).trans ?_,cv,⟨ec,m,λe v hv=>j.fm _ _ _ (V e v hv),U⟩,λl a=>j.nm _ _ (G l a)⟩;have:h++((b,0,cellsOf (cs.take (Yd p)++o++cs.drop (Yd p+l.t.n)) T)::(X++d)++i)=h++(b,0,cellsOf (cs.take (Yd p)++o++cs.drop (Yd p+l.t.n)) T)::X++(d++i):=Zc;rw[this];refine(Wr.append_right _).trans ?_;simp[Yd]
def fH{K K':KK}{rest hx:HP}(g:GD K.m (c++hx) H)(a:K'.m=K.m)(h:c.Perm (e++rest)):GD K'.m (e++hx) H/\ZW H H K.m K'.m (c++hx).bs (e++hx).bs:=by
 have b:(c++hx).Perm (e++hx++rest):=by refine(h.append_right _).trans ?_;rw[Yc,Yc];exact V5 _ Wr
 refine⟨by rw[a];exact(g.perm b).left,?_⟩;rw[a];refine(ZW.refl H _ _).sub λd f=>?_;have:d∈HP.bs (e++hx++rest):=by rw[HP.Wo];exact Ym (.inl f)
 exact(b.map _).mem_iff.2 this
def GD.Vv{m}(f)(d:GD m ((C,B,cellsOf A r)::c) H)(p:∀o,m C o=none):GD m ((C,B,cellsOf f r)::c) (Go.Sl.Vv H C r f)where
 mem:=λb o v j=>by
  have h:b≠C:=λg=>Zp;have:=d.mem b o v j;have k:(Go.Sl.Vv H C r f).heap[b]?=H.heap[b]?:=by have l:C≠b:=λg=>h g.symm;simp[Go.Sl.Vv,Io,l]
  exact(Be (w:=H) (a:=⟨b,o,none⟩) k).trans this
 nodup:=d.nodup;Xb:=λe hx=>by
  obtain rfl|hx:=XL hx;·exact uQ (d.Xb (C,B,cellsOf A r) Zc)
  ·have i:=d.nodup;simp only[HP.bs,Wb,Ss]at i;have h:C≠e.1:=λg=>i.1 Zp;simp only[Go.Sl.Vv,Io,Ys h];exact d.Xb e (XY _ hx)
 free:=λe hx o n=>by
  obtain rfl|hx:=XL hx;·grind
  ·exact d.free e (XY _ hx) o n
def GD.pl{m}{o}(a:GD m ((C,0,o)::c) H):∀i,m C i=none:=λi=>a.free (C,0,o) Zc i Zc
def Znc{K}{x}(h:rel K M c A x)(hv:vT M=true):(XZ M.ag A).cells=A.toArray:=by cases b:M.ag with|true=>rfl|false=>have a:=WU h;rw[Ib hv b]at a;match A,a with|[v],_=>have d:=Qn h v Zc;cases v<;>first|rfl|cases d
def pc{K}{n n'}(h:∀p∈d,n<=p.1/\p.1<n')(c:n'<=500):Yx K d:=by intro b e f a;have:=h _ a;simp[Yp]at this;omega
def pd{K K'}{v u}(hs:KR v p l u)(h:Yx K [(C,v)])(c:∀f,C=Yp f->K'.fm f=K.fm f):Yx K' [(C,u)]:=by intro f a i d e b;cases YV d;cases hs with|box hs=>cases hs|@mem f a x i' w z p l g hs=>rw[c f rfl];refine h f a x Zc e ?_;simpa using b
def Yx.append{K}{b}(h:Yx K d)(k:Yx K b):Yx K (d++b):=λc g i a f e=>(ZY a).elim (λa=>h c g _ a f e) λa=>k c g _ a f e
def Yx.cons{K}{p}{b}(h:Yx K [p])(k:Yx K b):Yx K (p::b):=Yx.append h k
def Iv.at{v r}(h:Iv v p l r){K}(d:rel K v.t c [i] v.x)(m:Gu i p C):∃u,NV v p u:=by cases h with
 |@own t x p l r h=>
  have⟨f,e,M,j,_,F,_⟩:=d;cases F;obtain⟨_,k⟩|⟨q,b,o,E,y,A,a,_⟩:=m;·have⟨u,n⟩:=h.at k;exact⟨u,.own n⟩
  ·grind|@fE t x o y z=>
  obtain⟨a,_⟩|⟨q,b,J,E,L,A,a,g,G,H,_⟩:=m;·subst a;obtain⟨_,_,s,a⟩|⟨f,e,b,B,D,j,a,_⟩:=d<;>cases a
  ·cases g;subst a;have:q=x.length:=by obtain⟨rfl,_,s,a⟩|⟨f,e,b,B,D,j,a,_⟩:=d<;>cases a<;>rfl
   subst this;exact⟨_,.full (y:=x[o.toNat]) (by unfold Mj;grind) .nil⟩|@full t x o y w z p l I h=>
  obtain⟨a,_⟩|⟨q,b,J,E,L,A,a,g,G,H,k⟩:=m;·subst a;obtain⟨_,_,s,a⟩|⟨f,e,b,B,D,j,a,_⟩:=d<;>cases a
  ·cases g;have⟨u,n⟩:=h.at k;exact⟨u,.full I n⟩
def KR.at{v y r}{p}(h:KR v p y r){K}{j}{hs}{s}(x:I8 j v.t=true)(k:WC K j v hs)(l:Rc K j p s):∃u,EB v p u:=by
 cases h with|@box v p y r h=>
  obtain⟨o,b,c⟩:=l;have H:∀a e,p≠.m a::e:=by rintro a e rfl;cases h with|own h=>cases h
  have g:Lw K j p=K.nm j/\Ck p=p:=by cases p with|nil=>exact⟨rfl,rfl⟩|cons q e=>cases q<;>first|exact⟨rfl,rfl⟩|grind
  rw[g.1]at b;rw[g.2]at c;have⟨u,d⟩:=h.at (OC k b (by cases h<;>rfl)) c;exact⟨u,.box d⟩|@mem f t q a w z p y n h=>obtain⟨o,b,c⟩:=l;have⟨E,⟨F,L,D,B⟩,G⟩:=k;have⟨v,J,C,I,A⟩:=B.GA n;have i:K.fm _ a=some o:=b;rw[Wc x,show Yp f-1000=f by simp[Yp],D a v C]at i;cases i;obtain⟨u,d⟩:=h.at A c;exact⟨u,.mem n d⟩
def Zgy{K}{H}(c:placeOf S=some (C,p))(hv:Y0 K H S i)(h2:∀u,S=.v ⟨.hole C,u⟩->∃b,K.nm C=some (.pointer (some ⟨b,0,none⟩))):∃a,Rc K C p a/\i=.pointer (some ⟨a,Yd p,none⟩):=by
 unfold placeOf at c;split at c;·cases c;obtain⟨a,f,rfl⟩:=hv;exact⟨a,f,rfl⟩
 ·rename_i h u;cases c;have⟨b,d⟩:=h2 u rfl;obtain⟨g,⟨_,j,e,rfl,_⟩,rfl⟩:=hv;rw[d]at e;cases e;exact⟨b,⟨_,d,.inl ⟨rfl,trivial⟩⟩,rfl⟩
 ·grind
def l6(h:zW I r M=true):vT M=true/\Go.Sl.S5 I.P r M.ag M.n=true:=by simpa[zW]using h
def uN{x:Operand}{d:Zg Tmp}{ty:TypeId}{pos:String}{aft:Array Edge}{g:Zg (Nat×Bool)}(a:Go.Sl.S5 U r M.ag M.n=true)(hv:vT M=true)(b:A.length=M.n)(h:∀j v,A[j]?=some v->H.cell? ⟨C,B+j,none⟩=some v)(hx:z.eval x=.pointer (some ⟨C,B,none⟩)):(execOp z.eval ⟨d,.load r x,ty,pos,aft,g⟩).run U H=.ok (.value (XZ M.ag A)) H:=by simp[execOp,hx,YF,aj a b (Ib hv) h,na _ _];rfl
def GD.at{K:KK}(b:GD K.m c H){ds}(h:At K.m C B ds):∀j v,ds[j]?=some v->H.cell? ⟨C,B+j,none⟩=some v:=λj v a=>b.mem _ _ _ (h j v a)
def GD.qk{m}(a:GD m c H){b k}{cs}{T}(h:(b,k,cellsOf cs T)∈c){o n}:∀j v,((cs.drop o).take n)[j]?=some v->H.cell? ⟨b,o+j,none⟩=some v:=by
 intro j v e;rw[NQ]at e;split at e;·rw[Py]at e;exact a.cell h e
 ·grind
def Znb(cs:L Value)(o n)(h:o+n<=cs.length):cs.take o++(cs.drop o).take n++cs.drop (o+n)=cs:=by have:cs.drop (o+n)=(cs.drop o).drop n:=Zc;rw[this,Yc,TM,TM]
def Zqi(h:eF I d C F b (Z9 J y)=some G):Vg I ⟨D,.load b y,r,E,o,j⟩ J d C F G:=by
 unfold eF at h;split at h;·rename_i v hx;obtain⟨f,h⟩:=Yq h;obtain⟨x,f⟩:=l6 f;refine⟨_,h,Loc.val,Wq λz Q M X R Z a=>?_⟩;have g:=a.op y Yr;rw[hx]at g;obtain⟨bl,zc,B,m,c,x1⟩:=g;exact⟨_,uN f x (WU c) (GD.at a.gd x1) m,B,c,rfl⟩
 ·rename_i gg hx;split at h;·rename_i v y5;obtain⟨f,h⟩:=Yq h;obtain⟨x,f⟩:=l6 f;refine⟨_,h,Loc.val,Wq λz Q M X R Z a=>?_⟩;have g:=a.op y Yr;rw[hx]at g;obtain⟨B,c,x1⟩:=a.gl gg v y5;exact⟨_,uN f x (WU c) (GD.at a.gd x1) g,B,c,rfl⟩
  ·cases h
 ·split at h;·cases h
  ·rename_i yy q H;split at h;·cases h
   ·rename_i v y2;obtain⟨x2,K⟩:=BR y2;obtain⟨z0,i,h8⟩:=px h;obtain⟨x7,h9⟩:=Yq h8;clear h h8;obtain⟨x,f⟩:=l6 x7;clear x7;split at h9
    ·rename_i P y0;obtain⟨rfl,h⟩|⟨xh,rfl,h⟩:=Lo h9
     ·refine⟨_,h,⟨YA _,Zc,λq a=>by rw[YV a];exact x2,Zc⟩,Wq λz Q M X R Z a=>?_⟩;obtain⟨l,_,p,x5⟩:=a.rd _ (TE rfl);obtain⟨S,k0,T0,e,w,g,m,h3,h4,c⟩:=co H (a.op y Yr) K p i;refine⟨_,uN f x (WU c) (a.gd.qk (x5 _ m)) g,_,?_,rfl⟩;obtain⟨_,_,U⟩|⟨_,_,_,_,_,U,_⟩:=c;·exact⟨rfl,U⟩
      ·cases U
     ·rcases L:Tb (.own P) xh C []with⟨u1,n',z6⟩;rw[L]at h;dsimp only at h;obtain⟨z1,x4,h⟩:=lz h;have x8:=vL L;obtain⟨z7,el,y6,yf⟩:=x8.h;rw[XX]at el;subst el;refine⟨_,h,⟨x8.le,λq a=>by rw[YV a];exact x2,Zc,Zc⟩,λz Q M X R Z a=>?_⟩;obtain⟨g,m,W,p,_⟩:=a.sr;obtain⟨S,k0,T0,x6,z4,e1,e2,U,e4,yt⟩:=co H (a.op y Yr) K p i;obtain⟨rr,t,A,e,w,u,f1,f2,f3,f4,c,y4⟩:=iP K p i ⟨_,_,x4⟩;have xa:=uN (x:=y) (d:=D) (ty:=r) (pos:=E) (aft:=o) (g:=j) f x (WU yt) (a.gd.qk (Ym (.inl (W.mem_iff.2 (Ym (.inl e2)))))) e1;obtain⟨T,x0⟩:∃xi,xi=(e.drop (Yd q)).take (Ty.opt P).n:=⟨_,rfl⟩;rw[<-x0]at c;have y3:t=S/\(x6.drop (Yd q)).take (Ty.opt P).n=T:=by
       obtain⟨r2,V,g2⟩:∃G,Lw z yy q=some G/\IH G S:=by
        obtain⟨r3,b3,k3,T3,z2,z5,i1,i2,i3,i4,i5,i6⟩:=qg K p i;have x3:=Zgy H (a.op y Yr) λz0 w=>by rw[w]at H;cases H;cases i with|box i=>cases i with|own i=>obtain⟨b',T',B,l,eh,y7,_⟩:=Ho (w▸a.op y Yr) p;exact⟨b',y7⟩
        obtain⟨bl,yv,xb⟩:=x3;rw[e1]at xb;cases xb;exact yv.zA
       rw[f1]at V;cases V;have eb:=f2.uniq g2;refine⟨eb,?_⟩;subst eb;have m2:=a.gd.Xb _ (Ym (.inl (W.mem_iff.2 (Ym (.inl (f3.mem_iff.2 XQ))))));rw[a.gd.Xb _ (Ym (.inl (W.mem_iff.2 (Ym (.inl e2)))))]at m2;have m3:=X9 m2;simp only[cellsOf,Obj.cells.injEq]at m3;have m4:x6=e:=by have:=m3.1;simpa using this
       rw[m4,x0]
      rw[y3.2]at xa;rw[xa];obtain⟨K',N,k,q1,O,q3,q4⟩:=yf z w T (by
       obtain⟨e5,_,_⟩|⟨y',b',T',B,l,e5,e6,e7,e8⟩:=c;·cases e5
       ·cases e5;exact⟨b',T',B,l,e6,e7,e8⟩) a.fr;obtain⟨z3,l,x9,y1⟩:=y4 O.le x4 q3;have xv:e.take (Yd q)++T++e.drop (Yd q+(Ty.opt P).n)=e:=by rw[x0];exact Znb e _ _ f4
      rw[xv]at x9;have ys:M.Perm (l++k++m):=by refine W.trans (CY m<|f3.trans ?_);have:((t,0,cellsOf e A)::(w++u)).Perm ((t,0,cellsOf e A)::(N++k++u)):=NP _ (q1.append_right u);refine this.trans<|Zbd ?_ (x9.append_right k).symm;have e9:(t,0,cellsOf e A)::(N++k++u)=(t,0,cellsOf e A)::N++(k++u):=Zc;have xs:(t,0,cellsOf e A)::(N++u)++k=(t,0,cellsOf e A)::N++(u++k):=Zc;rw[e9,xs];exact V5 _ Wr
      obtain⟨V,g2⟩:=fH a.gd O.m ys;refine⟨K',l++k,V,g2,O.mv,?_,⟨l,k,Ue _,y1,q4⟩,Yx.cons (pd x4 a.YT λxx _=>by rw[O.fm]) (pc y6 a.lt),by intro xx _;rw[O.fm]⟩;·unfold Tb at L;rcases y8:Tb P xh (C+1) []with⟨u2,n2,l2⟩;rw[y8]at L;cases L;obtain⟨i1,vv,i2,i3,i4⟩:=q3;exact⟨T,⟨rfl,vv,i2,i3,i4⟩,by rw[i3];rfl⟩
    ·obtain⟨x3,h⟩:=Yq h9;refine⟨_,h,⟨YA _,Zc,λq a=>by rw[YV a];exact x2,Zc⟩,Wq λz Q M X R Z a=>?_⟩;obtain⟨l,_,p,x5⟩:=a.rd _ (TE rfl);obtain⟨S,k0,T0,e,w,g,m,h3,h4,c⟩:=co H (a.op y Yr) K p i;have e0:=SZ x3 c;subst e0;exact⟨_,uN f x (WU c) (a.gd.qk (x5 _ m)) g,_,c,rfl⟩
def FW{P}{w}{a}(hx:z.eval y=.pointer (some a)):(execOp z.eval ⟨D,.nilCheck y,r,E,o,j⟩).run P w=.ok (.value (.pointer (some a))) w:=by simp only[execOp,hx];rfl
def wD{K}{H}{u:Unit}(h:K.nm C=some i)(a:i.oneCell'=true):Y0 K H (.v ⟨.hole C,u⟩) i:=⟨[i],⟨rfl,i,h,rfl,a⟩,rfl⟩
def Zq8(h:dH d C F (Z9 J y)=some G):Vg I ⟨D,.nilCheck y,r,E,o,j⟩ J d C F G:=by
 unfold dH at h;split at h
 ·rename_i xb W c;split at h;·rename_i H X u;refine⟨_,h,⟨YA _,Zc,λV a=>by rw[YV a];exact u,Zc⟩,Wq λi m l p n q a=>?_⟩;obtain⟨N,_,P,x9⟩:=a.rd _ (TE rfl);have b:=a.op y Yr;rw[c]at b;obtain⟨g,t,f,B,_,w,e,_⟩:=Ho b P;exact⟨_,FW e,wD w rfl⟩
  ·rename_i H y0 u;replace h:=Lo h;obtain⟨_,h⟩|⟨X,rfl,h⟩:=h;·cases h
   ·rcases ho:Tb H X C []with⟨u1,n',xi⟩;rw[ho]at h;dsimp only at h;have x1:=vL ho;obtain⟨xv,el,x3,x4⟩:=x1.h;rw[XX]at el;subst el;refine⟨_,h,⟨x1.le,λV a=>by rw[YV a];exact u,Zc,Zc⟩,λi m l p n q a=>?_⟩;obtain⟨b,B,x5,P,_⟩:=a.sr;have z:=a.op y Yr;rw[c]at z;obtain⟨Z,⟨_,rv,w,rfl,xh⟩,e⟩:=z;obtain⟨L,_,_⟩|⟨y',K,t,f,N,L,e6,e7,x⟩:=OC P w rfl;·cases L
    ·cases L;cases e7;rw[FW e];obtain⟨K',S,Q,q1,A,q3,q4⟩:=x4 i N f x a.fr;have x6:l.Perm ((K,0,cellsOf f t)::S++Q++B):=by refine x5.trans (CY B ?_);rw[e6];exact NP _ q1
     obtain⟨g1,g2⟩:=fH a.gd A.m x6;refine⟨K',(K,0,cellsOf f t)::S++Q,g1,g2,A.mv,wD (A.le.nm _ _ w) rfl,⟨_,Q,Ue _,⟨_,⟨K,t,f,S,rfl,rfl,q3⟩,by intro W R;simp at R;subst R;exact A.le.nm _ _ w⟩,q4⟩,?_,by intro f' _;rw[A.fm]⟩;·refine Yx.cons (λf' t' xx hm=>?_) (pc x3 a.lt);cases YV hm
  ·cases h
 ·rename_i xb V c;refine⟨_,h,Loc.val,Wq λi m l p n q a=>?_⟩;have b:=a.op y Yr;rw[c]at b;obtain⟨g,x7,e⟩:=b;exact⟨_,FW e,g,x7,rfl⟩
 ·rename_i v c;refine⟨_,h,Loc.val,Wq λi m l p n q a=>?_⟩;have b:=a.op y Yr;rw[c]at b;obtain⟨g,U,f,e,x,O⟩:=b;exact⟨_,FW e,g,U,f,rfl,x,O⟩
 ·rename_i gg c;refine⟨_,h,Loc.val,Wq λi m l p n q a=>?_⟩;have b:=a.op y Yr;rw[c]at b;exact⟨_,FW b,rfl⟩
 ·rename_i H x0 c;replace h:=Lo h;obtain⟨_,h⟩|⟨X,rfl,h⟩:=h;·cases h
  ·refine⟨_,h,Loc.val,Wq λi m l p n q a=>?_⟩;have b:=a.op y Yr;rw[c]at b;obtain⟨Z,⟨_,⟨k,_⟩|⟨y',g,U,f,k,rfl,x,O⟩⟩,e⟩:=b;·cases k
   ·cases k;exact⟨_,FW e,g,U,f,rfl,x,O⟩
 ·rename_i M H x0 c;replace h:=Lo h;obtain⟨_,h⟩|⟨T,rfl,h⟩:=h;·cases h
  ·split at h
   ·rename_i f1 t1 xs u;obtain⟨hf,h⟩:=Yq h;cases Wc hf;obtain⟨y1,xa,h⟩:=Ti h;refine⟨_,h,⟨YA _,Zc,λV a=>by rw[YV a];exact u,Zc⟩,Wq λi m l p n q a=>?_⟩;obtain⟨N,_,⟨cv,⟨_,vs,x2,x8⟩,_⟩,x9⟩:=a.rd _ (TE rfl);obtain⟨W,R,z,_,⟨g,t,f,B,_,e3,_⟩⟩:=x8.GA xa;have b:=a.op y Yr;rw[c]at b;obtain⟨Z,⟨_,⟨k,_⟩|⟨i',u',k,e2,rfl,_⟩⟩,e⟩:=b;·cases k
    ·cases k;rw[x2 T W z]at e2;cases e2;cases e3;refine⟨_,FW e,g,⟨.pointer (some ⟨g,0,none⟩),?_,.inl ⟨rfl,trivial⟩⟩,rfl⟩;show i.fm (Yp M-1000) T=_;rw[show Yp M-1000=M by simp[Yp]];exact x2 T _ z
   ·cases h
 ·cases h
def lh{off}(a:Go.Sl.DA U b C off=true)(hx:z.eval y=.pointer (some ⟨B,f,none⟩)):(execOp z.eval ⟨D,.fieldAddr b y C,r,E,o,j⟩).run U H=.ok (.value (.pointer (some ⟨B,f+off,none⟩))) H:=by simp only[execOp,hx,YF,Zo6 a];rfl
def nZ{K}{H}{v}{p}{ds}(b:PK v p l)(e:rel K v.t [] ds v.x)(c:At K.m C B ds):Y0 K H (.Sq l) (.pointer (some ⟨C,B+Yd p,none⟩)):=by have⟨i,h,d,f,g,_⟩:=focus b e;have a:=(O5 d.symm.eq_nil).1;subst a;exact⟨C,B+Yd p,_,rfl,f,c.DN _ _⟩
def ZoV(h:ft I d C F b (Z9 J y) B=some G):Vg I ⟨D,.fieldAddr b y B,r,E,o,j⟩ J d C F G:=by
 unfold ft at h;split at h
 ·rename_i v f;split at h;·rename_i x l _;obtain⟨c,h⟩:=Yq h;obtain⟨L,p,h⟩:=JB h;refine⟨_,h,Loc.val,Wq λk m t w n z e=>?_⟩;have a:=e.op y Yr;rw[f]at a;obtain⟨g,l,A,i,u,q⟩:=a;exact⟨_,lh c i,nZ p u q⟩
  ·cases h
 ·rename_i M f;split at h
  ·rename_i v P;split at h;·rename_i x l _;obtain⟨c,h⟩:=Yq h;obtain⟨L,p,h⟩:=JB h;refine⟨_,h,Loc.val,Wq λk m t w n z e=>?_⟩;have a:=e.op y Yr;rw[f]at a;obtain⟨A,u,q⟩:=e.gl M v P;exact⟨_,lh c a,nZ p u q⟩
   ·cases h
  ·cases h
 ·rename_i K L f;split at h
  ·rename_i T Z H;split at h;·rename_i S l _;obtain⟨c,h⟩:=Yq h;rw[YL]at c;refine⟨_,h,⟨YA _,Zc,λx e=>by rw[YV e];exact H,Zc⟩,Wq λk m t w n z e=>?_⟩;obtain⟨V,_,O,X⟩:=e.rd _ (TE rfl);have a:=e.op y Yr;rw[f]at a;obtain⟨g,U,A,W,_,Q,i,_⟩:=Ho a O;refine⟨_,lh c.1 i,g,?_,by rw[Qc]⟩;have N:Rc k K [] g:=⟨_,Q,.inl ⟨rfl,trivial⟩⟩;exact N.field c.2
   ·cases h
  ·cases h
 ·rename_i K x f;split at h
  ·rename_i v H;split at h
   ·rename_i T _;split at h;·rename_i S l _;obtain⟨c,h⟩:=Yq h;rw[YL]at c;refine⟨_,h,Loc.val,Wq λk m t w n z e=>?_⟩;have a:=e.op y Yr;rw[f]at a;obtain⟨g,R,i⟩:=a;exact⟨_,lh c.1 i,g,R.field c.2,by rw[DW]⟩
    ·cases h
   ·cases h
  ·cases h
 ·cases h
def uM{aft:Array Edge}{o len cap}{q}(b:Go.Sl.US U C B=true)(hx:z.eval y=.slice (some ⟨f,o,none⟩) len cap)(c:z.eval Q=.int q x)(a:0<=x)(h1:x<len):(execOp z.eval ⟨D,.indexAddr C y Q,r,E,aft,j⟩).run U H=.ok (.value (.pointer (some ⟨f,o+x.toNat*B,none⟩))) H:=by simp only[execOp,hx,c,YF,ZwY b _ o len cap q a h1];rfl
def li{aft:Array Edge}{a o}{q}(c:Go.Sl.Mb U C B f=true)(hx:z.eval y=.pointer (some ⟨a,o,none⟩))(d:z.eval Q=.int q x)(b:0<=x)(h1:x<B):(execOp z.eval ⟨D,.indexAddr C y Q,r,E,aft,j⟩).run U H=.ok (.value (.pointer (some ⟨a,o+x.toNat*f,none⟩))) H:=by simp only[execOp,hx,d,YF,ZwX c _ o q b h1];rfl
def Nr{K}{H}{w}(d:TP I J C R N K H c e z w)(a:Z9 J y=.v ⟨.int,x⟩\/∃(u:IntKind)(m:Nat)(p:ZO m),Z9 J y=.v ⟨.un u m,p⟩/\x=p.toNat)(b:y∈N):∃f,z.eval y=.int f x:=by
 obtain a|⟨u,m,p,a,rfl⟩:=a;·exact⟨_,d.int a b⟩
 ·exact⟨_,d.un a b⟩
def wH{m}{o}(h:Z4 x m o=some G):0<=x/\x<m/\o=some G:=by have⟨⟨a,b⟩,c⟩:=P3 h;exact⟨a,b,c⟩
def ZpL{K}{H}{l}{row}{y}(g:Row M.n (rel K M) [] row l)(d:At K.m C B row)(i:Mj l x=some y):0<=x/\x<l.length/\Y0 K H (.Sq ⟨M,y⟩) (.pointer (some ⟨C,B+x.toNat*M.n,none⟩)):=by
 have⟨c,e,h⟩:=Fp i;have⟨k,f,m,j,o,a,p,n⟩:=Row.at g e;have b:f=[]:=by simp_all
 rw[h,b]at a;exact⟨c,Y,C,_,_,rfl,a,d.DN _ _⟩
def ZeS{K}{H}{l:L M.den}{y}(g:rel K (.sl M) c A l)(b:Mj l x=some y):∃a o cap,A=[.slice (some ⟨a,o,none⟩) l.length cap]/\0<=x/\x<l.length/\Y0 K H (.Sq ⟨M,y⟩) (.pointer (some ⟨a,o+x.toNat*M.n,none⟩)):=by
 obtain⟨_,i,cap,rfl,j,d⟩:=g;obtain rfl|⟨a,o,k,rfl,h,e⟩:=d;·have⟨_,f,_⟩:=Fp b;simp at f
 ·exact⟨a,o,cap,rfl,ZpL h e b⟩
def Zey{K}{H}{v}{l:L M.den}{u:Unit}(d:WC K C v c)(h:v=⟨.full M,l⟩\/v=⟨.YU M,l⟩)(hv:Y0 K H (.v ⟨.hole C,u⟩) i)(o:0<=x)(h1:x<l.length):∃a cap,i=.slice (some ⟨a,0,none⟩) l.length cap/\K.nm C=some i:=by
 obtain⟨m,⟨_,p,e,rfl,_⟩,rfl⟩:=hv;obtain rfl|rfl:=h
 ·obtain⟨rfl,_,g,b⟩|⟨a,f,cap,j,k,n,b,_⟩:=OC d e rfl;·simp at h1;omega
  ·grind
 ·obtain⟨rfl,_,g,b⟩|⟨a,f,cap,j,k,b,_⟩:=OC d e rfl;·simp at h1;omega
  ·grind
def Zit{K:KK}{cap}{sz m}(b:K.nm C=some i)(e:i=.slice (some ⟨B,0,none⟩) f cap)(a:0<=x)(h1:x<f):Rc K C [.ix x sz m] B:=by subst e;exact⟨_,b,.inr ⟨f,cap,x,sz,m,[],rfl,rfl,a,Y,trivial⟩⟩
def ZpK(h:fT I d C F b (Z9 J y) (Z9 J Q)=some G):Vg I ⟨D,.indexAddr b y Q,r,E,o,j⟩ J d C F G:=by
 unfold fT at h;obtain⟨P,h,x⟩:=JG h;split at h;·rename_i t u l;obtain⟨k,h⟩:=Yq h;obtain⟨v,n,h⟩:=Ti h;refine⟨_,h,Loc.val,Wq λw H K L A N a=>?_⟩;obtain⟨M,i⟩:=Nr a x Yr;have c:=a.op y Yr;rw[l]at c;obtain⟨cs,z,g⟩:=c;obtain⟨m,x3,O,rfl,e,f,U⟩:=ZeS (H:=H) z n;exact⟨_,uM k g i e f,U⟩
 ·rename_i t u l;obtain⟨k,h⟩:=Yq h;obtain⟨v,n,h⟩:=Ti h;refine⟨_,h,Loc.val,Wq λw H K L A N a=>?_⟩;obtain⟨M,i⟩:=Nr a x Yr;have c:=a.op y Yr;rw[l]at c;obtain⟨cs,z,g⟩:=c;obtain⟨m,x3,O,rfl,e,f,U⟩:=ZeS (H:=H) (oX z) n;exact⟨_,uM k g i e f,U⟩
 ·rename_i W t0 x0 l;replace h:=Lo h;obtain⟨_,h⟩|⟨q,rfl,h⟩:=h;·cases h
  ·split at h
   ·rename_i f1 t xs B;obtain⟨hf,h⟩:=Yq h;rw[YL]at hf;cases Wc hf.1;obtain⟨u,hl,h⟩:=Ti h;obtain⟨e,c,h⟩:=wH h;refine⟨_,h,⟨YA _,Zc,λp a=>by rw[YV a];exact B,Zc⟩,Wq λw H K L A N a=>?_⟩;obtain⟨M,i⟩:=Nr a x Yr;obtain⟨X,_,⟨cv,⟨_,vs,x2,x8⟩,_⟩,x1⟩:=a.rd _ (TE rfl);obtain⟨x4,hu,n,_,z⟩:=x8.GA hl;have f:=a.op y Yr;rw[l]at f;obtain⟨cs,⟨_,⟨V,_⟩|⟨i',u',V,e2,rfl,_⟩⟩,g⟩:=f;·cases V
    ·cases V;rw[x2 q x4 n]at e2;cases e2;obtain⟨rfl,_⟩|⟨m,T',O,xb,xh,xa,e3,_⟩:=z;·simp[Zj]at c;omega
     ·cases e3;refine⟨_,uM hf.2 g i e c,m,⟨.slice (some ⟨m,0,none⟩) u.length O,?_,.inr ⟨u.length,O,P,t.n,0,[],rfl,rfl,e,?_,trivial⟩⟩,by simp[Yd]⟩;·show w.fm (Yp W-1000) q=_;rw[show Yp W-1000=W by simp[Yp]];exact x2 q _ n
      ·have T:P<(u.length:Int):=c;omega
   ·cases h
 ·rename_i q t u l;obtain⟨k,h⟩:=Yq h;obtain⟨v,n,h⟩:=Ti h;refine⟨_,h,Loc.val,Wq λw H K L A N a=>?_⟩;obtain⟨M,i⟩:=Nr a x Yr;have c:=a.op y Yr;rw[l]at c;obtain⟨m,x3,ds,g,z,Z⟩:=c;obtain⟨e,x6,_⟩:=kq n;refine⟨_,li k g i e Y,?_⟩;have:=nZ (H:=H) (p:=[.ix P t.n q]) (.vec n .nil) z Z;simpa[Yd]using this
 ·rename_i gg l;split at h;·rename_i q t u x5;obtain⟨k,h⟩:=Yq h;obtain⟨v,n,h⟩:=Ti h;refine⟨_,h,Loc.val,Wq λw H K L A N a=>?_⟩;obtain⟨M,i⟩:=Nr a x Yr;have c:=a.op y Yr;rw[l]at c;obtain⟨ds,z,Z⟩:=a.gl gg _ x5;obtain⟨e,x6,_⟩:=kq n;refine⟨_,li k c i e Y,?_⟩;have:=nZ (H:=H) (p:=[.ix P t.n q]) (.vec n .nil) z Z;simpa[Yd]using this
  ·cases h
 ·rename_i x9 x4 l;split at h;·rename_i t u B;obtain⟨k,h⟩:=Yq h;obtain⟨e,c,h⟩:=wH h;refine⟨_,h,⟨YA _,Zc,λp a=>by rw[YV a];exact B,Zc⟩,Wq λw H K L A N a=>?_⟩;obtain⟨M,i⟩:=Nr a x Yr;obtain⟨X,_,R,x1⟩:=a.rd _ (TE rfl);have f:=a.op y Yr;rw[l]at f;obtain⟨m,O,g,S⟩:=Zey R (.inl rfl) f e c;exact⟨_,uM k g i e c,m,Zit S g e c,by simp[Yd]⟩
  ·rename_i t u B;obtain⟨k,h⟩:=Yq h;obtain⟨e,c,h⟩:=wH h;refine⟨_,h,⟨YA _,Zc,λp a=>by rw[YV a];exact B,Zc⟩,Wq λw H K L A N a=>?_⟩;obtain⟨M,i⟩:=Nr a x Yr;obtain⟨X,_,R,x1⟩:=a.rd _ (TE rfl);have f:=a.op y Yr;rw[l]at f;obtain⟨m,O,g,S⟩:=Zey R (.inr rfl) f e c;exact⟨_,uM k g i e c,m,Zit S g e c,by simp[Yd]⟩
  ·rename_i q t u B;obtain⟨k,h⟩:=Yq h;obtain⟨e,c,h⟩:=wH h;refine⟨_,h,⟨YA _,Zc,λp a=>by rw[YV a];exact B,Zc⟩,Wq λw H K L A N a=>?_⟩;obtain⟨M,i⟩:=Nr a x Yr;obtain⟨X,_,R,x1⟩:=a.rd _ (TE rfl);have f:=a.op y Yr;rw[l]at f;obtain⟨m,T',ds,U,_,S,g,_⟩:=Ho f R;have T:P<(q:Int):=c;exact⟨_,li k g i e T,m,⟨_,S,.inl ⟨rfl,⟨e,Y⟩,trivial⟩⟩,by simp[Yd]⟩
  ·cases h
 ·rename_i x9 p l;split at h
  ·rename_i v B;split at h;·rename_i q t _;obtain⟨k,h⟩:=Yq h;obtain⟨e,c,h⟩:=wH h;refine⟨_,h,Loc.val,Wq λw H K L A N a=>?_⟩;obtain⟨M,i⟩:=Nr a x Yr;have f:=a.op y Yr;rw[l]at f;obtain⟨m,x7,g⟩:=f;have T:P<(q:Int):=c;exact⟨_,li k g i e T,m,x7.index e Y,by rw[DW];simp[Yd]⟩
   ·cases h
  ·cases h
 ·cases h
def Zw4{x y:Operand}{d:Zg Tmp}{ty:TypeId}{pos:String}{aft:Array Edge}{g:Zg (Nat×Bool)}{o:Nat}{ds:L Value}(a:Go.Sl.NH U C B=true)(hx:z.eval x=.pointer (some ⟨f,o,none⟩))(hv:(z.eval y).cells=ds.toArray)(c:ds.length=B)(h1:∀v∈ds,v.oneCell'=true)(b:H.heap[f]?=some (.cells A.toArray r (0,0)))(e:o+B<=A.length):(execOp z.eval ⟨d,.store C x y,ty,pos,aft,g⟩).run U H=.ok .skip (Go.Sl.Vv H f r (A.take o++ds++A.drop (o+B))):=by simp only[execOp,hx,YF,Zw3 a hv c h1 b e];rfl
def ZW.Kw{m}{bs}(a:C∈bs):ZW H (Go.Sl.Vv H C r A) m m bs bs:=ZW.Vv a
def ZsG{K}{H}{v}{h}{c}(b:placeOf S=some (C,p))(hv:Y0 K H S i)(o:I8 C v.t=true)(e:WC K C v h)(hs:KR v p l c):∃a,Rc K C p a/\i=.pointer (some ⟨a,Yd p,none⟩):=by refine Zgy b hv λq g=>?_;subst g;cases b;cases hs with|box hs=>cases hs with|own hs=>have⟨d,j,k,n,m,f,_⟩:=Ho hv e;exact⟨d,f⟩
def Zjd{x y:Operand}{d:Zg Tmp}{ty T:TypeId}{pos:String}{aft:Array Edge}{g:Zg (Nat×Bool)}{P}{w}{K b}{H}{v yv}{hl' rest hx}(x3:placeOf (Z9 J x)=some (C,p))(x5:Y0 K H (Z9 J x) (z.eval x))(o:I8 C v.t=true)(n:WC K C v c)(hs:KR v p yv l)(x2:K.le b)(s:rel b yv.t e A yv.x)(U:Go.Sl.NH P T yv.t.n=true)(x0:(z.eval y).cells=A.toArray)(hg:GD b.m (c++(e++hl')++(rest++hx)) w):∃w' h',(execOp z.eval ⟨d,.store T x y,ty,pos,aft,g⟩).run P w=.ok .skip w'/\WC b C l h'/\GD b.m (h'++hl'++hx) w'/\ZW w w' b.m b.m (c++(e++hl')++(rest++hx)).bs (h'++hl'++hx).bs:=by
 obtain⟨bl,E,x4⟩:=ZsG x3 x5 o n hs;obtain⟨x6,V⟩:=hs.at o n E;obtain⟨x8,i,j,m,a,h,N,O,Q,R,x7,x1⟩:=iP o n V ⟨_,_,hs⟩;obtain⟨r2,u,S⟩:=E.zA;rw[N]at u;cases u;have L:=O.uniq S;subst L;obtain⟨B,h',D,W⟩:=x1 x2 hs s;have k:(c++(e++hl')++(rest++hx)).Perm ((i,0,cellsOf m j)::(a++h++(e++hl')++(rest++hx))):=by have:=(Q.append_right (e++hl')).append_right (rest++hx);simpa[Yc]using this
 have q:=hg.perm k;have r:=Zw4 (x:=x) (y:=y) (d:=d) (ty:=ty) (pos:=pos) (aft:=aft) (g:=g) U x4 x0 (WU s) (Qn s) (q.Xb _ XQ) (by rw[B];exact R);rw[B]at r;obtain⟨f,M⟩:∃f,f=m.take (Yd p)++A++m.drop (Yd p+x6.t.n):=⟨_,rfl⟩;rw[<-M]at r D;have t:((i,0,cellsOf f j)::(a++h++(e++hl')++(rest++hx))).Perm (h'++hl'++hx++(a++rest)):=by
  have I:((i,0,cellsOf f j)::(a++h++(e++hl')++(rest++hx))).Perm ((i,0,cellsOf f j)::(e++h)++hl'++hx++(a++rest)):=by
   simp only[Oj];refine NP _ ?_;have F:(a++h++(e++hl')++(rest++hx)).Perm (e++h++hl'++hx++(a++rest)):=by classical rw[VX];intro x9;simp only[VU];omega
   exact F
  refine I.trans (((D.symm.append_right hl').append_right hx).append_right _)
 refine⟨_,h',r,W,((GD.Vv f q q.pl).perm t).left,?_⟩;have Z:i∈(c++(e++hl')++(rest++hx)).bs:=((k.map (·.1)).mem_iff).2 Zc;refine(ZW.Kw Z).sub λG X=>?_;have m1:G∈HP.bs (h'++hl'++hx++(a++rest)):=by rw[HP.Wo];exact Ym (.inl X)
 exact((k.map (·.1)).mem_iff).2 (by simpa[HP.bs]using(((t.map (·.1)).mem_iff).2 m1))
def uZ{K}{H}{v}(h:QP S=some l)(hv:vT l.t=true)(b:Y0 K H S v):∃cs,rel K l.t [] cs l.x/\v.cells=cs.toArray:=by obtain⟨cs,a,rfl⟩:=F5 h b;exact⟨cs,a,Znc a hv⟩
def Vf.of_eq{K K'}(h:K'.fm=K.fm):Vf K K' d:=λa _=>by rw[h]
def Yx.left{K}{p}(h:Yx K (p::d)):Yx K [p]:=h.sub Zc
def Yx.tail{K}{p}(h:Yx K (p::d)):Yx K d:=h.sub Zp
def ZxH(h:aN I d C F b (Z9 J y) (Z9 J Q)=some G):Vg I ⟨D,.store b y Q,r,E,o,j⟩ J d C F G:=by
 unfold aN at h;split at h
 ·rename_i xa c yv x6 x9;split at h;·cases h
  ·rename_i v xx;obtain⟨x1,x2⟩:=BR xx;obtain⟨x0,i⟩:=Yq h;clear h;rw[YL]at x0;obtain⟨Z,x7⟩:=x0;cases x5:fK c with|false=>rw[x5]at i;obtain⟨xv,q,h⟩:=lz i;refine⟨_,h,⟨YA _,λc a=>by rw[YV a];exact x1,Zc,Zc⟩,λu xi hr e xs xh a=>?_⟩;obtain⟨l,n,x,H,_⟩:=a.sr;obtain⟨U,T,K⟩:=uZ x9 x7 (a.op Q Yr);obtain⟨w',g,S,p,N,M⟩:=Zjd (P:=I.P) (x:=y) (y:=Q) (d:=D) (ty:=r) (pos:=E) (aft:=o) (g:=j) (T:=b) (hl':=[]) (rest:=n) (hx:=e) x6 (a.op y Yr) x2 H q (KK.le.refl u) T Z K (a.gd.perm (by simpa[Yc]using x.append_right e));rw[S];refine⟨u,g,by simpa using N,ZW.Qm (hs1:=l++([]++[])++(n++e)) (by simpa[Yc]using x.append_right e) ?_,Mv.refl _ _ _,trivial,⟨g,[],Zc,p,trivial⟩,pd q a.YT λ_ _=>rfl,Vf.refl _ _⟩;simpa using M|true=>
    rw[x5]at i;dsimp only[cond_true]at i;split at i
    ·rename_i xb _;obtain⟨z0,m,h8,y0,y3,w,Qb,t,y5⟩:=I1 i;obtain⟨xv,q,h⟩:=lz h8;have k:m.r=w:=by rw[t.r];simp
     have V:m.q=Qb:=by rw[t.q];simp
     have O:∀c∈w,c.1≠xa/\ZJ d c.1=some c.2:=λc a=>by have:=IP (t.mr c a);exact⟨this.2,this.1⟩
     refine⟨_,h,⟨YA _,?_,?_,?_⟩,?_⟩
     ·intro c a;obtain rfl|a:=XL a;·exact x1
      ·rw[k]at a;exact(O c a).2
     ·intro c a;have f:c∈m.q:=a;rw[V]at f;exact(IP (t.mq c f)).1
     ·rw[Wb,Ss];refine⟨λhm=>?_,by rw[k];exact t.nd⟩;obtain⟨c,a,A⟩:=VR hm;rw[k]at a;exact(O c a).1 A
     ·intro u xi hr e xs xh a;obtain⟨l,n,x,H,y2⟩:=a.sr;obtain⟨U,T,K⟩:=uZ x9 x7 (a.op Q Yr);have W:(hr++e).Perm ([]++([]++n)++(l++e)):=by refine(x.append_right e).trans ?_;simp only[UG,Yc];rw[<-Yc,<-Yc];exact Wr.append_right e
      have x4:=a.gd.perm W;obtain⟨K1,x8,hl',z,y1,y4,hF,x3,_⟩:=y5 xh u [] [] n U x4.left T trivial (by rw[<-k];exact y2) (λc f=>by obtain⟨g,_,p,_⟩:=a.rd c (by show c∈m.q;rw[V];exact f);exact⟨g,p⟩) (by have:=a.YT.tail;rw[k]at this;simpa using this) Zc;obtain⟨g1,g2⟩:=(z.frame (l++e)).step x4;have X:(x8++hl'++(l++e)).Perm (l++(x8++hl')++([]++e)):=by simp only[UG];rw[<-Yc];exact Wr.append_right e
      obtain⟨w',g,S,p,N,M⟩:=Zjd (P:=I.P) (x:=y) (y:=Q) (d:=D) (ty:=r) (pos:=E) (aft:=o) (g:=j) (T:=b) (yv:=⟨xb,z0⟩) (hl':=hl') (rest:=[]) (hx:=e) x6 (a.op y Yr) x2 H q z.le (Xw (JY y0) y1) (by show Go.Sl.NH I.P b xb.n=true;rw[<-y3.n];exact Z) K (g1.perm X);rw[S];refine⟨K1,g++hl',N,ZW.trans (ZW.Qm W g2) (ZW.Qm X M),z.mv _ _,trivial,⟨g,hl',Ue _,p,y4⟩,?_,?_⟩
      ·refine Yx.cons (pd q a.YT.left λB L=>x3 B λc f A=>?_) hF;have R:c∈w:=by simpa using f
       exact(O c R).1 (A.trans L.symm)
      ·refineλB L=>x3 B λc f=>?_;have R:c∈w:=by simpa using f
       exact L c (by show c∈(xa,v)::m.r;rw[k];simp[R])
    ·cases i
 ·cases h
def ur{v}(h:ZJ d B=some v):Loc d C (Ww.val S [(B,v)] C):=⟨Zc,Zc,Zp,Zc⟩
def ZoU(h:fq I C F b (Z9 J y) B=some G):Vg I ⟨D,.field b y B,r,E,o,j⟩ J d C F G:=by
 unfold fq at h;split at h
 ·rename_i v hx;split at h
  ·rename_i S R _;obtain⟨m,h⟩:=Yq h;obtain⟨T,l,h⟩:=JB h;obtain⟨a,h⟩:=Yq h;refine⟨_,h,Loc.val,Wq λH A N Q g z q=>?_⟩;have c:=q.op y Yr;rw[hx]at c;obtain⟨K,u,f⟩:=c;obtain⟨P,O,t,w,p,_⟩:=focus l u;have i:=(O5 t.symm.eq_nil).1;subst i;refine⟨XZ _ _,?_,_,w,rfl⟩;unfold Zes at a;split at a
   ·rename_i M k;split at a;·rename_i L n;rw[YL,YL]at a;have e:=FX a.2.2 (Ib a.2.1) p z;rw[na Zp (Ib a.2.1)]at e;rw[m]at f;have x:g.eval y=.agg _:=f;simp[execOp,x,YF,Instr.field,W8 k,n,asAgg,Xz,Y3,Wc a.1,e]
    ·cases a
   ·cases a
  ·cases h
 ·cases h
def ZpJ(h:fS I C F b (Z9 J y) (Z9 J Q)=some G):Vg I ⟨D,.index b y Q,r,E,o,j⟩ J d C F G:=by
 unfold fS at h;split at h
 ·rename_i H e x2 A;obtain⟨c,h⟩:=Yq h;obtain⟨a,h,t⟩:=JG h;obtain⟨v,k,h⟩:=Ti h;refine⟨_,h,Loc.val,Wq λS R Z x1 l K g=>?_⟩;obtain⟨kd,B⟩:=Nr g t Yr;have f:=g.op y Yr;rw[A]at f;obtain⟨cs,x0,x⟩:=f;obtain⟨m,w,O⟩:=kq k;obtain⟨hu,x3,X,N,L,_⟩:=focus (p:=[.ix a e.n H]) (u:=⟨e,v⟩) (.vec k .nil) x0;have T:hu=[]:=(O5 X.symm.eq_nil).1;subst T;have V:Yd [.ix a e.n H]=a.toNat*e.n:=by simp[Yd]
  rw[V]at N L;refine⟨XZ e.ag ((cs.drop (a.toNat*e.n)).take e.n),?_,_,N,rfl⟩;unfold Zc1 at c;split at c;·rename_i m' U n;rw[YL,YL]at c;cases Wc c.1;have W:a.toNat*e.n+e.n<=cs.length:=L;have M:=FX (P:=I.P) (T:=U) (n:=e.n) (off:=a.toNat*e.n) (cs:=cs) c.2.2 (Ib c.2.1) W K;rw[na (by rw[UF,VF];omega) (Ib c.2.1)]at M;have z:l.eval y=.agg cs.toArray:=x;have q:0<=a/\a<(H:Int):=⟨m,Y⟩;simp only[execOp,z,B,YF,Instr.index,asIntOf,Xz,W8 n,Y3,Y4 q,NJ (l0 c.2.2) K,M]
  ·cases c
 ·rename_i x2 A;obtain⟨c,h⟩:=Yq h;obtain⟨a,h,t⟩:=JG h;obtain⟨v,k,h⟩:=Ti h;refine⟨_,h,Loc.val,Wq λS R Z x1 l K g=>?_⟩;obtain⟨kd,B⟩:=Nr g t Yr;have f:=g.op y Yr;rw[A]at f;obtain⟨cs,⟨_,i,rfl,rfl⟩,x⟩:=f;have z:l.eval y=.string i:=x;have n:I.P.underlying b=some .string:=by
   split at c;·assumption
   ·cases c
  obtain⟨m,w,O⟩:=Fp k;simp only[LP,Za3]at w;have q:i[a.toNat]?=some i.data[a.toNat]:=by have:a.toNat<i.size:=w;simp[getElem?_pos,this];rfl
  refine⟨.int .u8 i.data[a.toNat].toNat,by simp only[execOp,z,B,Instr.index,YF,asIntOf,Xz,Y3,W8 n,m,Qe,q],⟨_,⟨rfl,rfl⟩,?_⟩⟩;·show _=Value.int .u8 (v.toNat:Int);rw[<-O];simp
 ·cases h
def Zw6(h:an I C F b (Z9 J y)=some G):Vg I ⟨D,.sliceToArrayPointer b y,r,E,o,j⟩ J d C F G:=by
 unfold an at h;split at h
 ·rename_i a N m;split at h
  ·rename_i f z x;have⟨p,h⟩:=Yq h;have⟨v,t,h⟩:=Ti h;have⟨P,l⟩:=ZAl t;refine⟨_,h,Loc.val,Wq λK H R S g T q=>?_⟩;have e:=q.op y Yr;rw[x]at e;obtain⟨M,⟨_,L,k,rfl,O,c⟩,u⟩:=e;have w:g.eval y=.slice _ _ k:=u;have Q:=by simpa[TN]using p
   obtain rfl|⟨i,A,B,rfl,c,n⟩:=c;·grind
   ·refine⟨.pointer _,?_,i,A,B.take (a*f.n),rfl,?_,?_⟩;·have:¬z.length<a:=Y;simp[execOp,w,YF,Instr.arrayAt,W8 m,Y3,this,UH,Xz]
    ·show Row _ _ _ _ _;rw[<-l];exact c.take a
    ·have:=n.DN 0 (a*f.n);simpa using this
  ·grind
 ·grind
def ZfZ{K}{H}:∀{s}{i}{vs},RT K s vs->∀v,vs[i]?=some v->R1 K H (dK s i) v|.tc a s,0,_,⟨v,r,rfl,h,_⟩,b,e=>by simp at e;subst e;exact R1.oY h|.tc a s,i+1,_,⟨v,r,rfl,_,h⟩,b,e=>ZfZ h _ Zp|.tn,i,vs,h,b,e=>by have:vs=[]:=h;grind
def RT.len{K}:∀{s}{vs},RT K s vs->vs.length=lV s|.tc a s,_,⟨v,r,rfl,_,h⟩=>by simp[lV,RT.len h]|.tn,vs,h=>by have:=h;subst this;rfl
def ZoI(h:fj C F (Z9 J y) B=some G):Vg I ⟨D,.extract y B,r,E,o,j⟩ J d C F G:=by
 unfold fj at h;split at h;·rename_i n v i;have⟨p,h⟩:=Yq h;refine⟨_,h,Loc.val,Wq λl k t u m w f=>?_⟩;have a:=f.op y Yr;rw[i]at a;have⟨c,g,b⟩:=a;have q:=RT.len b;have e:B<c.length:=Xk;refine⟨c[B],?_,Y0.Hj (ZfZ b _ Zc)⟩;simp[execOp,g,Instr.extract,e]
 ·grind
def Zqd{k'}(h:pX d S k'=some G):∃l u,k' l u=some G/\(∀p∈u,ZJ d p.1=some p.2)/\∀(K)(H)(hs)(w)(v),GD K.m hs w->(∀p∈u,∃h,H p.1=some h/\WC K p.1 p.2 h/\∀x∈h,x∈hs)->Y0 K H S v->∃a cap m,v=.slice a m cap/\l=m:=by
 unfold pX at h;split at h;·refine⟨_,_,h,Zc,?_⟩;rintro K H hs w v b _⟨g,⟨_,rfl⟩,rfl⟩;exact⟨none,0,0,rfl,rfl⟩
 ·refine⟨_,_,h,Zc,?_⟩;rintro K H hs w v b _⟨g,⟨_,a,cap,rfl,_⟩,rfl⟩;exact⟨a,cap,_,rfl,rfl⟩
 ·refine⟨_,_,h,Zc,?_⟩;rintro K H hs w v b _⟨g,c,rfl⟩;obtain⟨_,a,cap,rfl,_⟩:=oX c;exact⟨a,cap,_,rfl,rfl⟩
 ·rename_i f0 t0 x0;replace h:=Lo h;obtain⟨_,h⟩|⟨V,rfl,h⟩:=h;·cases h
  ·split at h
   ·rename_i f1 y xs j;obtain⟨J,h⟩:=Yq h;cases Wc J;obtain⟨l,M,h⟩:=Ti h;refine⟨_,_,h,λp k=>by rw[YV k];exact j,λK H hs w v b f c=>?_⟩;obtain⟨i,_,⟨Z,⟨_,vs,T,P⟩,_⟩,_⟩:=f _ (TE rfl);obtain⟨z,hu,R,_,O⟩:=P.GA M;obtain⟨g,⟨_,⟨n,_⟩|⟨i',u',n,o,rfl,_⟩⟩,rfl⟩:=c;·cases n
    ·cases n;rw[T V z R]at o;cases o;obtain⟨rfl,_,a,t⟩|⟨r,X,cap,B,C,x1,t,_⟩:=O;·cases t;exact⟨a,0,0,rfl,rfl⟩
     ·cases t;exact⟨_,cap,_,rfl,rfl⟩
   ·cases h
 ·rename_i A z;split at h
  ·rename_i y l j;refine⟨_,_,h,λp k=>by rw[YV k];exact j,?_⟩;rintro K H hs w v b f⟨g,⟨_,W,c,rfl,_⟩,rfl⟩;obtain⟨i,_,q,_⟩:=f _ (TE rfl);obtain⟨rfl,_,a,e⟩|⟨r,D,cap,B,C,i,e,_⟩:=OC q c rfl;·cases e;exact⟨a,0,0,rfl,rfl⟩
   ·cases e;exact⟨_,cap,_,rfl,rfl⟩
  ·rename_i y l j;refine⟨_,_,h,λp k=>by rw[YV k];exact j,?_⟩;rintro K H hs w v b f⟨g,⟨_,W,c,rfl,_⟩,rfl⟩;obtain⟨i,_,q,_⟩:=f _ (TE rfl);obtain⟨rfl,_,a,e⟩|⟨r,D,cap,B,C,e,_⟩:=OC q c rfl;·cases e;exact⟨a,0,0,rfl,rfl⟩
   ·cases e;exact⟨_,cap,_,rfl,rfl⟩
  ·cases h
 ·refine⟨_,_,h,Zc,?_⟩;rintro K H hs w v b _⟨r,cap,_,rfl,_,h0,h1,_⟩;refine⟨_,cap,_,rfl,?_⟩;rw[Cn];omega
 ·rename_i js y l;split at h
  ·rename_i x2 N;obtain⟨F,I⟩:=E7 N;refine⟨_,_,h,F,λK H hs w v b f c=>?_⟩;obtain⟨g,⟨_,a,cap,rfl,_⟩,rfl⟩:=c (AH K w) (pG b) λA L=>by obtain⟨z,n,o⟩:=I A L;obtain⟨i,E,q,Q⟩:=f _ o;exact⟨i,E,λx U=>pF b x (Q x U)⟩
   exact⟨a,cap,_,rfl,rfl⟩
  ·cases h
 ·cases h
def ae{c}{a}{v}(b:c.callee=.builtin a)(h:(builtin a c.argTypes r (c.args.map λ|.const _=>true|_=>false) (c.args.map z.eval)).run U H=.ok (.value v) H):(execOp z.eval ⟨D,.call c,r,E,o,j⟩).run U H=.ok (.value v) H:=by simp[execOp,resolve,b,YF,Xz,Y3,invoke];exact h
def r9{a}(h:a.toList=[G]):a=#[G]:=by cases a;grind
def wK(h:OK U r=true):∃a,U.underlying r=some (.slice a)/\∃sz,Go.Sl.US U r sz=true:=by
 unfold OK at h;split at h;·rename_i a b;cases hi:U.info? a with|none=>grind|some c=>exact⟨a,b,c.size,by simp[Go.Sl.US,b,NH,hi]⟩
 ·grind
def ZwZ{a}{cs}(h:OK U r=true):(builtin .len #[r] b cs #[.slice a C B]).run U H=.ok (.value (.int .i64 C)) H:=by have⟨d,e,f,c⟩:=wK h;simp[builtin,YF,ZiN c,Y3];rfl
def ZwS{a}{cs}(h:OK U r=true):(builtin .cap #[r] b cs #[.slice a C B]).run U H=.ok (.value (.int .i64 B)) H:=by have⟨d,e,f,c⟩:=wK h;simp[builtin,YF,ZwR c,Y3];rfl
def Zqf{c}(i:c.callee=.builtin .len)(e:c.args.toList=[y])(n:c.argTypes.toList=[b])(hs:OK I.P b=true)(h:pX d (Z9 J y) (λl G=>F ⟨.v ⟨.int,l⟩,G,[],[],C⟩)=some G):Vg I ⟨D,.call c,r,E,o,j⟩ J d C F G:=by have⟨l,rd,h,m,k⟩:=Zqd h;refine⟨_,h,⟨Zc,Zc,m,Zc⟩,Wq λg f x z t q a=>?_⟩;obtain⟨u,w,A,p,rfl⟩:=k g f _ q _ a.gd a.rd (a.op y (by simp[Op.operands,Call.operands,e]));refine⟨_,ae i ?_,⟨_,⟨rfl,rfl⟩,rfl⟩⟩;rw[r9 e,r9 n];simp[C4,Wb,NR,p];exact ZwZ hs
def Zm5{c}{u:Unit}(f:c.callee=.builtin .cap)(e:c.args.toList=[y])(i:c.argTypes.toList=[b])(hs:OK I.P b=true)(hx:Z9 J y=.v ⟨.Tz,u⟩)(h:Ws C F .int (0:Int)=some G):Vg I ⟨D,.call c,r,E,o,j⟩ J d C F G:=by refine⟨_,h,Loc.val,Wq λm l q t n w g=>?_⟩;have a:=g.op y (by simp[Op.operands,Call.operands,e]);rw[hx]at a;obtain⟨p,⟨_,rfl⟩,k⟩:=a;refine⟨_,ae f ?_,⟨_,⟨rfl,rfl⟩,rfl⟩⟩;rw[r9 e,r9 i];simp[C4,Wb,NR,k];exact ZwS hs
noncomputable def vB(mx:Bool)(p q:Int):Int:=bif mx then V3 p q else Tx p q
def ZfB{R:Type}{e:En}{n:Nat}{k:Ww->Zg R}{r:R}{mx}:∀{l}{a},A9 e n k mx a l=some r->∃zs:L Int,l.map (Z9 e)=zs.map (λz=>SV.v ⟨.int,z⟩)/\Ws n k .int (zs.foldl (vB mx) a)=some r
 |[],a,h=>⟨[],rfl,h⟩|o::l,a,h=>by
  unfold A9 at h;split at h;·rename_i c f;have⟨zs,d,b⟩:=ZfB h;exact⟨c::zs,Zp,b⟩
  ·grind
def ZiM{P}{w}(mx):∀(zs:L Int)(a),((zs.map (Value.int .i64)).foldlM (bif mx then Builtin.max2 else Builtin.min2) (Value.int .i64 a)).run P w=.ok (.int .i64 (zs.foldl (vB mx) a)) w
 |[],a=>Zc|z::zs,a=>by
  have b:((bif mx then Builtin.max2 else Builtin.min2) (Value.int .i64 a) (Value.int .i64 z)).run P w=.ok (.int .i64 (vB mx a z)) w:=by cases mx with|true=>simp[Builtin.max2,Xz,vB,S7];congr 2;rw[ow];split<;>omega|false=>simp[Builtin.min2,Xz,vB,Su];congr 2;rw[Zfz];split<;>omega
  rw[Wb,List.foldlM_cons,YF,b,Y3,ZiM _ _];rfl
def ZfA{mx}{c}(q:c.callee=.builtin (bif mx then .max else .min))(B:c.args.toList=y::N)(hx:Z9 J y=.v ⟨.int,x⟩)(h:A9 J C F mx x N=some G):Vg I ⟨D,.call c,r,E,o,j⟩ J d C F G:=by
 obtain⟨a,p,h⟩:=ZfB h;refine⟨_,h,Loc.val,Wq λu t H K g w l=>?_⟩;have f:∀b∈y::N,b∈(Op.call c).operands.toList:=λb k=>by simp only[Op.operands,Call.operands];cases mx<;>simp_all
 have z:g.eval y=.int .i64 x:=l.int hx (f y Zc);have n:∀(N:L Operand)(a:L Int),(∀b∈N,b∈(Op.call c).operands.toList)->N.map (Z9 J)=a.map (λm=>SV.v ⟨.int,m⟩)->N.map g.eval=a.map (Value.int .i64):=by intro N;induction N with|nil=>simp|cons b N M=>intro a f h;cases a with|nil=>cases h|cons m a=>simp at h⊢;exact⟨l.int h.1 (f b Zc),Zp⟩
 have A:=n N a (λb k=>f b (by simp[k])) p;have i:(c.args.map g.eval).toList=Value.int .i64 x::a.map (Value.int .i64):=by simp_all
 refine⟨.int .i64 _,ae q ?_,⟨_,⟨rfl,rfl⟩,rfl⟩⟩;have e:=ZiM (P:=I.P) (w:=w) mx a x;cases mx with|true=>simp only[S7,builtin,YF,Builtin.max_,i]at e⊢;rw[e];rfl|false=>simp only[Su,builtin,YF,Builtin.min_,i]at e⊢;rw[e];rfl
def Zcn(e:En)(o:Operand)(q:Int):Prop:=Z9 e o=.v ⟨.int,q⟩\/∃(c:IntKind)(a:Nat)(b:ZO a),Z9 e o=.v ⟨.un c a,b⟩/\q=(b.toNat:Int)
def Mp{x}{a}{k'}(h:OR J x a k'=some G):∃l,k' (l.getD a)=some G/\(x=none/\l=none\/∃o q,x=some o/\l=some q/\Zcn J o q):=by
 unfold OR at h;split at h;·grind
 ·rename_i o;have⟨q,h,b⟩:=JG h;exact⟨some q,h,.inr ⟨o,q,rfl,rfl,b⟩⟩
def Mr{K}{H}{w}{o}{l}(g:TP I J C R N K H c e z w)(f:o=none/\l=none\/∃p q,o=some p/\l=some q/\Zcn J p q)(d:∀p,o=some p->p∈N):o.map z.eval=none/\l=none\/∃a q,o.map z.eval=some (.int a q)/\l=some q:=by
 obtain⟨rfl,rfl⟩|⟨p,q,rfl,rfl,b⟩:=f;·simp
 ·have⟨a,h⟩:=Nr g b (d p rfl);exact .inr ⟨a,q,Zp,rfl⟩
def ak{x:Operand}{d:Zg Tmp}{ty:TypeId}{pos:String}{aft:Array Edge}{g:Zg (Nat×Bool)}{w}{lo hi:Zg Operand}{a}{cap}{l h}(e:Go.Sl.US U C B=true)(hx:z.eval x=.slice a f cap)(j:lo.map z.eval=none/\l=none\/∃b q,lo.map z.eval=some (.int b q)/\l=some q)(i:hi.map z.eval=none/\h=none\/∃b q,hi.map z.eval=some (.int b q)/\h=some q)(c:0<=l.getD 0)(h1:l.getD 0<=h.getD f)(h2:h.getD f<=cap):(execOp z.eval ⟨d,.slice C x lo hi none,ty,pos,aft,g⟩).run U w=.ok (.value (.slice (if cap=(l.getD 0).toNat then a else a.map (·.add ((l.getD 0).toNat*B))) ((h.getD f).toNat-(l.getD 0).toNat) (cap-(l.getD 0).toNat))) w:=by simp only[execOp,hx,sN,YF,am e j i c h1 h2 w];rfl
def aC{K}{xs:L M.den}{h:Int}(i:rel K (.sl M) c A xs)(n:0<=x)(h1:x<=h)(h2:h<=xs.length):∃a cap,A=[.slice a xs.length cap]/\xs.length<=cap/\rel K (.sl M) [] [.slice (if cap=x.toNat then a else a.map (·.add (x.toNat*M.n))) (h.toNat-x.toNat) (cap-x.toNat)] ((xs.take h.toNat).drop x.toNat):=by
 obtain⟨_,a,cap,rfl,f,j⟩:=i;refine⟨a,cap,rfl,f,rfl,?_⟩;have g:((xs.take h.toNat).drop x.toNat).length=h.toNat-x.toNat:=by grind
 refine⟨_,_,by rw[g],Zp,?_⟩;by_cases b:(xs.take h.toNat).drop x.toNat=[];·exact .inl b
 ·refine .inr ?_;have o:x.toNat<h.toNat:=by grind
  obtain rfl|⟨d,l,m,rfl,k,e⟩:=j;·simp at b
  ·refine⟨d,l+x.toNat*M.n,(m.take _).drop _,by rw[Ys Y];simp[RH],(k.take _).drop _,by rw[KM];exact e.DN _ _⟩
def Zxy{K}{xs:L M.den}{m:Int}(g:rel K (.sl M) c A xs)(l:0<=x)(h1:x<=m)(h2:m<=xs.length):∃a cap,A=[.slice a xs.length cap]/\xs.length<=cap/\rel K (.sl M) [] [.slice a x.toNat m.toNat] (xs.take x.toNat):=by
 obtain⟨_,a,cap,rfl,e,h⟩:=g;have f:(xs.take x.toNat).length=x.toNat:=Zp;refine⟨a,cap,rfl,e,rfl,a,m.toNat,by rw[f],Zp,?_⟩;obtain rfl|⟨b,j,k,rfl,i,d⟩:=h;·simp
 ·refine .inr ⟨b,j,k.take _,rfl,i.take _,?_⟩;have:=d.DN 0 (x.toNat*M.n);simpa using this
def Zi4{n:Nat}{x:Operand}{d:Zg Tmp}{ty:TypeId}{pos:String}{aft:Array Edge}{g:Zg (Nat×Bool)}{xs}{lo hi mx}{k'}(y:Go.Sl.US I.P r M.n=true)(h:lC J M xs lo hi mx k'=some G):∃ys,k' ys=some G/\∀{f}{K}{H}{o hx}{a}{w}{hs}{j},TP I J n f (Op.slice r x lo hi mx).operands.toList K H o hx a w->rel K (.sl M) hs [j] xs->a.eval x=j->∃v,(execOp a.eval ⟨d,.slice r x lo hi mx,ty,pos,aft,g⟩).run I.P w=.ok (.value v) w/\rel K (.sl M) [] [v] ys:=by
 unfold lC at h;split at h;·obtain⟨U,h,F⟩:=Mp h;obtain⟨m,h,E⟩:=Mp h;obtain⟨ys,O,h⟩:=Ti h;obtain⟨c,b,e,u⟩:=Zqp O;refine⟨ys,h,?_⟩;intro f K H o hx a w hs j i p q;obtain⟨t,cap,k,C,z⟩:=aC p c b e;cases k;have l:m.getD (Zi (Zj xs))=m.getD (xs.length:Int):=rfl;rw[l]at b e u z;refine⟨_,ak y q (Mr i F (by rintro A rfl;simp[Op.operands])) (Mr i E (by rintro A rfl;simp[Op.operands])) c b Y,?_⟩;rw[<-u];exact z
 ·rename_i V;split at h;·rename_i m;obtain⟨A,h,L⟩:=JG h;obtain⟨S,h,N⟩:=JG h;obtain⟨c,h⟩:=P3 h;obtain⟨⟨b,e⟩,h⟩:=P3 h;refine⟨_,h,?_⟩;intro f K H o hx a w hs j i p q;obtain⟨Q,k⟩:=Nr i L Yr;obtain⟨R,l⟩:=Nr i N Yr;obtain⟨t,cap,B,C,D⟩:=Zxy p c b e;cases B;have T:S<=(xs.length:Int):=e;refine⟨_,?_,D⟩;simp only[execOp,q,sN,Gc,k,l,YF,Zw2 (P:=I.P) y (a:=t) (len:=xs.length) (cap:=cap) (kh:=Q) (km:=R) c b Y w,Y3,Xz]
  ·cases h
def lq{aft:Array Edge}{lo hi:Zg Operand}{b o}{l h}(d:Go.Sl.Mb U C B f=true)(hx:z.eval y=.pointer (some ⟨b,o,none⟩))(g:lo.map z.eval=none/\l=none\/∃a q,lo.map z.eval=some (.int a q)/\l=some q)(e:hi.map z.eval=none/\h=none\/∃a q,hi.map z.eval=some (.int a q)/\h=some q)(c:0<=l.getD 0)(h1:l.getD 0<=h.getD B)(h2:h.getD B<=B)(n:l.getD 0<B):(execOp z.eval ⟨D,.slice C y lo hi none,r,E,aft,j⟩).run U H=.ok (.value (.slice (some ⟨b,o+(l.getD 0).toNat*f,none⟩) ((h.getD B).toNat-(l.getD 0).toNat) (B-(l.getD 0).toNat))) H:=by have⟨m,k,i⟩:=Zc0 d;simp[execOp,hx,sN,YF,Instr.sliceAt,W8 k,Y3,Instr.sureAddr,Xz,ZiQ (P:=U) (Ta:=false) g e c h1 h2 H,NJ i H];rw[Ys Y];simp[RH]
def pO{h m}{o}(f:WA x h m o=some G):0<=x/\x<=h/\h<=m/\x<m/\o=some G:=by have⟨⟨a,b,c,d⟩,e⟩:=P3 f;exact⟨a,b,c,d,e⟩
def Zjg{K}{H}{p}{m:Nat}{h:Int}(b:Rc K C p B)(a:0<=x)(h1:x<=h)(h2:h<=m):Y0 K H (.sub C p f m x h) (.slice (some ⟨B,Yd p+x.toNat*f,none⟩) (h.toNat-x.toNat) (m-x.toNat)):=⟨B,m-x.toNat,b,Zp,Y,a,h1,Y⟩
def Zpa{K}{xs:L M.den}(o:M.plain=true)(p:rel K (.full M) c [i] xs)(r:0<=x)(h1:x<=xs.length):∃a cap,i=.slice a xs.length cap/\xs.length<=cap/\(xs.length=0->cap=0\/∃b,a=some b)/\rel K (.full M) c [.slice a x.toNat cap] (xs.take x.toNat):=by
 obtain⟨rfl,rfl,e,d⟩|⟨j,h,cap,g,q,l,d,rfl,f,m,s⟩:=p;·cases d;have:x=0:=Zp;subst this;exact⟨e,0,rfl,YA _,λ_=>.inl rfl,.inl ⟨rfl,rfl,e,rfl⟩⟩
 ·cases d;have k:l=[]:=Row.Kn (λ_ _ _ x=>SZ o x) f;subst k;have n:(xs.take x.toNat).length=x.toNat:=Zp;refine⟨_,cap,rfl,m,Zc,.inr ⟨j,h,cap,g.take _,g.drop (x.toNat*M.n)++q,[],by rw[n],by rw[<-Yc,TM],f.take _,Zp,Zp⟩⟩
def ZxA{lo hi mx}(h:aD I J d C F k b (Z9 J y) lo hi mx=some G):Vg I ⟨D,.slice b y lo hi mx,r,E,o,j⟩ J d C F G:=by unfold aD at h;cases k with
 |true=>
  dsimp only[cond_true]at h;split at h
  ·rename_i y0 x5 x;split at h
   ·rename_i m t v U;obtain⟨c,f⟩:=Yq h;clear h;rw[YL]at c;obtain⟨l,i,R⟩:=Mp f;obtain⟨g,u,L⟩:=Mp i;obtain⟨q,P,X,Z,h⟩:=pO u;clear u i f;refine⟨_,h,⟨YA _,λp a=>by rw[YV a];exact U,Zc,Zc⟩,λM W V B Q w a=>?_⟩;obtain⟨g1,g2,x9,hb,_⟩:=a.sr;have e:=a.op y Yr;rw[x]at e;obtain⟨N,T',H,h',eh,x3,n,x4⟩:=Ho e hb;have A:l.getD 0<=g.getD (m:Int):=P;have K:g.getD (m:Int)<=(m:Int):=X;have x0:l.getD 0<(m:Int):=Z;rw[lq c.2 n (Mr a R Lv) (Mr a L Lv) q A K x0];have e0:h'=[]:=SZ (t:=.vec m t) c.1 x4;subst e0;have P1:(V++B).Perm ((N,0,cellsOf H T')::(g2++B)):=by have:=x9.append_right B;rw[eh]at this;simpa[Yc]using this
    have xi:=a.gd.perm P1;obtain⟨K',xv,y5,x8,xh⟩:=n9 (k:=H.length) xi;obtain⟨q1,q2⟩:=xh.step xi;refine⟨K',[],?_,?_,⟨xv,λxx _=>by rw[xh.nm]⟩,?_,trivial,λ_ _ _ h=>(by cases h),Vf.of_eq y5⟩;·have:GD K'.m ([(N,H.length,cellsOf H T')]++(g2++B)) w:=q1;exact(this.right).right
    ·refine(ZW.Qm P1 q2).sub λb' y2=>?_;show b'∈HP.bs ((N,H.length,cellsOf H T')::(g2++B));simp only[HP.bs,Wb,WW,C5,Sr];exact .inr (.inr (by simpa[HP.bs]using y2))
    ·have x2:rel K' (.sl t) [] [.slice (some ⟨N,0,none⟩) (Vector.toList v).length m] (Vector.toList v):=by refine⟨rfl,_,m,rfl,Zc,.inr ⟨N,0,H,rfl,Row.imp (λ_ _ _ h=>Xw xv h) (show Row t.n (rel M t) [] H (Vector.toList v)from x4),λxx x5 hu=>?_⟩⟩;rw[Qc];exact x8 xx x5 (X8 hu).1 hu
     obtain⟨z,O,e1,_,x6⟩:=aC x2 q A (by rw[Bd];exact K);cases e1;rw[Ys Y]at x6;refine⟨_,x6,?_⟩;simp[XZ,Ty.ag,RH]
   ·cases h
  ·cases h|false=>
  dsimp only[cond_false]at h;split at h
  ·rename_i x5 x;obtain⟨c,f⟩:=Yq h;clear h;rw[YL]at c;have x1:mx=none:=by simpa using c.2
   subst x1;obtain⟨l,i,R⟩:=Mp f;obtain⟨g,u,L⟩:=Mp i;obtain⟨⟨e1,e2⟩,h⟩:=P3 u;clear u i f;refine⟨_,h,Loc.val,Wq λM W V B Q w a=>?_⟩;have e:=a.op y Yr;rw[x]at e;obtain⟨cs,⟨_,rfl⟩,n⟩:=e;have xb:Q.eval y=.slice none 0 0:=n;obtain⟨el,_,sz,hs⟩:=wK c.1;have x7:g.getD ((0:Nat):Int)=0:=e2;have S:=ak (x:=y) (d:=D) (ty:=r) (pos:=E) (aft:=o) (g:=j) hs xb (Mr a R Lv) (Mr a L Lv) Y (by rw[e1,x7];omega) (by rw[x7];omega) (w:=w);refine⟨_,S,_,⟨rfl,rfl⟩,?_⟩;rw[e1,x7];rfl
  ·rename_i t T x;obtain⟨hT,f⟩:=Yq h;clear h;obtain⟨ys,h,x2⟩:=Zi4 (x:=y) (d:=D) (ty:=r) (pos:=E) (aft:=o) (g:=j) (n:=C) hT f;refine⟨_,h,Loc.val,Wq λM W V B Q w a=>?_⟩;have e:=a.op y Yr;rw[x]at e;obtain⟨cs,x4,n⟩:=e;obtain⟨_,z,O,rfl,c⟩:=x4;obtain⟨v,S,xa⟩:=x2 a ⟨rfl,z,O,rfl,c⟩ n;exact⟨v,S,_,xa,rfl⟩
  ·rename_i y0 x5 x;split at h
   ·rename_i t T U;split at h
    ·obtain⟨c,f⟩:=Yq h;clear h;rw[YL]at c;obtain⟨g,i,L⟩:=Mp f;obtain⟨⟨q,P⟩,h⟩:=P3 i;clear i f;refine⟨_,h,⟨LW _,λp a=>by rw[YV a];exact U,Zc,Zc⟩,λM W V B Q w a=>?_⟩;obtain⟨g1,g2,x9,hb,_⟩:=a.sr;have e:=a.op y Yr;rw[x]at e;obtain⟨cs,⟨_,r0,x3,rfl,y6⟩,n⟩:=e;obtain⟨z,O,rfl,y3,_,y4⟩:=Zpa c.1 (OC hb x3 rfl) q P;have yt:T.length<=O:=y3;have A:g.getD (T.length:Int)<=(T.length:Int):=P;have xb:Q.eval y=.slice z T.length O:=n;have S:=ak (x:=y) (d:=D) (ty:=r) (pos:=E) (aft:=o) (g:=j) c.2 xb (lo:=none) (l:=none) (.inl ⟨rfl,rfl⟩) (Mr a L Lv) Zc (by simpa using q) Y (w:=w);have e3:(if O=((none:Zg Int).getD 0).toNat then z else z.map (·.add (((none:Zg Int).getD 0).toNat*t.n)))=z:=by
      split;·rfl
      ·cases z with|none=>rfl|some a1=>simp[Addr.add]
     rw[e3]at S;simp only[Option.getD_none,Int.toNat_zero,jq]at S;rw[S];have hE:=KK.Fx (a.fr C (YA _) (jo _)) (.slice z (g.getD (T.length:Int)).toNat O);obtain⟨q1,q2⟩:=fH (K':=M.name C (.slice z (g.getD (T.length:Int)).toNat O)) a.gd rfl x9;refine⟨_,g1,q1,q2,hE.mv,wD KK.Oa rfl,⟨g1,[],Zc,⟨_,Xw hE.le y4,?_⟩,trivial⟩,?_,Vf.of_eq rfl⟩
     ·intro x5 hu;have:x5=.slice z (g.getD (Zi (Zj T))).toNat O:=by simpa using hu
      rw[this];exact KK.Oa
     ·intro f' t' yv hm;cases YV hm
    ·cases h
   ·rename_i t T U;obtain⟨hT,f⟩:=Yq h;clear h;obtain⟨ys,h,x2⟩:=Zi4 (x:=y) (d:=D) (ty:=r) (pos:=E) (aft:=o) (g:=j) (n:=C) hT f;refine⟨_,h,ur U,Wq λM W V B Q w a=>?_⟩;obtain⟨h',_,hb,y8⟩:=a.rd _ (TE rfl);have e:=a.op y Yr;rw[x]at e;obtain⟨cs,⟨_,r0,x3,rfl,y6⟩,n⟩:=e;obtain⟨v,S,xa⟩:=x2 a (lU (OC hb x3 rfl)) n;exact⟨v,S,_,xa,rfl⟩
   ·rename_i m t v U;obtain⟨c,f⟩:=Yq h;clear h;rw[YL]at c;have x1:mx=none:=by simpa using c.1
    subst x1;obtain⟨l,i,R⟩:=Mp f;obtain⟨g,u,L⟩:=Mp i;obtain⟨q,P,X,Z,h⟩:=pO u;clear u i f;refine⟨_,h,ur U,Wq λM W V B Q w a=>?_⟩;obtain⟨h',_,hb,y8⟩:=a.rd _ (TE rfl);have e:=a.op y Yr;rw[x]at e;obtain⟨N,T',H,yf,_,x3,n,_⟩:=Ho e hb;have A:l.getD 0<=g.getD (m:Int):=P;have K:g.getD (m:Int)<=(m:Int):=X;have x0:l.getD 0<(m:Int):=Z;refine⟨_,lq c.2 n (Mr a R Lv) (Mr a L Lv) q A K x0,Zjg (p:=[]) ⟨_,x3,.inl ⟨rfl,trivial⟩⟩ q A K⟩
   ·cases h
  ·rename_i y0 p x;split at h
   ·rename_i v U;split at h
    ·rename_i m t _;obtain⟨c,f⟩:=Yq h;clear h;rw[YL]at c;have x1:mx=none:=by simpa using c.1
     subst x1;obtain⟨l,i,R⟩:=Mp f;obtain⟨g,u,L⟩:=Mp i;obtain⟨q,P,X,Z,h⟩:=pO u;clear u i f;refine⟨_,h,Loc.val,Wq λM W V B Q w a=>?_⟩;have e:=a.op y Yr;rw[x]at e;obtain⟨N,y7,n⟩:=e;have A:l.getD 0<=g.getD (m:Int):=P;have K:g.getD (m:Int)<=(m:Int):=X;have x0:l.getD 0<(m:Int):=Z;exact⟨_,lq c.2 n (Mr a R Lv) (Mr a L Lv) q A K x0,Zjg y7 q A K⟩
    ·cases h
   ·cases h
  ·rename_i m t v x;obtain⟨c,f⟩:=Yq h;clear h;rw[YL]at c;have x1:mx=none:=by simpa using c.1
   subst x1;obtain⟨l,i,R⟩:=Mp f;obtain⟨g,u,L⟩:=Mp i;obtain⟨q,P,X,Z,h⟩:=pO u;clear u i f;refine⟨_,h,Loc.val,Wq λM W V B Q w a=>?_⟩;have e:=a.op y Yr;rw[x]at e;obtain⟨N,y1,H,n,x4,x8⟩:=e;have A:l.getD 0<=g.getD (m:Int):=P;have K:g.getD (m:Int)<=(m:Int):=X;have x0:l.getD 0<(m:Int):=Z;refine⟨_,lq c.2 n (Mr a R Lv) (Mr a L Lv) q A K x0,?_⟩;have x2:rel M (.sl t) [] [.slice (some ⟨N,y1,none⟩) (Vector.toList v).length m] (Vector.toList v):=⟨rfl,_,m,rfl,Zc,.inr ⟨N,y1,H,rfl,x4,x8⟩⟩;obtain⟨z,O,e1,_,x6⟩:=aC x2 q A (by rw[Bd];exact K);cases e1;rw[Ys Y]at x6;refine⟨_,x6,?_⟩;simp[XZ,Ty.ag,RH]
  ·cases h
def rp:(t:Ty)->Zg (Z1 t.den)
 |.int=>some i64|.un k w=>some (Go.Sl.un k w)|.bool=>some bl|.vec n t=>match rp t with|some c=>some (Go.Sl.vec n c)|none=>none
 |.pair a b=>match rp a,rp b with|some c,some S=>some (Go.Sl.prod c S)|_,_=>none
 |_=>none
def ZiC{K}{t}{R}{m}(b:R.n=t.n)(a:∀hs cs x,rel K t hs cs x->R.rel m cs x):∀{xs}{hs}{cs},Row t.n (rel K t) hs cs xs->Xm R m cs xs|[],_,_,h=>h.1|x::xs,_,_,⟨c,c',h,h',e,_,_,r,q⟩=>⟨c,c',e,a _ _ _ r,ZiC b a q⟩
def zB:∀{t}{R},rp t=some R->R.n=t.n/\R.ag=t.ag/\∀(K)(m)(hs)(cs)(x),rel K t hs cs x->R.rel m cs x:=by intro t;induction t with
 |int=>intro R a;cases a;exact⟨rfl,rfl,λK m hs cs x a=>a.2⟩|un B E=>intro R a;cases a;exact⟨rfl,rfl,λK m hs cs x a=>a.2⟩|bool=>intro R a;cases a;exact⟨rfl,rfl,λK m hs cs x a=>a.2⟩|vec n t u=>
  intro R a;unfold rp at a;split at a;·rename_i d q;cases a;obtain⟨b,p,c⟩:=u q;exact⟨by show n*d.n=n*t.n;rw[b],rfl,λK m hs cs x a=>ZiC b Zp a⟩
  ·cases a|pair g h v w=>
  intro R a;unfold rp at a;split at a;·rename_i e f r s;cases a;obtain⟨b,p,c⟩:=v r;obtain⟨l,A,o⟩:=w s;refine⟨by show e.n+f.n=g.n+h.n;rw[b,l],rfl,λK m hs cs x⟨C,D,i,j,_,k,y,z⟩=>⟨i,j,k,c _ _ _ _ _ y,o _ _ _ _ _ z⟩⟩
  ·cases a|_=>intro R a;cases a
def Zea{P}{q}{N}(e:∀T t,q T t=true->∃R,rp t=some R/\Oo P T R N):∀{fs}{off}{t},xZ P q fs off t=true->∃R,rp t=some R/\EE P fs off R N
 |[],_,_,h=>by cases h|[f],off,t,h=>by
  have g:=by unfold xZ at h;exact h
  simp only[YL]at g;have⟨b,l,m,n,c⟩:=g;have⟨R,a,d⟩:=e _ _ c;have⟨j,k,_⟩:=zB a;exact⟨R,a,.one (Wc b) Zp Zp d⟩|f::u::fs,off,t,h=>by cases t with|pair r s=>unfold xZ at h;simp only[YL]at h;have⟨b,l,m,n,c,o⟩:=h;have⟨R,a,d⟩:=e _ _ c;have⟨i,p,v⟩:=Zea e o;have⟨j,k,_⟩:=zB a;refine⟨Go.Sl.prod R i,by simp[rp,a,p],.cons (Wc b) Zp Zp d Zp⟩|_=>cases h
def qX{P}:∀{N}{T}{t},I6 P N T t=true->∃R,rp t=some R/\Oo P T R N
 |0,_,_,a=>by cases a|N+1,T,t,a=>by
  unfold I6 at a;split at a;·rename_i b;exact⟨_,rfl,λd k=>Zoz b d Y⟩
  ·rename_i d x l b;have:d=l:=Zp;subst this;exact⟨_,rfl,λn v=>ZoB b n Y⟩
  ·rename_i b;exact⟨_,rfl,λd k=>Zoy b d Y⟩
  ·rename_i m t w q b;simp only[YL]at a;have⟨f,g,u,h⟩:=a;cases Wc f;have⟨R,c,i⟩:=qX h;have⟨r,e,_⟩:=zB c;exact⟨Go.Sl.vec m R,by simp[rp,c],ZoC b Zp i⟩
  ·rename_i o p s b;simp at a;have⟨f,g⟩:=a;have⟨R,c,j⟩:=Zea (λT t a=>qX a) g;refine⟨R,c,ZoA b Y ?_ j⟩;have⟨_,e,_⟩:=zB c;exact e
  ·grind
def Zw1(c:U.underlying r=some .string)(a b)(w):(binOp .neq r (.string a) (.string b)).run U w=.ok (.bool !a==b) w:=by simp[binOp,Op.equal,Op.maxDepth,YF,Op.equalIn,W8 _,Y3,Op.stringOp,Xz,beq_toListBytes]
def Zsl{c}{Γ}{H}{p q}(f:c.P.underlying r=some .string)(hx:Xe Γ y (str.slot p))(h:Xe Γ Q (str.slot q)):PJ c ⟨D,.binOp .neq r y Q b,g,E,o,j⟩ Γ H (bl.slot !decide (p=q)):=Nz λs n i v _ _ _ a=>by
  have⟨t,d,l⟩:=lK hx (a y Yr);have⟨u,e,m⟩:=lK h (a Q Yr);refine⟨.bool _,by simp[execOp,d,e,YF,Zw1 f,Y3,Xz];rfl,Qd ?_⟩;congr 2;rw[CW];simp;rw[Zbn];constructor;·grind
  ·exactλk=>bytes_inj Zp
def pB{K}{H}{w}(g:TP I J C R N K H c e z w){p:L (ZO 8)}(f:Z9 J y=.v ⟨.str,p⟩)(a:y∈N):Xe (RW z N) y (str.slot p):=AB (Ar a) λj v b=>by rw[b];obtain⟨i,⟨_,h,rfl,d⟩,J⟩:=g.v f a;exact⟨h,by rw[J];rfl,d⟩
def Ng(neg:Bool):BinOp:=match neg with|true=>.neq|false=>.eql
def JZ{a}(f:Fm U g=true)(hx:z.eval y=.pointer a)(e:z.eval Q=.pointer none):(execOp z.eval ⟨D,.binOp (Ng k) g y Q b,r,E,o,j⟩).run U H=.ok (.value (.bool (bif k then !a.isNone else a.isNone))) H:=by
 have⟨c,d⟩:∃c,U.underlying g=some (.pointer c):=by unfold Fm at f;grind
 cases k with|true=>simp only[execOp,Ng,hx,e,YF,eqGuard_at_pointer,Xz,Y3,(ZiO d _ H).2];rfl|false=>simp only[execOp,Ng,hx,e,YF,eqGuard_at_pointer,Xz,Y3,(ZiO d _ H).1];rfl
def ah{x y:Operand}{d:Zg Tmp}{ty yt:TypeId}{pos:String}{aft:Array Edge}{g:Zg (Nat×Bool)}{neg:Bool}{P}{w}{a:Act}{b}(k:OK P r=true)(hx:a.eval x=.slice b C B)(i:a.eval y=.slice none 0 0):(execOp a.eval ⟨d,.binOp (Ng neg) r x y yt,ty,pos,aft,g⟩).run P w=.ok (.value (.bool (bif neg then !b.isNone else b.isNone))) w:=by
 have⟨m,h,_⟩:=wK k;have l:∀j,(Op.equalIn (j+1) r (.slice b C B) (.slice none 0 0)).run P w=.ok b.isNone w:=by intro j;cases b with|none=>simp[Op.equalIn,YF,W8 h,Y3,Xz]|some a=>simp only[Op.equalIn,YF,W8 h,Y3,Xz];rfl
 have f:=l 9999;have e:∀c,(eqGuard c r x y (.slice b C B) (.slice none 0 0)).run P w=.ok () w:=by intro c;cases c<;>rfl
 cases neg with|true=>simp only[execOp,Ng,hx,i,YF,e,binOp,Op.equal,Op.maxDepth,f,Y3,Xz];rfl|false=>simp only[execOp,Ng,hx,i,YF,e,binOp,Op.equal,Op.maxDepth,f,Y3,Xz];rfl
def Ko{K}{H}{u:Unit}{v}(h:Y0 K H (.v ⟨.Ub,u⟩) v):v=.pointer none:=by obtain⟨a,⟨_,rfl⟩,rfl⟩:=h;rfl
def BV{K}{H}:Y0 K H (.v ⟨.bit k,()⟩) (.bool k):=⟨_,⟨rfl,rfl⟩,rfl⟩
def BZ{K}{H}:Y0 K H (.v ⟨.bool,k⟩) (.bool k):=⟨_,⟨rfl,rfl⟩,rfl⟩
def Zrk(cs):TI k cs=XZ k cs:=by cases k<;>rfl
def fi{t:Ty}{i}{p q}(j:DecidableEq t.den):(bif k then ZA (Jz i p q)else Jz i p q)=bif k then !@decide (p=q) (j p q)else@decide (p=q) (j p q):=by grind
def Zow{v}(hx:Z9 J y=.v v)(z:Z9 J Q=.v l)(h:fh I C F g k v l=some G):Vg I ⟨D,.binOp (Ng k) g y Q b,r,E,o,j⟩ J d C F G:=by
 have m:y∈(Op.binOp (Ng k) g y Q b).operands.toList:=Yr;have n:Q∈(Op.binOp (Ng k) g y Q b).operands.toList:=Yr;obtain⟨vt,i⟩:=v;unfold fh at h;have x3:pP I.P g=true->I.P.underlying g=some .bool:=by
  intro H;unfold pP at H;split at H;·assumption
  ·cases H
 split at h
 ·rename_i p ep;subst ep;obtain⟨H,x⟩:=Yq h;clear h;have A:=x3 H;split at x;·rename_i f u2;refine⟨_,x,Loc.val,Sn λK M P R a w e=>⟨bl.slot (bif k then !(p==f)else p==f),?_,λq v _ h=>Zgg q v h⟩⟩;have B:=Ff e (e.bit hx m) m;have u:=Ff e (e.bit z n) n;cases k with|true=>exact ce A B u|false=>exact dZ A B u
  ·rename_i f;refine⟨_,x,Loc.val,Sn λK M P R a w e=>⟨bl.slot (bif k then !(p==f)else p==f),?_,λq v _ h=>Hn q v h⟩⟩;have B:=Ff e (e.bit hx m) m;have u:=Ff e (e.bool z n) n;cases k with|true=>exact ce A B u|false=>exact dZ A B u
  ·cases x
 ·rename_i ep;subst ep;obtain⟨H,x⟩:=Yq h;clear h;have A:=x3 H;obtain⟨p,S,T⟩:=Rv x;obtain⟨f,O,hq⟩:=cj T;have Z:i=p:=by simpa using S
  subst Z;clear x T S;refine⟨_,O,Loc.val,Sn λK M P R a w e=>⟨bl.slot (bif k then !(i==f)else i==f),?_,λq v _ h=>Hn q v h⟩⟩;have B:=Ff e (e.bool hx m) m;have u:=Ff (p:=f) e (hq K M _ w _ e.gd (by have:=e.op Q n;rwa[z]at this)) n;cases k with|true=>exact ce A B u|false=>exact dZ A B u
 ·obtain⟨H,x⟩:=Yq h;clear h;split at x
  ·rename_i x0 x7;obtain⟨p,S,T⟩:=Rv x;obtain⟨f,rfl,O⟩:=Rv T;have Z:i=p:=by simpa using S
   subst Z;clear x T S;have U:fg I.P g vt=true:=H;cases vt with
   |int=>refine⟨_,O,Loc.val,Sn λK M P R a w e=>⟨bl.slot (bif k then !@decide (@Eq Int i f) (Int.instDecidableEq i f)else@decide (@Eq Int i f) (Int.instDecidableEq i f)),?_,λq v _ h=>(by rw[fi (t:=.int) λp f:Int=>Int.instDecidableEq p f];exact Hn q v h)⟩⟩;·cases k with|true=>exact Zsa (Nq e hx m) (Nq e z n)|false=>exact cf (Nq e hx m) (Nq e z n)
   |un x5 N=>have hk:=zX (a:=x5) (w:=N) U;refine⟨_,O,Loc.val,Sn λK M P R a w e=>⟨bl.slot (bif k then !@decide (@Eq (ZO N) i f) (instDecidableEqBitVec i f)else@decide (@Eq (ZO N) i f) (instDecidableEqBitVec i f)),?_,λq v _ h=>(by rw[fi (t:=.un x5 N) λp f:ZO N=>instDecidableEqBitVec p f];exact Hn q v h)⟩⟩;·cases k with|true=>exact Zsv (PZ e hx m) (PZ e z n)|false=>exact Zso (PZ e hx m) (PZ e z n)
   |str=>
    have A:I.P.underlying g=some .string:=by
     have x2:(match I.P.underlying g with|some .string=>true|_=>false)=true:=U;split at x2;·assumption
     ·cases x2
    refine⟨_,O,Loc.val,Sn λK M P R a w e=>⟨bl.slot (bif k then !@decide (@Eq (L (ZO 8)) i f) (instDecidableEqList i f)else@decide (@Eq (L (ZO 8)) i f) (instDecidableEqList i f)),?_,λq v _ h=>(by rw[fi (t:=.str) λp f:L (ZO 8)=>instDecidableEqList p f];exact Hn q v h)⟩⟩;·cases k with|true=>exact Zsl (c:=cx I.P) A (pB e hx m) (pB e z n)|false=>exact Zsk (c:=cx I.P) A (pB e hx m) (pB e z n)
   |_=>
    simp only[fg,YL]at U;obtain⟨x4,hE,hG⟩:=U;obtain⟨Rp,hR,x1⟩:=qX hE;obtain⟨B,u,e3⟩:=zB hR;refine⟨_,O,Loc.val,Sn λK M P R a w e=>⟨bl.slot (bif k then !@decide (i=f) (x0 i f)else@decide (i=f) (x0 i f)),?_,λq v _ h=>Hn q v h⟩⟩;have V:∀{W:Operand}{X},Z9 J W=.v ⟨_,X⟩->W∈(Op.binOp (Ng k) g y Q b).operands.toList->Xe (RW a (Op.binOp (Ng k) g y Q b).operands.toList) W (Rp.slot X):=by intro W X ho hm;refine AB (Ar hm) λN v h=>?_;obtain⟨cs,x6,hv⟩:=e.v ho hm;rw[h,hv,<-Zrk cs,<-u];exact Z1.ZeY (e3 K N [] cs X x6)
    letI:=x0;cases k with|true=>exact Zsi x1 YI (by rw[u];exact x4) hG (V hx m) (V z n)|false=>exact Zr1 x1 YI (by rw[u];exact x4) hG (V hx m) (V z n)
  ·cases x
def Zox(h:wc I d C F g k (Z9 J y) (Z9 J Q)=some G):Vg I ⟨D,.binOp (Ng k) g y Q b,r,E,o,j⟩ J d C F G:=by
 unfold wc at h;have u:y∈(Op.binOp (Ng k) g y Q b).operands.toList:=Yr;have w:Q∈(Op.binOp (Ng k) g y Q b).operands.toList:=Yr;split at h
 ·rename_i xh u1 O p q;obtain⟨m,i⟩:=Yq h;clear h;split at i;·rename_i x2 y0 R;refine⟨_,i,ur R,Wq λz x A B t H a=>?_⟩;obtain⟨X,_,Z,x5⟩:=a.rd _ (TE rfl);have e:=a.op y u;have c:=a.op Q w;rw[p]at e;rw[q]at c;obtain⟨W,T',U,h3,_,x4,n,_⟩:=Ho e Z;refine⟨_,JZ m n (Ko c),?_⟩;cases k<;>exact BV
  ·rename_i x2 y0 R;refine⟨_,i,ur R,Wq λz x A B t H a=>?_⟩;obtain⟨X,_,Z,x5⟩:=a.rd _ (TE rfl);have e:=a.op y u;have c:=a.op Q w;rw[p]at e;rw[q]at c;obtain⟨T,⟨_,r0,x4,rfl,_⟩,n⟩:=e;obtain⟨l,_,N⟩|⟨y',S,T',U,X,l,_,N,_⟩:=OC Z x4 rfl;·cases N;have L:t.eval y=.pointer none:=n;have f:y0=none:=l;subst f;refine⟨_,JZ m L (Ko c),?_⟩;cases k<;>exact BZ
   ·cases N;have L:t.eval y=.pointer (some ⟨S,0,none⟩):=n;have f:y0=some y':=l;subst f;refine⟨_,JZ m L (Ko c),?_⟩;cases k<;>exact BZ
  ·cases i
 ·rename_i u1 O p q;obtain⟨m,i⟩:=Yq h;clear h;refine⟨_,i,Loc.val,Wq λz x A B t H a=>?_⟩;have e:=a.op y u;have c:=a.op Q w;rw[p]at e;rw[q]at c;refine⟨_,JZ m (Ko e) (Ko c),?_⟩;cases k<;>exact BV
 ·rename_i v O p q;obtain⟨m,i⟩:=Yq h;clear h;refine⟨_,i,Loc.val,Wq λz x A B t H a=>?_⟩;have e:=a.op y u;have c:=a.op Q w;rw[p]at e;rw[q]at c;obtain⟨W,x1,U,n,_⟩:=e;refine⟨_,JZ m n (Ko c),?_⟩;cases k<;>exact BV
 ·rename_i xh y3 O p q;obtain⟨m,i⟩:=Yq h;clear h;refine⟨_,i,Loc.val,Wq λz x A B t H a=>?_⟩;have e:=a.op y u;have c:=a.op Q w;rw[p]at e;rw[q]at c;obtain⟨W,y2,n⟩:=e;refine⟨_,JZ m n (Ko c),?_⟩;cases k<;>exact BV
 ·rename_i x2 M O p q;obtain⟨m,i⟩:=Yq h;clear h;refine⟨_,i,Loc.val,Wq λz x A B t H a=>?_⟩;have e:=a.op y u;have c:=a.op Q w;rw[p]at e;rw[q]at c;obtain⟨T,⟨_,K⟩,n⟩:=e;obtain⟨l,rfl⟩|⟨y',S,x1,U,l,rfl,_⟩:=K;·have L:t.eval y=.pointer none:=n;have f:M=none:=l;subst f;refine⟨_,JZ m L (Ko c),?_⟩;cases k<;>exact BZ
  ·have L:t.eval y=.pointer (some ⟨S,x1,none⟩):=n;have f:M=some y':=l;subst f;refine⟨_,JZ m L (Ko c),?_⟩;cases k<;>exact BZ
 ·rename_i x2 V O p q;obtain⟨m,i⟩:=Yq h;clear h;refine⟨_,i,Loc.val,Wq λz x A B t H a=>?_⟩;have e:=a.op y u;have c:=a.op Q w;rw[p]at e;rw[q]at c;obtain⟨T,⟨_,K⟩,n⟩:=e;obtain⟨xx,⟨_,rfl⟩,x9⟩:=c;have x6:t.eval Q=.slice none 0 0:=x9;obtain⟨l,rfl⟩|⟨l,S,x1,y5,xv,rfl,_⟩:=K;·have f:V=[]:=l;subst f;refine⟨_,ah m n x6,?_⟩;cases k<;>exact BZ
  ·refine⟨_,ah m n x6,?_⟩;have f:V≠[]:=l;cases V with|nil=>exact absurd rfl f|cons y4 V=>cases k<;>exact BZ
 ·rename_i f0 t0 M O p q;obtain⟨m,i⟩:=Yq h;clear h;split at i
  ·rename_i f1 t1 xs R;obtain⟨hf,h8⟩:=Yq i;clear i;cases Wc hf;obtain⟨hn,P⟩|⟨x7,hi,P⟩:=Lo h8
   ·refine⟨_,P,Loc.val,Wq λz x A B t H a=>?_⟩;have e:=a.op y u;have c:=a.op Q w;rw[p]at e;rw[q]at c;obtain⟨T,⟨_,K⟩,n⟩:=e;obtain⟨l,rfl⟩|⟨i',v',l,_⟩:=K;·refine⟨_,JZ m n (Ko c),?_⟩;cases k<;>exact BV
    ·have f:M=some i':=l;rw[hn]at f;cases f
   ·have x3:M=some x7:=hi;obtain⟨y1,xb,P⟩:=Ti P;refine⟨_,P,ur R,Wq λz x A B t H a=>?_⟩;obtain⟨X,_,⟨cv,⟨_,vs,xa,x8⟩,_⟩,x5⟩:=a.rd _ (TE rfl);obtain⟨xi,hu,hv,_,⟨W,T',U,h3,_,e7,_⟩⟩:=x8.GA xb;have e:=a.op y u;have c:=a.op Q w;rw[p]at e;rw[q]at c;obtain⟨T,⟨_,K⟩,n⟩:=e;obtain⟨l,_⟩|⟨i',v',l,N,rfl,_⟩:=K;·have f:M=none:=l;rw[x3]at f;cases f
    ·have f:M=some i':=l;rw[x3]at f;cases f;rw[xa x7 xi hv]at N;cases N;cases e7;refine⟨_,JZ m n (Ko c),?_⟩;cases k<;>exact BV
  ·cases i
 ·rename_i v w0 p q;exact Zow p q h
 ·cases h
def ZaV{t}{x}(h:∀{l a},UZ t l=some a->∃cs,l=cs++a/\∀K,rel K t [] cs x):∀{n}{l a},UZ (.vec n t) l=some a->∃cs,l=cs++a/\∀K,rel K (.vec n t) [] cs (Rk n x)
 |0,l,a,b=>by have k:=X9 b;exact⟨[],Zp,λK=>⟨rfl,rfl⟩⟩|n+1,l,a,b=>by
  have c:(match(UZ (.vec n t) l)with|some l=>UZ t l|none=>none)=some _:=b;split at c;·rename_i p i;have⟨f,m,j⟩:=ZaV h i;have⟨g,o,e⟩:=h c;refine⟨f++g,Zp,λK=>?_⟩;have d:Row _ _ _ _ _:=j K;show Row _ _ _ _ _;rw[Vector.toList_replicate]at d⊢;rw[ZaY];exact Row.append d (Row.single (WU (e K)) (e K))
  ·grind
def Im:∀{t}{x},Oi t=some x->∀{l c},UZ t l=some c->∃cs,l=cs++c/\∀K,rel K t [] cs x:=by intro t;induction t with
 |int=>
  intro x b l c a;cases b;unfold UZ at a;split at a<;>first|(cases a;done)|skip
  all_goals first|contradiction|skip
  cases a;exact⟨[_],rfl,λK=>⟨rfl,rfl⟩⟩|un E i=>
  intro x b l c a;cases b;unfold UZ at a;split at a<;>first|contradiction|skip
  rename_i o e;injection e with p q;subst p q;obtain⟨g,s⟩:=Yq a;clear a;have g:=yH g;subst g;cases s;exact⟨[_],rfl,λK=>⟨rfl,Zc⟩⟩|bool=>
  intro x b l c a;cases b;unfold UZ at a;split at a<;>first|contradiction|skip
  cases a;exact⟨[_],rfl,λK=>⟨rfl,rfl⟩⟩|sl t=>
  intro x b l c a;cases b;unfold UZ at a;split at a<;>first|contradiction|skip
  cases a;exact⟨[_],rfl,λK=>⟨rfl,none,0,rfl,YA _,.inl rfl⟩⟩|ptr t=>
  intro x b l c a;cases b;unfold UZ at a;split at a<;>first|contradiction|skip
  cases a;exact⟨[_],rfl,λK=>⟨rfl,.inl ⟨rfl,rfl⟩⟩⟩|YT D t=>
  intro x b l c a;have w:x=none:=by unfold Oi at b;split at b<;>cases b;rfl
  subst w;unfold UZ at a;split at a<;>first|contradiction|skip
  cases a;exact⟨[_],rfl,λK=>⟨rfl,.inl ⟨rfl,rfl⟩⟩⟩|only t h=>intro x b l c a;exact h (x:=x) b a|pair j k y z=>
  intro x b l c a;have d:(match Oi j,Oi k with|some v,some i=>some (v,i)|_,_=>none)=some x:=b;have f:(match UZ j l with|some l=>UZ k l|none=>none)=some c:=a;split at d
  ·rename_i v i hv u;cases d;split at f;·rename_i F r;obtain⟨m,o,B⟩:=y hv r;obtain⟨n,e,C⟩:=z u f;exact⟨m++n,by rw[o,e,Yc],λK=>⟨[],[],m,n,rfl,rfl,B K,C K⟩⟩
   ·cases f
  ·cases d|vec A t h=>
  intro x b l c a;have d:(match Oi t with|some v=>some (Rk A v)|none=>none)=some x:=b;split at d;·rename_i v hv;cases d;exact ZaV (h hv) a
  ·cases d|_=>intro x b;first|(cases b;done)|(intro l c a;cases a;done)|(intro l c a;unfold UZ at a;split at a<;>contradiction)
def ZAM:∀{t}{z},HX t=some z->∀{l b},UZ z.t l=some b->∃cs,l=cs++b/\∀K,rel K z.t [] cs z.x:=by
 have g:∀{e:Unit}{l b:L Value},UZ .Tz l=some b->∃cs,l=cs++b/\∀K,rel K .Tz [] cs e:=by
  intro e l b c;unfold UZ at c;split at c<;>first|contradiction|skip
  cases c;exact⟨[_],rfl,λK=>⟨rfl,rfl⟩⟩
 have p:∀{e:Unit}{l b:L Value},UZ .Ub l=some b->∃cs,l=cs++b/\∀K,rel K .Ub [] cs e:=by
  intro e l b c;unfold UZ at c;split at c<;>first|contradiction|skip
  cases c;exact⟨[_],rfl,λK=>⟨rfl,rfl⟩⟩
 have C:∀{e:Unit}{l b:L Value},UZ .Hg l=some b->∃cs,l=cs++b/\∀K,rel K .Hg [] cs e:=by
  intro e l b c;unfold UZ at c;split at c<;>first|contradiction|skip
  cases c;exact⟨[_],rfl,λK=>⟨rfl,rfl⟩⟩
 intro t;induction t with
 |int=>intro z a;cases a;exact Im (t:=.int) rfl|un B f=>intro z a;cases a;exact Im (t:=.un B f) rfl|bool=>intro z a;cases a;exact Im (t:=.bool) rfl|str=>intro z a;cases a;exact Im (t:=.str) rfl|ptr t=>intro z a;cases a;exact Im (t:=.ptr t) rfl|sl t=>intro z a;cases a;exact g|full t=>intro z a;cases a;exact g|YU t=>intro z a;cases a;exact g|opt t=>intro z a;cases a;exact p|own t=>intro z a;cases a;exact p|map i j=>intro z a;cases a;exact C|YT s t=>
  intro z a;unfold HX at a;split at a;·cases a;exact g
  ·rename_i G w;cases a;refine Im (t:=.YT s t) ?_;unfold Oi;split;·exact absurd rfl (w _)
   ·rfl|only t n=>
  intro z a l b c;have d:(match HX t with|some v=>some (⟨.only v.t,v.x⟩:TV)|none=>none)=some z:=a;split at d;·rename_i v hv;cases d;exact n hv c
  ·cases d|pair i j y A=>
  intro z a l b c;have d:(match HX i,HX j with|some v,some f=>some (⟨.pair v.t f.t,(v.x,f.x)⟩:TV)|_,_=>none)=some z:=a;split at d
  ·rename_i v f hv x;cases d;have h:(match UZ v.t l with|some l=>UZ f.t l|none=>none)=some b:=c;split at h;·rename_i F u;obtain⟨k,q,D⟩:=y hv u;obtain⟨m,r,E⟩:=A x h;exact⟨k++m,by rw[q,r,Yc],λK=>⟨[],[],k,m,rfl,rfl,D K,E K⟩⟩
   ·cases h
  ·cases d|vec o t n=>
  intro z a;have d:(match Oi t with|some v=>some (⟨.vec o t,Rk o v⟩:TV)|none=>none)=some z:=a;split at d;·rename_i v hv;cases d;exactλl b c=>ZaV (Im hv) c
  ·cases d|_=>intro z a;cases a
def Zku(h:kQ I r=some l):∃cs,Go.Sl.MG I.P r=some cs/\∀K,rel K l.t [] cs l.x:=by
 unfold kQ at h;split at h
 ·split at h
  ·rename_i f b;split at h
   ·split at h;·rename_i a;have⟨c,d,e⟩:=ZAM b a;grind
    ·cases h
   ·grind
  ·grind
 ·grind
def GD.newObj{m}(a:GD m c H)(o):GD m ((H.heap.size,0,o)::c) (H.alloc o)where
 mem:=λe f v b=>(Zbu H _ _ (a.lt b)).trans (a.mem e _ v b);nodup:=by simp only[HP.bs,Wb,Ss];exact⟨λb=>Zbp _ (a.P6 b),a.nodup⟩
 Xb:=λd hx=>by
  obtain rfl|hx:=XL hx;·exact Go.Sl.heap_alloc_new
  ·rw[Go.Sl.heap_alloc_old (a.P6 (VV hx))];exact a.Xb d hx
 free:=λd hx o=>by
  obtain rfl|hx:=XL hx;·intro _;cases b:m _ o with|none=>rfl|some v=>exact absurd (a.lt b) Zc
  ·exact a.free d hx o
def vN{o}{q l:Bx}{x}(h:∀K H f hx a w,TP I J C ⟨.v ⟨.hole C,()⟩,d,q,(C,⟨M,x⟩)::l,C+1⟩ o.op.operands.toList K H f hx a w->∃v w' b h1 h2,(execOp a.eval o).run I.P w=.ok (.value v) w'/\rel b M h1 [v] x/\K.le b/\b.nm=K.nm/\GD b.m (h1++h2++hx) w'/\ZW w w' K.m b.m (f++hx).bs (h1++h2++hx).bs/\ZS b l h2/\Yx b l/\Vf K b q):EL I o J C ⟨.v ⟨.hole C,()⟩,d,q,(C,⟨M,x⟩)::l,C+1⟩:=by intro K H f hx a w e;have⟨v,w',b,h1,h2,s,i,r,g,n,k,t,j,m⟩:=h K H _ _ a w e;rw[s];have c:=KK.Fx (by rw[g];exact e.fr C Zc Zc) v;refine⟨b.name C v,h1++h2,n,k,⟨r.trans c.le,λy p=>(c.nm y p).trans (by rw[g])⟩,wD KK.Oa (Qn i v Zc),⟨h1,h2,Zc,⟨[v],Xw c.le i,λz u=>by rw[YV u];exact KK.Oa⟩,t.mono c.le⟩,Yx.cons (pc (n:=C) Zc e.lt) j,m⟩
def nj{o}{x}(h:∀K H e hx a w,TP I J C ⟨.v ⟨.hole C,()⟩,d,[],[(C,⟨M,x⟩)],C+1⟩ o.op.operands.toList K H e hx a w->∃v b,(execOp a.eval o).run I.P w=.ok (.value v) (w.alloc b)/\rel K M [(w.heap.size,0,b)] [v] x):EL I o J C ⟨.v ⟨.hole C,()⟩,d,[],[(C,⟨M,x⟩)],C+1⟩:=vN λK H e hx a w c=>by have⟨v,b,i,g⟩:=h K H _ _ a w c;have k:=c.gd.right.newObj b;refine⟨v,_,K,_,[],i,g,KK.le.refl _,rfl,Zp,((ZW.refl w _ _).sub λj f=>by rw[HP.Wo];exact Ym (.inr f)).trans ?_,trivial,λ_ _ _ h=>(by cases h),λ_ _=>rfl⟩;simpa[HP.bs]using ZW.alloc w _ _ _
def Zmk(h:iB I C F b=some G):Vg I ⟨D,.alloc b,r,E,o,j⟩ J d C F G:=by
 unfold iB at h;split at h;·rename_i u k;have⟨c,f,g⟩:=Zku k;refine⟨_,h,⟨Zc,Zc,Zc,Zc⟩,nj λa m q t n l p=>?_⟩;have⟨v,i,e⟩:=ZaU f l;exact⟨.pointer _,.cells _ b,by simp[execOp,Instr.alloc,i,newVar,newRow,e],⟨_,b,c,[],rfl,rfl,g a⟩⟩
 ·grind
def ZmT(h:iO C F (Z9 J y)=some G):Vg I ⟨D,.box b y,r,E,o,j⟩ J d C F G:=by
 unfold iO at h;split at h;·rename_i v hv;have⟨g,h⟩:=Yq h;refine⟨_,h,⟨Zc,Zc,Zc,Zc⟩,nj λk i m n l p e=>?_⟩;have⟨a,f,c⟩:=uZ hv g (e.op y Yr);exact⟨.pointer _,.cells _ b,by simp[execOp,Instr.box,newVar,newRow,c],⟨_,b,a,[],rfl,rfl,f⟩⟩
 ·grind
def Zqt(h:Mo I J d C F (.makeMap b none)=some G):Vg I ⟨D,.makeMap b none,r,E,o,j⟩ J d C F G:=by
 simp[Mo]at h;split at h;·refine⟨_,h,⟨Zc,Zc,Zc,Zc⟩,nj λc a g i e k f=>⟨.map _,.map _ 0,?_,⟨_,#[],0,rfl,rfl,rfl⟩⟩⟩;simp[execOp,Instr.makeMap]
 ·grind
def Zik{K}{t}{z}{b}(a:rel K t [] b z):∀{n},Row t.n (rel K t) [] (List.replicate n b).flatten (List.replicate n z)|0=>⟨rfl,rfl⟩|n+1=>⟨b,_,[],[],Zp,rfl,WU a,a,Zik a⟩
def run_make{P}{w}{ST:TypeId}{a}(I:0<=x)(h1:x<=a)(h2:a<=4294967296)(n:Go.Sl.J0 P ST r C=true)(k:Go.Sl.MG P r=some A)(M:A.length=C):∃cells:L Value,(Instr.makeSlice ST (.int .i64 x) (.int .i64 a)).run P w=.ok (.slice (some ⟨w.heap.size,0,none⟩) x.toNat a.toNat) (w.alloc (.cells cells.toArray r))/\cells.length=a.toNat*C/\∀j,j<=a.toNat->cells.take (j*C)=(List.replicate j A).flatten:=by
 obtain⟨D,g,e,h,z,J,K,l,E⟩:=uV n;have f:∀w:World,(typeInfo r).run P w=.ok g w:=λw=>by simp[typeInfo,h]
 have y:∀w:World,(sizeOf r).run P w=.ok C w:=λw=>by simp[sizeOf,f,z]
 have G:∀w:World,(zeroValue r).run P w=.ok e w:=λw=>by simp[zeroValue,f,l]
 have F:e.cells.toList=A:=by unfold Go.Sl.MG at k;simpa[h,l]using k
 have o:¬(g.bytes:Int)*a>2^48:=by have m:(2:Int)^48=281474976710656:=YI;have:(g.bytes:Int)*a<=4096*4294967296:=Int.mul_le_mul Y h2 Y YI;rw[m];omega
 have u:¬a<0:=Y;have v:¬x<0:=Y;have q:¬x>a:=Y;let c:=if a.toNat*C=0then#[]else e.cells;let cells:=((Array.range (a.toNat*C)).map (c[·%c.size]!)).toList;refine⟨cells,?_,by simp[cells],?_⟩
 ·simp only[Instr.makeSlice,YF,W8 D,Y3,asInt,asIntOf,Xz,f,IntWalk.i64_in x Y,IntWalk.i64_in a Y,u,v,o,q,sQ,yo,RK,UH,run_askRoom,y];by_cases b:a.toNat*C=0;·simp only[b,Qe,Xz,Y3,newRow,YF,sU];simp only[cells,c,b,Qe,Za4];rfl
  ·simp only[b,UH,YF,G,Y3,Xz,newRow,sU];simp only[cells,c,b,UH,Za4];rfl
 ·intro j s;induction j with|zero=>simp|succ j H=>
   rw[ZaY,SE,O7,yC,H Y,C0];congr 1;simp only[Iq,Zbg,XX];apply se;intro d;rw[NQ];split
   ·rename_i i;rw[Py];have p:j*C+d<a.toNat*C:=by have:(j+1)*C<=a.toNat*C:=Q0 _ s;rw[SE,O7]at this;omega
    have b:a.toNat*C≠0:=Y;simp only[cells,c,b,UH];rw[kV,Array.getElem?_map,Array.getElem?_range,Y4 p];simp only[Gc,E];have t:(j*C+d)%C=d:=by rw[Nat.mul_add_mod_self_right];exact HZ i
    rw[t,<-F];have B:d<e.cells.size:=Y;simp[B]
   ·rename_i i;rw[Zbh Y]
def ZpG{c}{o}(h:P0 x c o=some G):0<=x/\x<=c/\c<=4294967296/\o=some G:=by have⟨a,h⟩:=P3 h;exact⟨a.1,a.2.1,a.2.2,h⟩
def Zqu{ST:TypeId}(h:eV I C F ST (Z9 J y) (Z9 J Q)=some G):Vg I ⟨D,.makeSlice ST y Q,r,E,o,j⟩ J d C F G:=by
 unfold eV at h;split at h
 ·rename_i l T;split at h
  ·rename_i W p K U;obtain⟨f,b⟩:=Yq h;clear h;rw[YL]at f;obtain⟨v,a⟩:=f;split at a
   ·rename_i X L;split at a
    ·rename_i M;obtain⟨P,e,x⟩:=Im K M;rw[XX]at e;subst e;split at b;·rename_i k n B H;obtain⟨q,t,u,h⟩:=ZpG b;refine⟨_,h,⟨LW _,Zc,Zc,Zc⟩,nj λm N S V O w g=>?_⟩;have i:=x m;obtain⟨c,z,R,A⟩:=run_make (w:=w) q t u v L (WU i);refine⟨_,_,by simp only[execOp,g.int B Yr,g.int H Yr,YF,z];rfl,.inr ⟨w.heap.size,p,n.toNat,c.take (k.toNat*l.n),c.drop (k.toNat*l.n),[],Zc,by rw[TM];rfl,by rw[A _ Y];exact Zik i,Zp,Zp⟩⟩
     ·cases b
    ·cases a
   ·cases a
  ·cases h
 ·cases h
def Zay{e:En}{K}{H}{a:Act}:∀{xs:L Operand}{v},tA (xs.map (Z9 e))=some v->(∀x∈xs,Y0 K H (Z9 e x) (a.eval x))->∃cs,UC v.t cs (xs.map a.eval)/\rel K v.t [] cs v.x
 |[],v,h,_=>by cases h;exact⟨[],⟨rfl,rfl⟩,rfl,rfl⟩|x::xs,v,h,hx=>by
  have d:(match QP _,tA _ with|some v,some m=>some _|_,_=>none)=some v:=h;split at d;·rename_i p m i j;cases d;have⟨b,f,g⟩:=F5 i (hx x Zc);have⟨c,l,k⟩:=Zay j λn o=>hx n Zp;exact⟨b++c,⟨b,c,a.eval x,_,rfl,rfl,WU f,g,l⟩,[],[],b,c,rfl,rfl,f,k⟩
  ·grind
def Zqs{f}{first cs}(h:Mo I J d C F (.makeFunc (.func f) first cs)=some G):Vg I ⟨D,.makeFunc (.func f) first cs,r,E,o,j⟩ J d C F G:=by
 simp[Mo]at h;split at h;·rename_i w v e hv;refine⟨_,h,Loc.val,Wq λm l q t n y b=>?_⟩;have⟨p,x,u⟩:=Zay e λa g=>b.op a (by simp[Op.operands];grind);have⟨c,k,i⟩:=Zay hv λa g=>b.op a (by simp[Op.operands];grind);refine⟨.func _ _ _,rfl,[_],⟨rfl,first.toList.map _,cs.toList.map _,c,by rw[<-tV,<-tV],Zp,k,i⟩,rfl⟩
 ·grind
def ZAk(h:M8 d (.un .u8 8) (Z9 J y) (λl G=>F ⟨.v ⟨.str,l⟩,G,[],[],C⟩)=some G)(k:I.P.underlying g=some .string)(q:HN I.P b=true):Vg I ⟨D,.convert b g y,r,E,o,j⟩ J d C F G:=by have⟨l,rd,h,n,i⟩:=Dq h;refine⟨_,h,⟨Zc,Zc,n,Zc⟩,Wq λf e w x u t a=>?_⟩;have⟨c,p,m⟩:=ZxI q k (i f e _ t _ a.gd a.rd (a.op y Yr));exact⟨.string c,by simp only[execOp,YF,p,Y3];rfl,[_],⟨rfl,c,rfl,m⟩,rfl⟩
def ZeO{a}(h:B≠a.block):(H.freeze a C).heap[B]?=H.heap[B]?:=by unfold World.freeze;grind
def Zm8{w:World}{a}(p):(w.freeze a C).cell? p=w.cell? p:=by
 unfold World.freeze;split;·rfl
 ·by_cases b:p.block=a.block;·simp[World.cell?,kU,b,Qe];cases c:w.heap[a.block]?<;>grind
  ·simp[World.cell?,kU,Ys (Gb b)]
def Zny(h:qs d C F (Z9 J y)=some G)(hs:b=g)(hu:HN I.P b=true):Vg I ⟨D,.convert b g y,r,E,o,j⟩ J d C F G:=by
 subst hs;obtain⟨el,x7,x8⟩:=Zj8 hu;unfold qs at h;split at h
 ·rename_i xa u0 hx;split at h
  ·rename_i B x0;have O:B≠[]/\F ⟨.v ⟨.sl (.un .u8 8),B⟩,[],[(xa,⟨.full (.un .u8 8),B⟩)],[],C⟩=some G:=by
    unfold AK at h;split at h;·cases h
    ·exact⟨Zc,h⟩
   obtain⟨O,h⟩:=O;refine⟨_,h,⟨YA _,λxi x=>by rw[YV x];exact x0,Zc,Zc⟩,λk xb hr q Q w x=>?_⟩;obtain⟨h1,N,x4,hb,_⟩:=x.sr;have X:=x.op y Yr;rw[hx]at X;obtain⟨xh,⟨_,v,x3,rfl,_⟩,M⟩:=X;obtain⟨u,_⟩|⟨a,H,L,e,i,h',ec,rfl,Z,x1,hz⟩:=OC hb x3 rfl;·exact absurd u O
   ·cases ec;have M:Q.eval y=.slice (some ⟨a,0,none⟩) B.length L:=M;have e0:h'=[]:=Row.Kn (λ_ _ _ h=>SZ (t:=.un .u8 8) rfl h) Z;subst e0;have S:(hr++q).Perm ((a,0,cellsOf (e++i) H)::(N++q)):=by refine(x4.append_right q).trans ?_;simp
    have p:=x.gd.perm S;have x6:w.shape? a=some (H,(e++i).length):=by simp[World.shape?,p.Xb (a,0,cellsOf (e++i) H) Zc,cellsOf]
    let w':=w.freeze ⟨a,(e++i).length,none⟩ 1;have x5:(execOp Q.eval ⟨D,.convert b b y,r,E,o,j⟩).run I.P w=.ok (.value (.slice (some ⟨a,0,none⟩) B.length L)) w':=by simp only[execOp,M,convert,YF,W8 x7,W8 x8,Y3,Zbw,markStringish,run_shape,x6,run_freeze,Xz];rfl
    rw[x5];have x2:a∉HP.bs (N++q):=by have:=p.nodup;simp only[HP.bs,Wb,Ss]at this;exact this.1
    have U:Wy k.m (k.m.put a (e++i)):=YO.pW p.pl;have R:k.le {k with m:=k.m.put a (e++i)}:=⟨λ_ _ h=>h,λ_ _ _ h=>h,U⟩;have V:∀c∈q,c.1≠a:=λc z u=>x2 (by rw[HP.Wo];exact Ym (.inr (u▸VV (f:=(·.1)) z)));refine⟨{k with m:=k.m.put a (e++i)},[],?_,?_,⟨R,λ_ _=>rfl⟩,?_,trivial,λ_ _ _ h=>(by cases h),λ_ _=>rfl⟩
    ·refine⟨λn l v K=>?_,?_,λc z=>?_,λc z l ho=>?_⟩
     ·refine(Zm8 (w:=w) ⟨n,l,none⟩).trans ?_;have P:(if n=a then(e++i)[l]?else k.m n l)=some v:=K;split at P;·rename_i u;subst u;exact p.cell XQ P
      ·exact p.mem n l v P
     ·have:=p.nodup;simp only[HP.bs,Wb,Ss,WW,T5]at this;simpa[HP.bs]using this.2.2.1
     ·have A:c∈q:=by simpa using z
      rw[show w'.heap[c.1]?=w.heap[c.1]?from ZeO (V c A)];exact p.Xb c (by simp[A])
     ·have A:c∈q:=by simpa using z
      show(if c.1=a then(e++i)[l]?else k.m c.1 l)=none;rw[Ys (V c A)];exact p.free c (by simp[A]) l ho
    ·refine⟨by show(w.freeze _ _).os=_;unfold World.freeze;split<;>rfl,by show(w.freeze _ _).tape=_;unfold World.freeze;split<;>rfl,by show(w.freeze _ _).output=_;unfold World.freeze;split<;>rfl,by show _<=(w.freeze _ _).heap.size;unfold World.freeze;split<;>simp,λn T hn=>?_,λn T=>.inl<|by rw[HP.Wo];exact Ym (.inr (by simpa using T)),U⟩
     ·have W:n≠a:=λu=>hn (by
       have:a∈HP.bs ((a,0,cellsOf (e++i) H)::(N++q)):=by simp[HP.bs]
       rw[u];exact((S.map (·.1)).mem_iff).2 this);refine⟨ZeO W,λl=>?_⟩;show(if n=a then(e++i)[l]?else k.m n l)=_;rw[Ys W]
    ·refine⟨[_],⟨rfl,_,L,rfl,x1,.inr ⟨a,0,e,rfl,Row.imp (λ_ _ _ h=>Xw (t:=.un .u8 8) R h) Z,λx9 v K=>?_⟩⟩,rfl⟩;have:=YO.Zc4 k.m a (e++i) x9 v (by rw[VE (X8 K).1];exact K);exact this
  ·cases h
 ·cases h
def wV(m:YO)(hL:HP)(w:World):YO:=λa b=>if a∈hL.bs then w.cell? ⟨a,b,none⟩else m a b
def KK.Nu(K:KK)(hL:HP)(w:World):KK:={K with m:=wV K.m hL w}
def qc(m c:YO)(hL:HP):YO:=λa b=>if a∈hL.bs then m a b else c a b
def eB{K:KK}{hL:HP}(e:GD K.m c H):K.le (K.Nu hL H):=by
 refine⟨λ_ _ a=>a,λ_ _ _ a=>a,λb d v a=>?_⟩;show(if b∈hL.bs then H.cell? _ else K.m b d)=some v;split;·exact e.mem b d v a
 ·grind
def Zfg{K:KK}(b:GD K.m (c++e) H):QA (K.Nu c H) c:=by intro a d f v hv;show(if a.1∈c.bs then H.cell? _ else K.m _ f)=some v;rw[Y4 (show a.1∈c.bs from Ol ⟨a,d,rfl⟩),Aa (b.Xb _ Zp)];exact hv
def Zff{K:KK}(f:GD K.m (c++e) H):∀b∈e.bs,b∉c.bs:=λb a d=>by have:=f.nodup;rw[HP.Wo,T5]at this;exact this.2.2 b d b a rfl
def eA{K:KK}(a:GD K.m (c++e) H):GD (K.Nu c H).m e H where
 mem:=λd b v i=>by
  have g:(if d∈c.bs then H.cell? _ else K.m d b)=some v:=i;split at g;·grind
  ·exact a.mem d b v g
 nodup:=a.right.nodup;Xb:=a.right.Xb;free:=λf h b j=>by show(if f.1∈c.bs then H.cell? _ else K.m _ b)=none;rw[Ys (Zff a _ (Ol ⟨f,h,rfl⟩))];exact a.right.free f h b j
def Zc6{K:KK}{n:HP}{w':World}{j}(k:GD K.m (c++e) H)(p:GD j n w')(i:ZW H w' (K.Nu c H).m j e.bs n.bs):GD (qc K.m j c) (c++n) w'/\ZW H w' K.m (qc K.m j c) (c++e).bs (c++n).bs:=by
 have x:∀b∈c.bs,b<H.heap.size:=λb f=>k.P6 (by rw[HP.Wo];exact Ym (.inl f));have u:∀b∈c.bs,b∉e.bs:=λb f o=>Zff k b o f;have z:∀b∈c.bs,w'.heap[b]?=H.heap[b]?:=λb f=>(i.Vu b (x b f) (u b f)).1;have w:∀b∈n.bs,b∉c.bs:=λb f o=>by
  obtain h|h:=i.own b f;·exact u b o h
  ·have:=x b o;omega
 refine⟨⟨λb d v h=>?_,?_,λg hx=>?_,λg hx d y=>?_⟩,i.os,i.tape,i.output,i.size,λb f r=>?_,λb f=>?_,λb d v h=>?_⟩
 ·have q:(if b∈c.bs then K.m b d else j b d)=some v:=h;split at q;·rename_i f;exact(Be (w:=H) (a:=⟨b,d,none⟩) (z b f)).trans (k.mem b d v q)
  ·exact p.mem b d v q
 ·rw[HP.Wo,T5];refine⟨k.left.nodup,p.nodup,λb f B A l=>?_⟩;subst l;exact w b A f
 ·obtain hx|hx:=ZY hx;·rw[z _ (Ol ⟨g,hx,rfl⟩)];exact k.Xb g (Ym (.inl hx))
  ·exact p.Xb g hx
 ·obtain hx|hx:=ZY hx;·show(if g.1∈c.bs then K.m g.1 d else j g.1 d)=none;rw[Y4 (show g.1∈c.bs from Ol ⟨g,hx,rfl⟩)];exact k.free g (Ym (.inl hx)) d y
  ·show(if g.1∈c.bs then K.m g.1 d else j g.1 d)=none;rw[Ys (w _ (Ol ⟨g,hx,rfl⟩))];exact p.free g hx d y
 ·rw[HP.Wo,Sr]at r;have s:b∉c.bs:=λl=>r (.inl l);have t:=i.Vu b f λl=>r (.inr l);refine⟨t.1,λd=>?_⟩;show(if b∈c.bs then K.m b d else j b d)=_;rw[Ys s,t.2 d];show(if b∈c.bs then H.cell? ⟨b,d,none⟩else K.m b d)=_;rw[Ys s]
 ·rw[HP.Wo,Sr]at f⊢;obtain h|h:=f;·exact .inl (.inl h)
  ·exact(i.own b h).imp .inr id
 ·show(if b∈c.bs then K.m b d else j b d)=some v;split;·exact h
  ·exact i.le b d v ((eB (hL:=c) k).m b d v h)
def aK(h hs:HP):∃hL rest,hs.Perm (hL++rest)/\(∀x∈hL,x∈h/\x∈hs)/\∀x∈hs,x∈h->x∈hL:=by classical refine⟨hs.filter _,hs.filter λx=>!decide (x∈h),(List.filter_append_perm _ _).symm,λx a=>Zp,λx a b=>Zp⟩
def dM:∀{p}{l},DV p=some l->Hk l=Yd p
 |[],l,h=>by cases h;rfl|.a::p,l,h=>by
  unfold DV at h;split at h;·rename_i d c;cases h;show Hk d=Yd p;exact dM c
  ·grind|.b k::p,l,h=>by
  unfold DV at h;split at h;·rename_i d c;cases h;show k+Hk _=k+Yd p;rw[dM c]
  ·grind|.ix _ _ _::p,l,h=>by cases h|.o::p,l,h=>by cases h|.m _::p,l,h=>by cases h
def Zrm{l}(h:DV p=some l):(∀i sz m q,p≠.ix i sz m::q)/\∀i q,p≠.m i::q:=by
 constructor;·rintro i sz m q rfl;cases h
 ·rintro i q rfl;cases h
def Zrj{ds}(h1:A.length=C)(h2:ds.length=C)(h:k=false->C=1)(e:XZ k A=XZ k ds):A=ds:=by cases k with|true=>simpa[XZ]using e|false=>have a:=h rfl;subst a;match A,ds,h1,h2 with|[u],[v],_,_=>simpa[XZ]using e
def Zxz{K K2}{v}{l:L M.den}(k:M.plain=true)(m:rel K (.full M) c [v] l)(h:K.le K2)(hs:∀x∈c,x∈e)(i:QA K2 e):rel K2 (.sl M) [] [v] l:=by
 obtain⟨rfl,_,d,a⟩|⟨f,q,g,o,u,r,a,rfl,b,j,t⟩:=m;·cases a;exact⟨rfl,d,0,rfl,Zc,.inl rfl⟩
 ·cases a;have a:=Row.Kn (λ_ _ _ e=>SZ k e) b;subst a;refine⟨rfl,_,g,rfl,j,.inr ⟨f,0,o,rfl,Row.imp (λ_ _ _ e=>Xw h e) b,λn p s=>i.at (hs _ XQ) n p Zp⟩⟩
def Zfe{k}(h:pY d S k=some G):∃a P,k a P=some G/\∀(K)(H)(v)(hs)(w),GD K.m hs w->Y0 K H S v->(∀j∈P,∃u h,ZJ d j=some u/\H j=some h/\WC K j u h/\∀x∈h,x∈hs)->∃cs,v=XZ a.t.ag cs/\cs.length=a.t.n/\∀K2,K.le K2->(∀j∈P,∃h,H j=some h/\QA K2 h)->rel K2 a.t [] cs a.x:=by
 have y0:∀{S:SV}{a:TV},QP S=some a->∀(K:KK)(H:HM)(v:Value)(hs:HP)(w:World),GD K.m hs w->Y0 K H S v->(∀j∈([]:L Nat),∃u h,ZJ d j=some u/\H j=some h/\WC K j u h/\∀x∈h,x∈hs)->∃cs,v=XZ a.t.ag cs/\cs.length=a.t.n/\∀K2:KK,K.le K2->(∀j∈([]:L Nat),∃h,H j=some h/\QA K2 h)->rel K2 a.t [] cs a.x:=by intro S a hs K H v y7 w _ N _;obtain⟨cs,z,p⟩:=F5 hs N;exact⟨cs,p,WU z,λK2 h _=>Xw h z⟩
 unfold pY at h;split at h
 ·rename_i j i sz m y f;split at h
  ·rename_i v X;obtain⟨Z,x3⟩:=BR X;obtain⟨w0,ha,c⟩:=px h;clear h;split at c
   ·rename_i m' t x;obtain⟨e,U⟩:=Yq c;rw[YL]at e;obtain⟨rfl,rfl⟩:=BQ e.1;refine⟨_,_,U,?_⟩;rintro K H u hs w q⟨Q,R,xh,rfl,x7,h0,y6,y3⟩E;obtain⟨v',T,C,V,W,x2⟩:=E j Zc;rw[Z]at C;cases C;obtain⟨r0,b0,k0,y1,cs,hu,x9,xa,x8,y8,y5,O⟩:=qg x3 W ha;obtain⟨r1,x5,xb⟩:=xh.zA;rw[x9]at x5;cases x5;have eb:=xa.uniq xb;subst eb;have e0:hu=[]:=SZ (t:=.vec m t) e.2 O;subst e0;have x1:=Row.drop (R:=rel K t) (Yo y) (Row.take (Yo f) (show Row t.n (rel K t) [] _ (Vector.toList x)from O));have x4:(Xo (Yo y) (YK (Yo f) (XK x))).length=(f-y).toNat:=by show(List.drop y.toNat (List.take f.toNat x.toList)).length=_;rw[VF,UF,Bd];omega
    refine⟨[_],rfl,rfl,λK2 B D=>?_⟩;obtain⟨p,A,x0⟩:=D j Zc;rw[V]at A;cases A;refine⟨rfl,_,R,by rw[x4],by rw[x4];exact x7,.inr ⟨b0,_,_,rfl,Row.imp (λ_ _ _ h=>Xw B h) x1,λr u g=>?_⟩⟩;have y4:=(X8 g).1;rw[Py,NQ,NQ,Py]at g;split at g
    ·split at g;·have:=(x0.at x8) _ u g;rw[<-this];congr 1;show Yd i+y.toNat*t.n+r=0+(Yd i+(y.toNat*t.n+r));omega
     ·cases g
    ·cases g
   ·cases c
  ·cases h
 ·rename_i P a;obtain⟨F,c⟩:=Yq h;refine⟨_,_,c,λK H v hs w q N E=>?_⟩;obtain⟨cs,z,p⟩:=N (AH K w) (pG q) λj hm=>by obtain⟨u,T,_,eh,_,x2⟩:=E j hm;exact⟨T,eh,λx hx=>pF q x (x2 x hx)⟩
  refine⟨cs,p,WU z,λK2 B D=>?_⟩;obtain⟨ds,h3,h4⟩:=N K2 B D;rw[Zrj (WU z) (WU h3) (Ib F) (p.symm.trans h4)];exact h3
 ·rename_i j;refine⟨_,_,h,?_⟩;rintro K H u hs w q⟨Q,⟨rv,l,M⟩,rfl⟩_;have b:K.nm j=some rv:=l;obtain⟨rfl,_⟩|⟨n,R,r,sz,m,x6,_,o,_⟩:=M;·exact⟨[_],rfl,rfl,λK2 h _=>⟨rfl,_,h.nm _ _ b,rfl,rfl⟩⟩
  ·cases o
 ·rename_i j i _;split at h
  ·rename_i xx J;refine⟨_,_,h,?_⟩;rintro K H u hs w q⟨Q,⟨rv,l,M⟩,rfl⟩_;obtain⟨n1,n2⟩:=Zrm J;have I:Lw K j i=K.nm j/\Ck i=i:=by cases i with|nil=>exact⟨rfl,rfl⟩|cons S x6=>cases S<;>first|exact⟨rfl,rfl⟩|exact absurd rfl (n2 _ _)
   rw[I.1]at l;rw[I.2]at M;obtain⟨rfl,_⟩|⟨n,R,r,sz,m,x6,_,o,_⟩:=M;·exact⟨[_],rfl,rfl,λK2 h _=>⟨rfl,Q,h.nm _ _ l,by rw[dM J]⟩⟩
   ·exact absurd o (n1 _ _ _ _)
  ·cases h
 ·rename_i y2 t0 x;obtain⟨_,h⟩|⟨r,f,h⟩:=Lo h;·cases h
  ·split at h
   ·rename_i f' t xs X;obtain⟨Z,x3⟩:=BR X;obtain⟨e,c⟩:=Yq h;rw[YL]at e;cases Wc e.1;obtain⟨xx,J,U⟩:=Ti c;refine⟨_,_,U,?_⟩;rintro K H v hs w q⟨cs,⟨_,hx⟩,rfl⟩E;obtain⟨u',T,C,V,W,x2⟩:=E _ (TE rfl);rw[Z]at C;cases C;obtain⟨cv,⟨_,vs,xv,x1⟩,_⟩:=W;obtain⟨u,hu,F,xi,O⟩:=Row.GA x1 J;obtain⟨l,_⟩|⟨i',u',I,o,rfl,_⟩:=hx;·have b:x=none:=l;rw[f]at b;cases b
    ·have b:x=some i':=I;rw[f]at b;cases b;rw[xv r u F]at o;cases o;refine⟨[u],rfl,rfl,λK2 B D=>?_⟩;obtain⟨p,A,x0⟩:=D _ (TE rfl);rw[V]at A;cases A;exact Zxz e.2 O B xi x0
   ·cases h
 ·split at h;·rename_i S _ _ _ _ _ v F;exact⟨_,_,h,y0 F⟩
  ·cases h
def Zo0{a}{off}{v}{ds:L Value}{ps}(c:a C=some (off,ds.length))(b:v.cells=ds.toArray)(e:off+ds.length<=A.length):Instr.fill a A.toArray ((C,v)::ps)=Instr.fill a (A.take off++ds++A.drop (off+ds.length)).toArray ps:=by simp[Instr.fill,c,b];have d:=wo off _ 0 _ Y;grind
def Y5.nothing{K K'}(h:Y5 H K c K' (e++c))(i:GD K.m c H):e=[]:=by have⟨a,g⟩:=h.step i;cases e with|nil=>rfl|cons f e=>
  exfalso;have d:f.1∈HP.bs (f::e++c):=by simp[HP.bs]
  have j:=a.P6 d;obtain b|b:=g.own _ d;·have:=a.nodup;simp only[HP.bs,Oj,Wb,Ss,WW,Sr,not_or]at this;exact this.1.2 b
  ·omega
def Znp{v}{x}(j:MQ M v {g:=[]} x P)(hi:Mi P.s=true)(l:P.p=false):∀(K)(hs)(w)(cs),GD K.m hs w->rel K v.t [] cs v.x->rel K M [] cs x:=by intro K hs w cs c n;have⟨z,t,r,s,m⟩:=j;have h:=oU s.mr;have f:=oU s.mq;subst h f;have⟨b,o,k,q,p,_,_,y,a⟩:=m w K _ [] [] _ (by simpa using c.nil) n trivial trivial Zc (by intro u M A i;simp at i) Zc;have a:=a l;subst a;have d:Y5 w b [] b (o++k++[]):=Zp;have e:=(O5 (d.nothing c.nil)).1;subst e;exact Xw (JY hi) p
def ZrO{v}(h:dT I r v C=some (p,B)):Yd p=B/\Qw p:=by
 unfold dT at h;split at h;·rename_i c b _;have⟨a,rfl⟩:=Yq h;rw[TN]at a;exact⟨by show(Zi C).toNat*b.n+0=C*b.n;simp,Zp,trivial⟩
 ·split at h;·have⟨a,rfl⟩:=Yq h;exact⟨rfl,Jj (p:=[]) trivial a⟩
  ·grind
def ZrP{K}{v w}{a}(hs:RO v p l w)(f:Qw p)(hv:rel K v.t [] A v.x)(b:rel K l.t [] a l.x):Yd p+a.length<=A.length/\rel K w.t [] (A.take (Yd p)++a++A.drop (Yd p+a.length)) w.x:=by have⟨r,m⟩:=hs.at f;have⟨n,o,h,_,g,k⟩:=focus m hv;have⟨e,q,i,j⟩:=k (KK.le.refl K) hs b;have c:=(O5 h.symm.eq_nil).2;subst c;have d:=i.eq_nil;subst d;rw[WU b,e];exact⟨g,j⟩
def ay{R:Type}{Z:XF}{e:En}{r:R}{T:TypeId}{k'}:∀{ps}{v},uR Z e T v ps k'=some r->∃u,k' u=some r/\∀(K)(H)(hs)(w)(a:Act),GD K.m hs w->(∀p∈ps,Y0 K H (Z9 e p.2) (a.eval p.2))->∀cs,rel K v.t [] cs v.x->∃g,(∀c,(∀i q,Go.Sl.placeOf Z.P T i=some q->c i=some q)->Instr.fill c cs.toArray (ps.map λp=>(p.1,a.eval p.2))=some g.toArray)/\rel K u.t [] g u.x
 |[],v,h=>⟨v,h,λK H hs w a _ _ cs k=>⟨cs,λ_ _=>rfl,k⟩⟩|(i,o)::ps,v,h=>by
  unfold uR at h;split at h
  ·rename_i N p n S x5;obtain⟨s,A⟩:=Yq h;clear h;rw[YL]at s;obtain⟨Q,F⟩:=s;obtain⟨X,x0⟩:=ZrO x5;have x4:Go.Sl.placeOf Z.P T i=some (n,N.t.n):=by
    split at F;·rename_i x8 m he;obtain⟨V,W⟩:=BQ F;rw[he,V,W]
    ·cases F
   have U:∀(f y:TV)(K:KK)(cs b:L Value)(a:Act),RO v p y f->rel K v.t [] cs v.x->rel K y.t [] b y.x->b.length=N.t.n->(a.eval o).cells=b.toArray->rel K f.t [] (cs.take n++b++cs.drop (n+b.length)) f.x/\∀c:Nat->Zg (Nat×Nat),(∀i q,Go.Sl.placeOf Z.P T i=some q->c i=some q)->∀ps,Instr.fill c cs.toArray ((i,a.eval o)::ps)=Instr.fill c (cs.take n++b++cs.drop (n+b.length)).toArray ps:=by intro f y K cs b a hs hv x6 hl s;obtain⟨O,P⟩:=ZrP hs x0 hv x6;rw[X]at O P;exact⟨P,λc d ps=>Zo0 (by rw[d i _ x4,hl]) s O⟩
   split at A;·rename_i m t ht;obtain⟨x7,c',h8,x2,x1⟩:=I1 A;obtain⟨x3,h7⟩:=dF h8;obtain⟨f,M,z⟩:=lA h7;obtain⟨u,E,J⟩:=ay z;refine⟨u,E,λK H hs w a x j cs k=>?_⟩;obtain⟨b,l,B⟩:=uZ S Q (j (i,o) Zc);obtain⟨I,D⟩:=U f ⟨t,x7⟩ K cs b a M k (Znp x1 x2 x3 K hs w b x l) (WU l) B;obtain⟨g,C,G⟩:=J K H hs w a x (λp d=>j p (by simp[d])) _ I;exact⟨g,λc d=>by rw[Wb,D c d];exact C c d,G⟩
   ·obtain⟨f,M,z⟩:=lA A;obtain⟨u,E,J⟩:=ay z;refine⟨u,E,λK H hs w a x j cs k=>?_⟩;obtain⟨b,l,B⟩:=uZ S Q (j (i,o) Zc);obtain⟨I,D⟩:=U f N K cs b a M k l (WU l) B;obtain⟨g,C,G⟩:=J K H hs w a x (λp d=>j p (by simp[d])) _ I;exact⟨g,λc d=>by rw[Wb,D c d];exact C c d,G⟩
  ·cases h
def run_build{w}{h:L Value}{ps}(d:Go.Sl.iS U r=true)(s:Go.Sl.MG U r=some A)(k:∀o,(∀i q,Go.Sl.placeOf U r i=some q->o i=some q)->Instr.fill o A.toArray ps.toList=some h.toArray):(Instr.build r ps).run U w=.ok (.agg h.toArray) w:=by
 obtain⟨y,n,m⟩:=ZaU s w;unfold Go.Sl.iS at d;split at d
 ·rename_i c e;have f:=k ((c.toList.map λa=>(a.offset,((U.info? a.type).map (·.size)).getD 0)).toArray[·]?) (by intro i v b;simp only[Go.Sl.placeOf,e]at b;cases j:c[i]?with|none=>rw[j]at b;simp at b|some a=>rw[j]at b;simp only[jr]at b;cases hi:U.info? a.type<;>grind);have t:(c.mapM λa=>do pure (a.offset,<-sizeOf a.type):Sem (Array (Nat×Nat))).run U w=.ok (c.toList.map λa=>(a.offset,((U.info? a.type).map (·.size)).getD 0)).toArray w:=by have:=Zfq (P:=U) (w:=w) c.toList (CZ d);rw[Zky,Sem.run_map,this];rfl
  simp only[Instr.build,YF,n,Y3,W8 e,m,t,f,Xz]
 ·rename_i x p e;obtain⟨g,l⟩:=Bb d;have f:=k (λi=>some (i*g.size,g.size)) (by intro i v b;simpa only[Go.Sl.placeOf,e,l,Gc]using b);have u:(sizeOf p).run U w=.ok g.size w:=by simp[sizeOf,typeInfo,l]
  simp only[Instr.build,YF,n,Y3,W8 e,m,u,f,Xz]
 ·cases d
def ZmV{ps}(h:iU I J C F b ps.toList=some G):Vg I ⟨D,.build b ps,r,E,o,j⟩ J d C F G:=by
 unfold iU at h;split at h;·rename_i O y;have⟨n,m⟩:=Yq h;have⟨N,z,A⟩:=Zku y;have⟨M,l,x⟩:=ay m;have⟨p,k⟩:=Yq l;refine⟨_,k,Loc.val,Wq λc f H K g w e=>?_⟩;have⟨i,q,t⟩:=x c f _ w g e.gd (λB a=>e.op _ (by simp only[Op.operands,tV,sB];exact⟨B,a,rfl⟩)) _ (A c);have u:=run_build (w:=w) n z (by intro L a;rw[tV];exact q _ a);refine⟨.agg _,?_,i,t,by rw[p];rfl⟩;show(do let v<-Instr.build b _;pure _:Sem Next).run _ w=_;rw[YF,u];rfl
 ·grind
def Ag(t:Ty):Nat->Ty|0=>.nl|n+1=>.cons t (Ag t n)
def Zax{t:Ty}:(l:L t.den)->(Ag t l.length).den|[]=>()|x::l=>(x,Zax l)
def Zih{K}{t}:∀{l}{hs}{cs},rel K (Ag t l.length) hs cs (Zax l)->Row t.n (rel K t) hs cs l|[],hs,cs,⟨h1,h2⟩=>⟨h2,h1⟩|x::l,hs,cs,⟨h1,h2,b,c,d,e,a,f⟩=>⟨b,c,h1,h2,e,d,WU a,a,Zih f⟩
def ND(ag:Bool)(n:Nat)(h:ag=false->n=1):Z1 (L Value)where
 n:=n;ag:=ag;rel:=λ_ b a=>b=a/\a.length=n/\∀v∈a,v.oneCell'=true;mono:=λ_ h=>h;len:=λh=>by rw[h.1];exact h.2.1
 cell:=λh=>by rw[h.1];exact h.2.2
 one:=h
def Ziw{ag}{n}{h}{m}:∀{css}{cs},Xm (ND ag n h) m cs css->cs=css.flatten|[],cs,a=>by simpa[Xm]using a|c::css,cs,⟨f,g,e,b,d⟩=>by rw[e,b.1,Ziw d,Iq]
inductive L3(ag:Bool)(n:Nat)(a:Act):Nat->List (Nat×Operand)->List (List Value)->Prop|nil{k:Nat}:L3 ag n a k [] []|cons{k:Nat}{o:Operand}{cs:List Value}{ps:List (Nat×Operand)}{css:List (List Value)}:cs.length=n->(∀v∈cs,v.oneCell'=true)->a.eval o=XZ ag cs->L3 ag n a (k+1) ps css->L3 ag n a k ((k,o)::ps) (cs::css)
def L3.len{ps}{css}(h:L3 k C z B ps css):css.length=ps.length:=by induction h<;>simp_all
def L3.builds{hv}{xs}{ps}{css}(h:L3 k C z B ps css):(∀p∈ps,p.2∈xs)->KS (RW z xs) (ND k C hv) B ps css:=by induction h with|nil=>exactλ_=>.nil|@cons B o cs ps css a b d _ g=>refineλf=>.cons (AB (Ar Xk) λi v e=>?_) Zp;rw[e,d];cases k with|true=>exact⟨cs,rfl,rfl,a,b⟩|false=>have c:=hv rfl;rw[c]at a;match cs,a with|[u],_=>exact⟨rfl,c.symm,b⟩
def af{P}{w}{a}{ST N len}{ag}{hv:ag=false->N=1}{ps}{css}{d}{ty}{pos}{aft}{g}(b:J1 P ST N=true)(c:ps.toList.length=len)(hs:len*N<=16777216)(h:L3 ag N a 0 ps.toList css):∃T,(execOp a.eval ⟨d,.buildSlice ST len ps,ty,pos,aft,g⟩).run P w=.ok (.value (.slice (some ⟨w.heap.size,0,none⟩) len len)) (w.alloc (.cells css.flatten.toArray T)):=by
 unfold J1 at b;split at b;·rename_i T k;have⟨i,e,f⟩:=ZwP (w:=w) (R:=ND _ N _) (m:=λ_ _=>none) b (c.symm.trans (L3.len h).symm) hs (h.builds (hv:=hv) (xs:=ps.toList.map (·.2)) Zp) λl j=>Zeb.Z9 _;rw[Ziw e]at f;refine⟨T,?_⟩;show(do let v<-Instr.buildSlice _ len _;pure _:Sem Next).run P w=_;simp_all
 ·grind
def Zgj{R:Type}{e:En}{r:R}{t}:∀{ps}{i}{c}{k'},dV e t i ps c k'=some r->Mi c.s=true->∃(l:L t.den)(c':CS)(b:TV),k' l c'=some r/\Mi c'.s=true/\Coe (Ag t l.length) b c (Zax l) c'/\l.length=ps.length/\∀(K)(H)(a),(∀p∈ps,Y0 K H (Z9 e p.2) (a.eval p.2))->∃css,L3 t.ag t.n a i ps css/\rel K b.t [] css.flatten b.x
 |[],i,c,k',h,hi=>⟨[],c,⟨.nl,()⟩,h,hi,Coe.id (t:=.nl) rfl _ c,rfl,λK H a _=>⟨[],.nil,rfl,rfl⟩⟩|(i',o)::ps,i,c,k',h,hi=>by
  have⟨u,g⟩:=Yq h;cases Wc u;split at g;·rename_i v hv;have⟨I,q⟩:=Yq g;have⟨E,F,n,y,j,w⟩:=I1 q;have⟨l,k,b,A,z,x,G,D⟩:=Zgj n y;refine⟨E::l,k,⟨.cons _ _,(v.x,b.x)⟩,A,z,Coe.cons w x,Zp,λK H a B=>?_⟩;have⟨css,s,C⟩:=D K H a Zp;have⟨f,d,m⟩:=F5 hv (B _ XQ);refine⟨f::css,.cons (by rw[WU d,j.n]) (Qn d) (by rw[m,j.ag]) s,[],[],f,css.flatten,rfl,Zc,d,C⟩
  ·grind
def dU{R:Type}{e:En}{b:Bx}{r:R}{t}:∀{ps}{i}{c}{E}{k'},vP e b t i ps c E k'=some r->Mi c.s=true->∃(l:L t.den)(c':CS)(k:L Nat)(d:TV)(M:Ty)(X:M.den),k' l c' k=some r/\Mi c'.s=true/\Coe M d c X c'/\l.length=ps.length/\(∀j∈E,j∈k)/\(t.plain=true->M.plain=true)/\∀(K)(H)(hs)(w)(a),GD K.m hs w->(∀p∈ps,Y0 K H (Z9 e p.2) (a.eval p.2))->(∀j∈k,∃u h,ZJ b j=some u/\H j=some h/\WC K j u h/\∀x∈h,x∈hs)->∃css m,L3 t.ag t.n a i ps css/\rel K d.t [] m d.x/\∀f,K.le f->rel f M [] m X->(∀j∈k,∃h,H j=some h/\QA f h)->Row t.n (rel f t) [] css.flatten l
 |[],i,c,E,k',h,hi=>⟨[],c,E,⟨.nl,()⟩,.nl,(),h,hi,Coe.id (t:=.nl) rfl () c,rfl,λ_ h=>h,λ_=>rfl,λK H hs w a _ _ _=>⟨[],[],.nil,⟨rfl,rfl⟩,λ_ _ _ _=>⟨rfl,rfl⟩⟩⟩|(i',o)::ps,i,c,E,k',h,hi=>by
  unfold vP at h;obtain⟨hc,h9⟩:=Yq h;cases Wc hc;clear h hc;obtain⟨v,j1,h8,x5⟩:=Zfe h9;obtain⟨xb,U⟩:=Yq h8;split at U
  ·obtain⟨z,c1,T,x9,x4,x8⟩:=I1 U;obtain⟨l,P,k,d,M,X,hk,Z,W,x0,N,x1,x3⟩:=dU T x9;refine⟨z::l,P,k,⟨.cons v.t d.t,(v.x,d.x)⟩,.cons t M,(z,X),hk,Z,Coe.cons (x:=(v.x,d.x)) x8 W,by simp[x0],N,λn=>by simp[Ty.plain,n,x1 n],λK H hs w a s D B=>?_⟩;obtain⟨css,m,V,hr,x2⟩:=x3 K H hs w a s (λp n=>D p (XY _ n)) B;obtain⟨q,Q,C,O⟩:=x5 K H _ hs w s (D (_,o) XQ) λj A=>by cases A
   have G:=O K (KK.le.refl K) λj A=>by cases A
   refine⟨q::css,q++m,.cons (by rw[C,x4.n]) (Qn G) (by rw[Q,x4.ag]) V,⟨[],[],q,m,rfl,rfl,G,hr⟩,λf I⟨h1,h2,x6,x7,S,F,r1,r2⟩J=>?_⟩;obtain⟨rfl,rfl⟩:=by simpa using S.symm
   obtain⟨rfl,rfl⟩:=MJ F (by rw[C,WU r1,x4.n]);exact⟨q,css.flatten,[],[],by rw[Iq],rfl,WU r1,r1,x2 f I r2 J⟩
  ·rename_i j0 j;obtain⟨hn,z,rfl,T⟩:=M0 U;obtain⟨l,P,k,d,M,X,hk,Z,W,x0,N,x1,x3⟩:=dU T hi;refine⟨z::l,P,k,⟨.cons .nl d.t,((),d.x)⟩,.cons .nl M,((),X),hk,Z,Coe.cons (a:=.nl) (b:=M) (a':=.nl) (b':=d.t) (x:=((),d.x)) (y:=()) (z:=X) (Coe.id (t:=.nl) rfl () c) W,by simp[x0],λi g=>N i (Ym (.inr g)),λn=>by simp[Ty.plain,x1 n],λK H hs w a s D B=>?_⟩;obtain⟨css,m,V,hr,x2⟩:=x3 K H hs w a s (λp n=>D p (XY _ n)) B;have A:∀i∈j0::j,i∈k:=λi g=>N i (Ym (.inl g));obtain⟨q,Q,C,O⟩:=x5 K H _ hs w s (D (_,o) XQ) λi g=>B i (A i g);have G:=O _ (pG s) λi g=>by obtain⟨u,h',_,eh,_,xa⟩:=B i (A i g);exact⟨h',eh,λx hx=>pF s x (xa x hx)⟩
   refine⟨q::css,m,.cons C (Qn G) Q V,⟨[],[],[],m,rfl,rfl,⟨rfl,rfl⟩,hr⟩,?_⟩;rintro f I⟨h1,h2,x6,x7,S,F,⟨_,rfl⟩,r2⟩J;obtain⟨rfl,rfl⟩:=by simpa using S.symm
   rw[UG]at F;subst F;exact⟨q,css.flatten,[],[],by rw[Iq],rfl,C,O f I λi g=>J i (A i g),x2 f I r2 J⟩
def Zwy{K}{x}{s}(hi:Mi s=true)(h:rel (K.W1 s) (Ag M C) c A x):rel K (Ag M C) c A x:=Xw (JY hi) h
def ZmU{ST:TypeId}{ps}(h:iT I J d C F ST B ps.toList=some G):Vg I ⟨D,.buildSlice ST B ps,r,E,o,j⟩ J d C F G:=by
 unfold iT at h;split at h
 ·rename_i xx ht;obtain⟨hc,M⟩:=Yq h;clear h;simp only[YL,yE]at hc;obtain⟨z,y8,hT,xv⟩:=hc;have z:=Wc z;have xh:=Ib y8;have xb:∀a∈ps.toList,a.2∈(Op.buildSlice ST B ps).operands.toList:=λa b=>by simp only[Op.operands,tV,sB];exact⟨a,b,rfl⟩
  cases hq:(ps.toList.all λa=>(QP (Z9 J a.2)).isSome)with|true=>
   rw[hq]at M;obtain⟨x8,y,tv,hk,x2,⟨U,T,k,m⟩,hl,x6⟩:=Zgj M rfl;have i:y.r=U:=by rw[k.r];simp
   have K:y.q=T:=by rw[k.q];simp
   refine⟨_,hk,⟨LW _,by rw[i];exact k.mr,by rw[K];exact k.mq,by rw[i];exact k.nd⟩,vN λp N u f V w b=>?_⟩;obtain⟨e,hP,x4⟩:=x6 p N V λa c=>b.op _ (xb a c);obtain⟨g,x3⟩:=af (P:=I.P) (w:=w) (hv:=xh) (d:=D) (ty:=r) (pos:=E) (aft:=o) (g:=j) hT z xv hP;obtain⟨q,v,l,S,x5,x7,hF,x1,_⟩:=m w p [] [] u e.flatten (by simpa using b.gd.left) x4 trivial (by rw[<-i];exact b.sr) (λa c=>by obtain⟨L,_,t,_⟩:=b.rd a (by show a∈y.q;rw[K];exact c);exact⟨L,t⟩) (by simpa using by rw[<-i];exact b.YT) Zc;have n:Y5 w p (u++f) q (v++l++f):=by simpa using S.frame f
   obtain⟨X,Z⟩:=n.step b.gd;have g3:GD q.m ((w.heap.size,0,cellsOf e.flatten g)::(v++l++f)) (w.alloc (.cells e.flatten.toArray g)):=X.newObj (.cells e.flatten.toArray g);have O:=Zih (Zwy x2 x5);have A:x8.length=B:=hl.trans z;refine⟨_,_,q,(w.heap.size,0,cellsOf e.flatten g)::v,l,x3,.inr ⟨w.heap.size,g,B,e.flatten,[],v,by rw[A],by rw[XX],O,by rw[A];exact YA _,by rw[XX,O.length,A]⟩,n.le,n.nm,by simpa[Yc]using g3,?_,x7,hF,by rw[i];simpa using x1⟩;·have:=Z.trans (ZW.alloc w q.m (HP.bs (v++l++f)) (.cells e.flatten.toArray g));simpa[HP.bs,Yc]using this|false=>
   rw[hq]at M;dsimp only[cond_false]at M;obtain⟨x8,y,js,tv,yt,yv,hk,x2,⟨U,T,k,m⟩,hl,_,y5,x6⟩:=dU M rfl;have i:y.r=U:=by rw[k.r];simp
   have K:y.q=T:=by rw[k.q];simp
   obtain⟨xa,h8⟩:=Yq hk;rw[YL]at xa;obtain⟨y4,yy⟩:=xa;split at h8
   ·rename_i z0 y6;obtain⟨y1,y2⟩:=E7 y6;refine⟨_,h8,⟨YA _,by rw[i];exact k.mr,?_,by rw[i];exact k.nd⟩,?_⟩
    ·intro a c;obtain c|c:=ZY c;·exact y1 a c
     ·rw[K]at c;exact k.mq a c
    intro p N u f V w b;have y3:∀H∈js,∃x h,ZJ d H=some x/\N H=some h/\WC p H x h/\∀ys∈h,ys∈u++f:=λH hj=>by obtain⟨x,e1,e2⟩:=y2 H hj;obtain⟨L,eh,t,y7⟩:=b.rd (H,x) (Ym (.inl e2));exact⟨x,L,e1,eh,t,y7⟩
    obtain⟨e,cm,hP,x4,O⟩:=x6 p N (u++f) w V b.gd (λa c=>b.op _ (xb a c)) y3;obtain⟨g,x3⟩:=af (P:=I.P) (w:=w) (hv:=xh) (d:=D) (ty:=r) (pos:=E) (aft:=o) (g:=j) hT z xv hP;rw[x3];obtain⟨q,v,l,S,x5,x7,hF,x1,_⟩:=m w p [] [] u cm (by simpa using b.gd.left) x4 trivial (by rw[<-i];exact b.sr) (λa c=>by obtain⟨L,_,t,_⟩:=b.rd a (Ym (.inr (by rw[K];exact c)));exact⟨L,t⟩) (by simpa using by rw[<-i];exact b.YT) Zc;have xi:=Xw (JY x2) x5;have y0:v=[]:=SZ (y5 y4) xi;subst y0;have n:Y5 w p (u++f) q (l++f):=by simpa using S.frame f
    obtain⟨X,Z⟩:=n.step b.gd;have A:x8.length=B:=hl.trans z;have x9:GD q.m ((w.heap.size,0,cellsOf e.flatten g)::(l++f)) (w.alloc (.cells e.flatten.toArray g)):=X.newObj (.cells e.flatten.toArray g);obtain⟨K2,R,k2,k3,kG⟩:=n9 (k:=e.flatten.length) x9;obtain⟨g6,g7⟩:=kG.step x9;refine⟨K2,l,GD.right (hs:=[_]) g6,((Z.trans (ZW.alloc w q.m (HP.bs (l++f)) (.cells e.flatten.toArray g))).trans g7).sub λb' t=>by simp only[HP.bs,Wb];exact XY _ t,⟨n.le.trans R,λQ _=>by rw[kG.nm,n.nm]⟩,?_,x7.mono R,?_,?_⟩;·refineλK' x0 hh=>⟨[_],⟨rfl,some ⟨w.heap.size,0,none⟩,B,by rw[A],by rw[A];exact YA _,.inr ⟨w.heap.size,0,e.flatten,rfl,O K' ((n.le.trans R).trans x0) (Xw (R.trans x0) xi) hh,?_⟩⟩,rfl⟩;·intro Q x hu;rw[Qc];exact x0.m _ _ _ (k3 Q x (X8 hu).1 hu)
    ·intro W xx xs yf Q hi;rw[k2];exact hF W xx xs yf Q hi
    ·intro W hf;rw[k2];exact x1 W λa c=>hf a (by rw[i];simpa using c)
   ·cases h8
 ·cases h
def ZgC{K}{k'}(b:GD K.m ((C,B,cellsOf A r)::c) H)(p:B<=k'):∃K',K.le K'/\K'.fm=K.fm/\(∀o v,o<k'->A[o]?=some v->K'.m C o=some v)/\Y5 H K ((C,B,cellsOf A r)::c) K' ((C,k',cellsOf A r)::c):=by
 have h:=b.Xb (C,B,cellsOf A r) Zc;have n:∀o,B<=o->K.m C o=none:=λo e=>b.free (C,B,cellsOf A r) Zc o e;have l:∀o v,K.m C o=some v->A[o]?=some v:=λo v a=>by have:=b.mem C o v a;rw[Aa h]at this;simpa[zd,cellsOf]using this
 have i:Wy K.m (YO.QM K.m C k' A):=by
  intro g o v a;unfold YO.QM;split;·rename_i d;obtain⟨rfl,_⟩:=d;exact l o v a
  ·exact a
 have k:=b.nodup;simp only[HP.bs,Wb,Ss]at k;refine⟨⟨K.nm,K.fm,YO.QM K.m C k' A⟩,⟨λ_ _ c=>c,λ_ _ _ c=>c,i⟩,rfl,?_,⟨λ_ _ c=>c,λ_ _ _ c=>c,i⟩,rfl,λ_=>⟨⟨?_,b.nodup,?_,?_⟩,?_⟩⟩;·intro o v e a;show YO.QM K.m C k' A C o=some v;unfold YO.QM;rw[Y4 ⟨rfl,e⟩];exact a
 ·intro g o v a;simp only[YO.QM]at a;split at a;·rename_i d;obtain⟨rfl,_⟩:=d;rw[Aa h];simpa[zd,cellsOf]using a
  ·exact b.mem g o v a
 ·intro j hx;obtain rfl|hx:=XL hx;·exact h
  ·exact b.Xb j (XY _ hx)
 ·intro j hx o e;obtain rfl|hx:=XL hx;·simp only[YO.QM];grind
  ·simp only[YO.QM];rw[Ys (by exactλ⟨c,_⟩=>(λa=>k.1 (by rw[<-a];exact VV (f:=(·.1)) hx)) c)];exact b.free j (XY _ hx) o e
 ·refine⟨rfl,rfl,rfl,YA _,λg _ m=>⟨rfl,λo=>?_⟩,λg d=>.inl d,i⟩;simp only[YO.QM];rw[Ys (by exactλ⟨c,_⟩=>(λa=>m (by simp[HP.bs,a])) c)]
def GD.Zxp{m}(e)(b:GD m ((C,B,cellsOf A r)::c) H)(s:∀o,o<B->e[o]?=A[o]?):GD m ((C,B,cellsOf e r)::c) (Go.Sl.Vv H C r e)where
 mem:=λd o v i=>by
  by_cases k:d=C
  ·subst k;have l:=b.Xb (d,B,cellsOf A r) Zc;have j:=b.mem d o v i;rw[Aa l]at j;have t:o<B:=by
    obtain g|g:=Rn o B;·exact g
    ·have:=b.free (d,B,cellsOf A r) Zc o g;grind
   rw[Aa (uQ l)];show e.toArray[o]?=some v;rw[KP,s o t];exact by simpa[zd,cellsOf]using j
  ·have q:(Go.Sl.Vv H C r e).heap[d]?=H.heap[d]?:=by have w:C≠d:=λh=>k h.symm;simp[Go.Sl.Vv,Io,w]
   exact(Be (w:=H) (a:=⟨d,o,none⟩) q).trans (b.mem d o v i)
 nodup:=b.nodup;Xb:=λf hx=>by
  obtain rfl|hx:=XL hx;·exact uQ (b.Xb (C,B,cellsOf A r) Zc)
  ·have n:=b.nodup;simp only[HP.bs,Wb,Ss]at n;have u:C≠f.1:=λh=>n.1 Zp;simp only[Go.Sl.Vv,Io,Ys u];exact b.Xb f (XY _ hx)
 free:=λf hx o p=>by
  obtain rfl|hx:=XL hx;·exact b.free (C,B,cellsOf A r) Zc o p
  ·exact b.free f (XY _ hx) o p
def lD{ST}(h:J1 U ST C=true):∃T,Go.Sl.J0 U ST T C=true:=by
 unfold J1 at h;split at h;·grind
 ·grind
def ZeW(h:OK U r=true):∃a,U.underlying r=some (.slice a):=let⟨a,h,_⟩:=wK h;⟨a,h⟩
def wl{P}{K}{l}{v}(h:KV K H M l v):∃a cap g,v=.slice a l.length cap/\l.length<=cap/\Row M.n (rel K M) [] g l/\∀b,(∀p,b.cell? p=H.cell? p)->(Builtin.firstCells M.n l.length (.slice a l.length cap)).run P b=.ok g.toArray b:=by
 obtain⟨a,cap,rfl,c,rfl|⟨n,o,f,rfl,d,j⟩⟩:=h.h;·refine⟨a,cap,[],rfl,c,⟨rfl,rfl⟩,λb e=>?_⟩;cases a<;>simp[Builtin.firstCells,loadCells,loadCellsFrom]
 ·refine⟨_,cap,f,rfl,c,d,λb e=>?_⟩;have:=yI (P:=P) _ _ f λk m i=>by rw[RH,e];exact j k m i
  rwa[d.length]at this
structure KZ(P:Program)(w:World)(N n0:Nat)(v:Value)(k:Nat)(row:List Value)(h1:HP):Prop where
 len:row.length=n0*N
 cell:∀u∈row,u.oneCell'=true
 le:k<=row.length
 h:(n0=0/\h1=[]/\∃ad,v=.slice ad 0 0)\/∃b T0 cap spare,v=.slice (some ⟨b,0,none⟩) n0 cap/\h1=[(b,k,cellsOf (row++spare) T0)]/\n0<=cap/\(row++spare).length=cap*N
def lg{P}{m}{h1 h2}{ST rt N a nx k:Nat}{v}{row}{K}{M}(hT:Go.Sl.J0 P ST B N=true)(y:P.underlying C=some (.slice f))(q:GD m (h1++h2) H)(c:KZ P H N a v k row h1)(w:A.length=nx*N)(U:∀u∈A,u.oneCell'=true)(G:∀J,(∀p,J.cell? p=H.cell? p)->(Builtin.firstCells N nx (.slice K nx M)).run P J=.ok A.toArray J)(R:a+nx<=4294967296):∃v' k' h1' w',(Builtin.append_ #[ST,C] rt #[v,.slice K nx M]).run P H=.ok v' w'/\(k'=k\/k'=0)/\KZ P w' N (a+nx) v' k' (row++A) h1'/\GD m (h1'++h2) w'/\ZW H w' m m (HP.bs (h1++h2)) (HP.bs (h1'++h2)):=by
 obtain⟨r,x0,z,V,Z,x3,x4,hz,xi⟩:=uV hT;have X:(sizeOf B).run P H=.ok N H:=by simp[sizeOf,typeInfo,V,Z]
 have S:∀u∈row++A,u.oneCell'=true:=λu r=>(ZY r).elim (c.cell u) (U u);have F:(row++A).length=(a+nx)*N:=by rw[YM,c.len,w,SE]
 obtain⟨L,n,d,xv⟩:∃x1 g,v=.slice x1 a g/\a<=g:=by
  obtain⟨rfl,_,j,rfl⟩|⟨b,h,g,e,rfl,_,D,_⟩:=c.h;·exact⟨j,0,rfl,YA _⟩
  ·exact⟨_,g,rfl,D⟩
 by_cases s:a+nx<=n
 ·obtain⟨rfl,rfl,j,l⟩|⟨b,h,g,e,l,rfl,D,t⟩:=c.h
  ·rw[l]at d⊢;simp only[Zbs]at d;obtain⟨_,_,rfl⟩:=d;have xh:nx=0:=Y;subst xh;have xb:A=[]:=by simpa using w
   subst xb;have E:row=[]:=by simpa using c.len
   subst E;refine⟨.slice j 0 0,k,[],H,iF r y X Zc (G H λ_=>rfl) (by cases j<;>simp[storeCells]),.inl rfl,⟨Zc,Zc,by simp[by have:=c.le;simpa using this],.inl ⟨rfl,rfl,j,rfl⟩⟩,by simpa using q,by simpa using ZW.refl H m (HP.bs h2)⟩
  ·rw[l]at d⊢;simp only[Zbs]at d;obtain⟨_,_,rfl⟩:=d;have W:=c.len;have T:(a+nx)*N<=(row++e).length:=by rw[t];exact Q0 _ s
   rw[SE]at T;have I:=zC (P:=P) (b:=b) (o:=a*N) (T:=h) A 0 (row++e) H U (q.Xb (b,k,cellsOf (row++e) h) Zc) (by rw[w];omega);simp only[Ey]at I;have x2:(row++e).take (a*N)=row:=by rw[<-W,CT];rfl
   rw[x2,Yc]at I;have x6:=GD.Zxp (row++(A++(row++e).drop (a*N+A.length))) (by simpa using q) λo xx=>by have:=c.le;rw[VE Y,VE Y]
   refine⟨.slice (some ⟨b,0,none⟩) (a+nx) g,k,[(b,k,cellsOf (row++(A++(row++e).drop (a*N+A.length))) h)],_,iF r y X s (G H λ_=>rfl) (by simpa[RH]using I),.inl rfl,⟨F,S,by have:=c.le;rw[YM];omega,.inr ⟨b,h,g,(row++e).drop (a*N+A.length),rfl,by rw[Yc],s,?_⟩⟩,x6,ZW.Kw (by simp[HP.bs])⟩;·rw[YM,YM,VF,w,W,t];rw[t]at T;omega
 ·have x9:(Builtin.firstCells N a (.slice L a n)).run P H.drew=.ok row.toArray H.drew:=by
   obtain⟨rfl,rfl,j,l⟩|⟨b,h,g,e,l,rfl,D,t⟩:=c.h
   ·have E:row=[]:=by simpa using c.len
    subst E;cases L<;>simp[Builtin.firstCells,loadCells,loadCellsFrom]
   ·rw[l]at d;simp only[Zbs]at d;obtain⟨rfl,_,rfl⟩:=d;have:=yI (P:=P) H.drew ⟨b,0,none⟩ row λy0 u O=>by rw[RH,Qc];exact q.drew.cell (k:=k) (T:=h) (cs:=row++e) Zc (by rw[VE];exact O;exact(X8 O).1)
    rwa[c.len]at this
  have xs:=Go.Sl.nextslicecap_le (a+nx) n Y;have x7:¬Builtin.nextslicecap (a+nx) n*x0.bytes>2^48:=by have h2:Builtin.nextslicecap (a+nx) n*x0.bytes<=(4*4294967296+4096)*4096:=Nat.mul_le_mul Y x4;have h3:(4*4294967296+4096)*4096<=2^48:=YI;omega
  obtain⟨x,x8,Q⟩:=Zmu (P:=P) (rt:=rt) (z:=z) r y V Z hz x3 s x7 x9 (G H.drew λ_=>rfl);rw[d];let i:=(Builtin.zeroCells z.cells (x-(a+nx))).toList;have xa:i.length=(x-(a+nx))*N:=by simp[i,Builtin.zeroCells,xi]
  have x5:row.toArray++A.toArray++Builtin.zeroCells z.cells (x-(a+nx))=(row++A++i).toArray:=by simp[i]
  rw[x5]at Q;refine⟨_,0,[(H.heap.size,0,cellsOf (row++A++i) B)],_,Q,.inr rfl,⟨F,S,W7 _,.inr ⟨H.heap.size,B,x,i,rfl,rfl,x8,?_⟩⟩,(GD.right q).drew.newObj _,(((ZW.drew H m _).sub λb R=>by rw[HP.Wo];exact Ym (.inr R)).trans (ZW.alloc H.drew m (HP.bs h2) (.cells (row++A++i).toArray B)))⟩;·rw[YM,F,xa,<-SE];congr 1;omega
end Go.R
