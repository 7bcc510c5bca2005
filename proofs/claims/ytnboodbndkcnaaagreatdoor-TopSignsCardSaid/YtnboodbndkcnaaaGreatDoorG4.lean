import Derived.Test.YtnboodbndkcnaaaGreatDoorG3
set_option linter.all false
namespace Go.Sl
def wM:=@Nat.beq_refl
def wQ:=@Nat.le_of_not_lt
def nn:=@List.count_cons
def dD:=@Array.getElem?_append_left
def dQ:=@List.mapM_cons
def ce:=@Option.none_or
def Zgg:=@Array.getD_eq_getD_getElem?
end Go.Sl
namespace Go.R
open Go.Sl
def IF(Z:Xq):Prop:=∀i f,um Z.P i=some f->∀(b:Ty)(d:List b.den)(a:KK)(c:HP)(e:World)(v:Value),KW Z.P f b.n=true->PQ Z.P f=true->d.length<=4294967296->GD a.m c e->LM a e b d v->Calls Z.P i #[v] e λl h=>∃k,l=.returned k/\∃j g,GD a.m (g++c) h/\ZG e h a.m a.m c.bs (HP.bs (g++c))/\Row b.n (rel a b) [] j d/\LS Z.P h b.n d.length k 0 j g
section
variable{R:Type}{Z:Xq}{e:En}{b:Bx}{n:Nat}{k:Wc->Option R}{r:R}{x y z:Operand}{d:Option Tmp}{ty T ST XT:TypeId}{pos:String}{aft:Array Edge}{g:Option (Nat×Bool)}
theorem ZiC {c}{w}{f}{a c'}{x0}(U:IF Z)(s:c.callee= .value w)(W:ZW e w= .v ⟨.fn f a c',x0⟩)(hn:a= .nl/\c'= .nl)(A:c.args.toList=[y])
  (h:lG Z b n k f T (ZW e y)=some r):W4 Z ⟨d,.call c,ty,pos,aft,g⟩ e b n k r:=by
 unfold lG at h
 split at h
 ·rename_i x8 F ht P
  obtain⟨B,N⟩:=Yk h
  clear h
  simp only[Yv]at B
  obtain⟨xs,x6,x1,S⟩:=B
  obtain⟨D,rd,M,x4,O⟩:=Ft N
  obtain⟨x2,L⟩:=tV M
  refine⟨_,L,⟨LG _,Zb,x4,Zb⟩,(λp E m o ac u i=>?_)⟩
  obtain⟨rfl,rfl⟩:=hn
  obtain⟨xk,⟨_,as,G,x9,J,⟨ca,va,ra⟩,vb,rb⟩,K⟩:=i.v W (by simp[Op.operands,Call.operands,s])
  have H:as=[]:=va.2
  have I:G=[]:=vb.2
  subst H I
  rw[Ze4 S (by rw[K,J];rfl) s,A]
  show Calls Z.P f #[ac.eval y] u _
  refine(U f F P x8 D p (m++o) u (ac.eval y) x6 x1 (by have:0+D.length<=4294967296:=x2;omega) i.gd (O p E (m++o) u _ i.gd i.rd (i.op y (by simp[Op.operands,Call.operands,A,s])))).mono ?_
  rintro en w' ⟨j,rfl,y0,l,X,V,x5,x3⟩
  refine⟨j,rfl,?_⟩
  have t:=kK x3 x5
  rw[Xp]at t
  have q:=KK.HC (i.fr n (YG _) (nB _)) j
  have C:(l++(m++o)).Perm ((l++o)++m):=by
   classical
   rw[VS];intro z;simp only[VR];omega
  refine⟨p.name n j,l,⟨(X.perm C).left,(ZG.QI C V).sub λbb Q=>?_,⟨q.le,λx7 hi=>q.nm x7 hi⟩,zA KK.Pl (RD t j Zb),⟨l,[],Zb,⟨[j],Xl q.le t,λz hz=>by rw[YZ hz];exact KK.Pl⟩,trivial⟩,tw (n:=n) (n':=n+1) (λxv i=>by rw[YZ i];simp) i.lt,λ_ _=>rfl⟩⟩
  rw[HP.XL];exact Yd (.inl Q)
 ·cases h
theorem ZlX(I:∀E∈Z.tb,UG Z E)(G:∀g w,Rs Z.gl g=some w->w.t.nh=true)(F:IF Z){o}(h:Nq Z e b n k o.op=some r):W4 Z o e b n k r:=by obtain⟨d,op,ty,pos,aft,g⟩:=o;cases op with
 |move x=>exact Zlt h|assign x=>exact ZhV h|pick C x y=>exact Zmw h|binOp op T x y yt=>exact Zh8 (λJ H D=>by subst D;cases J<;>exact Zjo H) h|unOp op T x=>exact ZsC h|convert V t x=>exact ZiM (λl m p=>ZiN l m p) (λl m p=>Zst l m p) h|alloc T=>exact ZhG h|box T y=>exact Zia h|build T L=>exact Zid h|buildSlice T v L=>exact Zic h|load T x=>exact Zk3 h|store T x y=>exact Zse h|nilCheck x=>exact ZlF h|fieldAddr A x i=>exact ZjK h|field A x i=>exact ZjJ h|indexAddr T x y=>exact Zkt h|index T x y=>exact Zks h|slice T x S P mx=>exact Zr3 h|sliceToArrayPointer T x=>exact ZrC h|makeSlice T x y=>exact Zld h|makeMap T r=>cases r with|none=>exact Zlc h|some r=>cases h
 |makeFunc i first cs=>cases i with|func i=>exact Zlb h|_=>cases h
 |lookup T x y U=>exact Zk5 h|mapUpdate T x y z=>exact Zle h|extract x Q=>exact Zjy h|call C=>
  simp only[Nq]at h;split at h
  ·rename_i a;split at h;·rename_i x T c f;obtain⟨q,h⟩:=Yk h;exact Zk0 a c f q h
   ·cases h
  ·rename_i a;split at h
   ·rename_i x T c f;split at h;·rename_i W j;obtain⟨q,h⟩:=Yk h;exact Ziq a c f q j h
    ·cases h
   ·cases h
  ·rename_i a;split at h;·rename_i x y T B c f;exact ZhP a c f h
   ·cases h
  ·rename_i a;split at h;·rename_i x y T B c f;exact ZiO a c f h
   ·cases h
  ·rename_i a;split at h
   ·rename_i x v c;split at h;·rename_i K j;exact ZbU (mx:=true) a c j h
    ·cases h
   ·cases h
  ·rename_i a;split at h
   ·rename_i x v c;split at h;·rename_i K j;exact ZbU (mx:=false) a c j h
    ·cases h
   ·cases h
  ·rename_i O a;split at h;·rename_i i M N X u;cases s:Z.cl.any (Nat.beq i)with
    |true=>
     rw[s]at h;dsimp only[cond_true]at h;split at h;·rename_i c f;exact ZiC F a u ⟨rfl,rfl⟩ c h
     ·cases h|false=>rw[s]at h;exact Zio I G a u h
   ·cases h
  ·cases h|_=>cases h
end
theorem R9{t u}{s}{e:En}:Ys ((t,s)::e) u=bif Nat.beq t u then s else Ys e u:=rfl
def SO(r:Bx):SV->Bool|.bv a _=>r.any λb=>PZ a b.1|_=>false
theorem Ln{l}{x}:PZ l x=true↔x∈l:=by induction l with|nil=>simp[PZ]|cons b l a=>simp[PZ,Gx,Jl,a,Da];exact⟨Zm,Zm⟩
theorem CD{r}{s}(h:∀p∈r,p.1∉Un s):SO r s=false:=by cases s with
 |bv d e=>cases b:SO r _ with|false=>rfl|true=>have⟨p,c,a⟩:=nj b;exact absurd (Ln.1 a) (h p c)
 |_=>rfl
theorem Zlm{r}{s}(h:SO r s=true):∃p∈r,p.1∈Un s:=by cases s with|bv c d=>have⟨p,b,a⟩:=nj h;exact⟨p,b,Ln.1 a⟩|_=>cases h
theorem ZbR{s}:SO [] s=false:=CD Zb
theorem Zaq{r}{t}:∀{e},Ys (Lr r e) t=bif SO r (Ys e t)then .any else Ys e t
 |[]=>rfl|(u,s)::e=>by
  have c:∀a,Ys _ t=bif Nat.beq u t then a else bif SO r _ then .any else Ys e t:=λa=>by rw[R9,Zaq (r:=r) (t:=t) (e:=e)]
  rw[R9];cases s with|bv d b=>have f:Lr r ((u,.bv _ _)::e)=bif SO r (.bv _ b)then(u,.any)::Lr r e else(u,.bv d b)::Lr r e:=rfl;grind|_=>refine(c _).trans ?_;cases hb:Nat.beq u t<;>rfl
def Rl(d:Option Nat)(v:SV)(t:Nat)(s:SV):SV:=if d=some t then v else s
theorem Zar{d}{v}{e}{t}:Ys ((match d with|some d=>λe=>(d,v)::e|none=>λe=>e) e) t=Rl d v t (Ys e t):=by cases d with|none=>rfl|some d=>
  rw[R9];by_cases a:d=t;·simp[Rl,wM]
  ·rw[beq_false a];simp[Rl,a]
theorem PN{s:XS}{d:Option Nat}{f}{t}:Ys (s.app d f).e t=bif SO (f.r++f.w) (Rl d f.v t (Ys s.e t))then .any else Rl d f.v t (Ys s.e t):=by unfold XS.app;cases hb:(f.r.isEmpty&&f.w.isEmpty)with|true=>rw[Yv]at hb;rw[wF hb.1,wF hb.2,Xp,ZbR];exact Zar|false=>show Ys (Lr _ _) t=_;rw[Zaq];exact X7 (λa=>bif SO _ a then SV.any else a) Zar
theorem mZ{a b}{j}:ZF (a++b) j=(ZF a j).or (ZF b j):=by induction a with|nil=>rfl|cons e a d=>have⟨c,v⟩:=e;rw[MN,Mb,Mb,d];cases Nat.beq c j<;>rfl
theorem ap{b}{i j}(h:i≠j):ZF (Vi b j) i=ZF b i:=by induction b with|nil=>rfl|cons d b c=>have⟨a,v⟩:=d;show ZF (bif Nat.beq a j then Vi b j else(a,v)::Vi b j) i=_;rw[Mb];cases hb:Nat.beq a j with|true=>have:=Xu hb;rw[TP,c,beq_false Zm,TO]|false=>rw[TO,Mb,c]
theorem L8{b}{i}:∀{r},(∀p∈r,p.1≠i)->ZF (X0 r b) i=ZF b i|[],_=>rfl|x::r,h=>by show ZF (Vi (X0 r b) _) i=_;rw[ap Zm,L8 λp a=>h p Zm]
theorem Zh7{b}{i}{r}(h:∃p∈r,p.1=i):ZF (X0 r b) i=none:=by cases c:ZF _ i with|none=>rfl|some v=>have⟨p,d,a⟩:=h;exact absurd a (L7 c p d)
theorem Oy{b}{p}(a:(b.map (·.1)).Nodup)(h:p∈b):ZF b p.1=some p.2:=by induction b with|nil=>cases h|cons d b c=>
  obtain⟨f,v⟩:=d;rw[XF,T9]at a;rw[Mb];rcases XB h with rfl|h;·simp
  ·rw[beq_false λe=>a.1 Zm];exact c a.2 h
theorem Zcb{b}{j}(h:(b.map (·.1)).Nodup):((Vi b j).map (·.1)).Nodup:=by induction b with|nil=>exact h|cons i b g=>have⟨a,v⟩:=i;rw[XF,T9]at h;show((bif Nat.beq a j then Vi b j else(a,v)::Vi b j).map _).Nodup;cases Nat.beq a j with|true=>grind|false=>rw[TO,XF,T9];refine⟨λe=>h.1 ?_,g h.2⟩;have⟨c,f,d⟩:=Uj e;exact Pt ⟨c,IU c f,d⟩
theorem KF{b r}(h:(b.map (·.1)).Nodup):((X0 r b).map (·.1)).Nodup:=by induction r with|nil=>exact h|cons c r a=>exact Zcb a
structure IK where
 e:En
 n:Nat
 f:Wc
abbrev Tr:=List (Option IK)
def Wk(s s':SV):Prop:=s'=s\/s'=.any\/Un s=[]/\Un s'=[]/\∀b a v,YU b a s v->YU b a s' v
theorem Wk.refl(s):Wk s s:=.inl rfl
theorem Wk.any(s):Wk s .any:=.inr (.inl rfl)
theorem Wk.xq{s s'}(h:Wk s s'){K}{H}{v}(r:YU K H s v):YU K H s' v:=by
 rcases h with rfl|rfl|h;·omega
 ·trivial
 ·grind
theorem Wk.Lr{r}{s s'}(h:Wk s s'):Wk (bif SO r s then .any else s) (bif SO r s' then .any else s'):=by
 rcases h with rfl|rfl|⟨a,b,h⟩;·exact .inl rfl
 ·cases SO r _<;>exact Wk.any _
 ·rw[CD Zm,CD Zm];exact .inr Zm
theorem Wk.len{s s'}(h:Wk s s'):∀j∈Un s',j∈Un s:=by
 rcases h with rfl|rfl|⟨_,a,_⟩;·simp
 ·intro j h;cases h
 ·grind
structure Wf(s:XS):Prop where
 nd:(s.b.map (·.1)).Nodup
 ids:∀p∈s.b,p.1<s.n\/500<=p.1len:∀t,∀j∈Un (Ys s.e t),j<s.n\/500<=j
structure PH(S s:XS):Prop where
 e:∀t,Wk (Ys S.e t) (Ys s.e t)b:∀j v,ZF s.b j=some v->ZF S.b j=some v
 n:S.n<=s.n
 nd:(s.b.map (·.1)).Nodup
def GU(e:List Oper)(E:En)(j:Nat)(b:Option Bool):Prop:=∃a,e[j]?.bind (·.dst)=some a/\Un (Ys E a)=[]/\∀d c v,YU d c (Ys E a) v->v=match b with|some b=>.bool b|none=>undef
def vu(c:List Oper)(o:Oper)(E:En):Prop:=o.guard=none\/∃a b,o.guard=some (a,b)/\GU c E a (some b)
def vr(b:List Oper)(o:Oper)(E:En):Prop:=∃a c,o.guard=some (a,c)/\(GU b E a (some !c)\/GU b E a none)
inductive Jv(Z:Xq)(full:List Oper)(o:Oper)(S:XS):Option IK->Prop|ex{r:IK}:(∀t,Wk (Ys S.e t) (Ys r.e t))->S.n<=r.n->Loc S.b r.n r.f->GK Z o r.e r.n r.f->yo r.n r.f=true->vu full o S.e->Jv Z full o S (some r)|no:vr full o S.e->Jv Z full o S none
def W7(o:Oper):Option IK->XS->XS|some b,s=>s.app o.dst b.f|none,s=>{s with e:=match o.dst with|some a=>(a,.un)::s.e|none=>s.e}
inductive TQ(Z:Xq)(full:List Oper):List (Nat×Oper)->XS->Tr->XS->Prop|nil{S:XS}:TQ Z full [] S [] S|cons{x:Nat×Oper}{l:List (Nat×Oper)}{S S':XS}{r:Option IK}{tr:Tr}:Jv Z full x.2 S r->TQ Z full l (W7 x.2 r S) tr S'->TQ Z full (x::l) S (r::tr) S'
theorem TQ.append{Z}{a}{l e}{b c d}{tr f}(h:TQ Z a l b tr c)(k:TQ Z a e c f d):TQ Z a (l++e) b (tr++f) d:=by induction h with|nil=>grind|cons g _ i=>exact .cons g (i k)
theorem Zco{n}{f}:∀{l},rT n f l=true->(l.map (·.1)).Nodup/\∀p∈l,(∃q∈f.r,q.1=p.1)\/n<=p.1/\p.1<f.n
 |[],_=>⟨Zb,Zb⟩|p::l,h=>by
  simp only[rT,Yv,Gx,Jg]at h;have⟨c,m,d⟩:=h;have⟨i,j⟩:=Zco d;refine⟨?_,λq a=>?_⟩;·rw[XF,T9];refine⟨λe=>?_,i⟩;have⟨q,a,b⟩:=Uj e;have:(l.any λq=>Nat.beq q.1 p.1)=true:=BB ⟨q,a,by rw[Jl];exact b⟩;grind
  ·rcases XB a with rfl|a
   ·rcases c with h|h;·have⟨k,g,b⟩:=nj h;exact .inl ⟨k,g,Xu b⟩
    ·exact .inr ⟨Dd▸h.1,Uk▸h.2⟩
   ·exact j q a
structure vE(n:Nat)(f:Wc):Prop where
 lt:f.n<500nd:(f.w.map (·.1)).Nodup
 w:∀p∈f.w,(∃q∈f.r,q.1=p.1)\/n<=p.1/\p.1<f.n
 len:∀j∈Un f.v,(j<f.n\/500<=j)/\∀p∈f.r++f.w,p.1≠j
theorem Lq{n}{f}(h:yo n f=true):vE n f:=by
 simp only[yo,Yv,RK]at h;have⟨e,g,i⟩:=h;have⟨l,m⟩:=Zco g;refine⟨Uk▸e,l,m,λb j=>?_⟩;have⟨a,c⟩:=i b j;refine⟨?_,λo k d=>?_⟩
 ·rw[Gx]at a;rcases a with a|a;·exact .inl (Uk▸a)
  ·refine .inr (wQ λh=>?_);have:Nat.blt b 500=true:=by rw[Uk];exact h
   rw[this]at a;cases a
 ·have:((f.r++f.w).any λp=>Nat.beq p.1 b)=true:=BB ⟨o,k,by rw[Jl];exact d⟩;rw[this]at c;cases c
theorem ZhM{s:XS}{d:Option Nat}{f}:(s.app d f).b=f.w++X0 f.r s.b:=rfl
theorem AG{s:XS}{d:Option Nat}{f}{j}:ZF (s.app d f).b j=(ZF f.w j).or (ZF (X0 f.r s.b) j):=by rw[ZhM,mZ]
theorem Zca{b}{e n}{f}(a:vE n f)(c:(b.map (·.1)).Nodup)(hi:∀p∈b,p.1<e\/500<=p.1)(v:e<=n):((f.w++X0 f.r b).map (·.1)).Nodup:=by
 rw[Vg,TM];refine⟨a.nd,KF c,λw h x i m=>?_⟩;have⟨p,j,o⟩:=Uj h;have⟨g,d,q⟩:=Uj i;rcases a.w p j with⟨l,k,r⟩|⟨s,t⟩;·exact L7 (Oy (KF c) d) l k Zm
 ·have:=hi g (Kg g d);have u:=a.lt;omega
theorem AB{Z}{s}{o}{c}{r}(h:Jv Z s o c r)(b:Wf c):Wf (W7 o r c):=by cases h with
 |@ex r h1 h2 n v t w=>
  have l:=Lq t;have x:=n.le;refine⟨Zca l b.nd b.ids h2,λj i=>?_,λg f a=>?_⟩
  ·show j.1<r.f.n\/500<=j.1;rcases Z1 (i)with i|i
   ·rcases l.w j i with⟨q,u,e⟩|h;·have:=b.ids q (W8 (n.r q u));omega
    ·omega
   ·have:=b.ids j (Kg j i);omega
  ·show f<r.f.n\/500<=f;have d:f∈Un (Ys (c.app o.dst r.f).e g):=a;rw[PN]at d;cases p:SO (r.f.r++r.f.w) _ with|true=>rw[p]at d;cases d|false=>
    rw[p,TO]at d;unfold Rl at d;split at d;·exact(l.len f d).1
    ·have:=b.len g f d;omega
 |no h=>
  refine⟨b.nd,b.ids,λg f a=>?_⟩
  cases hd:o.dst with|none=>
   have k:(W7 o none c).e=c.e:=by simp[W7,hd]
   rw[k]at a;exact b.len g f a|some m=>
   have k:(W7 o none c).e=(m,.un)::c.e:=by simp[W7,hd]
   rw[k,R9]at a;cases hb:Nat.beq m g with|true=>rw[hb]at a;cases a|false=>rw[hb]at a;exact b.len g f a
theorem PH.app{a s}{o:Oper}{n}{f}(h:PH a s)(l:Wf a)(j:vE n f)(i:a.n<=n):PH (a.app o.dst f) (s.app o.dst f)where
 e:=λp=>by
  rw[PN,PN];refine Wk.Lr ?_;unfold Rl;split;·exact Wk.refl _
  ·exact h.e p
 b:=λg v c=>by rw[AG]at c⊢;cases hb:ZF _ g with|some q=>grind|none=>rw[hb]at c;have d:=c;rw[L8 (L7 d)];exact h.b g v (JC d)
 n:=YG _;nd:=Zca j h.nd (λm k=>l.ids m (W8 (h.b _ _ (Oy h.nd k)))) i
abbrev GN:=Nat×Oper×IK
def V6:List (Nat×Oper)->Tr->List GN|(i,o)::l,some r::tr=>(i,o,r)::V6 l tr|_::l,none::tr=>V6 l tr|_,_=>[]
theorem xe{l d}:∀{tr b},tr.length=l.length->V6 (l++d) (tr++b)=V6 l tr++V6 d b:=by induction l with|nil=>intro tr b a;rw[MR a];rfl|cons e l c=>intro tr b a;have⟨f,g⟩:=e;match tr,a with|some h::tr,a=>exact X7 _ (c Zm)|none::tr,a=>exact c XA
def xd(x:GN):List Nat:=C6 x.2.2.e x.2.1.op x.2.2.f
def Qm(f:Wc):List Nat:=f.r.map (·.1)++f.w.map (·.1)
def DR(x y:GN):Prop:=∃a,a∈Qm y.2.2.f/\(a∈xd x\/a∈Qm x.2.2.f)\/a∈xd y/\a∈Qm x.2.2.f
def Dr(T:List As)(P:List GN):Prop:=∀b∈P,∃c∈T,c.i=b.1/\(∀a∈xd b,a∈c.rd)/\∀a∈Qm b.2.2.f,a∈c.wr
def NC(a:List Oper):List GN->List (Nat×Oper)->Tr->Prop|P,(i,o)::l,some r::tr=>(∀b∈P,DR b (i,o,r)->b.1∈marks a i (Vv o))/\NC a ((i,o,r)::P) l tr|P,_::l,none::tr=>NC a P l tr|_,_,_=>True
theorem NC.mono{b}:∀{l}{tr}{P a},(∀x∈a,x∈P)->NC b P l tr->NC b a l tr|[],_,_,_,_,_=>by trivial|x::l,[],_,_,_,_=>by trivial|(i,o)::l,some r::tr,P,a,h,⟨h1,h2⟩=>⟨Zm,NC.mono Zm h2⟩|(i,o)::l,none::tr,P,a,h,h2=>NC.mono (l:=l) h h2
theorem NC.append{a}{c}{d}:∀{l}{tr}{P},tr.length=l.length->NC a P l tr->NC a (V6 l tr++P) c d->NC a P (l++c) (tr++d)
 |[],tr,P,b,_,h2=>by rw[MR b]at h2⊢;exact h2|(i,o)::l,some r::tr,P,b,⟨h1,e⟩,h2=>⟨h1,NC.append Zm e (NC.mono (λf hx=>by
   rcases Z1 hx with hx|hx;·exact Yd (.inl (XG _ hx))
   ·rcases XB hx with rfl|hx;·exact Yd (.inl XP)
    ·grind) h2)⟩|(i,o)::l,none::tr,P,b,h1,h2=>NC.append (l:=l) Zm h1 h2
theorem TQ.len{Z}{c}{l}{a b}{tr}(h:TQ Z c l a tr b):tr.length=l.length:=by induction h<;>simp_all
theorem Zfv{j}:∀{l g r},Bf j l=some (g,r)->l=g++r|[],_,_,h=>by cases h|(i,o)::l,g,r,h=>by unfold Bf at h;cases hs:Bf j l with|none=>grind|some b=>have a:=Zfv hs;grind
theorem Znc{s}{y:Bool}(h:Mw .bool s some=some y):s=.v ⟨.bool,y⟩\/s=.v ⟨.bit y,()⟩:=by
 unfold Mw at h;split at h;·rename_i v;have⟨a,c⟩:=v;cases a with|bit b=>cases h;exact .inr rfl|bool=>cases h;exact .inl rfl|_=>cases h
 ·cases h
 ·grind
structure BP(dr:Bool)(A:List Nat×Nat)(l:List (Nat×Oper))(tr:Tr):Prop where h:∀x∈V6 l tr,x.2.2.f.r=[]/\x.2.2.f.n<=A.2/\(dr=true->x.2.2.f.w=[]/\∀j∈xd x,j∈A.1)
structure SZ(Z:Xq)(full:List Oper)(dr:Bool)(l:List (Nat×Oper))(s S:XS)(P:List GN)(tr:Tr)(S' s':XS):Prop where
 ok:TQ Z full l S tr S'
 wf:Wf S'
 wk:PH S' s'
 al:s'.al=s.al
 Ay:∀A,s.al=some A->BP dr A l tr
 d:(∀j∈s.d,j∈s'.d)/\∀x∈V6 l tr,∀p∈x.2.2.f.r,p.1∈s'.d
 n:s.n<=s'.n
 kb:∀j v,ZF s.b j=some v->j∉s'.d->ZF s'.b j=some v
 fd:∀j,1000<=j->j∈s'.d->j∈s.d\/∃v,ZF s.b j=some v
 fb:∀j v,1000<=j->ZF s'.b j=some v->∃v,ZF s.b j=some v
 nc:dr=true->NC full P l tr/\Dr s'.tr (V6 l tr++P)
section
variable{Z:Xq}{X:List Oper}{dr:Bool}
theorem SZ.nil{s a}{P}(e:Wf a)(d:PH a s)(c:dr=true->Dr s.tr P):SZ Z X dr [] s a P [] a s:=⟨.nil,e,d,rfl,λf _=>⟨by simp[V6]⟩,⟨λ_ b=>b,by simp[V6]⟩,Zb,Zm,Zm,Zm,λb=>⟨by trivial,by simpa[V6]using c b⟩⟩
theorem SZ.step{i}{o}{l}{s k b t s'}{P}{r}{tr}(h1:Jv Z X o k (some r))(C:r.e=s.e)(H:r.n=s.n)(g:b.d=(s.app o.dst r.f).d)(w:b.al=s.al)(I:b.n=r.f.n)(c:j6 dr r.f (C6 s.e o.op r.f) s.al=true)(G:dr=true->∀x∈P,DR x (i,o,r)->x.1∈marks X i (Vv o))(E:∀j v,ZF s.b j=some v->j∉r.f.r.map (·.1)->ZF b.b j=some v)(J:∀p∈r.f.r,ZF s.b p.1=some p.2)(y:∀j v,1000<=j->ZF b.b j=some v->∃v,ZF s.b j=some v)(h2:SZ Z X dr l b (k.app o.dst r.f) ((i,o,r)::P) tr t s'):SZ Z X dr ((i,o)::l) s k P (some r::tr) t s':=by
 refine⟨.cons h1 h2.ok,h2.wf,h2.wk,h2.al.trans w,λA u=>⟨λx hx=>?_⟩,⟨λj a=>h2.d.1 j ?_,λx hx p z=>?_⟩,?_,λj v n a=>h2.kb j v (E j v n λF=>a (h2.d.1 j (by rw[g];exact Yd (.inl F)))) a,λj h1 a=>?_,λj v h1 n=>let⟨q,m⟩:=h2.fb j v h1 n;y j q h1 m,λe=>⟨⟨G e,(h2.nc e).1⟩,?_⟩⟩
 ·rcases XB (show x∈(i,o,r)::V6 l tr from hx)with rfl|hx
  ·rw[u]at c;simp only[j6,Yv,Gx,Jg,RK]at c;refine⟨wF c.1,Dd▸c.2.1,λe=>?_⟩;rcases c.2.2with h|h;·rw[e]at h;cases h
   ·refine⟨wF h.1,λj a=>Ln.1 (h.2 j ?_)⟩;have D:j∈C6 r.e o.op r.f:=a;rwa[C]at D
  ·exact(h2.Ay A (w.trans u)).h x hx
 ·rw[g];exact Yd (.inr a)
 ·rcases XB (show x∈(i,o,r)::V6 l tr from hx)with rfl|hx;·refine h2.d.1 p.1 ?_;rw[g];exact Yd (.inl (VC (f:=(·.1)) z))
  ·exact h2.d.2 x hx p z
 ·have:=h2.n;cases h1 with|ex _ _ B _ _ _=>have:=B.le;omega
 ·rcases h2.fd j h1 a with h|⟨q,m⟩
  ·rw[g]at h;rcases Z1 (show j∈r.f.r.map (·.1)++s.d from h)with h|h;·grind
   ·exact .inl h
  ·exact .inr (y j q h1 m)
 ·refineλx hx=>(h2.nc e).2 x ?_;rcases Z1 hx with hx|hx
  ·rcases XB (show x∈(i,o,r)::V6 l tr from hx)with rfl|hx;·simp
   ·exact Yd (.inl hx)
  ·exact Yd (.inr (XG _ hx))
theorem SZ.skip{i}{o}{l}{s a c b s'}{P}{tr}(h1:Jv Z X o a none)(hs:c={s with e:=match o.dst with|some d=>(d,.un)::s.e|none=>s.e})(h2:SZ Z X dr l c (W7 o none a) P tr b s'):SZ Z X dr ((i,o)::l) s a P (none::tr) b s':=by subst hs;exact⟨.cons h1 h2.ok,h2.wf,h2.wk,h2.al,λf g=>⟨(h2.Ay f g).h⟩,h2.d,h2.n,h2.kb,h2.fd,h2.fb,h2.nc⟩
theorem PH.skip{a s}{o}(h:PH a s):PH (W7 o none a) {s with e:=match o.dst with|some d=>(d,.un)::s.e|none=>s.e}:=by refine⟨λc=>?_,h.b,h.n,h.nd⟩;cases hd:o.dst with
 |none=>
  have b:(W7 o none a).e=a.e:=by simp[W7,hd]
  rw[b];exact h.e c|some d=>
  have b:(W7 o none a).e=(d,.un)::a.e:=by simp[W7,hd]
  rw[b,R9,R9];cases Nat.beq d c with|true=>exact Wk.refl _|false=>exact h.e c
theorem ZfB{c s}{j t:Nat}{a}(h:PH c s)(i:X[j]?.bind (·.dst)=some t)(f:Ys s.e t=a)(k:Un a=[])(l:a≠.any){d}(hv:∀K H v,YU K H a v->v=match d with|some b=>.bool b|none=>undef):GU X c.e j d:=by
 refine⟨t,i,?_,λK H v g=>hv K H v ?_⟩
 ·rcases h.e t with e|e|e;·grind
  ·grind
  ·exact e.1
 ·have:=(h.e t).xq g;rwa[f]at this
end
section
variable{Z:Xq}{X:List Oper}{dr:Bool}
theorem qT{x}:∀{l}{tr},x∈V6 l tr->(x.1,x.2.1)∈l
 |[],tr,h=>by cases h|y::l,[],h=>by cases h|(i,o)::l,some r::tr,h=>by
  rcases XB (h)with rfl|h;·simp
  ·exact XG _ (qT h)|(i,o)::l,none::tr,h=>XG _ (qT h)
theorem ZbS{a b}:sQ a b=true↔∃j∈a,j∈b:=by unfold sQ;rw[ng];exact⟨λ⟨j,c,d⟩=>⟨j,c,Ln.1 d⟩,λ⟨j,c,d⟩=>⟨j,c,Ln.2 d⟩⟩
theorem Zaj{i}{o}{rd wr}:∀{T},uW X i o rd wr T=true->∀y∈T,(∃j,j∈wr/\(j∈y.rd\/j∈y.wr)\/j∈rd/\j∈y.wr)->y.i∈marks X i (Vv o)
 |[],_,y,hy,_=>Zm|x::T,h,y,hy,d=>by
  simp only[uW,Yv]at h;rcases XB hy with rfl|hy
  ·have a:=h.1;rw[Gx]at a;rcases a with a|a
   ·have⟨j,e⟩:=d;rw[Jg]at a;rcases e with⟨b,c⟩|⟨b,c⟩;·have:=ZbS.2 ⟨j,b,Yd c⟩;grind
    ·have:=ZbS.2 ⟨j,b,c⟩;grind
   ·grind
  ·exact Zaj h.2 y hy d
theorem trN{l}{a b}{tr}{N}(h:TQ Z X l a tr b):(∀x∈V6 l tr,x.2.2.f.n<=N)->a.n<=N->b.n<=N:=by induction h with|nil=>grind|@cons x l a b f tr h1 _ e=>obtain⟨i,j⟩:=x;intro c g;cases f with|none=>exact e (λx d=>c x d) g|some f=>exact e (λx d=>c x (XG _ d)) (c _ XP)
theorem Zsx{l}{a g}{tr}(h:TQ Z X l a tr g):Wf a->(∀x∈V6 l tr,x.2.2.f.r=[])->(∀j v,ZF a.b j=some v->ZF g.b j=some v)/\∀t,(∀x∈l,x.2.dst≠some t)->Ys g.e t=Ys a.e t:=by induction h with|nil=>exactλ_ _=>⟨λ_ _ h=>h,λ_ _=>rfl⟩|@cons x l a g r tr h1 _ F=>obtain⟨s,c⟩:=x;intro n o;have E:=AB h1 n;cases r with
  |none=>obtain⟨u,w⟩:=F E λx p=>o x p;refine⟨u,λt f=>?_⟩;rw[w t λy q=>f y (XG _ q)];cases i:c.dst with|none=>simp[W7,i]|some H=>
    have I:(W7 c none a).e=(H,.un)::a.e:=by simp[W7,i]
    show Ys (W7 c none a).e t=_;rw[I,R9,beq_false λe=>(f (s,c) XP) (by rw[<-e];exact i)];rfl
  |some r=>obtain⟨u,w⟩:=F E λx p=>o x (XG _ p);have m:r.f.r=[]:=o (s,c,r) XP;cases h1 with|ex M N O P G Q=>
    have B:=Lq G;have A:∀d∈r.f.w,r.n<=d.1/\d.1<r.f.n:=λd k=>by
     rcases B.w d k with⟨T,C,_⟩|h;·rw[m]at C;cases C
     ·exact h
    have S:=B.lt;refine⟨λj v D=>u j v ?_,λt f=>?_⟩
    ·show ZF (a.app c.dst r.f).b j=some v;rw[AG,m];have L:ZF r.f.w j=none:=by cases hb:ZF r.f.w j with|none=>rfl|some U=>have z:=A _ (W8 hb);have R:r.n<=j/\j<r.f.n:=z;have J:j<a.n\/500<=j:=n.ids _ (W8 D);omega
     rw[L];exact D
    ·rw[w t λy q=>f y (XG _ q)];show Ys (a.app c.dst r.f).e t=_;rw[PN,Rl,Yg (f (s,c) XP),m,UW,CD λd k K=>?_];·rfl
     ·have z:=A d k;have J:=n.len t _ K;omega
theorem Zbq{t}:∀{l}{e},Ys (JV l e) t=Ys e t/\(∀x∈l,x.2.dst≠some t)\/Wk .any (Ys (JV l e) t)/\Ys (JV l e) t=.any
 |[],e=>.inl ⟨rfl,Zb⟩|(i,o)::l,e=>by
  show Ys (JV l _) t=Ys e t/\_\/Wk _ (Ys (JV l _) t)/\Ys (JV l _) t=.any;rcases Zbq (t:=t) (l:=l) (e:=match o.dst with|some a=>(a,.any)::e|none=>e)with⟨b,f⟩|h;·cases hd:o.dst with|none=>grind|some a=>
    rw[hd]at b;by_cases c:a=t
    ·subst c;have d:Ys ((a,SV.any)::e) a=.any:=by rw[R9];simp[wM]
     refine .inr ⟨?_,Zm⟩;rw[b,d];exact Wk.refl _
    ·refine .inl ⟨b.trans<|by rw[R9,beq_false c];rfl,λx g=>Zm⟩
  ·grind
theorem Zka{g}{s j k x i:XS}{tr}{A}{y:Bool}(H:Wf j)(f:PH j s)(w:TQ Z X g j tr k)(q:BP dr A g tr)(D:PH k x)(z:s.n<=A.2)(I:Mw .bool (Ys x.e (JW g)) some=some y)(C:i.e=(JW g,.v ⟨.bool,y⟩)::JV g s.e)(r:i.b=s.b)(E:i.n=A.2):PH k i:=by
 obtain⟨J,K⟩:=Zsx w H λp o=>(q.h p o).1;refine⟨λt=>?_,λu v G=>J u v (f.b u v (by rw[<-r];exact G)),?_,by rw[r];exact f.nd⟩
 ·rw[C,R9]
  cases B:Nat.beq (JW g) t with|true=>
   have F:=Xu B;subst F;rw[TP];have d:=D.e (JW g);rcases Znc I with m|m;·rwa[m]at d
   ·rw[m]at d;have n:∀b a v,YU b a (.v ⟨.bit y,()⟩) v->YU b a (.v ⟨.bool,y⟩) v:=by rintro b a v⟨L,⟨_,rfl⟩,rfl⟩;exact⟨_,⟨rfl,rfl⟩,rfl⟩
    rcases d with c|c|c;·refine .inr (.inr ⟨by rw[<-c];rfl,rfl,λb a v M=>n b a v ?_⟩);grind
    ·cases c
    ·exact .inr (.inr ⟨c.1,rfl,Zm⟩)|false=>
   rw[TO];rcases Zbq (t:=t) (l:=g) (e:=s.e)with⟨d,n⟩|⟨_,h⟩;·rw[d,K t n];exact f.e t
   ·rw[h];exact Wk.any _
 ·rw[E];exact trN w (λp o=>(q.h p o).2.1) (WX f.n z)
end
section
variable{Z:Xq}{X:List Oper}{dr:Bool}
theorem aa{g}{s}:s.n<=(Nd dr g s).2:=by
 unfold Nd;split;·simp
 ·simp
theorem ZiQ{g}{tr}{P}{T}{A}(e:dr=true)(h:Dr T P)(d:BP dr A g tr):Dr (dt A.1 g T) (V6 g tr++P):=by
 intro a hx;rcases Z1 hx with hx|hx;·obtain⟨l,_,b⟩:=d.h a hx;obtain⟨m,c⟩:=b e;refine⟨⟨a.1,A.1,[]⟩,Yd (.inl (Pt ⟨(a.1,a.2.1),qT hx,rfl⟩)),rfl,c,λn f=>?_⟩;unfold Qm at f;grind
 ·have⟨k,i,j⟩:=h a hx;exact⟨k,Yd (.inr i),j⟩
theorem SZ.group{g r}{s u f F x E w s'}{P}{k tr}(o:SZ Z X dr g F u P k x E)(B:BP dr (Nd dr g s) g k)(n:mQ s=true)(a:SZ Z X dr r f x (V6 g k++P) tr w s')(y:f.al=s.al)(z:f.d=s.d)(G:f.n=(Nd dr g s).2)(l:f.b=s.b):SZ Z X dr (g++r) s u P (k++tr) w s':=by
 have j:=o.ok.len;refine⟨o.ok.append a.ok,a.wf,a.wk,a.al.trans y,λC A=>⟨λc hx=>?_⟩,⟨λb e=>a.d.1 b (by rw[z];exact e),λc hx D q=>?_⟩,?_,λb v t e=>a.kb b v (by rw[l];exact t) e,λb d e=>by rw[<-z,<-l];exact a.fd b d e,λb v d t=>by rw[<-l];exact a.fb b v d t,λp=>⟨NC.append j (o.nc p).1 (a.nc p).1,λc hx=>(a.nc p).2 c ?_⟩⟩
 ·rw[xe j]at hx;rcases Z1 hx with hx|hx;·obtain⟨d,i,m⟩:=B.h c hx;unfold mQ at n;unfold Nd at i m;rw[A]at n i m;exact⟨d,WX i (Dd▸n),m⟩
  ·exact(a.Ay C (y.trans A)).h c hx
 ·rw[xe j]at hx;rcases Z1 hx with hx|hx;·rw[(B.h c hx).1]at q;cases q
  ·exact a.d.2 c hx D q
 ·have:=a.n;have i:=aa (dr:=dr) (g:=g) (s:=s);omega
 ·rw[xe j]at hx;grind
theorem ZlZ(y6:∀fc∈Z.tb,UG Z fc)(y4:∀g tv,Rs Z.gl g=some tv->tv.t.nh=true)(y0:IF Z):∀(m){R}(l)(s)(k)(r),QH Z X dr m R l s k=some r->∀(h)(P),Wf h->PH h s->(dr=true->Dr s.tr P)->∃tr o s',k s'=some r/\SZ Z X dr l s h P tr o s':=by intro m;induction m with|zero=>intro R l s k r i;cases i|succ m N=>intro R l s k r i h P D n L;cases l with|nil=>exact⟨[],h,s,i,SZ.nil D n L⟩|cons F l=>
   obtain⟨E,c⟩:=F;have xs:Nq Z s.e s.b s.n (λf=>pS X dr E c s f λs=>QH Z X dr m R l s k) c.op=some r->vu X c h.e->∃tr o s',k s'=some r/\SZ Z X dr ((E,c)::l) s h P tr o s':=by
    intro i x;obtain⟨f,B,G,hJ⟩:=ZlX (Z:=Z) y6 y4 y0 i;unfold pS at B;obtain⟨x4,z⟩:=Yk B;rw[Yv]at x4;obtain⟨x1,K⟩:=x4;have M:Jv Z X c h (some ⟨s.e,s.n,f⟩):=.ex n.e n.n ⟨G.le,λx2 hp=>n.b _ _ (G.r x2 hp),λx2 hp=>n.b _ _ (G.rd x2 hp),G.nd⟩ hJ x1 x;have xk:Wf (h.app c.dst f):=AB M D;have W:PH (h.app c.dst f) (s.app c.dst f):=n.app D (Lq x1) n.n;have x7:∀a v,ZF s.b a=some v->a∉f.r.map (·.1)->ZF (s.app c.dst f).b a=some v:=by
     intro a v hv C;rw[AG];have T:=Lq x1;have hn:ZF f.w a=none:=by cases hb:ZF f.w a with|none=>rfl|some J=>
       rcases T.w _ (W8 hb)with⟨I,hq,e⟩|⟨B,z⟩;·exact absurd (by rw[<-show I.1=a from e];exact VC (f:=(·.1)) hq) C
       ·have h3:=D.ids _ (W8 (n.b a v hv));have q:=n.n;have j:=T.lt;have y7:s.n<=a:=B;have y8:a<f.n:=z;have y9:a<h.n\/500<=a:=h3;omega
     rw[hn,L8 λx2 hp e=>C (by rw[<-e];exact VC (f:=(·.1)) hp)];exact hv
    have x6:∀a v,1000<=a->ZF (s.app c.dst f).b a=some v->∃v,ZF s.b a=some v:=by
     intro a v B hv
     rw[AG]at hv;cases hb:ZF f.w a with|some J=>
      have T:=Lq x1;rcases T.w _ (W8 hb)with⟨I,hq,e⟩|⟨h3,q⟩;·exact⟨I.2,by rw[<-show I.1=a from e];exact G.r I hq⟩
      ·have:=T.lt;have yf:a<f.n:=q;omega|none=>rw[hb,ce]at hv;exact⟨v,JC hv⟩
    cases U:dr with|true=>
     subst U;rw[TP]at z;obtain⟨y1,h3⟩:=Yk z;have x5:=L rfl;have y3:∀F∈P,DR F (E,c,⟨s.e,s.n,f⟩)->F.1∈marks X E (Vv c):=by
      intro F hx⟨a,C⟩;obtain⟨Q,hy,e1,y,e3⟩:=x5 F hx;rw[<-e1];refine Zaj y1 Q hy<|⟨a,?_⟩;rcases C with⟨x3,b⟩|⟨x3,b⟩;·exact .inl ⟨x3,b.imp (y a) (e3 a)⟩
      ·exact .inr ⟨x3,e3 a b⟩
     obtain⟨tr,o,s',q,j⟩:=N l _ k r h3 (h.app c.dst f) ((E,c,⟨s.e,s.n,f⟩)::P) xk ⟨W.e,W.b,W.n,W.nd⟩ (λ_ F hx=>by
      rcases XB hx with rfl|hx;·exact⟨_,XP,rfl,λa C=>C,λa C=>C⟩
      ·obtain⟨Q,hy,I⟩:=x5 F hx;exact⟨Q,XG _ hy,I⟩);exact⟨_,o,s',q,by refine SZ.step M rfl rfl ?_ ?_ ?_ K (λ_=>y3) ?_ G.r ?_ j<;>first|rfl|exact x7|exact x6⟩|false=>
     subst U;rw[TO]at z;obtain⟨tr,o,s',q,j⟩:=N l _ k r z (h.app c.dst f) ((E,c,⟨s.e,s.n,f⟩)::P) xk W λi=>by cases i
     exact⟨_,o,s',q,SZ.step M rfl rfl rfl rfl rfl K (λi=>by cases i) x7 G.r x6 j⟩
   have skip:QH Z X dr m R l {s with e:=match c.dst with|some d=>(d,.un)::s.e|none=>s.e} k=some r->vr X c h.e->∃tr o s',k s'=some r/\SZ Z X dr ((E,c)::l) s h P tr o s':=by intro i x;have M:Jv Z X c h none:=.no x;obtain⟨tr,o,s',q,j⟩:=N l _ k r i (W7 c none h) P (AB M D) n.skip L;exact⟨_,o,s',q,SZ.skip M rfl j⟩
   unfold QH at i;cases x:c.guard with|none=>rw[x]at i;exact xs i (.inl x)|some jw=>
    obtain⟨a,O⟩:=jw;rw[x]at i;obtain⟨hs,p⟩:=Yk i;clear i;obtain⟨t,ht⟩:=nG hs;have y2:Hk X a=t:=by unfold Hk;rw[ht];rfl
    rw[y2]at p;split at p
    ·rename_i b J V;have x9:GU X h.e a (some b):=ZfB n ht V rfl (by intro i;cases i) λw u v H=>by obtain⟨cs,⟨_,rfl⟩,rfl⟩:=H;rfl
     cases hb:(b==O)with|true=>
      rw[hb]at p;have:b=O:=by simpa using hb
      subst this;exact xs p (.inr ⟨a,b,x,x9⟩)|false=>
      rw[hb]at p;have:b=!O:=by revert hb;cases b<;>cases O<;>simp
      subst this;exact skip p ⟨a,O,x,.inl x9⟩
    ·rename_i V;exact skip p ⟨a,O,x,.inr (ZfB n ht V rfl (by intro i;cases i) λw u v H=>H)⟩
    ·rename_i b V;have x0:PH h (EC t b s):=by
      refine⟨λJ=>?_,n.b,n.n,n.nd⟩;show Wk (Ys h.e J) (Ys ((t,.v ⟨.bit b,()⟩)::s.e) J)
      rw[R9];cases xv:Nat.beq t J with|true=>
       have:=Xu xv;subst this;rw[TP];have z:∀w u v,YU w u (.v ⟨.bool,b⟩) v->YU w u (.v ⟨.bit b,()⟩) v:=by rintro w u v⟨cs,⟨_,rfl⟩,rfl⟩;exact⟨_,⟨rfl,rfl⟩,rfl⟩
       have B:=n.e t;rw[V]at B;rcases B with y|y|y;·refine .inr (.inr ⟨by rw[<-y];rfl,rfl,λw u v H=>z w u v ?_⟩);rwa[<-y]at H
       ·cases y
       ·exact .inr (.inr ⟨y.1,rfl,λw u v H=>z w u v (y.2.2 w u v H)⟩)|false=>exact n.e J
     cases x8:PZ Z.sp t with|true=>
      rw[x8,TP]at p;have h8:QH Z X dr m R ((E,c)::l) (EC t b s) k=some r:=by cases b with|true=>rwa[WU]at p|false=>rwa[Wi]at p
      obtain⟨tr,o,s',q,j⟩:=N _ _ k r h8 h P D x0 L;exact⟨tr,o,s',q,j.ok,j.wf,j.wk,j.al,j.Ay,j.d,j.n,j.kb,j.fd,j.fb,j.nc⟩|false=>
      rw[x8,TO]at p;split at p;·cases p
      ·rename_i g r' y5;obtain⟨hB,h8⟩:=Yk p;obtain⟨Q,h7,h6⟩:=U3 h8;have j:QH Z X dr m Bool g {EC t b s with al:=some (Nd dr g s)} (λs'=>Mw .bool (Ys s'.e (JW g)) some)=some Q:=by cases b with|true=>rwa[WU]at h7|false=>rwa[Wi]at h7
       obtain⟨tg,Sg,sg,hy,S⟩:=N g _ _ Q j h P D ⟨x0.e,x0.b,x0.n,x0.nd⟩ L;have K:BP dr (Nd dr g s) g tg:=S.Ay _ rfl;obtain⟨tr,o,s',q,hT⟩:=N r' _ k r h6 Sg (V6 g tg++P) S.wf (Zka (s:=s) (A:=Nd dr g s) D n S.ok K S.wk aa hy rfl rfl rfl) λU=>by show Dr (bif dr then dt (Nd dr g s).1 g s.tr else s.tr) _;rw[U,TP];subst U;exact ZiQ rfl (L rfl) K
       rw[Zfv y5];exact⟨_,o,s',q,SZ.group S K hB hT rfl rfl rfl rfl⟩
    ·cases p
end
structure Sr where
 N:Nat
 hx:HP
 w0:World
 m0:YD
 b0:List Nat
def YQ(H:HM)(b:Bx):HP:=b.flatMap λa=>(H a.1).getD []
theorem FJ{H}{p}{b:Bx}:YQ H (p::b)=(H p.1).getD []++YQ H b:=rfl
theorem Mm{H}{a b}:YQ H (a++b)=YQ H a++YQ H b:=by simp[YQ]
theorem Hq{H}{a b}(h:a.Perm b):(YQ H a).Perm (YQ H b):=by induction h with|nil=>simp|cons d _ c=>exact VA _ c|swap d f e=>simp[FJ];rw[<-Z5,<-Z5];exact XJ.append_right _|trans _ _ h1 h2=>exact h1.trans h2
theorem Ho{H H'}{b}(h:∀p∈b,H' p.1=H p.1):YQ H' b=YQ H b:=by induction b with|nil=>rfl|cons p b a=>rw[FJ,FJ,h p XP,a λc d=>h c Zm]
theorem zB{H}{b}{p}{h}(a:p∈b)(e:H p.1=some h):∀x∈h,x∈YQ H b:=λx c=>by unfold YQ;grind
theorem ZhY{b}{j}(h:∀p∈b,p.1≠j):Vi b j=b:=by induction b with|nil=>rfl|cons p b c=>obtain⟨a,v⟩:=p;show(bif Nat.beq a j then Vi b j else(a,v)::Vi b j)=_;rw[beq_false (h _ XP),TO,c λd e=>h d Zm]
theorem Zmr{b}{j}{v}(c:(b.map (·.1)).Nodup)(h:ZF b j=some v):b.Perm ((j,v)::Vi b j):=by induction b with|nil=>cases h|cons g b f=>obtain⟨a,e⟩:=g;rw[XF,T9]at c;rw[Mb]at h;show((a,e)::b).Perm ((j,v)::bif Nat.beq a j then Vi b j else(a,e)::Vi b j);cases hb:Nat.beq a j with|true=>rw[hb]at h;cases h;have d:=Xu hb;subst d;rw[TP,ZhY λk i d=>c.1 Zm]|false=>rw[hb]at h;exact(OY _ (f c.2 h)).trans (List.Perm.swap _ _ _)
theorem Ee{b}:∀{r},(b.map (·.1)).Nodup->(r.map (·.1)).Nodup->(∀p∈r,ZF b p.1=some p.2)->b.Perm (r++X0 r b)
 |[],_,_,_=>V8 _|(j,v)::r,c,a,h=>by
  rw[XF,T9]at a;have g:ZF (X0 r b) j=some v:=by rw[L8 λp d e=>a.1 (by rw[<-e];exact VC (f:=(·.1)) d)];exact h _ XP
  refine(Ee c a.2 λp d=>h p Zm).trans ((VA r (Zmr (KF c) g)).trans List.perm_middle)
theorem pC{K}{H}:∀{l},(∀p∈l,∃h,H p.1=some h/\Wg K p.1 p.2 h)->ZH K l (YQ H l)|[],_=>trivial|p::l,h=>by have⟨b,a,c⟩:=h p XP;exact⟨b,YQ H l,by rw[FJ,a];exact V8 _,c,pC λd e=>h d Zm⟩
theorem xz{K}:∀{l}{hs},(l.map (·.1)).Nodup->ZH K l hs->∃(H:HM)(rest:HP),(∀p∈l,∃h,H p.1=some h/\Wg K p.1 p.2 h)/\hs.Perm (YQ H l++rest)|[],hs,_,_=>⟨λ_=>none,hs,Zb,V8 _⟩|(j,v)::l,hs,a,⟨h1,h2,e,hb,f⟩=>by rw[XF,T9]at a;obtain⟨H,rest,k,g⟩:=xz a.2 f;have d:∀p∈l,p.1≠j:=λp b i=>a.1 Zm;refine⟨λc=>if c=j then some h1 else H c,rest,λp b=>Zm,?_⟩;·rw[FJ,Ho (H:=H) λp b=>by simp[Yg (d p b)]];simp only[Sc,nF];rw[Z5];exact e.trans (VA _ g)
theorem ZlH{H}{b}{p}{h}(c:(HP.bs (YQ H b)).Nodup)(a:p∈b)(e:H p.1=some h):(HP.bs h).Nodup:=by induction b with|nil=>cases a|cons f b d=>
  rw[FJ,HP.XL,TM]at c;rcases XB a with rfl|a;·have:=c.1;rwa[e]at this
  ·grind
theorem Zi7{H}{b}{p q}{h h'}(a:(HP.bs (YQ H b)).Nodup)(m:p∈b)(k:q∈b)(o:p.1≠q.1)(e:H p.1=some h)(g:H q.1=some h'):∀x∈h,x∉h':=by induction b with|nil=>grind|cons r b n=>
  rw[FJ,HP.XL,TM]at a;intro x d f;rcases XB m with l|j
  ·rcases XB k with i|c;·grind
   ·rw[<-l]at a;exact a.2.2 _ (Pt ⟨x,by rw[e];exact d,rfl⟩) _ (Pt ⟨x,zB c g x f,rfl⟩) rfl
  ·rcases XB k with i|c;·rw[<-i]at a;exact a.2.2 _ (Pt ⟨x,by rw[g];exact f,rfl⟩) _ (Pt ⟨x,zB j e x d,rfl⟩) rfl
   ·exact n a.2.1 j c x d f
theorem GD.zm{m e}{h1 h1' h2:HP}{w w'}(c:GD m (h1++h2) w)(g:ZG w w' m e h1.bs h1'.bs):∀b∈HP.bs h2,∀o,e b o=m b o:=λb a o=>by have d:=c.nodup;rw[HP.XL,TM]at d;exact(g.Wa b (c.QF (by rw[HP.XL];exact Yd (.inr a))) λf=>d.2.2 b f b a rfl).2 o
theorem Y0.zm{w}{K K'}{h1 h1' h2}(a:Y0 w K h1 K' h1')(c:GD K.m (h1++h2) w):∀b∈HP.bs h2,∀o,K'.m b o=K.m b o:=GD.zm c (a.step c.left).2
structure MS(Z:Xq)(β:Sr)(S:XS)(FN:Nat->Prop)(K:KK)(H:HM)(a:Act)(w:World):Prop where
 nd:(S.b.map (·.1)).Nodup
 own:∃hd,GD K.m (YQ H S.b++(hd++β.hx)) w/\ZG β.w0 w β.m0 K.m β.b0 (HP.bs (YQ H S.b++(hd++β.hx)))gl:O7 Z K
 bx:∀p∈S.b,∃h,H p.1=some h/\Wg K p.1 p.2 h
 ev:∀t,YU K H (Ys S.e t) (a.tmps.getD t undef)fr:∀i,FN i->K.nm i=none
 YM:Yt K S.b
 sz:a.tmps.size=β.N
 df:a.defers=[]fx:∀b∈HP.bs β.hx,∀o,K.m b o=β.m0 b o
structure NS(T U:Nat->Prop)(K:KK)(H:HM)(K':KK)(H':HM):Prop where
 le:K.le K'
 hk:∀j,¬T j->H' j=H j
 fk:∀f,¬T (Yj f)->K'.fm f=K.fm f
 nm:∀i,¬U i->K'.nm i=K.nm i
theorem NS.refl(T U)(K)(H):NS T U K H K H:=⟨KK.le.refl K,λ_ _=>rfl,λ_ _=>rfl,λ_ _=>rfl⟩
theorem NS.trans{T e f U g i}{K d K2}{H c H2}(h:NS e g K H d c)(k:NS f i d c K2 H2)(h1:∀j,e j->T j)(h2:∀j,f j->T j)(p:∀j,g j->U j)(q:∀j,i j->U j):NS T U K H K2 H2:=⟨h.le.trans k.le,λj o=>(k.hk j λa=>o (h2 j a)).trans (h.hk j λa=>o (h1 j a)),λl m=>(k.fk l λa=>m (h2 _ a)).trans (h.fk l λa=>m (h1 _ a)),λb n=>(k.nm b λa=>n (q b a)).trans (h.nm b λa=>n (p b a))⟩
section
variable{Z:Xq}{β:Sr}{S:XS}{X:Nat->Prop}{K:KK}{H:HM}{a:Act}{w:World}
theorem MS.op(h:MS Z β S X K H a w){o}{r:IK}(y4:∀x∈o.op.operands.toList,YU K H (ZW r.e x) (a.eval x))(Q:∀p∈r.f.r,ZF S.b p.1=some p.2)(x0:∀p∈r.f.rd,ZF S.b p.1=some p.2)(y1:(r.f.r.map (·.1)).Nodup)(hJ:GK Z o r.e r.n r.f)(C:vE r.n r.f)(y8:r.n<=r.f.n)(xv:∀p∈S.b,p.1<r.n\/500<=p.1\/∀q∈r.f.w,q.1=p.1->∃x∈r.f.r,x.1=p.1)(xk:∀i,r.n<=i->i<r.f.n->X i)(x9:∀d,o.dst=some d->d<β.N):TE Z.P (λv w'=>∃K' H',MS Z β (S.app o.dst r.f) (λi=>X i/\¬(r.n<=i/\i<r.f.n)) K' H' (a.put o.dst v) w'/\NS (λj=>j∈Qm r.f) (λi=>r.n<=i/\i<r.f.n) K H K' H') ((execOp a.eval o).run Z.P w):=by
 obtain⟨g,G,N⟩:=h.own;have O:=Ee h.nd y1 Q;have y5:(YQ H S.b++(g++β.hx)).Perm (YQ H r.f.r++(YQ H (X0 r.f.r S.b)++(g++β.hx))):=by rw[<-Z5 (YQ H r.f.r),<-Mm];exact(Hq O).append_right _
 have U:(HP.bs (YQ H S.b)).Nodup:=G.left.nodup;have y:∀p∈r.f.rd,p∈S.b:=λp c=>W8 (x0 p c);have P:(YQ H S.b++(g++β.hx)).Perm (YQ H r.f.r++YQ H (X0 r.f.r S.b)++(g++β.hx)):=by rw[<-Mm];exact(Hq O).append_right _
 have y6:TD Z r.e r.n r.f o.op.operands.toList K H (YQ H r.f.r) (YQ H (X0 r.f.r S.b)) a w:=by
  refine⟨(G.perm P).left,h.gl,pC λp c=>h.bx p (W8 (Q p c)),λp c=>?_,λp c z n e x hx=>?_,y4,λi B h2=>h.fr i (xk i B h2),Nat.le_of_lt C.lt,h.YM.sub λp c=>W8 (Q p c),λp c q z y2 n g' e e' x hx=>Zi7 U (y p c) (y q z) y2 e e' x hx,h.YM.sub y,λp c n e=>ZlH U (y p c) e⟩;·obtain⟨n,e,s⟩:=h.bx p (y p c);refine⟨n,e,s,λx hx=>?_⟩;rw[<-Mm];exact(Hq (H:=H) O).mem_iff.1 (zB (y p c) e x hx)
  ·have x7:ZF (X0 r.f.r S.b) p.1=some p.2:=by rw[L8 z];exact x0 p c
   exact zB (W8 x7) e x hx
 refine(hJ K H _ _ a w y6).mono<|λv w'⟨K',D,l⟩=>?_;obtain⟨x4,x2⟩:=GD.frame (G.perm P) l.gd l.Kj;have x5:GD K'.m (D++(YQ H (X0 r.f.r S.b)++(g++β.hx))) w':=by rw[<-Z5];exact x4
 have x3:ZG w w' K.m K'.m (HP.bs (YQ H r.f.r++(YQ H (X0 r.f.r S.b)++(g++β.hx)))) (HP.bs (D++(YQ H (X0 r.f.r S.b)++(g++β.hx)))):=by
  have J:YQ H r.f.r++(YQ H (X0 r.f.r S.b)++(g++β.hx))=YQ H r.f.r++YQ H (X0 r.f.r S.b)++(g++β.hx):=by simp only[Z5]
  have e2:D++(YQ H (X0 r.f.r S.b)++(g++β.hx))=D++YQ H (X0 r.f.r S.b)++(g++β.hx):=by simp only[Z5]
  rw[J,e2];exact x2
 obtain⟨A,x1,k1,k2⟩:=xz C.nd l.sw;have I:=l.mv.le;obtain⟨H',R⟩:∃H':HM,H'=λj=>if j∈r.f.w.map (·.1)then A j else H j:=⟨_,rfl⟩;have T:∀p∈r.f.w,H' p.1=A p.1:=λp c=>by rw[R];show(if p.1∈r.f.w.map (·.1)then A p.1else H p.1)=_;rw[YW (VC (f:=(·.1)) c)]
 have E:∀j,j∉r.f.w.map (·.1)->H' j=H j:=λj m=>by rw[R];show(if j∈r.f.w.map (·.1)then A j else H j)=_;rw[Yg m]
 have M:∀p∈X0 r.f.r S.b,p.1∉r.f.w.map (·.1):=by
  intro p c u;obtain⟨q,z,e⟩:=Uj u;have V:=L7 (Oy (KF h.nd) c);rcases C.w q z with⟨x,hx,L⟩|⟨n1,n2⟩;·exact V x hx (L.trans e)
  ·have y9:=C.lt;rcases xv p (Kg p c)with B|B|B;·omega
   ·omega
   ·obtain⟨x,hx,L⟩:=B q z e;exact V x hx L
 have x6:YQ H' (r.f.w++X0 r.f.r S.b)=YQ A r.f.w++YQ H (X0 r.f.r S.b):=by rw[Mm,Ho T,Ho λp c=>E p.1 (M p c)]
 have W:(D++(YQ H (X0 r.f.r S.b)++(g++β.hx))).Perm (YQ H' (r.f.w++X0 r.f.r S.b)++(x1++g++β.hx)):=by rw[x6];classical rw[VS]at k2⊢;intro y7;have:=k2 y7;simp only[VR]at this⊢;omega
 refine⟨K',H',⟨?_,⟨x1++g,x5.perm W,N.trans (ZG.RB y5 (ZG.QI W x3))⟩,h.gl.mono I,λp c=>?_,λk=>?_,λi t=>by rw[l.mv.nm i t.2];exact h.fr i t.1,?_,by rw[Rc];exact h.sz,by rw[Nu];exact h.df,λb s o=>((GD.zm (G.perm P) l.Kj) b (by rw[HP.XL];exact Yd (.inr s)) o).trans (h.fx b s o)⟩,I,λj m=>E j λu=>m (Yd (.inr u)),λf N=>l.fk f λp c e=>N (by rw[<-e];exact Yd (.inl (VC (f:=(·.1)) c))),λi t=>l.mv.nm i t⟩;·show((r.f.w++X0 r.f.r S.b).map (·.1)).Nodup;rw[Vg,TM];refine⟨C.nd,KF h.nd,λi t j m e=>?_⟩;subst e;obtain⟨p,c,e⟩:=Uj m;exact M p c (by rw[e];exact t)
 ·rcases Z1 (show p∈r.f.w++X0 r.f.r S.b from c)with c|c;·obtain⟨n,e,s⟩:=k1 p c;exact⟨n,(T p c).trans e,s⟩
  ·obtain⟨n,e,s⟩:=h.bx p (Kg p c);exact⟨n,(E p.1 (M p c)).trans e,s.mono I⟩
 ·rw[PN];cases u:SO (r.f.r++r.f.w) (Rl o.dst r.f.v k (Ys S.e k))with|true=>trivial|false=>
   rw[TO];have y3:∀j∈Un (Rl o.dst r.f.v k (Ys S.e k)),H' j=H j:=by
    refineλj m=>E j λy0=>?_;obtain⟨p,c,e⟩:=Uj y0;have:SO (r.f.r++r.f.w) (Rl o.dst r.f.v k (Ys S.e k))=true:=by cases hs:Rl o.dst r.f.v k (Ys S.e k)with|bv js tv=>rw[hs]at m;exact BB ⟨p,Yd (.inr c),Ln.2 (by rw[e];exact m)⟩|_=>rw[hs]at m;cases m
    rw[u]at this;cases this
   refine YU.boxes y3 ?_;unfold Rl;split;·rename_i F;rw[F,P6 (by rw[h.sz];exact x9 k F)];exact l.v
   ·rename_i F;have J:(a.put o.dst v).tmps.getD k undef=a.tmps.getD k undef:=by cases x8:o.dst with|none=>rfl|some d=>exact Nv λe=>F (by rw[x8,e])
    rw[J];exact(h.ev k).mono I
 ·show Yt K' (r.f.w++X0 r.f.r S.b);refine Yt.append l.YM λf k xs u i t=>?_;rw[l.fk f λp c e=>L7 (Oy (KF h.nd) u) p c e];exact h.YM f k xs (Kg _ u) i t
theorem MS.skip(h:MS Z β S X K H a w){o:Oper}(f:∀d,o.dst=some d->d<β.N):MS Z β (W7 o none S) X K H (a.put o.dst undef) w:=by
 refine⟨h.nd,h.own,h.gl,h.bx,λc=>?_,h.fr,h.YM,by rw[Rc];exact h.sz,by rw[Nu];exact h.df,h.fx⟩
 cases hd:o.dst with|none=>
  have b:(W7 o none S).e=S.e:=by simp[W7,hd]
  rw[b];exact h.ev c|some d=>
  have b:(W7 o none S).e=(d,.un)::S.e:=by simp[W7,hd]
  rw[b,R9];cases hb:Nat.beq d c with|true=>have:=Xu hb;subst this;rw[P6 (by rw[h.sz];exact f d hd)];exact rfl|false=>rw[Nv λe=>XA];exact h.ev c
end
theorem Zcq{K}{H}{e}{a:Act}(h:∀t,YU K H (Ys e t) (a.tmps.getD t undef))(x):YU K H (ZW e x) (a.eval x):=by cases x with|tmp t=>exact h t|const v=>exact YU.JZ (aN v)|global c=>exact YU.JZ rfl|func b=>exact⟨[_],⟨rfl,[],[],[],rfl,⟨[],⟨rfl,rfl⟩,rfl,rfl⟩,⟨rfl,rfl⟩,rfl,rfl⟩,rfl⟩
theorem dw{d:List Oper}{tmps}{j t:Nat}(f:d[j]?.bind (·.dst)=some t):(∀b,tmps.getD t undef=.bool b->yielded d.toArray tmps j=some b)/\(tmps.getD t undef=undef->yielded d.toArray tmps j=none):=by
 have e:(d.toArray[j]?.bind (·.dst))=some t:=Zm;constructor
 ·intro b a;unfold yielded;by_cases c:t<tmps.size;·simp_all
  ·simp[Array.getD,c,dite_false]at a;cases a
 ·intro a;unfold yielded;rw[e];by_cases c:t<tmps.size;·simp[BJ,wn c];simp[Array.getD,c,Dj,wq]at a;rw[a];rfl
  ·simp[c]
theorem Za0{b}{o}{e}{K}{H}{a:Act}(h:vu b o e)(c:∀t,YU K H (Ys e t) (a.tmps.getD t undef)):Region.wanted o (yielded b.toArray a.tmps)=true:=by
 rcases h with h|⟨j,i,d,t,f,_,g⟩;·simp[Region.wanted,h]
 ·simp[Region.wanted,d,(dw f).1 i (g K H _ (c t))]
theorem ZaZ{d}{o}{e}{K}{H}{a:Act}(h:vr d o e)(f:∀t,YU K H (Ys e t) (a.tmps.getD t undef)):Region.wanted o (yielded d.toArray a.tmps)=false:=by
 obtain⟨i,j,g,⟨t,b,_,c⟩|⟨t,b,_,c⟩⟩:=h;·simp[Region.wanted,g,(dw b).1 _ (c K H _ (f t))]
 ·simp[Region.wanted,g,(dw b).2 (c K H _ (f t))]
def pW(l:List (Nat×Oper))(tr:Tr)(j:Nat):Prop:=∃a∈V6 l tr,j∈Qm a.2.2.f
def vG(l:List (Nat×Oper))(a a':Act):Prop:=∀b,(∀c∈l,c.2.dst≠some b)->a'.tmps.getD b undef=a.tmps.getD b undef
def Py(n:Nat)(i:Nat):Prop:=n<=i/\i<500
theorem qA{a:Act}{d}{v}{t:Nat}(h:d≠some t):(a.put d v).tmps.getD t undef=a.tmps.getD t undef:=by cases d with|none=>rfl|some d=>exact Nv λb=>h (by rw[b])
section
variable{Z:Xq}{β:Sr}{X:List Oper}{Q:Exit->Act->World->Prop}
theorem MS.wa{d}{b c}{K}{H}{a}{w}(h:MS Z β d b K H a w)(k:∀i,c i->b i):MS Z β d c K H a w:={h with fr:=λi e=>h.fr i (k i e)}
theorem Zl0{l}{j n}{tr}(P:TQ Z X l j tr n):∀{K}{H}{a}{w},Wf j->MS Z β j (Py j.n) K H a w->(∀x∈l,∀d,x.2.dst=some d->d<β.N)->(∀K' H' a' w',MS Z β n (Py n.n) K' H' a' w'->NS (pW l tr) (Py j.n) K H K' H'->vG l a a'->Q .normal a' w')->wpListIn (XX none) 0 Z.P X.toArray Q (l.map (·.2)) a w:=by induction P with|nil=>intro K H a w _ h _ p;exact p K H a w h (NS.refl _ _ _ _) λ_ _=>rfl|@cons x l j n r tr c _ J=>
  obtain⟨b,o⟩:=x;intro K H a w G h D p;have I:=AB c G;have F:=D (b,o) XP
  have E:=λx i=>D x (XG _ i);cases c with|@ex r a1 a2 a3 a4 a5 a6=>
   show if Region.wanted o (yielded X.toArray a.tmps)then _ else _;rw[YW (Za0 a6 h.ev)];refine TE.wp (h.op (o:=o) (r:=r) (λx _=>(Zcq (e:=r.e) (a:=a) (K:=K) (H:=H) λk=>(a1 k).xq (h.ev k)) x) a3.r a3.rd a3.nd a4 (Lq a5) a3.le (λR N=>(G.ids R N).imp (λu=>Y) λu=>.inl u) (λb c S=>⟨Y,by have:=(Lq a5).lt;omega⟩) F) λv w'⟨K',H',M,L⟩=>J I (M.wa λb g=>⟨⟨?_,g.2⟩,λu=>?_⟩) E λs q t C A z B=>p s q t C A (L.trans z (λO y=>⟨(b,o,r),XP,y⟩) (λO⟨x,i,y⟩=>⟨x,XG _ i,y⟩) (λb g=>⟨Y,by have:=(Lq a5).lt;omega⟩) λb g=>⟨by have c:r.f.n<=b:=g.1;have:=a3.le;omega,g.2⟩) λk m=>?_;·have c:r.f.n<=b:=g.1;have:=a3.le;omega
   ·have c:r.f.n<=b:=g.1;omega
   ·rw[B k λx i=>m x (XG _ i)];exact qA (m (b,o) XP)|no c=>show if Region.wanted o (yielded X.toArray a.tmps)then _ else _;rw[Yg (by rw[ZaZ c h.ev];simp)];refine⟨λf _=>FD _ f,J I (h.skip F) E λs q t C A z B=>p s q t C A z λk m=>?_⟩;rw[B k λx i=>m x (XG _ i)];exact qA (m (b,o) XP)
end
def Mi:Option IK->Wc|some a=>a.f|none=>⟨.un,[],[],[],0⟩
structure Ss(s s':XS):Prop where
 b:∀j,ZF s.b j=ZF s'.b j
 e:∀t,Ys s.e t=Ys s'.e t
theorem Ss.refl(s):Ss s s:=⟨λ_=>rfl,λ_=>rfl⟩
theorem Ss.symm{s s'}(h:Ss s s'):Ss s' s:=⟨λa=>(h.b a).symm,λb=>(h.e b).symm⟩
theorem Ss.trans{a b c}(h:Ss a b)(k:Ss b c):Ss a c:=⟨λd=>(h.b d).trans (k.b d),λe=>(h.e e).trans (k.e e)⟩
theorem Zh6{r b}{j}:ZF (X0 r b) j=if j∈r.map (·.1)then none else ZF b j:=by
 split;·rename_i a;have⟨e,d,c⟩:=Uj a;exact Zh7 ⟨e,d,c⟩
 ·rename_i a;exact L8 λe d c=>a Zm
theorem JA{s:XS}{d:Option Nat}{f}{j}:ZF (s.app d f).b j=(ZF f.w j).or (if j∈f.r.map (·.1)then none else ZF s.b j):=by rw[AG,Zh6]
theorem vP{s s'}{d:Option Nat}{f}(h:Ss s s'):Ss (s.app d f) (s'.app d f):=⟨λa=>by rw[JA,JA,h.b],λb=>by rw[PN,PN,h.e]⟩
theorem Nf{s}{o}{r}:Ss (W7 o r s) (s.app o.dst (Mi r)):=by cases r with|some r=>exact Ss.refl _|none=>refine⟨λd=>rfl,λb=>?_⟩;·rw[PN];show Ys (match o.dst with|some a=>(a,SV.un)::s.e|none=>s.e) b=bif SO [] _ then _ else Rl _ .un b _;rw[ZbR];cases hd:o.dst with|none=>rfl|some a=>
    rw[R9];by_cases c:a=b;·simp[Rl,wM]
    ·rw[beq_false c];simp[Rl,c]
def Vk(X:Nat->Bool):List (Nat×Oper)->Tr->XS->XS|(i,o)::l,r::tr,s=>Vk X l tr (bif X i then W7 o r s else s)|_,_,s=>s
theorem xr{X}:∀{l}{tr}{s s'},Ss s s'->Ss (Vk X l tr s) (Vk X l tr s')|[],tr,s,s',h=>by cases tr<;>exact h|(i,o)::l,[],s,s',h=>h|(i,o)::l,r::tr,s,s',h=>by unfold Vk;cases X i with|true=>exact xr ((Nf.trans (vP h)).trans Nf.symm)|false=>exact xr h
theorem ft{X}:∀{l a}{tr b}{s},tr.length=l.length->Vk X (l++a) (tr++b) s=Vk X a b (Vk X l tr s)|[],a,tr,b,s,h=>by rw[MR h];rfl|(i,o)::l,a,r::tr,b,s,h=>ft (l:=l) Zm
theorem pu{X X'}:∀{l}{tr}{s},(∀x∈l,X x.1=X' x.1)->Vk X l tr s=Vk X' l tr s|[],tr,s,_=>by cases tr<;>rfl|(i,o)::l,[],s,_=>rfl|(i,o)::l,r::tr,s,h=>by unfold Vk;rw[h _ XP];exact pu λx a=>h x Zm
theorem ZeZ{Z}{d}{l}{a b}{tr}(h:TQ Z d l a tr b){X}(c:∀x∈l,X x.1=true):Vk X l tr a=b:=by induction h with|nil=>rfl|@cons x l a b r tr _ _ e=>obtain⟨g,i⟩:=x;show Vk X l _ _=_;rw[c _ XP];exact e λx f=>c x Zm
structure cw(o:Oper)(f:Wc)(o':Oper)(f':Wc):Prop where
 d:∀t,o.dst=some t->o'.dst≠some t
 w:∀j∈Qm f,j∉Qm f'/\j∉Un f'.v
 v:∀j∈Qm f',j∉Un f.v
theorem jB{f}{j}:j∈Qm f↔∃p∈f.r++f.w,p.1=j:=by unfold Qm;rw[<-Vg,wG]
theorem ZhN{s:XS}{o o'}{f a}(h:cw o f o' a):Ss ((s.app o'.dst a).app o.dst f) ((s.app o.dst f).app o'.dst a):=by
 refine⟨λg=>?_,λl=>?_⟩
 ·rw[JA,JA,JA,JA];by_cases d:g∈Qm f
  ·have e:=(h.w g d).1;have j:ZF a.w g=none:=by cases hb:ZF a.w g with|none=>rfl|some v=>exact absurd (Yd (.inr (VC (f:=(·.1)) (W8 hb)))) e
   simp only[j,Yg λc=>e (Yd (.inl c)),ce]
  ·have j:ZF f.w g=none:=by cases hb:ZF f.w g with|none=>rfl|some v=>exact absurd (Yd (.inr (VC (f:=(·.1)) (W8 hb)))) d
   simp only[j,Yg λc=>d (Yd (.inl c)),ce]
 ·rw[PN,PN,PN,PN];unfold Rl;by_cases d:o.dst=some l
  ·have e:=h.d l d;simp only[YW d,Yg e];rw[CD (r:=a.r++a.w) (s:=bif SO (f.r++f.w) f.v then SV.any else f.v)];·rfl
   ·intro i k b;cases c:SO (f.r++f.w) f.v with|true=>rw[c]at b;cases b|false=>rw[c]at b;exact h.v i.1 (jB.2 ⟨i,k,rfl⟩) b
  ·simp only[Yg d];by_cases e:o'.dst=some l
   ·simp only[YW e];rw[CD (r:=f.r++f.w)];·rfl
    ·intro i k b;cases c:SO (a.r++a.w) a.v with|true=>rw[c]at b;cases b|false=>rw[c]at b;exact(h.w i.1 (jB.2 ⟨i,k,rfl⟩)).2 b
   ·grind
theorem pz{X}{o}{f}:∀{l}{tr}{s},tr.length=l.length->(∀i o' r,((i,o'),r)∈l.zip tr->X i=true->cw o f o' (Mi r))->Ss (Vk X l tr (s.app o.dst f)) ((Vk X l tr s).app o.dst f)
 |[],tr,s,b,_=>by exact Ss.refl _|(i,o')::l,r::tr,s,b,h=>by
  have c:=by simpa using b
  have a:=λi o' r e=>h i o' r (XG _ e);unfold Vk;cases d:X i with|false=>exact pz c a|true=>refine Ss.trans (xr ((Nf.trans (ZhN (h i _ r XP d)).symm).trans (vP Nf.symm))) (pz c a)
theorem fu{X X'}{j}:∀{l}{tr}{s s'},tr.length=l.length->ZF s.b j=ZF s'.b j->(∀i o r,((i,o),r)∈l.zip tr->X i≠X' i->j∉Qm (Mi r))->ZF (Vk X l tr s).b j=ZF (Vk X' l tr s').b j
 |[],tr,s,s',c,h,_=>by rw[MR c];exact h|(i,o)::l,r::tr,s,s',c,h,hk=>by
  unfold Vk;refine fu (by simpa using c) ?_ λi o r d=>hk i o r (XG _ d);have g:∀a:XS,j∉Qm (Mi r)->ZF (W7 o r a).b j=ZF a.b j:=by
   intro a e;rw[Nf (s:=a) (o:=o) (r:=r).b j,JA];have k:ZF (Mi r).w j=none:=by cases hb:ZF (Mi r).w j with|none=>rfl|some v=>exact absurd (Yd (.inr (VC (f:=(·.1)) (W8 hb)))) e
   rw[k,Yg λd=>e (Yd (.inl d))];rfl
  cases h1:X i with
  |true=>cases h2:X' i with|true=>show ZF (W7 o r s).b j=ZF (W7 o r s').b j;rw[Nf (s:=s) (o:=o) (r:=r).b j,Nf (s:=s') (o:=o) (r:=r).b j,JA,JA,h]|false=>show ZF (W7 o r s).b j=ZF s'.b j;rw[g s (hk i o r XP (by rw[h1,h2];simp))];exact h
  |false=>cases h2:X' i with|true=>show ZF s.b j=ZF (W7 o r s').b j;rw[g s' (hk i o r XP (by rw[h1,h2];simp))];exact h|false=>exact h
theorem Ze0{X}{t}:∀{l:List (Nat×Oper)}{tr:Tr}{s s'},tr.length=l.length->Ys s'.e t=Ys s.e t\/Ys s'.e t=.any->(∀i o r,((i,o),r)∈l.zip tr->X i=false->o.dst≠some t)->Ys (Vk (λ_=>true) l tr s').e t=Ys (Vk X l tr s).e t\/Ys (Vk (λ_=>true) l tr s').e t=.any|[],tr,s,s',a,h,_=>by exact h|(i,o)::l,r::tr,s,s',a,h,hk=>by unfold Vk;refine Ze0 (by simpa using a) ?_ λi o r b=>hk i o r XA;show Ys (W7 o r _).e t=Ys _ t\/Ys (W7 o r _).e t=.any;rw[(Nf).e t,PN];cases h1:X i with|true=>show _=Ys (W7 o r s).e t\/_;rw[(Nf).e t,PN];unfold Rl;grind|false=>unfold Rl;rw[Yg (hk i o r XP h1)];cases SO ((Mi r).r++(Mi r).w) (Ys s'.e t)<;>grind
theorem fv{X}{t:Nat}:∀{l:List (Nat×Oper)}{tr:Tr}{s},tr.length=l.length->(∀i o r,((i,o),r)∈l.zip tr->X i=true->o.dst≠some t)->Ys (Vk X l tr s).e t=Ys s.e t\/∃i o r,((i,o),r)∈l.zip tr/\X i=true/\∃j∈Qm (Mi r),j∈Un (Ys s.e t)
 |[],tr,s,q,_=>by exact .inl rfl|(i,o)::l,r::tr,s,q,hk=>by
  have u:=by simpa using q
  unfold Vk;have p:=λi o r a=>hk i o r (XG _ a);cases h1:X i with
  |true=>
   have m:Ys (W7 o r s).e t=bif SO ((Mi r).r++(Mi r).w) (Ys s.e t)then .any else Ys s.e t:=by rw[Nf (s:=s) (o:=o) (r:=r).e t,PN,Rl,Yg (hk i o r XP h1)]
   cases a:SO _ (Ys s.e t)with|true=>obtain⟨v,z,y⟩:=Zlm a;exact .inr ⟨i,o,r,XP,h1,v.1,jB.2 ⟨v,z,rfl⟩,y⟩|false=>
    rw[a]at m;have x:Ys (W7 o r s).e t=Ys s.e t:=m;rcases fv (s:=W7 o r s) u p with n|⟨g,h,k,b,c,j,d,f⟩;·grind
    ·exact .inr ⟨g,h,k,XG _ b,c,j,d,by rw[<-x];exact f⟩
  |false=>
   rcases fv (s:=s) u p with n|⟨g,h,k,b,c,j,d,f⟩;·exact .inl n
   ·exact .inr ⟨g,h,k,XG _ b,c,j,d,f⟩
theorem yn{a}:∀{n k}{o},(k,o)∈Tv n a->n<=k/\a[k-n]?=some o:=by induction a with|nil=>intro n k o h;cases h|cons c a b=>
  intro n k o h;rcases XB (h)with h|h;·simp_all
  ·grind
theorem ZlL{a}:∀{n},(Tv n a).map (·.2)=a:=by induction a with|nil=>intro n;rfl|cons c a b=>intro n;show c::(Tv _ a).map _=_;rw[b]
theorem ZlM{a}:∀{n i}{o},a[i]?=some o->Tv n a=Tv n (a.take i)++(n+i,o)::Tv (n+i+1) (a.drop (i+1)):=by induction a with|nil=>simp|cons c a d=>intro n i o b;cases i with|zero=>simp at b;subst b;rfl|succ i=>show(n,c)::Tv _ a=(n,c)::Tv _ _++_;grind
theorem TQ.split{Z}{d}{x}{i}:∀{l1}{a c}{tr},TQ Z d (l1++x::i) a tr c->∃tr1 r e b,tr=tr1++r::e/\TQ Z d l1 a tr1 b/\Jv Z d x.2 b r/\TQ Z d i (W7 x.2 r b) e c
 |[],a,c,tr,h=>by cases h with|cons f g=>exact⟨[],_,_,a,rfl,.nil,f,g⟩
 |y::l1,a,c,tr,h=>by cases h with|cons f g=>have⟨tr1,r,e,b,m,j,k,l⟩:=TQ.split g;exact⟨_::tr1,r,e,b,Zm,.cons f j,k,l⟩
theorem Gu{i}{o}{r}:∀{l}{tr},((i,o),some r)∈l.zip tr->(i,o,r)∈V6 l tr
 |[],tr,h=>by simp at h|x::l,[],h=>by simp at h|(k,p)::l,some q::tr,h=>by
  rcases XB (h)with h|h;·cases h;exact XP
  ·exact XG _ (Gu h)|(k,p)::l,none::tr,h=>by
  rcases XB (h)with h|h;·grind
  ·exact Gu (l:=l) h
theorem oS{x}{r}{l:List (Nat×Oper)}{tr:Tr}(h:(x,r)∈l.zip tr):x∈l:=(List.of_mem_zip h).1
theorem NC.mem{b}:∀{l}{tr}{P},NC b P l tr->∀y∈V6 l tr,∀x∈P,DR x y->x.1∈marks b y.1 (Vv y.2.1)
 |[],tr,P,_,y,hy,_,_,_=>by cases hy|(i,o)::l,[],P,_,y,hy,_,_,_=>by cases hy|(i,o)::l,some r::tr,P,⟨h1,h2⟩,y,hy,x,hx,a=>by
  rcases XB (hy)with rfl|hy;·grind
  ·exact NC.mem h2 y hy x Zm a|(i,o)::l,none::tr,P,h,y,hy,x,hx,a=>NC.mem (l:=l) h y hy x hx a
theorem NC.right{g}{x}{r}{h}{j:Tr}:∀{l1}{tr1}{P},tr1.length=l1.length->NC g P (l1++x::h) (tr1++r::j)->∃c,(∀y∈V6 l1 tr1,y∈c)/\NC g c (x::h) (r::j)
 |[],tr1,P,b,a=>by rw[MR b]at a⊢;exact⟨P,by simp[V6],a⟩|(i,o)::l,some n::tr,P,b,⟨_,a⟩=>by
  have m:∀{l1:List (Nat×Oper)}{tr1:Tr}{P:List GN},tr1.length=l1.length->NC g P (l1++x::h) (tr1++r::j)->∃c,(∀y∈V6 l1 tr1,y∈c)/\(∀y∈P,y∈c)/\NC g c (x::h) (r::j):=by intro l1;induction l1 with|nil=>intro tr1 P b a;rw[MR b]at a⊢;exact⟨P,by simp[V6],λ_ a=>a,a⟩|cons y l1 k=>intro tr1 P b a;match tr1,b,a with
    |some n::tr1,b,⟨_,a⟩=>
     obtain⟨c,d,f,e⟩:=k (by simpa using b) a;refine⟨c,λy hy=>?_,Zm,e⟩;rcases XB (hy)with rfl|hy;·grind
     ·exact d y hy|none::tr1,b,a=>obtain⟨c,d,f,e⟩:=k (tr1:=tr1) (by simpa using b) a;exact⟨c,d,f,e⟩
  obtain⟨c,d,f,e⟩:=m (by simpa using b) a;refine⟨c,λy hy=>?_,e⟩;rcases XB (hy)with rfl|hy;·exact f _ XP
  ·exact d y hy|(i,o)::l,none::tr,P,b,a=>NC.right (l1:=l) (tr1:=tr) (by simpa using b) a
theorem Bj{Z}{f}{l}{a b}{tr}(h:TQ Z f l a tr b):a.n<=b.n/\∀x∈V6 l tr,a.n<=x.2.2.n/\x.2.2.n<=x.2.2.f.n/\x.2.2.f.n<=b.n:=by induction h with|nil=>exact⟨Zb,by simp[V6]⟩|@cons x l a b r tr d _ c=>have⟨k,e⟩:=x;cases d with
  |@ex r a1 a2 a3 a4 a5 a6=>
   have i:(W7 e (some r) a).n=r.f.n:=rfl;have g:=a3.le;have j:(W7 e _ a).n<=b.n:=c.1;refine⟨Y,λm hy=>?_⟩;rcases XB (hy)with rfl|hy;·exact⟨a2,g,by show r.f.n<=b.n;omega⟩
   ·grind|no d=>exact⟨c.1,c.2⟩
theorem TQ.wf{Z}{c}{l}{a b}{tr}(h:TQ Z c l a tr b):Wf a->Wf b:=by induction h with|nil=>simp|cons d _ f=>exactλe=>f (AB d e)
theorem fA:∀{l}{tr}{s},Vk (λ_=>false) l tr s=s|[],tr,s=>by cases tr<;>rfl|(i,o)::l,[],s=>rfl|(i,o)::l,r::tr,s=>fA (l:=l)
theorem Zfz{A:Nat->Prop}:∀i,A i->A i:=λ_ a=>a
def FNX(l:List (Nat×Oper))(tr:Tr)(n:Nat)(X:Nat->Bool)(i:Nat):Prop:=Py n i\/∃a∈V6 l tr,X a.1=false/\a.2.2.n<=i/\i<a.2.2.f.n
def mu(Z:Xq)(β:Sr)(l:List (Nat×Oper))(tr:Tr)(e f:XS)(K0:KK)(H0:HM)(a0:Act)(X:Nat->Bool)(a:Act)(w:World):Prop:=∃d c b,Ss d (Vk X l tr e)/\MS Z β d (FNX l tr f.n X) c b a w/\NS (pW l tr) (Py e.n) K0 H0 c b/\vG l a0 a
section
variable{Z:Xq}{β:Sr}{W:List Oper}{Q:Exit->Act->World->Prop}
theorem Zkw{C Se}{tr}{K0}{H0}{a0}(ok:TQ Z W (Tv 0 W) C tr Se)(z5:Wf C)(y8:NC W [] (Tv 0 W) tr)(hB:Pa W W.length=true)(hU:JJ W=true)(hN:∀x∈Tv 0 W,∀d,x.2.dst=some d->d<β.N){X}{i}{o}{Kc}{a}{w}(hi:W[i]?=some o)(hX:X i=false)(he:∀j∈Vv o,X j=true)(x2:∀j p,W[j]?=some p->X j=true->∀e∈Vv p,X e=true)(hI:mu Z β (Tv 0 W) tr C Se K0 H0 a0 X a w)(hK:∀a' w',mu Z β (Tv 0 W) tr C Se K0 H0 a0 (XV X i) a' w'->Kc a' w'):wpOpIn (XX none) 0 Z.P W.toArray Q i Kc a w:=by
 have xk:=ZlM (n:=0) hi;simp only[TN]at xk;obtain⟨A,y1⟩:∃A,A=Tv 0 (W.take i):=⟨_,rfl⟩;obtain⟨B,y2⟩:∃B,B=Tv (i+1) (W.drop (i+1)):=⟨_,rfl⟩;rw[<-y1,<-y2]at xk;have m1:∀{b p},(b,p)∈A->b<i/\W[b]?=some p:=by
  intro b p h;rw[y1]at h;obtain⟨_,k⟩:=yn h;rw[nE,Ps]at k;split at k;·exact⟨by assumption,k⟩
  ·cases k
 have V:∀{b p},(b,p)∈B->i<b/\W[b]?=some p:=by intro b p h;rw[y2]at h;obtain⟨m,k⟩:=yn h;rw[Rt]at k;refine⟨Y,?_⟩;rw[<-k];congr 1;omega
 rw[xk]at ok y8 hN hI hK;obtain⟨F,r,E,I,rfl,x1,z4,yl⟩:=ok.split;have M:=x1.len;have x3:=yl.len;obtain⟨P',yt,y9⟩:=NC.right M y8;have y0:Vk (λ_=>true) A F C=I:=ZeZ x1 λ_ _=>rfl;have D1:∀{b p},(b,p)∈A->X b=false->∀t∈names W o,p.dst≠some t:=λ{b p}g q t y hd=>by have:=(D0 hB hi (m1 g).2 (by have:=(m1 g).1;omega) hd y).1 (m1 g).1;rw[he b this]at q;cases q
 have D2:∀{b p},(b,p)∈B->X b=true->∀t∈names W o,p.dst≠some t:=λ{b p}g q t y hd=>by have:=(D0 hB hi (V g).2 (by have:=(V g).1;omega) hd y).2 (V g).1;rw[x2 b p (V g).2 q i this]at hX;cases hX
 have y4:∀t,o.dst=some t->t∈names W o:=λt h=>by simp[names,h]
 have eX:Vk X (A++(i,o)::B) (F++r::E) C=Vk X B E (Vk X A F C):=by rw[ft M];show Vk X B E (bif X i then _ else _)=_;rw[hX];rfl
 have eU:Vk (XV X i) (A++(i,o)::B) (F++r::E) C=Vk X B E (W7 o r (Vk X A F C)):=by
  rw[ft M];show Vk (XV X i) B E (bif XV X i i then _ else _)=_;have e1:XV X i i=true:=by simp[XV]
  rw[e1,TP,pu (X:=XV X i) (X':=X) λx z=>by obtain⟨b,p⟩:=x;have:=(V z).1;show(if b=i then true else X b)=X b;rw[Yg Y],pu (X:=XV X i) (X':=X) (l:=A) λx z=>by obtain⟨b,p⟩:=x;have:=(m1 z).1;show(if b=i then true else X b)=X b;rw[Yg Y]]
 have y3:∀d,o.dst=some d->d<β.N:=hN (i,o) Zb;have EX:∀t∈names W o,Ys (Vk X B E (Vk X A F C)).e t=Ys I.e t\/Ys I.e t=.any\/∃b p c,((b,p),c)∈B.zip E/\X b=true/\∃j∈Qm (Mi c),j∈Un (Ys I.e t):=by
  intro t y;have m:=Ze0 (X:=X) (t:=t) (l:=A) (tr:=F) (s:=C) (s':=C) M (.inl rfl) λb p c g q=>D1 (oS g) q t y;rw[y0]at m;rcases m with m|m
  ·rcases fv (X:=X) (t:=t) (l:=B) (tr:=E) (s:=Vk X A F C) x3 (λb p c g q=>D2 (oS g) q t y)with k|⟨b,p,c,k,G,j,P,K⟩;·exact .inl (k.trans m.symm)
   ·exact .inr (.inr ⟨b,p,c,k,G,j,P,by rw[m];exact K⟩)
  ·exact .inr (.inl m)
 obtain⟨L,x6,H,R,g,y6,yf⟩:=hI;rw[eX]at R;have xv:∀{j:Nat}{ob:Option Bool},o.guard.map (·.1)=some j->GU W I.e j ob->GU W L.e j ob:=by
  rintro j ob J⟨t,y,y5,O⟩;have xs:t∈names W o:=by cases x8:o.guard with|none=>rw[x8]at J;cases J|some jw=>
    obtain⟨j',x5⟩:=jw;rw[x8]at J;have:j'=j:=by simpa using J
    subst this;simp[names,Ce,x8,y]
  have e1:Ys L.e t=Ys I.e t:=by
   rw[R.e t];rcases EX t xs with h|h|⟨b,p,c,_,_,j',_,K⟩;·exact h
   ·have m:=O ⟨λ_=>none,λ_ _=>none,λ_ _=>none⟩ (λ_=>none) (.bool true) (by rw[h];trivial);have k:=O ⟨λ_=>none,λ_ _=>none,λ_ _=>none⟩ (λ_=>none) (.bool false) (by rw[h];trivial);rw[<-k]at m;cases m
   ·rw[y5]at K;cases K
  exact⟨t,y,by rw[e1];exact y5,by rw[e1];exact O⟩
 have z2:W.toArray[i]?=some o:=by simpa using hi
 unfold wpOpIn
 rw[z2];dsimp only;cases z4 with|@ex r a1 a2 a3 a4 a5 a6=>
  have x4:=Lq a5;have C1:∀{b p c},(b,p,c)∈V6 A F->X b=false->¬DR (b,p,c) (i,o,r):=λ{b p c}g q hc=>by have m:=y9.1 _ (yt _ g) hc;have:=zZ x2 i (Vv o) he _ m;rw[q]at this;cases this
  have C2:∀{b p c},(b,p,c)∈V6 B E->X b=true->¬DR (i,o,r) (b,p,c):=λ{b p c}g q hc=>by have m:=NC.mem y9.2 _ g (i,o,r) XP hc;have:=zZ x2 b (Vv p) (x2 b p (V (qT g)).2 q) _ m;rw[hX]at this;cases this
  have BX:∀j,j∈xd (i,o,r)\/j∈Qm r.f->ZF L.b j=ZF I.b j:=by
   intro j u;rw[R.b j];have k:=fu (X:=X) (X':=λ_=>false) (j:=j) (l:=B) (tr:=E) (s:=Vk X A F C) (s':=Vk X A F C) x3 rfl λb p c g T U=>by
    have q:X b=true:=by cases h:X b with|true=>rfl|false=>exact absurd h T
    cases c with|none=>cases U|some c=>exact C2 (Gu g) q ⟨j,.inl ⟨U,u⟩⟩
   rw[fA]at k;rw[k,<-y0];exact fu (X:=X) (X':=λ_=>true) M rfl (λb p c g T U=>by
    have q:X b=false:=by cases h:X b with|false=>rfl|true=>exact absurd h T
    cases c with|none=>cases U|some c=>
     refine C1 (Gu g) q ?_;rcases u with u|u;·exact⟨j,.inr ⟨u,U⟩⟩
     ·exact⟨j,.inl ⟨u,.inr U⟩⟩)
  have z3:∀x∈o.op.operands.toList,YU x6 H (ZW r.e x) (a.eval x):=by
   intro x z;cases x with|tmp t=>
    have xs:t∈names W o:=by simp only[names,TL];refine .inl (.inr ?_);simp only[pZ,dS];exact⟨.tmp t,z,rfl⟩
    have O:=g.ev t;rw[R.e t]at O;show YU x6 H (Ys r.e t) (a.tmps.getD t undef);have hk:=a1 t;rcases EX t xs with h|h|⟨b,p,c,k,G,j,P,K⟩;·rw[h]at O;exact hk.xq O
    ·rw[h]at hk;exact hk.xq (s:=.any) trivial
    ·rcases hk with h6|h6|h6;·cases c with|none=>cases P|some c=>refine absurd ⟨j,.inl ⟨P,.inl ?_⟩⟩ (C2 (Gu k) G);refine Yd (.inr (Yd (.inr (List.mem_flatMap.2 ⟨.tmp t,z,?_⟩))));show j∈Un (Ys r.e t);rw[h6];exact K
     ·rw[h6];trivial
     ·rw[h6.1]at K;cases K|const v=>exact YU.JZ (aN v)|global ys=>exact YU.JZ (H:=H) (s:=.gl ys) rfl|func f=>exact⟨[_],⟨rfl,[],[],[],rfl,⟨[],⟨rfl,rfl⟩,rfl,rfl⟩,⟨rfl,rfl⟩,rfl,rfl⟩,rfl⟩
  have y7:(i,o,r)∈V6 (A++(i,o)::B) (F++some r::E):=by rw[xe M];exact Yd (.inr XP)
  have yv:=g.op (o:=o) (r:=r) z3 (λp N=>by rw[BX p.1 (.inr (Yd (.inl (VC (f:=(·.1)) N))))];exact a3.r p N) (λp N=>by rw[BX p.1 (.inl (Yd (.inl (VC (f:=(·.1)) N))))];exact a3.rd p N) a3.nd a4 x4 a3.le (λp N=>.inr (.inr λc hq e=>by
    rcases x4.w c hq with h|⟨m,k⟩;·obtain⟨x,z,ex⟩:=h;exact⟨x,z,ex.trans e⟩
    ·have G:=Oy g.nd N;rw[BX p.1 (.inr (Yd (.inr (by rw[<-e];exact VC (f:=(·.1)) hq))))]at G;have P:p.1<I.n\/500<=p.1:=(x1.wf z5).ids _ (W8 G);have:=x4.lt;omega)) (λx m k=>.inr ⟨(i,o,r),y7,hX,m,k⟩) y3;have yy:vu W o L.e:=by
   rcases a6 with h|⟨j,x5,J,hs⟩;·exact .inl h
   ·exact .inr ⟨j,x5,J,xv (by rw[J];rfl) hs⟩
  rw[YW (Za0 yy g.ev)];refine TE.wp yv ?_;refineλv w'⟨K',H',z1,z0⟩=>hK _ _ ⟨L.app o.dst r.f,K',H',?_,z1.wa λx z=>?_,y6.trans z0 Zfz (λj u=>⟨(i,o,r),y7,u⟩) Zfz λx z=>⟨by have:=(Bj x1).1;omega,by have:=x4.lt;omega⟩,λt y=>?_⟩
  ·rw[eU];refine(vP R).trans (Ss.symm<|(xr Nf).trans (pz x3 λb p c S q=>⟨λt y=>D2 (oS S) q t (y4 t y),λj u=>?_,λj u x9=>?_⟩));·cases c with|none=>exact⟨(by intro h;cases h),by intro h;cases h⟩|some c=>refine⟨λh=>C2 (Gu S) q ⟨j,.inl ⟨h,.inr u⟩⟩,λh=>C2 (Gu S) q ⟨j,.inr ⟨Yd (.inr (Yd (.inl h))),u⟩⟩⟩
   ·cases c with|none=>cases u|some c=>exact C2 (Gu S) q ⟨j,.inl ⟨u,.inl ((λj u=>Yd (.inr (Yd (.inl u)))) j x9)⟩⟩
  ·have b2:=Bj yl;have e2:(W7 o (some r) I).n=r.f.n:=rfl;rw[e2]at b2;rcases z with z|⟨D,hy,m,k,G⟩;·refine⟨.inl z,λh=>?_⟩;have P:Se.n<=x:=z.1;have:=b2.1;omega
   ·have T:D.1≠i:=λe=>by rw[e]at m;simp[XV]at m
    have x0:X D.1=false:=by
     have:XV X i D.1=X D.1:=by show(if D.1=i then true else X D.1)=_;rw[Yg T]
     rw[<-this];exact m
    refine⟨.inr ⟨D,hy,x0,k,G⟩,λh=>?_⟩;rw[xe M]at hy;rcases Z1 hy with hy|hy;·have:=((Bj x1).2 D hy).2.2;omega
    ·rcases XB (show D∈(i,o,r)::V6 B E from hy)with rfl|hy;·exact T rfl
     ·have:=(b2.2 D hy).1;omega
  ·rw[<-yf t y];exact qA (y (i,o) Zb)|no J=>
  have yx:vr W o L.e:=by obtain⟨j,x5,x7,hs⟩:=J;refine⟨j,x5,x7,hs.imp (xv (by rw[x7];rfl)) (xv (by rw[x7];rfl))⟩
  rw[Yg (by rw[ZaZ yx g.ev];simp)];refine⟨λf _=>FD _ f,hK _ _ ⟨W7 o none L,x6,H,?_,(g.skip y3).wa λx z=>?_,y6,λt y=>?_⟩⟩;·rw[eU];refine(Nf.trans (vP R)).trans (Ss.symm ((xr Nf).trans (pz x3 λb p c S q=>⟨λt y=>D2 (oS S) q t (y4 t y),λj u=>(by cases u),λj u x9=>by cases x9⟩)))
  ·rcases z with z|⟨D,hy,m,k,G⟩;·exact .inl z
   ·refine .inr ⟨D,hy,?_,k,G⟩;have x0:(if D.1=i then true else X D.1)=false:=m;split at x0;·cases x0
    ·exact x0
  ·rw[<-yf t y];exact qA (y (i,o) Zb)
end
structure St(Z:Xq)(β:Sr)(s:XS)(K:KK)(H:HM)(a:Act)(w:World):Prop where
 wf:Wf s
 ms:MS Z β s (Py s.n) K H a w
structure PD(s:XS)(K:KK)(H:HM)(s':XS)(K':KK)(H':HM):Prop where
 le:K.le K'
 d:∀j∈s.d,j∈s'.d
 bx:∀j v,ZF s.b j=some v->j∉s'.d->ZF s'.b j=some v/\H' j=H j
 fk:∀f,Yj f∉s'.d->K'.fm f=K.fm f
 nm:∀i,¬(s.n<=i/\i<500)->K'.nm i=K.nm i
 n:s.n<=s'.n
 fd:∀j,1000<=j->j∈s'.d->j∈s.d\/∃v,ZF s.b j=some v
 fb:∀j v,1000<=j->ZF s'.b j=some v->∃v,ZF s.b j=some v
theorem PD.refl(s)(K)(H):PD s K H s K H:=⟨KK.le.refl K,λ_ a=>a,Zm,λ_ _=>rfl,λ_ _=>rfl,Zb,λ_ _ a=>.inl a,XA⟩
theorem PD.trans{s q r}{K j K2}{H i H2}(h:PD s K H q j i)(k:PD q j i r K2 H2):PD s K H r K2 H2 where
 le:=h.le.trans k.le;d:=λa e=>k.d a (h.d a e);bx:=λa v g e=>by have⟨b,f⟩:=h.bx a v g λc=>e (k.d a c);have⟨t,x⟩:=k.bx a v b e;exact⟨t,Zm⟩
 fk:=λl m=>(k.fk l m).trans (h.fk l λc=>m (k.d _ c));nm:=λp o=>(k.nm p λc=>o ⟨WX h.n c.1,c.2⟩).trans (h.nm p o);n:=WX h.n k.n;fd:=λa b e=>by
  rcases k.fd a b e with f|⟨v,f⟩;·exact h.fd a b f
  ·exact .inr (h.fb a v b f)
 fb:=λa v b g=>let⟨w,u⟩:=k.fb a v b g;h.fb a w b u
theorem MS.to{Z}{β}{c s}{g}{K}{H}{a}{w}(h:MS Z β c g K H a w)(m:∀t,Wk (Ys c.e t) (Ys s.e t))(i:∀j v,ZF s.b j=some v->ZF c.b j=some v)(e:(s.b.map (·.1)).Nodup):MS Z β s g K H a w:=by
 have l:∀d∈s.b,d∈c.b:=λd b=>W8 (i _ _ (Oy e b));have⟨f,o,n⟩:=h.own;have b:=Ee h.nd e λd b=>i _ _ (Oy e b);have k:(YQ H c.b++(f++β.hx)).Perm (YQ H s.b++(YQ H (X0 s.b c.b)++f++β.hx)):=by have:=(Hq (H:=H) b).append_right (f++β.hx);rw[Mm]at this;simpa[Z5]using this
 exact⟨e,⟨_,o.perm k,ZG.QI k n⟩,h.gl,λd b=>h.bx d (l d b),λt=>(m t).xq (h.ev t),h.fr,h.YM.sub l,h.sz,h.df,h.fx⟩
theorem Zje{N}{a}(h:uY N a=true):∀x∈Tv 0 a,∀d,x.2.dst=some d->d<N:=by rintro⟨g,e⟩c d f;obtain⟨_,b⟩:=yn c;simp[uY,RK]at h;have:=h e (X6 b);simp_all
section
variable{Z:Xq}{β:Sr}
def N9(l:List Nat)(a a':Act):Prop:=∀b,b∉l->a'.tmps.getD b undef=a.tmps.getD b undef
theorem N9.refl(l)(a):N9 l a a:=λ_ _=>rfl
def bJ(Z:Xq)(β:Sr)(e:List Oper)(s:XS)(K:KK)(H:HM)(a:Act){R:Type}(k:XS->Option R)(r:R)(a':Act)(w':World):Prop:=∃b d c,k b=some r/\St Z β b d c a' w'/\PD s K H b d c/\vG (Tv 0 e) a a'
theorem Zez{c}{l}{a b}{tr}(h:TQ Z c l a tr b):∀x∈V6 l tr,yo x.2.2.n x.2.2.f=true:=by induction h with|nil=>intro x d;cases d|@cons x l a b r tr h1 _ e=>intro f hy;cases h1 with
  |@ex r a1 a2 a3 a4 a5 a6=>
   rcases XB (hy)with rfl|hy;·omega
   ·grind|no _=>exact e f hy
theorem ZeB{f}{dr}{s o s'}{tr}{K K'}{H H'}{a a'}{w w'}{R}{k}{r:R}(E:St Z β s K H a w)(b:SZ Z f dr (Tv 0 f) {s with tr:=[],al:=none} {s with tr:=[],al:=none} [] tr o s')(hk:k s'=some r)(C:MS Z β o (Py o.n) K' H' a' w')(m:NS (pW (Tv 0 f) tr) (Py s.n) K H K' H')(hs:vG (Tv 0 f) a a'):bJ Z β f s K H a k r a' w':=by
 have x:∀c,c∉s'.d->c<s.n\/500<=c->¬pW (Tv 0 f) tr c:=by
  rintro c d g⟨l,n,F⟩;have p:=Lq (Zez b.ok l n);obtain⟨y,J,L⟩:=(Bj b.ok).2 l n;have I:s.n<=l.2.2.n:=y;have O:=p.lt;rcases Z1 F with h|h;·obtain⟨j,i,e⟩:=Uj h;exact d (by rw[<-e];exact b.d.2 l n j i)
  ·obtain⟨j,i,e⟩:=Uj h;rcases p.w j i with⟨G,D,z⟩|⟨M,N⟩;·exact d (by rw[<-e,<-z];exact b.d.2 l n G D)
   ·omega
 refine⟨s',K',H',hk,⟨⟨b.wk.nd,λj i=>?_,λu c d=>?_⟩,(C.to b.wk.e b.wk.b b.wk.nd).wa λt g=>⟨WX b.wk.n g.1,g.2⟩⟩,⟨m.le,b.d.1,λc v q d=>⟨b.kb c v q d,m.hk c (x c d (E.wf.ids _ (W8 q)))⟩,λA B=>m.fk A (x _ B (.inr (by simp only[Yj];omega))),λt g=>m.nm t g,b.n,b.fd,b.fb⟩,hs⟩;·have:=b.wf.ids j (W8 (b.wk.b _ _ (Oy b.wk.nd i)));have:=b.wk.n;omega
 ·have:=b.wf.len u c ((b.wk.e u).len c d);have:=b.wk.n;omega
theorem Zq1(x5:∀fc∈Z.tb,UG Z fc)(x4:∀g S,Rs Z.gl g=some S->S.t.nh=true)(x1:IF Z)(x3:Z.P.follows .mixedOrders=true){id}{ops}{dr}{s}{R}{k}{r}(hN:uY β.N ops.toList=true)(h:(bif !dr||uZ ops.toList then QH Z ops.toList dr (ops.size+60) R (Tv 0 ops.toList) {s with tr:=[],al:=none} k else none)=some r){K}{H}{a}{w}(b:St Z β s K H a w){Q}(u:∀a' w',bJ Z β ops.toList s K H a k r a' w'->Q .normal a' w'):(Code.region id ops dr).wpIn (XX none) 0 Z.P Q a w:=by
 obtain⟨J,G⟩:=Yk h;obtain⟨tr,o,s',N,e⟩:=ZlZ x5 x4 x1 _ _ _ _ _ G {s with tr:=[],al:=none} [] ⟨b.wf.nd,b.wf.ids,b.wf.len⟩ ⟨λ_=>Wk.refl _,λ_ _ h=>h,YG _,b.wf.nd⟩ λ_ j m=>by cases m
 have n:MS Z β {s with tr:=[],al:=none} (Py s.n) K H a w:=⟨b.ms.nd,b.ms.own,b.ms.gl,b.ms.bx,b.ms.ev,b.ms.fr,b.ms.YM,b.ms.sz,b.ms.df,b.ms.fx⟩;have y:=Zje hN;obtain⟨d,p⟩:∃d,d=ops.toList:=⟨_,rfl⟩;have X:ops=d.toArray:=by rw[p]
 rw[<-p]at G e u J y;subst X;clear p;cases L:dr with|false=>subst L;refine cj ?_;have:=Zl0 (Q:=Q) e.ok ⟨b.wf.nd,b.wf.ids,b.wf.len⟩ n y λU T a' w' B A C=>u a' w' (ZeB b e N B A C);rwa[ZlL]at this|true=>
  subst L;have z:uZ d=true:=by simpa using J
  unfold uZ at z;rw[Yv]at z;obtain⟨I,hU⟩:=z;have P:=Zak (c:=cx Z.P) (Q:=Q) (l:=d) (rest:=[]) (Inv:=mu Z β (Tv 0 d) tr {s with tr:=[],al:=none} o K H a) (by rw[Xp];exact I) λD i x8 Kc a w f hX he x2 hI hK=>by rw[Xp];exact Zkw (Q:=Q) e.ok ⟨b.wf.nd,b.wf.ids,b.wf.len⟩ (e.nc rfl).1 I hU y f hX he x2 hI hK
   λD a' w' x0⟨x7,U,T,q,B,A,C⟩=>by
    have V:Vk D (Tv 0 d) tr {s with tr:=[],al:=none}=o:=ZeZ e.ok λj m=>by obtain⟨k,x6⟩:=j;obtain⟨_,E⟩:=yn m;exact x0 k (by have:=(Wm E).1;omega)
    rw[V]at q;exact u a' w' (ZeB b e N ((B.to (λt=>by rw[q.e t];exact Wk.refl _) (λO v hv=>by rw[q.b O];exact hv) e.wf.nd).wa λi f=>.inl f) A C)
  refine cg x3 ?_;have x:∀i,X8 (Array.replicate d.toArray.size false) i=false:=by intro i;simp only[X8,Array.getD];split<;>simp
  rw[Xp d]at P;obtain⟨hd,hg,hf⟩:=n.own;refine P _ _ a w.drew Zb (WX nk Zb) (.inl ⟨λi _=>x i,(λO x6 _ M=>by rw[x]at M;cases M),{s with tr:=[],al:=none},K,H,?_,?_,NS.refl _ _ _ _,λ_ _=>rfl⟩)
  ·have W:Vk (X8 (Array.replicate d.toArray.size false)) (Tv 0 d) tr {s with tr:=[],al:=none}={s with tr:=[],al:=none}:=by rw[pu (X':=λ_=>false) λj _=>x j.1];exact fA
   rw[W];exact Ss.refl _
  ·refine{n with own:=⟨hd,hg.drew,hf.trans (ZG.drew _ _ _)⟩,fr:=λi f=>n.fr i ?_};rcases f with f|⟨j,m,_,E,h3⟩;·have F:s.n<=o.n:=(Bj e.ok).1;exact⟨WX F f.1,f.2⟩
   ·have F:s.n<=j.2.2.n:=((Bj e.ok).2 j m).1;have:=(Lq (Zez e.ok j m)).lt;exact⟨Y,Y⟩
end
def QW(K:KK)(a:Act)(h:HI)(x:h.ty.den)(hs:HP):Prop:=match V3 h with|true=>Wg K h.t ⟨h.ty,x⟩ hs|false=>∃b,rel K h.ty hs b x/\a.tmps.getD h.t undef=XE h.ty.ag b
def NV(K:KK)(a:Act):(l:List HI)->(Tu l).den->HP->Prop|[],_,_=>True|[h],x,hs=>∃b d,hs.Perm (b++d)/\QW K a h x b|h::h'::l,x,hs=>∃b c,hs.Perm (b++c)/\QW K a h x.1 b/\NV K a (h'::l) x.2 c
def FB:(l:List HI)->(Tu l).den->Bx
 |[],_=>[]|[h],x=>match V3 h with|true=>[(h.t,⟨h.ty,x⟩)]|false=>[]
 |h::h'::l,x=>(match V3 h with|true=>[(h.t,⟨h.ty,x.1⟩)]|false=>[])++FB (h'::l) x.2
theorem Zq5 {K K2}{y}(W:K2.fm=K.fm)(w:K2.m=K.m)(a:∀i,i<y->K2.nm i=K.nm i):∀{t},TG y t=true->∀{hs} {cs} {x},rel K t hs cs x->rel K2 t hs cs x:=by
 intro t
 induction t with
 |vec x5 t f=>exact λa hs cs x b=>Row.imp (λ_ _ _ b=>f a b) b
 |pair u e q J=>
  intro a;simp only[TG,Yv]at a
  rintro hs cs x ⟨E,F,A,B,c,C,z,L⟩;exact⟨E,F,A,B,c,C,q a.1 z,J a.2 L⟩
 |only t f=>exact λa hs cs x b=>f a (x:=x) b
 |sl t f=>
  refine λa hs cs x ⟨c,u,j,d,l,b⟩=>⟨c,u,j,d,l,b.imp id (λ⟨e,s,m,T,g,k⟩=>⟨e,s,m,T,Row.imp (λ_ _ _ b=>f a b) g,by rw[w];exact k⟩)⟩
 |nz t f=>
  refine λa hs cs x ⟨c,b⟩=>⟨c,b.imp id (λ⟨hx,e,s,m,j,d,l,g,k⟩=>⟨hx,e,s,m,j,d,l,Row.imp (λ_ _ _ b=>f a b) g,by rw[w];exact k⟩)⟩
 |ptr t f=>
  refine λa hs cs x ⟨c,b⟩=>⟨c,b.imp id (λ⟨N,e,s,n,D,d,g,k⟩=>⟨N,e,s,n,D,d,f a g,by rw[w];exact k⟩)⟩
 |YM O t _=>
  refine λa hs cs x ⟨c,b⟩=>⟨c,b.imp id ?_⟩
  grind
 |hole r=>
  exact λG hs cs x ⟨c,v,o,d,U⟩=>⟨c,v,by rw[a r (Uk▸(show Nat.blt r y=true from G))];exact o,d,U⟩
 |Ue r z=>
  exact λG hs cs x ⟨c,e,o,d⟩=>⟨c,e,by rw[a r (Uk▸(show Nat.blt r y=true from G))];exact o,d⟩
 |fn O u x1 q x0=>
  intro a;simp only[TG,Yv]at a
  rintro hs cs x ⟨c,as,P,S,d,⟨Q,H,g⟩,Z,X⟩
  exact⟨c,as,P,S,d,⟨Q,H,q a.1 g⟩,Z,x0 a.2 X⟩
 |own t f=>exact λa hs cs x ⟨e,h,n,p,c,d,g⟩=>⟨e,h,n,p,c,d,f a (x:=x) g⟩
 |opt t f=>
  refine λa hs cs x b=>MV id (λ⟨N,e,h,n,p,D,c,d,g⟩=>⟨N,e,h,n,p,D,c,d,f a g⟩) b
 |full t f=>
  refine λa hs cs x b=>MV id (λ⟨e,h,j,m,M,p,d,c,g,l,I⟩=>⟨e,h,j,m,M,p,d,c,Row.imp (λ_ _ _ b=>f a b) g,l,I⟩) b
 |YO t f=>
  refine λa hs cs x b=>MV id (λ⟨e,h,j,m,M,d,c,g,k,l,I⟩=>⟨e,h,j,m,M,d,c,Row.imp (λ_ _ _ b=>f a b) g,by rw[w];exact k,l,I⟩) b
 |map x4 v x2 x3=>
  intro a;simp only[TG,Yv]at a
  rintro hs cs x ⟨e,V,R,d,c,b⟩
  refine⟨e,V,R,d,c,F2.imp ?_ b⟩
  grind
 |YL O t f=>
  exact λa hs cs x ⟨c,vs,H,g⟩=>⟨c,vs,λi v o=>by rw[W];exact H i v o,Row.imp (λ_ _ _ b=>f a b) g⟩
 |cons u e q J=>
  intro a;simp only[TG,Yv]at a
  rintro hs cs x ⟨E,F,A,B,c,C,z,L⟩;exact⟨E,F,A,B,c,C,q a.1 z,J a.2 L⟩
 |_=>exact λa hs cs x b=>b
structure LO(n0:Nat)(h:HI):Prop where
 nh:V3 h=true->h.ty.nh=true
 ok:V3 h=false->TG n0 h.ty=true
 one:V3 h=false->h.b=true->h.ty.n=1/\h.ty.ag=false
def HiM(s:XS)(h:HI)(c:CS)(x:h.ty.den)(c':CS)(R Q:Bx):Prop:=∀(k:World)(a:KK)(l:HM)(g:Act)(f e:HP),GD a.m (f++e) k->(∀t,YU a l (Ys s.e t) (g.tmps.getD t undef))->ZH a c.l f->ZH a R e->(∀d∈Q,∃h,Wg a d.1 d.2 h)->Yt a (c.l++R)->(∀d∈c.l,ZF c.g d.1=none)->∃b j i,Y0 k a (f++e) b (j++i)/\QW b g h x j/\ZH b c'.l i/\Yt b c'.l/\W3 a b (c.l++R)/\(V3 h=true->Yt b [(h.t,⟨h.ty,x⟩)]/\(∀d∈c'.l,d.1≠h.t)/\ZF c'.g h.t=none)
theorem Za9{R}{r:R}{B}{s}{h}{c}{k}(d:tS B s h c k=some r):∃x c' f Q,k x c'=some r/\Ua c c' f Q/\(LO B h/\(V3 h=true->∃p∈c.l++f,p.1=h.t))/\HiM s h c x c' f Q:=by unfold tS at d;cases b:V3 h with|true=>rw[b,TP]at d;obtain⟨v,I,G,e,j⟩:=OU d;obtain⟨V,x,rfl,l⟩:=Ma j;refine⟨x,I,G,[],l,e.S,⟨⟨λ_=>V,λa=>(by rw[b]at a;cases a),λa=>by rw[b]at a;cases a⟩,λ_=>⟨_,e.mem,rfl⟩⟩,λC g E H o m A _ t q w i n=>?_⟩;obtain⟨y,U,X,N,x3⟩:=e.M g o m t q;refine⟨g,y,U,Y0.Zcn X,by unfold QW;rw[b];exact N,x3,e.fr i,W3.refl _ _,λ_=>⟨i.sub λp W=>by rw[YZ W];exact e.mem,e.ne,e.none n⟩⟩|false=>
  rw[b,TO]at d;split at d;·rename_i v hv;obtain⟨z,j⟩:=Yk d;rw[Yv]at z;obtain⟨x,c',l,P,x0,f,Q,S,M⟩:=JG j;refine⟨x,c',f,Q,l,S,⟨⟨λa=>(by rw[b]at a;cases a),λ_=>z.1,λ_ y=>XA⟩,λa=>by cases a⟩,?_⟩;·intro C g E H o m A O t q w i n;obtain⟨u,Z,J⟩:=Gd hv (O h.t);obtain⟨F,hx,T,D,x1,x2,K,L,_⟩:=M C g [] o m u (by simpa using A) Z t q w i n;refine⟨F,hx,T,by simpa using D,?_,x2,K,L,λa=>by rw[b]at a;cases a⟩;unfold QW;rw[b];exact⟨u,Xl (KU P) x1,by rw[J,x0.ag]⟩
  ·cases d
def PkM(s:XS)(l:List HI)(c:CS)(y:(Tu l).den)(c':CS)(R Q:Bx):Prop:=∀(k:World)(a:KK)(m:HM)(g:Act)(f e:HP),GD a.m (f++e) k->(∀j,YU a m (Ys s.e j) (g.tmps.getD j undef))->ZH a c.l f->ZH a R e->(∀d∈Q,∃n,Wg a d.1 d.2 n)->Yt a (c.l++R)->(∀d∈c.l,ZF c.g d.1=none)->∃b i h,Y0 k a (f++e) b (i++h)/\NV b g l y i/\ZH b c'.l h/\Yt b c'.l/\W3 a b (c.l++R)/\Yt b (FB l y)
theorem QW.mono{K K'}(c:K.le K'){a}{h}{x}{hs}(b:QW K a h x hs):QW K' a h x hs:=by unfold QW at b⊢;cases d:V3 h with|true=>rw[d]at b;exact b.mono c|false=>rw[d]at b;have⟨e,f,g⟩:=b;exact⟨e,Xl c f,g⟩
theorem Zcw{R}{r:R}{T}{s}:∀{l}{c}{k},J4 T s l c k=some r->∃y c' z Q,k y c'=some r/\Ua c c' z Q/\(∀h∈l,LO T h/\(V3 h=true->∃p∈c.l++z,p.1=h.t))/\PkM s l c y c' z Q
 |[],c,k,h=>by refine⟨(),c,[],[],h,Ua.refl c,Zb,λw K x B g m E D F J C q v=>⟨K,[],g++m,Y0.refl _ _ _,trivial,F.more m,q.sub Zb,W3.refl _ _,λ_ _ _ h=>by cases h⟩⟩|[d],c,k,h=>by obtain⟨o,c',z,Q,O,x9,I,x8⟩:=Za9 h;refine⟨o,c',z,Q,O,x9,λh P=>by rw[YZ P];exact I,λw K x B g m E D F J C q v=>?_⟩;obtain⟨W,e,y4,x7,n,ys,fF,fk,fb⟩:=x8 w K x B g m E D F J C q v;refine⟨W,e,y4,x7,⟨e,[],Zb,n⟩,ys,fF,fk,?_⟩;show Yt W (match V3 d with|true=>[(d.t,⟨d.ty,o⟩)]|false=>[]);cases i:V3 d with|true=>exact(fb i).1|false=>intro _ _ _ j;cases j
 |d::h'::l,c,k,h=>by
  obtain⟨o,c1,R1,Q1,O,A,I,M1⟩:=Za9 (k:=λo c=>J4 T s (h'::l) c λy c=>k (o,y) c) h;obtain⟨y,c2,L,Q2,h2,M,y9,M2⟩:=Zcw O;refine⟨(o,y),c2,L++R1,Q2++Q1,h2,A.trans M,λh P=>(XB P).elim (λb=>by subst b;exact⟨I.1,λi=>let⟨p,a,b⟩:=I.2 i;⟨p,by rcases Z1 a with h|h<;>simp[h],b⟩⟩) (λj=>by
   obtain⟨o1,o2⟩:=y9 h j;refine⟨o1,λi=>?_⟩;obtain⟨p,a,b⟩:=o2 i;rcases Z1 a with a|a;·obtain⟨n,S,N⟩:=A.ids p a;exact⟨n,by rcases Z1 S with h|h<;>simp[h],N.trans b⟩
   ·exact⟨p,by simp[a],b⟩),?_⟩;intro w K x B g m E D F J C q v;obtain⟨u,x2,y7,yl,yf⟩:=ZH.append.1 J;have x5:(g++m).Perm (g++x2++u):=by refine(VA g (y7.trans XJ)).trans ?_;rw[Z5]
  obtain⟨X,e,H,G,q1,yt,xk,x0,y0⟩:=M1 w K x B g x2 (E.sub x5) D F yf (λp a=>C p (Yd (.inr a))) (q.sub (by intro p a;rcases Z1 a with h|h<;>simp[h])) v;have U:Y0 w K (g++m) X (e++H++u):=Y0.perm x5 (V8 _) (G.frame u);have x6:(e++H++u).Perm (H++u++e):=CR _ _ _;obtain⟨Z,hy,y5,V,q2,yv,xv,x1,y1⟩:=M2 w X x B H u ((U.step E).1.sub x6) (λt=>(D t).mono G.le) yt (yl.mono G.le) (λp a=>let⟨h,n⟩:=C p (Yd (.inl a));⟨h,n.mono G.le⟩) (Yt.next (K:=K) A (q.sub (by intro p a;rcases Z1 a with h|h;rcases Z1 h with h|h<;>simp[h];simp[h])) xk x0 v M.mr) (A.dj v);refine⟨Z,e++hy,y5,?_,⟨e,hy,V8 _,q1.mono V.le,q2⟩,yv,xv,?_,?_⟩;·refine U.trans (Y0.perm x6 ?_ (V.frame e));rw[Z5 e];exact XJ
  ·intro f i;have x3:∀p∈c.l++R1,p.1≠Yj f:=λp a=>i p (by rcases Z1 a with h|h<;>simp[h]);have y2:∀p∈c1.l++L,p.1≠Yj f:=by
    intro p a b;rcases Z1 a with a|a;·obtain⟨n,S,N⟩:=A.ids p a;exact x3 n S (N.trans b)
    ·exact i p (by simp[a]) b
   rw[x1 f y2,x0 f x3]
  ·show Yt Z ((match V3 d with|true=>[(d.t,⟨d.ty,o⟩)]|false=>[])++FB (h'::l) y);refine Yt.append ?_ y1;cases y3:V3 d with|false=>intro _ _ _ j;cases j|true=>
    obtain⟨b1,b2,b3⟩:=y0 y3;intro f t xs j y8 hi;have x4:Yj f=d.t:=X7 (·.1) (YZ j);have y6:∀p∈c1.l++L,p.1≠Yj f:=by
     intro p a b;rcases Z1 a with a|a;·exact b2 p a (b.trans x4)
     ·have h3:=M.mr p a;rw[b,x4,b3]at h3;cases h3
    rw[x1 f y6];exact b1 f t xs j y8 hi
structure MP(Z:Xq)(β:Sr)(s:XS)(hy:HP)(K:KK)(H:HM)(a:Act)(w:World):Prop where
 own:∃hd,GD K.m (YQ H s.b++(hy++(hd++β.hx))) w/\ZG β.w0 w β.m0 K.m β.b0 (HP.bs (YQ H s.b++(hy++(hd++β.hx))))gl:O7 Z K
 bx:∀p∈s.b,∃h,H p.1=some h/\Wg K p.1 p.2 h
 ev:∀t,YU K H (Ys s.e t) (a.tmps.getD t undef)ln:∀t,Un (Ys s.e t)=[]fr:∀i,Py s.n i->K.nm i=none
 YM:Yt K s.b
 sz:a.tmps.size=β.N
 df:a.defers=[]fx:∀b∈HP.bs β.hx,∀o,K.m b o=β.m0 b o
theorem zk:∀(q),Z8 (KM q)=J0 q/\RU (KM q)/\∀i r,KM q≠.m i::r|[]=>⟨rfl,trivial,by intro i r a;cases a⟩|0::l=>⟨(zk l).1,(zk l).2.1,by intro i r a;cases a⟩|(k+1)::l=>⟨by show k+Z8 _=k+J0 l;rw[(zk l).1],(zk l).2.1,by intro i r a;cases a⟩
theorem yu{t}{x}{n}{b}{u}{n'}{b'}(h:Mt t x n b=(u,n',b')):n<=n'/\∃new,b'=new++b/\(∀p∈new,n<=p.1/\p.1<n')/\∀K hs cs,rel K t hs cs x->Pz n n' K->∃K',Vh n n' K K'/\R0 K' u (XE t.ag cs)/\ZH K' new hs:=by
 have z:(match UR t x n b with|(u,n,m)=>(bif u.t.plain then SV.v u else .any,n,m))=(u,n',b')->n<=n'/\∃new,b'=new++b/\(∀p∈new,n<=p.1/\p.1<n')/\∀K hs cs,rel K t hs cs x->Pz n n' K->∃K',Vh n n' K K'/\R0 K' u (XE t.ag cs)/\ZH K' new hs:=by intro h;rcases h1:UR t x n b with⟨o,L,m⟩;rw[h1]at h;cases h;have f:=yr h1;obtain⟨new,q,A,H⟩:=f.h;refine⟨f.le,new,q,A,λK hs cs a e=>?_⟩;obtain⟨K',k,J,C,d,i,F⟩:=H K hs cs a e;refine⟨K',d,?_,(F.more k).perm (XJ.trans C.symm)⟩;cases D:o.t.plain with|true=>have r:k=[]:=SD D i;subst r;exact⟨rfl,cs,i,by rw[f.ag]⟩|false=>exact⟨rfl,trivial⟩
 cases t with
 |opt t=>cases h;refine⟨LG _,[(n,⟨.opt t,x⟩)],rfl,Zb,λK hs cs a e=>?_⟩;match cs,(WH a)with|[v],_=>have d:=KK.HC (e n (YG _) (nB _)) v;refine⟨K.name n v,d,⟨rfl,[v],⟨rfl,v,KK.Pl,rfl,RD a v Zb⟩,rfl⟩,hs,[],Zb,⟨[v],Xl d.le a,λo G=>by rw[YZ G];exact KK.Pl⟩,trivial⟩
 |Ue l c=>
  cases h;refine⟨YG _,[],rfl,Zb,λK hs cs a e=>?_⟩;obtain⟨_,g,B,rfl⟩:=a;obtain⟨s,w,y⟩:=zk c;have j:MB K l (KM c)=K.nm l/\Ew (KM c)=KM c:=by cases E:KM c with|nil=>exact⟨rfl,rfl⟩|cons I M=>cases I<;>first|exact⟨rfl,rfl⟩|exact absurd E (y _ _)
  refine⟨K,Vh.refl _ _ _,⟨rfl,g,⟨_,j.1.trans B,.inl ⟨rfl,by rw[j.2];exact w⟩⟩,?_⟩,trivial⟩;show Value.pointer (some ⟨g,J0 c,none⟩)=_;rw[s]|_=>exact z h
section
variable{Z:Xq}{β:Sr}
theorem MP.add{s s'}{v h1 h2:HP}{K K'}{H}{a}{w}{new}{n'}(h:MP Z β s v K H a w)(c:v.Perm (h1++h2))(g:Vh s.n n' K K')(L:ZH K' new h1)(d:s'.b=new++s.b)(P:s'.n=n')(z:∀t,Un (Ys s'.e t)=[]/\∀H',YU K' H' (Ys s'.e t) (a.tmps.getD t undef))(u:(s'.b.map (·.1)).Nodup)(J:Yt K' new)(T:s.n<=n'):∃H',MP Z β s' h2 K' H' a w/\∀j,(∀p∈new,p.1≠j)->H' j=H j:=by
 rw[d,Vg,TM]at u;obtain⟨l,C,Q,B⟩:=xz u.1 L;obtain⟨H',G⟩:∃H':HM,H'=λj=>if j∈new.map (·.1)then l j else H j:=⟨_,rfl⟩;have x:∀p∈new,H' p.1=l p.1:=λp c=>by grind
 have o:∀j,j∉new.map (·.1)->H' j=H j:=λj r=>by rw[G];show(if j∈new.map (·.1)then l j else H j)=_;rw[Yg r]
 have y:∀p∈s.b,p.1∉new.map (·.1):=λp c k=>u.2.2 p.1 k p.1 (VC (f:=(·.1)) c) rfl;obtain⟨q,N,M⟩:=h.own;have I:YQ H' s'.b=YQ l new++YQ H s.b:=by rw[d,Mm,Ho x,Ho λp c=>o p.1 (y p c)]
 have A:(YQ H s.b++(v++(q++β.hx))).Perm (YQ H' s'.b++(h2++(C++q++β.hx))):=by rw[I];classical rw[VS]at B c⊢;intro D;have E:=B D;have F:=c D;simp only[VR]at E F⊢;omega
 refine⟨H',⟨⟨C++q,by rw[g.m];exact N.perm A,by rw[g.m];exact ZG.QI A M⟩,h.gl.mono g.le,λp c=>?_,λt=>(z t).2 H',λt=>(z t).1,λi m=>?_,?_,h.sz,h.df,λb d R=>by rw[g.m];exact h.fx b d R⟩,λj r=>o j λk=>?_⟩
 ·rw[d]at c;rcases Z1 c with c|c;·obtain⟨n,e,d⟩:=Q p c;exact⟨n,(x p c).trans e,d⟩
  ·obtain⟨n,e,d⟩:=h.bx p c;exact⟨n,(o p.1 (y p c)).trans e,d.mono g.le⟩
 ·rw[P]at m;have O:n'<=i/\i<500:=m;rw[g.nm i Y];exact h.fr i ⟨Y,O.2⟩
 ·rw[d];refine Yt.append J λf t S k i m=>?_;rw[g.fm];exact h.YM f t S k i m
 ·obtain⟨p,c,e⟩:=Uj k;exact r p c e
structure R4(h:HI)(s s':XS):Prop where
 n:s.n<=s'.n
 d:∀j∈s.d,j∈s'.d
 b:∃new,s'.b=new++s.b/\∀p∈new,p.1∈s'.d\/s.n<=p.1/\p.1<s'.n
theorem ym{a b:Bx}(h:((a++b).map (·.1)).Nodup):(b.map (·.1)).Nodup:=by rw[Vg,TM]at h;exact h.2.1
theorem ZfQ{n0}{h}{x}{s}{T h1 h2:HP}{K}{H}{a}{w}(x8:LO n0 h)(f:MP Z β s T K H a w)(c:T.Perm (h1++h2))(p:QW K a h x h1)(x5:V3 h=true->Yt K [(h.t,⟨h.ty,x⟩)])(z:((Wb h x s).b.map (·.1)).Nodup)(r:(Wb h x s).n<=500):R4 h s (Wb h x s)/\∃K' H',MP Z β (Wb h x s) h2 K' H' a w/\Vh s.n (Wb h x s).n K K'/\∀j,j∉(Wb h x s).d->¬(s.n<=j/\j<(Wb h x s).n)->H' j=H j:=by cases hb:h.b with
 |true=>cases m:V3 h with|true=>
   have e:Wb h x s={s with b:=(h.t,⟨h.ty,x⟩)::s.b,d:=h.t::s.d}:=by unfold Wb;rw[hb];dsimp only;rw[m];rfl
   rw[e]at z r⊢;unfold QW at p;rw[m]at p;refine⟨⟨YG _,λj g=>XG _ g,[(h.t,⟨h.ty,x⟩)],rfl,λi c=>by rw[YZ c];exact .inl XP⟩,?_⟩;obtain⟨H',o,B⟩:=f.add (s':={s with b:=(h.t,⟨h.ty,x⟩)::s.b,d:=h.t::s.d}) (new:=[(h.t,⟨h.ty,x⟩)]) (n':=s.n) c (Vh.refl _ _ _) ⟨h1,[],Zb,p,trivial⟩ rfl rfl (λt=>⟨f.ln t,λH'=>(f.ev t).boxes λj g=>by rw[f.ln t]at g;cases g⟩) z (x5 m) (YG _);refine⟨K,H',o,Vh.refl _ _ _,λj g _=>B j λi c e=>g ?_⟩;rw[<-e,YZ c];exact XP|false=>
   unfold QW at p;rw[m]at p;obtain⟨A,I,S⟩:=p;obtain⟨U,o2⟩:=x8.one m hb;have x9:Wb h x s=s->R4 h s (Wb h x s)/\∃K' H',MP Z β (Wb h x s) h2 K' H' a w/\Vh s.n (Wb h x s).n K K'/\∀j,j∉(Wb h x s).d->¬(s.n<=j/\j<(Wb h x s).n)->H' j=H j:=by
    intro e;rw[e];refine⟨⟨YG _,λ_ h=>h,[],rfl,Zb⟩,K,H,?_,Vh.refl _ _ _,λ_ _ _=>rfl⟩;obtain⟨P,hg,x6⟩:=f.own;have x1:(YQ H s.b++(T++(P++β.hx))).Perm (YQ H s.b++(h2++(h1++P++β.hx))):=by classical rw[VS]at c⊢;intro xk;have a2:=c xk;simp only[VR]at a2⊢;omega
    exact{f with own:=⟨h1++P,hg.perm x1,ZG.QI x1 x6⟩}
   by_cases X:∃j F,Ys s.e h.t=.v ⟨.hole j,F⟩/\Nat.blt j 1000=true
   ·obtain⟨j,F,G,Q⟩:=X;rcases C:KH j ⟨h.ty,x⟩ s.n s.b with⟨k,L⟩;have e:Wb h x s={s with n:=k,b:=L,d:=j::s.d}:=by unfold Wb;rw[hb];dsimp only;rw[m,TO,G];dsimp only;rw[Q,C];rfl
    rw[e]at z r⊢;obtain⟨E,new,rfl,y,N⟩:=yq C;have W:=f.ev h.t;rw[G]at W;obtain⟨xv,⟨_,v,x7,x2,_⟩,ev⟩:=W;have x4:A=[v]:=by have hl:=WH I;rw[U]at hl;match A,hl with|[u'],_=>rw[S,o2,x2]at ev;have:u'=v:=ev;rw[this]
    obtain⟨K',q,O⟩:=N K h1 ⟨A,I,λF hu=>by rw[x4]at hu;rw[YZ hu];exact x7⟩ λD h1 h2=>f.fr D ⟨h1,by have:k<=500:=r;omega⟩;have x0:∀i∈new,i.1=j\/s.n<=i.1/\i.1<k:=λi c=>by
     rcases y i c with h|h|⟨t,x,h⟩;·exact .inr h
     ·rw[h];exact .inl rfl
     ·rw[h];exact .inl rfl
    have hF:Yt K' new:=by
     intro u t xs o D hi;rcases y _ o with l|l|⟨t',x',l⟩;·have M:s.n<=1000+u/\1000+u<k:=l;have:k<=500:=r;omega
     ·injection l with _ l;have M:Ty.YL u t=h.ty:=X7 TV.t l;rw[<-M]at U;cases U
     ·injection l with _ l;injection l with l _;cases l
    refine⟨⟨E,λJ g=>XG _ g,new,rfl,λi c=>(x0 i c).imp (λe=>by rw[e];exact XP) id⟩,?_⟩;obtain⟨H',o,B⟩:=f.add (s':={s with n:=k,b:=new++s.b,d:=j::s.d}) (new:=new) (n':=k) c q O rfl rfl (λt=>⟨f.ln t,λH'=>((f.ev t).mono q.le).boxes λj g=>by rw[f.ln t]at g;cases g⟩) z hF E;refine⟨K',H',o,q,λJ g R=>B J λi c e=>?_⟩;rcases x0 i c with h|h;·exact g (by rw[<-e,h];exact XP)
    ·exact R (by rw[<-e];exact h)
   ·refine x9 ?_;unfold Wb;rw[hb];dsimp only;rw[m,TO];split;·rename_i j F G;cases Q:Nat.blt j 1000with|true=>exact absurd ⟨j,F,G,Q⟩ X|false=>rfl
    ·rfl
 |false=>
  have m:V3 h=false:=by unfold V3;rw[hb];rfl
  unfold QW at p;rw[m]at p;obtain⟨A,I,S⟩:=p;rcases C:Mt h.ty x s.n s.b with⟨v,k,L⟩;have e:Wb h x s={s with e:=(h.t,v)::s.e,n:=k,b:=L}:=by unfold Wb;rw[hb];dsimp only;rw[C]
  rw[e]at z r⊢;obtain⟨E,new,rfl,y,N⟩:=yu C;obtain⟨K',q,V,O⟩:=N K h1 A I λD h1 h2=>f.fr D ⟨h1,by have:k<=500:=r;omega⟩;refine⟨⟨E,λ_ h=>h,new,rfl,λi c=>.inr (y i c)⟩,?_⟩;obtain⟨H',o,B⟩:=f.add (s':={s with e:=(h.t,v)::s.e,n:=k,b:=new++s.b}) (new:=new) (n':=k) c q O rfl rfl (λt=>by show Un (Ys ((h.t,v)::s.e) t)=[]/\∀H',YU K' H' (Ys ((h.t,v)::s.e) t) _;rw[R9];cases x3:Nat.beq h.t t with|true=>rw[TP];have:=Xu x3;rw[<-this,S];exact⟨V.1,λH'=>YU.JZ (R1.rP V)⟩|false=>rw[TO];exact⟨f.ln t,λH'=>((f.ev t).mono q.le).boxes λj g=>by rw[f.ln t]at g;cases g⟩) z λu t xs o D hi=>by have M:s.n<=1000+u/\1000+u<k:=y _ o;have:k<=500:=r;omega E;exact⟨K',H',o,q,λJ _ R=>B J λi c e=>R (by rw[<-e];exact y i c)⟩
end
section
variable{Z:Xq}{β:Sr}
theorem upS(h)(x)(s):R4 h s (Wb h x s):=by cases hb:h.b with
 |true=>cases q:V3 h with|true=>
   have e:Wb h x s={s with b:=(h.t,⟨h.ty,x⟩)::s.b,d:=h.t::s.d}:=by unfold Wb;rw[hb];dsimp only;rw[q];rfl
   rw[e];exact⟨YG _,λa i=>XG _ i,[(h.t,⟨h.ty,x⟩)],rfl,λm f=>by rw[YZ f];exact .inl XP⟩|false=>
   by_cases r:∃a p,Ys s.e h.t=.v ⟨.hole a,p⟩/\Nat.blt a 1000=true
   ·obtain⟨a,p,t,u⟩:=r;rcases c:KH a ⟨h.ty,x⟩ s.n s.b with⟨k,g⟩;have e:Wb h x s={s with n:=k,b:=g,d:=a::s.d}:=by unfold Wb;grind
    rw[e];obtain⟨j,l,rfl,o,_⟩:=yq c;refine⟨j,λw i=>XG _ i,l,rfl,λm f=>?_⟩;grind
   ·have e:Wb h x s=s:=by unfold Wb;grind
    rw[e];exact⟨YG _,λ_ h=>h,[],rfl,Zb⟩
 |false=>
  rcases c:Mt h.ty x s.n s.b with⟨v,k,g⟩;have e:Wb h x s={s with e:=(h.t,v)::s.e,n:=k,b:=g}:=by unfold Wb;rw[hb];dsimp only;rw[c]
  rw[e];obtain⟨j,l,rfl,o,_⟩:=yu c;exact⟨j,λ_ h=>h,l,rfl,λm f=>.inr (o m f)⟩
theorem R4.trans{h h'}{a b c}(k:R4 h a b)(k':R4 h' b c):R4 h a c:=by
 have⟨l,f,j⟩:=k.b;have⟨m,g,q⟩:=k'.b;refine⟨WX k.n k'.n,λe i=>k'.d e (k.d e i),m++l,by rw[g,f,Z5],λn d=>?_⟩;have o:=k.n;have p:=k'.n;rcases Z1 d with d|d;·grind
 ·rcases j n d with h|h;·exact .inl (k'.d _ h)
  ·omega
theorem ZsE(h)(s):R4 h s s:=⟨Zb,λ_ h=>h,[],rfl,Zb⟩
theorem KY(b):∀{l}{y}{s},R4 b s (unpack l y s)|[],_,s=>ZsE _ s|[h],x,s=>let a:=upS h x s;⟨a.n,a.d,a.b⟩|h::h'::l,x,s=>by have a:=upS h x.1 s;exact(show R4 _ s _ from⟨a.n,a.d,a.b⟩).trans (KY b)
theorem ZfR{n0}:∀{l}{y}{s}{g}{K}{H}{a}{w},(∀h∈l,LO n0 h)->MP Z β s g K H a w->NV K a l y g->Yt K (FB l y)->((unpack l y s).b.map (·.1)).Nodup->(unpack l y s).n<=500->∃K' H' E,MP Z β (unpack l y s) E K' H' a w/\Vh s.n (unpack l y s).n K K'/\∀j,j∉(unpack l y s).d->¬(s.n<=j/\j<(unpack l y s).n)->H' j=H j
 |[],y,s,g,K,H,a,w,_,m,_,_,_,_=>⟨K,H,g,m,Vh.refl _ _ _,λ_ _ _=>rfl⟩|[h],x,s,g,K,H,a,w,q,m,⟨i,F,c,f⟩,v,C,B=>by obtain⟨_,K',H',A,S,hk⟩:=ZfQ (q h Zb) m c f (λz=>by have k:Yt K (match V3 h with|true=>[(h.t,⟨h.ty,x⟩)]|false=>[]):=v;rwa[z]at k) C B;exact⟨K',H',F,A,S,hk⟩|h::e::l,x,s,g,K,H,a,w,q,m,⟨i,u,c,f,U⟩,v,C,B=>by
  have k:Yt K ((match V3 h with|true=>[(h.t,⟨h.ty,x.1⟩)]|false=>[])++FB (e::l) x.2):=v;have o:R4 h (Wb h x.1 s) (unpack (e::l) x.2 (Wb h x.1 s)):=KY h;obtain⟨x9,P,_⟩:=o.b;have D:((unpack (e::l) x.2 (Wb h x.1 s)).b.map (·.1)).Nodup:=C;have J:(unpack (e::l) x.2 (Wb h x.1 s)).n<=500:=B;obtain⟨L,G,H1,x3,p,x1⟩:=ZfQ (q h Zb) m c f (λz=>by rw[z]at k;exact k.sub λxk c=>Yd (.inl c)) (by rw[P]at D;exact ym D) (WX o.n J);have V:NV G a (e::l) x.2 u:=by
   have x6:∀{l:List HI}{y:(Tu l).den}{r:HP},NV K a l y r->NV G a l y r:=by intro l;induction l with|nil=>intro _ _ _;trivial|cons h l ih=>cases l with|nil=>rintro y r⟨i,F,c,f⟩;exact⟨i,F,c,f.mono p.le⟩|cons e l=>rintro y r⟨i,u,c,f,x7⟩;exact⟨i,u,c,f.mono p.le,ih x7⟩
   exact x6 U
  obtain⟨N,M,E,x4,T,x2⟩:=ZfR (λR W=>q R (XG _ W)) x3 V (λQ t xs A x5 X=>by rw[p.fm];exact k Q t xs (Yd (.inr A)) x5 X) D J;refine⟨N,M,E,x4,p.trans L.n o.n T,λj I x0=>?_⟩;have x8:¬(s.n<=j/\j<(unpack (e::l) x.2 (Wb h x.1 s)).n):=x0;have l1:=L.n;have l2:=o.n;rw[x2 j I Y];exact x1 j (λO=>I (o.d j O)) Y
theorem Zlz{b}(h:rD b=true):(b.map (·.1)).Nodup:=by induction b with|nil=>simp|cons g b f=>simp only[rD,Yv,Jg]at h;rw[XF,T9];refine⟨λd=>?_,f h.2⟩;have⟨a,e,c⟩:=Uj d;have:(b.any λa=>Nat.beq a.1 g.1)=true:=BB ⟨a,e,by rw[Jl];exact c⟩;grind
structure GJ(s:XS):Prop where
 nd:(s.b.map (·.1)).Nodup
 n:s.n<=500ids:∀p∈s.b,p.1<s.n\/500<=p.1
theorem CM{R}{r:R}{s}{k}(h:Pm s k=some r):GJ s/\k s=some r:=by
 have⟨a,h⟩:=Yk h;simp only[Yv,RK,Gx]at a;refine⟨⟨Zlz a.1,Dd▸a.2.1,λb d=>?_⟩,h⟩;rcases a.2.2 b d with h|h;·exact .inl (Uk▸h)
 ·refine .inr (wQ λc=>?_);have:Nat.blt b.1 500=true:=by rw[Uk];exact c
  grind
structure PF(Z:Xq)(β:Sr)(n0:Nat)(s:XS)(l:List HI)(y:(Tu l).den)(K:KK)(H:HM)(a:Act)(w:World):Prop where
 hy:∃hy,MP Z β s hy K H a w/\NV K a l y hy
 YM:Yt K (FB l y)ok:∀h∈l,LO n0 h
theorem PF.unpack{m}{s}{l}{y}{K}{H}{a}{w}(h:PF Z β m s l y K H a w)(c:GJ (unpack l y s)):∃K' H',St Z β (unpack l y s) K' H' a w/\Vh s.n (unpack l y s).n K K'/\∀j,j∉(unpack l y s).d->¬(s.n<=j/\j<(unpack l y s).n)->H' j=H j:=by obtain⟨hy,k,g⟩:=h.hy;obtain⟨K',H',t,b,f,i⟩:=ZfR h.ok k g h.YM c.nd c.n;refine⟨K',H',⟨⟨c.nd,c.ids,λo j e=>by rw[b.ln o]at e;cases e⟩,?_⟩,f,i⟩;have⟨p,r,q⟩:=b.own;exact⟨c.nd,Zm,b.gl,b.bx,b.ev,b.fr,b.YM,b.sz,b.df,b.fx⟩
end
theorem D3{W}{t}:∀{e},Un (Ys (SM W e) t)=[]/\∀K H v,(t∉W->YU K H (Ys e t) v)->YU K H (Ys (SM W e) t) v|[]=>⟨rfl,λ_ _ _ _=>trivial⟩|(u,s)::e=>by have d:=D3 (W:=W) (t:=t) (e:=e);have h:SM W ((u,s)::e)=bif PZ W u then SM W e else match s with|.bv _ _=>(u,.any)::SM W e|s=>(u,s)::SM W e:=rfl;rw[h];cases c:PZ W u with|true=>rw[TP];refine⟨d.1,λK H v a=>d.2 K H v λg=>?_⟩;have l:=Ln.1 c;have:=a g;rwa[R9,beq_false λe=>g Zm]at this|false=>
   rw[TO];have f:∀b,Un b=[]->(∀K H v,YU K H s v->YU K H b v)->Un (Ys ((u,b)::SM W e) t)=[]/\∀K H v,(t∉W->YU K H (Ys ((u,s)::e) t) v)->YU K H (Ys ((u,b)::SM W e) t) v:=by intro b j k;rw[R9,R9];cases hb:Nat.beq u t with|true=>have:=Xu hb;subst this;refine⟨j,λK H v a=>k K H v (a λi=>?_)⟩;rw[Ln.2 i]at c;cases c|false=>exact d
   cases s with|bv m n=>exact f .any rfl λ_ _ _ _=>trivial|_=>exact f _ rfl λ_ _ _ a=>a
section
variable{Z:Xq}{β:Sr}
structure mE(Z:Xq)(β:Sr)(s:XS)(l:List HI)(y:(Tu l).den)(c:CS)(Rb:Bx)(K:KK)(H:HM)(a:Act)(w:World)(K1:KK)(hy hl hd:HP):Prop where
 gd:GD K1.m (hy++(hl++(YQ H (X0 Rb s.b)++(hd++β.hx)))) w
 Kj:ZG β.w0 w β.m0 K1.m β.b0 (HP.bs (hy++(hl++(YQ H (X0 Rb s.b)++(hd++β.hx)))))le:K.le K1
 nm:K1.nm=K.nm
 pk:NV K1 a l y hy
 sl:ZH K1 c.l hl
 fl:Yt K1 c.l
 fk:W3 K K1 Rb
 fy:Yt K1 (FB l y)fx:∀b∈HP.bs β.hx,∀o,K1.m b o=β.m0 b o
theorem ib{R}{r:R}{C}{s}{l}{k}(h:J4 C s l {g:=s.b} k=some r):∃y c d,k y c=some r/\c.r=d/\c.g=X0 d s.b/\(∀p∈d,ZF s.b p.1=some p.2)/\(d.map (·.1)).Nodup/\(∀p∈c.l,∃q∈d,q.1=p.1)/\(∀h∈l,LO C h)/\(∀h∈l,V3 h=true->∃q∈d,q.1=h.t)/\∀K H a w,MS Z β s (Py s.n) K H a w->∃t m O j,mE Z β s l y c d K H a w t m O j:=by
 obtain⟨y,c,d,S,L,f,V,E⟩:=Zcw h;refine⟨y,c,d,L,by rw[f.r];simp,f.g,f.mr,f.nd,λp e=>?_,Zm,Zm,λK H a w i=>?_⟩;·obtain⟨q,U,F⟩:=f.ids p e;exact⟨q,Zm,F⟩
 ·obtain⟨j,N,M⟩:=i.own;have B:=Hq (H:=H) (Ee i.nd f.nd f.mr);rw[Mm]at B;have e:=by have:=B.append_right (j++β.hx);simpa[Z5]using this
  have u:=N.perm e;have A:=λp e=>W8 (f.mr p e);obtain⟨t,m,v,n,P,Q,I,T,J⟩:=E w K H a [] (YQ H d) u.left i.ev trivial (pC λp e=>i.bx p (A p e)) (λp e=>by obtain⟨g,_,o⟩:=i.bx p (W8 (f.mq p e));exact⟨g,o⟩) (i.YM.sub λp e=>A p (by simpa using e)) Zb;obtain⟨z,x⟩:=(n.frame _).step u;have G:m++v++(YQ H (X0 d s.b)++(j++β.hx))=m++(v++(YQ H (X0 d s.b)++(j++β.hx))):=Zb;rw[G]at z x;exact⟨t,m,v,j,z,M.trans (ZG.RB e x),n.le,n.nm,P,Q,I,Zm,J,λb o D=>(n.zm u b (by simp only[HP.bs,Vg,TL];exact .inr (.inr o)) D).trans (i.fx b o D)⟩
theorem NV.names{K K2}{j}{a}(m:K2.fm=K.fm)(n:K2.m=K.m)(q:∀i,¬(j<=i/\i<500)->K2.nm i=K.nm i):∀{l}{y}{hs},(∀h∈l,LO j h)->NV K a l y hs->NV K2 a l y hs:=by
 have o:∀{h:HI}{k:h.ty.den}{hs:HP},LO j h->QW K a h k hs->QW K2 a h k hs:=by
  intro h k hs ok b;unfold QW at b⊢
  cases c:V3 h with|true=>
   rw[c]at b;obtain⟨f,d,e⟩:=b;have u:¬h.t<1000:=by
    unfold V3 at c;rw[Yv]at c;intro p;have:Nat.blt h.t 1000=true:=by rw[Uk];exact p
    rw[this]at c;cases c.2
   exact⟨f,qV m n (ok.nh c) d,Zm⟩|false=>rw[c]at b;obtain⟨f,d,e⟩:=b;exact⟨f,Zq5 m n (λi t=>q i Y) (ok.ok c) d,e⟩
 intro l;induction l with|nil=>intro _ _ _ _;trivial|cons h l v=>cases l with|nil=>rintro y hs ok⟨d,r,g,b⟩;exact⟨d,r,g,o (ok h Zb) b⟩|cons s l=>rintro y hs ok⟨d,e,g,b,w⟩;exact⟨d,e,g,o (ok h Zb) b,Zm⟩
theorem Zmi{x}{s}{l}{y}{c}{o}{K K0 v}{H H0}{a}{w}{D A z}{e0}{k}{d}{tr}{al}(j:mE Z β s l y c o K H a w v D A z)(C:MS Z β s (Py s.n) K H a w)(x3:(o.map (·.1)).Nodup)(x2:∀p∈o,ZF s.b p.1=some p.2)(M:∀h∈l,LO x h)(x0:∀i,¬(x<=i/\i<500)->K.nm i=K0.nm i)(S:∀i,Py x i->K0.nm i=none)(L:K0.le K)(T:O7 Z K0)(V:(k.map (·.1)).Nodup)(E:∀p∈k,ZF s.b p.1=some p.2/\∀q∈o,q.1≠p.1)(Q:∀p∈k,∃h,H0 p.1=some h/\Wg K0 p.1 p.2 h)(O:∀p∈k,H p.1=H0 p.1)(R:∀t,YU K0 H0 (Ys e0 t) (a.tmps.getD t undef))(W:∀t,Un (Ys e0 t)=[]):∃K2,PF Z β x {e:=e0,b:=k,n:=x,d:=d,tr:=tr,al:=al} l y K2 H0 a w/\K0.le K2/\K2.nm=K0.nm/\∀f,(∀q∈o,q.1≠Yj f)->K2.fm f=K.fm f:=by
 obtain⟨K2,g⟩:∃K2:KK,K2=⟨K0.nm,v.fm,v.m⟩:=⟨_,rfl⟩;have B:K0.le K2:=by rw[g];exact⟨λ_ _ h=>h,(L.trans j.le).fm,(L.trans j.le).m⟩
 have U:∀p∈k,ZF (X0 o s.b) p.1=some p.2:=λp u=>by rw[L8 (E p u).2];exact(E p u).1
 have G:=Hq (H:=H) (Ee (KF C.nd) V U);rw[Mm,Ho (H:=H0) (H':=H) (b:=k) O]at G;have u:(D++(A++(YQ H (X0 o s.b)++(z++β.hx)))).Perm (YQ H0 k++(D++(YQ H (X0 k (X0 o s.b))++(A++z)++β.hx))):=by classical rw[VS]at G⊢;intro x1;have:=G x1;simp only[VR]at this⊢;omega
 refine⟨K2,⟨⟨D,⟨⟨YQ H (X0 k (X0 o s.b))++(A++z),by rw[g];exact j.gd.perm u,by rw[g];exact ZG.QI u j.Kj⟩,T.mono B,λp u=>?_,λt=>(R t).mono B,W,λi r=>by rw[g];exact S i r,?_,C.sz,C.df,by rw[g];exact j.fx⟩,NV.names (K:=v) (by rw[g]) (by rw[g]) (λi r=>by rw[g,j.nm];exact(x0 i r).symm) M j.pk⟩,?_,M⟩,B,by rw[g],λf X=>by rw[g];exact j.fk f X⟩;·obtain⟨N,e,P⟩:=Q p u;exact⟨N,e,P.mono B⟩
 ·intro f t I F i r;have J:=E _ F;rw[g];show v.fm f i=none;rw[j.fk f J.2];exact C.YM f t I (W8 J.1) i r
 ·intro f t I F i r;rw[g];exact j.fy f t I F i r
theorem Zmj{s}{l}{y}{c}{r}{K J}{H}{a}{w}{z P C}{e0}{d}{tr}{al}(k:mE Z β s l y c r K H a w J z P C)(m:MS Z β s (Py s.n) K H a w)(D:c.g=X0 r s.b)(x2:∀p∈r,ZF s.b p.1=some p.2)(U:∀p∈c.l,∃q∈r,q.1=p.1)(X:∀h∈l,LO s.n h)(F:((c.l++c.g).map (·.1)).Nodup)(V:∀t,YU K H (Ys e0 t) (a.tmps.getD t undef))(Q:∀t,Un (Ys e0 t)=[]):∃H2,PF Z β s.n {e:=e0,b:=c.l++c.g,n:=s.n,d:=d,tr:=tr,al:=al} l y J H2 a w/\∀j,(∀q∈r,q.1≠j)->H2 j=H j:=by
 rw[Vg,TM]at F;obtain⟨u,x0,W,R⟩:=xz F.1 k.sl;obtain⟨o,L⟩:∃o:HM,o=λj=>if j∈c.l.map (·.1)then u j else H j:=⟨_,rfl⟩;have M:∀p∈c.l,o p.1=u p.1:=λp i=>by rw[L];show(if p.1∈c.l.map (·.1)then u p.1else H p.1)=_;rw[YW (VC (f:=(·.1)) i)]
 have A:∀j,j∉c.l.map (·.1)->o j=H j:=λj v=>by rw[L];show(if j∈c.l.map (·.1)then u j else H j)=_;rw[Yg v]
 have N:∀p∈c.g,p.1∉c.l.map (·.1):=λp i m=>F.2.2 p.1 m p.1 (VC (f:=(·.1)) i) rfl;have T:YQ o (c.l++c.g)=YQ u c.l++YQ H c.g:=by rw[Mm,Ho M,Ho λp i=>A p.1 (N p i)]
 have i:(z++(P++(YQ H (X0 r s.b)++(C++β.hx)))).Perm (YQ o (c.l++c.g)++(z++(x0++C++β.hx))):=by rw[T,D];classical rw[VS]at R⊢;intro x1;have:=R x1;simp only[VR]at this⊢;omega
 refine⟨o,⟨⟨z,⟨⟨_,k.gd.perm i,ZG.QI i k.Kj⟩,m.gl.mono k.le,λp i=>?_,λt=>(((V t).mono k.le).boxes λj v=>by have O:j∈Un (Ys e0 t):=v;rw[Q t]at O;cases O),Q,λI E=>by rw[k.nm];exact m.fr I E,?_,m.sz,m.df,k.fx⟩,k.pk⟩,k.fy,X⟩,λj v=>A j λx=>?_⟩
 ·rcases Z1 (show p∈c.l++c.g from i)with i|i;·obtain⟨g,e,B⟩:=W p i;exact⟨g,(M p i).trans e,B⟩
  ·obtain⟨g,e,B⟩:=m.bx p (by rw[D]at i;exact Kg p i);exact⟨g,(A p.1 (N p i)).trans e,B.mono k.le⟩
 ·refine Yt.append k.fl λf t xs x I E=>?_;rw[D]at x;rw[k.fk f λq G e=>?_];·exact m.YM f t xs (Kg _ x) I E
  ·exact L7 (Oy (KF m.nd) x) q G e
 ·obtain⟨p,i,e⟩:=Uj x;obtain⟨q,G,S⟩:=U p i;exact v q G (S.trans e)
end
def LN(l:List HI)(j:Nat):Prop:=∃a∈l,V3 a=true/\a.t=j
theorem ZfS{h}{x}{s}:(∀j,1000<=j->j∈(Wb h x s).d->j∈s.d\/V3 h=true/\h.t=j)/\(V3 h=true->h.t∈(Wb h x s).d):=by cases hb:h.b with
 |true=>cases g:V3 h with
  |true=>
   have e:Wb h x s={s with b:=(h.t,⟨h.ty,x⟩)::s.b,d:=h.t::s.d}:=by unfold Wb;grind
   grind|false=>
   refine⟨λj m a=>?_,Zb⟩;unfold Wb at a;rw[hb]at a;dsimp only at a;rw[g]at a;split at a;·rename_i k r q;cases i:Nat.blt k 1000with
    |true=>
     rw[i,TP]at a;rcases o:KH k ⟨h.ty,x⟩ s.n s.b with⟨l,c⟩;rcases XB (a)with f|f;·have p:=Uk▸i;omega
     ·exact .inl f|false=>grind
   ·exact .inl a
 |false=>
  have g:V3 h=false:=by unfold V3;rw[hb];rfl
  refine⟨λj m a=>?_,Zm⟩;rcases o:Mt h.ty x s.n s.b with⟨v,l,c⟩;have e:Wb h x s={s with e:=(h.t,v)::s.e,n:=l,b:=c}:=by unfold Wb;grind
  grind
theorem oo:∀{l}{y}{s},(∀j,1000<=j->j∈(unpack l y s).d->j∈s.d\/LN l j)/\∀j,LN l j->j∈(unpack l y s).d
 |[],_,s=>⟨λj _ h=>.inl h,λj⟨h,f,_⟩=>Zm⟩|[h],x,s=>by obtain⟨g,i⟩:=ZfS;refine⟨λj e f=>(g j e f).imp id λ⟨a,b⟩=>⟨h,Zb,a,b⟩,λj⟨c,hg,a,b⟩=>?_⟩;have:=YZ hg;subst this;rw[<-b];exact i a|h::h'::l,x,s=>by
  obtain⟨g,i⟩:=ZfS;obtain⟨m,n⟩:=oo (y:=x.2);have o:R4 h (Wb h x.1 s) (unpack _ x.2 _):=KY h;refine⟨λj e f=>?_,λj⟨c,hg,a,b⟩=>?_⟩
  ·rcases m j e f with k|⟨c,hg,a,b⟩;·exact(g j e k).imp id λ⟨a,b⟩=>⟨h,Zb,a,b⟩
   ·exact .inr ⟨c,Zm,a,b⟩
  ·rcases XB hg with rfl|hg;·rw[<-b];exact o.d _ (i a)
   ·exact n j ⟨c,hg,a,b⟩
theorem Zbp{b}{d}(h:Ht b d=true):∀p∈b,p.1∉d:=by intro p c a;simp only[Ht,RK,Jg]at h;have:=h p c;rw[Ln.2 a]at this;cases this
theorem Zln{f:List Nat->Oper->List Nat}(d:∀l o t,t∈f l o↔t∈l\/o.dst=some t){a:List Oper}:∀{l}{t},t∈a.foldl f l↔t∈l\/∃o∈a,o.dst=some t:=by induction a with|nil=>simp|cons o a e=>
  intro l t;rw[List.foldl_cons,e,d];constructor
  ·rintro((h|h)|⟨c,b,h⟩);·exact .inl h
   ·exact .inr ⟨o,Zb,h⟩
   ·exact .inr ⟨c,XG _ b,h⟩
  ·rintro(h|⟨c,b,h⟩);·exact .inl (.inl h)
   ·grind
theorem du{id}{ops}{dr}{l}{t}:t∈Xt (.region id ops dr) l↔t∈l\/∃o∈ops.toList,o.dst=some t:=by refine Zln λl o t=>?_;cases hd:o.dst<;>grind
theorem ZsU:∀{c}{l}{t},t∈Xt c l↔t∈Xt c []\/t∈l:=by intro c;induction c with|region id h g=>intro l t;rw[du,du];grind|seq a e d f=>intro l t;show t∈Xt a _↔t∈Xt a _\/t∈l;rw[d,f,d (l:=Xt e _)];exact or_assoc.symm|cond i a e d f=>intro l t;show t∈Xt a _↔t∈Xt a _\/t∈l;rw[d,f,d (l:=Xt e _)];exact or_assoc.symm|block id a b=>exact b|loop a b=>exact b|scope a b=>exact b|_=>simp[Xt]
theorem oL{a b}{t}(h:t∉Xt a (Xt b [])):t∉Xt a []/\t∉Xt b []:=by rw[ZsU]at h;exact⟨Zm,Zm⟩
def bA{σ ρ:Type}(id:Nat)(I:σ->Act->World->Prop)(Rr:ρ->Exit->Act->World->Prop)(r:LR σ ρ)(e:Exit)(a:Act)(w:World):Prop:=match r with|.next s=>e=.normal/\I s a w|.brk s=>e=.exit id/\I s a w|.ret x=>e≠.normal/\Rr x e a w
theorem ZeP{P}{l}{Q}{σ ρ}{f}{I}{Rr}{id}{h}(t:∀s r a w,f s=some r->I s a w->h.wpIn (XX l) 0 P (bA id I Rr r) a w):∀(n)(s)(c:σ⊕ρ)(a)(w),Pg f n s=some c->I s a w->(∀s' a w,c=.inl s'->I s' a w->Q (.exit id) a w)->(∀x e a w,c=.inr x->Rr x e a w->Q e a w)->Code.roundsIn (XX l) 0 P h Q n a w:=by intro n;induction n with|zero=>intro s c a w b;cases b|succ n q=>intro s c a w b m i j;unfold Pg at b;cases k:f s with|none=>grind|some r=>rw[k]at b;refine RO (t s r a w k m) λe u v g=>?_;cases r with|next s'=>obtain⟨rfl,d⟩:=g;exact q _ c _ _ b d i j|brk s'=>obtain⟨rfl,d⟩:=g;simp at b;exact i _ _ _ b.symm d|ret x=>have⟨p,o⟩:=g;simp at b;have:=j x e _ _ b.symm o;cases e with|normal=>exact absurd rfl p|_=>exact this
section
variable{Z:Xq}{β:Sr}
theorem ay{R}{v:R}{j}{c}{l}{s'}{k}(h:S7 j c l s' k=some v){K0 K'}{H0 H'}{a'}{w'}{e0}{d}{tr}{al}(s:St Z β s' K' H' a' w')(L:K0.le K')(O:∀i,¬(j<=i/\i<500)->K'.nm i=K0.nm i)(r:∀p,p∈c->p.1∉s'.d->ZF s'.b p.1=some p.2/\H' p.1=H0 p.1)(H:O7 Z K0)(D:∀p∈c,∃h,H0 p.1=some h/\Wg K0 p.1 p.2 h)(G:∀i,Py j i->K0.nm i=none)(K:(c.map (·.1)).Nodup)(E:∀t,YU K0 H0 (Ys e0 t) (a'.tmps.getD t undef))(N:∀t,Un (Ys e0 t)=[]):∃(y:(Tu l).den)(g:Bx),k y=some v/\(∀p,p∈c->p.1∉s'.d)/\(∀p,p∈g->ZF s'.b p.1=some p.2)/\(∀p,p∈c->∀q,q∈g->q.1≠p.1)/\∃K2,PF Z β j {e:=e0,b:=c,n:=j,d:=d,tr:=tr,al:=al} l y K2 H0 a' w'/\K0.le K2/\K2.nm=K0.nm/\∀f,(∀q,q∈g->q.1≠Yj f)->K2.fm f=K'.fm f:=by have⟨I,x⟩:=Yk h;obtain⟨y,W,g,z,w,X,o,C,x0,T,_,S⟩:=ib x;have⟨J,A⟩:=Yk z;have m:=Zbp I;have u:∀p∈c,∀q∈g,q.1≠p.1:=λp a q Q e=>Zbp J p a (by rw[w,<-e];exact VC Q);have⟨V,hy,hl,hd,U⟩:=S _ _ _ _ s.ms;obtain⟨K2,B,M,P,F⟩:=Zmi U s.ms C o T O G L H K (λp a=>⟨(r p a (m p a)).1,u p a⟩) D (λp a=>(r p a (m p a)).2) E N;exact⟨y,g,A,m,o,u,K2,B,M,P,F⟩
def vD(a:Ex)(x:Exit):Prop:=match a with|.Ve=>x=.normal|.exit i=>x=.exit i|.ret=>x=.ret
def EQ(Z:Xq)(β:Sr)(W:List Nat)(s:XS)(K:KK)(H:HM)(a:Act){R:Type}(f:Ex->XS->Option R)(r:R)(x:Exit)(a':Act)(w':World):Prop:=∃e b d c,vD e x/\f e b=some r/\St Z β b d c a' w'/\PD s K H b d c/\N9 W a a'
theorem EQ.wide{W c}{s}{K}{H}{a}{R}{b}{r:R}{x}{a'}{w'}(h:EQ Z β W s K H a b r x a' w')(n:∀t,t∉c->t∉W):EQ Z β c s K H a b r x a' w':=let⟨f,o,e,d,g,i,j,k,l⟩:=h
 ⟨f,o,e,d,g,i,j,k,λt m=>l t (n t m)⟩
end
theorem uX{R}{r:R}{s}{k}:∀{l}{b}{d},Fs s l b d k=some r->∃c e,k c e=some r/\(∀p∈c,p∈b)/\(∀j v,ZF b j=some v->j∉e->ZF c j=some v)/\(∀j∈d,j∈e)/\((b.map (·.1)).Nodup->(c.map (·.1)).Nodup)/\∀j∈e,j∈d\/j<1000
 |[],b,d,a=>⟨b,d,a,λ_ a=>a,λ_ _ a _=>a,λ_ a=>a,λa=>a,λ_ a=>.inl a⟩|x::l,b,d,a=>by
  unfold Fs at a;split at a;·rename_i j B _ _;cases g:Nat.blt j _ with|true=>rw[g]at a;have A:=Uk▸g;have⟨c,e,i,m,n,y,o,z⟩:=uX a;refine⟨c,e,i,λp t=>IU p (m p t),λh v u f=>n h v (by rw[ap λw=>f Zm];exact u) f,Zm,λq=>o (Zcb q),λh f=>Zm⟩|false=>rw[g]at a;exact uX a
  ·exact uX a
section
variable{Z:Xq}{β:Sr}
def IG(Z:Xq)(β:Sr)(c:Code):Prop:=∀{a:Type}(d:XS)(g:Ex->XS->Option a)(h:a),exec Z c a d g=some h->∀f e b i,St Z β d f e b i->c.wpIn (XX none) 0 Z.P (EQ Z β (Xt c []) d f e b g h) b i
theorem eW{l}{y}{s}{j}{v}(i:GJ (unpack l y s))(m:j∉(unpack l y s).d)(f:ZF s.b j=some v)(hi:j<s.n\/500<=j):ZF (unpack l y s).b j=some v/\¬(s.n<=j/\j<(unpack l y s).n):=by
 have k:R4 ⟨0,false,.int⟩ s (unpack l y s):=KY _;have⟨a,c,g⟩:=k.b;have o:=i.n;refine⟨?_,Y⟩;rw[c,mZ];have:ZF a j=none:=by cases h:ZF a j with|none=>rfl|some p=>
   rcases g _ (W8 h)with e|e;·grind
   ·grind
 rw[this];exact f
theorem ZfT{h}{x}{s}(m:(Wb h x s).n<=500){j}{v}(h1:1000<=j)(a:ZF (Wb h x s).b j=some v):V3 h=true/\h.t=j\/∃v,ZF s.b j=some v:=by
 have y:∀{c b:Bx},ZF (c++b) j=some v->(∀p∈c,p.1≠j)->∃v,ZF b j=some v:=by intro c b a B;rw[mZ]at a;cases h:ZF c j with|none=>rw[h]at a;exact⟨v,a⟩|some q=>exact absurd rfl (B _ (W8 h))
 cases l:h.b with
 |true=>cases r:V3 h with
  |true=>
   have e:Wb h x s={s with b:=(h.t,⟨h.ty,x⟩)::s.b,d:=h.t::s.d}:=by unfold Wb;rw[l];dsimp only;rw[r];rfl
   rw[e]at a;have k:ZF ((h.t,⟨h.ty,x⟩)::s.b) j=some v:=a;rw[Mb]at k;cases w:Nat.beq h.t j with|true=>exact .inl ⟨rfl,Xu w⟩|false=>rw[w]at k;exact .inr ⟨v,k⟩
  |false=>
   by_cases A:∃j q,Ys s.e h.t=.v ⟨.hole j,q⟩/\Nat.blt j 1000=true
   ·obtain⟨o,q,z,u⟩:=A;rcases f:KH o ⟨h.ty,x⟩ s.n s.b with⟨g,i⟩;have e:Wb h x s={s with n:=g,b:=i,d:=o::s.d}:=by unfold Wb;rw[l];dsimp only;rw[r,TO,z];dsimp only;rw[u,f];rfl
    rw[e]at a m;obtain⟨D,c,rfl,t,_⟩:=yq f;have G:o<1000:=Uk▸u;grind
   ·have e:Wb h x s=s:=by unfold Wb;grind
    rw[e]at a;exact .inr ⟨v,a⟩
 |false=>
  rcases f:Mt h.ty x s.n s.b with⟨E,g,i⟩;have e:Wb h x s={s with e:=(h.t,E)::s.e,n:=g,b:=i}:=by unfold Wb;rw[l];dsimp only;rw[f]
  rw[e]at a m;obtain⟨D,c,rfl,t,_⟩:=yu f;refine .inr (y a λp C e=>?_);have F:=t p C;have:g<=500:=m;omega
theorem ZfV{j}(h1:1000<=j):∀{l}{y}{s}{v},(unpack l y s).n<=500->ZF (unpack l y s).b j=some v->LN l j\/∃v,ZF s.b j=some v
 |[],_,s,v,_,hb=>.inr ⟨v,hb⟩|[h],x,s,v,c,hb=>by
  rcases ZfT c h1 hb with⟨a,b⟩|d;·exact .inl ⟨h,Zb,a,b⟩
  ·grind|h::h'::l,x,s,v,c,hb=>by
  rcases ZfV h1 (y:=x.2) c hb with⟨e,g,a,b⟩|⟨i,d⟩;·exact .inl ⟨e,Zm,a,b⟩
  ·rcases ZfT (WX (KY h).n c) h1 d with⟨a,b⟩|f;·exact .inl ⟨h,Zb,a,b⟩
   ·grind
theorem oq{l}{y}{s}{j}{v}(c:GJ (unpack l y s))(h1:1000<=j)(a:ZF (unpack l y s).b j=some v):LN l j\/∃v,ZF s.b j=some v:=ZfV h1 c.n a
theorem ZkL{A B}{c}{l}{s}{R}{M}{r:R}{b}(hA:IG Z β A)(hB:IG Z β B)(h:(J4 s.n s (l.filter (·.b)) {g:=s.b} λ_ c=>Fs s l c.g (c.r.map (·.1)++s.d) λq z=>O (Zc b (exec Z A (Tu l).den {s with d:=[]} λx s'=>match x with|.Ve=>S7 s.n q l s' some|_=>none) (exec Z B (Tu l).den {s with d:=[]} λx s'=>match x with|.Ve=>S7 s.n q l s' some|_=>none)) λy=>Pm (unpack l y {e:=SM (Xt A (Xt B [])) s.e,b:=q,n:=s.n,d:=z}) (M .Ve))=some r){K}{H}{a}{w}(j:St Z β s K H a w)(hc:a.eval c=.bool b):(Code.cond c A B).wpIn (XX none) 0 Z.P (EQ Z β (Xt A (Xt B [])) s K H a M r) a w:=by
 obtain⟨y0,cc,Rb,C,U,eg,W,yv,yx,z0,yl,_⟩:=ib (Z:=Z) (β:=β) h;obtain⟨q,z,h2,k1,k2,k3,k4,k5⟩:=uX C;obtain⟨y,x0,xs⟩:=U3 h2;obtain⟨J,hk⟩:=CM xs;rw[eg]at k1 k2 k4;have S:∀k∈q,ZF s.b k.1=some k.2:=λk t=>JC (Oy (KF j.wf.nd) (k1 k t));have L:R4 ⟨0,false,.int⟩ _ _:=KY (l:=l) (y:=y) (s:={e:=SM (Xt A (Xt B [])) s.e,b:=q,n:=s.n,d:=z}) ⟨0,false,.int⟩;have y8:=oo (l:=l) (y:=y) (s:={e:=SM (Xt A (Xt B [])) s.e,b:=q,n:=s.n,d:=z});have x7:∀i v,ZF s.b i=some v->i∉z->ZF q i=some v:=λi v p o=>k2 i v (by rw[L8 λk t e=>o (k3 i (Yd (.inl (by rw[U,<-e];exact VC (f:=(·.1)) t))))];exact p) o;have V:∀i,LN l i->∃v,ZF s.b i=some v:=by
  rintro i⟨g,hg,D,e⟩;have y1:g.b=true:=by unfold V3 at D;rw[Yv]at D;exact D.1
  obtain⟨F,I,N⟩:=yl g (List.mem_filter.2 ⟨hg,y1⟩) D;exact⟨F.2,by rw[<-e,<-N];exact W F I⟩
 have x8:∀i,1000<=i->i∈z\/LN l i->i∈s.d\/∃v,ZF s.b i=some v:=by
  intro i o h;rcases h with h|h
  ·rcases k5 i h with h|h
   ·rcases Z1 h with h|h;·rw[U]at h;obtain⟨k,t,e⟩:=Uj h;exact .inr ⟨k.2,by rw[<-e];exact W k t⟩
    ·exact .inl h
   ·omega
  ·exact .inr (V i h)
 have x6:∀{G:Code},IG Z β G->(∀m,m∉Xt A (Xt B [])->m∉Xt G [])->exec Z G (Tu l).den {s with d:=[]} (λx s'=>match x with|.Ve=>S7 s.n q l s' some|_=>none)=some y->G.wpIn (XX none) 0 Z.P (EQ Z β (Xt A (Xt B [])) s K H a M r) a w:=by
  intro G hC X hx;have y6:St Z β {s with d:=[]} K H a w:=⟨⟨j.wf.nd,j.wf.ids,j.wf.len⟩,⟨j.ms.nd,j.ms.own,j.ms.gl,j.ms.bx,j.ms.ev,j.ms.fr,j.ms.YM,j.ms.sz,j.ms.df,j.ms.fx⟩⟩;refine RO (hC _ _ _ hx K H a w y6)<|λx a' w'⟨ex,s',K',H',hm,T,y5,E,x3⟩=>?_
  cases ex with|Ve=>
   subst hm;obtain⟨y',yt,e1,y9,xk,yf,K2,x9,y3,y4,xv⟩:=ay (K0:=K) (H0:=H) (e0:=SM (Xt A (Xt B [])) s.e) (d:=z) (tr:=[]) (al:=none) T y5 E.le E.nm (λk t hd=>E.bx k.1 k.2 (S k t) hd) j.ms.gl (λk t=>j.ms.bx k (W8 (S k t))) j.ms.fr (k4 (KF j.wf.nd)) (λm=>D3.2 _ _ _ λu=>by rw[x3 m (X m u)];exact j.ms.ev m) λm=>D3.1;have N:y'=y:=by injection e1
   subst N;obtain⟨K3,H3,y7,P,y2⟩:=x9.unpack J;refine⟨.Ve,_,K3,H3,rfl,hk,y7,⟨y3.trans P.le,λi o=>L.d i (k3 i (Yd (.inr o))),λi v p o=>?_,λf D=>?_,λx4 hi=>?_,L.n,λi C o=>x8 i C (y8.1 i C o),λi v C p=>?_⟩,λm u=>x3 m (X m u)⟩;·obtain⟨b1,b2⟩:=eW J o (x7 i v p λe=>o (L.d i e)) (j.wf.ids _ (W8 p));exact⟨b1,y2 i o b2⟩
   ·have x5:∀v,ZF s.b (Yj f)=some v->(Yj f,v)∈q:=λv p=>W8 (x7 _ v p λe=>D (L.d _ e));have x1:1000<=Yj f:=wQ (zf f);rw[P.fm,xv f λF I e=>?_]
    ·refine E.fk f λx2=>?_;rcases E.fd _ x1 x2 with h|⟨v,h⟩;·cases h
     ·exact y9 _ (x5 v h) x2
    ·obtain⟨v,p⟩:=E.fb (Yj f) F.2 x1 (by rw[<-e];exact xk F I);exact yf _ (x5 v p) F I e
   ·have yy:=J.n;rw[P.nm x4 λh=>hi ⟨h.1,Y⟩,y4]
   ·rcases oq J C p with h|⟨ys,h⟩;·exact V i h
    ·exact⟨ys,S _ (W8 h)⟩|exit x4=>cases T|ret=>cases T
 refine nR hc (λQ=>?_) λQ=>?_;·subst Q;exact x6 hA (λm u=>(oL u).1) (by rwa[WU]at x0)
 ·subst Q;exact x6 hB (λm u=>(oL u).2) (by rwa[Wi]at x0)
end
section
variable{Z:Xq}{β:Sr}
structure LI(Z:Xq)(β:Sr)(s0:XS)(l:List HI)(W:List Nat)(Ks:KK)(Hs:HM)(a0:Act)(y:(Tu l).den)(K:KK)(H:HM)(a:Act)(w:World):Prop where
 pf:PF Z β s0.n s0 l y K H a w
 le:Ks.le K
 nm:K.nm=Ks.nm
 hk:∀p:Nat×TV,p∈s0.b->H p.1=Hs p.1fk:∀f,¬LN l (Yj f)->K.fm f=Ks.fm f
 wr:N9 W a0 a
structure Dz(s0:XS)(l:List HI)(Ks:KK)(Hs:HM)(s':XS)(K':KK)(H':HM):Prop where
 le:Ks.le K'
 bx:∀p:Nat×TV,p∈s0.b->p.1∉s'.d->ZF s'.b p.1=some p.2/\H' p.1=Hs p.1fk:∀f,Yj f∉s'.d->K'.fm f=Ks.fm f
 nm:∀i,¬(s0.n<=i/\i<500)->K'.nm i=Ks.nm i
 n:s0.n<=s'.n
 fd:∀j,1000<=j->j∈s'.d->LN l j\/∃v,ZF s0.b j=some v
 fb:∀j v,1000<=j->ZF s'.b j=some v->LN l j\/∃v,ZF s0.b j=some v
theorem Zrb{b}{l}{W}{z K K' K2}{x H H' H2}{a0 a}{y}{w}{s'}(k:LI Z β b l W z x a0 y K H a w)(Q:b.d=[])(M:(b.b.map (·.1)).Nodup)(J:∀p,p∈b.b->p.1<b.n\/500<=p.1)(q:GJ (unpack l y b))(h:Vh b.n (unpack l y b).n K K')(hk:∀j,j∉(unpack l y b).d->¬(b.n<=j/\j<(unpack l y b).n)->H' j=H j)(c:PD (unpack l y b) K' H' s' K2 H2):Dz b l z x s' K2 H2/\K.le K2/\(∀i,¬(b.n<=i/\i<500)->K2.nm i=K.nm i)/\∀p,p∈b.b->p.1∉s'.d->ZF s'.b p.1=some p.2/\H2 p.1=H p.1:=by
 have N:R4 ⟨0,false,.int⟩ b (unpack l y b):=KY _;have O:=oo (l:=l) (y:=y) (s:=b);have R:=q.n;have D:=N.n;have F:∀i,¬(b.n<=i/\i<500)->K2.nm i=K.nm i:=λi o=>(c.nm i λe=>o ⟨WX D e.1,e.2⟩).trans (h.nm i λe=>o ⟨e.1,Y⟩);have A:∀p:Nat×TV,p∈b.b->p.1∉s'.d->ZF s'.b p.1=some p.2/\H2 p.1=H p.1:=λp g m=>by have E:=λu=>m (c.d _ u);obtain⟨r,t⟩:=eW q E (Oy M g) (J p g);obtain⟨G,I⟩:=c.bx _ _ r m;exact⟨G,I.trans (hk _ E t)⟩
 refine⟨⟨k.le.trans (h.le.trans c.le),λp g m=>?_,λB C=>?_,λi o=>by rw[F i o,k.nm],WX D c.n,λj f L=>?_,λj v f P=>?_⟩,h.le.trans c.le,F,A⟩;·obtain⟨r,t⟩:=A p g m;exact⟨r,t.trans (k.hk p g)⟩
 ·rw[c.fk B C,h.fm];exact k.fk B λu=>C (c.d _ (O.2 _ u))
 ·rcases c.fd j f L with e|⟨v,e⟩;·grind
  ·exact oq q f e
 ·obtain⟨S,e⟩:=c.fb j v f P;exact oq q f e
theorem ZeO{R}{z:R}{b}{l}{W}{o K K2}{m H H2}{a0 a a'}{y}{w w'}{s'}{k}(d:LI Z β b l W o m a0 y K H a w)(U:b.d=[])(V:b.tr=[])(T:b.al=none){A}(E:b.e=SM W A)(L:(b.b.map (·.1)).Nodup)(h:S7 b.n b.b l s' k=some z)(O:St Z β s' K2 H2 a' w')(hL:Dz b l o m s' K2 H2)(I:K.le K2)(M:∀i,¬(b.n<=i/\i<500)->K2.nm i=K.nm i)(D:∀p,p∈b.b->p.1∉s'.d->ZF s'.b p.1=some p.2/\H2 p.1=H p.1)(u:N9 W a a'):∃j,k j=some z/\∃n,LI Z β b l W o m a0 j n H a' w':=by
 have⟨hy,f,_⟩:=d.pf.hy;obtain⟨j,S,hk,P,C,Q,n,B,J,N,G⟩:=ay h O I M D f.gl f.bx f.fr L (λc=>by
  by_cases g:c∈W;·rw[E];exact D3.2 _ _ _ λh=>absurd g h
  ·rw[u c g];exact f.ev c) f.ln;refine⟨j,hk,n,B,d.le.trans J,N.trans d.nm,d.hk,λq F=>?_,λc g=>(u c g).trans (d.wr c g)⟩;have r:=wQ (zf q);rw[G q λx t e=>?_]
 ·refine hL.fk q λs=>?_;rcases hL.fd _ r s with h|⟨v,h⟩;·exact F h
  ·exact P _ (W8 h) s
 ·rcases hL.fb _ _ r (by rw[<-e];exact C x t)with h|⟨v,h⟩;·grind
  ·exact Q _ (W8 h) x t e
theorem ZbF{ρ}{g}{id}{b}{l}{W}{m}{j}{a0}{B}{Kx:Ex->XS->ρ->Prop}(P:IG Z β g)(S:∀t,t∉W->t∉Xt g [])(R:∀x s' d,B x s'=some d->x=.Ve/\S7 b.n b.b l s' (λy=>some (LR.next y))=some d\/x=.exit id/\S7 b.n b.b l s' (λy=>some (LR.brk y))=some d\/∃q,d=.ret q/\x≠.Ve/\Kx x s' q)(u:b.d=[])(J:b.tr=[])(D:b.al=none){O}(F:b.e=SM W O)(v:(b.b.map (·.1)).Nodup)(U:∀p,p∈b.b->p.1<b.n\/500<=p.1)(y)(d)(a)(w)(T:Pm (unpack l y b) (λx2=>exec Z g (LR (Tu l).den ρ) x2 B)=some d)(c:∃K H,LI Z β b l W m j a0 y K H a w):g.wpIn (XX none) 0 Z.P (bA id (λy a w=>∃K H,LI Z β b l W m j a0 y K H a w) (λq e a' w'=>∃x s' K' H',vD x e/\Kx x s' q/\St Z β s' K' H' a' w'/\Dz b l m j s' K' H'/\N9 W a0 a') d) a w:=by
 obtain⟨L,hx⟩:=CM T;obtain⟨K,H,c⟩:=c;obtain⟨K',H',x0,Q,V⟩:=c.pf.unpack L;refine RO (P _ _ _ hx K' H' a w x0)<|λx a' w'⟨C,s',N,M,f,X,z,hl,x1⟩=>?_;have A:=λt h=>x1 t (S t h);obtain⟨s,G,I,E⟩:=Zrb c u v U L Q V hl;rcases R _ _ _ X with⟨rfl,o⟩|⟨rfl,o⟩|⟨q,rfl,x3,hq⟩;·obtain⟨y',n,k,r⟩:=ZeO c u J D F v o z s G I E A;cases n;exact⟨f,k,H,r⟩
 ·obtain⟨y',n,k,r⟩:=ZeO c u J D F v o z s G I E A;cases n;exact⟨f,k,H,r⟩
 ·refine⟨?_,C,s',N,M,f,hq,z,s,λt h=>(A t h).trans (c.wr t h)⟩;cases C with|Ve=>grind|exit i=>rw[f];simp|ret=>rw[f];simp
def Mq(s:XS)(a:Code)(c:CS):XS:={e:=SM (Xt a []) s.e,b:=c.l++c.g,n:=s.n,d:=[]}
def zX(s:XS)(a:Code)(c:CS):XS:={Mq s a c with d:=c.r.map (·.1)++s.d}
theorem Zk6{j}{id}{l}{s}{R}{G}{r}(hB:IG Z β j)(h:(J4 s.n s l {g:=s.b} λy c=>bif JO id j then XY (XO (λy=>Pm (unpack l y (Mq s j c)) λx4=>exec Z j (LR (Tu l).den R) x4 λx s'=>match x with|.Ve=>S7 (Mq s j c).n (Mq s j c).b l s' λy=>some (.next y)|.exit q=>bif Nat.beq q id then S7 (Mq s j c).n (Mq s j c).b l s' λy=>some (.brk y)else O (G (.exit q) {s' with d:=s'.d++(zX s j c).d}) λr=>some (.ret r)|.ret=>O (G .ret {s' with d:=s'.d++(zX s j c).d}) λr=>some (.ret r)) y) λy=>Pm (unpack l y (zX s j c)) (G .Ve)else O (YK (λy=>Pm (unpack l y (Mq s j c)) λx4=>exec Z j (LR (Tu l).den Empty) x4 λx s'=>match x with|.Ve=>S7 (Mq s j c).n (Mq s j c).b l s' λy=>some (.next y)|.exit q=>bif Nat.beq q id then S7 (Mq s j c).n (Mq s j c).b l s' λy=>some (.brk y)else none|.ret=>none) y) λy=>Pm (unpack l y (zX s j c)) (G .Ve))=some r){K}{H}{a}{w}(x2:St Z β s K H a w):(Code.block id (.loop j)).wpIn (XX none) 0 Z.P (EQ Z β (Xt j []) s K H a G r) a w:=by
 obtain⟨y0,c,Rb,E,er,eg,x9,b4,yl,ok,av,a9⟩:=ib (Z:=Z) (β:=β) h;clear h;obtain⟨T,hy,hl,hd,x3⟩:=a9 K H a w x2.ms;obtain⟨k,x1⟩:∃k,k=Mq s j c:=⟨_,rfl⟩;obtain⟨t,x6⟩:∃t,t=zX s j c:=⟨_,rfl⟩;rw[<-x1,<-x6]at E;have zz:∀L:Nat×TV,L∈k.b->L.1<k.n\/500<=L.1:=λL D=>by
  rw[x1]at D⊢;rcases Z1 (show L∈c.l++c.g from D)with D|D;·obtain⟨o,N,e⟩:=yl L D;rw[<-e];exact x2.wf.ids _ (W8 (x9 o N))
  ·rw[eg]at D;exact x2.wf.ids L (Kg L D)
 have y4:∀i,LN l i->∃v,ZF s.b i=some v:=by rintro i⟨g,hg,V,e⟩;obtain⟨o,N,e2⟩:=av g hg V;exact⟨o.2,by rw[<-e,<-e2];exact x9 o N⟩
 have yy:∀i v,ZF k.b i=some v->∃v,ZF s.b i=some v:=by
  intro i v P;rw[x1]at P;rcases Z1 (W8 P)with D|D;·obtain⟨o,N,e⟩:=yl _ D;have e':o.1=i:=e;exact⟨o.2,by rw[<-e'];exact x9 o N⟩
  ·rw[eg]at D;exact⟨v,Oy x2.wf.nd (Kg _ D)⟩
 have y1:∀i,i∉t.d->(∀L∈Rb,L.1≠i)/\i∉s.d:=λi B=>by rw[x6]at B;have xk:i∉c.r.map (·.1)++s.d:=B;refine⟨λL D e=>xk (Yd (.inl (by rw[er,<-e];exact VC (f:=(·.1)) D))),λe=>xk (Yd (.inr e))⟩
 have a4:∀i v,ZF s.b i=some v->i∉t.d->(i,v)∈k.b:=λi v P B=>by
  have E:ZF c.g i=some v:=by rw[eg,L8 (y1 i B).1];exact P
  rw[x1];exact Yd (.inr (W8 E))
 have zc:∀i,1000<=i->i∈t.d->i∈s.d\/∃v,ZF s.b i=some v:=λi _ B=>by
  rw[x6]at B;rcases Z1 (show i∈c.r.map (·.1)++s.d from B)with h|h;·rw[er]at h;obtain⟨L,D,e⟩:=Uj h;exact .inr ⟨L.2,by rw[<-e];exact x9 L D⟩
  ·exact .inl h
 have z1:∀{y:(Tu l).den}{S:XS},S.b=k.b->GJ (unpack l y S)->∃A,LI Z β k l (Xt j []) T A a y0 T A a w/\∀i,(∀o∈Rb,o.1≠i)->A i=H i:=by
  intro y S yx hu;have x0:R4 ⟨0,false,.int⟩ S (unpack l y S):=KY _;obtain⟨ag,eb,_⟩:=x0.b;have a7:((c.l++c.g).map (·.1)).Nodup:=by have:=hu.nd;rw[eb,yx,x1]at this;exact ym this
  obtain⟨A,y9,U⟩:=Zmj (e0:=SM (Xt j []) s.e) (d:=[]) (tr:=[]) (al:=none) x3 x2.ms eg x9 yl ok a7 (λa3=>D3.2 _ _ _ λ_=>x2.ms.ev a3) λa3=>D3.1;refine⟨A,⟨by rw[x1];exact y9,KK.le.refl _,rfl,λ_ _=>rfl,λ_ _=>rfl,λ_ _=>rfl⟩,U⟩
 have yt:∀{y:(Tu l).den}{S:XS},S.b=k.b->GJ (unpack l y S)->(k.b.map (·.1)).Nodup:=by intro y S yx hu;have x0:R4 ⟨0,false,.int⟩ S (unpack l y S):=KY _;obtain⟨ag,eb,_⟩:=x0.b;have:=hu.nd;rw[eb,yx]at this;exact ym this
 have⟨x5,z5,y6,y5,z3,z6,z2,z4⟩:t.b=k.b/\t.e=k.e/\t.n=k.n/\k.n=s.n/\k.d=[]/\k.tr=[]/\k.al=none/\k.e=SM (Xt j []) s.e:=by rw[x1,x6];exact⟨rfl,rfl,rfl,rfl,rfl,rfl,rfl,rfl⟩
 have z0:∀{A:HM},(∀i,(∀o∈Rb,o.1≠i)->A i=H i)->∀{y:(Tu l).den}{m:Act}{p:World},Pm (unpack l y t) (G .Ve)=some r->(∃z u,LI Z β k l (Xt j []) T A a y z u m p)->EQ Z β (Xt j []) s K H a G r .normal m p:=by
  rintro A U y m p x7⟨z,u,F⟩;obtain⟨hu,hk⟩:=CM x7;have y9:PF Z β t.n t l y z u m p:=by obtain⟨hy,M,D⟩:=F.pf.hy;refine⟨⟨hy,⟨by rw[x5];exact M.own,M.gl,by rw[x5];exact M.bx,by rw[z5];exact M.ev,by rw[z5];exact M.ln,by rw[y6];exact M.fr,by rw[x5];exact M.YM,M.sz,M.df,M.fx⟩,D⟩,F.pf.YM,by rw[y6];exact F.pf.ok⟩
  obtain⟨K3,H3,ab,y7,a6⟩:=y9.unpack hu;have x0:R4 ⟨0,false,.int⟩ t (unpack l y t):=KY _;have a2:=oo (l:=l) (y:=y) (s:=t);have b5:=hu.n;have ys:t.n=s.n:=y6.trans y5;refine⟨.Ve,_,K3,H3,rfl,hk,ab,⟨x3.le.trans (F.le.trans y7.le),λi B=>x0.d i<|by rw[x6];exact Yd (.inr B),λi v P B=>?_,λf V=>?_,λq hi=>by rw[y7.nm q λh=>hi ⟨by rw[<-ys];exact h.1,Y⟩,F.nm,x3.nm],by rw[<-ys];exact x0.n,λi E B=>?_,λi v E P=>?_⟩,F.wr⟩;·have xs:i∉t.d:=λe=>B (x0.d i e);have a1:=a4 i v P xs;obtain⟨b1,b2⟩:=eW hu B (by rw[x5];exact Oy (yt x5 hu) a1) (by rw[ys];exact x2.wf.ids _ (W8 P));refine⟨b1,(a6 i B b2).trans ((F.hk _ a1).trans (U i (y1 i xs).1))⟩
  ·rw[y7.fm,F.fk f λe=>V (a2.2 _ e)];exact x3.fk f (y1 _ λe=>V (x0.d _ e)).1
  ·rcases a2.1 i E B with h|h;·exact zc i E h
   ·exact .inr (y4 i h)
  ·rcases oq hu E P with h|⟨y3,h⟩;·exact y4 i h
   ·rw[x5]at h;exact yy i y3 h
 have b3:∀{A:HM},(∀i,(∀o∈Rb,o.1≠i)->A i=H i)->∀{s':XS}{z:KK}{u:HM}{m:Act}{p:World},St Z β s' z u m p->Dz k l T A s' z u->St Z β {s' with d:=s'.d++t.d} z u m p/\PD s K H {s' with d:=s'.d++t.d} z u:=by
  intro A U s' z u m p J W;refine⟨⟨⟨J.wf.nd,J.wf.ids,J.wf.len⟩,⟨J.ms.nd,J.ms.own,J.ms.gl,J.ms.bx,J.ms.ev,J.ms.fr,J.ms.YM,J.ms.sz,J.ms.df,J.ms.fx⟩⟩,⟨x3.le.trans W.le,λi B=>?_,λi v P B=>?_,λf V=>?_,λq hi=>by rw[W.nm q (by rw[y5];exact hi),x3.nm],by have:=W.n;rwa[y5]at this,λi E B=>?_,λi v E P=>?_⟩⟩;·refine Yd (.inr ?_);rw[x6];exact Yd (.inr B)
  ·have xk:i∉s'.d++t.d:=B;have xs:i∉t.d:=λe=>xk (Yd (.inr e));obtain⟨b1,b2⟩:=W.bx _ (a4 i v P xs) λe=>xk (Yd (.inl e));exact⟨b1,b2.trans (U i (y1 i xs).1)⟩
  ·have zv:Yj f∉s'.d++t.d:=V;rw[W.fk f λe=>zv (Yd (.inl e))];exact x3.fk f (y1 _ λe=>zv (Yd (.inr e))).1
  ·rcases Z1 (show i∈s'.d++t.d from B)with h|h
   ·rcases W.fd i E h with h|⟨y3,h⟩;·exact .inr (y4 i h)
    ·exact .inr (yy i y3 h)
   ·exact zc i E h
  ·rcases W.fb i v E P with h|⟨y3,h⟩;·exact y4 i h
   ·exact yy i y3 h
 have ad:∀{n:Nat}{m:Act}{p:World},Code.roundsIn (XX none) 0 Z.P j (Exit.inBlock id (EQ Z β (Xt j []) s K H a G r)) n m p->(Code.block id (.loop j)).wpIn (XX none) 0 Z.P (EQ Z β (Xt j []) s K H a G r) m p:=λh=>wpIn_block (wpIn_loop_rounds _ h)
 refine ad (n:=FU) ?_;cases zs:JO id j with|true=>
  rw[zs,TP]at E;obtain⟨y2,x8,x7⟩:=U3 E;rw[ZbG]at x8;obtain⟨b0,yv⟩:∃rr,(Pm (unpack l y0 k) λx4=>exec Z j (LR (Tu l).den R) x4 λx s'=>match x with|.Ve=>S7 k.n k.b l s' λy=>some (.next y)|.exit q=>bif Nat.beq q id then S7 k.n k.b l s' λy=>some (.brk y)else O (G (.exit q) {s' with d:=s'.d++t.d}) λr=>some (.ret r)|.ret=>O (G .ret {s' with d:=s'.d++t.d}) λr=>some (.ret r))=some rr:=by
   have X:Pg _ FU y0=some y2:=x8;unfold FU at X;unfold Pg at X;split at X;·cases X
   all_goals(rename_i N;exact⟨_,N⟩)
  obtain⟨xv,_⟩:=CM yv;obtain⟨A,y8,U⟩:=z1 rfl xv;refine ZeP (I:=λy m p=>∃z u,LI Z β k l (Xt j []) T A a y z u m p) (Rr:=λo e m p=>∃x s' z u,vD x e/\((∃q,x=.exit q/\Nat.beq q id=false/\G (.exit q) {s' with d:=s'.d++t.d}=some o)\/x=.ret/\G .ret {s' with d:=s'.d++t.d}=some o)/\St Z β s' z u m p/\Dz k l T A s' z u/\N9 (Xt j []) a m) (id:=id) (λy rr m p V F=>?_) FU y0 y2 a w x8 ⟨T,A,y8⟩ ?_ ?_;·refine ZbF hB (λ_ h=>h) (λx s' rr C=>?_) z3 z6 z2 z4 (yt rfl xv) zz y rr m p V F;cases x with
   |Ve=>exact .inl ⟨rfl,C⟩|exit q=>dsimp only at C;cases Q:Nat.beq q id with|true=>rw[Q,TP]at C;have:=Xu Q;subst this;exact .inr (.inl ⟨rfl,C⟩)|false=>rw[Q,TO]at C;obtain⟨o,N,e⟩:=U3 C;cases e;exact .inr (.inr ⟨o,rfl,Zb,.inl ⟨q,rfl,Q,N⟩⟩)
   |ret=>obtain⟨o,N,e⟩:=U3 C;cases e;exact .inr (.inr ⟨o,rfl,Zb,.inr ⟨rfl,N⟩⟩)
  ·rintro y m p rfl F;have:=z0 U x7 F;simpa[Exit.inBlock]using this
  ·rintro o e m p rfl⟨x,s',z,u,M,C,J,W,hw⟩;have a5:o=r:=by injection x7
   subst a5;obtain⟨w1,w2⟩:=b3 U J W;rcases C with⟨q,rfl,Q,C⟩|⟨rfl,C⟩
   ·subst M;have a8:q≠id:=λe=>by rw[e,wM]at Q;cases Q
    have:EQ Z β (Xt j []) s K H a G o (.exit q) m p:=⟨.exit q,_,z,u,rfl,C,w1,w2,hw⟩;simpa[Exit.inBlock,a8]using this
   ·subst M;have:EQ Z β (Xt j []) s K H a G o .ret m p:=⟨.ret,_,z,u,rfl,C,w1,w2,hw⟩;simpa[Exit.inBlock]using this|false=>
  rw[zs,TO]at E;obtain⟨yf,x8,x7⟩:=U3 E;rw[jo]at x8;obtain⟨y2,a0,eo⟩:=ZbE x8;obtain⟨b0,yv⟩:∃rr,(Pm (unpack l y0 k) λx4=>exec Z j (LR (Tu l).den Empty) x4 λx s'=>match x with|.Ve=>S7 k.n k.b l s' λy=>some (.next y)|.exit q=>bif Nat.beq q id then S7 k.n k.b l s' λy=>some (.brk y)else none|.ret=>none)=some rr:=by
   have X:Pg _ FU y0=some y2:=a0;unfold FU at X;unfold Pg at X;split at X;·cases X
   all_goals(rename_i N;exact⟨_,N⟩)
  obtain⟨xv,_⟩:=CM yv;obtain⟨A,y8,U⟩:=z1 rfl xv;refine ZeP (I:=λy m p=>∃z u,LI Z β k l (Xt j []) T A a y z u m p) (Rr:=λ(o:Empty)e m p=>∃x s' z u,vD x e/\False/\St Z β s' z u m p/\Dz k l T A s' z u/\N9 (Xt j []) a m) (id:=id) (λy rr m p V F=>?_) FU y0 y2 a w a0 ⟨T,A,y8⟩ ?_<|λo=>o.elim;·refine ZbF (Kx:=λ_ _ _=>False) hB (λ_ h=>h) (λx s' rr C=>?_) z3 z6 z2 z4 (yt rfl xv) zz y rr m p V F;cases x with
   |Ve=>exact .inl ⟨rfl,C⟩|exit q=>dsimp only at C;cases Q:Nat.beq q id with|true=>rw[Q,TP]at C;have:=Xu Q;subst this;exact .inr (.inl ⟨rfl,C⟩)|false=>rw[Q,TO]at C;cases C
   |ret=>cases C
  ·rintro y m p ho F;rw[eo]at ho;cases ho;have:=z0 U x7 F;simpa[Exit.inBlock]using this
end
section
variable{Z:Xq}{β:Sr}
theorem Zjv(xk:∀fc∈Z.tb,UG Z fc)(x8:∀g V,Rs Z.gl g=some V->V.t.nh=true)(x1:IF Z)(x6:Z.P.follows .mixedOrders=true):∀(c),OA β.N c=true->IG Z β c/\∀H,c=.loop H->IG Z β H:=by intro c;induction c with
 |skip=>refineλ_=>⟨?_,λ_ d=>by cases d⟩;intro r b e f a j h m q n;exact wpIn_skip ⟨.Ve,b,j,h,rfl,a,n,PD.refl _ _ _,N9.refl _ _⟩|region id y1 dr=>refineλy=>⟨?_,λ_ d=>by cases d⟩;intro r b e f a j h m q n;refine Zq1 xk x8 x1 x6 (k:=e .Ve) y a n λD E⟨B,w,v,p,A,s,hs⟩=>⟨.Ve,B,w,v,rfl,p,A,s,λt o=>hs t λx hx hd=>o ?_⟩;rw[du];obtain⟨k,y0⟩:=x;obtain⟨_,h2⟩:=yn hx;exact .inr ⟨y0,X6 h2,hd⟩|seq l C P Q=>refineλy=>⟨?_,λ_ d=>by cases d⟩;intro r b e f a j h m q n;have I:(OA β.N l&&OA β.N C)=true:=y;rw[Yv]at I;refine Dl (RO ((P I.1).1 b _ f a j h m q n)<|λx D E⟨L,B,w,v,z,p,A,s,G⟩=>?_);have J:∀t,t∉Xt (.seq l C) []->t∉Xt l []/\t∉Xt C []:=λt o=>oL o;cases L with|Ve=>have u:x=.normal:=z;subst u;refine RO ((Q I.2).1 B e f p w v D E A)<|λx2 a2 w2⟨x0,s2,X,W,x5,x3,x9,x4,xs⟩=>⟨x0,s2,X,W,x5,x3,x9,s.trans x4,λt o=>(xs t (J t o).2).trans (G t (J t o).1)⟩|exit i=>have u:x=.exit i:=z;subst u;exact⟨.exit i,B,w,v,rfl,p,A,s,λt o=>G t (J t o).1⟩|ret=>have u:x=.ret:=z;subst u;exact⟨.ret,B,w,v,rfl,p,A,s,λt o=>G t (J t o).1⟩
 |cond c l C P Q=>
  refineλy=>⟨?_,λ_ d=>by cases d⟩;intro r b e f a j h m q n;have I:(OA β.N l&&OA β.N C)=true:=y;rw[Yv]at I;have J:∀t,t∉Xt (.cond c l C) []->t∉Xt l []/\t∉Xt C []:=λt o=>oL o;have O:=Zcq n.ms.ev c;have split:∀F,m.eval c=.bool F->(if F then exec Z l r b e else exec Z C r b e)=some f->(Code.cond c l C).wpIn (XX none) 0 Z.P (EQ Z β (Xt (.cond c l C) []) b j h m e f) m q:=by
   refineλF K a=>nR K (λd=>?_) λd=>?_;·subst d;exact RO ((P I.1).1 b e f a j h m q n) λx D E S=>S.wide λt o=>(J t o).1
   ·subst d;exact RO ((Q I.2).1 b e f a j h m q n) λx D E S=>S.wide λt o=>(J t o).2
  unfold exec at a;split at a;·rename_i F y2 R;rw[R]at O;obtain⟨cs,⟨_,rfl⟩,N⟩:=O;refine split F N ?_;cases F<;>exact a
  ·rename_i F R;rw[R]at O;obtain⟨cs,⟨_,rfl⟩,N⟩:=O;split at a;·rename_i xv s;cases U:(Hf l&&Hf C)with|true=>rw[U,TP]at a;exact ZkL (P I.1).1 (Q I.2).1 a n N|false=>rw[U,TO]at a;exact split F N (by rw[<-Cn];exact a)
   ·exact split F N (by rw[<-Cn];exact a)
  ·cases a|block id l M=>
  refineλy=>⟨?_,λ_ d=>by cases d⟩;intro r b e f a j h m q n;by_cases T:∃H,l=.loop H
  ·obtain⟨H,rfl⟩:=T;unfold exec at a;dsimp only at a;split at a;·cases a
   ·exact Zk6 ((M y).2 H rfl) a n
  ·have h':exec Z l r b (λx b=>match x with|.exit i=>bif Nat.beq i id then e .Ve b else e (.exit i) b|x=>e x b)=some f:=by unfold exec at a;cases l with|loop H=>exact absurd ⟨H,rfl⟩ T|_=>exact a
   refine wpIn_block (RO ((M y).1 b _ f h' j h m q n) λx D E⟨L,B,w,v,z,p,A,s,G⟩=>?_);cases L with
   |Ve=>have u:x=.normal:=z;subst u;have:EQ Z β (Xt (.block id l) []) b j h m e f .normal D E:=⟨.Ve,B,w,v,rfl,p,A,s,G⟩;simpa[Exit.inBlock]using this|exit i=>have u:x=.exit i:=z;subst u;dsimp only at p;cases K:Nat.beq i id with|true=>rw[K,TP]at p;have:=Xu K;subst this;have:EQ Z β (Xt (.block i l) []) b j h m e f .normal D E:=⟨.Ve,B,w,v,rfl,p,A,s,G⟩;simpa[Exit.inBlock]using this|false=>
     rw[K,TO]at p;have x7:i≠id:=λd=>by rw[d,wM]at K;cases K
     have:EQ Z β (Xt (.block id l) []) b j h m e f (.exit i) D E:=⟨.exit i,B,w,v,rfl,p,A,s,G⟩;simpa[Exit.inBlock,x7]using this
   |ret=>have u:x=.ret:=z;subst u;have:EQ Z β (Xt (.block id l) []) b j h m e f .ret D E:=⟨.ret,B,w,v,rfl,p,A,s,G⟩;simpa[Exit.inBlock]using this
 |exit i=>refineλ_=>⟨?_,λ_ d=>by cases d⟩;intro r b e f a j h m q n;exact wpIn_exit ⟨.exit i,b,j,h,rfl,a,n,PD.refl _ _ _,N9.refl _ _⟩|ret=>refineλ_=>⟨?_,λ_ d=>by cases d⟩;intro r b e f a j h m q n;exact wpIn_ret ⟨.ret,b,j,h,rfl,a,n,PD.refl _ _ _,N9.refl _ _⟩|scope l M=>refineλy=>⟨?_,λ_ d=>by cases d⟩;intro r b e f a j h m q n;refine ZsT (RO ((M y).1 b e f a j h m q n)<|λx D E⟨L,B,w,v,z,p,A,s,G⟩=>?_);have:EQ Z β (Xt l []) b j h m e f x D E:=⟨L,B,w,v,z,p,A,s,G⟩;cases L with|Ve=>have u:x=.normal:=z;subst u;exact this|exit i=>subst z;exact this|ret=>subst z;exact this
 |label xv=>refineλ_=>⟨?_,λ_ d=>by cases d⟩;intro r b e f a j h m q n;exact wpIn_label ⟨.Ve,b,j,h,rfl,a,n,PD.refl _ _ _,N9.refl _ _⟩|loop H M=>refineλy=>⟨(by intro r b e f a;cases a),λF d=>by cases d;exact(M y).1⟩|_=>refineλ_=>⟨?_,λ_ d=>by cases d⟩;intro r b e f a;cases a
theorem Zju(i:∀b∈Z.tb,UG Z b)(f:∀g a,Rs Z.gl g=some a->a.t.nh=true)(d:IF Z)(e:Z.P.follows .mixedOrders=true)(c)(h:OA β.N c=true):IG Z β c:=(Zjv i f d e c h).1
end
def Ap(e:En)(K:KK)(a:Act):Prop:=∀d b,Qj (Ys e d)=some b->∃c,rel K b.t [] c b.x/\a.tmps.getD d undef=XE b.t.ag c
theorem Ap.mono{e}{K K'}{a}(h:Ap e K a)(c:K.le K'):Ap e K' a:=λf g e=>let⟨b,d,v⟩:=h f _ e;⟨b,Xl c d,v⟩
def Zha(P:Program)(e:En)(C:Ty)(rs:List ResultVar)(c:CS)(y:C.den)(c':CS)(R Q:Bx):Prop:=∀(f:World)(a:KK)(h g:HP)(i:Act),GD a.m (h++g) f->Ap e a i->ZH a c.l h->ZH a R g->(∀d∈Q,∃n,Wg a d.1 d.2 n)->Yt a (c.l++R)->(∀d∈c.l,ZF c.g d.1=none)->∃b k l j m,Y0 f a (h++g) b (k++l)/\(rs.mapM (Go.Sl.Mz i.tmps)).run P f=.ok m f/\V7 C j m/\rel b C k j y/\ZH b c'.l l/\Yt b c'.l/\W3 a b (c.l++R)
theorem ZeK{R}{Z}{r:R}{s}:∀{C}{rs}{c}{k},Ny Z s C rs c k=some r->∃y c' Rb Q,k y c'=some r/\Ua c c' Rb Q/\Zha Z.P s.e C rs c y c' Rb Q:=by intro C;induction C with
 |cons ab C _ ih=>intro rs c k h;cases rs with|nil=>unfold Ny at h;cases h|cons rv rs=>cases rv with
   |tmp S=>
    unfold Ny at h;dsimp only at h;split at h
    ·rename_i v hv;obtain⟨yt,c1,h,y4,y6,x,Q1,s1,m1⟩:=JG h;obtain⟨y,c2,z,Q2,h,s2,m2⟩:=ih h;refine⟨(yt,y),c2,z++x,Q2++Q1,h,s1.trans s2,λw K i t A F N sl sR L E m=>?_⟩;obtain⟨l,xk,xs,yf,y9⟩:=ZH.append.1 sR;obtain⟨x8,zv,y7⟩:=N S v hv;have x3:(i++t).Perm ([]++(i++xk)++l):=by refine(VA i (xs.trans XJ)).trans ?_;simp[Z5]
     obtain⟨I,D,G,j,r1,yl,y0,x9,_⟩:=m1 w K [] i xk x8 (F.sub x3) zv sl y9 (λd a=>L d (Yd (.inr a))) (E.sub (by intro d a;rcases Z1 a with h|h<;>simp[h])) m;have U:Y0 w K (i++t) I (D++G++l):=Y0.perm x3 (V8 _) (j.frame l);have x4:(D++G++l).Perm (G++l++D):=CR _ _ _;obtain⟨K2,X,M,B,x6,V,y8,v2,r2,ys,y1,y2⟩:=m2 w I G l A ((U.step F).1.sub x4) (N.mono j.le) yl (yf.mono j.le) (λd a=>let⟨h,p⟩:=L d (Yd (.inl a));⟨h,p.mono j.le⟩) (Yt.next (K:=K) s1 (E.sub (by intro d a;rcases Z1 a with h|h;rcases Z1 h with h|h<;>simp[h];simp[h])) y0 x9 m s2.mr) (s1.dj m);have x5:=Xl (KU y4) r1;refine⟨K2,D++X,M,x8++B,A.tmps.getD S undef::x6,?_,?_,⟨x8,B,_,x6,rfl,rfl,WH x5,by rw[y7,y6.ag],v2⟩,⟨D,X,x8,B,rfl,rfl,Xl V.le x5,r2⟩,ys,y1,?_⟩;·refine U.trans (Y0.perm x4 ?_ (V.frame D));rw[Z5 D];exact XJ
     ·rw[dQ];simp only[Go.Sl.Mz,pure_bind,Ym,y8,YJ,Y5]
     ·intro g u;have x2:∀d∈c.l++x,d.1≠Yj g:=λd a=>u d (by rcases Z1 a with h|h<;>simp[h]);have y3:∀d∈c1.l++z,d.1≠Yj g:=by
       intro d a e;rcases Z1 a with a|a;·obtain⟨p,hq,W⟩:=s1.ids d a;exact x2 p hq (W.trans e)
       ·exact u d (by simp[a]) e
      rw[y2 g y3,x9 g x2]
    ·cases h|cell S T=>
    unfold Ny at h;dsimp only at h;split at h
    ·rename_i a4 u0 hv;obtain⟨v,c1,x,O,h⟩:=OU h;split at h
     ·rename_i ut x0;obtain⟨hT,h⟩:=Yk h;obtain⟨z2,zz⟩:=oj hT;obtain⟨yt,c2,h,y4,y6,z,Q2,s2,m2⟩:=JG h;obtain⟨y,c3,R3,Q3,h,s3,m3⟩:=ih h;have x7:=O.S.trans s2;refine⟨(yt,y),c3,R3++(z++x),Q3++(Q2++[]),h,x7.trans s3,λw K i t A F N sl sR L E m=>?_⟩;obtain⟨x1,a9,xs,a6,a5⟩:=ZH.append.1 sR;obtain⟨l,xk,z0,yf,y9⟩:=ZH.append.1 a5;obtain⟨hb,G,x3,⟨cb,⟨q,J,f,h',z5,z3,y5⟩,zs⟩,yl⟩:=O.M K i xk sl y9;subst z5 z3;obtain⟨a8,⟨_,v0,z1,z4,_⟩,z6⟩:=N S ⟨.hole a4,u0⟩ (by rw[hv];rfl);rw[zs _ (Tq rfl)]at z1;cases z1;have y7:A.tmps.getD S undef=.pointer (some ⟨q,0,none⟩):=by rw[z6,z4];rfl
      have a:(i++t).Perm (h'++(G++l)++(q,0,cellsOf f J)::x1):=by classical rw[VS]at xs z0 x3⊢;intro xv;have a1:=xs xv;have a2:=z0 xv;have a3:=x3 xv;simp only[VR,nn]at a1 a2 a3⊢;omega
      have yy:=xw (P:=Z.P) (w:=w) (b:=q) (o:=0) zz (WH y5) (KZ z2) λa0 v ev=>by exact(GD.uf (F.perm a) (b:=q) (k:=0) (cs:=f) (T:=J) Zb (o:=0) (n:=f.length)) a0 v (by simpa using ev)
      have yv:Yt K (c.l++(z++x)):=E.sub (by intro d a;rcases Z1 a with h|h;simp[h];rcases Z1 h with h|h<;>simp[h]);obtain⟨I,H,M,j,r1,ys,y0,x9,_⟩:=m2 w K h' G l f (F.sub a) y5 yl yf (λd a=>L d (by simp[a])) (Yt.next (K:=K) (K':=K) O.S (yv.sub (by intro d a;rcases Z1 a with h|h;rcases Z1 h with h|h<;>simp[h];simp[h])) (O.fr (yv.sub (by intro d a;rcases Z1 a with h|h<;>simp[h]))) (W3.refl _ _) m s2.mr) (O.S.dj m);have x5:=Xl (KU y4) r1;have U:Y0 w K (i++t) I (H++M++(q,0,cellsOf f J)::x1):=Y0.perm a (V8 _) (j.frame _);have x4:(H++M++(q,0,cellsOf f J)::x1).Perm (M++[(q,0,cellsOf f J)]++x1++H):=by classical rw[VS];intro xv;simp only[VR,nn,Ok];omega
      have yx:W3 K I (c.l++(z++x)):=by
       refineλg u=>x9 g λd a e=>?_;rcases Z1 a with a|a;·obtain⟨p,hq,W⟩:=O.S.ids d a;exact u p (by rcases Z1 hq with h|h<;>simp[h]) (W.trans e)
       ·exact u d (by simp[a]) e
      obtain⟨K2,X,zc,B,x6,V,y8,v2,r2,a7,y1,y2⟩:=m3 w I (M++[(q,0,cellsOf f J)]) x1 A ((U.step F).1.sub x4) (N.mono j.le) (ys.more _) (a6.mono j.le) (λd a=>let⟨h,p⟩:=L d (by simp[a]);⟨h,p.mono j.le⟩) (Yt.next (K:=K) x7 (E.sub (by intro d a;rcases Z1 a with h|h;rcases Z1 h with h|h<;>simp[h];simp[h])) y0 yx m s3.mr) (x7.dj m);refine⟨K2,H++X,zc,f++B,XE ut.ag f::x6,?_,?_,⟨f,B,_,x6,rfl,rfl,WH x5,by rw[y6.ag],v2⟩,⟨H,X,f,B,rfl,rfl,Xl V.le x5,r2⟩,a7,y1,?_⟩;·refine U.trans (Y0.perm x4 ?_ (V.frame H));rw[Z5 H];exact XJ
      ·have h1:(Go.Sl.Mz A.tmps (.cell S T)).run Z.P w=.ok (XE ut.ag f) w:=by simp only[Go.Sl.Mz,y7,asAddr,pure_bind];simp only[Instr.loadAt,Instr.sureAddr,pure_bind]at yy;rw[yy,rR (WH y5) (KZ z2)]
       rw[dQ];simp only[Ym,h1,y8,YJ,Y5]
      ·intro g u;have x2:∀d∈c.l++(z++x),d.1≠Yj g:=λd a=>u d (by rcases Z1 a with h|h;simp[h];rcases Z1 h with h|h<;>simp[h]);have y3:∀d∈c2.l++R3,d.1≠Yj g:=by
        intro d a e;rcases Z1 a with a|a;·obtain⟨p,hq,W⟩:=x7.ids d a;exact x2 p hq (W.trans e)
        ·exact u d (by simp[a]) e
       rw[y2 g y3,yx g x2]
     ·cases h
    ·cases h
 |nl=>intro rs c k h;cases rs with|cons _ _=>unfold Ny at h;cases h|nil=>unfold Ny at h;refine⟨(),c,[],[],h,Ua.refl c,λw K i t A F N sl sR L E m=>⟨K,[],i++t,[],[],Y0.refl _ _ _,Zb,⟨rfl,rfl⟩,⟨rfl,rfl⟩,sl.more t,E.sub Zb,W3.refl _ _⟩⟩
 |_=>intro rs c k h;unfold Ny at h;cases h
def BxI(B:List (Nat×Ty))(c:CS)(x:(Tw B).den)(c':CS)(R Q:Bx):Prop:=∀(i:World)(a:KK)(f e:HP),GD a.m (f++e) i->ZH a c.l f->ZH a R e->(∀d∈Q,∃j,Wg a d.1 d.2 j)->Yt a (c.l++R)->(∀d∈c.l,ZF c.g d.1=none)->∃b g h,Y0 i a (f++e) b (g++h)/\ZH b (VG B x) g/\ZH b c'.l h/\Yt b c'.l/\W3 a b (c.l++R)/\Yt b (VG B x)
theorem ZiF{R}{r:R}{t}{v}{c}{k}(h:OB t v c k=some r):∃x c',k x c'=some r/\No c'.s=true/\NP t v c x c'/\∀f e,t=.YL f e->v=⟨t,x⟩/\c'=c:=by have⟨x,c',h,a,d⟩:=aL h;have⟨b,h⟩:=Yk h;exact⟨x,c',h,b,a,d⟩
theorem lu{R}{r:R}:∀{B}{c}{k},Fc B c k=some r->∃x c' V Q,k x c'=some r/\Ua c c' V Q/\BxI B c x c' V Q
 |[],c,k,h=>by refine⟨(),c,[],[],h,Ua.refl c,λE K w s M P sR L q g=>⟨K,[],w++s,Y0.refl _ _ _,trivial,P.more s,q.sub Zb,W3.refl _ _,λ_ _ _ h=>by cases h⟩⟩|(i,t)::B,c,k,h=>by
  unfold Fc at h;obtain⟨v,c1,n,f,h⟩:=OU h;obtain⟨z2,I,h,y3,⟨z4,o,Q2,N,m2⟩,y6⟩:=ZiF h;obtain⟨x,c3,H,Q3,h,O,m3⟩:=lu h;have A:=f.S.trans N;refine⟨(z2,x),c3,H++(o++n),Q3++(Q2++[]),h,A.trans O,λE K w s M P sR L q g=>?_⟩;obtain⟨m,z3,x8,yv,ys⟩:=ZH.append.1 sR;obtain⟨x2,y1,x9,yt,yl⟩:=ZH.append.1 ys;obtain⟨hb,x5,x6,⟨W,yf,y7⟩,yx⟩:=f.M K w y1 P yl;have a:(w++s).Perm (hb++(x5++x2)++m):=by classical rw[VS]at x8 x9 x6⊢;intro T;have a1:=x8 T;have a2:=x9 T;have a3:=x6 T;simp only[VR]at a1 a2 a3⊢;omega
  have x1:Yt K (c.l++(o++n)):=q.sub (by intro b a;rcases Z1 a with h|h;simp[h];rcases Z1 h with h|h<;>simp[h]);obtain⟨G,j,C,z,r1,yy,xv,Z,_⟩:=m2 E K hb x5 x2 W (M.sub a) yf yx yt (λb a=>L b (by simp[a])) (Yt.next (K:=K) (K':=K) f.S (x1.sub (by intro b a;rcases Z1 a with h|h;rcases Z1 h with h|h<;>simp[h];simp[h])) (f.fr (x1.sub (by intro b a;rcases Z1 a with h|h<;>simp[h]))) (W3.refl _ _) g N.mr) (f.S.dj g);have U:Y0 E K (w++s) G (j++C++m):=Y0.perm a (V8 _) (z.frame m);have x7:(j++C++m).Perm (C++m++j):=CR _ _ _;have x4:W3 K G (c.l++(o++n)):=by
   refineλd u=>Z d λb a e=>?_;rcases Z1 a with a|a;·obtain⟨l,y,J⟩:=f.S.ids b a;exact u l (by rcases Z1 y with h|h<;>simp[h]) (J.trans e)
   ·exact u b (by simp[a]) e
  obtain⟨K2,hB,y5,F,r2,z0,y0,x0,fB⟩:=m3 E G C m ((U.step M).1.sub x7) yy (yv.mono z.le) (λb a=>let⟨h,l⟩:=L b (by simp[a]);⟨h,l.mono z.le⟩) (Yt.next (K:=K) A (q.sub (by intro b a;rcases Z1 a with h|h;rcases Z1 h with h|h<;>simp[h];simp[h])) xv x4 g O.mr) (A.dj g);refine⟨K2,j++hB,y5,?_,⟨j,hB,V8 _,⟨W,Xl F.le (Xl (KU y3) r1),λz1 hu=>F.le.nm _ _ (z.le.nm _ _ (y7 z1 hu))⟩,r2⟩,z0,y0,?_,Yt.cons ?_ fB⟩;·refine U.trans (Y0.perm x7 ?_ (F.frame j));rw[Z5 j];exact XJ
  ·intro d u;have x3:∀b∈c.l++(o++n),b.1≠Yj d:=λb a=>u b (by rcases Z1 a with h|h;simp[h];rcases Z1 h with h|h<;>simp[h]);have y2:∀b∈I.l++H,b.1≠Yj d:=by
    intro b a e;rcases Z1 a with a|a;·obtain⟨l,y,J⟩:=A.ids b a;exact x3 l y (J.trans e)
    ·exact u b (by simp[a]) e
   rw[x0 d y2,x4 d x3]
  ·intro d D S hm l y;injection(YZ hm)with e1 e2;injection e2 with X e4;obtain⟨ev,rfl⟩:=y6 d D X.symm;subst e1;have xk:v=⟨.YL d D,S⟩:=by rw[ev];subst X;rw[wW e4]
   have y4:(Yj d,(⟨.YL d D,S⟩:TV))∈c.l++n:=by rw[<-xk];exact f.mem
   have y8:∀b∈I.l++o,b.1≠Yj d:=by
    intro b a e;rcases Z1 a with a|a;·exact f.ne b a e
    ·have p:=N.mr b a;rw[e,f.none g]at p;cases p
   have y9:∀b∈I.l++H,b.1≠Yj d:=by
    intro b a e;rcases Z1 a with a|a;·exact f.ne b a e
    ·have p:=O.mr b a;rw[e,f.none g]at p;cases p
   rw[x0 d y9,Z d y8];exact q d D S (by rcases Z1 y4 with h|h<;>simp[h]) l y
theorem qW {K K2}(X:K2.fm=K.fm)(r:K2.m=K.m)(a:∀i,nP i=true->K2.nm i=K.nm i):∀{t},Tm t=true->∀{hs} {cs} {x},rel K t hs cs x->rel K2 t hs cs x:=by
 intro t
 induction t with
 |vec x3 t e=>exact λa hs cs x b=>Row.imp (λ_ _ _ b=>e a b) b
 |pair n f m s=>
  intro a;simp only[Tm,Yv]at a
  rintro hs cs x ⟨C,D,w,y,c,z,u,I⟩;exact⟨C,D,w,y,c,z,m a.1 u,s a.2 I⟩
 |only t e=>exact λa hs cs x b=>e a (x:=x) b
 |sl t e=>
  refine λa hs cs x ⟨c,n,j,d,F,b⟩=>⟨c,n,j,d,F,b.imp id (λ⟨f,q,l,T,g,k⟩=>⟨f,q,l,T,Row.imp (λ_ _ _ b=>e a b) g,by rw[r];exact k⟩)⟩
 |nz t e=>
  refine λa hs cs x ⟨c,b⟩=>⟨c,b.imp id (λ⟨hx,f,q,l,j,d,F,g,k⟩=>⟨hx,f,q,l,j,d,F,Row.imp (λ_ _ _ b=>e a b) g,by rw[r];exact k⟩)⟩
 |ptr t e=>
  refine λa hs cs x ⟨c,b⟩=>⟨c,b.imp id (λ⟨M,f,q,o,B,d,g,k⟩=>⟨M,f,q,o,B,d,e a g,by rw[r];exact k⟩)⟩
 |YM N t _=>
  refine λa hs cs x ⟨c,b⟩=>⟨c,b.imp id ?_⟩
  grind
 |hole H=>
  exact λE hs cs x ⟨c,v,A,d,U⟩=>⟨c,v,by rw[a H E];exact A,d,U⟩
 |Ue H u=>
  exact λE hs cs x ⟨c,f,A,d⟩=>⟨c,f,by rw[a H E];exact A,d⟩
 |fn N n x2 m x1=>
  intro a;simp only[Tm,Yv]at a
  rintro hs cs x ⟨c,as,P,S,d,⟨Q,G,g⟩,x0,Z⟩
  exact⟨c,as,P,S,d,⟨Q,G,m a.1 g⟩,x0,x1 a.2 Z⟩
 |own t e=>exact λa hs cs x ⟨f,h,o,p,c,d,g⟩=>⟨f,h,o,p,c,d,e a (x:=x) g⟩
 |opt t e=>
  rintro a hs cs x (b|⟨M,f,h,o,p,B,c,d,g⟩)
  ·exact .inl b
  ·exact .inr ⟨M,f,h,o,p,B,c,d,e a g⟩
 |full t e=>
  rintro a hs cs x (b|⟨f,h,j,l,L,p,d,c,g,J⟩)
  ·exact .inl b
  ·exact .inr ⟨f,h,j,l,L,p,d,c,Row.imp (λ_ _ _ b=>e a b) g,J⟩
 |YO t e=>
  rintro a hs cs x (b|⟨f,h,j,l,L,d,c,g,k,J⟩)
  ·exact .inl b
  ·exact .inr ⟨f,h,j,l,L,d,c,Row.imp (λ_ _ _ b=>e a b) g,by rw[r];exact k,J⟩
 |map n f m s=>
  intro a;simp only[Tm,Yv]at a
  rintro hs cs x ⟨O,V,R,d,c,W⟩
  refine⟨O,V,R,d,c,F2.imp ?_ W⟩
  grind
 |YL N t e=>
  exact λa hs cs x ⟨d,vs,G,g⟩=>⟨d,vs,λi v c=>by rw[X];exact G i v c,Row.imp (λ_ _ _ b=>e a b) g⟩
 |cons n f m s=>
  intro a;simp only[Tm,Yv]at a
  rintro hs cs x ⟨C,D,w,y,c,z,u,I⟩;exact⟨C,D,w,y,c,z,m a.1 u,s a.2 I⟩
 |_=>exact λ_ hs cs x b=>b
theorem fO{K K2}(a:K2.fm=K.fm)(b:K2.m=K.m)(c:∀i,nP i=true->K2.nm i=K.nm i):∀{l},J1 l=true->∀{x}{hs},ZH K (VG l x) hs->ZH K2 (VG l x) hs|[],_,_,_,_=>trivial|(i,t)::l,h,x,hs,⟨h1,h2,d,⟨cs,e,f⟩,q⟩=>by simp[J1,E6,Yv]at h;exact⟨h1,h2,d,⟨cs,qW a b c h.1.2 e,Zm⟩,fO a b c (by simpa[J1]using h.2) q⟩
def KK.cut(K:KK):KK:={K with nm:=λa=>if nP a=true then K.nm a else none}
theorem Zaw:∀{l}{x}{n}{b}{n'}{b'},AY l x n b=(n',b')->n<=n'/\∃new,b'=new++b/\(∀f t xs,(Yj f,⟨.YL f t,xs⟩)∈new->n'<=500->(Yj f,⟨.YL f t,xs⟩)∈VG l x)/\(∀p∈new,n<=p.1/\p.1<n'\/∃q∈VG l x,q.1=p.1)/\∀K hs,ZH K (VG l x) hs->Pz n n' K->∃K',Vh n n' K K'/\ZH K' new hs
 |[],x,n,b,n',b',h=>by cases h;exact⟨YG _,[],rfl,Zb,Zb,λK hs _ _=>⟨K,Vh.refl _ _ _,trivial⟩⟩|(d,t)::l,x,n,b,n',b',h=>by
  unfold AY at h;rcases m:KH d ⟨t,x.1⟩ n b with⟨I,R⟩;rw[m]at h;obtain⟨e,J,y,o,M⟩:=yq m;obtain⟨r,L,z,H,v,N⟩:=Zaw h;refine⟨WX e r,L++J,by rw[z,y,Z5],?_,?_,?_⟩
  ·intro f O xs hm E;rcases Z1 hm with hm|hm;·exact XG _ (H f O xs hm E)
   ·rcases o _ hm with h|h|⟨P,Q,h⟩;·have S:n<=1000+f/\1000+f<I:=h;omega
    ·rw[h];exact XP
    ·grind
  ·intro p a;rcases Z1 a with a|a
   ·rcases v p a with h|⟨q,F,w⟩;·exact .inl Y
    ·exact .inr ⟨q,XG _ F,w⟩
   ·rcases o p a with h|h|⟨P,Q,h⟩;·exact .inl Y
    ·exact .inr ⟨_,XP,by rw[h]⟩
    ·exact .inr ⟨_,XP,by rw[h]⟩
  ·rintro K hs⟨g,i,a,D,G⟩k;obtain⟨s,c,B⟩:=M K g D λd A T=>k d A Y;obtain⟨u,j,C⟩:=N s i (G.mono c.le) (c.fresh k e);exact⟨u,c.trans e r j,ZH.append.2 ⟨i,g,a.trans XJ,C,B.mono j.le⟩⟩
section
variable{Z:Xq}{β:Sr}
theorem Zax:∀{A}{x}{i n}{b}{e},n<=(QB A x i n b e).n/\∃new,(QB A x i n b e).b=new++b/\(∀p∈new,n<=p.1/\p.1<(QB A x i n b e).n)/\(QB A x i n b e).d=[]:=by intro A;induction A with|cons h A _ f=>intro x i n b e;unfold QB;rcases c:Mt h _ n b with⟨v,g,a⟩;have⟨q,new,j,o,_⟩:=yu c;have⟨r,s,k,m,l⟩:=f (x:=x.2) (i:=i+1) (n:=g) (b:=a) (e:=(i,v)::e);grind|_=>exact⟨YG _,[],rfl,Zb,rfl⟩
theorem Zjk:∀{A}{x}{i n}{b}{e}{c}{K}{H}{ac}{w}{cs vs},MP Z β {e:=e,b:=b,n:=n} c K H ac w->V7 A cs vs->rel K A c cs x->(∀j v,vs[j]?=some v->ac.tmps.getD (i+j) undef=v)->((QB A x i n b e).b.map (·.1)).Nodup->(QB A x i n b e).n<=500->∃K' H' o,MP Z β (QB A x i n b e) o K' H' ac w/\Vh n (QB A x i n b e).n K K'/\∀j,¬(n<=j/\j<(QB A x i n b e).n)->H' j=H j:=by intro A;induction A with|cons B A _ ih=>rintro x i n b e c K H ac w cs vs a⟨x3,c',v,x6,L,p,U,ev,x1⟩⟨h1,h2,G,d2,N,M,z,r2⟩u d k;obtain⟨rfl,rfl⟩:=NK (M.symm.trans L) (by rw[WH z,U]);unfold QB at d k⊢;rcases t:Mt B x.1 n b with⟨C,l,F⟩;rw[t]at d k;dsimp only at d k⊢;obtain⟨y,new,I,s,P⟩:=yu t;obtain⟨l2,x5,J,x4,_⟩:=Zax (A:=A) (x:=x.2) (i:=i+1) (n:=l) (b:=F) (e:=(i,C)::e);obtain⟨K1,g,r,Q⟩:=P K h1 G z λj h1 h2=>a.fr j ⟨h1,Y⟩;subst I;have x0:ac.tmps.getD i undef=v:=u 0 v (by rw[p];rfl);obtain⟨H1,W,S⟩:=a.add (s':={e:=(i,C)::e,b:=new++b,n:=l}) (new:=new) (n':=l) (h1:=h1) (h2:=h2) (by rw[N]) g Q rfl rfl (λm=>by rw[R9];cases R:Nat.beq i m with|true=>rw[TP];have:=Xu R;rw[<-this,x0,ev];exact⟨r.1,λH'=>YU.JZ (R1.rP r)⟩|false=>rw[TO];exact⟨a.ln m,λH'=>((a.ev m).mono g.le).boxes λj f=>by rw[a.ln m]at f;cases f⟩) (by rw[J]at d;exact ym d) λq B xs V i hi=>by have h3:n<=1000+q/\1000+q<l:=s _ V;omega y;obtain⟨E,D,o,X,O,T⟩:=ih W x1 (Xl g.le r2) λj v' f=>by have:=u (j+1) v' (by rw[p];exact f);rw[<-this];congr 1;omega d k;refine⟨E,D,o,X,g.trans y l2 O,λj f=>?_⟩;rw[T j Y];exact S j λx2 hp e=>by have:=s x2 hp;omega|nl=>intro x i n b e c K H ac w cs vs a _ _ _ _ _;exact⟨K,H,c,a,Vh.refl _ _ _,λ_ _=>rfl⟩|_=>intro x i n b e c K H ac w cs vs a h;exact h.elim
end
theorem pq{α}{K:KK}{n}{R}(b:∀hs cs x,R hs cs x->∀e∈hs,∀o,o<e.2.1->∃v,K.m e.1 o=some v):∀{xs:List α}{hs}{cs},Row n R hs cs xs->∀e∈hs,∀o,o<e.2.1->∃v,K.m e.1 o=some v
 |[],hs,cs,h,e,he=>by rw[h.2]at he;cases he|x::xs,hs,cs,⟨c,c',g,f,d,a,_,r,k⟩,e,he=>by
  rw[a]at he;rcases Z1 he with he|he;·grind
  ·exact pq b k e he
theorem Zq4{K}:∀{t}{hs}{cs}{x},rel K t hs cs x->∀e∈hs,∀o,o<e.2.1->∃v,K.m e.1 o=some v:=by
 have q:∀{j f:HP},(∀e∈j,∀o,o<e.2.1->∃v,K.m e.1 o=some v)->(∀e∈f,∀o,o<e.2.1->∃v,K.m e.1 o=some v)->∀e∈j++f,∀o,o<e.2.1->∃v,K.m e.1 o=some v:=λh i e l=>(Z1 l).elim (h e) (i e);have zero:∀{c:Nat}{D:Obj}{f:HP},(∀e∈f,∀o,o<e.2.1->∃v,K.m e.1 o=some v)->∀e∈(c,0,D)::f,∀o,o<e.2.1->∃v,K.m e.1 o=some v:=by simp
 intro t
 induction t with|vec O t a=>intro hs cs x b;exact pq (λ_ _ _ b=>a b) b|pair p c m n=>rintro hs cs x⟨j,f,w,y,rfl,B,h,i⟩;exact q (m h) (n i)|only t a=>intro hs cs x b;exact a (x:=x) b|own t a=>rintro hs cs x⟨c,k,A,r,rfl,g,d⟩;exact zero (a (x:=x) d)|opt t a=>
  rintro hs cs x(⟨_,rfl,_⟩|⟨Q,c,k,A,r,J,rfl,g,d⟩);·simp
  ·exact zero (a d)|full t a=>
  rintro hs cs x(⟨_,rfl,_⟩|⟨c,k,z,u,F,r,g,rfl,d,E⟩);·simp
  ·exact zero (pq (λ_ _ _ b=>a b) d)|YO t a=>
  rintro hs cs x(⟨_,rfl,_⟩|⟨c,k,z,u,F,g,rfl,d,C,E⟩);·simp
  ·intro e l o s;rw[YZ l]at s⊢;have:=C o u[o] (VB s);rw[TN]at this;exact⟨_,this⟩|map p c _ _=>rintro hs cs x⟨G,I,H,g,rfl,M⟩;exact zero Zb|YL L t a=>rintro hs cs x⟨g,P,N,d⟩;exact pq (λ_ _ _ b=>a b) d|cons p c m n=>rintro hs cs x⟨j,f,w,y,rfl,B,h,i⟩;exact q (m h) (n i)|_=>intro hs cs x b;rw[b.1];simp
theorem ZsN:∀{A}{cs vs},V7 A cs vs->vs.length=Lk A:=by intro A;induction A with|cons f A _ b=>rintro cs vs⟨d,e,v,c,_,rfl,_,_,a⟩;show c.length+1=Lk A+1;rw[b a]|nl=>rintro cs vs⟨_,rfl⟩;rfl|_=>intro cs vs a;exact a.elim
theorem rC{i}(h:nP i=true):i<100\/500<=i:=by
 unfold nP at h;rw[Gx]at h;rcases h with h|h;·simp_all
 ·refine .inr (wQ λa=>?_);have:Nat.blt i 500=true:=by rw[Uk];exact a
  grind
theorem ZaS{d f}{hs a}{w w'}(b:GD d hs w)(c:GD f a w'){e}(h:e∈hs)(h':e∈a):w'.heap[e.1]?=w.heap[e.1]?:=by rw[b.YY e h,c.YY e h']
section
variable{Z:Xq}
def mc(Z:Xq)(a:FC)(h:Func)(f:a.C.den->(Tw a.D).den->a.ρ)(b:Bx)(r:a.ρ)(s:XS):Prop:=(bif a.u then(bif a.A.plain&&(a.D.isEmpty&&Ht b s.d)then Ny Z s a.C h.results.toList {g:=s.b} λd c=>bif Ht b (c.r.map (·.1))then Fc a.D {g:=[]} λe _=>some (f d e)else none else none)else Ny Z s a.C h.results.toList {g:=s.b} λd c=>Fc a.D c λe _=>some (f d e))=some r
theorem fN{K}{H}{b R}(h:∀p∈b,∃h,H p.1=some h/\Wg K p.1 p.2 h)(a:∀p∈R,ZF b p.1=some p.2):ZH K R (YQ H R):=pC λp c=>h p (W8 (a p c))
theorem gZ{P}{b}{a:Act}{w}{vs}(h:(b.results.toList.mapM (Go.Sl.Mz a.tmps)).run P w=.ok vs w):(results b a.tmps).run P w=.ok (Ev vs) w:=ph (c:=⟨P,0,⟨λ_=>True,Zb⟩,λ_ _=>none,w,[],none,false⟩) Zb h
structure c8(Z:Xq)(fc:FC)(x:(Tw fc.B).den)(K:KK)(hA hB hx:HP)(w:World)(N:Nat)(b:Bx)(rest:HP)(H:HM)(s0:XS)(K2:KK)(H2:HM):Prop where
 perm:hB.Perm (YQ H b++rest)bx:∀p∈b,∃h,H p.1=some h/\Wg K2 p.1 p.2 h
 sub:∀p∈b,ZF s0.b p.1=some p.2eqH:∀p∈b,H2 p.1=H p.1m:K2.m=K.m
 fm:K2.fm=K.fm
 nm:∀i,nP i=true->K2.nm i=K.nm i
 n:100<=s0.n
 d:s0.d=[]fb:∀j v,1000<=j->ZF s0.b j=some v->∃q∈b,q.1=j
 fx:∀q∈b,1000<=q.1->∃p∈VG fc.B x,p.1=q.1
def Jz(K:KK)(a b hx rest:HP)(w:World)(N:Nat):Sr:=⟨N,rest++hx,w,K.m,HP.bs (a++b++hx)⟩
theorem Zji{L}{O}{xk}(x7:∀y z,L.dec (xk y z)=(y,z)){x}{r}{K}{S F hx}{w}{b}{rest}{H}{s0 s}{K2 K'}{H2 H'}{a'}{w'}(hg:GD K.m (S++F++hx) w)(hC:Tm L.C=true)(hD:J1 L.D=true)(a3:L.A.plain=true->S=[])(i:c8 Z L x K S F hx w O.ntmps b rest H s0 K2 H2)(m:St Z (Jz K S F hx rest w O.ntmps) s K' H' a' w')(t:PD s0 K2 H2 s K' H')(h:mc Z L O xk b r s):∃v,(results O a'.tmps).run Z.P w'=.ok v w'/\∃z3 hC hD,LX L x r K S F hx w v w' z3 hC hD:=by
 obtain⟨X,y9,y8⟩:=m.ms.own;have yy:Ap s.e K' a':=λu tv e=>Gd e (m.ms.ev u);have zs:∀f,(∀c∈b,c.1≠Yj f)->K'.fm f=K.fm f:=λf q=>by
  rw[t.fk f λV=>?_,i.fm];rcases t.fd (Yj f) (by show 1000<=1000+f;omega) V with h|⟨v,I⟩;·rw[i.d]at h;cases h
  ·obtain⟨c,g,e⟩:=i.fb _ _ (by show 1000<=1000+f;omega) I;exact q c g e
 have xv:∀f(x9:Bx),(∀a∈x9,ZF s.b a.1=some a.2)->(∀c∈b,c.1≠Yj f)->∀a∈x9,a.1≠Yj f:=by intro f x9 hR q a d e;obtain⟨v,I⟩:=t.fb (Yj f) a.2 (by show 1000<=1000+f;omega) (by rw[<-e];exact hR a d);obtain⟨c,g,e⟩:=i.fb _ _ (by show 1000<=1000+f;omega) I;exact q c g e
 have y2:∀l,nP l=true->K'.nm l=K.nm l:=λl N=>by rw[t.nm l (by have:=rC N;have:=i.n;omega),i.nm l N]
 have a8:XI K.m K'.m:=by rw[<-i.m];exact t.le.m
 unfold mc at h;cases hu:L.u with|false=>
  rw[hu,TO]at h;obtain⟨y,c1,k,Q1,h,p,m1⟩:=ZeK h;obtain⟨z,c2,E,Q2,h,s2,m2⟩:=lu h;have er:xk y z=r:=XD h;have W:=p.trans s2;have M:∀a∈k,ZF s.b a.1=some a.2:=p.mr;have y7:∀a∈E,ZF s.b a.1=some a.2:=λa d=>W.mr a (Yd (.inl d));obtain⟨n,U⟩:∃n,n=YQ H' (X0 (E++k) s.b)++(X++(Jz K S F hx rest w O.ntmps).hx):=⟨_,rfl⟩;have x2:(YQ H' s.b++(X++(Jz K S F hx rest w O.ntmps).hx)).Perm ([]++YQ H' k++YQ H' E++n):=by have:=Hq (H:=H') (Ee m.ms.nd W.nd W.mr);rw[Mm,Mm]at this;subst U;classical rw[VS]at this⊢;intro z;have:=this z;simp only[VR,Ok]at this⊢;omega
  have T:=y9.perm x2;obtain⟨C,G,x0,cs,vs,B,y4,v1,r1,z2,y6,x4⟩:=m1 w' K' [] (YQ H' k) a' T.left.left yy trivial (fN m.ms.bx M) (λa d=>let⟨Q,_,c⟩:=m.ms.bx (a.1,a.2) (W8 (p.mq a d));⟨Q,c⟩) (m.ms.YM.sub λa d=>W8 (M a (by simpa using d))) Zb;have y5:=B.frame (YQ H' E);have yv:(G++x0++YQ H' E).Perm (x0++YQ H' E++G):=CR _ _ _;obtain⟨D,xs,yf,G2,sD,a9,a6,z4,fD⟩:=m2 w' C x0 (YQ H' E) ((y5.step T.left).1.sub yv) z2 ((fN m.ms.bx y7).mono B.le) (λa d=>let⟨Q,_,c⟩:=m.ms.bx (a.1,a.2) (W8 (W.mq a (Yd (.inl d))));⟨Q,c.mono B.le⟩) (Yt.next (K:=K') p (m.ms.YM.sub (by intro a d;rcases Z1 d with h|h;exact W8 (W.mr a h);cases h)) y6 x4 Zb s2.mr) (p.dj Zb);obtain⟨R,f4⟩:=((y5.trans (Y0.perm yv (V8 _) (G2.frame G))).frame n).step T;have yx:(xs++yf++G++n).Perm (G++xs++hx++(yf++(YQ H' (X0 (E++k) s.b)++(X++rest)))):=by subst U;classical rw[VS];intro z;simp only[Jz,VR];omega
  refine⟨_,gZ y4,⟨K.nm,D.fm,D.m⟩,G,xs,?_⟩;have x1:=t.le.trans (B.le.trans G2.le);have z1:D.nm=K'.nm:=G2.nm.trans B.nm;have x5:∀f,(∀c∈b,c.1≠Yj f)->D.fm f=K.fm f:=λf q=>by
   rw[z4 f,x4 f,zs f q];·exactλa d=>xv f k M q a (by simpa using d)
   ·intro a d e;rcases Z1 d with d|d;·obtain⟨c,g,e'⟩:=p.ids a d;exact xv f k M q c (by simpa using g) (e'.trans e)
    ·exact xv f E y7 q a d e
  refine⟨⟨λ_ _ h=>h,λf l v e=>x1.fm f l v (by rw[i.fm];exact e),by rw[<-i.m];exact x1.m⟩,rfl,⟨cs,vs,rfl,v1,?_⟩,λ_=>⟨(R.perm yx).left,?_,?_,?_,?_⟩,λe=>by rw[hu]at e;cases e⟩;·rw[<-er,x7];exact qW (K:=D) (K2:=⟨K.nm,D.fm,D.m⟩) rfl rfl (λl N=>by rw[z1];exact(y2 l N).symm) hC (Xl G2.le r1)
  ·refine(ZG.trans (ZG.QI x2 y8) (ZG.QI yx f4)).sub λbb hb=>?_;rw[HP.XL];exact Yd (.inl hb)
  ·rw[<-er,x7];exact fO (K:=D) (K2:=⟨K.nm,D.fm,D.m⟩) rfl rfl (λl N=>by rw[z1];exact(y2 l N).symm) hD sD
  ·rw[<-er,x7];exact fD
  ·refineλf q=>x5 f λc g e=>?_;obtain⟨a,d,e'⟩:=i.fx c g (by rw[e];show 1000<=1000+f;omega);exact q a d (e'.trans e)|true=>
  rw[hu,TP]at h;obtain⟨hc,h⟩:=Yk h;simp only[Yv,List.isEmpty_iff]at hc;obtain⟨z6,a7,zz⟩:=hc;obtain⟨y,c1,k,Q1,h,p,m1⟩:=ZeK h;obtain⟨a1,h⟩:=Yk h;obtain⟨z,c2,E,Q2,h,s2,m2⟩:=lu h;have z5:=a3 z6;subst z5;have M:∀a∈k,ZF s.b a.1=some a.2:=p.mr;have ys:∀c∈b,c.1∉s.d:=λc g V=>by have:=E7 zz c g;simp only[Jg]at this;rw[Ln.2 V]at this;cases this
  have yt:∀c∈b,∀a∈k,a.1≠c.1:=λc g a d e=>by have:=E7 a1 c g;simp only[Jg]at this;rw[Ln.2 (show c.1∈c1.r.map (·.1)by rw[p.r,<-e];exact VC (f:=(·.1)) (Yd (.inl d)))]at this;cases this
  have a0:∀c∈b,c∈X0 k s.b/\H' c.1=H c.1:=λc g=>by obtain⟨e1,e2⟩:=t.bx c.1 c.2 (i.sub c g) (ys c g);refine⟨W8 (j:=c.1) (v:=c.2) ?_,e2.trans (i.eqH c g)⟩;rw[L8 (yt c g)];exact e1
  obtain⟨n,U⟩:∃n,n=YQ H' (X0 k s.b)++(X++(rest++hx)):=⟨_,rfl⟩;have x2:(YQ H' s.b++(X++(Jz K [] F hx rest w O.ntmps).hx)).Perm ([]++YQ H' k++n):=by have:=Hq (H:=H') (Ee m.ms.nd p.nd p.mr);rw[Mm]at this;subst U;classical rw[VS]at this⊢;intro z;have:=this z;simp only[Jz,VR,Ok]at this⊢;omega
  have T:=y9.perm x2;obtain⟨C,G,x0,cs,vs,B,y4,v1,r1,z2,y6,x4⟩:=m1 w' K' [] (YQ H' k) a' T.left yy trivial (fN m.ms.bx M) (λa d=>let⟨Q,_,c⟩:=m.ms.bx (a.1,a.2) (W8 (p.mq a d));⟨Q,c⟩) (m.ms.YM.sub λa d=>W8 (M a (by simpa using d))) Zb;obtain⟨R,f4⟩:=(B.frame n).step T;have x1:=t.le.trans B.le;have P:=ZG.trans (ZG.QI x2 y8) f4;refine⟨_,gZ y4,⟨K.nm,C.fm,C.m⟩,G,[],?_⟩;have x8:∀e∈YQ H b,e∈n:=λe o=>by rw[U];refine Yd (.inl ?_);unfold YQ at o;obtain⟨c,g,x3⟩:=List.mem_flatMap.1 o;obtain⟨k1,k2⟩:=a0 c g;obtain⟨Q,eg,_⟩:=i.bx c g;rw[eg]at x3;exact zB k1 (k2.trans eg) e x3
  have y1:∀e∈rest++hx,e∈n:=λe o=>by rw[U];exact Yd (.inr (Yd (.inr o)))
  have y3:([]++F++hx).Perm (YQ H b++(rest++hx)):=by have:=i.perm;classical rw[VS]at this⊢;intro z;have:=this z;simp only[VR,Ok]at this⊢;omega
  have y0:=hg.perm y3;have x5:C.fm=K.fm:=by
   funext f;have q:∀c∈b,c.1≠Yj f->True:=λ_ _ _=>trivial;have h1:∀j,1000<=j->j∉s.d:=λj hj V=>by
    rcases t.fd j hj V with h|⟨v,I⟩;·rw[i.d]at h;cases h
    ·obtain⟨c,g,e⟩:=i.fb _ _ hj I;exact ys c g (by rw[e];exact V)
   have h2:∀a∈k,a.1<1000:=λa d=>Nat.lt_of_not_le λhj=>by obtain⟨v,I⟩:=t.fb a.1 a.2 hj (M a d);obtain⟨c,g,e⟩:=i.fb _ _ hj I;exact yt c g a d e.symm
   rw[x4 f λa d e=>by have:=h2 a (by simpa using d);rw[e]at this;have:1000+f<1000:=this;omega,t.fk f (h1 _ (by show 1000<=1000+f;omega)),i.fm]
  refine⟨⟨λ_ _ h=>h,λf l v e=>by rw[x5];exact e,by rw[<-i.m];exact x1.m⟩,rfl,⟨cs,vs,rfl,v1,?_⟩,λe=>absurd (hu.symm.trans e) YP,λ_=>⟨R.left.left,⟨P.os,P.tape,P.output,P.size,?_,?_,P.le⟩,x5⟩⟩;·rw[<-XD h,x7];exact qW (K:=C) (K2:=⟨K.nm,C.fm,C.m⟩) rfl rfl (λl N=>by rw[B.nm];exact(y2 l N).symm) hC r1
  ·intro J x6 _;by_cases yl:J∈HP.bs ([]++F++hx)
   ·obtain⟨e,o,rfl⟩:=Uj (((y3.map (·.1)).mem_iff).1 yl);have a2:∀A,C.m e.1 A=K'.m e.1 A:=(B.zm T) e.1 (by
     refine VC (f:=λz:Nat×Nat×Obj=>z.1) ?_;rcases Z1 o with h|h;·exact x8 e h
     ·exact y1 e h);rcases Z1 o with h|h
    ·refine⟨ZaS y0 R o (Yd (.inr (x8 e h))),λA=>?_⟩;rcases Ru A e.2.1with ho|ho
     ·unfold YQ at h;obtain⟨c,g,x3⟩:=List.mem_flatMap.1 h;obtain⟨Q,eg,a5,a4,_⟩:=i.bx c g;rw[eg]at x3;obtain⟨v,I⟩:=Zq4 a4 e x3 A ho;have z0:K.m e.1 A=some v:=by rw[<-i.m];exact I
      rw[z0];exact(show XI K.m C.m by rw[<-i.m];exact x1.m) _ _ _ z0
     ·rw[y0.free e o A ho];exact R.free e (Yd (.inr (x8 e h))) A ho
    ·refine⟨ZaS y0 R o (Yd (.inr (y1 e h))),λA=>?_⟩;rw[a2 A];exact m.ms.fx e.1 (VC (f:=λz:Nat×Nat×Obj=>z.1) h) A
   ·exact P.Wa J x6 yl
  ·refineλJ x6=>.inr ?_;have zv:J∈HP.bs (G++x0++n):=by rw[HP.XL,HP.XL];exact Yd (.inl (Yd (.inl x6)))
   rcases P.own J zv with h|h
   ·exfalso;obtain⟨e,o,zc⟩:=Uj (((y3.map (·.1)).mem_iff).1 h);have hr:J∈HP.bs n:=by
     rw[<-zc];refine VC (f:=λz:Nat×Nat×Obj=>z.1) ?_;rcases Z1 o with h|h;·exact x8 e h
     ·exact y1 e h
    have:=R.nodup;rw[HP.XL,TM]at this;exact this.2.2 J (by rw[HP.XL];exact Yd (.inl x6)) J hr rfl
   ·exact h
end
theorem ZjE{l}{x}{i:Nat}(h:J1 l=true):∀p∈VG l x,nP p.1=true:=by induction l with|nil=>intro p a;cases a|cons c l b=>
  simp[J1,E6,Yv]at h;intro p a;rcases XB a with rfl|a;·grind
  ·exact b (by simpa[J1]using h.2) p a
theorem Zlq{Z}{c}{j}(hf:Z.P.funcs[c.f]?=some j)(y4:Q7 Z.P c.f=true)(S)(yl:∀y z,c.dec (S y z)=(y,z))(a4:∀c∈Z.tb,UG Z c)(x5:∀g M,Rs Z.gl g=some M->M.t.nh=true)(y5:IF Z)(z4:Z.P.follows .mixedOrders=true)(hm:∀a x r,c.m a x=some r->jM Z j c.u c.A c.B c.C c.D S a x=some r):UG Z c:=by
 refine⟨y4,λa x r hr K m u C cs p q hg yv hv x8 a2 yf=>?_⟩;have h:=hm a x r hr;unfold jM at h;split at h;·cases h
 ·rename_i xk y3;obtain⟨x2,h⟩:=Yk h;simp only[Za7,Yv]at x2;obtain⟨zs,x6,zv,zz,z3,y6⟩:=x2;rcases I:AY c.B x 100 []with⟨n,b⟩;rw[I]at h;dsimp only at h;obtain⟨B,h⟩:=CM h;obtain⟨z6,ag,eb,ys,x3,y1⟩:=Zaw I;rw[Xp]at eb;subst eb;obtain⟨zc,al,R,yy,y7⟩:=Zax (A:=c.A) (x:=a) (i:=0) (n:=n) (b:=b) (e:=[]);have W:∀i,nP i=true->K.cut.nm i=K.nm i:=λi o=>by simp only[KK.cut];rw[YW o]
  have x0:∀i,100<=i->i<500->K.cut.nm i=none:=λi T h2=>by simp only[KK.cut];rw[Yg];intro d;have:=rC d;omega
  have a5:=B.n;obtain⟨G,J,y0⟩:=y1 K.cut u (fO (K:=K) (K2:=K.cut) rfl rfl W x6 a2) λi T h2=>x0 i T Y;obtain⟨H,L,k1,k2⟩:=xz (by have:=B.nd;rw[R]at this;exact ym this) y0;obtain⟨ac,O⟩:∃ac:Act,ac={tmps:=p.toArray++Array.replicate (j.ntmps-p.toArray.size) undef,defers:=[]}:=⟨_,rfl⟩;have ad:=ZsN hv;have a9:=Dd▸z3;have E:G.m=K.m:=J.m;have X:G.fm=K.fm:=J.fm;have xv:MP Z (Jz K m u C L q j.ntmps) {e:=[],b:=b,n:=n} m G H ac q:=by
   have x7:(m++u++C).Perm (YQ H b++(m++([]++(L++C)))):=by classical rw[VS]at k2⊢;intro z;have:=k2 z;simp only[VR,Ok]at this⊢;omega
   refine⟨⟨[],by rw[E];exact hg.perm x7,?_⟩,?_,k1,λt=>YU.JZ (K:=G) (H:=H) (s:=.any) trivial,λt=>rfl,λi o=>?_,?_,?_,by rw[O],λ_ _ av=>by rw[E];rfl⟩;·rw[E];exact ZG.QI x7 (ZG.refl _ _ _)
   ·intro g M e;obtain⟨ds,a0,y2⟩:=yv g M e;exact⟨ds,qV (K:=K) (K2:=G) X E (x5 g M e) a0,by rw[E];exact y2⟩
   ·have yx:n<=i/\i<500:=o;rw[J.nm i Y];exact x0 i Y yx.2
   ·intro f t xs z5 i o;rw[X];exact yf f t xs (ys f t xs z5 Y) i o
   ·rw[O];show(p.toArray++Array.replicate (j.ntmps-p.toArray.size) undef).size=j.ntmps;simp only[Array.size_append,List.size_toArray,Array.size_replicate];omega
  obtain⟨K2,P,a8,k,N,z2⟩:=Zjk (A:=c.A) (x:=a) (i:=0) (n:=n) (b:=b) (e:=[]) xv hv (Xl J.le (qW (K:=K) (K2:=K.cut) rfl rfl W zs x8)) (λD v w=>by
   have z1:D<p.length:=by
    rcases Ru D p.length with h|h;·exact h
    ·rw[nu h]at w;cases w
   rw[O];show(p.toArray++Array.replicate (j.ntmps-p.toArray.size) undef).getD (0+D) undef=v;rw[TN,Zgg,dD (by simpa using z1)];simp[w]) B.nd a5;have a3:St Z (Jz K m u C L q j.ntmps) (QB c.A a 0 n b []) K2 P ac q:=by refine⟨⟨B.nd,B.ids,λt D w=>by rw[k.ln t]at w;cases w⟩,?_⟩;obtain⟨hd,yt,y9⟩:=k.own;exact⟨B.nd,⟨a8++hd,by rw[Z5];exact yt,by rw[Z5];exact y9⟩,k.gl,k.bx,k.ev,k.fr,k.YM,k.sz,k.df,k.fx⟩
  have z0:∀F∈b,F.1<n\/500<=F.1:=λF hq=>by
   rcases x3 F hq with h|⟨l,d,e⟩;·exact .inl h.2
   ·have:=rC (ZjE (i:=0) x6 l d);rw[e]at this;omega
  have y8:c8 Z c x K m u C q j.ntmps b L H (QB c.A a 0 n b []) K2 P:=by
   refine⟨k2,λl d=>?_,λl d=>Oy B.nd (by rw[R];exact Yd (.inr d)),λl d=>?_,N.m.trans E,N.fm.trans X,λi o=>?_,WX z6 zc,y7,λD v w a6=>?_,λF hq ab=>?_⟩;·obtain⟨g,e,hb⟩:=k1 l d;exact⟨g,e,hb.mono N.le⟩
   ·refine z2 l.1 ?_;have:=z0 l d;omega
   ·have T:=rC o;rw[N.nm i Y,J.nm i Y];exact W i o
   ·have:=W8 a6;rw[R]at this;rcases Z1 this with h|h;·have:=yy _ h;have h2:n<=D/\D<(QB c.A a 0 n b []).n:=this;omega
    ·exact⟨_,h,rfl⟩
   ·rcases x3 F hq with h|⟨l,d,e⟩;·omega
    ·exact⟨l,d,e⟩
  refine nK hf y3 (wpIn_wide (n:=0).1 ?_);rw[<-O];refine RO (Zju (Z:=Z) (β:=Jz K m u C L q j.ntmps) a4 x5 y5 z4 xk y6 (QB c.A a 0 n b []) _ r h K2 P ac q a3) λe a' w'⟨ex,s',K',H',x4,hk,x9,hl,_⟩=>?_;have x1:∀(I:mc Z c j S b r s'),a'.defers=[]/\∃v,(results j a'.tmps).run Z.P w'=.ok v w'/\∃v',Ending.returned v=.returned v'/\∃Q U V,LX c x r K m u C q v' w' Q U V:=λI=>by obtain⟨v,a7,Q,U,V,a1⟩:=Zji yl hg zv zz (λd=>SD d x8) y8 x9 hl I;exact⟨x9.ms.df,v,a7,v,rfl,Q,U,V,a1⟩
  cases ex with|Ve=>subst x4;exact x1 hk|exit i=>cases hk|ret=>subst x4;exact x1 hk
theorem UG.cfg{Z a}{b}(c:a.P=Z.P)(k:a.gl=Z.gl)(h:UG Z b):UG a b:=by have⟨i,j⟩:=h;refine⟨by rw[c];exact i,λe q o n d s t u r w p l m=>?_⟩;rw[c];exact j e q o n d _ _ _ _ _ p l λg v f=>m g _ (by rw[k];exact f)
theorem Ziz{l}{T}(h:ul l=some T):∃C u d D v e E K w f F x g a ps G y i H z j c I A k J B m,l=[⟨some 2,.assign (.const (.slice none 0 0)),C,u,d,none⟩,⟨some 3,.move (.tmp 0),D,v,e,none⟩,⟨some 4,.binOp .eql T (.tmp 3) (.const (.slice none 0 0)) K,E,w,f,none⟩,⟨some 2,.assign (.const (.slice none 0 0)),F,x,g,none⟩,⟨some 5,.buildSlice a 0 ps,G,y,i,none⟩,⟨some 6,.move (.tmp 0),H,z,j,none⟩,⟨some 7,.call c,I,A,k,none⟩,⟨some 2,.assign (.tmp 7),J,B,m,none⟩]/\a=T/\ps.toList=[]/\c.callee=.builtin .append/\c.args.toList=[.tmp 5,.tmp 6]/\c.argTypes.toList=[T,T]:=by
 unfold ul at h;split at h
 ·split at h;·rename_i L M r s t;have⟨b,h⟩:=Yk h;cases h;simp only[Yv]at b;have⟨n,o,p,q⟩:=b;cases Xu n;cases Xu o;cases Xu p;refine⟨_,_,_,_,_,_,_,_,_,_,_,_,_,_,_,_,_,_,_,_,_,_,_,_,_,_,_,_,rfl,rfl,?_,r,s,t⟩;simpa using q
  ·grind
 ·grind
theorem ZiA{P}{f}{T}(h:um P f=some T):∃a b c d e A B C D,P.funcs[f]?=some a/\a.body=some (.seq (.region b A false) (.seq (.seq (.region c B false) (.cond (.tmp 4) (.seq (.region d C false) .ret) .skip)) (.seq (.region e D false) .ret)))/\a.results.toList=[.tmp 2]/\a.ntmps=8/\A.size=1/\B.size=2/\C.size=1/\ul (A.toList++(B.toList++(C.toList++D.toList)))=some T:=by
 unfold um at h;split at h
 ·rename_i a l;split at h;·rename_i b A c B d C e D g i j;have⟨k,h⟩:=Yk h;simp only[Yv]at k;exact⟨a,_,_,_,_,A,B,C,D,l,g,i,j,XA,XA,XA,h⟩
  ·grind
 ·grind
theorem Hu{P}{ops}{Q}{o}{l}{a}{w w'}{v}(b:o.guard=none)(c:(execOp a.eval o).run P w=.ok (.value v) w')(h:wpListIn (XX none) 0 P ops Q l (a.put o.dst v) w'):wpListIn (XX none) 0 P ops Q (o::l) a w:=by show if Region.wanted o _=true then _ else _;rw[YW (by simp[Region.wanted,b])];refine TE.wp (k:=λd e=>d=v/\e=w') (by rw[c];exact⟨rfl,rfl⟩) ?_;grind
theorem qU{P}{id}{A}{Q}{a}{w}(h:wpListIn (XX none) 0 P A Q A.toList a w):(Code.region id A false).wpIn (XX none) 0 P Q a w:=by have:A=A.toList.toArray:=Zb;exact cj Y
theorem ZiB{Z}:IF Z:=by
 intro bz bv hT i p b hs w v x6 x5 b7 hg R;obtain⟨fn,i1,i2,i3,i4,x9,xk,xs,xv,hf,S,bh,bb,hA,hB,hC,hO⟩:=ZiA hT;obtain⟨y1,p1,a1,y2,p2,a2,y3,x8,p3,a3,y4,p4,a4,L,ps,y5,p5,a5,y6,p6,a6,y9,y7,p7,a7,y8,p8,a8,el,eT,x3,yv,yx,yy⟩:=Ziz hO;subst eT;obtain⟨O,Q,e3,e4⟩:x9.toList=[⟨some 2,.assign (.const (.slice none 0 0)),y1,p1,a1,none⟩]/\xk.toList=[⟨some 3,.move (.tmp 0),y2,p2,a2,none⟩,⟨some 4,.binOp .eql L (.tmp 3) (.const (.slice none 0 0)) x8,y3,p3,a3,none⟩]/\xs.toList=[⟨some 2,.assign (.const (.slice none 0 0)),y4,p4,a4,none⟩]/\xv.toList=[⟨some 5,.buildSlice L 0 ps,y5,p5,a5,none⟩,⟨some 6,.move (.tmp 0),y6,p6,a6,none⟩,⟨some 7,.call y9,y7,p7,a7,none⟩,⟨some 2,.assign (.tmp 7),y8,p8,a8,none⟩]:=by have X:∀{M x0 U V:List Oper},M++x0=U++V->M.length=U.length->M=U/\x0=V:=λh bs=>NK h bs;obtain⟨q1,q2⟩:=X (U:=[_]) (V:=_::_::_::_::_::_::[_]) el (by simpa using hA);obtain⟨q3,q4⟩:=X (U:=[_,_]) (V:=_::_::_::_::[_]) q2 (by simpa using hB);obtain⟨q5,q6⟩:=X (U:=[_]) (V:=_::_::_::[_]) q4 (by simpa using hC);exact⟨q1,q3,q5,q6⟩
 obtain⟨r,yf,rx,E,_,J,c0⟩:=zi (P:=Z.P) R;obtain⟨bt,zz⟩:=pK x6;obtain⟨El,a9⟩:=Zbg x5;have b8:r=none->p=[]:=λys=>by
  obtain⟨x1,x2,F,_,h⟩:=R.h;rw[E]at F;cases F;rcases h with h|⟨C,K,f,D,_⟩;·exact h
  ·rw[ys]at D;cases D
 refine nK hf S (wpIn_wide (n:=0).1 ?_);obtain⟨ac,I⟩:∃ac:Act,ac={tmps:=#[v]++Array.replicate (fn.ntmps-(#[v]:Array Value).size) undef,defers:=[]}:=⟨_,rfl⟩;rw[<-I];have bo:ac.tmps.size=8:=by rw[I,bb];simp
 have h0:ac.tmps.getD 0 undef=v:=by rw[I,Zgg,dD Zb];rfl
 have b1:ac.defers=[]:=by rw[I]
 have x7:∀(B:Act)(w':World)(e:Value)(f:List Value)(h1:HP),B.tmps.getD 2 undef=e->B.defers=[]->GD b.m (h1++hs) w'->ZG w w' b.m b.m hs.bs (HP.bs (h1++hs))->Row i.n (rel b i) [] f p->LS Z.P w' i.n p.length e 0 f h1->bodyPost Z.P fn (λen w'=>∃e,en=.returned e/\∃f h1,GD b.m (h1++hs) w'/\ZG w w' b.m b.m hs.bs (HP.bs (h1++hs))/\Row i.n (rel b i) [] f p/\LS Z.P w' i.n p.length e 0 f h1) .ret B w':=by intro B w' e f h1 O Q q1 q2 q3 q4;refine⟨Q,Ev [e],gZ (vs:=[e]) ?_,e,rfl,f,h1,q1,q2,q3,q4⟩;rw[bh,dQ,List.mapM_nil];simp only[Go.Sl.Mz,pure_bind,Ym,O,YJ,Y5]
 refine Dl (qU ?_);rw[O];refine Hu (v:=.slice none 0 0) (w':=w) rfl rfl ?_;obtain⟨m,G⟩:∃m,m=ac.put (some 2) (.slice none 0 0):=⟨_,rfl⟩;rw[<-G];have s1:m.tmps.size=8:=by rw[G,Rc,bo]
 have g1:m.tmps.getD 0 undef=v:=by rw[G,Nv YP,h0]
 refine Dl (Dl (qU ?_));rw[Q];refine Hu (v:=v) (w':=w) rfl (by show Result.ok (Next.value (m.eval (.tmp 0))) w=_;rw[show m.eval (.tmp 0)=v from g1]) ?_;obtain⟨o,s⟩:∃o,o=m.put (some 3) v:=⟨_,rfl⟩;rw[<-s];have s2:o.tmps.size=8:=by rw[s,Rc,s1]
 have g2:o.tmps.getD 0 undef=v:=by rw[s,Nv YP,g1]
 have z2:o.tmps.getD 3 undef=v:=by rw[s,P6 Y]
 have b0:=fI (P:=Z.P) (w:=w) (a:=o) (d:=some 4) (ty:=y3) (pos:=p3) (aft:=a3) (g:=none) (x:=.tmp 3) (y:=.const (.slice none 0 0)) (yt:=x8) (neg:=false) x5 (z2.trans E) rfl;refine Hu (v:=.bool r.isNone) (w':=w) rfl b0 ?_;obtain⟨c,t⟩:∃c,c=o.put (some 4) (.bool r.isNone):=⟨_,rfl⟩;rw[<-t];have s3:c.tmps.size=8:=by rw[t,Rc,s2]
 have g3:c.tmps.getD 0 undef=v:=by rw[t,Nv YP,g2]
 have z3:c.tmps.getD 4 undef=.bool r.isNone:=by rw[t,P6 Y]
 have d3:c.defers=[]:=by rw[t,s,G];exact b1
 show(Code.cond _ _ _).wpIn _ _ _ _ c w;refine nR (show c.eval (.tmp 4)=.bool r.isNone from z3) (λhn=>?_) λhn=>?_;·refine Dl (qU ?_);rw[e3];refine Hu (v:=.slice none 0 0) (w':=w) rfl rfl ?_;refine wpIn_ret ?_;have b6:=b8 (by simpa using hn);subst b6;refine x7 _ w (.slice none 0 0) [] [] ?_ d3 (by simpa using hg) (by simpa using ZG.refl w b.m hs.bs) ⟨rfl,rfl⟩ ⟨Zb,Zb,VD _,.inl ⟨rfl,rfl,none,rfl⟩⟩;show(c.put (some 2) _).tmps.getD 2 undef=_;rw[P6 Y]
 ·refine wpIn_skip ?_;refine Dl (qU ?_);rw[e4];obtain⟨T0,ad⟩:=fE (P:=Z.P) (w:=w) (a:=c) (ST:=L) (N:=i.n) (len:=0) (ag:=true) (hv:=λh=>by cases h) (ps:=ps) (css:=[]) (d:=some 5) (ty:=y5) (pos:=p5) (aft:=a5) (g:=none) x6 (by rw[x3];rfl) Zb (by rw[x3];exact .nil);refine Hu rfl ad ?_;obtain⟨l,T⟩:∃l,l=w.alloc (.cells ([]:List (List Value)).flatten.toArray T0):=⟨_,rfl⟩;rw[<-T];obtain⟨j,u⟩:∃j,j=c.put (some 5) (.slice (some ⟨w.heap.size,0,none⟩) 0 0):=⟨_,rfl⟩;rw[<-u];have s4:j.tmps.size=8:=by rw[u,Rc,s3]
  have g4:j.tmps.getD 0 undef=v:=by rw[u,Nv YP,g3]
  have z4:j.tmps.getD 5 undef=.slice (some ⟨w.heap.size,0,none⟩) 0 0:=by rw[u,P6 Y]
  refine Hu (v:=v) (w':=l) rfl (by show Result.ok (Next.value (j.eval (.tmp 0))) l=_;rw[show j.eval (.tmp 0)=v from g4]) ?_;obtain⟨q,z⟩:∃q,q=j.put (some 6) v:=⟨_,rfl⟩;rw[<-z];have s5:q.tmps.size=8:=by rw[z,Rc,s4]
  have z5:q.tmps.getD 5 undef=.slice (some ⟨w.heap.size,0,none⟩) 0 0:=by rw[z,Nv YP,z4]
  have z6:q.tmps.getD 6 undef=v:=by rw[z,P6 Y]
  obtain⟨z1,z0⟩:GD b.m hs l/\ZG w l b.m b.m hs.bs hs.bs:=by rw[T];exact⟨GD.right (hs:=[_]) (hg.newObj _),(ZG.alloc w b.m hs.bs _).sub λbx S=>by simp[S]⟩
  have bd:LS Z.P l i.n 0 (.slice (some ⟨w.heap.size,0,none⟩) 0 0) 0 [] []:=⟨Zb,Zb,VD _,.inl ⟨rfl,rfl,_,rfl⟩⟩;have zv:LM b l i p v:=by obtain⟨x1,x2,F,al,h⟩:=R.h;refine⟨x1,x2,F,al,h.imp id ?_⟩;rintro⟨C,K,f,D,bf,av⟩;refine⟨C,K,f,D,bf,λW e hu=>?_⟩;have:=av W e hu;rw[T];exact(nI w _ ⟨C,K+W,none⟩ (cf w ⟨C,K+W,none⟩ this)).trans this
  obtain⟨y0,yl,rx,x4,_,J,b3⟩:=zi (P:=Z.P) zv;have ea:y0=r/\yl=yf:=by rw[E]at x4;cases x4;exact⟨rfl,rfl⟩
  obtain⟨rfl,rfl⟩:=ea;obtain⟨A,k',zs,w',bi,b5,be,b4,b2⟩:=pw (P:=Z.P) (rt:=y7) (nx:=p.length) (h1:=[]) (h2:=hs) zz a9 (by simpa using z1) bd J.length (J.cell λ_ _ _ h=>RD h) b3 (by simpa using b7);have ek:k'=0:=b5.elim id id;subst ek;have ab:=AD (Z:=Z) (d:=some 7) (ty:=y7) (pos:=p7) (aft:=a7) (g:=none) yv yx yy z5 (z6.trans E) bi;refine Hu rfl ab ?_;obtain⟨k,H⟩:∃k,k=q.put (some 7) A:=⟨_,rfl⟩;rw[<-H];have s6:k.tmps.size=8:=by rw[H,Rc,s5]
  have zc:k.tmps.getD 7 undef=A:=by rw[H,P6 Y]
  have d6:k.defers=[]:=by rw[H,z,u];exact d3
  refine Hu (v:=A) (w':=w') rfl (by show Result.ok (Next.value (k.eval (.tmp 7))) w'=_;rw[show k.eval (.tmp 7)=A from zc]) ?_;refine wpIn_ret ?_;refine x7 _ w' A ([]++rx) zs ?_ d6 b4 ?_ J (by simpa using be);·show(k.put (some 2) _).tmps.getD 2 undef=_;rw[P6 Y]
  ·exact z0.trans (by simpa using b2)
def zg(f:FuncId)(A:Ty)(C:Ty)(m:A.den->Option C.den):FC:={f:=f,A:=A,B:=[],C:=.cons C .nl,D:=[],ρ:=C.den,m:=λa _=>m a,dec:=λb=>((b,()),())}
def GT:GP:=⟨λ_=>True,λ_ _=>trivial⟩
theorem ZeT{α}{R:ZM α}{K}{t}{g}(a:R.n=t.n)(h:∀cs x,R.rel K.m cs x->rel K t [] cs (g x)):∀{xs}{cs},YT R K.m cs xs->Row t.n (rel K t) [] cs (xs.map g)|[],cs,e=>⟨e,rfl⟩|x::xs,cs,⟨c,c',e,p,q⟩=>⟨c,c',[],[],e,rfl,by rw[R.len p,a],h c x p,ZeT a h q⟩
theorem ZlW{Z}{f}{A t}{α}{R:ZM α}{T}{g}{m:A.den->Option (List t.den)}{slots:A.den->List Xi}(S:Q7 Z.P f=true)(x2:A.plain=true)(L:∀K cs vs a,V7 A cs vs->rel K A [] cs a->Sq K.m (slots a) vs)(B:R.n=t.n)(hr:∀K cs x,R.rel K.m cs x->rel K t [] cs (g x))(h:∀a r,m a=some r->∃q,q.map g=r/\QU Z.P GT f (slots a) [] (λu=>ov u) λu=>[own T R u q]):UG Z (zg f A (.full t) m):=by
 refine⟨S,λa x r hm K M l o cs vs s z x7 hv D x9 x6=>?_⟩;have N:M=[]:=SD x2 D;subst N;obtain⟨q,e,P⟩:=h a r hm;refine(P K.m s vs [] ⟨z.mem,by simp[Hp.bs],Zb,Zb⟩ trivial (L K cs vs a hv D) rfl).mono ?_;rintro w E⟨v,c,x8,u,rfl,i,x0,⟨h1,h2,y,x1,rfl⟩,n⟩;refine⟨v,rfl,?_⟩;rw[Xp]at y;subst y;have I:u=v:=(List.cons.inj x0.1).1.symm;subst I;obtain⟨b,W,U,x3⟩:∃b,GD c b E/\ZG s E K.m c [] (HP.bs b)/\rel ⟨K.nm,K.fm,c⟩ (.full t) b [u] r:=by
  rcases x1 with⟨H,rfl,F,rfl⟩|⟨d,G,j,k,rfl,rfl,x4,Q,X⟩;·exact⟨[],⟨i.mem,by simp[HP.bs],Zb,Zb⟩,n,.inl ⟨by rw[<-e,H];rfl,rfl,F,rfl⟩⟩
  ·refine⟨[(d,0,cellsOf (j++k) T)],⟨i.mem,by simp[HP.bs],λx p=>?_,λx p x5 _=>?_⟩,n,.inr ⟨d,T,G,j,k,[],by rw[<-e];simp,rfl,?_,by rw[<-e];simpa using Q,by rw[X,B]⟩⟩;·rw[YZ p];exact i.YY (d,T,j++k) Zb
   ·rw[YZ p];exact i.free (d,T,j++k) Zb x5
   ·rw[<-e];exact ZeT (K:=⟨K.nm,K.fm,c⟩) B (λcs x h=>hr ⟨K.nm,K.fm,c⟩ cs x h) x4
 have V:GD K.m ([]++(l++o)) s:=by simpa using z
 obtain⟨J,f2⟩:=GD.frame V W U;have C:(b++(l++o)).Perm (b++[]++o++l):=by classical grind
 refine⟨⟨K.nm,K.fm,c⟩,b,[],⟨λ_ _ h=>h,λ_ _ _ h=>h,n.le⟩,rfl,⟨[u],[u],rfl,⟨[u],[],u,[],rfl,rfl,rfl,rfl,rfl,rfl⟩,⟨b,[],[u],[],Zb,Zb,x3,rfl,rfl⟩⟩,λ_=>⟨(J.perm C).left,(ZG.QI C Zm).sub λbb O=>?_,trivial,λ_ _ _ h=>(by cases h),λ_ _=>rfl⟩,λw=>by cases w⟩;rw[HP.XL];exact Yd (.inl O)
theorem ZjY{Z}{f}{A t}{m:A.den->Option (List t.den)}(x4:t.plain=true)(h:UG Z (zg f A (.full t) m)):UG Z (zg f A (.sl t) m):=by
 obtain⟨V,W⟩:=h;refine⟨V,λM x9 r hm l X hB g Q vs x8 hg x2 hv x5 x6 x1=>(W M x9 r hm l X hB g Q vs x8 hg x2 hv x5 x6 x1).mono ?_⟩;rintro n w'⟨v,rfl,o,hC,e,b⟩;refine⟨v,rfl,?_⟩;obtain⟨q,G,_,_,_⟩:=b.full rfl;obtain⟨xv,K,F,⟨xs,c',L,y3,y,z,B,C,rfl,rfl⟩,⟨y0,y1,d1,d2,E,D,hr,rfl,rfl⟩⟩:=b.res;rw[Xp]at y D E;subst y D E;rcases hr with⟨p,rfl,N,rfl⟩|⟨d,i,P,a,k,U,rfl,rfl,I,x0,y2⟩;·refine⟨o,[],[],b.le,b.nm,⟨_,K,F,⟨_,[],L,[],(Xp _).symm,z,B,C,rfl,rfl⟩,⟨[],[],_,[],rfl,(Xp _).symm,⟨rfl,N,0,by rw[show r=[]from p];rfl,by rw[show r=[]from p];exact YG _,.inl p⟩,rfl,rfl⟩⟩,λ_=>⟨q.perm (V8 _)|>.sub (r:=e) (by classical rw[VS];intro xk;simp only[VR,Ok];omega),G.sub λO j=>by simp only[HP.bs,Vg,TL,Xp,UW]at j⊢;exact .inr j,trivial,λ_ _ _ h=>(by cases h),(b.full rfl).2.2.2.2⟩,λn=>by cases n⟩
 ·have x3:U=[]:=Row.Lo (λ_ _ _ h=>SD x4 h) I;subst x3;have s:([(d,0,cellsOf (a++k) i)]++e++g).Perm ((d,0,cellsOf (a++k) i)::(e++g)):=Zb;obtain⟨c,x,q2,q3,J⟩:=ZcQ (k':=a.length) (show GD o.m ((d,0,cellsOf (a++k) i)::(e++g)) w' from q.perm s) (VD _);obtain⟨T,S⟩:=J.step (q.perm s);refine⟨⟨l.nm,c.fm,c.m⟩,[],[],⟨λ_ _ h=>h,λf x7 v h=>x.fm _ _ _ (b.le.fm f x7 v h),b.le.m.trans x.m⟩,rfl,⟨_,K,F,⟨_,[],L,[],(Xp _).symm,z,B,C,rfl,rfl⟩,⟨[],[],_,[],rfl,(Xp _).symm,⟨rfl,_,P,rfl,x0,.inr ⟨d,0,a,rfl,?_,?_⟩⟩,rfl,rfl⟩⟩,λ_=>⟨?_,?_,trivial,λ_ _ _ h=>(by cases h),λf hf=>by rw[show(⟨l.nm,c.fm,c.m⟩:KK).fm=o.fm from q2];exact(b.full rfl).2.2.2.2 f hf⟩,λn=>by cases n⟩
  ·refine Row.imp (λ_ _ _ h=>?_) I;have R:c=⟨l.nm,c.fm,c.m⟩:=by cases c;simp only[KK.mk.injEq,and_true];exact J.nm.trans b.nm
   rw[<-R];exact Xl x h
  ·intro w v u;have H:w<a.length:=by
    rcases Ru w a.length with h|h;·exact h
    ·rw[nu h]at u;cases u
   rw[TN];exact q3 w v H (by rw[Uy H];exact u)
  ·have:((d,a.length,cellsOf (a++k) i)::(e++g)).Perm ([]++[]++g++(d,a.length,cellsOf (a++k) i)::e):=by classical rw[VS];intro xk;simp only[VR,nn,Ok];omega
   exact T.sub this
  ·refine(G.trans (ZG.RB s S)).sub λO j=>?_;simp only[HP.bs,XF,Vg,Da,TL,Xp,UW]at j⊢;exact .inr (.inr j)
def Br(t:Ty)(R:ZM t.den):Prop:=R.n=t.n/\∀a b c,R.rel (KK.m a) b c->rel a t [] b c
theorem lv{t}{R}(h:Br t R){K}:∀{xs}{cs},YT R K.m cs xs->Row t.n (rel K t) [] cs xs|[],_,e=>⟨e,rfl⟩|_::_,_,⟨c,c',e,p,q⟩=>⟨c,c',[],[],e,rfl,by rw[R.len p,h.1],h.2 K c _ p,lv h q⟩
theorem IW:Br .int i64:=⟨rfl,λ_ _ _ a=>⟨rfl,a⟩⟩
theorem DN{k}{w}:Br (.un k w) (un k w):=⟨rfl,λ_ _ _ a=>⟨rfl,a⟩⟩
theorem ub{t}{R}(h:Br t R):Br (.sl t) (sl R):=⟨rfl,λm n o⟨a,c,d,g,f⟩=>⟨rfl,a,c,d,g,f.imp id λ⟨b,i,l,e,j,k⟩=>⟨b,i,l,e,lv h j,k⟩⟩⟩
theorem IX{a b}{R}{c}(h:Br a R)(k:Br b c):Br (.pair a b) (prod R c):=⟨by show R.n+c.n=a.n+b.n;rw[h.1,k.1],λd l m⟨e,f,g,i,j⟩=>⟨[],[],e,f,rfl,g,h.2 d e _ i,k.2 d _ _ j⟩⟩
theorem AI{n}{t}{R}(h:Br t R):Br (.vec n t) (vec n R):=⟨by show n*R.n=n*t.n;rw[h.1],λb c d a=>lv h a⟩
theorem AH{t}{R}(h:Br t R){K}{g}{x}:bg g R x K.m->∃ds,rel K t [] ds x/\At K.m g 0 ds:=λ⟨a,b,c⟩=>⟨a,h.2 K _ x b,c⟩
end Go.R
namespace Go.R
open Go.Sl
theorem xo{k}{w}{m}:∀{l}{cs},cs=l.map (λb=>.int k b.toNat)->YT (un k w) m cs l|[],_,h=>h|x::l,_,h=>⟨[.int k _],_,h,rfl,xo rfl⟩
theorem dc:∀{l}{g}{v},Rs l g=some v->(g,v)∈l|(a,b)::l,g,v,h=>by unfold Rs at h;cases e:Nat.beq a g with|true=>simp_all|false=>rw[e]at h;exact .tail _ (dc h)
theorem ZlE{l}(h:l.all (λp=>p.2.t.nh)=true):∀g a,Rs l g=some a->a.t.nh=true:=λg a b=>E7 h _ (dc b)
theorem Zj5{Z}{K}(h:∀p∈Z.gl,∃ds,rel K p.2.t [] ds p.2.x/\At K.m p.1 0 ds):O7 Z K:=λb c a=>h _ (dc a)
end Go.R
set_option maxRecDepth 100000
namespace Go.Sl
namespace M
abbrev NZ:Type:=Int×Int×Int
abbrev Zhp:Type:=Vector (BitVec 32) 8
abbrev vI:Type:=Vector (BitVec 8) 32
def Ae:Vector NZ 5:=#v[(0,0,0),(1,265,7),(2,133,6),(4,67,4),(8,34,0)]
def Ac:Zhp:=#v[1779033703#32,3144134277#32,1013904242#32,2773480762#32,1359893119#32,2600822924#32,528734635#32,1541459225#32]
def Ad:Vector (BitVec 32) 64:=#v[1116352408#32,1899447441#32,3049323471#32,3921009573#32,961987163#32,1508970993#32,2453635748#32,2870763221#32,3624381080#32,310598401#32,607225278#32,1426881987#32,1925078388#32,2162078206#32,2614888103#32,3248222580#32,3835390401#32,4022224774#32,264347078#32,604807628#32,770255983#32,1249150122#32,1555081692#32,1996064986#32,2554220882#32,2821834349#32,2952996808#32,3210313671#32,3336571891#32,3584528711#32,113926993#32,338241895#32,666307205#32,773529912#32,1294757372#32,1396182291#32,1695183700#32,1986661051#32,2177026350#32,2456956037#32,2730485921#32,2820302411#32,3259730800#32,3345764771#32,3516065817#32,3600352804#32,4094571909#32,275423344#32,430227734#32,506948616#32,659060556#32,883997877#32,958139571#32,1322822218#32,1537002063#32,1747873779#32,1955562222#32,2024104815#32,2227730452#32,2361852424#32,2428436474#32,2756734187#32,3204031479#32,3329325298#32]
def Af:Vector (BitVec 8) 32:=#v[0#8,1#8,28#8,2#8,29#8,14#8,24#8,3#8,30#8,22#8,20#8,15#8,25#8,17#8,4#8,8#8,31#8,27#8,13#8,23#8,21#8,19#8,16#8,7#8,26#8,12#8,18#8,6#8,11#8,5#8,10#8,9#8]
def Dw:Vector (BitVec 8) 64:=#v[0#8,1#8,56#8,2#8,57#8,49#8,28#8,3#8,61#8,58#8,42#8,50#8,38#8,29#8,17#8,4#8,62#8,47#8,59#8,36#8,45#8,43#8,51#8,22#8,53#8,39#8,33#8,30#8,24#8,18#8,12#8,5#8,63#8,55#8,48#8,27#8,60#8,41#8,37#8,16#8,46#8,35#8,44#8,21#8,52#8,32#8,23#8,11#8,54#8,26#8,40#8,15#8,34#8,20#8,31#8,10#8,25#8,14#8,19#8,9#8,13#8,8#8,7#8,6#8]
def Zr6(b:Int):Option (List (BitVec 8)):=if decide (b<(0:Int))=true then none else Option.bind (some (VY (b-VY ((0:Int)-(0:Int))))) λa=>if decide ((0:Int)<a)=true then(if 0<a/\a<=(4294967296:Int)then(if 0<=(0:Int)/\(0:Int)<=((List.replicate a.toNat 0#8).length:Int)then some ((List.replicate a.toNat 0#8).take (0:Int).toNat)else none)else none)else some ([]:List (BitVec 8))
def Zr4(c:List (List (BitVec 8)))(b:Int)(a:Int):Option (LR (Int×Int) Empty):=if decide (a<(c.length:Int))=true then Option.bind (QD c a) λd=>if decide (VY (b+(d.length:Int))<(0:Int))=true then none else some (.next (VY (b+(d.length:Int)),VY (a+(1:Int))))else some (.brk (b,a))
def Zr5(c:List (List (BitVec 8)))(a:Int)(b:List (BitVec 8)):Option (LR (Int×List (BitVec 8)) Empty):=if decide (a<(c.length:Int))=true then(Option.bind (QD c a) λd=>if b.length+d.length<=AP then some (.next (VY (a+(1:Int)),b++d))else none)else some (.brk (a,b))
def Ic(b:List (List (BitVec 8))):Option (List (BitVec 8)):=Option.bind (Ll (λ(a:Int×Int)=>Zr4 b a.1 a.2) FU ((0:Int),(0:Int))) λ(e:Int×Int)=>Option.bind (Zr6 e.1) λc=>Option.bind (Ll (λ(a:Int×List (BitVec 8))=>Zr5 b a.1 a.2) FU ((0:Int),c)) λ(d:Int×List (BitVec 8))=>some d.2
def Kq(a:NZ):Option Int:=if 0<=a.1then some (VY (JU (1:Int) a.1-(1:Int)))else none
def sC{b:Type}(c:NZ)(h:b->Int->Option b)(f:BitVec 8)(a:Int)(d:b):Option (LR (Int×b) Empty):=if decide ((0:Int)<=a)=true then(if 0<=a then Option.bind (Kq c) λe=>Option.bind (h d (JS (FP (f.toNat:Int) a) e)) λg=>some (.next (VY (a-c.1),g))else none)else some (.brk (a,d))
def sB{a:Type}(c:List (BitVec 8))(d:NZ)(i:a->Int->Option a)(b:Int)(f:a):Option (LR (Int×a) Empty):=if decide (b<(c.length:Int))=true then Option.bind (QD c b) λh=>Option.bind (Ll (λ(e:Int×a)=>sC d i h e.1 e.2) FU (VY ((8:Int)-d.1),f)) λ(g:Int×a)=>some (.next (VY (b+(1:Int)),g.2))else some (.brk (b,f))
def Cy{a:Type}(d:NZ)(c:List (BitVec 8))(g:a->Int->Option a)(e:a):Option a:=Option.bind (Ll (λ(b:Int×a)=>sB c d g b.1 b.2) FU ((0:Int),e)) λ(f:Int×a)=>some f.2
def jh{a:Type}(f:a->Int->Option a)(b:NZ)(c:vI)(d:a):Option a:=Option.bind (Cy b c.toList f d) λe=>some e
def sH(a:NZ)(c:Int)(d:Int):Option Int:=Option.bind (Kq a) λb=>some (VY (c+VY (b-d)))
def sG(a:NZ)(d:vI):Option (List (BitVec 8)):=Option.bind (jh (λ(e:Int)(c:Int)=>sH a e c) a d (0:Int)) λ(b:Int)=>if 0<=a.2.2then some [BitVec.ofInt 8 (FP (JU b a.2.2) (8:Int)),BitVec.ofInt 8 (JU b a.2.2)]else none
def jg{a:Type}(f:a->Int->Option a)(b:NZ)(c:List (BitVec 8))(d:a):Option a:=Option.bind (Cy b c f d) λe=>some e
def sE(b:NZ)(a:List Int)(d:Int):Option (List Int):=if decide ((a.length:Int)<b.2.1)=true then(if a.length+[d].length<=AP then some (a++[d])else none)else some a
def OO(a:NZ)(b:vI):Option (List Int):=if 0<=a.2.1/\a.2.1<=(4294967296:Int)then(Option.bind (sG a b) λc=>if 0<c.length/\b.toList.length+c.length<=AP then(Option.bind (jg (λ(e:List Int)(d:Int)=>sE a e d) a (b.toList++c) ([]:List Int)) λ(f:List Int)=>some f)else none)else none
end M
end Go.Sl
set_option maxRecDepth 100000
noncomputable section
namespace Go.R
open Go.Sl
abbrev Zt:Type:=List (BitVec 8)
abbrev ZI:Type:=Vector (BitVec 8) 32
abbrev Ts:Type:=Vector (BitVec 8) 16
abbrev Lc:Type:=Vector (BitVec 32) 8
abbrev AO:Type:=Int×Int
abbrev Ur:Type:=Int×ZI
abbrev uI:Type:=Int×Option Nat
abbrev lZ:Type:=Int×Zt
abbrev ZO:Type:=Zt×Bool
abbrev I4:Type:=Int×Vector (BitVec 8) 128
abbrev Nh:Type:=Int×AO
abbrev AR:Type:=Bool×BitVec 32×BitVec 32
abbrev uK:Type:=Zt×Zt
abbrev Rx:Type:=Int×Ur
abbrev Nj:Type:=List uI×Int
abbrev Kf:Type:=List ZI×List ZI
abbrev JI:Type:=Int×Int×List ZI
abbrev I3:Type:=Ur×ZI
abbrev aZ:Type:=Int×Rx
abbrev l6:Type:=Int×Zt×List ZI
abbrev AQ:Type:=BitVec 32×Int×lZ
abbrev Ni:Type:=Int×Int×ZI×ZI
abbrev Tf:Type:=Int×Int×uK
abbrev SL:Type:=Ni×Zt
abbrev VH:Type:=Int×Int×ZI×ZI×Zt
abbrev Q8:Type:=Option Nat×Int×Int×BitVec 32×Int×Bool
abbrev l7:Type:=Int×Int×Tf
abbrev Ld:Type:=Int×Int×Ts×ZI×List ZI
abbrev UB:Type:=Zt×VH
abbrev Ke:Type:=Int×Int×Int×Int×Zt×Zt×List Int
abbrev ZiZ:Type:=Zt×List VH
abbrev Yi:Type:=List (Vector (BitVec 8) 128)×List (Vector (BitVec 8) 128)×List I4×Int×Bool
abbrev Fm:Type:=Int×Int×Int×Int×Int×aZ
abbrev QA:Type:=Bool×ZI×ZI×Ur×ZI×ZI
abbrev UO:Type:=Zt×Int×List VH
abbrev SK:Type:=Bool×ZI×ZI×Ur×Rx
abbrev Vj:Type:=List SK
abbrev Tg:Type:=Option Nat×AR×Option Q8×Bool
abbrev uJ:Type:=Int×ZI×Int×ZI×List UB
abbrev Lb:Type:=List I3×Int×ZI×ZI×Ur×ZI×ZI
abbrev Fo:Type:=Zt×Int×Ni×List VH
abbrev Me:Type:=List UB×List (List VH)
abbrev JH:Type:=Bool×SL×List ZI×List UB
abbrev Nk:Type:=Int×Int×ZI×Option Ld×Option Ld×Int
abbrev Zaa:Type:=ZI×Lb×List VH
abbrev OC:Type:=Int×Fo×Int×List VH
abbrev WZ:Type:=ZI×Vj×List uJ×List ZiZ×List (Zt×Int)
abbrev YN:Type:=Int×Int×Int×Int×Int×Int×Int×Zt×Zt×SL×Kf×Kf×ZI×Lb×List VH×List QA×List UB×List ZI
abbrev WS:Type:=Option Nat×YN×Int×Int×Int×List (Zt×Option Nat)
abbrev XZ:Type:=Int×Zt×Int×Ni×Int×Int×Bool×YN
abbrev Y8:Type:=Tg×Nk×WZ×List Int×List Nh×List Tf×Int
abbrev Xj:Type:=Tg×Zt×Int×Int×WZ×SL×List YN×Int×Int×Int×Bool
abbrev l0:Type:=Int×Int×Int×YN×YN×Fo
abbrev Yn:Type:=Fm×Int×List Int×List (Option Nat)×Option Nat×List (Option Nat)×List (Option Nat)×Zt×Nj×List l0×List l7×List Int
abbrev Zs{α:Type}[h:DecidableEq α](p q:α):Bool:=Hb h p q
abbrev W0{α β:Type}[h:DecidableEq α](x:α)(l:List (α×β)):Option β:=Kw h x l
abbrev KC{α β:Type}[h:DecidableEq α](x:α)(y:β)(l:List (α×β)):List (α×β):=jQ h x y l
abbrev Ae:=Go.Sl.M.Ae
abbrev Ac:=Go.Sl.M.Ac
abbrev Ad:=Go.Sl.M.Ad
abbrev Af:=Go.Sl.M.Af
abbrev Dw:=Go.Sl.M.Dw
def Ic(l:List Zt):Option Zt:=if l.length<=1000/\l.flatten.length<=4294967296then some l.flatten else none
abbrev OO(f:Nh)(h:ZI):Option (List Int):=Go.Sl.M.OO f h
def Ga(l:List Int):Option (List Int):=if l.length<=4294967296then some (l.mergeSort λa b=>decide (a<=b))else none
def DX{α:Type}(l:List α)(i j:Int):Option (List α):=if 0<=i/\i<=j/\j<=l.length then some (l.take i.toNat++l.drop j.toNat)else none
abbrev fY(l:List uI)(i j:Int):Option (List uI):=DX l i j
abbrev Zfr(l:List YN)(i j:Int):Option (List YN):=DX l i j
def Cu:List (BitVec 8):=[0#8,1#8,2#8,2#8]++List.replicate 4 3#8++List.replicate 8 4#8++List.replicate 16 5#8++List.replicate 32 6#8++List.replicate 64 7#8++List.replicate 128 8#8
end Go.R
end
set_option maxRecDepth 100000
noncomputable section
namespace Go.R
open Go.Sl
def xl:Option Fm:=some (2,2,6,2,900,1,2,3,YA (Zn 32 0#8) 0 42#8)
def lM:Fm->Option Bool:=λa=>O (Zc (YH 1 a.1) (some (YH a.1 3)) (some false)) λc=>O (Zc c (some (YH 1 a.2.1)) (some false)) λd=>O (Zc d (some (YH a.2.1 3)) (some false)) λe=>O (Zc e (some (YH 0 a.2.2.1)) (some false)) λf=>O (Zc f (some (YH a.2.2.1 1000000)) (some false)) λg=>O (Zc g (some (YH 0 a.2.2.2.1)) (some false)) λh=>O (Zc h (some (YH a.2.2.2.1 1000000)) (some false)) λi=>O (Zc i (some (YH 4 a.2.2.2.2.1)) (some false)) λj=>O (Zc j (some (YH a.2.2.2.2.1 4096)) (some false)) λb=>some b
def kg:List Yi->Int->Option (List Yi×Option Nat×Int):=λb a=>O (Zc (Zz a 0) (some true) (some (Zz 4096 a))) λc=>Zc c (some (b,none,1)) (Pe a a (Pe a a (some (Z9 b [(SQ (Yf a) (Zn 128 0#8),SQ (Yf a) (Zn 128 0#8),[],-1,false)],some (Zf b),0))))
def Hm:BitVec 8->List Zt->Option Zt:=λe d=>O (YK (λ(c:AO)=>Zc (Zz c.2 (Ze (Zf d))) (O (ZA d c.2) λf=>some (.next (Zk (Zu c.1 (Zk (Zu 4 (Ze (Zf f))))),Zk (Zu c.2 1)))) (some (.brk c))) (1,0)) λg=>Pe 0 g.1 (Yp (Zf (SQ 0 0#8)) (Zf [e]) (O (YK (λ(b:Zt×Int)=>Zc (Zz b.2 (Ze (Zf d))) (O (ZA d b.2) λa=>XM (Ze (Z4 24#64)) (XM (Ze (Z4 16#64)) (XM (Ze (Z4 8#64)) (Yp (Zf b.1) (Zf [W6 8 (Vm (Z6 32 (Ze (Zf a))) (Yf (Ze (Z4 24#64)))),W6 8 (Vm (Z6 32 (Ze (Zf a))) (Yf (Ze (Z4 16#64)))),W6 8 (Vm (Z6 32 (Ze (Zf a))) (Yf (Ze (Z4 8#64)))),W6 8 (Z6 32 (Ze (Zf a)))]) (Yp (Zf (Z9 b.1 [W6 8 (Vm (Z6 32 (Ze (Zf a))) (Yf (Ze (Z4 24#64)))),W6 8 (Vm (Z6 32 (Ze (Zf a))) (Yf (Ze (Z4 16#64)))),W6 8 (Vm (Z6 32 (Ze (Zf a))) (Yf (Ze (Z4 8#64)))),W6 8 (Z6 32 (Ze (Zf a)))])) (Zf a) (some (.next (Z9 (Z9 b.1 [W6 8 (Vm (Z6 32 (Ze (Zf a))) (Yf (Ze (Z4 24#64)))),W6 8 (Vm (Z6 32 (Ze (Zf a))) (Yf (Ze (Z4 16#64)))),W6 8 (Vm (Z6 32 (Ze (Zf a))) (Yf (Ze (Z4 8#64)))),W6 8 (Z6 32 (Ze (Zf a)))]) a,Zk (Zu b.2 1))))))))) (some (.brk b))) (Z9 (SQ 0 0#8) [e],0)) λh=>some h.1))
def Np:BitVec 32->Int->Option (BitVec 32):=λb a=>XM (Ze (Z4 (SH (Z6 64 a) 31#64))) (XM (Ze (Z4 (Ie 32#64 (SH (Z6 64 a) 31#64)))) (some (P4 (EF b (Yf (Ze (Z4 (SH (Z6 64 a) 31#64))))) (Vm b (Yf (Ze (Z4 (Ie 32#64 (SH (Z6 64 a) 31#64)))))))))
def tO:Zt->Option (Vector (BitVec 32) 64):=λd=>O (SN d 0 64) λc=>O (YK (λ(b:Int×Vector (BitVec 32) 64)=>Zc (Zz b.1 (Ze (Zf c))) (O (ZA c b.1) λp=>S8 4 (S8 4 (ZZ (Zk (TX b.1 4)) 64 (O (YV b.2 (Zk (TX b.1 4))) λq=>XM (Ze (Z4 8#64)) (ZZ (Zk (TX b.1 4)) 64 (some (.next (Zk (Zu b.1 1),YA b.2 (Yf (Zk (TX b.1 4))) (P4 (EF q (Yf (Ze (Z4 8#64)))) (W6 32 p)))))))))) (some (.brk b))) (0,Zn 64 0#32)) λr=>O (YK (λ(a:Int×Vector (BitVec 32) 64)=>Zc (Zz a.1 64) (ZZ (Zk (ZU a.1 15)) 64 (O (YV a.2 (Zk (ZU a.1 15))) λs=>O (Np s (-7)) λt=>ZZ (Zk (ZU a.1 15)) 64 (O (YV a.2 (Zk (ZU a.1 15))) λe=>O (Np e (-18)) λf=>ZZ (Zk (ZU a.1 15)) 64 (O (YV a.2 (Zk (ZU a.1 15))) λg=>XM (Ze (Z4 3#64)) (ZZ (Zk (ZU a.1 2)) 64 (O (YV a.2 (Zk (ZU a.1 2))) λh=>O (Np h (-17)) λi=>ZZ (Zk (ZU a.1 2)) 64 (O (YV a.2 (Zk (ZU a.1 2))) λj=>O (Np j (-19)) λk=>ZZ (Zk (ZU a.1 2)) 64 (O (YV a.2 (Zk (ZU a.1 2))) λl=>XM (Ze (Z4 10#64)) (ZZ (Zk (ZU a.1 16)) 64 (O (YV a.2 (Zk (ZU a.1 16))) λm=>ZZ (Zk (ZU a.1 7)) 64 (O (YV a.2 (Zk (ZU a.1 7))) λn=>ZZ a.1 64 (some (.next (Zk (Zu a.1 1),YA a.2 (Yf a.1) (Wt (Wt (Wt m (U9 (U9 t f) (Vm g (Yf (Ze (Z4 3#64)))))) n) (U9 (U9 i k) (Vm l (Yf (Ze (Z4 10#64)))))))))))))))))))) (some (.brk a))) (16,r.2)) λo=>some o.2
def Cj:Lc->Zt->Option Lc:=λc p=>O (tO p) λA=>O (YK (λ(a:Int×Lc)=>Zc (Zz a.1 64) (ZZ 4 8 (O (YV a.2 4) λL=>O (Np L (-6)) λl=>ZZ 4 8 (O (YV a.2 4) λM=>O (Np M (-11)) λm=>ZZ 4 8 (O (YV a.2 4) λN=>O (Np N (-25)) λd=>ZZ 7 8 (O (YV a.2 7) λe=>ZZ 6 8 (O (YV a.2 6) λf=>ZZ 4 8 (O (YV a.2 4) λg=>ZZ 5 8 (O (YV a.2 5) λh=>ZZ 6 8 (O (YV a.2 6) λi=>O (YV Ad a.1) λj=>ZZ a.1 64 (O (YV A a.1) λk=>ZZ 0 8 (O (YV a.2 0) λn=>O (Np n (-2)) λo=>ZZ 0 8 (O (YV a.2 0) λq=>O (Np q (-13)) λr=>ZZ 0 8 (O (YV a.2 0) λs=>O (Np s (-22)) λt=>ZZ 0 8 (O (YV a.2 0) λu=>ZZ 1 8 (O (YV a.2 1) λv=>ZZ 2 8 (O (YV a.2 2) λw=>ZZ 0 8 (O (YV a.2 0) λx=>ZZ 1 8 (O (YV a.2 1) λy=>ZZ 0 8 (O (YV a.2 0) λz=>ZZ 1 8 (O (YV a.2 1) λB=>ZZ 2 8 (O (YV a.2 2) λC=>ZZ 3 8 (O (YV a.2 3) λD=>ZZ 4 8 (O (YV a.2 4) λE=>ZZ 5 8 (O (YV a.2 5) λF=>ZZ 6 8 (O (YV a.2 6) λG=>some (.next (Zk (Zu a.1 1),YA (YA (YA (YA (YA (YA (YA (YA (Zn 8 0#32) 0 (Wt (Wt (Wt (Wt (Wt e (U9 (U9 l m) d)) (U9 f (SH g (U9 h i)))) j) k) (Wt (U9 (U9 o r) t) (P4 (SH u v) (SH w (P4 x y)))))) 1 z) 2 B) 3 C) 4 (Wt D (Wt (Wt (Wt (Wt e (U9 (U9 l m) d)) (U9 f (SH g (U9 h i)))) j) k))) 5 E) 6 F) 7 G))))))))))))))))))))))))))) (some (.brk a))) (0,c)) λH=>O (YK (λ(b:Int×Lc)=>Zc (Zz b.1 8) (ZZ b.1 8 (O (YV b.2 b.1) λI=>ZZ b.1 8 (O (YV H.2 b.1) λJ=>ZZ b.1 8 (some (.next (Zk (Zu b.1 1),YA b.2 (Yf b.1) (Wt I J))))))) (some (.brk b))) (0,c)) λK=>some K.2
def Ml:Zt->Option ZI:=λf=>O (YK (λ(c:Zt×Lc)=>Zc (YH 64 (Ze (Zf c.1))) (O (Cj c.2 c.1) λm=>O (SN c.1 64 (Ze (Zf c.1))) λn=>some (.next (n,m))) (some (.brk c))) (f,Ac)) λd=>O (Zc (YH 56 (Ze (Zf d.1))) (some (128:Int)) (some (64:Int))) λe=>Wj 0 128 128 (ZZ (Ze (Zf d.1)) 128 (O (YK (λ(b:I4)=>Zc (Zz b.1 8) (XM (Ze (Z4 3#64)) (XM (Zk (Vq 8 b.1)) (ZZ (Zk (ZU (Zk (ZU e 1)) b.1)) 128 (some (.next (Zk (Zu b.1 1),YA b.2 (Yf (Zk (ZU (Zk (ZU e 1)) b.1))) (W6 8 (Vm (EF (Z6 64 (Ze (Zf f))) (Yf (Ze (Z4 3#64)))) (Yf (Zk (Vq 8 b.1))))))))))) (some (.brk b))) (0,YA (K8 (Zn 128 0#8) 0 (YC (NB 128 0) d.1)) (Yf (Ze (Zf d.1))) 128#8)) λg=>Wj 0 128 128 (O (Cj d.2 (Xc 0 (YC 128 (Xw g.2)))) λh=>O (Zc (Zs e 128) (Wj 64 128 128 (O (Cj h (Xc 64 (YC 128 (Xw g.2)))) λi=>some i)) (some h)) λj=>O (YK (λ(a:Ur)=>Zc (Zz a.1 32) (S8 4 (ZZ (Zk (TX a.1 4)) 8 (O (YV j (Zk (TX a.1 4))) λk=>S8 4 (XM (Zk (ZU 24 (Zk (Vq 8 (Pk a.1 4))))) (ZZ a.1 32 (some (.next (Zk (Zu a.1 1),YA a.2 (Yf a.1) (W6 8 (Vm k (Yf (Zk (ZU 24 (Zk (Vq 8 (Pk a.1 4)))))))))))))))) (some (.brk a))) (0,Zn 32 0#8)) λl=>some l.2)))
def Lh:BitVec 8->List Zt->Option ZI:=λa b=>O (Hm a b) λc=>O (Ml c) λd=>some d
def Ti:Int->Option (Nh×Bool):=λa=>O (Zc (Zz a 1) (some true) (some (Zz 4 a))) λb=>Zc b (some ((0,0,0),false)) (O (YV Ae a) λc=>some (c,true))
def ZbC:Int->Option Int:=λa=>O (Ti a) λb=>some b.1.2.1
def CA:Int->Int->Option Bool:=λa b=>O (Zc (YH 1 a) (some (YH a 4)) (some false)) λc=>O (Zc c (O (ZbC b) λd=>some (Zz 0 d)) (some false)) λe=>some e
def zP:Int->Option Int:=λb=>O (Ti b) λa=>Zc (Zy a.2) (some 0) (some (Zk (Zu 4 (Zk (Vq 32 (Zk (Zu 1 a.1.2.1)))))))
def zR:Int->Int->Option Int:=λa b=>O (CA a b) λc=>Zc (Zy c) (some 0) (O (zP b) λd=>some (Zk (Zu (Zk (Zu 8 d)) (Zk (Vq 32 a)))))
def zC:ZI->Zt->Option (Ts×ZI):=λa b=>Wj 0 32 32 (O (Zc (Zz 0 (Ze (Zf b))) (Yp (Zf [Xc 0 (YC 32 (Xw a))]) (Zf [b]) (some (Z9 [Xc 0 (YC 32 (Xw a))] [b]))) (some [Xc 0 (YC 32 (Xw a))])) λc=>O (Lh 105#8 c) λd=>Wj 0 16 32 (O (MD 16 (Xc 0 (YC 16 (Xw d)))) λe=>O (Lh 115#8 c) λf=>some (e,f)))
def Kr:Ts->BitVec 32->Int->List Zt->Option ZI:=λd a c e=>Pe 0 64 (Wj 0 16 16 (Yp (Zf (SQ 0 0#8)) (Zf (Xc 0 (YC 16 (Xw d)))) (XM (Ze (Z4 24#64)) (XM (Ze (Z4 16#64)) (XM (Ze (Z4 8#64)) (XM (Ze (Z4 8#64)) (Yp (Zf (Z9 (SQ 0 0#8) (Xc 0 (YC 16 (Xw d))))) (Zf [W6 8 (Vm a (Yf (Ze (Z4 24#64)))),W6 8 (Vm a (Yf (Ze (Z4 16#64)))),W6 8 (Vm a (Yf (Ze (Z4 8#64)))),W6 8 a,Z6 8 (Qh c (Ze (Z4 8#64))),Z6 8 c]) (O (YK (λ(b:Zt×Int)=>Zc (Zz b.2 (Ze (Zf e))) (O (ZA e b.2) λf=>Yp (Zf b.1) (Zf f) (some (.next (Z9 b.1 f,Zk (Zu b.2 1))))) (some (.brk b))) (Z9 (Z9 (SQ 0 0#8) (Xc 0 (YC 16 (Xw d)))) [W6 8 (Vm a (Yf (Ze (Z4 24#64)))),W6 8 (Vm a (Yf (Ze (Z4 16#64)))),W6 8 (Vm a (Yf (Ze (Z4 8#64)))),W6 8 a,Z6 8 (Qh c (Ze (Z4 8#64))),Z6 8 c],0)) λg=>O (Ml g.1) λh=>some h))))))))
def zQ:Ts->BitVec 32->Int->ZI->Option ZI:=λa b c d=>Wj 0 32 32 (O (Kr a b c [[255#8],Xc 0 (YC 32 (Xw d))]) λe=>some e)
def Kq:Nh->Option Int:=λa=>XM a.1 (some (Zk (ZU (Sm 1 a.1) 1)))
def Cw:Ts->BitVec 32->Int->ZI->Int->Int->Option ZI:=λb c d e f g=>O (YK (λ(a:Ur)=>Zc (Zz a.1 g) (Wj 0 32 32 (O (Kr b c d [[Z6 8 a.1],Xc 0 (YC 32 (Xw a.2))]) λh=>some (.next (Zk (Zu a.1 1),h)))) (some (.brk a))) (f,e)) λi=>some i.2
def Cx:Ts->BitVec 32->List ZI->Option ZI:=λd e b=>Pe 0 (Zk (Vq 32 (Ze (Zf b)))) (O (YK (λ(a:Zt×Int)=>Zc (Zz a.2 (Ze (Zf b))) (O (ZA b a.2) λc=>Wj 0 32 32 (Yp (Zf a.1) (Zf (Xc 0 (YC 32 (Xw c)))) (some (.next (Z9 a.1 (Xc 0 (YC 32 (Xw c))),Zk (Zu a.2 1)))))) (some (.brk a))) (SQ 0 0#8,0)) λf=>O (Kr d e 32896 [f.1]) λg=>some g)
def su:Int->Ts->BitVec 32->ZI->Option (ZI×Int):=λe c d h=>O (Ti e) λb=>Zc (Zy b.2) (some (Zn 32 0#8,1)) (Pe b.1.2.1 b.1.2.1 (O (YK (λ(a:Int×List ZI)=>Zc (Zz a.1 (Ze (Zf (SQ (Yf b.1.2.1) (Zn 32 0#8))))) (O (zQ c d a.1 h) λi=>O (Kq b.1) λj=>O (Cw c d a.1 i 0 j) λk=>ZZ a.1 (Ze (Zf a.2)) (some (.next (Zk (Zu a.1 1),Y3 a.2 (Yf a.1) k)))) (some (.brk a))) (0,SQ (Yf b.1.2.1) (Zn 32 0#8))) λf=>O (Cx c d f.2) λg=>some (g,0)))
def Tp:ZO->Zt->Option ZO:=λa b=>O (Zc (Zy a.2) (Yp (Zf a.1) (Zf b) (some (Z9 a.1 b,a.2))) (some a)) λc=>some c
def Jb:ZO->BitVec 64->Int->Option ZO:=λb c d=>Zc b.2 (some b) (O (YK (λ(a:Int×ZO)=>Zc (YH 0 a.1) (XM (Zk (Vq 8 a.1)) (Yp (Zf a.2.1) (Zf [W6 8 (Vm c (Yf (Zk (Vq 8 a.1))))]) (some (.next (Zk (ZU a.1 1),Z9 a.2.1 [W6 8 (Vm c (Yf (Zk (Vq 8 a.1))))],a.2.2))))) (some (.brk a))) (Zk (ZU d 1),b)) λe=>some e.2)
def SU:ZO->BitVec 32->Option ZO:=λa b=>O (Jb a (W6 64 b) 4) λc=>some c
def EZ:ZO->Int->Int->Option (ZO×Bool):=λa b d=>O (Zc (Zz b 0) (some true) (some (Zz d b))) λe=>O (Zc e (some (a.1,true)) (some a)) λc=>some (c,Zy c.2)
def we:ZO->Int->Option ZO:=λc b=>O (EZ c b 65535) λa=>O (Zc a.2 (O (Jb a.1 (Z6 64 b) 2) λd=>some d) (some a.1)) λe=>some e
def QR:ZO->Option (Zt×Int):=λa=>Zc a.2 (some ([],4)) (Yp 0 (Zf a.1) (some (a.1,0)))
def zW:Ts->Int->Int->List Zt->Option ZI:=λc h i b=>Wj 0 16 16 (O (Tp ([],false) (Xc 0 (YC 16 (Xw c)))) λj=>O (SU j (Z6 32 h)) λk=>O (we k i) λl=>O (YK (λ(a:Int×ZO)=>Zc (Zz a.1 (Ze (Zf b))) (O (ZA b a.1) λm=>O (Tp a.2 m) λd=>some (.next (Zk (Zu a.1 1),d))) (some (.brk a))) (0,l)) λe=>O (QR e.2) λf=>O (Ml f.1) λg=>some g)
def zV:Ts->Int->ZI->Option ZI:=λa b c=>Wj 0 32 32 (O (zW a b 33410 [Xc 0 (YC 32 (Xw c))]) λd=>some d)
def zU:Ts->Int->ZI->ZI->Option ZI:=λa b c d=>Wj 0 32 32 (Wj 0 32 32 (O (zW a b 33667 [Xc 0 (YC 32 (Xw c)),Xc 0 (YC 32 (Xw d))]) λe=>some e))
def FR:Int->Int->Ts->ZI->Option (Option Ld×Int):=λc e d g=>O (CA c e) λm=>Zc (Zy m) (some (none,1)) (XM c (Pe (Zk (Vq 2 (Sm 1 c))) (Zk (Vq 2 (Sm 1 c))) (XY (XO (λ(b:Int×Ld)=>Zc (Zz b.1 (Sm 1 c)) (O (su e d (Z6 32 b.1) g) λf=>Zc (Zy (Zs f.2 0)) (O (some ((none:Option Ld),f.2)) λn=>some (.ret n)) (O (zV d (Zk (Zu (Sm 1 c) b.1)) f.1) λo=>ZZ (Zk (Zu (Sm 1 c) b.1)) (Ze (Zf b.2.2.2.2.2)) (some (.next (Zk (Zu b.1 1),b.2.1,b.2.2.1,b.2.2.2.1,b.2.2.2.2.1,Y3 b.2.2.2.2.2 (Yf (Zk (Zu (Sm 1 c) b.1))) o))))) (some (.brk b))) (0,c,e,d,g,SQ (Yf (Zk (Vq 2 (Sm 1 c)))) (Zn 32 0#8))) λh=>O (YK (λ(a:Int×Ld)=>Zc (Zz 0 a.1) (ZZ (Zk (Vq 2 a.1)) (Ze (Zf a.2.2.2.2.2)) (O (ZA a.2.2.2.2.2 (Zk (Vq 2 a.1))) λi=>ZZ (Zk (Zu (Zk (Vq 2 a.1)) 1)) (Ze (Zf a.2.2.2.2.2)) (O (ZA a.2.2.2.2.2 (Zk (Zu (Zk (Vq 2 a.1)) 1))) λj=>O (zU d a.1 i j) λk=>ZZ a.1 (Ze (Zf a.2.2.2.2.2)) (some (.next (Zk (ZU a.1 1),a.2.1,a.2.2.1,a.2.2.2.1,a.2.2.2.2.1,Y3 a.2.2.2.2.2 (Yf a.1) k)))))) (some (.brk a))) (Zk (ZU (Sm 1 c) 1),h.2)) λl=>some (some l.2,0))))
def kR:Int->Int->Int->ZI->Option (Option Nk×Int):=λf c a d=>O (zR c a) λg=>Zc (Zs g 0) (some (none,1)) (O (zC d []) λe=>O (FR f a e.1 e.2) λb=>Zc (Zy (Zs b.2 0)) (some (none,b.2)) (some (some (c,a,d,b.1,none,-1),0)))
def I6:Yi->Option Int:=λa=>some (Ze (Zf a.1))
def AS:Yi->Option Bool:=λa=>some a.2.2.2.2
def AV:Yi->Int->Option Int:=λa b=>O (AS a) λc=>Zc c (some 6) (O (Zc (Zz b 0) (some true) (some (YH (Ze (Zf a.1)) b))) λd=>Zc d (some 4) (some 0))
def uP:Yi->Int->Option (Zt×Int):=λa b=>O (AV a b) λc=>Zc (Zy (Zs c 0)) (some ([],c)) (ZZ b (Ze (Zf a.2.1)) (Wj 0 128 128 (O (ZA a.2.1 b) λd=>Yp 0 (Zf (Xc 0 (YC 128 (Xw d)))) (some (Xc 0 (YC 128 (Xw d)),0)))))
def Pp:Zt->Option ZO:=λa=>Yp 0 (Zf a) (some (a,false))
def EW:ZO->Int->Option (BitVec 64×Bool):=λb c=>O (Zc b.2 (some true) (some (Zz (Ze (Zf b.1)) c))) λe=>Zc e (some (0#64,false)) (O (SN b.1 0 c) λd=>O (YK (λ(a:BitVec 64×Int)=>Zc (Zz a.2 (Ze (Zf d))) (O (ZA d a.2) λf=>XM (Ze (Z4 8#64)) (some (.next (P4 (EF a.1 (Yf (Ze (Z4 8#64)))) (W6 64 f),Zk (Zu a.2 1))))) (some (.brk a))) (0#64,0)) λg=>some (g.1,true))
def Bv:ZO->Int->Option (ZO×Zt):=λa b=>Zc a.2 (some (a,[])) (O (Zc (Zz b 0) (some true) (some (Zz (Ze (Zf a.1)) b))) λc=>Zc c (some ((a.1,true),[])) (XM b (Co b b (Ze (Zf a.1)) (O (SN a.1 b (Ze (Zf a.1))) λd=>some ((d,a.2),YC (Yf b) a.1)))))
end Go.R
end
