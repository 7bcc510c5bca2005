import Derived.WideKeyRuns
import Derived.Test.YtnboodbndkcnaaaGreatDoorG2
set_option linter.all false
namespace Go.Sl
def PB:=@decide_eq_true
def Ok:=@List.eq_nil_of_length_eq_zero
def O6:=@List.count_nil
def Ev:=@Bool.or_eq_true
def CR:=@Bool.not_eq_true'
def yq:=λ{a b c}=>(@List.any_eq_true a b c).2
def sq:=@List.getElem?_set
def sy:=λ{a b}=>(@List.isEmpty_iff a b).1
def sH:=@Nat.beq_refl
def sJ:=@Nat.le_of_not_lt
def sT:=@eq_of_heq
def jd:=λ{a b c}=>(@List.any_eq_true a b c).1
def jh:=λ{a b}=>(@List.length_eq_zero_iff a b).1
def jk:=@Go.MapKept.run_getObj_map
def Zbo:=@Go.MapKept.run_checkKey
def Zbr:=@Option.none_or
end Go.Sl
namespace Go.R
open Go.Sl
variable {J:XF}{A D:Nat}{N:Type}{C o:Bx}{c:L Oper}{z g:XS}{y:Zg (Nat×Bool)}{F:N}{H:Ww->Zg N}{I:Array Edge}{B:Act}{K:World}{Q:Zg Tmp}{R:String}{E:HM}{G:En}{e:TypeId}{S:Ty}{j p:Operand}{x:Bool}{f:Zg Nat}{k s:HP}{i:L (Nat×Oper)}{a:Nat->Prop}{r:L Value}{d:SV}{P:Program}{T:Oper}{U:L HI}{l:CS}{X:Ww}
def qa{a}{y:N}(h:a.toList=[F,y]):a=#[F,y]:=by cases a;grind
def ZiG{w'}{c}{a}{v}(b:c.callee=.builtin a)(h:(builtin a c.argTypes e (c.args.map λ|.const _=>true|_=>false) (c.args.map B.eval)).run P K=.ok (.value v) w'):(execOp B.eval ⟨Q,.call c,e,R,I,y⟩).run P K=.ok (.value v) w':=by simp[execOp,resolve,b,YF,Xz,Y3,invoke];exact h
def pM{o}(h:Yt A D o=some F):A+D<=4294967296/\o=some F:=by have⟨a,h⟩:=P3 h;exact⟨a,h⟩
def ZrA{P}{K}{w}{v}{l:L S.den}(h:rel K (.full S) k [v] l):∃row h1 h',k=h1++h'/\Row S.n (rel K S) h' row l/\KZ P w S.n l.length v 0 row h1:=by
 obtain⟨rfl,rfl,c,b⟩|⟨e,d,f,row,j,h',b,rfl,a,g,i⟩:=h;·cases b;exact⟨[],[],[],rfl,⟨rfl,rfl⟩,⟨Zc,Zc,W7 _,.inl ⟨rfl,rfl,c,rfl⟩⟩⟩
 ·exact⟨row,[_],h',rfl,a,⟨a.length,a.cell λ_ _ _ h=>Qn h,Zc,Zp⟩⟩
def fG{K}{w}{v}{l}{row}(h:KZ P w S.n l.length v 0 row k)(a:Row S.n (rel K S) s row l):rel K (.full S) (k++s) [v] l:=by
 obtain⟨f,rfl,c,rfl⟩|⟨d,b,e,j,rfl,rfl,g,i⟩:=h.h;·have:=jh f;subst this;obtain⟨_,rfl⟩:=a;exact .inl ⟨rfl,rfl,c,rfl⟩
 ·exact .inr ⟨d,b,e,row,j,s,rfl,rfl,a,g,i⟩
def ZrC{P}{K}{w}{v}{l:L S.den}(h:rel K (.YU S) k [v] l):∃row,Row S.n (rel K S) [] row l/\KZ P w S.n l.length v row.length row k:=by
 obtain⟨rfl,rfl,j,a⟩|⟨d,c,e,row,i,a,rfl,b,m,f,g⟩:=h;·cases a;exact⟨[],⟨rfl,rfl⟩,⟨Zc,Zc,Zc,Zc⟩⟩
 ·cases a;exact⟨row,b,⟨b.length,b.cell λ_ _ _ h=>Qn h,Zc,.inr ⟨d,c,e,i,rfl,rfl,f,g⟩⟩⟩
def xp{Z:XF}{d:Zg Tmp}{ty ST:TypeId}{pos:String}{aft:Array Edge}{g:Zg (Nat×Bool)}{w'}{c}{b}{a}{f}(k:c.callee=.builtin .append)(i:c.args.toList=[j,p])(l:c.argTypes.toList=[ST,e])(hx:B.eval j=f)(m:B.eval p=.slice a A D)(h:(Builtin.append_ #[ST,e] ty #[f,.slice a A D]).run Z.P K=.ok b w'):(execOp B.eval ⟨d,.call c,ty,pos,aft,g⟩).run Z.P K=.ok (.value b) w':=by refine ZiG k ?_;rw[qa i,qa l];simp only[builtin,C4,Wb,NR,hx,m,YF,h,Y3];rfl
def Zmv{ST XT:TypeId}{c}(z:c.callee=.builtin .append)(x:c.args.toList=[j,p])(ht:c.argTypes.toList=[ST,XT])(h:iE J C A H ST XT (Z9 G j) (Z9 G p)=some F):Vg J ⟨Q,.call c,e,R,I,y⟩ G C A H F:=by
 have mx:j∈(Op.call c).operands.toList:=by simp[Op.operands,Call.operands,x,z]
 have my:p∈(Op.call c).operands.toList:=by simp[Op.operands,Call.operands,x,z]
 unfold iE at h;obtain⟨hX,n⟩:=Yq h;clear h;obtain⟨ys,xh⟩:=ZeW hX;split at n
 ·rename_i yy u0 hx;split at n
  ·rename_i K E xi;obtain⟨hT,W⟩:=Yq n;obtain⟨y0,x1⟩:=lD hT;obtain⟨m,rd,V,x6,X⟩:=Dq W;obtain⟨x2,U⟩:=pM V;refine⟨_,U,⟨LW _,λy7 a=>by rw[YV a];exact xi,x6,Zc⟩,vN λf M g b x8 w a=>?_⟩;obtain⟨h1,h2,xv,hb,_⟩:=a.sr;have o:=a.op j mx;rw[hx]at o;obtain⟨y2,⟨_,v,xs,rfl,_⟩,T⟩:=o;obtain⟨row,g1,r,rfl,xx,x5⟩:=ZrA (P:=J.P) (w:=w) (OC hb xs rfl);obtain⟨a0,y1,d,u,_,k,x4⟩:=wl (P:=J.P) (X f M (g++b) w _ a.gd a.rd (a.op p my));have hP:(g1++r++b).Perm (g1++(r++b)):=by rw[Yc]
   have Z:(g++b).Perm (g1++(r++h2++b)):=by refine(xv.append_right b).trans ?_;simp[Yc]
   obtain⟨v',k',l,q,D,xb,B,s,x3⟩:=lg (P:=J.P) (rt:=e) (nx:=m.length) x1 xh (a.gd.perm Z) x5 k.length (k.cell λ_ _ _ h=>Qn h) x4 x2;have ek:k'=0:=xb.elim id id;subst ek;have y5:Row K.n (rel f K) r (row++d) (Ye E m):=by have:=Row.append xx k;rwa[XX]at this
   have x9:x8.eval j=v:=T;have t:(Ye E m).length=E.length+m.length:=YM;refine⟨v',q,f,l++r,[],xp z x ht x9 u D,fG (by rw[t];exact B) y5,KK.le.refl _,rfl,?_,?_,trivial,λ_ _ _ h=>(by cases h),λ_ _=>rfl⟩
   ·have x0:(l++(r++h2++b)).Perm (l++r++[]++b++h2):=by classical rw[VX];intro yf;simp only[VU,O6];omega
    exact(s.perm x0).left
   ·have xa:=ZW.Qm Z x3;refine xa.sub λb' i=>?_;simp only[HP.bs,WW,Sr,XX]at i⊢;obtain(h|h)|h:=i;·exact .inl h
    ·exact .inr (.inl (.inl h))
    ·exact .inr (.inr h)
  ·rename_i K E xi;obtain⟨hT,W⟩:=Yq n;obtain⟨y0,x1⟩:=lD hT;obtain⟨m,rd,V,x6,X⟩:=Dq W;obtain⟨x2,U⟩:=pM V;refine⟨_,U,⟨LW _,λy7 a=>by rw[YV a];exact xi,x6,Zc⟩,vN λf M g b x8 w a=>?_⟩;obtain⟨h1,h2,xv,hb,_⟩:=a.sr;have o:=a.op j mx;rw[hx]at o;obtain⟨y2,⟨_,v,xs,rfl,_⟩,T⟩:=o;obtain⟨row,xx,x5⟩:=ZrC (P:=J.P) (w:=w) (OC hb xs rfl);obtain⟨a0,y1,d,u,_,k,x4⟩:=wl (P:=J.P) (X f M (g++b) w _ a.gd a.rd (a.op p my));have Z:(g++b).Perm (h1++(h2++b)):=by refine(xv.append_right b).trans ?_;simp[Yc]
   obtain⟨v',k',l,q,D,xb,B,s,x3⟩:=lg (P:=J.P) (rt:=e) (nx:=m.length) x1 xh (a.gd.perm Z) x5 k.length (k.cell λ_ _ _ h=>Qn h) x4 x2;have x9:x8.eval j=v:=T;have t:(Ye E m).length=E.length+m.length:=YM;have xa:=ZW.Qm Z x3;obtain⟨h0,rfl,ad,rfl⟩|⟨S,O,y3,x7,rfl,rfl,y4,hz⟩:=B.h;·refine⟨.slice ad 0 0,q,f,[],[],xp z x ht x9 u D,.inl ⟨jh (by rw[t];exact h0),rfl,ad,rfl⟩,KK.le.refl _,rfl,GD.right (hs:=h2) (by simpa using s),?_,trivial,λ_ _ _ h=>(by cases h),λ_ _=>rfl⟩;·refine xa.sub λb' i=>?_;simp only[HP.bs,WW,Sr,UG]at i⊢;exact .inr i
   ·obtain⟨K2,q1,q2,q3,qG⟩:=ZgC (k':=(row++d).length) (show GD f.m ((S,k',cellsOf (row++d++x7) O)::(h2++b)) q from s) B.le;obtain⟨g6,g7⟩:=qG.step s;refine⟨_,q,K2,[(S,(row++d).length,cellsOf (row++d++x7) O)],[],xp z x ht x9 u D,.inr ⟨S,O,y3,row++d,x7,by rw[t],rfl,Row.imp (λ_ _ _ h=>Xw q1 h) (Row.append (h1:=[]) (h2:=[]) xx k),λy6 y8 hu=>?_,by rw[t];exact y4,hz⟩,q1,qG.nm,?_,?_,trivial,λ_ _ _ h=>(by cases h),λyt _=>by rw[q2]⟩;·rw[Qc];have hi:=(X8 hu).1;exact q3 y6 y8 hi (by rw[VE hi];exact hu)
    ·have x0:((S,(row++d).length,cellsOf (row++d++x7) O)::(h2++b)).Perm ([(S,(row++d).length,cellsOf (row++d++x7) O)]++[]++b++h2):=by simp only[XX,C6,Oj];exact NP _ Wr
     exact(g6.perm x0).left
    ·refine(xa.trans g7).sub λb' i=>?_;simp only[HP.bs,WW,Wb,Sr,C5,XX,NR]at i⊢;obtain(h|h)|h:=i;·exact .inl h
     ·cases h
     ·exact .inr (.inr h)
  ·cases n
 ·rename_i u0 hx;split at n
  ·rename_i K yv;obtain⟨hT,W⟩:=Yq n;obtain⟨y0,x1⟩:=lD hT;obtain⟨m,rd,V,x6,X⟩:=Dq W;obtain⟨x2,U⟩:=pM V;refine⟨_,U,⟨LW _,Zc,x6,Zc⟩,vN λf M g b x8 w a=>?_⟩;have o:=a.op j mx;rw[hx]at o;obtain⟨y2,⟨_,rfl⟩,T⟩:=o;have x5:KZ J.P w K.n 0 (.slice none 0 0) 0 [] []:=⟨Zc,Zc,W7 _,.inl ⟨rfl,rfl,none,rfl⟩⟩;obtain⟨a0,y1,d,u,_,k,x4⟩:=wl (P:=J.P) (X f M (g++b) w _ a.gd a.rd (a.op p my));obtain⟨v',k',l,q,D,xb,B,s,x3⟩:=lg (P:=J.P) (rt:=e) (nx:=m.length) (h1:=[]) (h2:=g++b) x1 xh (by simpa using a.gd) x5 k.length (k.cell λ_ _ _ h=>Qn h) x4 (by simpa using x2);have ek:k'=0:=xb.elim id id;subst ek;have t:(Ye ([]:L K.den) m).length=0+m.length:=by show([]++m).length=_;simp
   refine⟨v',q,f,l++[],[],xp z x ht T u D,fG (row:=[]++d) (by rw[t];exact B) k,KK.le.refl _,rfl,?_,?_,trivial,λ_ _ _ h=>(by cases h),λ_ _=>rfl⟩
   ·have x0:(l++(g++b)).Perm (l++[]++[]++b++g):=by classical rw[VX];intro yf;simp only[VU,O6];omega
    exact(s.perm x0).left
   ·refine(show ZW w q f.m f.m (HP.bs (g++b)) (HP.bs (l++(g++b)))by simpa using x3).sub λb' i=>?_;simp only[HP.bs,WW,Sr,XX]at i⊢;obtain h|h:=i;·exact .inl h
    ·exact .inr (.inr h)
  ·cases n
 ·cases n
def ZiK{P}{K}{w}{l}{i}{XT rt off nd cap:Nat}(n:Go.Sl.US P A S.n=true)(m:KV K w S l i)(p:w.heap[D]?=some (.cells r.toArray e (0,0)))(B:off+nd*S.n<=r.length):∃row,Row S.n (rel K S) [] row (l.take nd)/\(Builtin.copy_ #[A,XT] rt #[.slice (some ⟨D,off,none⟩) nd cap,i]).run P w=.ok (goInt (min l.length nd:Nat)) (Go.Sl.Vv w D e (r.take off++row++r.drop (off+row.length))):=by
 obtain⟨k,v,u⟩:=FZ n;obtain⟨d,j,rfl,y,t⟩:=m.h;have s:Nat.min l.length nd=min l.length nd:=rfl;obtain⟨row,c,q⟩:∃row,Row S.n (rel K S) [] row (l.take nd)/\(Builtin.firstCells S.n (min l.length nd) (.slice d l.length j)).run P w=.ok row.toArray w:=by
  obtain rfl|⟨b,o,row,rfl,f,x⟩:=t;·refine⟨[],by simp[Row],?_⟩;cases d<;>simp[Builtin.firstCells,loadCells,loadCellsFrom]
  ·refine⟨row.take (nd*S.n),f.take nd,?_⟩;have:=yI (P:=P) w ⟨b,o,none⟩ (row.take (nd*S.n)) λC E k=>by rw[RH];grind
   have a:(row.take (nd*S.n)).length=min l.length nd*S.n:=by rw[(f.take nd).length,UF,Nat.min_comm]
   rwa[a]at this
 refine⟨row,c,?_⟩;have a:row.length=min l.length nd*S.n:=by rw[c.length,UF,Nat.min_comm]
 have z:row.length<=nd*S.n:=by rw[a];exact Q0 _ (Nat.min_le_right _ _)
 have g:=zC (P:=P) (b:=D) (o:=off) (T:=e) row 0 r w (c.cell λ_ _ _ h=>Qn h) p Y;simp only[Ey]at g;simp only[Builtin.copy_,KP,KN,sk];simp only[YF,W8 v,Y3,Builtin.lenOf,Xz,NJ u w,s,q,g]
def ZwV{K}{w}{l}{c}{XT rt:Nat}{b}(f:Go.Sl.US P A D=true)(e:KV K w S l c):(Builtin.copy_ #[A,XT] rt #[.slice b 0 0,c]).run P w=.ok (goInt 0) w:=by
 have⟨j,i,h⟩:=FZ f;obtain⟨a,d,rfl,k,m⟩:=e.h;have g:(Builtin.firstCells D 0 (.slice a l.length d)).run P w=.ok #[] w:=by cases a<;>simp[Builtin.firstCells,loadCells,loadCellsFrom]
 simp[Builtin.copy_,KP,KN,sk];simp[YF,W8 i,Y3,Builtin.lenOf,Xz,NJ h w,Nat.min_zero _,g];cases b<;>simp[storeCells]
def gB{ST XT:TypeId}{w'}{c}{a}{b d}(g:c.callee=.builtin .copy)(f:c.args.toList=[j,p])(i:c.argTypes.toList=[ST,XT])(hx:B.eval j=b)(k:B.eval p=d)(h:(Builtin.copy_ #[ST,XT] e #[b,d]).run J.P K=.ok a w'):(execOp B.eval ⟨Q,.call c,e,R,I,y⟩).run J.P K=.ok (.value a) w':=by refine ZiG g ?_;rw[qa f,qa i];simp only[builtin,C4,Wb,NR,hx,k,YF,h,Y3];rfl
def ZnA{ST XT:TypeId}{c}{u0:Unit}{xs:L S.den}(q:c.callee=.builtin .copy)(n:c.args.toList=[j,p])(ht:c.argTypes.toList=[ST,XT])(hx:Z9 G j=.v ⟨.hole D,u0⟩)(x4:ZJ C D=some ⟨.full S,xs⟩)(x8:S.plain=true)(M:Go.Sl.US J.P ST S.n=true)(h:M8 C S (Z9 G p) (λl F=>H ⟨.v ⟨.int,Zi (oG (Zj l) (Zj xs))⟩,F,[(D,⟨.full S,xs⟩)],[(D,⟨.full S,Ye (YK (Zj xs) l) (Xo (Zj l) xs)⟩)],A⟩)=some F):Vg J ⟨Q,.call c,e,R,I,y⟩ G C A H F:=by
 obtain⟨l,rd,h7,x9,hE⟩:=Dq h;refine⟨_,h7,⟨YA _,λxx d=>by rw[YV d];exact x4,x9,Zc⟩,λg x1 r k x2 x0 d=>?_⟩;obtain⟨h1,h2,x7,hb,_⟩:=d.sr;have V:=d.op j (by simp[Op.operands,Call.operands,n,q]);rw[hx]at V;obtain⟨xi,⟨_,v,u,rfl,_⟩,ev⟩:=V;have B:x2.eval j=v:=ev;have E:=hE g x1 (r++k) x0 _ d.gd d.rd (d.op p (by simp[Op.operands,Call.operands,n,q]));have T:∀z:KK,Yx z [(D,(⟨.full S,Ye (YK (Zj xs) l) (Xo (Zj l) xs)⟩:TV))]:=λz xv t' l' hm=>by have:=YV hm;cases this
 obtain⟨rfl,rfl,a1,s⟩|⟨i,m,cap,b,f,h',s,rfl,w,hl,hz⟩:=OC hb u rfl
 ·cases s;have e1:Ye (YK (Zj ([]:L S.den)) l) (Xo (Zj l) ([]:L S.den))=[]:=by show List.take 0 l++List.drop l.length []=[];simp
  rw[gB q n ht B rfl (ZwV (XT:=XT) (rt:=e) M E)];have e2:Zi (oG (Zj l) (Zj ([]:L S.den)))=(0:Int):=by show((min l.length 0:Nat):Int)=0;simp
  refine⟨g,[],GD.right (hs:=r) (by simpa using d.gd),(ZW.refl x0 g.m _).sub λb' o=>by rw[HP.Wo];exact Ym (.inr (by simpa using o)),Mv.refl _ _ _,⟨[_],⟨rfl,rfl⟩,by rw[e2];rfl⟩,⟨[],[],Zc,⟨[_],by rw[e1];exact .inl ⟨rfl,rfl,a1,rfl⟩,λxh x=>by rw[YV x];exact u⟩,trivial⟩,T g,Vf.refl _ _⟩
 ·cases s;have e0:h'=[]:=Row.Kn (λ_ _ _ h=>SZ x8 h) w;subst e0;have K:(r++k).Perm ((i,0,cellsOf (b++f) m)::(h2++k)):=by refine(x7.append_right k).trans ?_;simp
  have t:=d.gd.perm K;have W:b.length=xs.length*S.n:=w.length;obtain⟨a,X,xb⟩:=ZiK (P:=J.P) (XT:=XT) (rt:=e) (off:=0) (nd:=xs.length) (cap:=cap) M E (t.Xb (i,0,cellsOf (b++f) m) Zc) (by rw[YM,W];omega);rw[gB q n ht B rfl xb];have Z:a.length=min l.length xs.length*S.n:=by rw[X.length,UF,Nat.min_comm]
  have x6:a.length<=b.length:=by rw[Z,W];exact Q0 _ (Nat.min_le_right _ _)
  have x3:(b++f).take 0++a++(b++f).drop (0+a.length)=a++b.drop a.length++f:=by rw[Qc,KJ x6];simp
  rw[x3];have x5:xs.drop l.length=xs.drop (min l.length xs.length):=by
   obtain h|h:=jm l.length xs.length;·rw[PA h]
   ·rw[jp h,QZ h,QZ (YA _)]
  have xa:Row S.n (rel g S) [] (a++b.drop a.length) (Ye (YK (Zj xs) l) (Xo (Zj l) xs)):=by refine Row.append (h1:=[]) (h2:=[]) X ?_;have:=Row.drop (min l.length xs.length) w;rwa[<-Z,<-x5]at this
  have U:(Ye (YK (Zj xs) l) (Xo (Zj l) xs)).length=xs.length:=by show(List.take xs.length l++List.drop l.length xs).length=_;rw[YM,UF,VF];omega
  refine⟨g,[(i,0,cellsOf (a++b.drop a.length++f) m)],?_,?_,Mv.refl _ _ _,⟨[_],⟨rfl,rfl⟩,rfl⟩,⟨_,[],Zc,⟨[_],.inr ⟨i,m,cap,a++b.drop a.length,f,[],by rw[U],rfl,xa,by rw[U];exact hl,?_⟩,λxh x=>by rw[YV x];exact u⟩,trivial⟩,T g,Vf.refl _ _⟩;·refine((GD.Vv (a++b.drop a.length++f) t t.pl).perm (?_:List.Perm _ ([(i,0,cellsOf (a++b.drop a.length++f) m)]++k++h2))).left;simp only[C6,Oj];exact NP _ Wr
  ·have O:i∈HP.bs (r++k):=((K.map (·.1)).mem_iff).2 Zc;refine(ZW.Kw O).sub λb' o=>?_;simp only[HP.bs,WW,Wb,Sr,C5,NR]at o⊢;obtain(h|h)|h:=o;·subst h;simpa[HP.bs]using O
   ·cases h
   ·exact .inr h
  ·rw[<-hz];simp only[YM,VF];omega
def ZxE(cs row:L N){off a M}(h1:a+row.length<=M)(h2:off+M<=cs.length):cs.take off++(((cs.drop off).take M).take a++row++((cs.drop off).take M).drop (a+row.length))++cs.drop (off+M)=cs.take (off+a)++row++cs.drop (off+a+row.length):=by
 rw[Is,PA Y,KM,TD];have c:cs.take _=cs.take off++(cs.drop off).take a:=yC ..;have d:cs.drop (off+a+row.length)=(cs.drop (off+(a+row.length))).take (M-(a+row.length))++cs.drop (off+M):=by
  have b:cs.drop (off+M)=(cs.drop (off+(a+row.length))).drop (M-(a+row.length)):=by rw[TD];grind
  rw[b,TM,sG]
 grind
def Znz{ST XT:TypeId}{c}(z:c.callee=.builtin .copy)(x:c.args.toList=[j,p])(ht:c.argTypes.toList=[ST,XT])(h:gA J C A H ST (Z9 G j) (Z9 G p)=some F):Vg J ⟨Q,.call c,e,R,I,y⟩ G C A H F:=by
 unfold gA at h;split at h
 ·rename_i y8 f sz i b g V;split at h
  ·rename_i v xa;obtain⟨L,xx⟩:=BR xa;obtain⟨z1,xb,w⟩:=px h;clear h;split at w
   ·rename_i m' t s;obtain⟨r,E⟩:=Yq w;clear w;simp only[YL]at r;obtain⟨⟨e1,e2⟩,y2,hT⟩:=r;cases Wc e1;cases Wc e2;obtain⟨o,rd,h7,y3,hE⟩:=Dq E;obtain⟨cc,U,h6⟩:=lz h7;refine⟨_,h6,⟨YA _,λf l=>by rw[YV l];exact L,y3,Zc⟩,λq x5 T m a yf l=>?_⟩;obtain⟨h1,h2,y1,hb,_⟩:=l.sr;have x0:=l.op j (by simp[Op.operands,Call.operands,x,z]);rw[V]at x0;obtain⟨bl,cap,y4,hv,ys,h0,yv,yt⟩:=x0;obtain⟨r0,u,B,d,hu,hq,f1,f2,f3,f4,x1,y0⟩:=iP xx hb xb ⟨_,_,U⟩;obtain⟨r2,X,g2⟩:=y4.zA;rw[f1]at X;cases X;have x6:=f2.uniq g2;subst x6;have e0:hu=[]:=SZ (t:=.vec i t) y2 x1;subst e0;have K:(T++m).Perm ((u,0,cellsOf d B)::(hq++(h2++m))):=by refine(y1.append_right m).trans ?_;have:=(f3.append_right h2).append_right m;simpa[Yc]using this
    have O:=l.gd.perm K;have x8:Yd f+i*t.n<=d.length:=f4;have yy:b.toNat*t.n+(g-b).toNat*t.n<=i*t.n:=by rw[<-SE];exact Q0 _ Y
    obtain⟨k,x3,y5⟩:=ZiK (P:=J.P) (XT:=XT) (rt:=e) (off:=Yd f+b.toNat*t.n) (nd:=(g-b).toNat) (cap:=cap) hT (hE q x5 (T++m) yf _ l.gd l.rd (l.op p (by simp[Op.operands,Call.operands,x,z]))) (O.Xb (u,0,cellsOf d B) Zc) Y;rw[gB z x ht hv rfl y5];have x2:k.length=(o.take (g-b).toNat).length*t.n:=x3.length;have y6:(o.take (g-b).toNat).length<=(g-b).toNat:=by rw[UF];exact Nat.min_le_left _ _
    have z0:k.length<=(g-b).toNat*t.n:=by rw[x2];exact Q0 _ y6
    have W:Mz g b=(g-b).toNat:=rfl;have y7:(Ie s (Yo b) (YK (Mz g b) o)).toList=s.toList.take b.toNat++o.take (g-b).toNat++s.toList.drop (b.toNat+(o.take (g-b).toNat).length):=by rw[W];exact Zkj s b.toNat (o.take (g-b).toNat) Y
    have xi:rel q (.vec i t) [] (((d.drop (Yd f)).take (i*t.n)).take (b.toNat*t.n)++k++((d.drop (Yd f)).take (i*t.n)).drop (b.toNat*t.n+k.length)) (Ie s (Yo b) (YK (Mz g b) o)):=by have x4:Row t.n (rel q t) [] ((d.drop (Yd f)).take (i*t.n)) s.toList:=x1;show Row t.n (rel q t) [] _ (Vector.toList _);rw[y7,x2,<-SE];exact Row.append (h1:=[]) (h2:=[]) (Row.append (h1:=[]) (h2:=[]) (x4.take _) x3) (x4.drop _)
    obtain⟨_,D,S,x9⟩:=y0 (KK.le.refl q) U xi;have x7:d.take (Yd f)++(((d.drop (Yd f)).take (i*t.n)).take (b.toNat*t.n)++k++((d.drop (Yd f)).take (i*t.n)).drop (b.toNat*t.n+k.length))++d.drop (Yd f+(Ty.vec i t).n)=d.take (Yd f+b.toNat*t.n)++k++d.drop (Yd f+b.toNat*t.n+k.length):=ZxE d k (off:=Yd f) (a:=b.toNat*t.n) (M:=i*t.n) Y x8;rw[x7]at S;refine⟨q,D,?_,?_,Mv.refl _ _ _,⟨[_],⟨rfl,rfl⟩,by rw[W];rfl⟩,⟨D,[],Zc,x9,trivial⟩,pd U l.YT λ_ _=>rfl,Vf.refl _ _⟩;·refine((GD.Vv (d.take (Yd f+b.toNat*t.n)++k++d.drop (Yd f+b.toNat*t.n+k.length)) O O.pl).perm (?_:List.Perm _ (D++m++h2))).left;have:=(S.append_right m).append_right h2;refine Zbd ?_ this.symm;simp only[UG,Oj,Yc];exact NP _ (V5 _ Wr)
    ·have xh:u∈HP.bs (T++m):=((K.map (·.1)).mem_iff).2 Zc;refine(ZW.Kw xh).sub λb' Z=>?_;have m1:b'∈HP.bs ((u,0,cellsOf d B)::(hq++(h2++m))):=by
      rw[HP.Wo]at Z;obtain h|h:=ZY Z
      ·have:=((S.map (·.1)).mem_iff).1 h;simp only[HP.bs,Wb,WW,C5,Sr,UG]at this⊢;obtain h|h:=this;·exact .inl h
       ·exact .inr (.inl h)
      ·simp only[HP.bs,Wb,WW,C5,Sr];exact .inr (.inr (.inr h))
     exact((K.map (·.1)).mem_iff).2 m1
   ·cases w
  ·cases h
 ·rename_i y8 u0 V;split at h;·rename_i t xs L;obtain⟨r,E⟩:=Yq h;rw[YL]at r;exact ZnA z x ht V L r.1 r.2 E
  ·cases h
 ·cases h
def Nt{α β:Type}(eq:α->α->Bool)(x:α):L (α×β)->Zg Nat|[]=>none|(a,_)::l=>if eq x a=true then some 0 else(Nt eq x l).map (·+1)
def dm{α β}{eq}{x}:∀{l:L (α×β)},Nt eq x l=none/\P8 eq x l=none\/∃i a y,Nt eq x l=some i/\l[i]?=some (a,y)/\eq x a=true/\P8 eq x l=some y
 |[]=>.inl ⟨rfl,rfl⟩|(a,y)::l=>by
  unfold Nt P8;by_cases b:eq x a=true;·rw[Y4 b,Y4 b];exact .inr ⟨0,a,y,rfl,rfl,b,rfl⟩
  ·rw[Ys b,Ys b];obtain⟨d,c⟩|⟨i,e,h,d,c,f,g⟩:=dm;·exact .inl ⟨Zp,c⟩
   ·grind
def ZfI{α β}{eq}{x:α}{y:β}:∀{l},Ny eq x y l=match Nt eq x l with|none=>l++[(x,y)]|some c=>l.set c (x,y)
 |[]=>rfl|(a,z)::l=>by
  unfold Ny Nt;by_cases b:eq x a=true;·grind
  ·rw[Ys b,Ys b,ZfI];cases Nt _ x l<;>rfl
def fW(h:fV P e S=true):∃k w,S=.un k w/\P.underlying e=some (.int k):=by
 unfold fV at h;split at h;·grind
 ·grind
def Jy(K:KK)(a t:Ty)(e:MapEntry)(y:a.den×t.den):Prop:=(∃b,e.key=XZ a.ag b/\rel K a [] b y.1)/\∃c,e.val=XZ t.ag c/\rel K t [] c y.2
def F2.get{α β}{R}:∀{xs:L α}{ys},F2 R xs ys->xs.length=ys.length/\∀(i:Nat)(y:β),ys[i]?=some y->∃x,xs[i]?=some x/\R x y|[],ys,h=>by subst h;exact⟨rfl,λi y a=>by simp at a⟩|x::xs,ys,h=>by obtain⟨y,f,rfl,c,b⟩:=h;obtain⟨a,e⟩:=F2.get b;refine⟨by simp[a],λi g d=>?_⟩;cases i<;>simp_all
def Zep{P}{K}{d}{a t}{w}{v}{x}{eq}(f:∀(c)(y),rel K a [] c y->(Op.equal d v (XZ a.ag c)).run P w=.ok (eq x y) w):∀{b}{l}{i},F2 (Jy K a t) b l->(Instr.findAsking d v b i).run P w=.ok ((Nt eq x l).map λj=>(i+j,(b[j]?.map (·.val)).getD undef)) w
 |[],l,i,h=>by subst h;rfl|e::b,l,i,h=>by
  obtain⟨y,n,rfl,⟨⟨p,g,o⟩,_⟩,k⟩:=h;unfold Instr.findAsking Nt;rw[g];simp[YF,f _ _ o,Y3];by_cases m:eq x y.1=true;·grind
  ·simp[m,RK,UH,Zep f (i:=i+1) k];cases Nt eq x n<;>grind
def fu{K}{a t}{d}{v}{x}{eq}(f:∀(c)(y),rel K a [] c y->Instr.sameNow d v (XZ a.ag c)=some (eq x y)):∀{b}{l}{i},F2 (Jy K a t) b l->Instr.findNow d v b i=some ((Nt eq x l).map λj=>(i+j,(b[j]?.map (·.val)).getD undef))
 |[],l,i,h=>by subst h;rfl|e::b,l,i,h=>by
  obtain⟨y,n,rfl,⟨⟨p,g,o⟩,_⟩,k⟩:=h;have q:=f _ _ o;unfold Instr.findNow Nt;rw[g];by_cases m:eq x y.1=true;·grind
  ·simp[m,RK,UH];simp[fu f (i:=i+1) k];cases Nt eq x n<;>grind
def Zeq{K}{t}{w}{v}{x}{i:DecidableEq S.den}(y:wT P e S=true)(z:rel K S [] r x)(hv:v=XZ S.ag r){p}{l}(h:F2 (Jy K S t) p l):(∀a n,(Instr.checkKey a (n+2) e v).run P w=.ok () w)/\(Instr.findKey e v p).run P w=.ok ((Nt (λS b=>@decide (S=b) (i S b)) x l).map λj=>(j,(p[j]?.map (·.val)).getD undef)) w:=by
 subst hv;have D:∀{A:Zg Nat},(A.map λj=>(0+j,(p[j]?.map (·.val)).getD undef))=A.map λj=>(j,(p[j]?.map (·.val)).getD undef):=λ{A}=>by cases A<;>simp
 cases S with
 |int=>
  have c:P.underlying e=some (.int .i64):=by
   have d:(match P.underlying e with|some (.int .i64)=>true|_=>false)=true:=y;split at d;·assumption
   ·cases d
  obtain⟨_,rfl⟩:=z;refine⟨λa n=>Zbo c (show MapKept.IsKey (.int .i64) (.int .i64 x)from rfl) a (n+1),?_⟩;rw[<-D];refine MapKept.run_findKey c (fu (λB f g=>?_) h);obtain⟨_,rfl⟩:=g;have C:∀F u:Int,Instr.sameNow (.int .i64) (.int .i64 F) (.int .i64 u)=some (decide (F=u)):=λF u=>by simp only[Instr.sameNow,Qe];congr 1;rw[CW];simp
  refine(C x f).trans ?_;congr 1|str=>
  have c:P.underlying e=some .string:=by
   have d:(match P.underlying e with|some .string=>true|_=>false)=true:=y;split at d;·assumption
   ·cases d
  obtain⟨_,N,rfl,hs⟩:=z;refine⟨λa n=>Zbo c (show MapKept.IsKey .string (.string N)from trivial) a (n+1),?_⟩;rw[<-D];refine MapKept.run_findKey c (fu (λB f g=>?_) h);obtain⟨_,s',rfl,x2⟩:=g;show some (N==s')=_;congr 1;rw[CW,Zbn,sP,<-hs,<-x2];exact⟨λo=>by rw[o],λo=>bytes_inj o⟩|vec m O=>
  have d:(E3 P e m O&&I6 P 8 e (.vec m O))=true:=y;rw[YL]at d;obtain⟨s,Z⟩:=d;obtain⟨x4,U,T⟩:=qX Z;obtain⟨_,R,J⟩:=zB U;unfold E3 at s;split at s
  ·rename_i m' o c;simp only[YL]at s;obtain⟨C,x1,x3,X⟩:=s;cases Wc C;obtain⟨k,w0,rfl,V⟩:=fW X
   ·skip;have L:Row 1 (rel K (.un k w0)) [] r (Vector.toList x):=z;have x5:r.length=m:=by have:=L.length;simpa using this
    constructor
    ·intro a n;have x0:∀j,j<m->∃G:Int,(part o r.toArray (j*1)).run P w=.ok (.int k G) w:=by
      intro j q;obtain⟨h1,hm,h2,_,_,u,_,_⟩:=Row.at L (i:=j) (by simpa using q);have:r.toArray[j*1]?=some (.int k (((Vector.toList x)[j]'(by simpa using q)).toNat:Int)):=by
       have H:((r.drop (j*1)).take 1)[0]?=some (.int k (((Vector.toList x)[j]'(by simpa using q)).toNat:Int)):=by rw[u.2];rfl
       rw[NQ,Y4 YI,Py]at H;simpa using H
      exact⟨_,run_part_plain w x1 this⟩
     show(Instr.checkKey a (n+1+1) e (.agg r.toArray)).run P w=_;rw[Instr.checkKey];simp only[YF,W8 c,Y3];simp only[Zkv,Std.Legacy.Range.size,jq,Nat.add_one_sub_one,Nat.div_one];have E:∀j∈List.range' 0 m,j<m:=λj q=>by simpa[List.mem_range']using q
     generalize List.range' 0 m=M at E;induction M with|nil=>simp|cons j M ih=>obtain⟨G,hz⟩:=x0 j (E j Zc);simp only[C3,YF,NJ x3 w,Y3,hz,Zbo V (show MapKept.IsKey (.int k) (.int k G)from rfl) a n,Xz];exact ih λf g=>E f (by simp[g])
    ·rw[run_findKey_eq w (by rw[c]),<-D];refine Zep (λB f g=>?_) h;obtain⟨b,I,W⟩:=T 10000 YI K.m r B x f w (J K _ _ _ _ z) (J K _ _ _ _ g);rw[R]at I;have Q:b=@decide (x=f) (i x f):=by rw[CW,W,sP]
     rw[<-Q];exact I
  ·cases s|_=>cases y
def F2.set{α β}{R}:∀{xs}{ys}{i}{x:α}{y:β},F2 R xs ys->i<xs.length->R x y->F2 R (xs.set i x) (ys.set i y)|[],_,_,_,_,_,h,_=>Zp|a::xs,ys,i,x,y,h,hi,c=>by obtain⟨d,f,rfl,e,b⟩:=h;cases i with|zero=>exact⟨y,f,rfl,c,b⟩|succ i=>exact⟨d,_,rfl,e,F2.set b Zp c⟩
def F2.snoc{α β}{R}:∀{xs}{ys}{x:α}{y:β},F2 R xs ys->R x y->F2 R (xs++[x]) (ys++[y])|[],ys,x,y,h,b=>by subst h;exact⟨y,[],rfl,b,rfl⟩|a::xs,ys,x,y,h,b=>by obtain⟨c,f,rfl,d,e⟩:=h;exact⟨c,_,rfl,d,F2.snoc e b⟩
def ZiB{K K'}{k}{w}:∀{xs:L (ZO w)}{a b},Row 1 (rel K (.un k w)) [] a xs->Row 1 (rel K' (.un k w)) [] b xs->a=b|[],_,_,h1,h2=>h1.1.trans h2.1.symm|x::xs,_,_,⟨d1,i,n,l,c,p1,_,e,g⟩,⟨d2,j,o,m,d,p2,_,f,h⟩=>by obtain⟨rfl,rfl⟩:=O5 p1.symm;obtain⟨rfl,rfl⟩:=O5 p2.symm;rw[c,d,e.2,f.2,ZiB g h]
def Zp9{K K'}{b}{x}(h:wT P e S=true)(h1:rel K S [] r x)(h2:rel K' S [] b x):r=b:=by cases S with
 |int=>rw[h1.2,h2.2]|str=>obtain⟨_,k,rfl,d⟩:=h1;obtain⟨_,l,rfl,f⟩:=h2;rw[bytes_inj (d.trans f.symm)]|vec g i=>
  have c:(E3 P _ g i&&I6 P 8 _ _)=true:=h;rw[YL]at c;have a:=c.1;unfold E3 at a;split at a;·simp at a;obtain⟨j,m,rfl,_⟩:=fW a.2.2.2;exact ZiB h1 h2
  ·grind|_=>cases h
def ZiA{K}{k}{w}:∀{xs:L (ZO w)}{c},Row 1 (rel K (.un k w)) [] c xs->∀v∈c,∃i,v=.int k i
 |[],_,h,v,a=>by rw[h.1]at a;cases a|x::xs,_,⟨d1,f,j,g,b,p1,_,d,e⟩,v,a=>by
  obtain⟨rfl,rfl⟩:=O5 p1.symm;rw[b,Sr]at a;obtain a|a:=a;·rw[d.2]at a;exact⟨_,YV a⟩
  ·exact ZiA e v a
def Zp8{K}{x}{w}(h:wT P e S=true)(h1:rel K S [] r x):(Instr.keyThatStays (XZ S.ag r) (XZ S.ag r)).run P w=.ok (XZ S.ag r) w:=by cases S with
 |int=>rw[h1.2];exact MapKept.run_keyThatStays (d:=.int .i64) rfl|str=>obtain⟨_,u,rfl,t⟩:=h1;exact MapKept.run_keyThatStays (d:=.string) trivial|vec g m=>
  have j:(E3 P e g m&&I6 P 8 e (.vec g m))=true:=h;rw[YL]at j;have f:=j.1;unfold E3 at f;split at f
  ·simp only[YL]at f;obtain⟨i,n,rfl,_⟩:=fW f.2.2.2;have o:Instr.sameBits 10000 (XZ (Ty.vec g (.un i n)).ag r) (XZ (Ty.vec g (.un i n)).ag r)=true:=by
    show Instr.sameBits (9999+1) (.agg r.toArray) (.agg r.toArray)=true;simp only[Instr.sameBits,YL,Zbw,true_and,MI];intro b a;have q:∀(c:L Value),(∀v∈c,∃l:Int,v=Value.int i l)->∀b∈c.zip c,Instr.sameBits 9999 b.1 b.2=true:=by intro c;induction c with|nil=>intro _ b a;cases a|cons v c s=>
      intro k b a;obtain rfl|a:=XL a;·obtain⟨l,rfl⟩:=k _ XQ;simp[Instr.sameBits]
      ·exact s (λv p=>k v (XY _ p)) b a
    exact q r (ZiA h1) b (by simpa using a)
   unfold Instr.keyThatStays;rw[o];simp
  ·cases f|_=>cases h
def ZAN{z}(h:zvB P e S=true)(i:Oi S=some z)(K)(w):∃cs,rel K S [] cs z/\(zeroValue e).run P w=.ok (XZ S.ag cs) w:=by
 unfold zvB at h;split at h
 ·rename_i v hv;have⟨l,j,k⟩:=C8 hv;have g:(zeroValue e).run P w=.ok v w:=by simp[zeroValue,typeInfo,j,k]
  split at h
  ·rename_i ag cs c;split at h;·rename_i d;have⟨b,a,f⟩:=Im i d;rw[XX]at a;refine⟨b,f K,?_⟩;rw[g,c,<-a];simp[XZ]
   ·grind
  ·grind
  ·rename_i c;split at h;·rename_i d;have⟨b,a,f⟩:=Im i d;rw[XX]at a;refine⟨b,f K,?_⟩;rw[g,c,<-a];rfl
   ·grind
 ·grind
def Zfp(h:AV P e S=true):∃a b,P.underlying e=some (.map a b)/\wT P a S=true:=by
 unfold AV at h;split at h;·grind
 ·grind
def Zw0{K}{t}{w}{c}{l}{q}{z}{i}(v:AV P e S=true)(m:eY P e t=true)(H:Oi t=some z)(n:w.heap[A]?=some (.map c D))(h:F2 (Jy K S t) c.toList l)(F:rel K S [] r q):∃a,rel K t [] a (UN (JJ i q l) z)/\∀ok,(Instr.lookup e (.map (some A)) (XZ S.ag r) ok).run P w=.ok (if ok then .tuple #[XZ t.ag a,.bool (Ta (JJ i q l))]else XZ t.ag a) w:=by
 obtain⟨Q,N,g,E⟩:=Zfp v;obtain⟨u,b⟩:=Zeq (i:=i) E F rfl (w:=w) h;have k:=u c.isEmpty 9998;obtain⟨d,j⟩|⟨o,I,R,d,j,J,L⟩:=dm (eq:=λS A=>@decide (S=A) (i S A)) (x:=q) (l:=l);·obtain⟨a,y,G⟩:=ZAN (by unfold eY at m;rwa[g]at m) H K w;refine⟨a,Zp,λok=>?_⟩;·rw[d]at b;have f:Ta (JJ i q l)=false:=Zp;rw[f];simp only[Instr.lookup,YF,W8 g,Y3,jk n,Xz,k,b,G,Option.map]
 ·obtain⟨O,B⟩:=F2.get h;obtain⟨M,C,_,a,s,y⟩:=B o _ j;refine⟨a,Zp,λok=>?_⟩
  ·rw[d]at b;have f:Ta (JJ i q l)=true:=Zp;rw[f];have p:(c.toList[o]?.map (·.val)).getD undef=XZ t.ag a:=by rw[C];exact s
   rw[Gc,p]at b;simp only[Instr.lookup,YF,W8 g,Y3,jk n,Xz,k,b]
def ZqL{a:Array N}{f}(h:a[A]?=some F):(a.modify A f).toList=a.toList.set A (f F):=by
 apply se;intro c;have d:=(U0 h).1;rw[kV,kU,sq];by_cases b:A=c;·grind
 ·rw[Ys b,Ys b,kV]
def Zw5{K}{t}{w}{b}{l}{q}{y}{a}{i}(N:AV P e S=true)(f:w.heap[A]?=some (.map b D))(h:F2 (Jy K S t) b.toList l)(d:rel K S [] r q)(hv:rel K t [] a y):∃p E,(Instr.mapUpdate e (.map (some A)) (XZ S.ag r) (XZ t.ag a)).run P w=.ok () {w with heap:=w.heap.setIfInBounds A (.map p E)}/\F2 (Jy K S t) p.toList (dD i q y l):=by
 obtain⟨Z,V,u,m⟩:=Zfp N;obtain⟨M,c⟩:=Zeq (i:=i) m d rfl (w:=w) h;have s:=M false 9998;have g:=ZfI (eq:=λS A=>@decide (S=A) (i S A)) (x:=q) (y:=y) (l:=l);obtain⟨k,n⟩|⟨j,B,y0,k,n,G,T⟩:=dm (eq:=λS A=>@decide (S=A) (i S A)) (x:=q) (l:=l);·rw[k]at c g;refine⟨b.push {key:=XZ S.ag r,val:=XZ t.ag a,born:=D},D+1,by simp only[Instr.mapUpdate,YF,W8 u,Y3,jk f,s,c,Option.map,MapKept.run_setObj_map _ f],?_⟩;·show F2 (Jy K S t) _ (Ny (λS A=>@decide (S=A) (i S A)) q y l);rw[g,Array.toList_push];exact F2.snoc h ⟨⟨r,rfl,d⟩,a,rfl,hv⟩
 ·obtain⟨X,O⟩:=F2.get h;obtain⟨o,v,⟨C,I,Q⟩,R,U,W⟩:=O j _ n;have L:q=B:=by simpa using G
  have J:o.key=XZ S.ag r:=by
   rw[I];have:rel K S [] C q:=by rw[L];exact Q
   rw[Zp9 m this d]
  rw[k]at c g;have z:b[j]?=some o:=by rw[<-kV];exact v
  rw[Gc]at c;have H:(b[j]?.map (·.key)).getD (XZ S.ag r)=XZ S.ag r:=by rw[z];exact J
  refine⟨b.modify j λF=>{F with key:=XZ S.ag r,val:=XZ t.ag a},D,by simp only[Instr.mapUpdate,YF,W8 u,Y3,jk f,s,c,H,Zp8 m d,MapKept.run_setObj_map _ f],?_⟩;·show F2 (Jy K S t) _ (Ny (λS A=>@decide (S=A) (i S A)) q y l);rw[g,ZqL z];exact F2.set h (X8 v).1 ⟨⟨r,rfl,d⟩,a,rfl,hv⟩
def Zfr{K}{w}{n:Unit}{t}{l:L (S.den×t.den)}{v}(h:GD K.m k w)(hv:Y0 K E (.v ⟨.hole A,n⟩) v)(g:WC K A ⟨.map S t,l⟩ s)(j:∀x∈s,x∈k):∃a b c,v=.map (some a)/\s=[(a,0,.map b c)]/\w.heap[a]?=some (.map b c)/\F2 (Jy K S t) b.toList l/\K.nm A=some v:=by obtain⟨o,d,rfl⟩:=hv;have⟨_,i⟩:=pI d g rfl;obtain⟨_,p,m,rfl,_⟩:=d;obtain⟨a,b,c,e,rfl,f⟩:=i;cases e;exact⟨a,b,c,rfl,rfl,h.Xb _ (j _ XQ),f,m⟩
def Zqk{T:TypeId}{ok}(h:eI J C A H T (Z9 G j) (Z9 G p) ok=some F):Vg J ⟨Q,.lookup T j p ok,e,R,I,y⟩ G C A H F:=by
 unfold eI at h;split at h
 ·rename_i X u0 yv U V;split at h
  ·rename_i x n r x1;obtain⟨t,q⟩:=Yq h;simp at t;obtain⟨E,K,hp⟩:=t;split at q
   ·rename_i i Z hi W;obtain⟨w,rfl,s⟩:=Rv q;have v:∀{o:Ww}{d:KK}{k:HM}{l m:HP}{ac:Act}{c:World},TP J G A o (Op.lookup T j p ok).operands.toList d k l m ac c->o.rd=[(X,⟨.map x n,r⟩)]->∃a,rel d n [] a (UN (JJ i w r) Z)/\(execOp ac.eval ⟨Q,.lookup T j p ok,e,R,I,y⟩).run J.P c=.ok (.value (if ok then .tuple #[XZ n.ag a,.bool (Ta (JJ i w r))]else XZ n.ag a)) c:=by intro o d k l m ac c b O;obtain⟨h0,eH,L,S⟩:=b.rd _ (by rw[O];exact XQ);have u:=b.op j Yr;rw[U]at u;obtain⟨bl,es,x0,z,rfl,M,D,_⟩:=Zfr b.gd u L S;obtain⟨ck,P,B⟩:=b.v V Yr;obtain⟨a,f,g⟩:=Zw0 (i:=i) E K W M D P;refine⟨a,f,?_⟩;simp only[execOp,z,B,YF,g ok];rfl
    cases ok with|true=>refine⟨_,s,⟨YA _,Zc,Zp,Zc⟩,Wq λd k l m ac c b=>?_⟩;obtain⟨a,f,g⟩:=v b rfl;exact⟨_,g,[_,_],rfl,_,_,rfl,⟨rfl,a,f,rfl⟩,_,_,rfl,⟨rfl,[_],⟨rfl,rfl⟩,rfl⟩,rfl⟩|false=>refine⟨_,s,⟨YA _,Zc,Zp,Zc⟩,Wq λd k l m ac c b=>?_⟩;obtain⟨a,f,g⟩:=v b rfl;exact⟨_,g,a,f,rfl⟩
   ·cases q
  ·cases h
 ·cases h
def GD.setObj{m}{w}{o}(o')(b:GD m ((A,0,o)::k) w):GD m ((A,0,o')::k) {w with heap:=w.heap.setIfInBounds A o'}where
 mem:=λd c v g=>by
  have j:d≠A:=λf=>by have:=b.free (A,0,o) XQ c (W7 _);rw[<-f,g]at this;cases this
  have i:({w with heap:=w.heap.setIfInBounds A o'}:World).heap[d]?=w.heap[d]?:=by grind
  exact(Be (w:=w) (a:=⟨d,c,none⟩) i).trans (b.mem d c v g)
 nodup:=b.nodup;Xb:=λe hx=>by
  obtain rfl|hx:=XL hx;·exact(MapKept.heap_set (b.Xb (A,0,o) Zc)).1
  ·have h:=b.nodup;simp only[HP.bs,Wb,Ss]at h;rw[(MapKept.heap_set (b.Xb (A,0,o) Zc)).2 _ λf=>h.1 Zp];exact b.Xb e (XY _ hx)
 free:=λe hx c=>by
  obtain rfl|hx:=XL hx;·exact b.free (A,0,o) Zc c
  ·exact b.free e (XY _ hx) c
def ZW.setObj{w}{m}{o'}{bs}(d:A∈bs):ZW w {w with heap:=w.heap.setIfInBounds A o'} m m bs bs where
 os:=rfl;tape:=rfl;output:=rfl;size:=Zc;Vu:=λa _ e=>by have f:A≠a:=λb=>e (b▸d);exact⟨Zp,λ_=>rfl⟩
 own:=λa c=>.inl c;le:=Wy.refl _
def Zqv{z:Operand}{T:TypeId}(h:eW J C A H T (Z9 G j) (Z9 G p) (Z9 G z)=some F):Vg J ⟨Q,.mapUpdate T j p z,e,R,I,y⟩ G C A H F:=by
 unfold eW at h;split at h
 ·rename_i x4 u0 yv zv hx hy hz;split at h
  ·rename_i x6 t yy xh;obtain⟨X,D⟩:=Yq h;clear h;simp only[YL]at X;obtain⟨hT,y2⟩:=X;split at D
   ·rename_i i hi;obtain⟨q,rfl,h8⟩:=Rv D;obtain⟨z0,n,h,xx,yf,v,Qb,s,z1⟩:=I1 h8;have l:n.r=v:=by rw[s.r];simp
    have M:n.q=Qb:=by rw[s.q];simp
    have x0:∀b∈v,b.1≠x4/\ZJ C b.1=some b.2:=λb a=>by have:=IP (s.mr b a);exact⟨this.2,this.1⟩
    refine⟨_,h,⟨YA _,?_,?_,?_⟩,?_⟩
    ·intro b a;obtain rfl|a:=XL a;·exact xh
     ·rw[l]at a;exact(x0 b a).2
    ·intro b a;have f:b∈n.q:=a;rw[M]at f;exact(IP (s.mq b f)).1
    ·rw[Wb,Ss];refine⟨λE=>?_,by rw[l];exact s.nd⟩;obtain⟨b,a,k⟩:=VR E;rw[l]at a;exact(x0 b a).1 k
    ·intro x5 z2 hr c ac w a;obtain⟨S,U,x2,hb,y8⟩:=a.sr;obtain⟨B,y7,xi⟩:=F5 hz (a.op z Yr);have V:(hr++c).Perm ([]++([]++U)++(S++c)):=by refine(x2.append_right c).trans ?_;simp only[UG,Yc];rw[<-Yc,<-Yc];exact Wr.append_right c
     have Z:=a.gd.perm V;obtain⟨K,yt,m,g,y6,ys,hF,xv,_⟩:=z1 w x5 [] [] U B Z.left y7 trivial (by rw[<-l];exact y8) (λb f=>by obtain⟨h',_,xb,_⟩:=a.rd b (by show b∈n.q;rw[M];exact f);exact⟨h',xb⟩) (by have:=a.YT.tail;rw[l]at this;simpa using this) Zc;have x3:=Xw (JY xx) y6;have e0:yt=[]:=SZ y2 x3;subst e0;obtain⟨g1,g2⟩:=(g.frame (S++c)).step Z;have x1:=a.op j Yr;rw[hx]at x1;obtain⟨d,u,x,k,rfl,z3,x7,y0⟩:=Zfr a.gd x1 hb λb f=>Ym (.inl (x2.mem_iff.2 (Ym (.inl f))));obtain⟨L,y3,ek⟩:=a.v hy Yr;have W:([]++m++([(d,0,Obj.map u x)]++c)).Perm ((d,0,.map u x)::(m++c)):=by simp only[UG,C6];exact List.perm_middle
     have P:=g1.perm W;have x8:F2 (Jy K x6 t) u.toList yy:=F2.imp (λG p=>by exactλ⟨⟨L,k,r1⟩,cv,e2,r2⟩=>⟨⟨L,k,Xw g.le r1⟩,cv,e2,Xw g.le r2⟩) x7;obtain⟨r,o,y4,x9⟩:=Zw5 (i:=i) hT (P.Xb _ XQ) x8 (Xw g.le y3) x3;have xa:XZ zv.t.ag B=XZ t.ag B:=by rw[yf.ag]
     have y5:(execOp ac.eval ⟨Q,.mapUpdate T j p z,e,R,I,y⟩).run J.P w=.ok .skip {w with heap:=w.heap.setIfInBounds d (.map r o)}:=by simp only[execOp,k,ek,xi,xa,YF,y4];rfl
     rw[y5];refine⟨K,(d,0,.map r o)::m,P.setObj _,?_,g.mv _ _,trivial,⟨[(d,0,.map r o)],m,Ue _,⟨[_],⟨d,r,o,rfl,rfl,x9⟩,λz4 hu=>?_⟩,ys⟩,?_,?_⟩
     ·refine(ZW.Qm V g2).trans (ZW.Qm W ?_);have:HP.bs ((d,0,Obj.map r o)::m++c)=HP.bs ((d,0,Obj.map u x)::(m++c)):=by simp[HP.bs]
      rw[this];exact ZW.setObj (by simp[HP.bs])
     ·rw[YV hu];exact g.le.nm _ _ (by rw[y0,k])
     ·refine Yx.cons (λO t' xs E=>?_) hF;injection(YV E)with _ e3;injection e3 with e4;cases e4
     ·refineλO hf=>xv O λb f=>?_;have y1:b∈v:=by simpa using f
      exact hf b (by show b∈(x4,_)::n.r;rw[l];simp[y1])
   ·cases D
  ·cases h
 ·cases h
def VP:(l:L (Nat×Ty))->(TJ l).den->Bx|[],_=>[]|(i,t)::l,x=>(i,⟨t,x.1⟩)::VP l x.2
def Cj(vs:L Value):Value:=if h:vs.toArray.size=1then vs.toArray[0]else .tuple vs.toArray
structure K9(fc:FC)(x:(TJ fc.B).den)(r:fc.ρ)(K:KK)(hA hB hx:HP)(w:World)(v:Value)(w':World)(K':KK)(hC hD:HP):Prop where
 le:K.le K'
 nm:K'.nm=K.nm
 res:∃cs rs,v=Cj rs/\UC fc.C cs rs/\rel K' fc.C hC cs (fc.dec r).1full:fc.u=false->GD K'.m (hC++hD++hx) w'/\ZW w w' K.m K'.m (hA++hB++hx).bs (hC++hD++hx).bs/\ZS K' (VP fc.D (fc.dec r).2) hD/\Yx K' (VP fc.D (fc.dec r).2)/\Vf K K' (VP fc.B x)only:fc.u=true->GD K'.m hC w'/\ZW w w' K.m K'.m [] hC.bs/\K'.fm=K.fm
def U4(Z:XF)(a:FC):Prop:=Jk Z.P a.f=true/\∀g c j,a.m g c=some j->∀b d e i h k f,GD b.m (d++e++i) f->NW Z b->UC a.A h k->rel b a.A d h g->ZS b (VP a.B c) e->Yx b (VP a.B c)->Calls Z.P a.f k.toArray f λm p=>∃v,m=.returned v/\∃l n o,K9 a c j b d e i f v p l n o
structure TS(c c':CS)(R Q:Bx):Prop where
 r:c'.r=R++c.r
 q:c'.q=Q++c.q
 g:c'.g=Wm R c.g
 s:∀i j,Td c.s i=some j->Td c'.s i=some j
 mr:∀p∈R,ZJ c.g p.1=some p.2nd:(R.map (·.1)).Nodup
 mq:∀p∈Q,ZJ c.g p.1=some p.2p:c'.p=false->c.p=false
def Uf.ts{c'}(h:Uf l c' C o):TS l c' C o:=⟨h.r,h.q,h.g,h.s,h.mr,h.nd,h.mq,h.p⟩
def TS.refl(c):TS c c [] []:=(Uf.refl c).ts
def TS.trans{b c}{j i}(h:TS l b C o)(k:TS b c j i):TS l c (j++C) (i++o)where
 r:=by rw[k.r,h.r,Yc]
 q:=by rw[k.q,h.q,Yc]
 g:=by rw[k.g,h.g,ZdF]
 s:=λe f d=>k.s e f (h.s e f d);mr:=λp a=>(ZY a).elim (λa=>by have:=k.mr p a;rw[h.g]at this;exact IQ this) (h.mr p);nd:=by rw[WW,T5];refine⟨k.nd,h.nd,λe m f n d=>?_⟩;subst d;obtain⟨p,a,rfl⟩:=VR m;have⟨q,t,d⟩:=VR n;have:=k.mr p a;rw[h.g]at this;exact Jh this q t d
 mq:=λp a=>(ZY a).elim (λa=>by have:=k.mq p a;rw[h.g]at this;exact IQ this) (h.mq p);p:=λd=>h.p (k.p d)
def Q5(c:KK->Prop)(K:KK):(t:Ty)->t.den->L (L Nat)->L Value->Prop|.cons t A,x,e,cs=>∃a d,cs=a++d/\a.length=t.n/\(match Kk e with|true=>∀b,K.le b->c b->rel b t [] a x.1|false=>rel K t [] a x.1)/\Q5 c K A x.2 e.tail d|.nl,_,_,cs=>cs=[]|_,_,_,_=>False
def Ge(d:KK->Prop)(K:KK)(s:L (Nat×Nat)):(t:Ty)->t.den->L (L Nat)->HP->L Value->Prop|.cons t A,x,g,hs,cs=>∃c f b e,hs=c++f/\cs=b++e/\(match Kk g with|true=>c=[]/\t.nh=true/\∀a,K.le a->d a->rel a t [] b x.1|false=>rel (K.W1 s) t c b x.1)/\Ge d K s A x.2 g.tail f e|.nl,_,_,hs,cs=>hs=[]/\cs=[]|_,_,_,_,_=>False
def Q5.mono{c}{K K'}(h:K.le K'):∀{t}{x}{a}{cs},Q5 c K t x a cs->Q5 c K' t x a cs:=by intro t;induction t with
 |cons t m _ j=>rintro x a cs⟨d,e,f,k,b,l⟩;refine⟨d,e,f,k,?_,j l⟩;cases hb:Kk _ with|true=>rw[hb]at b;exactλn g i=>b _ (h.trans g) i|false=>rw[hb]at b;exact Xw h b
 |nl=>intro x a cs h;exact h|_=>intro x a cs h;exact h.elim
def Ge.mono{d}{K K'}(h:K.le K'){s s'}(n:∀i j,Td s i=some j->Td s' i=some j):∀{t}{x}{b}{hs}{cs},Ge d K s t x b hs cs->Ge d K' s' t x b hs cs:=by intro t;induction t with
 |cons t q _ o=>rintro x b hs cs⟨l,c,e,f,g,k,a,p⟩;refine⟨l,c,e,f,g,k,?_,o p⟩;cases hb:Kk _ with|true=>rw[hb]at a;exact⟨a.1,a.2.1,λr c m=>a.2.2 _ (h.trans c) m⟩|false=>rw[hb]at a;exact Xw (KK.Hy h n) a
 |nl=>intro x b hs cs h;exact h|_=>intro x b hs cs h;exact h.elim
def Ge.rel{c}{K K2}(h:K.le K2)(k:c K2){s}:∀{t}{x}{b}{hs}{cs},Ge c K s t x b hs cs->rel (K2.W1 s) t hs cs x:=by intro t;induction t with
 |cons t o _ m=>rintro x b hs cs⟨i,j,d,e,f,g,a,n⟩;refine⟨i,j,d,e,f,g,?_,m n⟩;cases hb:Kk _ with|true=>rw[hb]at a;have⟨rfl,l,a⟩:=a;exact FT l (a _ h k)|false=>rw[hb]at a;exact Xw (KK.Hy h λ_ _ h=>h) a
 |nl=>intro x b hs cs h;exact h|_=>intro x b hs cs h;exact h.elim
def zh(a b c:HP):(a++b++c).Perm (b++c++a):=by classical grind
def ri(A:Ty)(v:TV)(k:L (L Nat))(c:CS)(a:A.den)(c':CS)(R Q:Bx):Prop:=∀(g:KK->Prop)(l:World)(b:KK)(f e:HP)(h:L Value),GD b.m (f++e) l->Q5 g b v.t v.x k h->ZS b c.l f->ZS b R e->(∀p∈Q,∃m,WC b p.1 p.2 m)->Yx b (c.l++R)->(∀p∈c.l,ZJ c.g p.1=none)->∃d i j,Y5 l b (f++e) d (i++j)/\Ge g d c'.s A a k i h/\ZS d c'.l j/\Yx d c'.l/\Vf b d (c.l++R)/\(c'.p=false->d=b)
def Znm:∀{A}{v}{o}{c}{k},I0 A v o c k=some F->∃a c' z Q,k a c'=some F/\Uf c c' z Q/\VZ A v.t/\ri A v o c a c' z Q:=by intro A;induction A with
 |cons t A _ ih=>rintro⟨M,vx⟩o c k h;cases M with
  |cons t' A'=>unfold I0 at h;cases hb:Kk o with|true=>rw[hb]at h;obtain⟨hn,O,e,h⟩:=M0 h;injection e with e1 e2;subst e1;obtain⟨a,c',z,Q,h,hS,L,hM⟩:=ih h;refine⟨(O,a),c',z,Q,h,hS,(VZ.refl _).cons L,?_⟩;rintro y q K d g W s⟨J,B,rfl,l,u,i⟩w H r j n;rw[hb]at u;obtain⟨K',ha,x9,P,hP,y0,fF,fk,pp⟩:=hM y q K d g B s i w H r j n;refine⟨K',ha,x9,P,⟨[],ha,J,B,rfl,rfl,?_,hP⟩,y0,fF,fk,pp⟩;rw[hb];refine⟨rfl,hn,λI h2 hh=>?_⟩;have:=u I (P.le.trans h2) hh;rwa[sT e2]at this|false=>
    rw[hb]at h;obtain⟨O,J,h,xh,U,Q1,E,m1⟩:=gn h;obtain⟨a,B,V,Q2,h,G,L,m2⟩:=ih h;refine⟨(O,a),B,V++U,Q2++Q1,h,E.trans G,xh.cons L,?_⟩;rintro y q K d g W s⟨X,Z,rfl,l,u,i⟩w H r j n;rw[hb]at u;obtain⟨m,x1,xb,xx,xv⟩:=ZS.append.1 H;have x3:(d++g).Perm ([]++(d++x1)++m):=by refine(V5 d (xb.trans Wr)).trans ?_;simp[Yc]
    obtain⟨T,f,D,x,r1,y1,x5,x0,xi⟩:=m1 q K [] d x1 X (s.sub x3) u w xv (λp b=>r p (Ym (.inr b))) (j.sub (by intro p b;obtain h|h:=ZY b<;>simp[h])) n;have R:Y5 q K (d++g) T (f++D++m):=Y5.perm x3 (Ue _) (x.frame m);have x4:(f++D++m).Perm (D++m++f):=zh _ _ _;obtain⟨I,g2,xa,S,r2,y2,x6,x7,xs⟩:=m2 y q T D m Z ((R.step s).1.sub x4) (i.mono x.le) y1 (xx.mono x.le) (λp b=>let⟨h,i⟩:=r p (Ym (.inl b));⟨h,i.mono x.le⟩) (Yx.next (K:=K) E (j.sub (by intro p b;obtain h|h:=ZY b;obtain h|h:=ZY h<;>simp[h];simp[h])) x5 x0 n G.mr) (E.dj n);refine⟨I,f++g2,xa,?_,⟨f,g2,X,Z,rfl,rfl,?_,r2⟩,y2,x6,?_,λe=>(xs e).trans (xi (G.p e))⟩;·refine R.trans (Y5.perm x4 ?_ (S.frame f));rw[Yc f];exact Wr
    ·rw[hb];exact Xw (KK.Hy S.le G.s) r1
    ·intro C hf;have x2:∀p∈c.l++U,p.1≠Yp C:=λp b=>hf p (by obtain h|h:=ZY b<;>simp[h]);have x8:∀p∈J.l++V,p.1≠Yp C:=by
      intro p b e;obtain b|b:=ZY b;·obtain⟨i,hq,e'⟩:=E.ids p b;exact x2 i hq (e'.trans e)
      ·exact hf p (by simp[b]) e
     rw[x7 C x8,x0 C x2]
  |_=>unfold I0 at h;cases h
 |nl=>rintro⟨M,vx⟩o c k h;cases M with|nl=>unfold I0 at h;refine⟨(),c,[],[],h,Uf.refl c,VZ.refl _,?_⟩;rintro y q K d g W s rfl w H r j n;exact⟨K,[],d++g,Y5.refl _ _ _,⟨rfl,rfl⟩,w.more g,j.sub Zc,Vf.refl _ _,λ_=>rfl⟩|_=>unfold I0 at h;cases h
 |_=>intro v o c k h;unfold I0 at h;cases h
def Zdn{v}{k}(h:VK S v l k=some F):∃x c',k x c'=some F/\MQ S v l x c'/\∀f e,S=.YS f e->v=⟨S,x⟩/\c'=l:=by cases S with|YS f S=>have⟨d,x,b,a⟩:=M0 h;exact⟨x,l,a,MQ.same d b l,Zp⟩|_=>obtain⟨x,c',c,a⟩:=gn h;exact⟨x,c',c,a,Zc⟩
def rh(B:L (Nat×Ty))(c:CS)(x:(TJ B).den)(c':CS)(R Q:Bx):Prop:=∀(h:World)(a:KK)(e d:HP),GD a.m (e++d) h->ZS a c.l e->ZS a R d->(∀p∈Q,∃i,WC a p.1 p.2 i)->Yx a (c.l++R)->(∀p∈c.l,ZJ c.g p.1=none)->∃b f g,Y5 h a (e++d) b (f++g)/\ZS (b.W1 c'.s) (VP B x) f/\ZS b c'.l g/\Yx b c'.l/\Vf a b (c.l++R)/\(c'.p=false->b=a)/\Yx b (VP B x)
def Zdd{R}{r:R}:∀{B}{c}{k},qh B c k=some r->∃x c' Rb Q,k x c'=some r/\Uf c c' Rb Q/\rh B c x c' Rb Q
 |[],c,k,h=>by refine⟨(),c,[],[],h,Uf.refl c,λL K A w V W sR U u f=>⟨K,[],A++w,Y5.refl _ _ _,trivial,W.more w,u.sub Zc,Vf.refl _ _,λ_=>rfl,λ_ _ _ h=>by cases h⟩⟩|(i,t)::B,c,k,h=>by
  unfold qh at h;split at h
  ·rename_i H m;obtain⟨v,c1,o,e,h⟩:=NK h;obtain⟨z5,S,h,⟨z7,q,Q2,I,m2⟩,y5⟩:=Zdn h;obtain⟨x,c3,P,Q3,h,n,m3⟩:=Zdd h;have E:=e.S.trans I;refine⟨(z5,x),c3,P++(q++o),Q3++(Q2++[]),h,E.trans n,λL K A w V W sR U u f=>?_⟩;obtain⟨l,z6,xa,z1,yy⟩:=ZS.append.1 sR;obtain⟨x4,y1,xb,z0,yv⟩:=ZS.append.1 yy;obtain⟨F,x7,x8,⟨cb,yf,y6⟩,z2⟩:=e.M K A y1 W yv;have a:(A++w).Perm (F++(x7++x4)++l):=by classical rw[VX]at xa xb x8⊢;intro Z;have a1:=xa Z;have a2:=xb Z;have a3:=x8 Z;simp only[VU]at a1 a2 a3⊢;omega
   have x3:Yx K (c.l++(q++o)):=u.sub (by intro p a;obtain h|h:=ZY a;simp[h];obtain h|h:=ZY h<;>simp[h]);obtain⟨N,g,G,D,r1,z3,xx,x1,ys⟩:=m2 L K F x7 x4 cb (V.sub a) yf z2 z0 (λp a=>U p (by simp[a])) (Yx.next (K:=K) (K':=K) e.S (x3.sub (by intro p a;obtain h|h:=ZY a;obtain h|h:=ZY h<;>simp[h];simp[h])) (e.fr (x3.sub (by intro p a;obtain h|h:=ZY a<;>simp[h]))) (Vf.refl _ _) f I.mr) (e.S.dj f);have x0:Y5 L K (A++w) N (g++G++l):=Y5.perm a (Ue _) (D.frame l);have x9:(g++G++l).Perm (G++l++g):=zh _ _ _;have x6:Vf K N (c.l++(q++o)):=by
    refineλb y=>x1 b λp a d=>?_;obtain a|a:=ZY a;·obtain⟨j,C,T⟩:=e.S.ids p a;exact y j (by obtain h|h:=ZY C<;>simp[h]) (T.trans d)
    ·exact y p (by simp[a]) d
   obtain⟨O,hB,y4,M,r2,z4,y0,x2,yt,fB⟩:=m3 L N G l ((x0.step V).1.sub x9) z3 (z1.mono D.le) (λp a=>let⟨h,j⟩:=U p (by simp[a]);⟨h,j.mono D.le⟩) (Yx.next (K:=K) E (u.sub (by intro p a;obtain h|h:=ZY a;obtain h|h:=ZY h<;>simp[h];simp[h])) xx x6 f n.mr) (E.dj f);refine⟨O,g++hB,y4,?_,⟨g,hB,Ue _,⟨cb,Xw (KK.Hy M.le n.s) r1,?_⟩,r2⟩,z4,y0,?_,λd=>(yt d).trans (ys (n.p d)),Yx.cons ?_ fB⟩;·refine x0.trans (Y5.perm x9 ?_ (M.frame g));rw[Yc g];exact Wr
   ·intro xi hu;have xh:=M.le.nm _ _ (D.le.nm _ _ (y6 xi hu));show(if Nat.blt i 1000=true then(Td c3.s i).bind O.nm else O.nm i)=some xi;cases hi:Nat.blt i 1000with|true=>rw[hi]at m;rw[Y4 rfl,n.s i H (I.s i H (e.S.s i H m))];exact xh|false=>rw[hi]at m;cases m;rw[Ys Zc];exact xh
   ·intro b y;have x5:∀p∈c.l++(q++o),p.1≠Yp b:=λp a=>y p (by obtain h|h:=ZY a;simp[h];obtain h|h:=ZY h<;>simp[h]);have y2:∀p∈S.l++P,p.1≠Yp b:=by
     intro p a d;obtain a|a:=ZY a;·obtain⟨j,C,T⟩:=E.ids p a;exact x5 j C (T.trans d)
     ·exact y p (by simp[a]) d
    rw[x2 b y2,x6 b x5]
   ·intro b J X hm j C;injection(YV hm)with e1 e2;injection e2 with e3 e4;obtain⟨ev,rfl⟩:=y5 b J e3.symm;subst e1;have z:H=Yp b:=by
     have F:Nat.blt (Yp b) 1000=false:=by cases h:Nat.blt (Yp b) 1000with|false=>rfl|true=>rw[TN]at h;simp only[Yp]at h;omega
     rw[F]at m;cases m;rfl
    have xv:v=⟨.YS b J,X⟩:=by rw[ev];subst e3;rw[sT e4]
    have y3:(Yp b,(⟨.YS b J,X⟩:TV))∈c.l++o:=by rw[<-z,<-xv];exact e.mem
    have y7:∀p∈S.l++q,p.1≠Yp b:=by
     intro p a d;obtain a|a:=ZY a;·exact e.ne p a (d.trans z.symm)
     ·have s:=I.mr p a;rw[d,<-z,e.none f]at s;cases s
    have y8:∀p∈S.l++P,p.1≠Yp b:=by
     intro p a d;obtain a|a:=ZY a;·exact e.ne p a (d.trans z.symm)
     ·have s:=n.mr p a;rw[d,<-z,e.none f]at s;cases s
    rw[x2 b y8,x1 b y7];exact u b J X (by obtain h|h:=ZY y3<;>simp[h]) j C
  ·cases h
def Zii{K:KK}{s}{v}(h:(K.W1 s).nm A=some v)(a:(!Nat.blt A 1000||(Td s A).isSome)=true):K.nm ((bif Nat.blt A 1000then Td s A else some A).getD 0)=some v:=by simp only[KK.W1]at h;cases hi:Nat.blt A _ with|true=>rw[hi]at h a;have⟨d,b,c⟩:=C8 h;grind|false=>grind
def ZwC{K}{s}:∀{t},Rw s t=true->Ci t=true->∀{hs}{cs}{x},rel (K.W1 s) t hs cs x->rel K (OT s t x).t hs cs (OT s t x).x:=by intro t;induction t with|hole B=>exactλa _ hs cs x⟨c,v,r,d,q⟩=>⟨c,v,Zii r a,d,q⟩|pair A g u w=>intro a b;simp[Rw,Ci,YL]at a b;rintro hs cs x⟨n,o,i,j,c,l,y,z⟩;exact⟨n,o,i,j,c,l,u a.1 b.1 y,w a.2 b.2 z⟩|only t f=>exactλa b hs cs x e=>f a b e|own t f=>exactλa b hs cs x⟨g,h,k,m,c,d,p⟩=>⟨g,h,k,m,c,d,f a b p⟩|_=>exactλa b hs cs x e=>mJ b e
def vK{v}{n'}(h:JO A v D C=(n',o)):D<=n'/\∃new,o=new++C/\(∀p∈new,D<=p.1/\p.1<n'\/p=(A,v)\/∃t x,p=(A,⟨.own t,x⟩))/\∀K h,WC K A v h->Ot D n' K->∃K',Vw D n' K K'/\ZS K' new h:=by
 obtain⟨t,x⟩:=v;have m:(D,(A,(⟨t,x⟩:TV))::C)=(n',o)->D<=n'/\∃new,o=new++C/\(∀p∈new,D<=p.1/\p.1<n'\/p=(A,⟨t,x⟩)\/∃t x,p=(A,⟨.own t,x⟩))/\∀K h,WC K A ⟨t,x⟩ h->Ot D n' K->∃K',Vw D n' K K'/\ZS K' new h:=by intro h;cases h;exact⟨YA _,[(A,⟨t,x⟩)],rfl,Zc,λK h f _=>⟨K,Vw.refl _ _ _,h,[],Zc,f,trivial⟩⟩
 cases t with|own t=>replace h:(match Tb t x D C with|(a,j,i)=>(j,(A,(⟨.own a.t,a.x⟩:TV))::i))=(n',o):=h;rcases h1:Tb t x D C with⟨a,j,i⟩;rw[h1]at h;cases h;have k:=vL h1;obtain⟨new,l,f,E⟩:=k.h;refine⟨k.le,(A,⟨.own a.t,a.x⟩)::new,by rw[l];rfl,Zp,?_⟩;·rintro K h⟨F,⟨d,c,b,n,rfl,rfl,w⟩,r⟩q;obtain⟨K',g,s,u,e,y,z⟩:=E K n b w q;exact⟨K',e,(d,0,cellsOf b c)::g,s,NP _ u,⟨_,⟨d,c,b,g,rfl,rfl,y⟩,λv B=>e.le.nm _ _ (r v B)⟩,z⟩|_=>exact m h
def cE{s}{fs}:∀{l}{x}{n}{b}{n'}{b'},Hw s fs l x n b=(n',b')->DX s l=true->n<=n'/\∃new,b'=new++b/\(∀f t xs,(Yp f,⟨.YS f t,xs⟩)∈new->n'<=500->(Yp f,⟨.YS f t,xs⟩)∈VP l x)/\∀K hs,ZS (K.W1 s) (VP l x) hs->Ot n n' K->∃K',Vw n n' K K'/\ZS K' new hs
 |[],x,n,b,n',b',h,_=>by cases h;exact⟨YA _,[],rfl,Zc,λK hs _ _=>⟨K,Vw.refl _ _ _,trivial⟩⟩|(g,t)::l,x,n,b,n',b',h,o=>by
  simp only[DX,yp,YL]at o;obtain⟨⟨Z,z,v,hs⟩,o⟩:=o;have E:DX s l=true:=by simpa[DX]using o
  unfold Hw at h;obtain⟨i,D⟩:∃i,i=(bif Nat.blt g 1000then Td s g else some g).getD 0:=⟨_,rfl⟩;rw[<-D]at h;have H:∀K h,WC (K.W1 s) g ⟨t,x.1⟩ h->WC K i (OT s t x.1) h:=by exactλK h⟨Q,k,m⟩=>⟨Q,ZwC Z z k,λx4 hu=>by rw[D];exact Zii (m x4 hu) hs⟩
  have I:∀f d xs,(i,OT s t x.1)=(Yp f,(⟨.YS f d,xs⟩:TV))->(Yp f,(⟨.YS f d,xs⟩:TV))=(g,⟨t,x.1⟩):=by intro f d xs q;injection q with C a;have hx:=x.1;revert v z a;generalize x.1=x1;cases t with|YS T N=>intro z v a;have c:(⟨.YS T N,x1⟩:TV)=⟨.YS f d,xs⟩:=a;rw[<-c];injection c with R e5;injection R with S e7;rw[Wc v,S]|hole _=>intro _ _ a;injection a with c;cases c|pair _ _=>intro _ _ a;injection a with c;cases c|only _=>intro _ _ a;injection a with c;cases c|own _=>intro _ _ a;injection a with c;cases c|_=>intro _ _ a;injection a with c;cases c
  dsimp only at h;cases J:pZ i fs with|true=>
   rw[J]at h;obtain⟨k,new,q,m,U⟩:=cE h E;refine⟨k,new++[(i,OT s t x.1)],by rw[q];simp,?_,?_⟩
   ·intro f d xs hm w;obtain hm|hm:=ZY hm;·exact XY _ (m f d xs hm w)
    ·rw[I f d xs (YV hm).symm];exact XQ
   ·rintro K hs⟨e,j,y,u,A⟩p;obtain⟨K',F,V⟩:=U K j A p;refine⟨K',F,ZS.append.2 ⟨j,e,y.trans Wr,V,e,[],Zc,(H K e u).mono F.le,trivial⟩⟩|false=>
   rw[J]at h;dsimp only[cond_false]at h;rcases L:JO i (OT s t x.1) n b with⟨n1,b1⟩;rw[L]at h;obtain⟨B,x0,C,k1,q1⟩:=vK L;obtain⟨M,x3,a,k2,q2⟩:=cE h E;refine⟨WB B M,x3++x0,by rw[a,C,Yc],?_,?_⟩
   ·intro f d xs hm w;obtain hm|hm:=ZY hm;·exact XY _ (k2 f d xs hm w)
    ·obtain h|h|⟨N,x2,h⟩:=k1 _ hm;·have h':n<=1000+f/\1000+f<n1:=h;omega
     ·rw[I f d xs h.symm];exact XQ
     ·injection h with _ h;injection h with h;cases h
   ·rintro K hs⟨e,j,y,u,A⟩p;obtain⟨O,r,W⟩:=q1 K e (H K e u) λg k m=>p g k Y;obtain⟨P,G,X⟩:=q2 O j (A.mono (KK.Hy r.le λ_ _ h=>h)) (r.fresh p B);exact⟨P,r.trans B M G,ZS.append.2 ⟨j,e,y.trans Wr,X,W.mono G.le⟩⟩
def Zrq{x}(h:Ln S x A C=(d,D,o))(q:S.nh=true):A<=D/\∃new,o=new++C/\(∀p∈new,A<=p.1/\p.1<D)/\∀K hs cs,rel K S hs cs x->Ot A D K->∃K',Vw A D K K'/\R0 K' d (XZ S.ag cs)/\ZS K' new hs:=by
 have m:(match Tb S x A C with|(d,A,i)=>(bif d.t.plain then SV.v d else .any,A,i))=(d,D,o)->A<=D/\∃new,o=new++C/\(∀p∈new,A<=p.1/\p.1<D)/\∀K hs cs,rel K S hs cs x->Ot A D K->∃K',Vw A D K K'/\R0 K' d (XZ S.ag cs)/\ZS K' new hs:=by intro h;rcases h1:Tb S x A C with⟨j,B,i⟩;rw[h1]at h;cases h;have e:=vL h1;obtain⟨new,k,n,w⟩:=e.h;refine⟨e.le,new,k,n,λK hs cs a c=>?_⟩;obtain⟨K',g,y,r,b,f,t⟩:=w K hs cs a c;refine⟨K',b,?_,(t.more g).perm (Wr.trans r.symm)⟩;cases s:j.t.plain with|true=>have l:g=[]:=SZ s f;subst l;exact⟨rfl,cs,f,by rw[e.ag]⟩|false=>exact⟨rfl,trivial⟩
 cases S with
 |opt S=>cases h;refine⟨LW _,[(A,⟨.opt S,x⟩)],rfl,Zc,λK hs cs a c=>?_⟩;match cs,(WU a)with|[v],_=>have b:=KK.Fx (c A (YA _) (jo _)) v;refine⟨K.name A v,b,⟨rfl,[v],⟨rfl,v,KK.Oa,rfl,Qn a v Zc⟩,rfl⟩,hs,[],Zc,⟨[v],Xw b.le a,λj u=>by rw[YV u];exact KK.Oa⟩,trivial⟩
 |Um z E=>cases q|_=>exact m h
def Zgd:∀{C}{x}{n}{b}{u}{n'}{b'},Lm C x n b=(u,n',b')->C.nh=true->n<=n'/\∃new,b'=new++b/\(∀p∈new,n<=p.1/\p.1<n')/\∀K hs cs vs,UC C cs vs->rel K C hs cs x->Ot n n' K->∃K',Vw n n' K K'/\RT K' u vs/\ZS K' new hs:=by intro C;induction C with|cons t z _ O=>
  intro x n b u n' b' a c;simp only[Ty.nh,YL]at c;unfold Lm at a;rcases f:Ln t x.1 n b with⟨Z,R,w⟩;rw[f]at a;dsimp only at a;rcases g:Lm z x.2 R w with⟨u2,S,y⟩;rw[g]at a;have G:(SV.tc Z u2,S,y)=(u,n',b'):=a;cases G;obtain⟨j,T,E,P,V⟩:=Zrq f c.1;obtain⟨o,U,F,Q,W⟩:=O g c.2;refine⟨WB j o,U++T,by rw[F,E,Yc],λp d=>?_,?_⟩
  ·obtain d|d:=ZY d;·have:=Q p d;omega
   ·have:=P p d;omega
  ·rintro K hs cs vs⟨A,B,v,x0,rfl,rfl,M,rfl,e⟩⟨k,l,d1,d2,rfl,D,q,X⟩m;obtain⟨rfl,rfl⟩:=MJ D (by rw[M,WU q]);obtain⟨r,h,H,J⟩:=V K k A q λN f g=>m N f Y;obtain⟨s,i,I,L⟩:=W r l B x0 e (Xw h.le X) (h.fresh m j);exact⟨s,h.trans j o i,⟨_,_,rfl,H.mono i.le,I⟩,ZS.append.2 ⟨l,k,Wr,L,J.mono i.le⟩⟩|nl=>intro x n b u n' b' a c;cases a;exact⟨YA _,[],rfl,Zc,λK hs cs vs e _ _=>⟨K,Vw.refl _ _ _,e.2,trivial⟩⟩|_=>intro x n b u n' b' a c;cases a;exact⟨YA _,[],rfl,Zc,λK hs cs vs e _ _=>e.elim⟩
def Zga{K}{H}(h:RT K d r):Y0 K H (one d) (Cj r)/\Us (one d)=[]:=by cases d with
 |tc j i=>obtain⟨v,l,rfl,a,b⟩:=h;cases i with|tn=>subst b;exact⟨Y0.Hj (R1.oY a),a.1⟩|tc k m=>obtain⟨e,c,rfl,f,g⟩:=b;refine⟨⟨v::e::c,?_,v,_,rfl,a,e,c,rfl,f,g⟩,rfl⟩;unfold Cj;rw[dif_neg Zc]|_=>exact b.elim
 |tn=>subst h;exact⟨rfl,rfl⟩|_=>exact h.elim
def PD(K:KK):L (Nat×Nat×Nat×TV)->HP->Prop|[],_=>True|(c,f,m,w)::fs,i=>∃(d:Ty)(b:L d.den)(e g h:HP)(a:L Value)(v:Value),w=⟨.YS f (.own d),b⟩/\i.Perm (e++g++h)/\a.length=b.length/\m<b.length/\(∀c v,a[c]?=some v->K.fm f c=some v)/\Row 1 (rel K (.own d)) e (a.take (m*1)) (b.take m)/\Row 1 (rel K (.own d)) g (a.drop (m*1+1)) (b.drop (m+1))/\a[m]?=some v/\K.nm c=some v/\PD K fs h
def PD.mono{K K'}(h:K.le K'):∀{fs}{c},PD K fs c->PD K' fs c|[],_,_=>trivial|(d,f,m,w)::fs,c,⟨u,xs,h1,h2,g,vs,v,a,k,i,j,hv,l,n,ev,e,q⟩=>⟨u,xs,h1,h2,g,vs,v,a,k,i,j,λd v a=>h.fm _ _ _ (hv d v a),Row.imp (λ_ _ _ b=>Xw h b) l,Row.imp (λ_ _ _ b=>Xw h b) n,ev,h.nm _ _ e,PD.mono h q⟩
def PD.perm{K}{fs}(p:k.Perm s)(h:PD K fs k):PD K fs s:=by cases fs with|nil=>trivial|cons l fs=>obtain⟨g,j,b,c,d,i,v,a,e,f⟩:=h;exact⟨g,j,b,c,d,i,v,a,p.symm.trans e,f⟩
structure Bn(c c':CS):Prop where
 n:c.n<=c'.n
 ids:∀p∈c'.l,p∈c.l\/p.1<1000dj:(∀p∈c.l,ZJ c.g p.1=none)->∀p∈c'.l,ZJ c'.g p.1=none
 fs:∃fs,c'.f=fs++c.f/\∀x∈fs,(Yp x.2.1,x.2.2.2)∈c'.r\/(Yp x.2.1,x.2.2.2)∈c.l
def Iw(v:TV)(k:L (L Nat))(c:CS)(l:TV)(c':CS)(R:Bx):Prop:=∀(d:KK->Prop)(a:KK)(i h f:HP)(e:L Value),Q5 d a v.t v.x k e->ZS a c.l i->ZS a R h->PD a c.f f->Ot c.n c'.n a->∃b j g,(i++(h++f)).Perm (j++g)/\Vw c.n c'.n a b/\Q5 d b l.t l.x k e/\ZS b c'.l j/\PD b c'.f g
def VZ.trans{b c}(h:VZ S b)(k:VZ b c):VZ S c:=⟨k.n.trans h.n,k.ag.trans h.ag,λd e a=>h.UC _ _ (k.UC _ _ a)⟩
def Iw.skip{B}{x}{d}{c}{c'}(h:Iw ⟨B,x.2⟩ d.tail l c c' C):Iw ⟨.cons S B,x⟩ d l ⟨.cons S c.t,(x.1,c.x)⟩ c' C:=by rintro z e G F E D⟨g,i,rfl,q,a,r⟩w v t m;have⟨f,o,k,p,b,s,y,u⟩:=h _ e _ _ _ _ r w v t m;refine⟨f,o,k,p,b,⟨g,i,rfl,q,?_,s⟩,y,u⟩;cases hb:Kk _ with|true=>rw[hb]at a;exactλA j n=>a _ (b.le.trans j) n|false=>rw[hb]at a;exact Xw b.le a
def ZmS:∀{A}{v}{s}{c}{k},E6 A v s c k=some F->∃d c' j,k d c'=some F/\TS c c' j []/\Bn c c'/\VZ d.t v.t/\Iw v s c d c' j:=by
 have x2:∀{v:TV}{s:L (L Nat)}{c:CS}{k:TV->CS->Zg N},k v c=some F->∃d c' j,k d c'=some F/\TS c c' j []/\Bn c c'/\VZ d.t v.t/\Iw v s c d c' j:=by intro v s c k h;refine⟨v,c,[],h,TS.refl c,⟨YA _,λp b=>.inl b,λX=>X,⟨[],rfl,Zc⟩⟩,VZ.refl _,?_⟩;exactλHH z K D I cs hA sl sR V hf=>⟨z,K,D++I,Ue _,Vw.refl _ _ _,hA,sl,by cases S:c.f with|nil=>trivial|cons x fs=>
    obtain⟨i,f,m,M⟩:=x;rw[S]at V;obtain⟨e,u,h1,h2,J,y,v,w,b,K,T,hv,r1,r2,R,en,q⟩:=V;have yy:∀{fs:L (Nat×Nat×Nat×TV)}{J:HP},PD z fs J->PD z fs (J++D):=by intro fs;induction fs with|nil=>intro _ _;trivial|cons P fs U=>obtain⟨i,f,m,M⟩:=P;rintro J⟨e,u,h1,h2,y1,y,v,w,b,C⟩;exact⟨e,u,h1,h2,y1++D,y,v,w,by rw[<-Yc];exact b.append_right D,C.1,C.2.1,C.2.2.1,C.2.2.2.1,C.2.2.2.2.1,C.2.2.2.2.2.1,C.2.2.2.2.2.2.1,U C.2.2.2.2.2.2.2⟩
    exact⟨e,u,h1,h2,J++D,y,v,w,(Wr.trans (b.append_right D)).trans (by rw[Yc]),K,T,hv,r1,r2,R,en,yy q⟩⟩
 intro A;induction A with
 |cons t A _ U=>rintro⟨vt,G⟩s c k h;cases vt with
  |cons E Q=>
   have skip:(E6 A ⟨Q,G.2⟩ s.tail c λd c=>k ⟨.cons E d.t,(G.1,d.x)⟩ c)=some F->∃d c' j,k d c'=some F/\TS c c' j []/\Bn c c'/\VZ d.t (Ty.cons E Q)/\Iw ⟨.cons E Q,G⟩ s c d c' j:=by intro h;obtain⟨d,c',j,h,hT,B,x0,hM⟩:=U h;exact⟨_,c',j,h,hT,B,(VZ.refl E).cons x0,hM.skip⟩
   cases t with
   |hole i=>
    by_cases hb:∃f e,E=.YT f (.own e)
    ·obtain⟨f,e,rfl⟩:=hb;obtain⟨x,ex⟩:∃x,x=G:=⟨_,rfl⟩;replace h:(bif Kk s then none else Yv G.1 none λm=>QQ c (Yp f) λM c=>Sd (.YS f (.own e)) M λu=>O (ZF u (Zi m)) λP=>bif(ZJ c.g c.n).isNone&&Nat.blt c.n 1000then E6 A ⟨Q,G.2⟩ s.tail {c with n:=c.n+1,l:=(c.n,⟨.own e,P⟩)::c.l,f:=(c.n,f,m,⟨.YS f (.own e),u⟩)::c.f} λd c'=>k ⟨.cons (.hole c.n) d.t,((),d.x)⟩ c' else none)=some F:=h;rw[<-ex]at h;subst ex;obtain⟨x7,h9⟩:=dF h;clear h;obtain⟨_,h⟩|⟨m,T,h⟩:=Lo h9;·cases h
     obtain⟨M,a,W,g,h8⟩:=NK h;obtain⟨u,rfl,h7⟩:=Rv h8;obtain⟨P,hy,h6⟩:=Ti h7;obtain⟨S,h5⟩:=Yq h6;rw[YL]at S;obtain⟨y5,ys⟩:=S;obtain⟨d,c',j,h4,hT,B,x0,hM⟩:=U h5;have yt:a.n<1000:=by rwa[TN]at ys
     have z6:a.n=c.n:=g.S.n;have x6:a.f=c.f:=g.S.f;have x5:TS c c' (j++W) []:=(show TS c {a with n:=a.n+1,l:=(a.n,⟨.own e,P⟩)::a.l,f:=(a.n,f,m,⟨.YS f (.own e),u⟩)::a.f} W []from⟨g.S.r,g.S.q,g.S.g,g.S.s,g.S.mr,g.S.nd,g.S.mq,g.S.p⟩).trans hT;obtain⟨fs,xx,y7⟩:=B.fs;refine⟨_,c',j++W,h4,x5,⟨?_,?_,?_,⟨fs++[(a.n,f,m,⟨.YS f (.own e),u⟩)],?_,?_⟩⟩,VZ.cons ⟨rfl,rfl,λ_ _ h=>h.elim⟩ x0,?_⟩;·have:=B.n;have z5:a.n+1<=c'.n:=this;omega
     ·intro p b;obtain b|b:=B.ids p b
      ·obtain rfl|b:=XL b;·exact .inr yt
       ·exact .inl (g.sl p b)
      ·exact .inr b
     ·intro X;refine B.dj λp b=>?_;obtain rfl|b:=XL b;·exact Option.isNone_iff_eq_none.1 y5
      ·exact g.S.dj X p b
     ·rw[xx,Yc];show fs++_::a.f=_;rw[x6];rfl
     ·intro x hx;obtain hx|hx:=ZY hx
      ·obtain h|h:=y7 x hx;·exact .inl h
       ·obtain w|h:=XL h;·have Z:Yp x.2.1=a.n:=WX (·.1) w;simp only[Yp]at Z;omega
        ·exact .inr (g.sl _ h)
      ·rw[YV hx];obtain h|h:=ZY g.mem;·exact .inr h
       ·refine .inl ?_;rw[x5.r];exact Ym (.inl (Ym (.inr h)))
     ·rintro HH z K D I cs⟨d1,d2,rfl,l,kk,q⟩sl sR V hf;rw[x7]at kk;obtain⟨y3,y2,xb,z2,z1⟩:=ZS.append.1 sR;obtain⟨hb,x8,xa,⟨cb,⟨_,y,xi,xh⟩,_⟩,z4⟩:=g.M z K y2 sl z1;obtain⟨x9,yv⟩:=Zfh hy;obtain⟨g1,gu,g2,rfl,r1,ru,r2,_⟩:=Row.at xh x9;obtain⟨o,x1⟩:∃o,y[m]?=some o:=⟨y[m],Ve Y⟩;have Z:(y.drop (m*1)).take 1=[o]:=by rw[Ga,KL Y];have:=Ve (l:=y) (i:=m) Y;rw[x1]at this;cases this;rfl
      rw[Z,yv]at ru;obtain⟨_,y8⟩:=kk;have y6:d1=[o]/\o.oneCell'=true:=by
       obtain⟨w,_⟩|⟨i',u',w,R,rfl,ho⟩:=y8;·have H:x.1=none:=w;rw[T]at H;cases H
       ·have H:x.1=some i':=w;rw[T]at H;cases H;rw[xi m o x1]at R;cases R;exact⟨rfl,ho⟩
      obtain⟨rfl,ho⟩:=y6;have r:=KK.Fx (hf a.n Y (by have:=B.n;have z5:a.n+1<=c'.n:=this;omega)) o;have x3:Vw c.n (a.n+1) z (z.name a.n o):=⟨r.m,r.fm,r.le,λi hi=>r.nm i λh=>hi Y⟩;have y4:a.n+1<=c'.n:=B.n;obtain⟨K',yf,y0,b,x4,q',z3,z0⟩:=hM HH (z.name a.n o) (gu++x8) y3 (g1++g2++I) d2 (q.mono r.le) ⟨gu,x8,Ue _,⟨[o],Xw r.le ru,λM hw=>by rw[YV hw];exact KK.Oa⟩,z4.mono r.le⟩ (z2.mono r.le) ⟨e,u,g1,g2,I,y,o,rfl,Ue _,by have:=xh.length;simpa using this,x9,xi,Row.imp (λ_ _ _ h=>Xw r.le h) r1,Row.imp (λ_ _ _ h=>Xw r.le h) r2,x1,KK.Oa,by show PD _ a.f I;rw[x6];exact V.mono r.le⟩ (x3.fresh hf Y);refine⟨K',yf,y0,?_,x3.trans Y y4 x4,⟨[o],d2,rfl,rfl,?_,q'⟩,z3,z0⟩;·refine Zbd ?_ b;classical rw[VX]at xb xa⊢;intro xv;have a1:=xb xv;have a2:=xa xv;simp only[VU]at a1 a2⊢;omega
      ·rw[x7];exact⟨rfl,o,x4.le.nm _ _ KK.Oa,rfl,ho⟩
    ·refine skip (Eq.trans ?_ h);cases E with
     |YT f e=>cases e with|own e=>exact absurd ⟨f,e,rfl⟩ hb|_=>rfl
     |_=>rfl
   |_=>exact skip h
  |_=>cases t<;>exact x2 h
 |_=>intro v s c k h;exact x2 h
def iH{R}{r:R}:∀{fs}{l}{k},xq fs l k=some r->∃e,k e=some r/\(∀p∈e,p∈l\/∃x∈fs,∃(u:Ty)(xs ys:L u.den),x.2.2.2=⟨.YS x.2.1 (.own u),xs⟩/\p=(Yp x.2.1,⟨.YS x.2.1 (.own u),ys⟩)/\ys.length=xs.length)/\∀K g d,ZS K l g->PD K fs d->ZS K e (g++d)
 |[],l,k,a=>⟨l,a,λp b=>.inl b,λK g d j _=>j.more d⟩|(i,f,m,w)::fs,l,k,a=>by
  unfold xq at a;split at a
  ·rename_i x3 f' u xs Z;obtain⟨Q,a⟩:=Yq a;cases Wc Q;obtain⟨y0,rfl,N⟩:=Rv a;clear a;obtain⟨e,a,T,P⟩:=iH N;refine⟨e,a,λp b=>?_,λK g d j⟨u',x2,y,z,O,c,v,E,b,x0,S,W,r1,r2,q,I,o⟩=>?_⟩
   ·obtain b|⟨x,X,o⟩:=T p b
    ·obtain rfl|b:=XL b;·exact .inr ⟨_,XQ,u,xs,Xc xs m y0,rfl,rfl,Zc⟩
     ·exact .inl (GB p b)
    ·exact .inr ⟨x,XY _ X,o⟩
   ·injection E with F G;injection F with _ h;injection h with h;subst h;have H:=sT G;subst H;obtain⟨s,t,x1,⟨D,B,U⟩,V⟩:=ZS.get Z j;match D,(WU B)with
    |[p],_=>
     have J:p=v:=by have:=U p Zc;rw[I]at this;cases this;rfl
     subst J;have C:=Row.set (n:=1) S r1 r2 rfl B;have M:c.take (m*1)++[p]++c.drop (m*1+1)=c:=by
      rw[Ga];have A:m<c.length:=Y;have:c[m]=p:=by rw[Ve A]at q;cases q;rfl
      rw[Yc,C6,<-this,<-KL A,TM]
     rw[M]at C;refine(P K (y++(s++z)++t) O ⟨y++(s++z),t,Ue _,⟨[],⟨rfl,c,W,C⟩,Zc⟩,V⟩ o).perm ?_;classical grind
  ·cases a
def ZoR{K}{fs:L (Nat×Nat×Nat×TV)}(h1:Yx K C)(m:∀p∈o,p∈C\/∃x∈fs,∃(u:Ty)(xs ys:L u.den),x.2.2.2=⟨.YS x.2.1 (.own u),xs⟩/\p=(Yp x.2.1,⟨.YS x.2.1 (.own u),ys⟩)/\ys.length=xs.length)(h2:∀x∈fs,Yx K [(Yp x.2.1,x.2.2.2)]):Yx K o:=by
 intro i q xs l a k;obtain j|⟨x,n,u,r,ys,s,b,t⟩:=m _ l;·exact h1 i q _ j a k
 ·injection b with c d;injection d with e f;injection e with _ h;subst h;have g:=sT f;subst g;rw[fp c];refine h2 x n _ (.own u) r Zp a Y
def bC{K K2}(W:K2.fm=K.fm):∀{t},Uy t=true->∀{hs}{cs}{x},(∀b∈hs.bs,∀o,K2.m b o=K.m b o)->rel K t hs cs x->rel K2 t hs cs x:=by
 have r:∀{V:Type}{n:Nat}{s u:HP->L Value->V->Prop}{B:L Nat},(∀hs cs x,(∀b∈HP.bs hs,b∈B)->s hs cs x->u hs cs x)->∀{p:L V}{hs:HP}{cs:L Value},(∀b∈HP.bs hs,b∈B)->Row n s hs cs p->Row n u hs cs p:=by intro V n s u B d p;induction p with|nil=>intro hs cs _ q;exact q|cons x p f=>rintro hs cs a⟨x0,c',x3,g',j,rfl,x7,x8,q⟩;refine⟨x0,c',x3,g',j,rfl,x7,d _ _ _ (λb e=>a b (by rw[HP.Wo];exact Ym (.inl e))) x8,f (λb e=>a b (by rw[HP.Wo];exact Ym (.inr e))) q⟩
 intro t;induction t with|vec n t f=>exactλc hs cs x a d=>r (B:=hs.bs) (λI A U e h=>f c (λb m=>a b (e b m)) h) (λb a=>a) d|pair Z b O P=>intro c;simp only[Uy,YL]at c;rintro hs cs x a⟨G,l,w,y,rfl,D,Q,R⟩;exact⟨G,l,w,y,rfl,D,O c.1 (λb e=>a b (by rw[HP.Wo];exact Ym (.inl e))) Q,P c.2 (λb e=>a b (by rw[HP.Wo];exact Ym (.inr e))) R⟩|cons Z b O P=>intro c;simp only[Uy,YL]at c;rintro hs cs x a⟨G,l,w,y,rfl,D,Q,R⟩;exact⟨G,l,w,y,rfl,D,O c.1 (λb e=>a b (by rw[HP.Wo];exact Ym (.inl e))) Q,P c.2 (λb e=>a b (by rw[HP.Wo];exact Ym (.inr e))) R⟩|only t f=>exactλc hs cs x a d=>f c (x:=x) a d|YT x2 t _=>refineλc hs cs x a⟨j,d⟩=>⟨j,d.imp id λ⟨n,v,F,E,g,eo⟩=>⟨n,v,F,by rw[W];exact E,g,eo⟩⟩|own t f=>rintro c hs cs x a⟨b,k,C,h,rfl,g,i⟩;exact⟨b,k,C,h,rfl,g,f c (x:=x) (λb e=>a b (by simp only[HP.bs,Wb];exact XY _ e)) i⟩|opt t f=>refineλc hs cs x a d=>LX id ?_ d;rintro⟨X,b,k,C,h,F,rfl,g,i⟩;exact⟨X,b,k,C,h,F,rfl,g,f c (λb e=>a b (by simp only[HP.bs,Wb];exact XY _ e)) i⟩|full t f=>refineλc hs cs x a d=>LX id ?_ d;rintro⟨b,k,z,S,T,h,g,rfl,i,H,M⟩;exact⟨b,k,z,S,T,h,g,rfl,r (B:=HP.bs h) (λI A U e l=>f c (λb m=>a b (by simp only[HP.bs,Wb];exact XY _ (e b m))) l) (λb a=>a) i,H,M⟩|YU t f=>refineλc hs cs x a d=>LX id ?_ d;rintro⟨b,k,z,S,T,g,rfl,i,x4,H,M⟩;refine⟨b,k,z,S,T,g,rfl,r (B:=[]) (λI A U e l=>f c (λb m=>absurd (e b m) Zc) l) (λb a=>by simp[HP.bs]at a) i,λN v J=>?_,H,M⟩;rw[a b (by simp[HP.bs])];exact x4 N v J|map q v x5 x6=>intro c;simp only[Uy,YL]at c;rintro hs cs x a⟨b,es,x1,g,j,d⟩;refine⟨b,es,x1,g,j,F2.imp (λj X⟨⟨ck,e1,r1⟩,cv,e2,r2⟩=>⟨⟨ck,e1,x5 c.1 (by simp[HP.bs]) r1⟩,cv,e2,x6 c.2 (by simp[HP.bs]) r2⟩) d⟩|YS x2 t f=>exactλc hs cs x a⟨j,vs,J,i⟩=>⟨j,vs,λN v E=>by rw[W];exact J N v E,r (B:=hs.bs) (λI A U e h=>f c (λb m=>a b (e b m)) h) (λb a=>a) i⟩|int=>exactλ_ hs cs x _ d=>d|un _ _=>exactλ_ hs cs x _ d=>d|bool=>exactλ_ hs cs x _ d=>d|str=>exactλ_ hs cs x _ d=>d|nl=>exactλ_ hs cs x _ d=>d|_=>intro c;cases c
def ZiT{K K2}(e:K2.fm=K.fm)(g:K2.nm=K.nm):∀{B}{x},Uy (TJ B)=true->∀{hs},(∀b∈hs.bs,∀o,K2.m b o=K.m b o)->ZS K (VP B x) hs->ZS K2 (VP B x) hs|[],_,_,_,_,_=>trivial|(i,t)::B,x,h,hs,hb,⟨h1,h2,f,⟨cs,r,q⟩,j⟩=>by have c:(Uy t&&Uy _)=true:=h;rw[YL]at c;have d:=λb a=>hb b ((f.map _).mem_iff.2 (by rw[WW];exact Ym a));exact⟨h1,h2,f,⟨cs,bC e c.1 (λb a=>d b (.inl a)) r,Zp⟩,ZiT e g c.2 (λb a=>d b (.inr a)) j⟩
def rK(H:HM)(c:L Nat)(K:KK):Prop:=∀b∈c,∃a,H b=some a/\QA K a
def wg(f):¬Yp f<1000:=by simp only[Yp];omega
structure Zlv(K:KK)(hR:HP)(w:World)(HH:KK->Prop)(A:Ty)(B:List (Nat×Ty))(js:List (List Nat))(cs:List Value)(n:Nat)(c1 c:CS)(a:A.den)(x:(TJ B).den)(K3:KK)(hA hB hl hF:HP):Prop where
 gst:∀hs,GD K.m (hR++hs) w->GD K3.m (hA++hB++(hl++hF)++hs) w/\ZW w w K.m K3.m (hR++hs).bs (hA++hB++(hl++hF)++hs).bs
 le:K.le K3
 nm:∀i,¬(n<=i/\i<c1.n)->K3.nm i=K.nm i
 arg:Ge HH K3 c.s A a js hA cs
 box:ZS (K3.W1 c.s) (VP B x) hB
 sl:ZS K3 c.l hl
 fr:PD K3 c.f hF
 fl:Yx K3 c.l
 fb:Yx K3 (VP B x)fk:Vf K K3 c.r
 ff:∀y∈c.f,Yx K3 [(Yp y.2.1,y.2.2.2)]p:c.p=false->K3.m=K.m/\K3.fm=K.fm
def ZgA{n}{v v1}{V}{B}{a}{x}{H L}{i j X Z}(T1:TS {g:=C,n:=n} l o [])(S1:Bn {g:=C,n:=n} l)(M1:Iw v V {g:=C,n:=n} v1 l o)(F:Uf l H i X)(M2:ri S v1 V l a H i X)(G:Uf H L j Z)(M3:rh B H x L j Z){P}{K}{w}(hg:GD K.m (k++s) w)(hA:Q5 P K v.t v.x V r)(hS:ZS K (j++(i++o)) k)(hQ:∀p∈Z++(X++[]),∃h,WC K p.1 p.2 h)(hF:Yx K (j++(i++o)))(hf:Ot n l.n K):∃Q g1 g2 g3 g4,Zlv K k w P S B V r n l L a x Q g1 g2 g3 g4:=by
 obtain⟨m,zv,xb,z6,z4⟩:=ZS.append.1 hS;obtain⟨R,yt,xh,z5,z3⟩:=ZS.append.1 z4;obtain⟨E,T,c,xi,e,y8,z7,z2⟩:=M1 P K [] yt [] r hA trivial z3 trivial hf;have x3:∀p∈l.l,∀f,p.1≠Yp f:=λp b f M=>by
  obtain h|h:=S1.ids p b;·cases h
  ·rw[M]at h;exact wg f h
 have x1:∀p∈l.l,ZJ l.g p.1=none:=S1.dj λp b=>by cases b
 have x0:Yx E (j++(i++o)):=λf t z A u q=>by rw[e.fm];exact hF f t z A u q
 have xx:k.Perm (T++R++(m++c)):=by classical rw[VX]at xb xh xi⊢;intro O;have a1:=xb O;have a2:=xh O;have a3:=xi O;simp only[VU,O6]at a1 a2 a3⊢;omega
 have em:E.m=K.m:=e.m;have x8:GD E.m (T++R++(m++c)) w:=by rw[em];exact hg.left.perm xx
 have y6:Yx E (l.l++i):=λf t z A u q=>by
  obtain h|h:=ZY A;·exact absurd rfl (x3 _ h f)
  ·exact x0 f t z (by simp[h]) u q
 obtain⟨W,y,I,D,yf,zc,y3,x6,z0⟩:=M2 P w E T R r x8.left y8 z7 (z5.mono e.le) (λp b=>let⟨h,N⟩:=hQ p (by simp[b]);⟨h,N.mono e.le⟩) y6 x1;have x5:=D.frame (m++c);have xv:(y++I++(m++c)).Perm (I++m++(y++c)):=by classical rw[VX];intro O;simp only[VU];omega
 have y7:Yx W (H.l++j):=Yx.next (K:=E) F (λf t z A u q=>by
   obtain h|h:=ZY A
   ·obtain h|h:=ZY h;·exact x0 f t z (by simp[h]) u q
    ·exact x0 f t z (by simp[h]) u q
   ·exact absurd rfl (x3 _ h f)) y3 x6 x1 G.mr;obtain⟨Q,hB,x2,J,ys,zs,y4,y5,z1,fB⟩:=M3 w W I m ((x5.step x8).1.perm xv).left zc (z6.mono (e.le.trans D.le)) (λp b=>let⟨h,N⟩:=hQ p (by simp[b]);⟨h,N.mono (e.le.trans D.le)⟩) y7 (F.dj x1);have er:L.r=j++(i++o):=by rw[G.r,F.r,T1.r,XX]
 have xa:((j++(i++o)).map (·.1)).Nodup:=by have:=((T1.trans F.ts).trans G.ts).nd;exact this
 have x7:∀f,(∀p∈i++j,p.1≠Yp f)->Q.fm f=K.fm f:=by
  intro f U;have h2:∀p∈l.l++i,p.1≠Yp f:=λp b=>(ZY b).elim (λh=>x3 p h f) λh=>U p (by simp[h]);have h3:∀p∈H.l++j,p.1≠Yp f:=by
   intro p b;obtain h|h:=ZY b;·obtain⟨N,hq,M⟩:=F.ids p h;rw[<-M];exact h2 N hq
   ·exact U p (by simp[h])
  rw[y5 f h3,x6 f h2,e.fm]
 have ef:L.f=l.f:=by rw[G.f,F.f]
 refine⟨Q,y,hB,x2,c,⟨λd h=>?_,e.le.trans (D.le.trans J.le),λu q=>by rw[J.nm,D.nm];exact e.nm u q,yf.mono J.le G.s,ys,zs,by rw[ef];exact z2.mono (D.le.trans J.le),y4,fB,?_,?_,?_⟩⟩
 ·have q1:(k++d).Perm (T++R++(m++c)++d):=xx.append_right d;obtain⟨g2,f2⟩:=(x5.frame d).step (by rw[em];exact h.perm q1);have q2:(y++I++(m++c)++d).Perm (I++m++(y++c++d)):=by have:=xv.append_right d;simpa only[Yc]using this
  obtain⟨g3,f3⟩:=(J.frame (y++c++d)).step (g2.perm q2);have q3:(hB++x2++(y++c++d)).Perm (y++hB++(x2++c)++d):=by classical rw[VX];intro O;simp only[VU];omega
  refine⟨g3.perm q3,?_⟩;have y2:ZW w w K.m W.m (k++d).bs (y++I++(m++c)++d).bs:=by have:=ZW.Qm q1 f2;rwa[em]at this
  exact y2.trans (ZW.Qm q2 (ZW.Od q3 f3))
 ·refineλf U=>x7 f λp b=>U p ?_;rw[er];obtain h|h:=ZY b<;>simp[h]
 ·intro x4 hy;rw[ef]at hy;obtain⟨fs,y0,yv⟩:=S1.fs;have y1:l.f=fs:=by rw[y0];exact XX _
  rw[y1]at hy;have yy:(Yp x4.2.1,x4.2.2.2)∈o:=by
   obtain h|h:=yv x4 hy;·rwa[T1.r,XX]at h
   ·cases h
  intro f t z A u q;have x9:(Yp f,(⟨.YS f t,z⟩:TV))∈o:=by rw[YV A];exact yy
  rw[x7 f λp b M=>?_];·exact hF f t z (by simp[x9]) u q
  ·rw[<-Yc,WW,T5]at xa;refine xa.2.2 p.1 (Ol ⟨p,?_,rfl⟩) (Yp f) (VV (f:=(·.1)) x9) M;obtain h|h:=ZY b;·exact Ym (.inr h)
   ·exact Ym (.inl h)
 ·intro b;rw[z1 b,z0 (G.p b)];exact⟨e.m,e.fm⟩
def ZW.ZqM{w'}{m f}{c d}{e}(h:ZW K w' m f c d)(hs:∀b∈c,b∈e):ZW K w' m f e d:={h with Vu:=λb a g=>h.Vu b a Zp,own:=λb a=>(h.own b a).imp (hs b) id}
structure jK(C:Ty)(B D:List (Nat×Ty))(x:(TJ B).den)(y:(TJ D).den)(z:C.den)(K:KK)(hA hB hx:HP)(w:World)(v:Value)(w':World)(K':KK)(hC hD:HP):Prop where
 le:K.le K'
 nm:K'.nm=K.nm
 res:∃cs rs,v=Cj rs/\UC C cs rs/\rel K' C hC cs z
 gd:GD K'.m (hC++hD++hx) w'
 JA:ZW w w' K.m K'.m (hA++hB++hx).bs (hC++hD++hx).bs
 sat:ZS K' (VP D y) hD
 YT:Yx K' (VP D y)fk:Vf K K' (VP B x)
def K9.ZmK{a}{x}{r}{K}{hx}{w}{v}{w'}{K'}{hC b}(h:K9 a x r K k s hx w v w' K' hC b)(i:a.u=false):jK a.C a.B a.D x (a.dec r).2 (a.dec r).1 K k s hx w v w' K' hC b:=let⟨c,d,e,f,g⟩:=h.full i
 ⟨h.le,h.nm,h.res,c,d,e,f,g⟩
def K9.ZmL{a}{x}{r}{K}{hx}{w}{v}{w'}{K'}{hC i}(h:K9 a x r K k s hx w v w' K' hC i)(q:a.u=true)(m:GD K.m (k++s++hx) w)(hs:ZS K (VP a.B x) s)(l:Yx K (VP a.B x)):jK a.C a.B a.B x x (a.dec r).1 K k s hx w v w' K' hC s:=by
 have⟨g,e,c⟩:=h.only q;have n:GD K.m ([]++(s++hx)) w:=by have:(k++s++hx).Perm (k++(s++hx)):=Zc;simpa using(m.perm this).right
 have⟨z,f⟩:=GD.frame n g e;refine⟨h.le,h.nm,h.res,Zp,?_,hs.mono h.le,λb u A p t o=>by rw[c];exact l b u _ p t o,λb _=>Zp⟩;have d:HP.bs (hC++s++hx)=HP.bs (hC++(s++hx)):=Zc;rw[d];refine ZW.ZqM f λy j=>?_;simp only[HP.bs,WW,Sr,UG]at j⊢;grind
def yP(Z:XF)(e:En)(n:Nat)(xs:L Operand)(g:FuncId)(v:TV)(j:L (L Nat))(f:Ww):Prop:=∀b a h i o c,TP Z e n f xs b a h i o c->∀d l,UC v.t d l->Q5 (rK a j.flatten) b v.t v.x j d->Calls Z.P g l.toArray c λp r=>∃k,p=.returned k/\∃m q,Aft n f b a h i c k r m q
def Zdh{e:En}{n:Nat}{i}{v v1}{P}{xs}{D}{r0}{y}{a}{x}{c2 h}{R2 R3 Q2 Q3}{q l1 l2 l'}{Z}(ab:U4 J i)(al:∀g tv,Qa J.gl g=some tv->tv.t.nh=true)(T1:TS {g:=C,n:=n} l o [])(S1:Bn {g:=C,n:=n} l)(z3:VZ v1.t v.t)(M1:Iw v P {g:=C,n:=n} v1 l o)(S2:Uf l c2 R2 Q2)(z4:VZ i.A v1.t)(M2:ri i.A v1 P l a c2 R2 Q2)(S3:Uf c2 h R3 Q3)(M3:rh i.B c2 x h R3 Q3)(hC:i.C.nh=true)(hD:DX h.s D=true)(hB:FA h i.B=true)(N:i.m a x=some r0)(hq:IR C P.flatten=some q)(y8:P.flatten=[]\/Uy i.C=true/\Uy (TJ D)=true)(hj:∀j∈P.flatten,ZJ h.r j=none)(h1:Hw h.s h.f D y h.n h.l=(A,l1))(h2:Lm i.C (i.dec r0).1 A l1=(d,Z,l2))(a7:∀p∈l',p∈l2\/∃x∈h.f,∃(d:Ty)(xs ys:L d.den),x.2.2.2=⟨.YS x.2.1 (.own d),xs⟩/\p=(Yp x.2.1,⟨.YS x.2.1 (.own d),ys⟩)/\ys.length=xs.length)(a8:∀K hl hF,ZS K l2 hl->PD K h.f hF->ZS K l' (hl++hF))(a6:∀{K}{hA hB hx}{w}{v}{w'}{K'}{hC hD},K9 i x r0 K hA hB hx w v w' K' hC hD->GD K.m (hA++hB++hx) w->ZS K (VP i.B x) hB->Yx K (VP i.B x)->∃M,jK i.C i.B D x y (i.dec r0).1 K hA hB hx w v w' K' hC M):n<=Z/\yP J e n xs i.f v P ⟨one d,q++h.q,h.r,l',Z⟩:=by
 obtain⟨c4,c7,y2,z6,zc⟩:=cE h1 hD;obtain⟨c5,c8,y3,be,zs⟩:=Zgd h2 hC;have bs:h.n=l.n:=by rw[S3.n,S2.n]
 have c6:n<=l.n:=S1.n;have er:h.r=R3++(R2++o):=by have e1:l.r=o++[]:=T1.r;rw[S3.r,S2.r,e1,XX]
 have eq:h.q=Q3++(Q2++[]):=by have e1:l.q=[]++[]:=T1.q;rw[S3.q,S2.q,e1];rfl
 refine⟨Y,λK H hr hx ac w O cs vs hv hA=>?_⟩;have c0:Z<=500:=O.lt;obtain⟨G,xh,x5,R,W,u⟩:=ZgA (B:=i.B) T1 S1 M1 S2 M2 S3 M3 O.gd hA (by rw[<-er];exact O.sr) (λp I=>by obtain⟨c,_,z,_⟩:=O.rd p (Ym (.inr (by rw[eq];exact I)));exact⟨c,z⟩) (by rw[<-er];exact O.YT) λb h1 h2=>O.fr b h1 (by show b<Z;omega);obtain⟨r,F,x8,bv,z7,y6⟩:∃r F,hx.Perm (r++F)/\(∀x∈r,x∈hx)/\(∀j∈P.flatten,∃c,H j=some c/\∀x∈c,x∈r)/\(P.flatten=[]->r=[]):=by
  by_cases yv:P.flatten=[];·exact⟨[],hx,Ue _,Zc,by rw[yv];simp,λ_=>rfl⟩
  ·obtain⟨r,bl,p1,p2,p3⟩:=aK (hx.filter λx=>@decide (∃j∈P.flatten,∃c,H j=some c/\x∈c) (Classical.propDecidable _)) hx;refine⟨r,bl,p1,λx F=>(p2 x F).2,λj x4=>?_,λe=>absurd e yv⟩;obtain⟨_,x6⟩:=E7 hq;obtain⟨uv,_,yy⟩:=x6 j x4;obtain⟨c,eh,_,_⟩:=O.rd (j,uv) (Ym (.inl yy));have yt:=O.rx (j,uv) (Ym (.inl yy)) (λq hq e=>iJ (hj j x4) q hq e) c eh;refine⟨c,eh,λx F=>p3 x (yt x F) (List.mem_filter.2 ⟨yt x F,@PB _ (Classical.propDecidable _) ⟨j,x4,c,eh,F⟩⟩)⟩
 obtain⟨g3,f3⟩:=u.gst hx O.gd;have q1:(xh++x5++(R++W)++hx).Perm (r++(xh++x5++(R++(W++F)))):=by classical rw[VX]at x8⊢;intro x0;have:=x8 x0;simp only[VU]at this⊢;omega
 have g4:=g3.perm q1;have gl:=eA g4;have x9:G.le (G.Nu r w):=eB g4;have ai:rK H P.flatten (G.Nu r w):=λj x4=>by obtain⟨c,eh,hs⟩:=z7 j x4;exact⟨c,eh,λx F=>Zfg g4 x (hs x F)⟩
 have ag:NW J ((G.Nu r w).W1 h.s):=λg tv eg=>by obtain⟨ds,b1,a4⟩:=O.gl g tv eg;exact⟨ds,FT (al g tv eg) (Xw (u.le.trans x9) b1),a4.mono (u.le.trans x9).m⟩
 have x6:ZS ((G.Nu r w).W1 h.s) (VP i.B x) x5:=u.box.mono (KK.Hy x9 λ_ _ c=>c);refine(ab.2 a x r0 N ((G.Nu r w).W1 h.s) xh x5 (R++(W++F)) cs vs w gl ag (z4.UC _ _ (z3.UC _ _ hv)) (u.arg.rel x9 ai) x6 u.fb).mono ?_;rintro en w'⟨rv,rfl,K',V,bt,b3⟩;refine⟨rv,rfl,?_⟩;obtain⟨M,S⟩:=a6 b3 gl x6 u.fb;obtain⟨gb,fb⟩:=Zc6 g4 S.gd S.JA;obtain⟨y0,rs,ev,b6,z1⟩:=S.res;obtain⟨E,T⟩:∃E:KK,E=⟨G.nm,K'.fm,qc G.m K'.m r⟩:=⟨_,rfl⟩;have bi:G.le E:=by rw[T];refine⟨λ_ _ c=>c,λf b v c=>S.le.fm f b v c,fb.le⟩
 have y5:(E.W1 h.s).nm=K'.nm:=by rw[S.nm,T];rfl
 have xa:(E.W1 h.s).fm=K'.fm:=by rw[T];rfl
 have y7:∀k∈HP.bs (V++M++(R++(W++F))),k∉HP.bs r:=λk z a5=>by have:=gb.nodup;rw[HP.Wo,T5]at this;exact this.2.2 k a5 k z rfl
 have xi:∀k,k∉HP.bs r->∀Q,(E.W1 h.s).m k Q=K'.m k Q:=λk z Q=>by rw[T];show(if k∈HP.bs r then G.m k Q else K'.m k Q)=_;rw[Ys z]
 have e0:r=[]->E.W1 h.s=K':=λe=>by
  have h1:(E.W1 h.s).m=K'.m:=by funext k Q;exact xi k (by rw[e];simp[HP.bs]) Q
  cases hK:E.W1 h.s with|mk a1 a2 a3=>rw[hK]at y5 xa h1;cases K';simp_all
 have b2:rel E i.C V y0 (i.dec r0).1:=by
  refine mJ (s:=h.s) hC ?_;obtain c|⟨c,_⟩:=y8;·rw[e0 (y6 c)];exact z1
  ·exact bC xa c (λk z Q=>xi k (y7 k (by simp only[HP.bs,WW,Sr]at z⊢;exact .inl (.inl z))) Q) z1
 have b4:ZS (E.W1 h.s) (VP D y) M:=by
  obtain c|⟨_,c⟩:=y8;·rw[e0 (y6 c)];exact S.sat
  ·exact ZiT xa y5 c (λk z Q=>xi k (y7 k (by simp only[HP.bs,WW,Sr]at z⊢;exact .inl (.inr z))) Q) S.sat
 have yf:∀b,l.n<=b->b<Z->E.nm b=none:=λb h1 h2=>by rw[T];show G.nm b=none;rw[u.nm b Y];exact O.fr b Y h2
 obtain⟨K5,x2,zz⟩:=zc E M b4 λb h1 h2=>yf b Y Y;obtain⟨U,x3,zv,a0⟩:=zs K5 V y0 rs b6 (Xw x2.le b2) λb h1 h2=>(x2.nm b Y).trans (yf b Y h2);have xx:G.le U:=bi.trans (x2.le.trans x3.le);have b5:ZS U l2 (V++(M++R)):=by rw[y3,y2];exact ZS.append.2 ⟨V,M++R,Ue _,a0,ZS.append.2 ⟨M,R,Ue _,zz.mono x3.le,u.sl.mono xx⟩⟩
 have y4:U.m=E.m:=x3.m.trans x2.m;have y1:U.fm=K'.fm:=(x3.fm.trans x2.fm).trans (by rw[T]);obtain⟨ro,rl⟩:=Zga (H:=H) zv;have z0:(r++(V++M++(R++(W++F)))).Perm (V++(M++R)++W++hx):=by classical rw[VX]at x8⊢;intro x0;have:=x8 x0;simp only[VU]at this⊢;omega
 have z5:∀f,(∀p∈h.r,p.1≠Yp f)->∀p∈VP i.B x,p.1≠Yp f:=by
  intro f x7;have xv:∀(B:L (Nat×Ty))(x:(TJ B).den),FA h B=true->∀p∈VP B x,p.1≠Yp f:=by intro B;induction B with|nil=>intro x _ p I;cases I|cons y B ih=>
    obtain⟨b,t⟩:=y;intro x x1 p I;simp only[FA,yp,YL]at x1;obtain rfl|I:=XL I
    ·intro e;have h0:=x1.1;have z:Nat.blt b 1000=false:=by cases c:Nat.blt b 1000with|false=>rfl|true=>rw[TN]at c;exact absurd (show Yp f<1000from e▸c) (wg f)
     rw[z,ja,YL]at h0;obtain⟨q,b0,e'⟩:=jd h0.1;exact x7 q b0 ((Wc e').trans e)
    ·exact ih x.2 (by simpa[FA]using x1.2) p I
  exact xv i.B x hB
 have xb:∀f,(∀p∈VP i.B x,p.1≠Yp f)->U.fm f=G.fm f:=λf c=>by rw[y1,S.fk f c];rfl
 have z2:∀f,(∃p∈h.l,p.1=Yp f)\/(∃x∈h.f,x.2.1=f)->∀p∈VP i.B x,p.1≠Yp f:=by
  intro f hf;have xv:∀(B:L (Nat×Ty))(x:(TJ B).den),FA h B=true->∀p∈VP B x,p.1≠Yp f:=by intro B;induction B with|nil=>intro x _ p I;cases I|cons y B ih=>
    obtain⟨b,t⟩:=y;intro x x1 p I;simp only[FA,yp,YL]at x1;obtain rfl|I:=XL I
    ·intro e;have e':b=Yp f:=e;have h0:=x1.1;have z:Nat.blt b 1000=false:=by cases c:Nat.blt b 1000with|false=>rfl|true=>rw[TN]at c;exact absurd (show Yp f<1000from e'▸c) (wg f)
     rw[z,ja,YL,YL]at h0;obtain⟨_,h3,h4⟩:=h0;obtain⟨p,ar,av⟩|⟨x0,b7,b8⟩:=hf;·have:(h.l.any λp=>Nat.beq p.1 b)=true:=yq ⟨p,ar,by rw[It];exact av.trans e'.symm⟩;rw[this]at h4;cases h4
     ·have:(h.f.any λx=>Nat.beq (Yp x.2.1) b)=true:=yq ⟨x0,b7,by rw[It,b8];exact e'.symm⟩;rw[this]at h3;cases h3
    ·exact ih x.2 (by simpa[FA]using x1.2) p I
  exact xv i.B x hB
 have ad:Yx U l2:=by
  rw[y3,y2];refine Yx.append (λf t xs N b X=>?_) (Yx.append (λf t xs N b X=>?_) λf t xs N b X=>?_);·have h1:A<=1000+f/\1000+f<Z:=be _ N;omega
  ·have:=z6 f t xs N Y;rw[y1];exact S.YT f t xs this b X
  ·rw[xb f (z2 f (.inl ⟨_,N,rfl⟩))];exact u.fl f t xs N b X
 refine⟨U,V++(M++R)++W,⟨by rw[y4,T];exact gb.perm z0,?_,⟨u.le.trans xx,λb X=>?_⟩,by rw[ev];exact ro,a8 U _ W b5 (u.fr.mono xx),?_,?_⟩⟩;·rw[y4,T];exact f3.trans (ZW.Qm q1 (ZW.Od z0 fb))
 ·have bx:¬(n<=b/\b<Z):=X;rw[x3.nm b Y,x2.nm b Y,T];exact u.nm b Y
 ·refine ZoR ad a7 λx0 hz=>λf t xs N b X=>?_;injection(YV N)with e1 e2;rw[xb f (z2 f (.inr ⟨x0,hz,(fp e1).symm⟩))];exact u.ff x0 hz f t xs N b X
 ·intro f x7;rw[xb f (z5 f x7)];exact u.fk f x7
def Zpg{K}{H:HM}{hx}(D:(HP.bs hx).Nodup):∀{l},(l.map (·.1)).Nodup->(∀p∈l,∃h,H p.1=some h/\WC K p.1 p.2 h/\∀x∈h,x∈hx)->(∀p∈l,∀q∈l,p.1≠q.1->∀h h',H p.1=some h->H q.1=some h'->∀x∈h,x∉h')->(∀p∈l,∀h,H p.1=some h->(HP.bs h).Nodup)->∃b rest,hx.Perm (b++rest)/\ZS K l b/\∀x∈b,∃p∈l,∃h,H p.1=some h/\x∈h:=by intro l;induction l with|nil=>exactλ_ _ _ _=>⟨[],hx,Ue _,trivial,Zc⟩|cons p l L=>
  intro j o r s;rw[Wb,Ss]at j;obtain⟨b,rest,e,G,t⟩:=L j.2 (λq a=>o q (XY _ a)) (λq a P E=>r q (XY _ a) P (XY _ E)) λq a=>s q (XY _ a);obtain⟨h,i,B,I⟩:=o p XQ;have F:∀x∈h,x∈rest:=by
   intro x g;obtain h'|h':=ZY (e.mem_iff.1 (I x g));·obtain⟨q,a,C,A,J⟩:=t x h';exact absurd J (r p XQ q (XY _ a) (λc=>j.1 (by rw[c];exact VV (f:=(·.1)) a)) h C i A x g)
   ·exact h'
  obtain⟨d,m,k,N,O⟩:=aK h rest;have u:(HP.bs (b++(d++m))).Nodup:=by have:((b++(d++m)).map λx:Nat×Nat×Obj=>x.1).Nodup:=((e.trans (V5 b k)).map λx:Nat×Nat×Obj=>x.1).nodup_iff.1 D;exact this
  have M:(HP.bs d).Nodup:=by rw[HP.Wo,HP.Wo,T5,T5]at u;exact u.2.1.1
  have v:d.Perm h:=(List.perm_ext_iff_of_nodup (List.Pairwise.of_map _ (λ_ _ h c=>h (WX _ c)) M) (List.Pairwise.of_map _ (λ_ _ h c=>h (WX _ c)) (s p XQ h i))).2 λx=>⟨λh'=>(N x h').1,λh'=>O x (F x h') h'⟩;refine⟨h++b,m,?_,⟨h,b,Ue _,B,G⟩,?_⟩;·classical rw[VX]at e k v⊢;intro n;have w:=e n;have y:=k n;have z:=v n;simp only[VU]at w y z⊢;omega
  ·intro x g;obtain h'|h':=ZY g;·exact⟨p,XQ,h,i,h'⟩
   ·obtain⟨q,a,Q⟩:=t x h';exact⟨q,XY _ a,Q⟩
def Zm3{e:En}{n:Nat}{u}{v v1}{I}{xs}{r0}{a}{x}{c2 b}{R2 R3 Q2 Q3}{q l2}(zc:U4 J u)(a7:∀g tv,Qa J.gl g=some tv->tv.t.nh=true)(hu:u.u=true)(T1:TS {g:=C,n:=n} l o [])(S1:Bn {g:=C,n:=n} l)(y3:VZ v1.t v.t)(M1:Iw v I {g:=C,n:=n} v1 l o)(Z:Uf l c2 R2 Q2)(y4:VZ u.A v1.t)(M2:ri u.A v1 I l a c2 R2 Q2)(S3:Uf c2 b R3 Q3)(M3:rh u.B c2 x b R3 Q3)(hC:u.C.nh=true)(hm:u.m a x=some r0)(hq:IR C I.flatten=some q)(ab:b.p=false)(zs:I.flatten=[]\/Uy u.C=true)(hj:∀j∈I.flatten,ZJ b.r j=none)(h2:Lm u.C (u.dec r0).1 b.n []=(d,A,l2)):n<=A/\yP J e n xs u.f v I ⟨one d,q++(b.q++b.r),[],l2,A⟩:=by
 obtain⟨bh,b2,xb,av,z1⟩:=Zgd h2 hC;have b4:b.n=l.n:=by rw[S3.n,Z.n]
 have bi:n<=l.n:=S1.n;have er:b.r=R3++(R2++o):=by have S:l.r=o++[]:=T1.r;rw[S3.r,Z.r,S,XX]
 have eq:b.q=Q3++(Q2++[]):=by have S:l.q=[]++[]:=T1.q;rw[S3.q,Z.q,S];rfl
 refine⟨Y,λK H w hx ac D r cs vs hv hA=>?_⟩;have be:A<=500:=r.lt;have U:∀p∈b.r,p∈q++(b.q++b.r):=λp G=>by simp[G]
 obtain⟨W,Q,V,sR,b0⟩:=Zpg (H:=H) (K:=K) (hx:=hx) r.gd.right.nodup (by rw[er];exact((T1.trans Z.ts).trans S3.ts).nd) λp G=>by obtain⟨h,O,F,_⟩:=r.rd p (U p G);exact⟨h,O,F,r.rx p (U p G) Zc h O⟩
  (λp a8 q' ad a6 h h' S e2=>r.dj p (U p a8) q' (U q' ad) a6 h h' S e2) λp G h S=>r.ndd p (U p G) h S;have xi:(w++hx).Perm (W++(w++Q)):=by classical rw[VX]at V⊢;intro R;have:=V R;simp only[VU]at this⊢;omega
 obtain⟨L,x3,x4,x6,x5,E⟩:=ZgA (B:=u.B) T1 S1 M1 Z M2 S3 M3 (r.gd.perm xi) hA (by rw[<-er];exact sR) (λp G=>by obtain⟨h,_,F,_⟩:=r.rd p (Ym (.inr (Ym (.inl (by rw[eq];exact G)))));exact⟨h,F⟩) (by rw[<-er];exact r.ZoS.sub U) λz h1 h2=>r.fr z h1 (by show z<A;omega);obtain⟨y6,y5⟩:=E.p ab;obtain⟨c,i,X,b7,yy,z0,b6⟩:∃c i,Q.Perm (c++i)/\(∀x∈c,x∈Q)/\(∀j∈I.flatten,∃h,H j=some h/\∀x∈h,x∈c)/\(I.flatten=[]->c=[])/\True:=by
  by_cases xv:I.flatten=[];·exact⟨[],Q,Ue _,Zc,by rw[xv];simp,λ_=>rfl,trivial⟩
  ·obtain⟨c,b3,p1,p2,p3⟩:=aK (Q.filter λx=>@decide (∃j∈I.flatten,∃h,H j=some h/\x∈h) (Classical.propDecidable _)) Q;refine⟨c,b3,p1,λx i=>(p2 x i).2,λj x0=>?_,λe=>absurd e xv,trivial⟩;obtain⟨_,z6⟩:=E7 hq;obtain⟨uv,_,a5⟩:=z6 j x0;have x7:(j,uv)∈q++(b.q++b.r):=Ym (.inl a5);obtain⟨h,O,_,_⟩:=r.rd (j,uv) x7;have y1:∀x∈h,x∈Q:=λx i=>by
    obtain h'|h':=ZY (V.mem_iff.1 ((r.rx (j,uv) x7 Zc h O) x i));·obtain⟨p,G,yv,e2,ar⟩:=b0 x h';exact absurd ar (r.dj (j,uv) x7 p (U p G) (λe3=>iJ (hj j x0) p G e3.symm) h yv O e2 x i)
    ·exact h'
   exact⟨h,O,λx i=>p3 x (y1 x i) (List.mem_filter.2 ⟨y1 x i,@PB _ (Classical.propDecidable _) ⟨j,x0,h,O,i⟩⟩)⟩
 obtain⟨g3,f3⟩:=E.gst (w++Q) (r.gd.perm xi);have q1:(x3++x4++(x6++x5)++(w++Q)).Perm (c++(x3++x4++(x6++(x5++(w++i))))):=by classical rw[VX]at X⊢;intro R;have:=X R;simp only[VU]at this⊢;omega
 have g4:=g3.perm q1;have x2:L.le (L.Nu c D):=eB g4;have zz:rK H I.flatten (L.Nu c D):=λj x0=>by obtain⟨h,O,hs⟩:=yy j x0;exact⟨h,O,λx i=>Zfg g4 x (hs x i)⟩
 have zv:NW J ((L.Nu c D).W1 b.s):=λg tv eg=>by obtain⟨ds,ag,z4⟩:=r.gl g tv eg;exact⟨ds,FT (a7 g tv eg) (Xw (E.le.trans x2) ag),z4.mono (E.le.trans x2).m⟩
 refine(zc.2 a x r0 hm ((L.Nu c D).W1 b.s) x3 x4 (x6++(x5++(w++i))) cs vs D (eA g4) zv (y4.UC _ _ (y3.UC _ _ hv)) (E.arg.rel x2 zz) (E.box.mono (KK.Hy x2 λ_ _ h=>h)) E.fb).mono ?_;rintro en w'⟨rv,rfl,M,T,b5,x8⟩;refine⟨rv,rfl,?_⟩;obtain⟨gc,ys,ec⟩:=x8.only hu;obtain⟨x9,rs,ev,al,y2⟩:=x8.res;have q2:(w++hx).Perm (c++(W++(w++i))):=by classical rw[VX]at V X⊢;intro R;have a1:=V R;have a2:=X R;simp only[VU]at a1 a2⊢;omega
 have g5:=r.gd.perm q2;have yt:GD (wV K.m c D) (W++(w++i)) D:=eA (K:=K) g5;have y7:(L.Nu c D).m=wV K.m c D:=by show wV L.m c D=_;rw[y6]
 obtain⟨g6,f6⟩:=GD.frame (h1:=[]) (by simpa using yt) gc (by rw[<-y7];exact ys);obtain⟨gb,fb⟩:=Zc6 (K:=K) g5 g6 (by
  have yf:ZW D w' (wV K.m c D) M.m (HP.bs (W++(w++i))) (HP.bs (T++(W++(w++i)))):=by simpa using f6
  exact yf);obtain⟨y,N⟩:∃y:KK,y=⟨L.nm,L.fm,qc K.m M.m c⟩:=⟨_,rfl⟩;have y8:(y.W1 b.s).nm=M.nm:=by rw[x8.nm,N];rfl
 have xa:(y.W1 b.s).fm=M.fm:=by rw[N,ec];rfl
 have z7:∀k∈HP.bs T,k∉HP.bs c:=λk F z5=>by have:=gb.nodup;rw[HP.Wo,T5]at this;exact this.2.2 k z5 k (by rw[HP.Wo];exact Ym (.inl F)) rfl
 have xx:∀k,k∉HP.bs c->∀P,(y.W1 b.s).m k P=M.m k P:=λk F P=>by rw[N];show(if k∈HP.bs c then K.m k P else M.m k P)=_;rw[Ys F]
 have ai:rel y u.C T x9 (u.dec r0).1:=by
  refine mJ (s:=b.s) hC ?_;obtain h|h:=zs
  ·have e0:y.W1 b.s=M:=by
    have h1:(y.W1 b.s).m=M.m:=by funext k P;exact xx k (by rw[z0 h];simp[HP.bs]) P
    cases hK:y.W1 b.s with|mk a1 a2 a3=>rw[hK]at y8 xa h1;cases M;simp_all
   rw[e0];exact y2
  ·exact bC xa h (λk F P=>xx k (z7 k F) P) y2
 obtain⟨K6,x1,z2,z3⟩:=z1 y T x9 rs al ai λz h1 h2=>by rw[N];show L.nm z=none;rw[E.nm z Y];exact r.fr z Y h2
 have b1:K.le y:=by rw[N];exact⟨E.le.nm,E.le.fm,fb.le⟩
 obtain⟨ro,rl⟩:=Zga (H:=H) z2;have y0:(c++(T++(W++(w++i)))).Perm (T++hx++w):=by classical rw[VX]at V X⊢;intro R;have a1:=V R;have a2:=X R;simp only[VU]at a1 a2⊢;omega
 have xh:K6.m=y.m:=x1.m;refine⟨K6,T,⟨by rw[xh,N];exact(gb.perm y0).left,?_,⟨b1.trans x1.le,λz hi=>?_⟩,by rw[ev];exact ro,by rw[xb,XX];exact z3,?_,?_⟩⟩;·rw[xh,N];refine(ZW.Qm q2 (ZW.Od y0 fb)).sub λk F=>?_;rw[HP.Wo];exact Ym (.inl F)
 ·have b8:¬(n<=z/\z<A):=hi;rw[x1.nm z Y,N];exact E.nm z Y
 ·intro f t xs a0 z hi;have a4:(Yp f,(⟨.YS f t,xs⟩:TV))∈b2:=by have:(Yp f,(⟨.YS f t,xs⟩:TV))∈l2:=a0;rwa[xb,XX]at this
  have h1:b.n<=1000+f/\1000+f<A:=av _ a4;omega
 ·intro f _;rw[x1.fm,N];exact congrFun y5 f
def Zm0{a}{v}{k}{xs}(R:U4 J a)(U:∀g tv,Qa J.gl g=some tv->tv.t.nh=true)(h:iV C A H a v k=some F):∃f,H f=some F/\Loc C A f/\(∀j∈k.flatten,∃u,(j,u)∈f.rd)/\yP J G A xs a.f v k f:=by
 unfold iV at h;obtain⟨v1,c1,R1,h,n,E,I,z⟩:=ZmS h;obtain⟨x4,c2,R2,Q2,h,l,K,B⟩:=Znm h;obtain⟨x3,c,R3,Q3,h,m,D⟩:=Zdd h;obtain⟨hc,h9⟩:=Yq h;clear h;simp only[YL]at hc;obtain⟨O,hD,hB,x2⟩:=hc;obtain⟨y,i,w⟩:=Ti h9;clear h9;split at w;·cases w
 ·rename_i q x;obtain⟨hl,b⟩:=Yq w;clear w;obtain⟨V,W⟩:=E7 x;have L:=(n.trans l.ts).trans m.ts;have er:c.r=R3++(R2++R1):=by rw[m.r,l.r,n.r,XX]
  have eq:c.q=Q3++(Q2++[]):=by rw[m.q,l.q,n.q];rfl
  have T:∀p∈c.r,ZJ C p.1=some p.2:=λp d=>L.mr p (by rw[<-er];exact d);have S:∀p∈c.q,ZJ C p.1=some p.2:=λp d=>L.mq p (by rw[<-eq];exact d);have x1:(c.r.map (·.1)).Nodup:=by rw[er];exact L.nd
  have x0:k.flatten=[]\/(Uy a.C=true/\Uy (TJ (bif a.u&&c.p then a.B else a.D))=true)/\∀j∈k.flatten,ZJ c.r j=none:=by
   rw[Ev]at hl;obtain h|h:=hl;·exact .inl (sy h)
   ·simp only[YL,MI]at h;exact .inr ⟨h.1,λj e=>Option.isNone_iff_eq_none.1 (h.2 j e).1⟩
  have e:∀j∈k.flatten,ZJ c.r j=none:=by
   obtain h|h:=x0;·rw[h];simp
   ·exact h.2
  have o:k.flatten=[]\/Uy a.C=true/\Uy (TJ (bif a.u&&c.p then a.B else a.D))=true:=x0.imp id λh=>h.1;cases t:a.u with
  |true=>rw[t]at b o;dsimp only[cond_true]at b;cases d:c.p with|true=>rw[d]at b o;dsimp only[cond_true]at b;rcases h1:Hw c.s c.f a.B x3 c.n c.l with⟨n1,Z⟩;rw[h1]at b;dsimp only at b;rcases h2:Lm a.C (a.dec y).1 n1 Z with⟨u,n2,l2⟩;rw[h2]at b;dsimp only at b;obtain⟨l',M,P,Q⟩:=iH b;obtain⟨s,r⟩:=Zdh (xs:=xs) (e:=G) R U n E I z l K B m D O hB x2 i x o e h1 h2 P Q λX hg hs hf=>⟨_,X.ZmL t hg hs hf⟩;exact⟨_,M,⟨s,T,λp d=>(ZY d).elim (V p) (S p),x1⟩,λj e=>let⟨u,_,i⟩:=W j e;⟨u,Ym (.inl i)⟩,r⟩|false=>rw[d]at b;dsimp only[cond_false]at b;rcases h2:Lm a.C (a.dec y).1 c.n []with⟨u,n2,l2⟩;rw[h2]at b;dsimp only at b;obtain⟨s,r⟩:=Zm3 (xs:=xs) (e:=G) R U t n E I z l K B m D O i x d (o.imp id λh=>h.1) e h2;exact⟨_,b,⟨s,Zc,λp d=>(ZY d).elim (V p) λd=>(ZY d).elim (S p) (T p),Zc⟩,λj e=>let⟨u,_,i⟩:=W j e;⟨u,Ym (.inl i)⟩,r⟩
  |false=>rw[t]at b o;dsimp only[cond_false]at b;rcases h1:Hw c.s c.f a.D (a.dec y).2 c.n c.l with⟨n1,Z⟩;rw[h1]at b;dsimp only at b;rcases h2:Lm a.C (a.dec y).1 n1 Z with⟨u,n2,l2⟩;rw[h2]at b;dsimp only at b;obtain⟨l',M,P,Q⟩:=iH b;obtain⟨s,r⟩:=Zdh (xs:=xs) (e:=G) R U n E I z l K B m D O hD x2 i x o e h1 h2 P Q λX _ _ _=>⟨_,X.ZmK t⟩;exact⟨_,M,⟨s,T,λp d=>(ZY d).elim (V p) (S p),x1⟩,λj e=>let⟨u,_,i⟩:=W j e;⟨u,Ym (.inl i)⟩,r⟩
def ZcZ{R}{r:R}{b}{e}:∀{xs:L Operand}{k},rZ b (xs.map (Z9 e)) k=some r->∃v f,k v f=some r/\f.length=Kl v.t/\∀(K)(H)(a:Act)(hs)(w)(g),GD K.m hs w->(∀x∈xs,Y0 K H (Z9 e x) (a.eval x))->(∀j∈f.flatten,∃u h,ZJ b j=some u/\H j=some h/\WC K j u h/\∀x∈h,x∈hs)->(∀j∈f.flatten,j∈g)->∃cs,UC v.t cs (xs.map a.eval)/\Q5 (rK H g) K v.t v.x f cs
 |[],k,h=>⟨_,_,h,rfl,λK H a hs w g n _ _ _=>⟨[],⟨rfl,rfl⟩,rfl⟩⟩|x::xs,k,h=>by
  obtain⟨P,j,m,I⟩:=Zfe h;obtain⟨v,f,C,E,J⟩:=ZcZ m;refine⟨_,_,C,by rw[Wl,E];rfl,λK H a hs w g n t p o=>?_⟩;have q:∀c∈j,c∈(j::f).flatten:=λc d=>by rw[Iq];exact Ym (.inl d)
  have s:∀c∈f.flatten,c∈(j::f).flatten:=λc d=>Zp;obtain⟨i,B,z,y⟩:=I K H (a.eval x) hs w n (t x XQ) λc d=>p c (q c d);obtain⟨l,M,G⟩:=J K H a hs w g n (λN F=>t N (XY _ F)) (λc d=>p c (s c d)) λc d=>o c (s c d);refine⟨i++l,⟨i,l,_,_,rfl,rfl,z,B,M⟩,i,l,rfl,z,?_,G⟩;cases j with|nil=>exact y K (KK.le.refl _) Zc|cons O j=>exactλA m D=>y A m λc d=>D c (o c (q c d))
def Zmw{c}{K}:∀{d}{y}{cs vs},UC d cs vs->rel K d [] cs y->Q5 c K d y [] cs:=by intro d;induction d with|cons m n _ k=>rintro y cs vs⟨e,f,v,s,rfl,rfl,a,rfl,j⟩⟨q,r,o,p,g,h,b,l⟩;obtain⟨rfl,rfl⟩:=O5 g.symm;have⟨rfl,rfl⟩:=MJ h (by rw[a,WU b]);exact⟨e,f,rfl,a,b,k j l⟩|nl=>rintro y cs vs⟨rfl,_⟩_;rfl|_=>intro y cs vs i;exact i.elim
def Zmr{e}{K}{v}{h}{vs}(hv:UC v.t r vs)(m:Q5 e K v.t v.x h r):∀{a}{x}{b c},UC a b c->rel K a [] b x->UC (Gz a x v).t (b++r) (c++vs)/\Q5 e K (Gz a x v).t (Gz a x v).x (List.replicate (Kl a) []++h) (b++r):=by intro a;induction a with|cons a u _ o=>rintro x b c⟨f,g,B,C,rfl,rfl,d,rfl,n⟩⟨z,A,w,y,j,k,i,s⟩;obtain⟨rfl,rfl⟩:=O5 j.symm;have⟨rfl,rfl⟩:=MJ k (by rw[d,WU i]);have⟨p,q⟩:=o n s;refine⟨⟨f,g++r,_,_,Zc,rfl,d,rfl,p⟩,f,g++r,Zc,d,i,q⟩|nl=>rintro x b c⟨rfl,rfl⟩_;exact⟨hv,m⟩|_=>intro x b c l;exact l.elim
def Zmq{c}{K}{y}{g}(hv:UC S r g)(j:rel K S [] r y):∀{t}{x}{a}{cs vs},a.length=Kl t->UC t cs vs->Q5 c K t x a cs->UC (Gz t x ⟨S,y⟩).t (cs++r) (vs++g)/\Q5 c K (Gz t x ⟨S,y⟩).t (Gz t x ⟨S,y⟩).x a (cs++r):=by intro t;induction t with
 |cons q s _ l=>rintro x a cs vs b⟨d,e,A,B,rfl,rfl,f,rfl,k⟩⟨u,v,i,w,m,n⟩;have⟨rfl,rfl⟩:=MJ i Y;cases a with|nil=>cases b|cons z a=>have⟨o,p⟩:=l (by simpa[Kl]using b) k n;exact⟨⟨d,e++r,_,_,Zc,rfl,f,rfl,o⟩,d,e++r,Zc,f,m,p⟩
 |nl=>rintro x a cs vs b⟨rfl,rfl⟩_;have:=Ok b;subst this;exact⟨hv,Zmw hv j⟩|_=>intro x a cs vs _ h;exact h.elim
def ZiH{f}(h:Jk P f=true){ρ}{bs}(d:ρ j=.func (.func f) r.toArray bs.toArray){c}(b:c.callee=.value j)(w)(od)(ty)(pos)(aft)(a):(execOp ρ ⟨od,.call c,ty,pos,aft,a⟩).run P w=.ok (.enter f (r++(c.args.toList.map ρ++bs)).toArray) w:=by simp[execOp,resolve,b,YF,d,Deferred.ofValue,Xz,Y3,invoke];rw[ZwQ h];simp_all
def GJ{R:Type}{Z:XF}{e:En}{b:Bx}{n:Nat}{k:Ww->Zg R}{r:R}{v}{d}{f}{xs}(o:∀g p,Qa Z.gl g=some p->p.t.nh=true):∀{l},(∀i∈l,U4 Z i)->Jl b n k f v d l=some r->∃a,k a=some r/\Loc b n a/\(∀j∈d.flatten,∃u,(j,u)∈a.rd)/\Jk Z.P f=true/\yP Z e n xs f v d a|[],_,h=>by cases h|i::l,x,h=>by unfold Jl at h;cases c:(Nat.beq _ f&&Dy _ _)with|true=>rw[c]at h;rw[YL]at c;have a:=Wc c.1;obtain⟨q,s,t,w,m⟩:=Zm0 Zp o h;rw[a]at m;exact⟨q,s,t,w,by rw[<-a];exact(x _ XQ).1,m⟩|false=>rw[c]at h;exact GJ o Zp h
def Zig{K}{x}(h:rel K (.YT A S) [] r x)(e:x=none):rel K .Ub [] r ():=by
 obtain⟨b,⟨-,a⟩|⟨c,v,a,-⟩⟩:=h;·exact⟨b,a⟩
 ·grind
def ZbC{b}{K}{B}{x}{d}(h:Q5 b K (.cons (.YT A S) B) x d r)(e:x.1=none):Q5 b K (.cons .Ub B) ((),x.2) d r:=by have⟨f,g,i,j,a,k⟩:=h;refine⟨f,g,i,j,?_,k⟩;cases c:Kk _ with|true=>rw[c]at a;exactλl m n=>Zig Zp e|false=>rw[c]at a;exact Zig a e
def Zm1{e:En}{v}{w}{f}{xs}(c:∀g B,Qa J.gl g=some B->B.t.nh=true){l}(b:∀K∈l,U4 J K)(h:qj C A H f v w l=some F):∃a,H a=some F/\Loc C A a/\(∀j∈w.flatten,∃u,(j,u)∈a.rd)/\Jk J.P f=true/\yP J e A xs f v w a:=by
 unfold qj at h;split at h;·rename_i g u D y;cases d:ph f _ l with|false=>rw[d]at h;exact GJ c b h|true=>rw[d,Mq]at h;cases hx:y.1with|some O=>rw[hx]at h;exact GJ c b h|none=>rw[hx]at h;obtain⟨a,m,n,o,p,q⟩:=GJ c b h;exact⟨a,m,n,o,p,λk i M t z x r I T s L=>q k i _ t z x r _ _ s (ZbC L hx)⟩
 ·rename_i z g u D y _;cases d:ph f _ l with|false=>rw[d]at h;exact GJ c b h|true=>rw[d,Mq]at h;cases hx:y.2.1with|some O=>rw[hx]at h;exact GJ c b h|none=>rw[hx]at h;obtain⟨a,m,n,o,p,q⟩:=GJ c b h;refine⟨a,m,n,o,p,λk i M t ac x r I T s⟨E,G,P,Q,R,S⟩=>q k i _ t _ x r _ _ s ⟨E,G,P,Q,R,ZbC S hx⟩⟩
 ·exact GJ c b h
def Zm2{c}{f}{c'}{x}(x2:∀L∈J.tb,U4 J L)(x0:∀y s,Qa J.gl y=some s->s.t.nh=true)(g:c.callee=.value j)(X:Z9 G j=.v ⟨.fn f S c',x⟩)(h:(rZ C (c.args.toList.map (Z9 G)) λv b=>qj C A H f (Mo.rX ⟨S,x.1⟩ (Mo.rX v ⟨c',x.2⟩)) (List.replicate (Kl S) []++b) J.tb)=some F):Vg J ⟨Q,.call c,e,R,I,y⟩ G C A H F:=by
 obtain⟨v,b,M,Z,U⟩:=ZcZ h;have E:(List.replicate (Kl S) []++b).flatten=b.flatten:=by simp
 obtain⟨B,O,n,x1,W,T⟩:=Zm1 (e:=G) x0 x2 M;refine⟨B,O,n,λl k o q ac t a=>?_⟩;have ma:∀d∈c.args.toList,d∈(Op.call c).operands.toList:=λd i=>by simp[Op.operands,Call.operands,g];exact .inr (by simpa using i)
 obtain⟨x6,⟨_,x4,bs,x5,z,⟨ca,va,ra⟩,vb,rb⟩,K⟩:=a.v X (by simp[Op.operands,Call.operands,g]);obtain⟨cs,hv,P⟩:=U l k ac (o++q) t b.flatten a.gd (λd i=>a.op d (ma d i)) (λr m=>by obtain⟨x3,p⟩:=x1 r Zp;obtain⟨h,D,V,hs⟩:=a.rd _ p;exact⟨x3,h,n.rd _ p,D,V,hs⟩) λr m=>m;obtain⟨v2,u⟩:=Zmq vb rb Z hv P;obtain⟨v3,w⟩:=Zmr v2 u va ra;rw[ZiH W (by rw[K,z];rfl) g];exact T l k o q ac t a _ _ v3 (by rw[E];exact w)
def Gj(Z:XF):Prop:=∀i f,qo Z.P i=some f->∀(b:Ty)(d:L b.den)(a:KK)(c:HP)(e:World)(v:Value),J1 Z.P f b.n=true->OK Z.P f=true->d.length<=4294967296->GD a.m c e->KV a e b d v->Calls Z.P i #[v] e λl h=>∃k,l=.returned k/\∃j g,GD a.m (g++c) h/\ZW e h a.m a.m c.bs (HP.bs (g++c))/\Row b.n (rel a b) [] j d/\KZ Z.P h b.n d.length k 0 j g
def Zni{T:TypeId}{c}{f}{c'}{x0}(X:Gj J)(m:c.callee=.value p)(hg:Z9 G p=.v ⟨.fn f S c',x0⟩)(hn:S=.nl/\c'=.nl)(q:c.args.toList=[j])(h:i8 J C A H f T (Z9 G j)=some F):Vg J ⟨Q,.call c,e,R,I,y⟩ G C A H F:=by
 unfold i8 at h;split at h
 ·rename_i x9 w ht U;obtain⟨r,O⟩:=Yq h;clear h;simp only[YL]at r;obtain⟨xi,x7,x2,W⟩:=r;obtain⟨t,rd,M,x5,P⟩:=Dq O;obtain⟨x3,L⟩:=pM M;refine⟨_,L,⟨LW _,Zc,x5,Zc⟩,λk u g i ac o a=>?_⟩;obtain⟨rfl,rfl⟩:=hn;obtain⟨xh,⟨_,x,z,xb,E,⟨ca,va,ra⟩,vb,rb⟩,K⟩:=a.v hg (by simp[Op.operands,Call.operands,m]);have B:x=[]:=va.2;have D:z=[]:=vb.2;subst B D;rw[ZiH W (by rw[K,E];rfl) m,q];show Calls J.P f #[ac.eval j] o _;refine(X f w U x9 t k (g++i) o (ac.eval j) x7 x2 (by have:0+t.length<=4294967296:=x3;omega) a.gd (P k u (g++i) o _ a.gd a.rd (a.op j (by simp[Op.operands,Call.operands,q,m])))).mono ?_;rintro en w'⟨b,rfl,xv,d,x1,Z,x6,x4⟩;refine⟨b,rfl,?_⟩;have n:=fG x4 x6;rw[XX]at n;have l:=KK.Fx (a.fr A (YA _) (jo _)) b;have s:(d++(g++i)).Perm (d++i++g):=by classical rw[VX];intro xa;simp only[VU];omega
  refine⟨k.name A b,d,⟨(x1.perm s).left,(ZW.Od s Z).sub λbb V=>?_,⟨l.le,λx8 hi=>l.nm x8 hi⟩,wD KK.Oa (Qn n b Zc),⟨d,[],Zc,⟨[b],Xw l.le n,λxa hz=>by rw[YV hz];exact KK.Oa⟩,trivial⟩,pc (n:=A) (n':=A+1) λxs a=>by rw[YV a];simp a.lt,λ_ _=>rfl⟩⟩;rw[HP.Wo];exact Ym (.inl V)
 ·cases h
def Zrp{Z:XF}(D:∀x∈Z.tb,U4 Z x)(z:∀g r,Qa Z.gl g=some r->r.t.nh=true)(y:Gj Z)(h:Mo Z G C A H T.op=some F):Vg Z T G C A H F:=by obtain⟨O,op,X,V,L,g⟩:=T;cases op with
 |move a=>exact ZqN h|assign a=>exact ZmD h|pick v a e=>exact ZrX h|binOp op b a e yt=>exact ZmR (λE B w=>by subst w;cases E<;>exact Zox B) h|unOp op b a=>exact ZAt h|convert W t a=>exact Znx (λk l m=>Zny k l m) (λk l m=>ZAk k l m) h|alloc b=>exact Zmk h|box b e=>exact ZmT h|build b J=>exact ZmV h|buildSlice b q J=>exact ZmU h|load b a=>exact Zqi h|store b a e=>exact ZxH h|nilCheck a=>exact Zq8 h|fieldAddr s a i=>exact ZoV h|field s a i=>exact ZoU h|indexAddr b a e=>exact ZpK h|index b a e=>exact ZpJ h|slice b a S Q mx=>exact ZxA h|sliceToArrayPointer b a=>exact Zw6 h|makeSlice b a e=>exact Zqu h|makeMap b F=>cases F with|none=>exact Zqt h|some F=>cases h
 |makeFunc i first cs=>cases i with|func i=>exact Zqs h|_=>cases h
 |lookup b a e U=>exact Zqk h|mapUpdate b a e x2=>exact Zqv h|extract a R=>exact ZoI h|call v=>
  simp only[Mo]at h;split at h
  ·rename_i c;split at h;·rename_i a b d f;obtain⟨n,h⟩:=Yq h;exact Zqf c d f n h
   ·cases h
  ·rename_i c;split at h
   ·rename_i a b d f;split at h;·rename_i x1 j;obtain⟨n,h⟩:=Yq h;exact Zm5 c d f n j h
    ·cases h
   ·cases h
  ·rename_i c;split at h;·rename_i a e b u d f;exact Zmv c d f h
   ·cases h
  ·rename_i c;split at h;·rename_i a e b u d f;exact Znz c d f h
   ·cases h
  ·rename_i c;split at h
   ·rename_i a q d;split at h;·rename_i I j;exact ZfA (mx:=true) c d j h
    ·cases h
   ·cases h
  ·rename_i c;split at h
   ·rename_i a q d;split at h;·rename_i I j;exact ZfA (mx:=false) c d j h
    ·cases h
   ·cases h
  ·rename_i P c;split at h;·rename_i i K M x0 p;cases o:Z.cl.any (Nat.beq i)with
    |true=>
     rw[o]at h;dsimp only[cond_true]at h;split at h;·rename_i d f;exact Zni y c p ⟨rfl,rfl⟩ d h
     ·cases h|false=>rw[o]at h;exact Zm2 D z c p h
   ·cases h
  ·cases h|_=>cases h
def QH:Yw ((A,d)::G) D=bif Nat.beq A D then d else Yw G D:=rfl
def Ri(r:Bx):SV->Bool|.bv a _=>r.any λb=>OQ a b.1|_=>false
def Km{l}:OQ l A=true↔A∈l:=by induction l with|nil=>simp[OQ]|cons b l a=>simp[OQ,Ev,It,a,C5];exact⟨Zp,Zp⟩
def AW{r}{s}(h:∀p∈r,p.1∉Us s):Ri r s=false:=by cases s with
 |bv d e=>cases b:Ri r _ with|false=>rfl|true=>have⟨p,c,a⟩:=jd b;exact absurd (Km.1 a) (h p c)
 |_=>rfl
def ZqD(h:Ri C d=true):∃p∈C,p.1∈Us d:=by cases d with|bv c e=>have⟨p,b,a⟩:=jd h;exact⟨p,b,Km.1 a⟩|_=>cases h
def Zfv:Ri [] d=false:=AW Zc
def ZdZ{r}{t}:∀{e},Yw (Kr r e) t=bif Ri r (Yw e t)then .any else Yw e t
 |[]=>rfl|(u,s)::e=>by
  have c:∀a,Yw _ t=bif Nat.beq u t then a else bif Ri r _ then .any else Yw e t:=λa=>by rw[QH,ZdZ (r:=r) (t:=t) (e:=e)]
  rw[QH];cases s with|bv d b=>have f:Kr r ((u,.bv _ _)::e)=bif Ri r (.bv _ b)then(u,.any)::Kr r e else(u,.bv d b)::Kr r e:=rfl;grind|_=>refine(c _).trans ?_;cases hb:Nat.beq u t<;>rfl
def R5(d:Zg Nat)(v:SV)(t:Nat)(s:SV):SV:=if d=some t then v else s
def Zd0{v}:Yw ((match f with|some f=>λG=>(f,v)::G|none=>λG=>G) G) A=R5 f v A (Yw G A):=by cases f with|none=>rfl|some f=>
  rw[QH];by_cases a:f=A;·simp[R5,sH]
  ·rw[beq_false a];simp[R5,a]
def OI:Yw (z.app f X).e A=bif Ri (X.r++X.w) (R5 f X.v A (Yw z.e A))then .any else R5 f X.v A (Yw z.e A):=by unfold XS.app;cases hb:(X.r.isEmpty&&X.w.isEmpty)with|true=>rw[YL]at hb;rw[sy hb.1,sy hb.2,XX,Zfv];exact Zd0|false=>show Yw (Kr _ _) A=_;rw[ZdZ];exact WX (λa=>bif Ri _ a then SV.any else a) Zd0
def iI:ZJ (C++o) A=(ZJ C A).or (ZJ o A):=by induction C with|nil=>rfl|cons c C b=>have⟨a,v⟩:=c;rw[Oj,M4,M4,b];cases Nat.beq a A<;>rfl
def Zc9(h:A≠D):ZJ (VA C D) A=ZJ C A:=by induction C with|nil=>rfl|cons c C b=>have⟨a,v⟩:=c;show ZJ (bif Nat.beq a D then VA C D else(a,v)::VA C D) A=_;rw[M4];cases hb:Nat.beq a D with|true=>have:=Wc hb;rw[S7,b,beq_false Zp,Su]|false=>rw[Su,M4,b]
def Ji{b}{i}:∀{r},(∀p∈r,p.1≠i)->ZJ (Wm r b) i=ZJ b i|[],_=>rfl|x::r,h=>by show ZJ (VA (Wm r b) _) i=_;rw[Zc9 Zp,Ji λp a=>h p Zp]
def ZmQ(h:∃p∈o,p.1=A):ZJ (Wm o C) A=none:=by cases b:ZJ _ A with|none=>rfl|some v=>have⟨p,c,a⟩:=h;exact absurd a (Jh b p c)
def Nf{p}(a:(C.map (·.1)).Nodup)(h:p∈C):ZJ C p.1=some p.2:=by induction C with|nil=>cases h|cons c C b=>
  obtain⟨e,v⟩:=c;rw[Wb,Ss]at a;rw[M4];obtain rfl|h:=XL h;·simp
  ·rw[beq_false λd=>a.1 Zp];exact b a.2 h
def ZfV(h:(C.map (·.1)).Nodup):((VA C A).map (·.1)).Nodup:=by induction C with|nil=>exact h|cons g C f=>have⟨a,v⟩:=g;rw[Wb,Ss]at h;show((bif Nat.beq a A then VA C A else(a,v)::VA C A).map _).Nodup;cases Nat.beq a A with|true=>grind|false=>rw[Su,Wb,Ss];refine⟨λd=>h.1 ?_,f h.2⟩;have⟨b,e,c⟩:=VR d;exact Ol ⟨b,GB b e,c⟩
def JM(h:(C.map (·.1)).Nodup):((Wm o C).map (·.1)).Nodup:=by induction o with|nil=>exact h|cons b o a=>exact ZfV a
structure Gt where
 e:En
 n:Nat
 f:Ww
abbrev Tr:=L (Zg Gt)
def Wk(s s':SV):Prop:=s'=s\/s'=.any\/Us s=[]/\Us s'=[]/\∀b a v,Y0 b a s v->Y0 b a s' v
def Wk.refl(s):Wk s s:=.inl rfl
def Wk.any(s):Wk s .any:=.inr (.inl rfl)
def Wk.uK{s}(h:Wk s d){K}{v}(r:Y0 K E s v):Y0 K E d v:=by
 obtain rfl|rfl|h:=h;·omega
 ·trivial
 ·grind
def Wk.Kr{s'}(h:Wk d s'):Wk (bif Ri C d then .any else d) (bif Ri C s' then .any else s'):=by
 obtain rfl|rfl|⟨a,b,h⟩:=h;·exact .inl rfl
 ·cases Ri C _<;>exact Wk.any _
 ·rw[AW Zp,AW Zp];exact .inr Zp
def Wk.len{s'}(h:Wk d s'):∀j∈Us s',j∈Us d:=by
 obtain rfl|rfl|⟨_,a,_⟩:=h;·simp
 ·intro j h;cases h
 ·grind
structure Wf(s:XS):Prop where
 nd:(s.b.map (·.1)).Nodup
 ids:∀p∈s.b,p.1<s.n\/500<=p.1len:∀t,∀j∈Us (Yw s.e t),j<s.n\/500<=j
structure OA(S s:XS):Prop where
 e:∀t,Wk (Yw S.e t) (Yw s.e t)b:∀j v,ZJ s.b j=some v->ZJ S.b j=some v
 n:S.n<=s.n
 nd:(s.b.map (·.1)).Nodup
def EV(e:L Oper)(E:En)(j:Nat)(b:Zg Bool):Prop:=∃a,e[j]?.bind (·.dst)=some a/\Us (Yw E a)=[]/\∀d c v,Y0 d c (Yw E a) v->v=match b with|some b=>.bool b|none=>undef
def rD(c:L Oper)(o:Oper)(E:En):Prop:=o.guard=none\/∃a b,o.guard=some (a,b)/\EV c E a (some b)
def rC(b:L Oper)(o:Oper)(E:En):Prop:=∃a c,o.guard=some (a,c)/\(EV b E a (some !c)\/EV b E a none)
inductive IG(Z:XF)(full:List Oper)(o:Oper)(S:XS):Option Gt->Prop|ex{r:Gt}:(∀t,Wk (Yw S.e t) (Yw r.e t))->S.n<=r.n->Loc S.b r.n r.f->EL Z o r.e r.n r.f->vJ r.n r.f=true->rD full o S.e->IG Z full o S (some r)|no:rC full o S.e->IG Z full o S none
def Vm(o:Oper):Zg Gt->XS->XS|some b,s=>s.app o.dst b.f|none,s=>{s with e:=match o.dst with|some a=>(a,.un)::s.e|none=>s.e}
inductive Sa(Z:XF)(full:List Oper):List (Nat×Oper)->XS->Tr->XS->Prop|nil{S:XS}:Sa Z full [] S [] S|cons{x:Nat×Oper}{l:List (Nat×Oper)}{S S':XS}{r:Option Gt}{tr:Tr}:IG Z full x.2 S r->Sa Z full l (Vm x.2 r S) tr S'->Sa Z full (x::l) S (r::tr) S'
variable {b:Tr}
def Sa.append{l}{a}{d}(h:Sa J c l z b g)(k:Sa J c i g d a):Sa J c (l++i) z (b++d) a:=by induction h with|nil=>grind|cons e _ f=>exact .cons e (f k)
def Zf9{n}{f}:∀{l},ng n f l=true->(l.map (·.1)).Nodup/\∀p∈l,(∃q∈f.r,q.1=p.1)\/n<=p.1/\p.1<f.n
 |[],_=>⟨Zc,Zc⟩|p::l,h=>by
  simp only[ng,YL,Ev,CR]at h;have⟨c,m,d⟩:=h;have⟨i,j⟩:=Zf9 d;refine⟨?_,λq a=>?_⟩;·rw[Wb,Ss];refine⟨λe=>?_,i⟩;have⟨q,a,b⟩:=VR e;have:(l.any λq=>Nat.beq q.1 p.1)=true:=yq ⟨q,a,by rw[It];exact b⟩;grind
  ·obtain rfl|a:=XL a
   ·obtain h|h:=c;·have⟨k,g,b⟩:=jd h;exact .inl ⟨k,g,Wc b⟩
    ·exact .inr ⟨yE▸h.1,TN▸h.2⟩
   ·exact j q a
structure rN(n:Nat)(f:Ww):Prop where
 lt:f.n<500nd:(f.w.map (·.1)).Nodup
 w:∀p∈f.w,(∃q∈f.r,q.1=p.1)\/n<=p.1/\p.1<f.n
 len:∀j∈Us f.v,(j<f.n\/500<=j)/\∀p∈f.r++f.w,p.1≠j
def Kp(h:vJ A X=true):rN A X:=by
 simp only[vJ,YL,MI]at h;have⟨e,f,g⟩:=h;have⟨k,l⟩:=Zf9 f;refine⟨TN▸e,k,l,λb i=>?_⟩;have⟨a,c⟩:=g b i;refine⟨?_,λm j d=>?_⟩
 ·rw[Ev]at a;obtain a|a:=a;·exact .inl (TN▸a)
  ·refine .inr (sJ λh=>?_);have:Nat.blt b 500=true:=by rw[TN];exact h
   rw[this]at a;cases a
 ·have:((X.r++X.w).any λn=>Nat.beq n.1 b)=true:=yq ⟨m,j,by rw[It];exact d⟩;rw[this]at c;cases c
def Zms:(z.app f X).b=X.w++Wm X.r z.b:=rfl
def xr:ZJ (z.app f X).b A=(ZJ X.w A).or (ZJ (Wm X.r z.b) A):=by rw[Zms,iI]
def ZfU(a:rN D X)(b:(C.map (·.1)).Nodup)(hi:∀p∈C,p.1<A\/500<=p.1)(r:A<=D):((X.w++Wm X.r C).map (·.1)).Nodup:=by
 rw[WW,T5];refine⟨a.nd,JM b,λs e t f j=>?_⟩;have⟨p,g,k⟩:=VR e;have⟨d,c,l⟩:=VR f;obtain⟨i,h,m⟩|⟨n,o⟩:=a.w p g;·exact Jh (Nf (JM b) c) i h Zp
 ·have:=hi d (Ju d c);have q:=a.lt;omega
def xo{r}(h:IG J c T z r)(b:Wf z):Wf (Vm T r z):=by cases h with
 |@ex r h1 h2 n t q u=>
  have l:=Kp q;have v:=n.le;refine⟨ZfU l b.nd b.ids h2,λj i=>?_,λg f a=>?_⟩
  ·show j.1<r.f.n\/500<=j.1;obtain i|i:=ZY i
   ·obtain⟨p,s,e⟩|h:=l.w j i;·have:=b.ids p (Vn (n.r p s));omega
    ·omega
   ·have:=b.ids j (Ju j i);omega
  ·show f<r.f.n\/500<=f;have d:f∈Us (Yw (z.app T.dst r.f).e g):=a;rw[OI]at d;cases o:Ri (r.f.r++r.f.w) _ with|true=>rw[o]at d;cases d|false=>
    rw[o,Su]at d;unfold R5 at d;split at d;·exact(l.len f d).1
    ·have:=b.len g f d;omega
 |no h=>
  refine⟨b.nd,b.ids,λg f a=>?_⟩
  cases hd:T.dst with|none=>
   have k:(Vm T none z).e=z.e:=by simp[Vm,hd]
   rw[k]at a;exact b.len g f a|some m=>
   have k:(Vm T none z).e=(m,.un)::z.e:=by simp[Vm,hd]
   rw[k,QH]at a;cases hb:Nat.beq m g with|true=>rw[hb]at a;cases a|false=>rw[hb]at a;exact b.len g f a
def OA.app{a s}{o:Oper}{n}{f}(h:OA a s)(l:Wf a)(j:rN n f)(i:a.n<=n):OA (a.app o.dst f) (s.app o.dst f)where
 e:=λp=>by
  rw[OI,OI];refine Wk.Kr ?_;unfold R5;split;·exact Wk.refl _
  ·exact h.e p
 b:=λg v c=>by rw[xr]at c⊢;cases hb:ZJ _ g with|some q=>grind|none=>rw[hb]at c;have d:=c;rw[Ji (Jh d)];exact h.b g v (IQ d)
 n:=YA _;nd:=ZfU j h.nd (λm k=>l.ids m (Vn (h.b _ _ (Nf h.nd k)))) i
abbrev ER:=Nat×Oper×Gt
def Ud:L (Nat×Oper)->Tr->L ER|(i,o)::l,some r::tr=>(i,o,r)::Ud l tr|_::l,none::tr=>Ud l tr|_,_=>[]
def uw{d}:∀{tr b},tr.length=i.length->Ud (i++d) (tr++b)=Ud i tr++Ud d b:=by induction i with|nil=>intro tr b a;rw[Ok a];rfl|cons e i c=>intro tr b a;have⟨f,g⟩:=e;match tr,a with|some h::tr,a=>exact WX _ (c Zp)|none::tr,a=>exact c Xk
def uu(x:ER):L Nat:=zw x.2.2.e x.2.1.op x.2.2.f
def QV(f:Ww):L Nat:=f.r.map (·.1)++f.w.map (·.1)
def Af(x y:ER):Prop:=∃a,a∈QV y.2.2.f/\(a∈uu x\/a∈QV x.2.2.f)\/a∈uu y/\a∈QV x.2.2.f
def Bq(T:L xg)(P:L ER):Prop:=∀b∈P,∃c∈T,c.i=b.1/\(∀a∈uu b,a∈c.rd)/\∀a∈QV b.2.2.f,a∈c.wr
def NC(a:L Oper):L ER->L (Nat×Oper)->Tr->Prop|P,(i,o)::l,some r::tr=>(∀b∈P,Af b (i,o,r)->b.1∈marks a i (UL o))/\NC a ((i,o,r)::P) l tr|P,_::l,none::tr=>NC a P l tr|_,_,_=>True
def NC.mono{b}:∀{l}{tr}{P a},(∀x∈a,x∈P)->NC b P l tr->NC b a l tr|[],_,_,_,_,_=>by trivial|x::l,[],_,_,_,_=>by trivial|(i,o)::l,some r::tr,P,a,h,⟨h1,h2⟩=>⟨Zp,NC.mono Zp h2⟩|(i,o)::l,none::tr,P,a,h,h2=>NC.mono (l:=l) h h2
def NC.append{a}{c}{d}:∀{l}{tr}{P},tr.length=l.length->NC a P l tr->NC a (Ud l tr++P) c d->NC a P (l++c) (tr++d)
 |[],tr,P,b,_,h2=>by rw[Ok b]at h2⊢;exact h2|(i,o)::l,some r::tr,P,b,⟨h1,e⟩,h2=>⟨h1,NC.append Zp e (NC.mono (λf hx=>by
   obtain hx|hx:=ZY hx;·exact Ym (.inl (XY _ hx))
   ·obtain rfl|hx:=XL hx;·exact Ym (.inl XQ)
    ·grind) h2)⟩|(i,o)::l,none::tr,P,b,h1,h2=>NC.append (l:=l) Zp h1 h2
def Sa.len(h:Sa J c i z b g):b.length=i.length:=by induction h<;>simp_all
def Zja{j}:∀{l g r},zE j l=some (g,r)->l=g++r|[],_,_,h=>by cases h|(i,o)::l,g,r,h=>by unfold zE at h;cases hs:zE j l with|none=>grind|some b=>have a:=Zja hs;grind
def ZsE(h:Lp .bool d some=some x):d=.v ⟨.bool,x⟩\/d=.v ⟨.bit x,()⟩:=by
 unfold Lp at h;split at h;·rename_i v;have⟨a,c⟩:=v;cases a with|bit b=>cases h;exact .inr rfl|bool=>cases h;exact .inl rfl|_=>cases h
 ·cases h
 ·grind
structure yK(dr:Bool)(A:List Nat×Nat)(l:List (Nat×Oper))(tr:Tr):Prop where h:∀x∈Ud l tr,x.2.2.f.r=[]/\x.2.2.f.n<=A.2/\(dr=true->x.2.2.f.w=[]/\∀j∈uu x,j∈A.1)
structure Rq(Z:XF)(full:List Oper)(dr:Bool)(l:List (Nat×Oper))(s S:XS)(P:List ER)(tr:Tr)(S' s':XS):Prop where
 ok:Sa Z full l S tr S'
 wf:Wf S'
 wk:OA S' s'
 al:s'.al=s.al
 xm:∀A,s.al=some A->yK dr A l tr
 d:(∀j∈s.d,j∈s'.d)/\∀x∈Ud l tr,∀p∈x.2.2.f.r,p.1∈s'.d
 n:s.n<=s'.n
 kb:∀j v,ZJ s.b j=some v->j∉s'.d->ZJ s'.b j=some v
 fd:∀j,1000<=j->j∈s'.d->j∈s.d\/∃v,ZJ s.b j=some v
 fb:∀j v,1000<=j->ZJ s'.b j=some v->∃v,ZJ s.b j=some v
 nc:dr=true->NC full P l tr/\Bq s'.tr (Ud l tr++P)
def Rq.nil{Z:XF}{c:L Oper}{dr:Bool}{s a}{P}(f:Wf a)(e:OA a s)(d:dr=true->Bq s.tr P):Rq Z c dr [] s a P [] a s:=⟨.nil,f,e,rfl,λg _=>⟨by simp[Ud]⟩,⟨λ_ b=>b,by simp[Ud]⟩,Zc,Zp,Zp,Zp,λb=>⟨by trivial,by simpa[Ud]using d b⟩⟩
def Rq.step{Z:XF}{g:L Oper}{dr:Bool}{i}{o}{l}{s m b u s'}{P}{r}{tr}(h1:IG Z g o m (some r))(D:r.e=s.e)(I:r.n=s.n)(k:b.d=(s.app o.dst r.f).d)(y:b.al=s.al)(J:b.n=r.f.n)(c:dP dr r.f (zw s.e o.op r.f) s.al=true)(H:dr=true->∀x∈P,Af x (i,o,r)->x.1∈marks g i (UL o))(F:∀j v,ZJ s.b j=some v->j∉r.f.r.map (·.1)->ZJ b.b j=some v)(K:∀p∈r.f.r,ZJ s.b p.1=some p.2)(z:∀j v,1000<=j->ZJ b.b j=some v->∃v,ZJ s.b j=some v)(h2:Rq Z g dr l b (m.app o.dst r.f) ((i,o,r)::P) tr u s'):Rq Z g dr ((i,o)::l) s m P (some r::tr) u s':=by
 refine⟨.cons h1 h2.ok,h2.wf,h2.wk,h2.al.trans y,λB w=>⟨λx hx=>?_⟩,⟨λj a=>h2.d.1 j ?_,λx hx p A=>?_⟩,?_,λj v q a=>h2.kb j v (F j v q λG=>a (h2.d.1 j (by rw[k];exact Ym (.inl G)))) a,λj h1 a=>?_,λj v h1 q=>let⟨t,n⟩:=h2.fb j v h1 q;z j t h1 n,λe=>⟨⟨H e,(h2.nc e).1⟩,?_⟩⟩
 ·obtain rfl|hx:=XL (show x∈(i,o,r)::Ud l tr from hx)
  ·rw[w]at c;simp only[dP,YL,Ev,CR,MI]at c;refine⟨sy c.1,yE▸c.2.1,λe=>?_⟩;obtain h|h:=c.2.2;·rw[e]at h;cases h
   ·refine⟨sy h.1,λj a=>Km.1 (h.2 j ?_)⟩;have E:j∈zw r.e o.op r.f:=a;rwa[D]at E
  ·exact(h2.xm B (y.trans w)).h x hx
 ·rw[k];exact Ym (.inr a)
 ·obtain rfl|hx:=XL (show x∈(i,o,r)::Ud l tr from hx);·refine h2.d.1 p.1 ?_;rw[k];exact Ym (.inl (VV (f:=(·.1)) A))
  ·exact h2.d.2 x hx p A
 ·have:=h2.n;cases h1 with|ex _ _ C _ _ _=>have:=C.le;omega
 ·obtain h|⟨t,n⟩:=h2.fd j h1 a
  ·rw[k]at h;obtain h|h:=ZY (show j∈r.f.r.map (·.1)++s.d from h);·grind
   ·exact .inl h
  ·exact .inr (z j t h1 n)
 ·refineλx hx=>(h2.nc e).2 x ?_;obtain hx|hx:=ZY hx
  ·obtain rfl|hx:=XL (show x∈(i,o,r)::Ud l tr from hx);·simp
   ·exact Ym (.inl hx)
  ·exact Ym (.inr (XY _ hx))
def Rq.skip{f a s'}{P}(h1:IG J c T g none)(hs:f={z with e:=match T.dst with|some d=>(d,.un)::z.e|none=>z.e})(h2:Rq J c x i f (Vm T none g) P b a s'):Rq J c x ((A,T)::i) z g P (none::b) a s':=by subst hs;exact⟨.cons h1 h2.ok,h2.wf,h2.wk,h2.al,λj k=>⟨(h2.xm j k).h⟩,h2.d,h2.n,h2.kb,h2.fd,h2.fb,h2.nc⟩
def OA.skip(h:OA z g):OA (Vm T none z) {g with e:=match T.dst with|some d=>(d,.un)::g.e|none=>g.e}:=by refine⟨λb=>?_,h.b,h.n,h.nd⟩;cases hd:T.dst with
 |none=>
  have a:(Vm T none z).e=z.e:=by simp[Vm,hd]
  rw[a];exact h.e b|some d=>
  have a:(Vm T none z).e=(d,.un)::z.e:=by simp[Vm,hd]
  rw[a,QH,QH];cases Nat.beq d b with|true=>exact Wk.refl _|false=>exact h.e b
def Zjh(h:OA z g)(j:c[A]?.bind (·.dst)=some D)(f:Yw g.e D=d)(k:Us d=[])(l:d≠.any){a}(hv:∀K H v,Y0 K H d v->v=match a with|some b=>.bool b|none=>undef):EV c z.e A a:=by
 refine⟨D,j,?_,λK H v i=>hv K H v ?_⟩
 ·obtain e|e|e:=h.e D;·grind
  ·grind
  ·exact e.1
 ·have:=(h.e D).uK i;rwa[f]at this
def mF{x}:∀{l}{tr},x∈Ud l tr->(x.1,x.2.1)∈l
 |[],tr,h=>by cases h|y::l,[],h=>by cases h|(i,o)::l,some r::tr,h=>by
  obtain rfl|h:=XL h;·simp
  ·exact XY _ (mF h)|(i,o)::l,none::tr,h=>XY _ (mF h)
def Zfw{a b}:meets a b=true↔∃j∈a,j∈b:=by unfold meets;rw[List.any_eq_true];exact⟨λ⟨j,c,d⟩=>⟨j,c,Km.1 d⟩,λ⟨j,c,d⟩=>⟨j,c,Km.2 d⟩⟩
def ZdQ{d:L Oper}{i}{o}{rd wr}:∀{T},qF d i o rd wr T=true->∀y∈T,(∃j,j∈wr/\(j∈y.rd\/j∈y.wr)\/j∈rd/\j∈y.wr)->y.i∈marks d i (UL o)
 |[],_,y,hy,_=>Zp|x::T,h,y,hy,e=>by
  simp only[qF,YL]at h;obtain rfl|hy:=XL hy
  ·have a:=h.1;rw[Ev]at a;obtain a|a:=a
   ·have⟨j,f⟩:=e;rw[CR]at a;obtain⟨b,c⟩|⟨b,c⟩:=f;·have:=Zfw.2 ⟨j,b,Ym c⟩;grind
    ·have:=Zfw.2 ⟨j,b,c⟩;grind
   ·grind
  ·exact ZdQ h.2 y hy e
def trN(h:Sa J c i z b g):(∀x∈Ud i b,x.2.2.f.n<=A)->z.n<=A->g.n<=A:=by induction h with|nil=>grind|@cons x i z g f b h1 _ e=>obtain⟨k,l⟩:=x;intro a j;cases f with|none=>exact e (λx d=>a x d) j|some f=>exact e (λx d=>a x (XY _ d)) (a _ XQ)
def ZAo(h:Sa J c i z b g):Wf z->(∀x∈Ud i b,x.2.2.f.r=[])->(∀j v,ZJ z.b j=some v->ZJ g.b j=some v)/\∀t,(∀x∈i,x.2.dst≠some t)->Yw g.e t=Yw z.e t:=by induction h with|nil=>exactλ_ _=>⟨λ_ _ h=>h,λ_ _=>rfl⟩|@cons x i z g r b h1 _ G=>obtain⟨s,a⟩:=x;intro n o;have F:=xo h1 n;cases r with
  |none=>obtain⟨u,w⟩:=G F λx p=>o x p;refine⟨u,λt f=>?_⟩;rw[w t λy q=>f y (XY _ q)];cases k:a.dst with|none=>simp[Vm,k]|some I=>
    have K:(Vm a none z).e=(I,.un)::z.e:=by simp[Vm,k]
    show Yw (Vm a none z).e t=_;rw[K,QH,beq_false λe=>(f (s,a) XQ) (by rw[<-e];exact k)];rfl
  |some r=>obtain⟨u,w⟩:=G F λx p=>o x (XY _ p);have m:r.f.r=[]:=o (s,a,r) XQ;cases h1 with|ex P Q R S H T=>
    have C:=Kp H;have B:∀d∈r.f.w,r.n<=d.1/\d.1<r.f.n:=λd l=>by
     obtain⟨W,D,_⟩|h:=C.w d l;·rw[m]at D;cases D
     ·exact h
    have V:=C.lt;refine⟨λj v E=>u j v ?_,λt f=>?_⟩
    ·show ZJ (z.app a.dst r.f).b j=some v;rw[xr,m];have O:ZJ r.f.w j=none:=by cases hb:ZJ r.f.w j with|none=>rfl|some X=>have A:=B _ (Vn hb);have U:r.n<=j/\j<r.f.n:=A;have M:j<z.n\/500<=j:=n.ids _ (Vn E);omega
     rw[O];exact E
    ·rw[w t λy q=>f y (XY _ q)];show Yw (z.app a.dst r.f).e t=_;rw[OI,R5,Ys (f (s,a) XQ),m,UG,AW λd l N=>?_];·rfl
     ·have A:=B d l;have M:=n.len t _ N;omega
def Ze7{t}:∀{l}{e},Yw (Hb l e) t=Yw e t/\(∀x∈l,x.2.dst≠some t)\/Wk .any (Yw (Hb l e) t)/\Yw (Hb l e) t=.any
 |[],e=>.inl ⟨rfl,Zc⟩|(i,o)::l,e=>by
  show Yw (Hb l _) t=Yw e t/\_\/Wk _ (Yw (Hb l _) t)/\Yw (Hb l _) t=.any;obtain⟨b,f⟩|h:=Ze7 (t:=t) (l:=l) (e:=match o.dst with|some a=>(a,.any)::e|none=>e);·cases hd:o.dst with|none=>grind|some a=>
    rw[hd]at b;by_cases c:a=t
    ·subst c;have d:Yw ((a,SV.any)::e) a=.any:=by rw[QH];simp[sH]
     refine .inr ⟨?_,Zp⟩;rw[b,d];exact Wk.refl _
    ·refine .inl ⟨b.trans<|by rw[QH,beq_false c];rfl,λx g=>Zp⟩
  ·grind
def Zpp{s C m:XS}{A}{y:Bool}(M:Wf z)(k:OA z s)(B:Sa J c i z b g)(r:yK x A i b)(G:OA g C)(D:s.n<=A.2)(N:Lp .bool (Yw C.e (Hd i)) some=some y)(F:m.e=(Hd i,.v ⟨.bool,y⟩)::Hb i s.e)(u:m.b=s.b)(H:m.n=A.2):OA g m:=by
 obtain⟨O,P⟩:=ZAo B M λq p=>(r.h q p).1;refine⟨λt=>?_,λw v K=>O w v (k.b w v (by rw[<-u];exact K)),?_,by rw[u];exact k.nd⟩
 ·rw[F,QH]
  cases E:Nat.beq (Hd i) t with|true=>
   have I:=Wc E;subst I;rw[S7];have j:=G.e (Hd i);obtain n|n:=ZsE N;·rwa[n]at j
   ·rw[n]at j;have o:∀d a v,Y0 d a (.v ⟨.bit y,()⟩) v->Y0 d a (.v ⟨.bool,y⟩) v:=by rintro d a v⟨Q,⟨_,rfl⟩,rfl⟩;exact⟨_,⟨rfl,rfl⟩,rfl⟩
    obtain f|f|f:=j;·refine .inr (.inr ⟨by rw[<-f];rfl,rfl,λd a v R=>o d a v ?_⟩);grind
    ·cases f
    ·exact .inr (.inr ⟨f.1,rfl,Zp⟩)|false=>
   rw[Su];obtain⟨j,o⟩|⟨_,h⟩:=Ze7 (t:=t) (l:=i) (e:=s.e);·rw[j,P t o];exact k.e t
   ·rw[h];exact Wk.any _
 ·rw[H];exact trN B (λq p=>(r.h q p).2.1) (WB k.n D)
def ZcV{dr:Bool}{g}{s}:s.n<=(N9 dr g s).2:=by
 unfold N9;split;·simp
 ·simp
def ZnB{P}{T}{A}(f:x=true)(h:Bq T P)(e:yK x A i b):Bq (ZaP A.1 i T) (Ud i b++P):=by
 intro a hx;obtain hx|hx:=ZY hx;·obtain⟨m,_,c⟩:=e.h a hx;obtain⟨n,d⟩:=c f;refine⟨⟨a.1,A.1,[]⟩,Ym (.inl (Ol ⟨(a.1,a.2.1),mF hx,rfl⟩)),rfl,d,λo g=>?_⟩;unfold QV at g;grind
 ·have⟨l,j,k⟩:=h a hx;exact⟨l,Ym (.inr j),k⟩
def Rq.group{r}{k H y G w s'}{P}{tr}(q:Rq J c x i H g P b y G)(D:yK x (N9 x i z) i b)(p:iA z=true)(a:Rq J c x r k y (Ud i b++P) tr w s')(A:k.al=z.al)(B:k.d=z.d)(I:k.n=(N9 x i z).2)(n:k.b=z.b):Rq J c x (i++r) z g P (b++tr) w s':=by
 have m:=q.ok.len;refine⟨q.ok.append a.ok,a.wf,a.wk,a.al.trans A,λE C=>⟨λe hx=>?_⟩,⟨λd j=>a.d.1 d (by rw[B];exact j),λe hx F t=>?_⟩,?_,λd v u j=>a.kb d v (by rw[n];exact u) j,λd f j=>by rw[<-B,<-n];exact a.fd d f j,λd v f u=>by rw[<-n];exact a.fb d v f u,λs=>⟨NC.append m (q.nc s).1 (a.nc s).1,λe hx=>(a.nc s).2 e ?_⟩⟩
 ·rw[uw m]at hx;obtain hx|hx:=ZY hx;·obtain⟨f,l,o⟩:=D.h e hx;unfold iA at p;unfold N9 at l o;rw[C]at p l o;exact⟨f,WB l (yE▸p),o⟩
  ·exact(a.xm E (A.trans C)).h e hx
 ·rw[uw m]at hx;obtain hx|hx:=ZY hx;·rw[(D.h e hx).1]at t;cases t
  ·exact a.d.2 e hx F t
 ·have:=a.n;have l:=ZcV (dr:=x) (g:=i) (s:=z);omega
 ·rw[uw m]at hx;grind
def Zrr(y3:∀fc∈J.tb,U4 J fc)(y1:∀g tv,Qa J.gl g=some tv->tv.t.nh=true)(xs:Gj J):∀(m){R}(l)(s)(k)(r),Pn J c x m R l s k=some r->∀(i)(P),Wf i->OA i s->(x=true->Bq s.tr P)->∃tr p s',k s'=some r/\Rq J c x l s i P tr p s':=by intro m;induction m with|zero=>intro R l s k r j;cases j|succ m T=>intro R l s k r j i P F o Q;cases l with|nil=>exact⟨[],i,s,j,Rq.nil F o Q⟩|cons H l=>
   obtain⟨G,h⟩:=H;have xh:Mo J s.e s.b s.n (λf=>lJ c x G h s f λs=>Pn J c x m R l s k) h.op=some r->rD c h i.e->∃tr p s',k s'=some r/\Rq J c x ((G,h)::l) s i P tr p s':=by
    intro j z;obtain⟨f,D,I,hJ⟩:=Zrp (Z:=J) y3 y1 xs j;unfold lJ at D;obtain⟨x5,C⟩:=Yq D;rw[YL]at x5;obtain⟨x2,O⟩:=x5;have S:IG J c h i (some ⟨s.e,s.n,f⟩):=.ex o.e o.n ⟨I.le,λx3 hp=>o.b _ _ (I.r x3 hp),λx3 hp=>o.b _ _ (I.rd x3 hp),I.nd⟩ hJ x2 z;have xb:Wf (i.app h.dst f):=xo S F;have x0:OA (i.app h.dst f) (s.app h.dst f):=o.app F (Kp x2) o.n;have x8:∀a v,ZJ s.b a=some v->a∉f.r.map (·.1)->ZJ (s.app h.dst f).b a=some v:=by
     intro a v hv E;rw[xr];have X:=Kp x2;have hn:ZJ f.w a=none:=by cases hb:ZJ f.w a with|none=>rfl|some N=>
       obtain⟨M,hq,e⟩|⟨D,C⟩:=X.w _ (Vn hb);·exact absurd (by rw[<-show M.1=a from e];exact VV (f:=(·.1)) hq) E
       ·have h3:=F.ids _ (Vn (o.b a v hv));have u:=o.n;have n:=X.lt;have y4:s.n<=a:=D;have y5:a<f.n:=C;have y6:a<i.n\/500<=a:=h3;omega
     rw[hn,Ji λx3 hp e=>E (by rw[<-e];exact VV (f:=(·.1)) hp)];exact hv
    have x7:∀a v,1000<=a->ZJ (s.app h.dst f).b a=some v->∃v,ZJ s.b a=some v:=by
     intro a v D hv
     rw[xr]at hv;cases hb:ZJ f.w a with|some N=>
      have X:=Kp x2;obtain⟨M,hq,e⟩|⟨h3,u⟩:=X.w _ (Vn hb);·exact⟨M.2,by rw[<-show M.1=a from e];exact I.r M hq⟩
      ·have:=X.lt;have y7:a<f.n:=u;omega|none=>rw[hb,Zbr]at hv;exact⟨v,IQ hv⟩
    cases Z:x with|true=>
     subst Z;rw[S7]at C;obtain⟨xv,h3⟩:=Yq C;have x6:=Q rfl;have y0:∀H∈P,Af H (G,h,⟨s.e,s.n,f⟩)->H.1∈marks c G (UL h):=by
      intro H hx⟨a,E⟩;obtain⟨V,hy,e1,B,e3⟩:=x6 H hx;rw[<-e1];refine ZdQ xv V hy<|⟨a,?_⟩;obtain⟨x4,b⟩|⟨x4,b⟩:=E;·exact .inl ⟨x4,b.imp (B a) (e3 a)⟩
      ·exact .inr ⟨x4,e3 a b⟩
     obtain⟨tr,p,s',u,n⟩:=T l _ k r h3 (i.app h.dst f) ((G,h,⟨s.e,s.n,f⟩)::P) xb ⟨x0.e,x0.b,x0.n,x0.nd⟩ (λ_ H hx=>by
      obtain rfl|hx:=XL hx;·exact⟨_,XQ,rfl,λa E=>E,λa E=>E⟩
      ·obtain⟨V,hy,M⟩:=x6 H hx;exact⟨V,XY _ hy,M⟩);exact⟨_,p,s',u,by refine Rq.step S rfl rfl ?_ ?_ ?_ O (λ_=>y0) ?_ I.r ?_ n<;>first|rfl|exact x8|exact x7⟩|false=>
     subst Z;rw[Su]at C;obtain⟨tr,p,s',u,n⟩:=T l _ k r C (i.app h.dst f) ((G,h,⟨s.e,s.n,f⟩)::P) xb x0 λj=>by cases j
     exact⟨_,p,s',u,Rq.step S rfl rfl rfl rfl rfl O (λj=>by cases j) x8 I.r x7 n⟩
   have skip:Pn J c x m R l {s with e:=match h.dst with|some d=>(d,.un)::s.e|none=>s.e} k=some r->rC c h i.e->∃tr p s',k s'=some r/\Rq J c x ((G,h)::l) s i P tr p s':=by intro j z;have S:IG J c h i none:=.no z;obtain⟨tr,p,s',u,n⟩:=T l _ k r j (Vm h none i) P (xo S F) o.skip Q;exact⟨_,p,s',u,Rq.skip S rfl n⟩
   unfold Pn at j;cases z:h.guard with|none=>rw[z]at j;exact xh j (.inl z)|some jw=>
    obtain⟨a,U⟩:=jw;rw[z]at j;obtain⟨hs,q⟩:=Yq j;clear j;obtain⟨t,ht⟩:=Bb hs;have xx:Fe c a=t:=by unfold Fe;rw[ht];rfl
    rw[xx]at q;split at q
    ·rename_i b N he;have xa:EV c i.e a (some b):=Zjh o ht he rfl (by intro j;cases j) λy w v K=>by obtain⟨cs,⟨_,rfl⟩,rfl⟩:=K;rfl
     cases hb:(b==U)with|true=>
      rw[hb]at q;have:b=U:=by simpa using hb
      subst this;exact xh q (.inr ⟨a,b,z,xa⟩)|false=>
      rw[hb]at q;have:b=!U:=by revert hb;cases b<;>cases U<;>simp
      subst this;exact skip q ⟨a,U,z,.inl xa⟩
    ·rename_i he;exact skip q ⟨a,U,z,.inr (Zjh o ht he rfl (by intro j;cases j) λy w v K=>K)⟩
    ·rename_i b he;have x1:OA i (Cl t b s):=by
      refine⟨λN=>?_,o.b,o.n,o.nd⟩;show Wk (Yw i.e N) (Yw ((t,.v ⟨.bit b,()⟩)::s.e) N)
      rw[QH];cases xi:Nat.beq t N with|true=>
       have:=Wc xi;subst this;rw[S7];have C:∀y w v,Y0 y w (.v ⟨.bool,b⟩) v->Y0 y w (.v ⟨.bit b,()⟩) v:=by rintro y w v⟨cs,⟨_,rfl⟩,rfl⟩;exact⟨_,⟨rfl,rfl⟩,rfl⟩
       have D:=o.e t;rw[he]at D;obtain B|B|B:=D;·refine .inr (.inr ⟨by rw[<-B];rfl,rfl,λy w v K=>C y w v ?_⟩);rwa[<-B]at K
       ·cases B
       ·exact .inr (.inr ⟨B.1,rfl,λy w v K=>C y w v (B.2.2 y w v K)⟩)|false=>exact o.e N
     cases x9:OQ J.sp t with|true=>
      rw[x9,S7]at q;have h8:Pn J c x m R ((G,h)::l) (Cl t b s) k=some r:=by cases b with|true=>rwa[XD]at q|false=>rwa[Xp]at q
      obtain⟨tr,p,s',u,n⟩:=T _ _ k r h8 i P F x1 Q;exact⟨tr,p,s',u,n.ok,n.wf,n.wk,n.al,n.xm,n.d,n.n,n.kb,n.fd,n.fb,n.nc⟩|false=>
      rw[x9,Su]at q;split at q;·cases q
      ·rename_i g r' y2;obtain⟨hB,h8⟩:=Yq q;obtain⟨V,h7,h6⟩:=Ti h8;have n:Pn J c x m Bool g {Cl t b s with al:=some (N9 x g s)} (λs'=>Lp .bool (Yw s'.e (Hd g)) some)=some V:=by cases b with|true=>rwa[XD]at h7|false=>rwa[Xp]at h7
       obtain⟨tg,Sg,sg,hy,W⟩:=T g _ _ V n i P F ⟨x1.e,x1.b,x1.n,x1.nd⟩ Q;have O:yK x (N9 x g s) g tg:=W.xm _ rfl;obtain⟨tr,p,s',u,hT⟩:=T r' _ k r h6 Sg (Ud g tg++P) W.wf (Zpp (s:=s) (A:=N9 x g s) F o W.ok O W.wk ZcV hy rfl rfl rfl) λZ=>by show Bq (bif x then ZaP (N9 x g s).1 g s.tr else s.tr) _;rw[Z,S7];subst Z;exact ZnB rfl (Q rfl) O
       rw[Zja y2];exact⟨_,p,s',u,Rq.group W O hB hT rfl rfl rfl rfl⟩
    ·cases q
structure SG where
 N:Nat
 hx:HP
 w0:World
 m0:YO
 b0:List Nat
def YW(H:HM)(b:Bx):HP:=b.flatMap λa=>(H a.1).getD []
def DC{p}:YW E (p::C)=(E p.1).getD []++YW E C:=rfl
def Ld:YW E (C++o)=YW E C++YW E o:=by simp[YW]
def Fk{H}(h:C.Perm o):(YW H C).Perm (YW H o):=by induction h with|nil=>simp|cons b _ a=>exact V5 _ a|swap b d c=>simp[DC];rw[<-Yc,<-Yc];exact Wr.append_right _|trans _ _ h1 h2=>exact h1.trans h2
def Fj{H H'}{b}(h:∀p∈b,H' p.1=H p.1):YW H' b=YW H b:=by induction b with|nil=>rfl|cons p b a=>rw[DC,DC,h p XQ,a λc d=>h c Zp]
def wE{p}(a:p∈C)(e:E p.1=some k):∀x∈k,x∈YW E C:=λx b=>by unfold YW;grind
def ZmG(h:∀p∈C,p.1≠A):VA C A=C:=by induction C with|nil=>rfl|cons p C b=>obtain⟨a,v⟩:=p;show(bif Nat.beq a A then VA C A else(a,v)::VA C A)=_;rw[beq_false (h _ XQ),Su,b λc d=>h c Zp]
def ZrS{v}(b:(C.map (·.1)).Nodup)(h:ZJ C A=some v):C.Perm ((A,v)::VA C A):=by induction C with|nil=>cases h|cons f C e=>obtain⟨a,d⟩:=f;rw[Wb,Ss]at b;rw[M4]at h;show((a,d)::C).Perm ((A,v)::bif Nat.beq a A then VA C A else(a,d)::VA C A);cases hb:Nat.beq a A with|true=>rw[hb]at h;cases h;have c:=Wc hb;subst c;rw[S7,ZmG λi g c=>b.1 Zp]|false=>rw[hb]at h;exact(NP _ (e b.2 h)).trans (List.Perm.swap _ _ _)
def D6{b}:∀{r},(b.map (·.1)).Nodup->(r.map (·.1)).Nodup->(∀p∈r,ZJ b p.1=some p.2)->b.Perm (r++Wm r b)
 |[],_,_,_=>Ue _|(j,v)::r,c,a,h=>by
  rw[Wb,Ss]at a;have g:ZJ (Wm r b) j=some v:=by rw[Ji λp d e=>a.1 (by rw[<-e];exact VV (f:=(·.1)) d)];exact h _ XQ
  refine(D6 c a.2 λp d=>h p Zp).trans ((V5 r (ZrS (JM c) g)).trans List.perm_middle)
def ls{K}{H}:∀{l},(∀p∈l,∃h,H p.1=some h/\WC K p.1 p.2 h)->ZS K l (YW H l)|[],_=>trivial|p::l,h=>by have⟨b,a,c⟩:=h p XQ;exact⟨b,YW H l,by rw[DC,a];exact Ue _,c,ls λd e=>h d Zp⟩
def uP{K}:∀{l}{hs},(l.map (·.1)).Nodup->ZS K l hs->∃(H:HM)(rest:HP),(∀p∈l,∃h,H p.1=some h/\WC K p.1 p.2 h)/\hs.Perm (YW H l++rest)|[],hs,_,_=>⟨λ_=>none,hs,Zc,Ue _⟩|(j,v)::l,hs,a,⟨h1,h2,e,hb,f⟩=>by rw[Wb,Ss]at a;obtain⟨H,rest,k,g⟩:=uP a.2 f;have d:∀p∈l,p.1≠j:=λp b i=>a.1 Zp;refine⟨λc=>if c=j then some h1 else H c,rest,λp b=>Zp,?_⟩;·rw[DC,Fj (H:=H) λp b=>by simp[Ys (d p b)]];simp only[Qe,jt];rw[Yc];exact e.trans (V5 _ g)
def Zra{p}(b:(HP.bs (YW E C)).Nodup)(a:p∈C)(e:E p.1=some k):(HP.bs k).Nodup:=by induction C with|nil=>cases a|cons d C c=>
  rw[DC,HP.Wo,T5]at b;obtain rfl|a:=XL a;·have:=b.1;rwa[e]at this
  ·grind
def Zn3{p q}(a:(HP.bs (YW E C)).Nodup)(l:p∈C)(i:q∈C)(n:p.1≠q.1)(e:E p.1=some k)(f:E q.1=some s):∀x∈k,x∉s:=by induction C with|nil=>grind|cons o C m=>
  rw[DC,HP.Wo,T5]at a;intro x c d;obtain j|h:=XL l
  ·obtain g|b:=XL i;·grind
   ·rw[<-j]at a;exact a.2.2 _ (Ol ⟨x,by rw[e];exact c,rfl⟩) _ (Ol ⟨x,wE b f x d,rfl⟩) rfl
  ·obtain g|b:=XL i;·rw[<-g]at a;exact a.2.2 _ (Ol ⟨x,by rw[f];exact d,rfl⟩) _ (Ol ⟨x,wE h e x c,rfl⟩) rfl
   ·exact m a.2.1 h b x c d
def GD.wq{m e}{h2:HP}{w'}(c:GD m (k++h2) K)(g:ZW K w' m e k.bs s.bs):∀b∈HP.bs h2,∀o,e b o=m b o:=λb a o=>by have d:=c.nodup;rw[HP.Wo,T5]at d;exact(g.Vu b (c.P6 (by rw[HP.Wo];exact Ym (.inr a))) λf=>d.2.2 b f b a rfl).2 o
def Y5.wq{w}{K K'}{h2}(a:Y5 w K k K' s)(c:GD K.m (k++h2) w):∀b∈HP.bs h2,∀o,K'.m b o=K.m b o:=GD.wq c (a.step c.left).2
structure MS(Z:XF)(β:SG)(S:XS)(FN:Nat->Prop)(K:KK)(H:HM)(a:Act)(w:World):Prop where
 nd:(S.b.map (·.1)).Nodup
 own:∃hd,GD K.m (YW H S.b++(hd++β.hx)) w/\ZW β.w0 w β.m0 K.m β.b0 (HP.bs (YW H S.b++(hd++β.hx)))gl:NW Z K
 bx:∀p∈S.b,∃h,H p.1=some h/\WC K p.1 p.2 h
 ev:∀t,Y0 K H (Yw S.e t) (a.tmps.getD t undef)fr:∀i,FN i->K.nm i=none
 YT:Yx K S.b
 sz:a.tmps.size=β.N
 df:a.defers=[]fx:∀b∈HP.bs β.hx,∀o,K.m b o=β.m0 b o
structure MT(T U:Nat->Prop)(K:KK)(H:HM)(K':KK)(H':HM):Prop where
 le:K.le K'
 hk:∀j,¬T j->H' j=H j
 fk:∀f,¬T (Yp f)->K'.fm f=K.fm f
 nm:∀i,¬U i->K'.nm i=K.nm i
def MT.refl(T U)(K)(H):MT T U K H K H:=⟨KK.le.refl K,λ_ _=>rfl,λ_ _=>rfl,λ_ _=>rfl⟩
variable {M:SG}
def MT.trans{g i U l m}{K f K2}{d e}(h:MT g l K E f d)(k:MT i m f d K2 e)(h1:∀j,g j->a j)(h2:∀j,i j->a j)(r:∀j,l j->U j)(s:∀j,m j->U j):MT a U K E K2 e:=⟨h.le.trans k.le,λj q=>(k.hk j λb=>q (h2 j b)).trans (h.hk j λb=>q (h1 j b)),λn o=>(k.fk n λb=>o (h2 _ b)).trans (h.fk n λb=>o (h1 _ b)),λc p=>(k.nm c λb=>p (s c b)).trans (h.nm c λb=>p (r c b))⟩
def MS.op{K:KK}{w:World}(h:MS J M z a K E B w){o}{r:Gt}(y1:∀x∈o.op.operands.toList,Y0 K E (Z9 r.e x) (B.eval x))(U:∀p∈r.f.r,ZJ z.b p.1=some p.2)(x1:∀p∈r.f.rd,ZJ z.b p.1=some p.2)(xv:(r.f.r.map (·.1)).Nodup)(hJ:EL J o r.e r.n r.f)(F:rN r.n r.f)(y5:r.n<=r.f.n)(xh:∀p∈z.b,p.1<r.n\/500<=p.1\/∀q∈r.f.w,q.1=p.1->∃x∈r.f.r,x.1=p.1)(xb:∀i,r.n<=i->i<r.f.n->a i)(xa:∀d,o.dst=some d->d<M.N):RS J.P (λv w'=>∃K' H',MS J M (z.app o.dst r.f) (λi=>a i/\¬(r.n<=i/\i<r.f.n)) K' H' (B.put o.dst v) w'/\MT (λj=>j∈QV r.f) (λi=>r.n<=i/\i<r.f.n) K E K' H') ((execOp B.eval o).run J.P w):=by
 obtain⟨g,L,R⟩:=h.own;have S:=D6 h.nd xv U;have y2:(YW E z.b++(g++M.hx)).Perm (YW E r.f.r++(YW E (Wm r.f.r z.b)++(g++M.hx))):=by rw[<-Yc (YW E r.f.r),<-Ld];exact(Fk S).append_right _
 have X:(HP.bs (YW E z.b)).Nodup:=L.left.nodup;have y:∀p∈r.f.rd,p∈z.b:=λp c=>Vn (x1 p c);have T:(YW E z.b++(g++M.hx)).Perm (YW E r.f.r++YW E (Wm r.f.r z.b)++(g++M.hx)):=by rw[<-Ld];exact(Fk S).append_right _
 have y3:TP J r.e r.n r.f o.op.operands.toList K E (YW E r.f.r) (YW E (Wm r.f.r z.b)) B w:=by
  refine⟨(L.perm T).left,h.gl,ls λp c=>h.bx p (Vn (U p c)),λp c=>?_,λp c A n e x hx=>?_,y1,λi D h2=>h.fr i (xb i D h2),jl F.lt,h.YT.sub λp c=>Vn (U p c),λp c q A xx n g' e e' x hx=>Zn3 X (y p c) (y q A) xx e e' x hx,h.YT.sub y,λp c n e=>Zra X (y p c) e⟩;·obtain⟨n,e,s⟩:=h.bx p (y p c);refine⟨n,e,s,λx hx=>?_⟩;rw[<-Ld];exact(Fk (H:=E) S).mem_iff.1 (wE (y p c) e x hx)
  ·have x8:ZJ (Wm r.f.r z.b) p.1=some p.2:=by rw[Ji A];exact x1 p c
   exact wE (Vn x8) e x hx
 refine(hJ K E _ _ B w y3).mono<|λv w'⟨K',G,l⟩=>?_;obtain⟨x5,x3⟩:=GD.frame (L.perm T) l.gd l.JA;have x6:GD K'.m (G++(YW E (Wm r.f.r z.b)++(g++M.hx))) w':=by rw[<-Yc];exact x5
 have x4:ZW w w' K.m K'.m (HP.bs (YW E r.f.r++(YW E (Wm r.f.r z.b)++(g++M.hx)))) (HP.bs (G++(YW E (Wm r.f.r z.b)++(g++M.hx)))):=by
  have O:YW E r.f.r++(YW E (Wm r.f.r z.b)++(g++M.hx))=YW E r.f.r++YW E (Wm r.f.r z.b)++(g++M.hx):=by simp only[Yc]
  have e2:G++(YW E (Wm r.f.r z.b)++(g++M.hx))=G++YW E (Wm r.f.r z.b)++(g++M.hx):=by simp only[Yc]
  rw[O,e2];exact x3
 obtain⟨C,x2,k1,k2⟩:=uP F.nd l.sw;have N:=l.mv.le;obtain⟨H',V⟩:∃H':HM,H'=λj=>if j∈r.f.w.map (·.1)then C j else E j:=⟨_,rfl⟩;have W:∀p∈r.f.w,H' p.1=C p.1:=λp c=>by rw[V];show(if p.1∈r.f.w.map (·.1)then C p.1else E p.1)=_;rw[Y4 (VV (f:=(·.1)) c)]
 have H:∀j,j∉r.f.w.map (·.1)->H' j=E j:=λj m=>by rw[V];show(if j∈r.f.w.map (·.1)then C j else E j)=_;rw[Ys m]
 have Q:∀p∈Wm r.f.r z.b,p.1∉r.f.w.map (·.1):=by
  intro p c u;obtain⟨q,A,e⟩:=VR u;have Z:=Jh (Nf (JM h.nd) c);obtain⟨x,hx,P⟩|⟨n1,n2⟩:=F.w q A;·exact Z x hx (P.trans e)
  ·have y6:=F.lt;obtain D|D|D:=xh p (Ju p c);·omega
   ·omega
   ·obtain⟨x,hx,P⟩:=D q A e;exact Z x hx P
 have x7:YW H' (r.f.w++Wm r.f.r z.b)=YW C r.f.w++YW E (Wm r.f.r z.b):=by rw[Ld,Fj W,Fj λp c=>H p.1 (Q p c)]
 have x0:(G++(YW E (Wm r.f.r z.b)++(g++M.hx))).Perm (YW H' (r.f.w++Wm r.f.r z.b)++(x2++g++M.hx)):=by rw[x7];classical rw[VX]at k2⊢;intro y4;have:=k2 y4;simp only[VU]at this⊢;omega
 refine⟨K',H',⟨?_,⟨x2++g,x6.perm x0,R.trans (ZW.Qm y2 (ZW.Od x0 x4))⟩,h.gl.mono N,λp c=>?_,λk=>?_,λi t=>by rw[l.mv.nm i t.2];exact h.fr i t.1,?_,by rw[NB];exact h.sz,by rw[FI];exact h.df,λb s o=>((GD.wq (L.perm T) l.JA) b (by rw[HP.Wo];exact Ym (.inr s)) o).trans (h.fx b s o)⟩,N,λj m=>H j λu=>m (Ym (.inr u)),λf R=>l.fk f λp c e=>R (by rw[<-e];exact Ym (.inl (VV (f:=(·.1)) c))),λi t=>l.mv.nm i t⟩;·show((r.f.w++Wm r.f.r z.b).map (·.1)).Nodup;rw[WW,T5];refine⟨F.nd,JM h.nd,λi t j m e=>?_⟩;subst e;obtain⟨p,c,e⟩:=VR m;exact Q p c (by rw[e];exact t)
 ·obtain c|c:=ZY (show p∈r.f.w++Wm r.f.r z.b from c);·obtain⟨n,e,s⟩:=k1 p c;exact⟨n,(W p c).trans e,s⟩
  ·obtain⟨n,e,s⟩:=h.bx p (Ju p c);exact⟨n,(H p.1 (Q p c)).trans e,s.mono N⟩
 ·rw[OI];cases u:Ri (r.f.r++r.f.w) (R5 o.dst r.f.v k (Yw z.e k))with|true=>trivial|false=>
   rw[Su];have y0:∀j∈Us (R5 o.dst r.f.v k (Yw z.e k)),H' j=E j:=by
    refineλj m=>H j λxi=>?_;obtain⟨p,c,e⟩:=VR xi;have:Ri (r.f.r++r.f.w) (R5 o.dst r.f.v k (Yw z.e k))=true:=by cases hs:R5 o.dst r.f.v k (Yw z.e k)with|bv js tv=>rw[hs]at m;exact yq ⟨p,Ym (.inr c),Km.2 (by rw[e];exact m)⟩|_=>rw[hs]at m;cases m
    rw[u]at this;cases this
   refine Y0.boxes y0 ?_;unfold R5;split;·rename_i I;rw[I,Lq (by rw[h.sz];exact xa k I)];exact l.v
   ·rename_i I;have O:(B.put o.dst v).tmps.getD k undef=B.tmps.getD k undef:=by cases x9:o.dst with|none=>rfl|some d=>exact Ku λe=>I (by rw[x9,e])
    rw[O];exact(h.ev k).mono N
 ·show Yx K' (r.f.w++Wm r.f.r z.b);refine Yx.append l.YT λf k xs u i t=>?_;rw[l.fk f λp c e=>Jh (Nf (JM h.nd) u) p c e];exact h.YT f k xs (Ju _ u) i t
def MS.skip{K:KK}{w:World}(h:MS J M z a K E B w)(f:∀d,T.dst=some d->d<M.N):MS J M (Vm T none z) a K E (B.put T.dst undef) w:=by
 refine⟨h.nd,h.own,h.gl,h.bx,λc=>?_,h.fr,h.YT,by rw[NB];exact h.sz,by rw[FI];exact h.df,h.fx⟩
 cases hd:T.dst with|none=>
  have b:(Vm T none z).e=z.e:=by simp[Vm,hd]
  rw[b];exact h.ev c|some d=>
  have b:(Vm T none z).e=(d,.un)::z.e:=by simp[Vm,hd]
  rw[b,QH];cases hb:Nat.beq d c with|true=>have:=Wc hb;subst this;rw[Lq (by rw[h.sz];exact f d hd)];exact rfl|false=>rw[Ku λe=>Xk];exact h.ev c
def Zgb{K}{H}{e}{a:Act}(h:∀t,Y0 K H (Yw e t) (a.tmps.getD t undef))(x):Y0 K H (Z9 e x) (a.eval x):=by cases x with|tmp t=>exact h t|const v=>exact Y0.Hj (Zdp v)|global c=>exact Y0.Hj rfl|func b=>exact⟨[_],⟨rfl,[],[],[],rfl,⟨[],⟨rfl,rfl⟩,rfl,rfl⟩,⟨rfl,rfl⟩,rfl,rfl⟩,rfl⟩
def ZaR{tmps}(f:c[A]?.bind (·.dst)=some D):(∀b,tmps.getD D undef=.bool b->yielded c.toArray tmps A=some b)/\(tmps.getD D undef=undef->yielded c.toArray tmps A=none):=by
 have e:(c.toArray[A]?.bind (·.dst))=some D:=Zp;constructor
 ·intro b a;unfold yielded;by_cases d:D<tmps.size;·simp_all
  ·simp[Array.getD,d,dite_false]at a;cases a
 ·intro a;unfold yielded;rw[e];by_cases d:D<tmps.size;·simp[jr,Za1 d];simp[Array.getD,d,sS,Za2]at a;rw[a];rfl
  ·simp[d]
def ZeH{K}(h:rD c T G)(a:∀t,Y0 K E (Yw G t) (B.tmps.getD t undef)):Region.wanted T (yielded c.toArray B.tmps)=true:=by
 obtain h|⟨g,f,b,t,d,_,e⟩:=h;·simp[Region.wanted,h]
 ·simp[Region.wanted,b,(ZaR d).1 f (e K E _ (a t))]
def ZeG{K}(h:rC c T G)(d:∀t,Y0 K E (Yw G t) (B.tmps.getD t undef)):Region.wanted T (yielded c.toArray B.tmps)=false:=by
 obtain⟨f,g,e,⟨t,a,_,b⟩|⟨t,a,_,b⟩⟩:=h;·simp[Region.wanted,e,(ZaR a).1 _ (b K E _ (d t))]
 ·simp[Region.wanted,e,(ZaR a).2 (b K E _ (d t))]
def lT(l:L (Nat×Oper))(tr:Tr)(j:Nat):Prop:=∃a∈Ud l tr,j∈QV a.2.2.f
def rP(l:L (Nat×Oper))(a a':Act):Prop:=∀b,(∀c∈l,c.2.dst≠some b)->a'.tmps.getD b undef=a.tmps.getD b undef
def Oq(n:Nat)(i:Nat):Prop:=n<=i/\i<500
def mb{v}(h:f≠some A):(B.put f v).tmps.getD A undef=B.tmps.getD A undef:=by cases f with|none=>rfl|some f=>exact Ku λa=>h (by rw[a])
def MS.tM{b}{K}{w}(h:MS J M z a K E B w)(k:∀i,b i->a i):MS J M z b K E B w:={h with fr:=λi c=>h.fr i (k i c)}
def Zrs{Q:Exit->Act->World->Prop}(V:Sa J c i z b g):∀{K}{H}{a}{w},Wf z->MS J M z (Oq z.n) K H a w->(∀x∈i,∀d,x.2.dst=some d->d<M.N)->(∀K' H' a' w',MS J M g (Oq g.n) K' H' a' w'->MT (lT i b) (Oq z.n) K H K' H'->rP i a a'->Q .normal a' w')->wpListIn (WR none) 0 J.P c.toArray Q (i.map (·.2)) a w:=by induction V with|nil=>intro K H a w _ l _ q;exact q K H a w l (MT.refl _ _ _ _) λ_ _=>rfl|@cons x i z g r b j _ P=>
  obtain⟨h,o⟩:=x;intro K H a w N l F q;have O:=xo j N;have I:=F (h,o) XQ
  have G:=λx m=>F x (XY _ m);cases j with|@ex r a1 a2 a3 a4 a5 a6=>
   show if Region.wanted o (yielded c.toArray a.tmps)then _ else _;rw[Y4 (ZeH a6 l.ev)];refine RS.wp (l.op (o:=o) (r:=r) (λx _=>(Zgb (e:=r.e) (a:=a) (K:=K) (H:=H) λn=>(a1 n).uK (l.ev n)) x) a3.r a3.rd a3.nd a4 (Kp a5) a3.le (λW T=>(N.ids W T).imp (λy=>Y) λy=>.inl y) (λh j X=>⟨Y,by have:=(Kp a5).lt;omega⟩) I) λv w'⟨K',H',S,R⟩=>P O (S.tM λh k=>⟨⟨?_,k.2⟩,λy=>?_⟩) G λt s u E C B D=>q t s u E C (R.trans B (λU A=>⟨(h,o,r),XQ,A⟩) (λU⟨x,m,A⟩=>⟨x,XY _ m,A⟩) (λh k=>⟨Y,by have:=(Kp a5).lt;omega⟩) λh k=>⟨by have j:r.f.n<=h:=k.1;have:=a3.le;omega,k.2⟩) λn p=>?_;·have j:r.f.n<=h:=k.1;have:=a3.le;omega
   ·have j:r.f.n<=h:=k.1;omega
   ·rw[D n λx m=>p x (XY _ m)];exact mb (p (h,o) XQ)|no j=>show if Region.wanted o (yielded c.toArray a.tmps)then _ else _;rw[Ys (by rw[ZeG j l.ev];simp)];refine⟨λf _=>wh _ f,P O (l.skip I) G λt s u E C B D=>q t s u E C B λn p=>?_⟩;rw[D n λx m=>p x (XY _ m)];exact mb (p (h,o) XQ)
def La:Zg Gt->Ww|some a=>a.f|none=>⟨.un,[],[],[],0⟩
structure SH(s s':XS):Prop where
 b:∀j,ZJ s.b j=ZJ s'.b j
 e:∀t,Yw s.e t=Yw s'.e t
def SH.refl(s):SH s s:=⟨λ_=>rfl,λ_=>rfl⟩
def SH.symm(h:SH z g):SH g z:=⟨λa=>(h.b a).symm,λb=>(h.e b).symm⟩
def SH.trans{c}(h:SH z g)(k:SH g c):SH z c:=⟨λa=>(h.b a).trans (k.b a),λb=>(h.e b).trans (k.e b)⟩
def ZmP:ZJ (Wm C o) A=if A∈C.map (·.1)then none else ZJ o A:=by
 split;·rename_i a;have⟨d,c,b⟩:=VR a;exact ZmQ ⟨d,c,b⟩
 ·rename_i a;exact Ji λd c b=>a Zp
def IM:ZJ (z.app f X).b A=(ZJ X.w A).or (if A∈X.r.map (·.1)then none else ZJ z.b A):=by rw[xr,ZmP]
def rY(h:SH z g):SH (z.app f X) (g.app f X):=⟨λa=>by rw[IM,IM,h.b],λb=>by rw[OI,OI,h.e]⟩
def Ma{s}{o}{r}:SH (Vm o r s) (s.app o.dst (La r)):=by cases r with|some r=>exact SH.refl _|none=>refine⟨λd=>rfl,λb=>?_⟩;·rw[OI];show Yw (match o.dst with|some a=>(a,SV.un)::s.e|none=>s.e) b=bif Ri [] _ then _ else R5 _ .un b _;rw[Zfv];cases hd:o.dst with|none=>rfl|some a=>
    rw[QH];by_cases c:a=b;·simp[R5,sH]
    ·rw[beq_false c];simp[R5,c]
def VC(X:Nat->Bool):L (Nat×Oper)->Tr->XS->XS|(i,o)::l,r::tr,s=>VC X l tr (bif X i then Vm o r s else s)|_,_,s=>s
def uL{X}:∀{l}{tr}{s s'},SH s s'->SH (VC X l tr s) (VC X l tr s')|[],tr,s,s',h=>by cases tr<;>exact h|(i,o)::l,[],s,s',h=>h|(i,o)::l,r::tr,s,s',h=>by unfold VC;cases X i with|true=>exact uL ((Ma.trans (rY h)).trans Ma.symm)|false=>exact uL h
def bY{X}:∀{l a}{tr b}{s},tr.length=l.length->VC X (l++a) (tr++b) s=VC X a b (VC X l tr s)|[],a,tr,b,s,h=>by rw[Ok h];rfl|(i,o)::l,a,r::tr,b,s,h=>bY (l:=l) Zp
def mZ{X X'}:∀{l}{tr}{s},(∀x∈l,X x.1=X' x.1)->VC X l tr s=VC X' l tr s|[],tr,s,_=>by cases tr<;>rfl|(i,o)::l,[],s,_=>rfl|(i,o)::l,r::tr,s,h=>by unfold VC;rw[h _ XQ];exact mZ λx a=>h x Zp
def ZiE(h:Sa J c i z b g){X}(a:∀x∈i,X x.1=true):VC X i b z=g:=by induction h with|nil=>rfl|@cons x i z g r b _ _ d=>obtain⟨f,j⟩:=x;show VC X i _ _=_;rw[a _ XQ];exact d λx e=>a x Zp
structure ZbB(o:Oper)(f:Ww)(o':Oper)(f':Ww):Prop where
 d:∀t,o.dst=some t->o'.dst≠some t
 w:∀j∈QV f,j∉QV f'/\j∉Us f'.v
 v:∀j∈QV f',j∉Us f.v
def dd:A∈QV X↔∃p∈X.r++X.w,p.1=A:=by unfold QV;rw[<-WW,sB]
def Zmt{o'}{a}(h:ZbB T X o' a):SH ((z.app o'.dst a).app T.dst X) ((z.app T.dst X).app o'.dst a):=by
 refine⟨λf=>?_,λk=>?_⟩
 ·rw[IM,IM,IM,IM];by_cases d:f∈QV X
  ·have e:=(h.w f d).1;have i:ZJ a.w f=none:=by cases hb:ZJ a.w f with|none=>rfl|some v=>exact absurd (Ym (.inr (VV (f:=(·.1)) (Vn hb)))) e
   simp only[i,Ys λc=>e (Ym (.inl c)),Zbr]
  ·have i:ZJ X.w f=none:=by cases hb:ZJ X.w f with|none=>rfl|some v=>exact absurd (Ym (.inr (VV (f:=(·.1)) (Vn hb)))) d
   simp only[i,Ys λc=>d (Ym (.inl c)),Zbr]
 ·rw[OI,OI,OI,OI];unfold R5;by_cases d:T.dst=some k
  ·have e:=h.d k d;simp only[Y4 d,Ys e];rw[AW (r:=a.r++a.w) (s:=bif Ri (X.r++X.w) X.v then SV.any else X.v)];·rfl
   ·intro g j b;cases c:Ri (X.r++X.w) X.v with|true=>rw[c]at b;cases b|false=>rw[c]at b;exact h.v g.1 (dd.2 ⟨g,j,rfl⟩) b
  ·simp only[Ys d];by_cases e:o'.dst=some k
   ·simp only[Y4 e];rw[AW (r:=X.r++X.w)];·rfl
    ·intro g j b;cases c:Ri (a.r++a.w) a.v with|true=>rw[c]at b;cases b|false=>rw[c]at b;exact(h.w g.1 (dd.2 ⟨g,j,rfl⟩)).2 b
   ·grind
def lj{X}{o}{f}:∀{l}{tr}{s},tr.length=l.length->(∀i o' r,((i,o'),r)∈l.zip tr->X i=true->ZbB o f o' (La r))->SH (VC X l tr (s.app o.dst f)) ((VC X l tr s).app o.dst f)
 |[],tr,s,b,_=>by exact SH.refl _|(i,o')::l,r::tr,s,b,h=>by
  have c:=by simpa using b
  have a:=λi o' r e=>h i o' r (XY _ e);unfold VC;cases d:X i with|false=>exact lj c a|true=>refine SH.trans (uL ((Ma.trans (Zmt (h i _ r XQ d)).symm).trans (rY Ma.symm))) (lj c a)
def bZ{X X'}{j}:∀{l}{tr}{s s'},tr.length=l.length->ZJ s.b j=ZJ s'.b j->(∀i o r,((i,o),r)∈l.zip tr->X i≠X' i->j∉QV (La r))->ZJ (VC X l tr s).b j=ZJ (VC X' l tr s').b j
 |[],tr,s,s',c,h,_=>by rw[Ok c];exact h|(i,o)::l,r::tr,s,s',c,h,hk=>by
  unfold VC;refine bZ (by simpa using c) ?_ λi o r d=>hk i o r (XY _ d);have g:∀a:XS,j∉QV (La r)->ZJ (Vm o r a).b j=ZJ a.b j:=by
   intro a e;rw[Ma (s:=a) (o:=o) (r:=r).b j,IM];have k:ZJ (La r).w j=none:=by cases hb:ZJ (La r).w j with|none=>rfl|some v=>exact absurd (Ym (.inr (VV (f:=(·.1)) (Vn hb)))) e
   rw[k,Ys λd=>e (Ym (.inl d))];rfl
  cases h1:X i with
  |true=>cases h2:X' i with|true=>show ZJ (Vm o r s).b j=ZJ (Vm o r s').b j;rw[Ma (s:=s) (o:=o) (r:=r).b j,Ma (s:=s') (o:=o) (r:=r).b j,IM,IM,h]|false=>show ZJ (Vm o r s).b j=ZJ s'.b j;rw[g s (hk i o r XQ (by rw[h1,h2];simp))];exact h
  |false=>cases h2:X' i with|true=>show ZJ s.b j=ZJ (Vm o r s').b j;rw[g s' (hk i o r XQ (by rw[h1,h2];simp))];exact h|false=>exact h
def ZiF{X}{t}:∀{l:L (Nat×Oper)}{tr:Tr}{s s'},tr.length=l.length->Yw s'.e t=Yw s.e t\/Yw s'.e t=.any->(∀i o r,((i,o),r)∈l.zip tr->X i=false->o.dst≠some t)->Yw (VC (λ_=>true) l tr s').e t=Yw (VC X l tr s).e t\/Yw (VC (λ_=>true) l tr s').e t=.any|[],tr,s,s',a,h,_=>by exact h|(i,o)::l,r::tr,s,s',a,h,hk=>by unfold VC;refine ZiF (by simpa using a) ?_ λi o r b=>hk i o r Xk;show Yw (Vm o r _).e t=Yw _ t\/Yw (Vm o r _).e t=.any;rw[(Ma).e t,OI];cases h1:X i with|true=>show _=Yw (Vm o r s).e t\/_;rw[(Ma).e t,OI];unfold R5;grind|false=>unfold R5;rw[Ys (hk i o r XQ h1)];cases Ri ((La r).r++(La r).w) (Yw s'.e t)<;>grind
def b9{X}{t:Nat}:∀{l:L (Nat×Oper)}{tr:Tr}{s},tr.length=l.length->(∀i o r,((i,o),r)∈l.zip tr->X i=true->o.dst≠some t)->Yw (VC X l tr s).e t=Yw s.e t\/∃i o r,((i,o),r)∈l.zip tr/\X i=true/\∃j∈QV (La r),j∈Us (Yw s.e t)
 |[],tr,s,q,_=>by exact .inl rfl|(i,o)::l,r::tr,s,q,hk=>by
  have u:=by simpa using q
  unfold VC;have p:=λi o r a=>hk i o r (XY _ a);cases h1:X i with
  |true=>
   have m:Yw (Vm o r s).e t=bif Ri ((La r).r++(La r).w) (Yw s.e t)then .any else Yw s.e t:=by rw[Ma (s:=s) (o:=o) (r:=r).e t,OI,R5,Ys (hk i o r XQ h1)]
   cases a:Ri _ (Yw s.e t)with|true=>obtain⟨v,z,y⟩:=ZqD a;exact .inr ⟨i,o,r,XQ,h1,v.1,dd.2 ⟨v,z,rfl⟩,y⟩|false=>
    rw[a]at m;have x:Yw (Vm o r s).e t=Yw s.e t:=m;obtain n|⟨g,h,k,b,c,j,d,f⟩:=b9 (s:=Vm o r s) u p;·grind
    ·exact .inr ⟨g,h,k,XY _ b,c,j,d,by rw[<-x];exact f⟩
  |false=>
   obtain n|⟨g,h,k,b,c,j,d,f⟩:=b9 (s:=s) u p;·exact .inl n
   ·exact .inr ⟨g,h,k,XY _ b,c,j,d,f⟩
def vI:∀{n k}{o},(k,o)∈TH n c->n<=k/\c[k-n]?=some o:=by induction c with|nil=>intro n k o h;cases h|cons b c a=>
  intro n k o h;obtain h|h:=XL h;·simp_all
  ·grind
def Zre:∀{n},(TH n c).map (·.2)=c:=by induction c with|nil=>intro n;rfl|cons b c a=>intro n;show b::(TH _ c).map _=_;rw[a]
def Zrf:∀{n i}{o},c[i]?=some o->TH n c=TH n (c.take i)++(n+i,o)::TH (n+i+1) (c.drop (i+1)):=by induction c with|nil=>simp|cons b c d=>intro n i o a;cases i with|zero=>simp at a;subst a;rfl|succ i=>show(n,b)::TH _ c=(n,b)::TH _ _++_;grind
def Sa.split{Z}{d}{x}{i}:∀{l1}{a c}{tr},Sa Z d (l1++x::i) a tr c->∃tr1 r e b,tr=tr1++r::e/\Sa Z d l1 a tr1 b/\IG Z d x.2 b r/\Sa Z d i (Vm x.2 r b) e c
 |[],a,c,tr,h=>by cases h with|cons f g=>exact⟨[],_,_,a,rfl,.nil,f,g⟩
 |y::l1,a,c,tr,h=>by cases h with|cons f g=>have⟨tr1,r,e,b,m,j,k,l⟩:=Sa.split g;exact⟨_::tr1,r,e,b,Zp,.cons f j,k,l⟩
def Eu{i}{o}{r}:∀{l}{tr},((i,o),some r)∈l.zip tr->(i,o,r)∈Ud l tr
 |[],tr,h=>by simp at h|x::l,[],h=>by simp at h|(k,p)::l,some q::tr,h=>by
  obtain h|h:=XL h;·cases h;exact XQ
  ·exact XY _ (Eu h)|(k,p)::l,none::tr,h=>by
  obtain h|h:=XL h;·grind
  ·exact Eu (l:=l) h
def kR{x}{r}(h:(x,r)∈i.zip b):x∈i:=(List.of_mem_zip h).1
def NC.mem{b}:∀{l}{tr}{P},NC b P l tr->∀y∈Ud l tr,∀x∈P,Af x y->x.1∈marks b y.1 (UL y.2.1)
 |[],tr,P,_,y,hy,_,_,_=>by cases hy|(i,o)::l,[],P,_,y,hy,_,_,_=>by cases hy|(i,o)::l,some r::tr,P,⟨h1,h2⟩,y,hy,x,hx,a=>by
  obtain rfl|hy:=XL hy;·grind
  ·exact NC.mem h2 y hy x Zp a|(i,o)::l,none::tr,P,h,y,hy,x,hx,a=>NC.mem (l:=l) h y hy x hx a
def NC.right{g}{x}{r}{h}{j:Tr}:∀{l1}{tr1}{P},tr1.length=l1.length->NC g P (l1++x::h) (tr1++r::j)->∃c,(∀y∈Ud l1 tr1,y∈c)/\NC g c (x::h) (r::j)
 |[],tr1,P,b,a=>by rw[Ok b]at a⊢;exact⟨P,by simp[Ud],a⟩|(i,o)::l,some n::tr,P,b,⟨_,a⟩=>by
  have m:∀{l1:L (Nat×Oper)}{tr1:Tr}{P:L ER},tr1.length=l1.length->NC g P (l1++x::h) (tr1++r::j)->∃c,(∀y∈Ud l1 tr1,y∈c)/\(∀y∈P,y∈c)/\NC g c (x::h) (r::j):=by intro l1;induction l1 with|nil=>intro tr1 P b a;rw[Ok b]at a⊢;exact⟨P,by simp[Ud],λ_ a=>a,a⟩|cons y l1 k=>intro tr1 P b a;match tr1,b,a with
    |some n::tr1,b,⟨_,a⟩=>
     obtain⟨c,d,f,e⟩:=k (by simpa using b) a;refine⟨c,λy hy=>?_,Zp,e⟩;obtain rfl|hy:=XL hy;·grind
     ·exact d y hy|none::tr1,b,a=>obtain⟨c,d,f,e⟩:=k (tr1:=tr1) (by simpa using b) a;exact⟨c,d,f,e⟩
  obtain⟨c,d,f,e⟩:=m (by simpa using b) a;refine⟨c,λy hy=>?_,e⟩;obtain rfl|hy:=XL hy;·exact f _ XQ
  ·exact d y hy|(i,o)::l,none::tr,P,b,a=>NC.right (l1:=l) (tr1:=tr) (by simpa using b) a
def zP(h:Sa J c i z b g):z.n<=g.n/\∀x∈Ud i b,z.n<=x.2.2.n/\x.2.2.n<=x.2.2.f.n/\x.2.2.f.n<=g.n:=by induction h with|nil=>exact⟨Zc,by simp[Ud]⟩|@cons x i z g r b d _ a=>have⟨l,e⟩:=x;cases d with
  |@ex r a1 a2 a3 a4 a5 a6=>
   have j:(Vm e (some r) z).n=r.f.n:=rfl;have f:=a3.le;have k:(Vm e _ z).n<=g.n:=a.1;refine⟨Y,λm hy=>?_⟩;obtain rfl|hy:=XL hy;·exact⟨a2,f,by show r.f.n<=g.n;omega⟩
   ·grind|no d=>exact⟨a.1,a.2⟩
def Sa.wf(h:Sa J c i z b g):Wf z->Wf g:=by induction h with|nil=>simp|cons a _ e=>exactλd=>e (xo a d)
def aa:∀{l}{tr}{s},VC (λ_=>false) l tr s=s|[],tr,s=>by cases tr<;>rfl|(i,o)::l,[],s=>rfl|(i,o)::l,r::tr,s=>aa (l:=l)
def Zjf:∀i,a i->a i:=λ_ b=>b
def FNX(l:L (Nat×Oper))(tr:Tr)(n:Nat)(X:Nat->Bool)(i:Nat):Prop:=Oq n i\/∃a∈Ud l tr,X a.1=false/\a.2.2.n<=i/\i<a.2.2.f.n
def jW(Z:XF)(β:SG)(l:L (Nat×Oper))(tr:Tr)(e f:XS)(K0:KK)(H0:HM)(g:Act)(X:Nat->Bool)(a:Act)(w:World):Prop:=∃d c b,SH d (VC X l tr e)/\MS Z β d (FNX l tr f.n X) c b a w/\MT (lT l tr) (Oq e.n) K0 H0 c b/\rP l g a
def ZpN{Q:Exit->Act->World->Prop}{K0}(ok:Sa J c (TH 0 c) z b g)(z7:Wf z)(y7:NC c [] (TH 0 c) b)(hB:Mf c c.length=true)(hU:An c=true)(hN:∀x∈TH 0 c,∀d,x.2.dst=some d->d<M.N){X}{Kc}{a}(hi:c[A]?=some T)(hX:X A=false)(he:∀j∈UL T,X j=true)(x5:∀j p,c[j]?=some p->X j=true->∀e∈UL p,X e=true)(hI:jW J M (TH 0 c) b z g K0 E B X a K)(hK:∀a' w',jW J M (TH 0 c) b z g K0 E B (Uo X A) a' w'->Kc a' w'):wpOpIn (WR none) 0 J.P c.toArray Q A Kc a K:=by
 have xi:=Zrf (n:=0) hi;simp only[Qc]at xi;obtain⟨D,y0⟩:∃D,D=TH 0 (c.take A):=⟨_,rfl⟩;obtain⟨F,y1⟩:∃F,F=TH (A+1) (c.drop (A+1)):=⟨_,rfl⟩;rw[<-y0,<-y1]at xi;have m1:∀{i p},(i,p)∈D->i<A/\c[i]?=some p:=by
  intro i p h;rw[y0]at h;obtain⟨_,o⟩:=vI h;rw[jq,NQ]at o;split at o;·exact⟨by assumption,o⟩
  ·cases o
 have m2:∀{i p},(i,p)∈F->A<i/\c[i]?=some p:=by intro i p h;rw[y1]at h;obtain⟨q,o⟩:=vI h;rw[Py]at o;refine⟨Y,?_⟩;rw[<-o];congr 1;omega
 rw[xi]at ok y7 hN hI hK;obtain⟨N,r,I,P,rfl,x4,z6,ys⟩:=ok.split;have V:=x4.len;have x6:=ys.len;obtain⟨P',yv,y8⟩:=NC.right V y7;have xx:VC (λ_=>true) D N z=P:=ZiE x4 λ_ _=>rfl;have D1:∀{i p},(i,p)∈D->X i=false->∀t∈names c T,p.dst≠some t:=λ{i p}m u t y hd=>by have:=(qD hB hi (m1 m).2 (by have:=(m1 m).1;omega) hd y).1 (m1 m).1;rw[he i this]at u;cases u
 have D2:∀{i p},(i,p)∈F->X i=true->∀t∈names c T,p.dst≠some t:=λ{i p}m u t y hd=>by have:=(qD hB hi (m2 m).2 (by have:=(m2 m).1;omega) hd y).2 (m2 m).1;rw[x5 i p (m2 m).2 u A this]at hX;cases hX
 have y3:∀t,T.dst=some t->t∈names c T:=λt h=>by simp[names,h]
 have eX:VC X (D++(A,T)::F) (N++r::I) z=VC X F I (VC X D N z):=by rw[bY V];show VC X F I (bif X A then _ else _)=_;rw[hX];rfl
 have eU:VC (Uo X A) (D++(A,T)::F) (N++r::I) z=VC X F I (Vm T r (VC X D N z)):=by
  rw[bY V];show VC (Uo X A) F I (bif Uo X A A then _ else _)=_;have e1:Uo X A A=true:=by simp[Uo]
  rw[e1,S7,mZ (X:=Uo X A) (X':=X) λx C=>by obtain⟨i,p⟩:=x;have:=(m2 C).1;show(if i=A then true else X i)=X i;rw[Ys Y],mZ (X:=Uo X A) (X':=X) (l:=D) λx C=>by obtain⟨i,p⟩:=x;have:=(m1 C).1;show(if i=A then true else X i)=X i;rw[Ys Y]]
 have y2:∀d,T.dst=some d->d<M.N:=hN (A,T) Zc;have EX:∀t∈names c T,Yw (VC X F I (VC X D N z)).e t=Yw P.e t\/Yw P.e t=.any\/∃i p k,((i,p),k)∈F.zip I/\X i=true/\∃j∈QV (La k),j∈Us (Yw P.e t):=by
  intro t y;have q:=ZiF (X:=X) (t:=t) (l:=D) (tr:=N) (s:=z) (s':=z) V (.inl rfl) λi p k m u=>D1 (kR m) u t y;rw[xx]at q;obtain q|q:=q
  ·obtain o|⟨i,p,k,o,O,j,h4,S⟩:=b9 (X:=X) (t:=t) (l:=F) (tr:=I) (s:=VC X D N z) x6 λi p k m u=>D2 (kR m) u t y;·exact .inl (o.trans q.symm)
   ·exact .inr (.inr ⟨i,p,k,o,O,j,h4,by rw[q];exact S⟩)
  ·exact .inr (.inl q)
 obtain⟨U,x9,H,x0,m,y5,yf⟩:=hI;rw[eX]at x0;have xv:∀{j:Nat}{ob:Zg Bool},T.guard.map (·.1)=some j->EV c P.e j ob->EV c U.e j ob:=by
  rintro j ob R⟨t,y,y4,Z⟩;have xs:t∈names c T:=by cases xb:T.guard with|none=>rw[xb]at R;cases R|some jw=>
    obtain⟨j',x8⟩:=jw;rw[xb]at R;have:j'=j:=by simpa using R
    subst this;simp[names,pt,xb,y]
  have e1:Yw U.e t=Yw P.e t:=by
   rw[x0.e t];obtain h|h|⟨i,p,k,_,_,j',_,S⟩:=EX t xs;·exact h
   ·have q:=Z ⟨λ_=>none,λ_ _=>none,λ_ _=>none⟩ (λ_=>none) (.bool true) (by rw[h];trivial);have o:=Z ⟨λ_=>none,λ_ _=>none,λ_ _=>none⟩ (λ_=>none) (.bool false) (by rw[h];trivial);rw[<-o]at q;cases q
   ·rw[y4]at S;cases S
  exact⟨t,y,by rw[e1];exact y4,by rw[e1];exact Z⟩
 have z4:c.toArray[A]?=some T:=by simpa using hi
 unfold wpOpIn
 rw[z4];dsimp only;cases z6 with|@ex r a1 a2 a3 a4 a5 a6=>
  have x7:=Kp a5;have C1:∀{i p k},(i,p,k)∈Ud D N->X i=false->¬Af (i,p,k) (A,T,r):=λ{i p k}m u hc=>by have q:=y8.1 _ (yv _ m) hc;have:=vn x5 A (UL T) he _ q;rw[u]at this;cases this
  have C2:∀{i p k},(i,p,k)∈Ud F I->X i=true->¬Af (A,T,r) (i,p,k):=λ{i p k}m u hc=>by have q:=NC.mem y8.2 _ m (A,T,r) XQ hc;have:=vn x5 i (UL p) (x5 i p (m2 (mF m)).2 u) _ q;rw[hX]at this;cases this
  have BX:∀j,j∈uu (A,T,r)\/j∈QV r.f->ZJ U.b j=ZJ P.b j:=by
   intro j w;rw[x0.b j];have o:=bZ (X:=X) (X':=λ_=>false) (j:=j) (l:=F) (tr:=I) (s:=VC X D N z) (s':=VC X D N z) x6 rfl λi p k m x2 hw=>by
    have u:X i=true:=by cases h:X i with|true=>rfl|false=>exact absurd h x2
    cases k with|none=>cases hw|some k=>exact C2 (Eu m) u ⟨j,.inl ⟨hw,w⟩⟩
   rw[aa]at o;rw[o,<-xx];exact bZ (X:=X) (X':=λ_=>true) V rfl (λi p k m x2 hw=>by
    have u:X i=false:=by cases h:X i with|false=>rfl|true=>exact absurd h x2
    cases k with|none=>cases hw|some k=>
     refine C1 (Eu m) u ?_;obtain w|w:=w;·exact⟨j,.inr ⟨w,hw⟩⟩
     ·exact⟨j,.inl ⟨w,.inr hw⟩⟩)
  have z5:∀x∈T.op.operands.toList,Y0 x9 H (Z9 r.e x) (a.eval x):=by
   intro x C;cases x with|tmp t=>
    have xs:t∈names c T:=by simp only[names,Sr];refine .inl (.inr ?_);simp only[Zaq,List.mem_filterMap];exact⟨.tmp t,C,rfl⟩
    have Z:=m.ev t;rw[x0.e t]at Z;show Y0 x9 H (Yw r.e t) (a.tmps.getD t undef);have hk:=a1 t;obtain h|h|⟨i,p,k,o,O,j,h4,S⟩:=EX t xs;·rw[h]at Z;exact hk.uK Z
    ·rw[h]at hk;exact hk.uK (s:=.any) trivial
    ·obtain h6|h6|h6:=hk;·cases k with|none=>cases h4|some k=>refine absurd ⟨j,.inl ⟨h4,.inl ?_⟩⟩ (C2 (Eu o) O);refine Ym (.inr (Ym (.inr (List.mem_flatMap.2 ⟨.tmp t,C,?_⟩))));show j∈Us (Yw r.e t);rw[h6];exact S
     ·rw[h6];trivial
     ·rw[h6.1]at S;cases S|const v=>exact Y0.Hj (Zdp v)|global yt=>exact Y0.Hj (H:=H) (s:=.gl yt) rfl|func f=>exact⟨[_],⟨rfl,[],[],[],rfl,⟨[],⟨rfl,rfl⟩,rfl,rfl⟩,⟨rfl,rfl⟩,rfl,rfl⟩,rfl⟩
  have y6:(A,T,r)∈Ud (D++(A,T)::F) (N++some r::I):=by rw[uw V];exact Ym (.inr XQ)
  have yy:=m.op (o:=T) (r:=r) z5 (λp W=>by rw[BX p.1 (.inr (Ym (.inl (VV (f:=(·.1)) W))))];exact a3.r p W) (λp W=>by rw[BX p.1 (.inl (Ym (.inl (VV (f:=(·.1)) W))))];exact a3.rd p W) a3.nd a4 x7 a3.le (λp W=>.inr (.inr λk hq e=>by
    obtain h|⟨q,o⟩:=x7.w k hq;·obtain⟨x,C,ex⟩:=h;exact⟨x,C,ex.trans e⟩
    ·have O:=Nf m.nd W;rw[BX p.1 (.inr (Ym (.inr (by rw[<-e];exact VV (f:=(·.1)) hq))))]at O;have h4:p.1<P.n\/500<=p.1:=(x4.wf z7).ids _ (Vn O);have:=x7.lt;omega)) (λx q o=>.inr ⟨(A,T,r),y6,hX,q,o⟩) y2;have z1:rD c T U.e:=by
   obtain h|⟨j,x8,R,hs⟩:=a6;·exact .inl h
   ·exact .inr ⟨j,x8,R,xv (by rw[R];rfl) hs⟩
  rw[Y4 (ZeH z1 m.ev)];refine RS.wp yy ?_;refineλv w'⟨K',H',z3,z2⟩=>hK _ _ ⟨U.app T.dst r.f,K',H',?_,z3.tM λx C=>?_,y5.trans z2 Zjf (λj w=>⟨(A,T,r),y6,w⟩) Zjf λx C=>⟨by have:=(zP x4).1;omega,by have:=x7.lt;omega⟩,λt y=>?_⟩
  ·rw[eU];refine(rY x0).trans (SH.symm<|(uL Ma).trans (lj x6 λi p k x1 u=>⟨λt y=>D2 (kR x1) u t (y3 t y),λj w=>?_,λj w xh=>?_⟩));·cases k with|none=>exact⟨(by intro h;cases h),by intro h;cases h⟩|some k=>refine⟨λh=>C2 (Eu x1) u ⟨j,.inl ⟨h,.inr w⟩⟩,λh=>C2 (Eu x1) u ⟨j,.inr ⟨Ym (.inr (Ym (.inl h))),w⟩⟩⟩
   ·cases k with|none=>cases w|some k=>exact C2 (Eu x1) u ⟨j,.inl ⟨w,.inl ((λj w=>Ym (.inr (Ym (.inl w)))) j xh)⟩⟩
  ·have b2:=zP ys;have e2:(Vm T (some r) P).n=r.f.n:=rfl;rw[e2]at b2;obtain C|⟨G,hy,q,o,O⟩:=C;·refine⟨.inl C,λh=>?_⟩;have h4:g.n<=x:=C.1;have:=b2.1;omega
   ·have x2:G.1≠A:=λe=>by rw[e]at q;simp[Uo]at q
    have x3:X G.1=false:=by
     have:Uo X A G.1=X G.1:=by show(if G.1=A then true else X G.1)=_;rw[Ys x2]
     rw[<-this];exact q
    refine⟨.inr ⟨G,hy,x3,o,O⟩,λh=>?_⟩;rw[uw V]at hy;obtain hy|hy:=ZY hy;·have:=((zP x4).2 G hy).2.2;omega
    ·obtain rfl|hy:=XL (show G∈(A,T,r)::Ud F I from hy);·exact x2 rfl
     ·have:=(b2.2 G hy).1;omega
  ·rw[<-yf t y];exact mb (y (A,T) Zc)|no R=>
  have z0:rC c T U.e:=by obtain⟨j,x8,xa,hs⟩:=R;refine⟨j,x8,xa,hs.imp (xv (by rw[xa];rfl)) (xv (by rw[xa];rfl))⟩
  rw[Ys (by rw[ZeG z0 m.ev];simp)];refine⟨λf _=>wh _ f,hK _ _ ⟨Vm T none U,x9,H,?_,(m.skip y2).tM λx C=>?_,y5,λt y=>?_⟩⟩;·rw[eU];refine(Ma.trans (rY x0)).trans (SH.symm ((uL Ma).trans (lj x6 λi p k x1 u=>⟨λt y=>D2 (kR x1) u t (y3 t y),λj w=>(by cases w),λj w xh=>by cases xh⟩)))
  ·obtain C|⟨G,hy,q,o,O⟩:=C;·exact .inl C
   ·refine .inr ⟨G,hy,?_,o,O⟩;have x3:(if G.1=A then true else X G.1)=false:=q;split at x3;·cases x3
    ·exact x3
  ·rw[<-yf t y];exact mb (y (A,T) Zc)
structure St(Z:XF)(β:SG)(s:XS)(K:KK)(H:HM)(a:Act)(w:World):Prop where
 wf:Wf s
 ms:MS Z β s (Oq s.n) K H a w
structure Ow(s:XS)(K:KK)(H:HM)(s':XS)(K':KK)(H':HM):Prop where
 le:K.le K'
 d:∀j∈s.d,j∈s'.d
 bx:∀j v,ZJ s.b j=some v->j∉s'.d->ZJ s'.b j=some v/\H' j=H j
 fk:∀f,Yp f∉s'.d->K'.fm f=K.fm f
 nm:∀i,¬(s.n<=i/\i<500)->K'.nm i=K.nm i
 n:s.n<=s'.n
 fd:∀j,1000<=j->j∈s'.d->j∈s.d\/∃v,ZJ s.b j=some v
 fb:∀j v,1000<=j->ZJ s'.b j=some v->∃v,ZJ s.b j=some v
def Ow.refl(s)(K)(H):Ow s K H s K H:=⟨KK.le.refl K,λ_ a=>a,Zp,λ_ _=>rfl,λ_ _=>rfl,Zc,λ_ _ a=>.inl a,Xk⟩
def Ow.trans{s}{K m K2}{j l}(h:Ow z K E g m j)(k:Ow g m j s K2 l):Ow z K E s K2 l where
 le:=h.le.trans k.le;d:=λa e=>k.d a (h.d a e);bx:=λa v i e=>by have⟨b,f⟩:=h.bx a v i λc=>e (k.d a c);have⟨t,x⟩:=k.bx a v b e;exact⟨t,Zp⟩
 fk:=λo p=>(k.fk o p).trans (h.fk o λc=>p (k.d _ c));nm:=λr q=>(k.nm r λc=>q ⟨WB h.n c.1,c.2⟩).trans (h.nm r q);n:=WB h.n k.n;fd:=λa b e=>by
  obtain f|⟨v,f⟩:=k.fd a b e;·exact h.fd a b f
  ·exact .inr (h.fb a v b f)
 fb:=λa v b i=>let⟨w,u⟩:=k.fb a v b i;h.fb a w b u
def MS.to{K}{w}(h:MS J M z a K E B w)(l:∀t,Wk (Yw z.e t) (Yw g.e t))(f:∀j v,ZJ g.b j=some v->ZJ z.b j=some v)(d:(g.b.map (·.1)).Nodup):MS J M g a K E B w:=by
 have k:∀c∈g.b,c∈z.b:=λc b=>Vn (f _ _ (Nf d b));have⟨e,n,m⟩:=h.own;have b:=D6 h.nd d λc b=>f _ _ (Nf d b);have i:(YW E z.b++(e++M.hx)).Perm (YW E g.b++(YW E (Wm g.b z.b)++e++M.hx)):=by have:=(Fk (H:=E) b).append_right (e++M.hx);rw[Ld]at this;simpa[Yc]using this
 exact⟨d,⟨_,n.perm i,ZW.Od i m⟩,h.gl,λc b=>h.bx c (k c b),λt=>(l t).uK (h.ev t),h.fr,h.YT.sub k,h.sz,h.df,h.fx⟩
def Zoh(h:qK A c=true):∀x∈TH 0 c,∀d,x.2.dst=some d->d<A:=by rintro⟨g,e⟩b d f;obtain⟨_,a⟩:=vI b;simp[qK,MI]at h;have:=h e (X2 a);simp_all
def MY(l:L Nat)(a a':Act):Prop:=∀b,b∉l->a'.tmps.getD b undef=a.tmps.getD b undef
def MY.refl(l)(a):MY l a a:=λ_ _=>rfl
def Zcz(Z:XF)(β:SG)(e:L Oper)(s:XS)(K:KK)(H:HM)(a:Act)(k:XS->Zg N)(r:N)(a':Act)(w':World):Prop:=∃b d c,k b=some r/\St Z β b d c a' w'/\Ow s K H b d c/\rP (TH 0 e) a a'
def Zid(h:Sa J c i z b g):∀x∈Ud i b,vJ x.2.2.n x.2.2.f=true:=by induction h with|nil=>intro x a;cases a|@cons x i z g r b h1 _ d=>intro e hy;cases h1 with
  |@ex r a1 a2 a3 a4 a5 a6=>
   obtain rfl|hy:=XL hy;·omega
   ·grind|no _=>exact d e hy
def Zif{s'}{tr}{K K'}{H'}{a'}{w w'}{k}(G:St J M z K E B w)(a:Rq J c x (TH 0 c) {z with tr:=[],al:=none} {z with tr:=[],al:=none} [] tr g s')(hk:k s'=some F)(C:MS J M g (Oq g.n) K' H' a' w')(m:MT (lT (TH 0 c) tr) (Oq z.n) K E K' H')(hs:rP (TH 0 c) B a'):Zcz J M c z K E B k F a' w':=by
 have s:∀b,b∉s'.d->b<z.n\/500<=b->¬lT (TH 0 c) tr b:=by
  rintro b d f⟨l,n,H⟩;have o:=Kp (Zid a.ok l n);obtain⟨t,O,P⟩:=(zP a.ok).2 l n;have L:z.n<=l.2.2.n:=t;have S:=o.lt;obtain h|h:=ZY H;·obtain⟨j,i,e⟩:=VR h;exact d (by rw[<-e];exact a.d.2 l n j i)
  ·obtain⟨j,i,e⟩:=VR h;obtain⟨I,D,u⟩|⟨Q,R⟩:=o.w j i;·exact d (by rw[<-e,<-u];exact a.d.2 l n I D)
   ·omega
 refine⟨s',K',H',hk,⟨⟨a.wk.nd,λj i=>?_,λr b d=>?_⟩,(C.to a.wk.e a.wk.b a.wk.nd).tM λq f=>⟨WB a.wk.n f.1,f.2⟩⟩,⟨m.le,a.d.1,λb v p d=>⟨a.kb b v p d,m.hk b (s b d (G.wf.ids _ (Vn p)))⟩,λy A=>m.fk y (s _ A (.inr (by simp only[Yp];omega))),λq f=>m.nm q f,a.n,a.fd,a.fb⟩,hs⟩;·have:=a.wf.ids j (Vn (a.wk.b _ _ (Nf a.wk.nd i)));have:=a.wk.n;omega
 ·have:=a.wf.len r b ((a.wk.e r).len b d);have:=a.wk.n;omega
def Zwx(x6:∀fc∈J.tb,U4 J fc)(x5:∀g V,Qa J.gl g=some V->V.t.nh=true)(x2:Gj J)(x4:J.P.follows .mixedOrders=true){id}{ops}{k}(hN:qK M.N ops.toList=true)(h:(bif !x||qL ops.toList then Pn J ops.toList x (ops.size+60) N (TH 0 ops.toList) {z with tr:=[],al:=none} k else none)=some F){K}{w}(a:St J M z K E B w){Q}(q:∀a' w',Zcz J M ops.toList z K E B k F a' w'->Q .normal a' w'):(Code.region id ops x).wpIn (WR none) 0 J.P Q B w:=by
 obtain⟨O,I⟩:=Yq h;obtain⟨tr,n,s',S,d⟩:=Zrr x6 x5 x2 _ _ _ _ _ I {z with tr:=[],al:=none} [] ⟨a.wf.nd,a.wf.ids,a.wf.len⟩ ⟨λ_=>Wk.refl _,λ_ _ h=>h,YA _,a.wf.nd⟩ λ_ i j=>by cases j
 have m:MS J M {z with tr:=[],al:=none} (Oq z.n) K E B w:=⟨a.ms.nd,a.ms.own,a.ms.gl,a.ms.bx,a.ms.ev,a.ms.fr,a.ms.YT,a.ms.sz,a.ms.df,a.ms.fx⟩;have s:=Zoh hN;obtain⟨b,o⟩:∃b,b=ops.toList:=⟨_,rfl⟩;have x0:ops=b.toArray:=by rw[o]
 rw[<-o]at I d q O s;subst x0;clear o;cases P:x with|false=>subst P;refine Zbx ?_;have:=Zrs (Q:=Q) d.ok ⟨a.wf.nd,a.wf.ids,a.wf.len⟩ m s λX W a' w' A y C=>q a' w' (Zif a d S A y C);rwa[Zre]at this|true=>
  subst P;have u:qL b=true:=by simpa using O
  unfold qL at u;rw[YL]at u;obtain⟨L,hU⟩:=u;have U:=Zod (c:=cx J.P) (Q:=Q) (l:=b) (rest:=[]) (Inv:=jW J M (TH 0 b) tr {z with tr:=[],al:=none} n K E B) (by rw[XX];exact L) λD f x9 Kc B w e hX he x3 hI hK=>by rw[XX];exact ZpN (Q:=Q) d.ok ⟨a.wf.nd,a.wf.ids,a.wf.len⟩ (d.nc rfl).1 L hU s e hX he x3 hI hK
   λD a' w' x1⟨x8,X,W,p,A,y,C⟩=>by
    have Z:VC D (TH 0 b) tr {z with tr:=[],al:=none}=n:=ZiE d.ok λi j=>by obtain⟨k,x7⟩:=i;obtain⟨_,G⟩:=vI j;exact x1 k (by have:=(X8 G).1;omega)
    rw[Z]at p;exact q a' w' (Zif a d S ((A.to (λt=>by rw[p.e t];exact Wk.refl _) (λT v hv=>by rw[p.b T];exact hv) d.wf.nd).tM λf e=>.inl e) y C)
  refine wpIn_region_any x4 ?_;have r:∀f,WE (Array.replicate b.toArray.size false) f=false:=by intro f;simp only[WE,Array.getD];split<;>simp
  rw[XX b]at U;obtain⟨hd,hg,hf⟩:=m.own;refine U _ _ B w.drew Zc (WB Zbe Zc) (.inl ⟨λf _=>r f,(λT x7 _ R=>by rw[r]at R;cases R),{z with tr:=[],al:=none},K,E,?_,?_,MT.refl _ _ _ _,λ_ _=>rfl⟩)
  ·have e3:VC (WE (Array.replicate b.toArray.size false)) (TH 0 b) tr {z with tr:=[],al:=none}={z with tr:=[],al:=none}:=by rw[mZ (X':=λ_=>false) λi _=>r i.1];exact aa
   rw[e3];exact SH.refl _
  ·refine{m with own:=⟨hd,hg.drew,hf.trans (ZW.drew _ _ _)⟩,fr:=λf e=>m.fr f ?_};obtain e|⟨i,j,_,G,h3⟩:=e;·have H:z.n<=n.n:=(zP d.ok).1;exact⟨WB H e.1,e.2⟩
   ·have H:z.n<=i.2.2.n:=((zP d.ok).2 i j).1;have:=(Kp (Zid d.ok i j)).lt;exact⟨Y,Y⟩
def PE(K:KK)(a:Act)(h:HI)(x:h.ty.den)(hs:HP):Prop:=match Ua h with|true=>WC K h.t ⟨h.ty,x⟩ hs|false=>∃b,rel K h.ty hs b x/\a.tmps.getD h.t undef=XZ h.ty.ag b
def MX(K:KK)(a:Act):(l:L HI)->(TG l).den->HP->Prop|[],_,_=>True|[h],x,hs=>∃b d,hs.Perm (b++d)/\PE K a h x b|h::h'::l,x,hs=>∃b c,hs.Perm (b++c)/\PE K a h x.1 b/\MX K a (h'::l) x.2 c
def Dx:(l:L HI)->(TG l).den->Bx
 |[],_=>[]|[h],x=>match Ua h with|true=>[(h.t,⟨h.ty,x⟩)]|false=>[]
 |h::h'::l,x=>(match Ua h with|true=>[(h.t,⟨h.ty,x.1⟩)]|false=>[])++Dx (h'::l) x.2
def ZwB{K K2}(X:K2.fm=K.fm)(w:K2.m=K.m)(a:∀i,i<A->K2.nm i=K.nm i):∀{t},TU A t=true->∀{hs}{cs}{x},rel K t hs cs x->rel K2 t hs cs x:=by intro t;induction t with|vec x6 t f=>exactλa hs cs x b=>Row.imp (λ_ _ _ b=>f a b) b|pair u e q J=>intro a;simp only[TU,YL]at a;rintro hs cs x⟨E,F,z,B,c,C,y,L⟩;exact⟨E,F,z,B,c,C,q a.1 y,J a.2 L⟩|only t f=>exactλa hs cs x b=>f a (x:=x) b|sl t f=>refineλa hs cs x⟨c,u,j,d,l,b⟩=>⟨c,u,j,d,l,b.imp id λ⟨e,s,m,U,g,k⟩=>⟨e,s,m,U,Row.imp (λ_ _ _ b=>f a b) g,by rw[w];exact k⟩⟩|nz t f=>refineλa hs cs x⟨c,b⟩=>⟨c,b.imp id λ⟨hx,e,s,m,j,d,l,g,k⟩=>⟨hx,e,s,m,j,d,l,Row.imp (λ_ _ _ b=>f a b) g,by rw[w];exact k⟩⟩|ptr t f=>refineλa hs cs x⟨c,b⟩=>⟨c,b.imp id λ⟨N,e,s,n,D,d,g,k⟩=>⟨N,e,s,n,D,d,f a g,by rw[w];exact k⟩⟩|YT O t _=>refineλa hs cs x⟨c,b⟩=>⟨c,b.imp id ?_⟩;grind|hole r=>exactλG hs cs x⟨c,v,o,d,V⟩=>⟨c,v,by rw[a r (TN▸show Nat.blt r A=true from G)];exact o,d,V⟩|Um r y=>exactλG hs cs x⟨c,e,o,d⟩=>⟨c,e,by rw[a r (TN▸show Nat.blt r A=true from G)];exact o,d⟩|fn O u x2 q x1=>intro a;simp only[TU,YL]at a;rintro hs cs x⟨c,P,Q,T,d,⟨R,H,g⟩,x0,Z⟩;exact⟨c,P,Q,T,d,⟨R,H,q a.1 g⟩,x0,x1 a.2 Z⟩|own t f=>exactλa hs cs x⟨e,h,n,p,c,d,g⟩=>⟨e,h,n,p,c,d,f a (x:=x) g⟩|opt t f=>refineλa hs cs x b=>LX id (λ⟨N,e,h,n,p,D,c,d,g⟩=>⟨N,e,h,n,p,D,c,d,f a g⟩) b|full t f=>refineλa hs cs x b=>LX id (λ⟨e,h,j,m,M,p,d,c,g,l,I⟩=>⟨e,h,j,m,M,p,d,c,Row.imp (λ_ _ _ b=>f a b) g,l,I⟩) b|YU t f=>refineλa hs cs x b=>LX id (λ⟨e,h,j,m,M,d,c,g,k,l,I⟩=>⟨e,h,j,m,M,d,c,Row.imp (λ_ _ _ b=>f a b) g,by rw[w];exact k,l,I⟩) b|map x5 v x3 x4=>intro a;simp only[TU,YL]at a;rintro hs cs x⟨e,W,S,d,c,b⟩;refine⟨e,W,S,d,c,F2.imp ?_ b⟩;grind|YS O t f=>exactλa hs cs x⟨c,vs,H,g⟩=>⟨c,vs,λi v o=>by rw[X];exact H i v o,Row.imp (λ_ _ _ b=>f a b) g⟩|cons u e q J=>intro a;simp only[TU,YL]at a;rintro hs cs x⟨E,F,z,B,c,C,y,L⟩;exact⟨E,F,z,B,c,C,q a.1 y,J a.2 L⟩|_=>exactλa hs cs x b=>b
structure KX(n0:Nat)(h:HI):Prop where
 nh:Ua h=true->h.ty.nh=true
 ok:Ua h=false->TU n0 h.ty=true
 one:Ua h=false->h.b=true->h.ty.n=1/\h.ty.ag=false
def HiM(s:XS)(h:HI)(c:CS)(x:h.ty.den)(c':CS)(R Q:Bx):Prop:=∀(k:World)(a:KK)(l:HM)(g:Act)(f e:HP),GD a.m (f++e) k->(∀t,Y0 a l (Yw s.e t) (g.tmps.getD t undef))->ZS a c.l f->ZS a R e->(∀d∈Q,∃h,WC a d.1 d.2 h)->Yx a (c.l++R)->(∀d∈c.l,ZJ c.g d.1=none)->∃b j i,Y5 k a (f++e) b (j++i)/\PE b g h x j/\ZS b c'.l i/\Yx b c'.l/\Vf a b (c.l++R)/\(Ua h=true->Yx b [(h.t,⟨h.ty,x⟩)]/\(∀d∈c'.l,d.1≠h.t)/\ZJ c'.g h.t=none)
def ZeP{h}{k}(c:pH A z h l k=some F):∃x c' e Q,k x c'=some F/\Uf l c' e Q/\(KX A h/\(Ua h=true->∃p∈l.l++e,p.1=h.t))/\HiM z h l x c' e Q:=by unfold pH at c;cases b:Ua h with|true=>rw[b,S7]at c;obtain⟨v,I,G,d,i⟩:=NK c;obtain⟨V,x,rfl,j⟩:=M0 i;refine⟨x,I,G,[],j,d.S,⟨⟨λ_=>V,λa=>(by rw[b]at a;cases a),λa=>by rw[b]at a;cases a⟩,λ_=>⟨_,d.mem,rfl⟩⟩,λB f D H o m y _ r q t g n=>?_⟩;obtain⟨u,U,X,O,x3⟩:=d.M f o m r q;refine⟨f,u,U,Y5.Zf8 X,by unfold PE;rw[b];exact O,x3,d.fr g,Vf.refl _ _,λ_=>⟨g.sub λp W=>by rw[YV W];exact d.mem,d.ne,d.none n⟩⟩|false=>
  rw[b,Su]at c;split at c;·rename_i v hv;obtain⟨w,i⟩:=Yq c;rw[YL]at w;obtain⟨x,c',j,R,x0,e,Q,S,M⟩:=I1 i;refine⟨x,c',e,Q,j,S,⟨⟨λa=>(by rw[b]at a;cases a),λ_=>w.1,λ_ u=>Xk⟩,λa=>by cases a⟩,?_⟩;·intro B f D H o m y P r q t g n;obtain⟨s,Z,J⟩:=F5 hv (P h.t);obtain⟨E,hx,T,C,x1,x2,K,L,_⟩:=M B f [] o m s (by simpa using y) Z r q t g n;refine⟨E,hx,T,by simpa using C,?_,x2,K,L,λa=>by rw[b]at a;cases a⟩;unfold PE;rw[b];exact⟨s,Xw (JY R) x1,by rw[J,x0.ag]⟩
  ·cases c
def PkM(s:XS)(l:L HI)(c:CS)(y:(TG l).den)(c':CS)(R Q:Bx):Prop:=∀(k:World)(a:KK)(m:HM)(g:Act)(f e:HP),GD a.m (f++e) k->(∀j,Y0 a m (Yw s.e j) (g.tmps.getD j undef))->ZS a c.l f->ZS a R e->(∀d∈Q,∃n,WC a d.1 d.2 n)->Yx a (c.l++R)->(∀d∈c.l,ZJ c.g d.1=none)->∃b i h,Y5 k a (f++e) b (i++h)/\MX b g l y i/\ZS b c'.l h/\Yx b c'.l/\Vf a b (c.l++R)/\Yx b (Dx l y)
def PE.mono{K K'}(b:K.le K'){h}{x}(a:PE K B h x k):PE K' B h x k:=by unfold PE at a⊢;cases c:Ua h with|true=>rw[c]at a;exact a.mono b|false=>rw[c]at a;have⟨d,e,f⟩:=a;exact⟨d,Xw b e,f⟩
def Zgh{R}{r:R}{T}{s}:∀{l}{c}{k},Hq T s l c k=some r->∃y c' z Q,k y c'=some r/\Uf c c' z Q/\(∀h∈l,KX T h/\(Ua h=true->∃p∈c.l++z,p.1=h.t))/\PkM s l c y c' z Q
 |[],c,k,h=>by refine⟨(),c,[],[],h,Uf.refl c,Zc,λw K x B g m E D F J C q v=>⟨K,[],g++m,Y5.refl _ _ _,trivial,F.more m,q.sub Zc,Vf.refl _ _,λ_ _ _ h=>by cases h⟩⟩|[d],c,k,h=>by obtain⟨o,c',z,Q,O,x9,I,x8⟩:=ZeP h;refine⟨o,c',z,Q,O,x9,λh P=>by rw[YV P];exact I,λw K x B g m E D F J C q v=>?_⟩;obtain⟨W,e,y0,x7,n,y8,fF,fk,fb⟩:=x8 w K x B g m E D F J C q v;refine⟨W,e,y0,x7,⟨e,[],Zc,n⟩,y8,fF,fk,?_⟩;show Yx W (match Ua d with|true=>[(d.t,⟨d.ty,o⟩)]|false=>[]);cases i:Ua d with|true=>exact(fb i).1|false=>intro _ _ _ j;cases j
 |d::h'::l,c,k,h=>by
  obtain⟨o,c1,R1,Q1,O,A,I,M1⟩:=ZeP (k:=λo c=>Hq T s (h'::l) c λy c=>k (o,y) c) h;obtain⟨y,c2,L,Q2,h2,M,y5,M2⟩:=Zgh O;refine⟨(o,y),c2,L++R1,Q2++Q1,h2,A.trans M,λh P=>(XL P).elim (λb=>by subst b;exact⟨I.1,λi=>let⟨p,a,b⟩:=I.2 i;⟨p,by obtain h|h:=ZY a<;>simp[h],b⟩⟩) (λj=>by
   obtain⟨o1,o2⟩:=y5 h j;refine⟨o1,λi=>?_⟩;obtain⟨p,a,b⟩:=o2 i;obtain a|a:=ZY a;·obtain⟨n,S,N⟩:=A.ids p a;exact⟨n,by obtain h|h:=ZY S<;>simp[h],N.trans b⟩
   ·exact⟨p,by simp[a],b⟩),?_⟩;intro w K x B g m E D F J C q v;obtain⟨u,x2,y3,y7,y6⟩:=ZS.append.1 J;have x5:(g++m).Perm (g++x2++u):=by refine(V5 g (y3.trans Wr)).trans ?_;rw[Yc]
  obtain⟨X,e,H,G,q1,yf,xa,x0,xh⟩:=M1 w K x B g x2 (E.sub x5) D F y6 (λp a=>C p (Ym (.inr a))) (q.sub (by intro p a;obtain h|h:=ZY a<;>simp[h])) v;have U:Y5 w K (g++m) X (e++H++u):=Y5.perm x5 (Ue _) (G.frame u);have x6:(e++H++u).Perm (H++u++e):=zh _ _ _;obtain⟨Z,hy,y1,V,q2,ys,xb,x1,xi⟩:=M2 w X x B H u ((U.step E).1.sub x6) (λt=>(D t).mono G.le) yf (y7.mono G.le) (λp a=>let⟨h,n⟩:=C p (Ym (.inl a));⟨h,n.mono G.le⟩) (Yx.next (K:=K) A (q.sub (by intro p a;obtain h|h:=ZY a;obtain h|h:=ZY h<;>simp[h];simp[h])) xa x0 v M.mr) (A.dj v);refine⟨Z,e++hy,y1,?_,⟨e,hy,Ue _,q1.mono V.le,q2⟩,ys,xb,?_,?_⟩;·refine U.trans (Y5.perm x6 ?_ (V.frame e));rw[Yc e];exact Wr
  ·intro f i;have x3:∀p∈c.l++R1,p.1≠Yp f:=λp a=>i p (by obtain h|h:=ZY a<;>simp[h]);have xv:∀p∈c1.l++L,p.1≠Yp f:=by
    intro p a b;obtain a|a:=ZY a;·obtain⟨n,S,N⟩:=A.ids p a;exact x3 n S (N.trans b)
    ·exact i p (by simp[a]) b
   rw[x1 f xv,x0 f x3]
  ·show Yx Z ((match Ua d with|true=>[(d.t,⟨d.ty,o⟩)]|false=>[])++Dx (h'::l) y);refine Yx.append ?_ xi;cases xx:Ua d with|false=>intro _ _ _ j;cases j|true=>
    obtain⟨b1,b2,b3⟩:=xh xx;intro f t xs j y4 hi;have x4:Yp f=d.t:=WX (·.1) (YV j);have y2:∀p∈c1.l++L,p.1≠Yp f:=by
     intro p a b;obtain a|a:=ZY a;·exact b2 p a (b.trans x4)
     ·have h3:=M.mr p a;rw[b,x4,b3]at h3;cases h3
    rw[x1 f y2];exact b1 f t xs j y4 hi
structure MP(Z:XF)(β:SG)(s:XS)(hy:HP)(K:KK)(H:HM)(a:Act)(w:World):Prop where
 own:∃hd,GD K.m (YW H s.b++(hy++(hd++β.hx))) w/\ZW β.w0 w β.m0 K.m β.b0 (HP.bs (YW H s.b++(hy++(hd++β.hx))))gl:NW Z K
 bx:∀p∈s.b,∃h,H p.1=some h/\WC K p.1 p.2 h
 ev:∀t,Y0 K H (Yw s.e t) (a.tmps.getD t undef)ln:∀t,Us (Yw s.e t)=[]fr:∀i,Oq s.n i->K.nm i=none
 YT:Yx K s.b
 sz:a.tmps.size=β.N
 df:a.defers=[]fx:∀b∈HP.bs β.hx,∀o,K.m b o=β.m0 b o
def wn:∀(q),Yd (JR q)=Hk q/\Qw (JR q)/\∀i r,JR q≠.m i::r|[]=>⟨rfl,trivial,by intro i r a;cases a⟩|0::l=>⟨(wn l).1,(wn l).2.1,by intro i r a;cases a⟩|(k+1)::l=>⟨by show k+Yd _=k+Hk l;rw[(wn l).1],(wn l).2.1,by intro i r a;cases a⟩
def vM{x}(h:Ln S x A C=(d,D,o)):A<=D/\∃new,o=new++C/\(∀p∈new,A<=p.1/\p.1<D)/\∀K hs cs,rel K S hs cs x->Ot A D K->∃K',Vw A D K K'/\R0 K' d (XZ S.ag cs)/\ZS K' new hs:=by
 have w:(match Tb S x A C with|(d,A,m)=>(bif d.t.plain then SV.v d else .any,A,m))=(d,D,o)->A<=D/\∃new,o=new++C/\(∀p∈new,A<=p.1/\p.1<D)/\∀K hs cs,rel K S hs cs x->Ot A D K->∃K',Vw A D K K'/\R0 K' d (XZ S.ag cs)/\ZS K' new hs:=by intro h;rcases h1:Tb S x A C with⟨n,M,m⟩;rw[h1]at h;cases h;have f:=vL h1;obtain⟨new,q,y,I⟩:=f.h;refine⟨f.le,new,q,y,λK hs cs a e=>?_⟩;obtain⟨K',k,L,B,c,i,G⟩:=I K hs cs a e;refine⟨K',c,?_,(G.more k).perm (Wr.trans B.symm)⟩;cases E:n.t.plain with|true=>have r:k=[]:=SZ E i;subst r;exact⟨rfl,cs,i,by rw[f.ag]⟩|false=>exact⟨rfl,trivial⟩
 cases S with
 |opt S=>cases h;refine⟨LW _,[(A,⟨.opt S,x⟩)],rfl,Zc,λK hs cs a e=>?_⟩;match cs,(WU a)with|[v],_=>have c:=KK.Fx (e A (YA _) (jo _)) v;refine⟨K.name A v,c,⟨rfl,[v],⟨rfl,v,KK.Oa,rfl,Qn a v Zc⟩,rfl⟩,hs,[],Zc,⟨[v],Xw c.le a,λn H=>by rw[YV H];exact KK.Oa⟩,trivial⟩
 |Um l b=>
  cases h;refine⟨YA _,[],rfl,Zc,λK hs cs a e=>?_⟩;obtain⟨_,g,z,rfl⟩:=a;obtain⟨s,t,u⟩:=wn b;have j:Lw K l (JR b)=K.nm l/\Ck (JR b)=JR b:=by cases F:JR b with|nil=>exact⟨rfl,rfl⟩|cons J N=>cases J<;>first|exact⟨rfl,rfl⟩|exact absurd F (u _ _)
  refine⟨K,Vw.refl _ _ _,⟨rfl,g,⟨_,j.1.trans z,.inl ⟨rfl,by rw[j.2];exact t⟩⟩,?_⟩,trivial⟩;show Value.pointer (some ⟨g,Hk b,none⟩)=_;rw[s]|_=>exact w h
def MP.add{s'}{h1 h2:HP}{K K'}{w}{new}{n'}(h:MP J M z k K E B w)(a:k.Perm (h1++h2))(d:Vw z.n n' K K')(N:ZS K' new h1)(c:s'.b=new++z.b)(R:s'.n=n')(x:∀t,Us (Yw s'.e t)=[]/\∀H',Y0 K' H' (Yw s'.e t) (B.tmps.getD t undef))(s:(s'.b.map (·.1)).Nodup)(L:Yx K' new)(V:z.n<=n'):∃H',MP J M s' h2 K' H' B w/\∀j,(∀p∈new,p.1≠j)->H' j=E j:=by
 rw[c,WW,T5]at s;obtain⟨l,C,S,A⟩:=uP s.1 N;obtain⟨H',H⟩:∃H':HM,H'=λj=>if j∈new.map (·.1)then l j else E j:=⟨_,rfl⟩;have u:∀p∈new,H' p.1=l p.1:=λp a=>by grind
 have o:∀j,j∉new.map (·.1)->H' j=E j:=λj r=>by rw[H];show(if j∈new.map (·.1)then l j else E j)=_;rw[Ys r]
 have v:∀p∈z.b,p.1∉new.map (·.1):=λp a i=>s.2.2 p.1 i p.1 (VV (f:=(·.1)) a) rfl;obtain⟨q,P,O⟩:=h.own;have I:YW H' s'.b=YW l new++YW E z.b:=by rw[c,Ld,Fj u,Fj λp a=>o p.1 (v p a)]
 have y:(YW E z.b++(k++(q++M.hx))).Perm (YW H' s'.b++(h2++(C++q++M.hx))):=by rw[I];classical rw[VX]at A a⊢;intro D;have F:=A D;have G:=a D;simp only[VU]at F G⊢;omega
 refine⟨H',⟨⟨C++q,by rw[d.m];exact P.perm y,by rw[d.m];exact ZW.Od y O⟩,h.gl.mono d.le,λp a=>?_,λt=>(x t).2 H',λt=>(x t).1,λg m=>?_,?_,h.sz,h.df,λb c T=>by rw[d.m];exact h.fx b c T⟩,λj r=>o j λi=>?_⟩
 ·rw[c]at a;obtain a|a:=ZY a;·obtain⟨n,e,c⟩:=S p a;exact⟨n,(u p a).trans e,c⟩
  ·obtain⟨n,e,c⟩:=h.bx p a;exact⟨n,(o p.1 (v p a)).trans e,c.mono d.le⟩
 ·rw[R]at m;have Q:n'<=g/\g<500:=m;rw[d.nm g Y];exact h.fr g ⟨Y,Q.2⟩
 ·rw[c];refine Yx.append L λf t U i g m=>?_;rw[d.fm];exact h.YT f t U i g m
 ·obtain⟨p,a,e⟩:=VR i;exact r p a e
structure QD(h:HI)(s s':XS):Prop where
 n:s.n<=s'.n
 d:∀j∈s.d,j∈s'.d
 b:∃new,s'.b=new++s.b/\∀p∈new,p.1∈s'.d\/s.n<=p.1/\p.1<s'.n
def vH(h:((C++o).map (·.1)).Nodup):(o.map (·.1)).Nodup:=by rw[WW,T5]at h;exact h.2.1
def Zka{h}{x}{h2:HP}{K}{w}(xa:KX A h)(c:MP J M z k K E B w)(a:k.Perm (s++h2))(p:PE K B h x s)(x7:Ua h=true->Yx K [(h.t,⟨h.ty,x⟩)])(C:((Wu h x z).b.map (·.1)).Nodup)(r:(Wu h x z).n<=500):QD h z (Wu h x z)/\∃K' H',MP J M (Wu h x z) h2 K' H' B w/\Vw z.n (Wu h x z).n K K'/\∀j,j∉(Wu h x z).d->¬(z.n<=j/\j<(Wu h x z).n)->H' j=E j:=by cases hb:h.b with
 |true=>cases m:Ua h with|true=>
   have e:Wu h x z={z with b:=(h.t,⟨h.ty,x⟩)::z.b,d:=h.t::z.d}:=by unfold Wu;rw[hb];dsimp only;rw[m];rfl
   rw[e]at C r⊢;unfold PE at p;rw[m]at p;refine⟨⟨YA _,λj f=>XY _ f,[(h.t,⟨h.ty,x⟩)],rfl,λg a=>by rw[YV a];exact .inl XQ⟩,?_⟩;obtain⟨H',o,F⟩:=c.add (s':={z with b:=(h.t,⟨h.ty,x⟩)::z.b,d:=h.t::z.d}) (new:=[(h.t,⟨h.ty,x⟩)]) (n':=z.n) a (Vw.refl _ _ _) ⟨s,[],Zc,p,trivial⟩ rfl rfl (λt=>⟨c.ln t,λH'=>(c.ev t).boxes λj f=>by rw[c.ln t]at f;cases f⟩) C (x7 m) (YA _);refine⟨K,H',o,Vw.refl _ _ _,λj f _=>F j λg a e=>f ?_⟩;rw[<-e,YV a];exact XQ|false=>
   unfold PE at p;rw[m]at p;obtain⟨D,O,X⟩:=p;obtain⟨Z,o2⟩:=xa.one m hb;have xb:Wu h x z=z->QD h z (Wu h x z)/\∃K' H',MP J M (Wu h x z) h2 K' H' B w/\Vw z.n (Wu h x z).n K K'/\∀j,j∉(Wu h x z).d->¬(z.n<=j/\j<(Wu h x z).n)->H' j=E j:=by
    intro e;rw[e];refine⟨⟨YA _,λ_ h=>h,[],rfl,Zc⟩,K,E,?_,Vw.refl _ _ _,λ_ _ _=>rfl⟩;obtain⟨U,hg,x8⟩:=c.own;have x3:(YW E z.b++(k++(U++M.hx))).Perm (YW E z.b++(h2++(s++U++M.hx))):=by classical rw[VX]at a⊢;intro xh;have a2:=a xh;simp only[VU]at a2⊢;omega
    exact{c with own:=⟨s++U,hg.perm x3,ZW.Od x3 x8⟩}
   by_cases hh:∃j L,Yw z.e h.t=.v ⟨.hole j,L⟩/\Nat.blt j 1000=true
   ·obtain⟨j,L,N,V⟩:=hh;rcases G:JO j ⟨h.ty,x⟩ z.n z.b with⟨i,Q⟩;have e:Wu h x z={z with n:=i,b:=Q,d:=j::z.d}:=by unfold Wu;rw[hb];dsimp only;rw[m,Su,N];dsimp only;rw[V,G];rfl
    rw[e]at C r⊢;obtain⟨I,new,rfl,y,S⟩:=vK G;have x1:=c.ev h.t;rw[N]at x1;obtain⟨xi,⟨_,v,x9,x4,_⟩,ev⟩:=x1;have x6:D=[v]:=by have hl:=WU O;rw[Z]at hl;match D,hl with|[u'],_=>rw[X,o2,x4]at ev;have:u'=v:=ev;rw[this]
    obtain⟨K',q,T⟩:=S K s ⟨D,O,λL hu=>by rw[x6]at hu;rw[YV hu];exact x9⟩ λH s h2=>c.fr H ⟨s,by have:i<=500:=r;omega⟩;have x2:∀g∈new,g.1=j\/z.n<=g.1/\g.1<i:=λg a=>by
     obtain h|h|⟨t,x,h⟩:=y g a;·exact .inr h
     ·rw[h];exact .inl rfl
     ·rw[h];exact .inl rfl
    have hF:Yx K' new:=by
     intro u t xs o H hi;obtain l|l|⟨t',x',l⟩:=y _ o;·have R:z.n<=1000+u/\1000+u<i:=l;have:i<=500:=r;omega
     ·injection l with _ l;have R:Ty.YS u t=h.ty:=WX TV.t l;rw[<-R]at Z;cases Z
     ·injection l with _ l;injection l with l _;cases l
    refine⟨⟨I,λP f=>XY _ f,new,rfl,λg a=>(x2 g a).imp (λe=>by rw[e];exact XQ) id⟩,?_⟩;obtain⟨H',o,F⟩:=c.add (s':={z with n:=i,b:=new++z.b,d:=j::z.d}) (new:=new) (n':=i) a q T rfl rfl (λt=>⟨c.ln t,λH'=>((c.ev t).mono q.le).boxes λj f=>by rw[c.ln t]at f;cases f⟩) C hF I;refine⟨K',H',o,q,λP f W=>F P λg a e=>?_⟩;obtain h|h:=x2 g a;·exact f (by rw[<-e,h];exact XQ)
    ·exact W (by rw[<-e];exact h)
   ·refine xb ?_;unfold Wu;rw[hb];dsimp only;rw[m,Su];split;·rename_i j L N;cases V:Nat.blt j 1000with|true=>exact absurd ⟨j,L,N,V⟩ hh|false=>rfl
    ·rfl
 |false=>
  have m:Ua h=false:=by unfold Ua;rw[hb];rfl
  unfold PE at p;rw[m]at p;obtain⟨D,O,X⟩:=p;rcases G:Ln h.ty x z.n z.b with⟨v,i,Q⟩;have e:Wu h x z={z with e:=(h.t,v)::z.e,n:=i,b:=Q}:=by unfold Wu;rw[hb];dsimp only;rw[G]
  rw[e]at C r⊢;obtain⟨I,new,rfl,y,S⟩:=vM G;obtain⟨K',q,x0,T⟩:=S K s D O λH s h2=>c.fr H ⟨s,by have:i<=500:=r;omega⟩;refine⟨⟨I,λ_ h=>h,new,rfl,λg a=>.inr (y g a)⟩,?_⟩;obtain⟨H',o,F⟩:=c.add (s':={z with e:=(h.t,v)::z.e,n:=i,b:=new++z.b}) (new:=new) (n':=i) a q T rfl rfl (λt=>by show Us (Yw ((h.t,v)::z.e) t)=[]/\∀H',Y0 K' H' (Yw ((h.t,v)::z.e) t) _;rw[QH];cases x5:Nat.beq h.t t with|true=>rw[S7];have:=Wc x5;rw[<-this,X];exact⟨x0.1,λH'=>Y0.Hj (R1.oY x0)⟩|false=>rw[Su];exact⟨c.ln t,λH'=>((c.ev t).mono q.le).boxes λj f=>by rw[c.ln t]at f;cases f⟩) C λu t xs o H hi=>by have R:z.n<=1000+u/\1000+u<i:=y _ o;have:i<=500:=r;omega I;exact⟨K',H',o,q,λP _ W=>F P λg a e=>W (by rw[<-e];exact y g a)⟩
def upS(h)(x)(s):QD h s (Wu h x s):=by cases hb:h.b with
 |true=>cases q:Ua h with|true=>
   have e:Wu h x s={s with b:=(h.t,⟨h.ty,x⟩)::s.b,d:=h.t::s.d}:=by unfold Wu;rw[hb];dsimp only;rw[q];rfl
   rw[e];exact⟨YA _,λa i=>XY _ i,[(h.t,⟨h.ty,x⟩)],rfl,λm f=>by rw[YV f];exact .inl XQ⟩|false=>
   by_cases r:∃a p,Yw s.e h.t=.v ⟨.hole a,p⟩/\Nat.blt a 1000=true
   ·obtain⟨a,p,t,u⟩:=r;rcases c:JO a ⟨h.ty,x⟩ s.n s.b with⟨k,g⟩;have e:Wu h x s={s with n:=k,b:=g,d:=a::s.d}:=by unfold Wu;grind
    rw[e];obtain⟨j,l,rfl,o,_⟩:=vK c;refine⟨j,λw i=>XY _ i,l,rfl,λm f=>?_⟩;grind
   ·have e:Wu h x s=s:=by unfold Wu;grind
    rw[e];exact⟨YA _,λ_ h=>h,[],rfl,Zc⟩
 |false=>
  rcases c:Ln h.ty x s.n s.b with⟨v,k,g⟩;have e:Wu h x s={s with e:=(h.t,v)::s.e,n:=k,b:=g}:=by unfold Wu;rw[hb];dsimp only;rw[c]
  rw[e];obtain⟨j,l,rfl,o,_⟩:=vM c;exact⟨j,λ_ h=>h,l,rfl,λm f=>.inr (o m f)⟩
def QD.trans{h h'}{c}(k:QD h z g)(k':QD h' g c):QD h z c:=by
 have⟨j,d,i⟩:=k.b;have⟨l,e,p⟩:=k'.b;refine⟨WB k.n k'.n,λb f=>k'.d b (k.d b f),l++j,by rw[e,d,Yc],λm a=>?_⟩;have n:=k.n;have o:=k'.n;obtain a|a:=ZY a;·grind
 ·obtain h|h:=i m a;·exact .inl (k'.d _ h)
  ·omega
def ZAv(h)(s):QD h s s:=⟨Zc,λ_ h=>h,[],rfl,Zc⟩
def Ia(b):∀{l}{y}{s},QD b s (unpack l y s)|[],_,s=>ZAv _ s|[h],x,s=>let a:=upS h x s;⟨a.n,a.d,a.b⟩|h::h'::l,x,s=>by have a:=upS h x.1 s;exact(show QD _ s _ from⟨a.n,a.d,a.b⟩).trans (Ia b)
def Zkb{Z:XF}{β:SG}{n0}:∀{l}{y}{s}{g}{K}{H}{a}{w},(∀h∈l,KX n0 h)->MP Z β s g K H a w->MX K a l y g->Yx K (Dx l y)->((unpack l y s).b.map (·.1)).Nodup->(unpack l y s).n<=500->∃K' H' E,MP Z β (unpack l y s) E K' H' a w/\Vw s.n (unpack l y s).n K K'/\∀j,j∉(unpack l y s).d->¬(s.n<=j/\j<(unpack l y s).n)->H' j=H j
 |[],y,s,g,K,H,a,w,_,m,_,_,_,_=>⟨K,H,g,m,Vw.refl _ _ _,λ_ _ _=>rfl⟩|[h],x,s,g,K,H,a,w,q,m,⟨i,F,c,f⟩,v,C,B=>by obtain⟨_,K',H',A,T,hk⟩:=Zka (q h Zc) m c f (λz=>by have k:Yx K (match Ua h with|true=>[(h.t,⟨h.ty,x⟩)]|false=>[]):=v;rwa[z]at k) C B;exact⟨K',H',F,A,T,hk⟩|h::e::l,x,s,g,K,H,a,w,q,m,⟨i,u,c,f,V⟩,v,C,B=>by
  have k:Yx K ((match Ua h with|true=>[(h.t,⟨h.ty,x.1⟩)]|false=>[])++Dx (e::l) x.2):=v;have o:QD h (Wu h x.1 s) (unpack (e::l) x.2 (Wu h x.1 s)):=Ia h;obtain⟨x9,Q,_⟩:=o.b;have D:((unpack (e::l) x.2 (Wu h x.1 s)).b.map (·.1)).Nodup:=C;have J:(unpack (e::l) x.2 (Wu h x.1 s)).n<=500:=B;obtain⟨M,G,H1,x3,p,x1⟩:=Zka (q h Zc) m c f (λz=>by rw[z]at k;exact k.sub λxa c=>Ym (.inl c)) (by rw[Q]at D;exact vH D) (WB o.n J);have W:MX G a (e::l) x.2 u:=by
   have x6:∀{l:L HI}{y:(TG l).den}{r:HP},MX K a l y r->MX G a l y r:=by intro l;induction l with|nil=>intro _ _ _;trivial|cons h l ih=>cases l with|nil=>rintro y r⟨i,F,c,f⟩;exact⟨i,F,c,f.mono p.le⟩|cons e l=>rintro y r⟨i,u,c,f,x7⟩;exact⟨i,u,c,f.mono p.le,ih x7⟩
   exact x6 V
  obtain⟨O,N,E,x4,U,x2⟩:=Zkb (λS X=>q S (XY _ X)) x3 W (λR t xs A x5 hi=>by rw[p.fm];exact k R t xs (Ym (.inr A)) x5 hi) D J;refine⟨O,N,E,x4,p.trans M.n o.n U,λj I x0=>?_⟩;have x8:¬(s.n<=j/\j<(unpack (e::l) x.2 (Wu h x.1 s)).n):=x0;have l1:=M.n;have l2:=o.n;rw[x2 j I Y];exact x1 j (λP=>I (o.d j P)) Y
def ZqZ(h:oP C=true):(C.map (·.1)).Nodup:=by induction C with|nil=>simp|cons f C e=>simp only[oP,YL,CR]at h;rw[Wb,Ss];refine⟨λc=>?_,e h.2⟩;have⟨a,d,b⟩:=VR c;have:(C.any λa=>Nat.beq a.1 f.1)=true:=yq ⟨a,d,by rw[It];exact b⟩;grind
structure EK(s:XS):Prop where
 nd:(s.b.map (·.1)).Nodup
 n:s.n<=500ids:∀p∈s.b,p.1<s.n\/500<=p.1
def zf{k}(h:Ob z k=some F):EK z/\k z=some F:=by
 have⟨a,h⟩:=Yq h;simp only[YL,MI,Ev]at a;refine⟨⟨ZqZ a.1,yE▸a.2.1,λb d=>?_⟩,h⟩;obtain h|h:=a.2.2 b d;·exact .inl (TN▸h)
 ·refine .inr (sJ λc=>?_);have:Nat.blt b.1 500=true:=by rw[TN];exact c
  grind
structure PF(Z:XF)(β:SG)(n0:Nat)(s:XS)(l:List HI)(y:(TG l).den)(K:KK)(H:HM)(a:Act)(w:World):Prop where
 hy:∃hy,MP Z β s hy K H a w/\MX K a l y hy
 YT:Yx K (Dx l y)ok:∀h∈l,KX n0 h
def PF.unpack{Z:XF}{β:SG}{m}{s}{l}{y}{K}{H}{a}{w}(h:PF Z β m s l y K H a w)(c:EK (unpack l y s)):∃K' H',St Z β (unpack l y s) K' H' a w/\Vw s.n (unpack l y s).n K K'/\∀j,j∉(unpack l y s).d->¬(s.n<=j/\j<(unpack l y s).n)->H' j=H j:=by obtain⟨hy,k,g⟩:=h.hy;obtain⟨K',H',t,b,f,i⟩:=Zkb h.ok k g h.YT c.nd c.n;refine⟨K',H',⟨⟨c.nd,c.ids,λo j e=>by rw[b.ln o]at e;cases e⟩,?_⟩,f,i⟩;have⟨p,r,q⟩:=b.own;exact⟨c.nd,Zp,b.gl,b.bx,b.ev,b.fr,b.YT,b.sz,b.df,b.fx⟩
def Ao{W}{t}:∀{e},Us (Yw (Rg W e) t)=[]/\∀K H v,(t∉W->Y0 K H (Yw e t) v)->Y0 K H (Yw (Rg W e) t) v|[]=>⟨rfl,λ_ _ _ _=>trivial⟩|(u,s)::e=>by have d:=Ao (W:=W) (t:=t) (e:=e);have h:Rg W ((u,s)::e)=bif OQ W u then Rg W e else match s with|.bv _ _=>(u,.any)::Rg W e|s=>(u,s)::Rg W e:=rfl;rw[h];cases c:OQ W u with|true=>rw[S7];refine⟨d.1,λK H v a=>d.2 K H v λg=>?_⟩;have l:=Km.1 c;have:=a g;rwa[QH,beq_false λe=>g Zp]at this|false=>
   rw[Su];have f:∀b,Us b=[]->(∀K H v,Y0 K H s v->Y0 K H b v)->Us (Yw ((u,b)::Rg W e) t)=[]/\∀K H v,(t∉W->Y0 K H (Yw ((u,s)::e) t) v)->Y0 K H (Yw ((u,b)::Rg W e) t) v:=by intro b j k;rw[QH,QH];cases hb:Nat.beq u t with|true=>have:=Wc hb;subst this;refine⟨j,λK H v a=>k K H v (a λi=>?_)⟩;rw[Km.2 i]at c;cases c|false=>exact d
   cases s with|bv m n=>exact f .any rfl λ_ _ _ _=>trivial|_=>exact f _ rfl λ_ _ _ a=>a
structure j9(Z:XF)(β:SG)(s:XS)(l:List HI)(y:(TG l).den)(c:CS)(Rb:Bx)(K:KK)(H:HM)(a:Act)(w:World)(K1:KK)(hy hl hd:HP):Prop where
 gd:GD K1.m (hy++(hl++(YW H (Wm Rb s.b)++(hd++β.hx)))) w
 JA:ZW β.w0 w β.m0 K1.m β.b0 (HP.bs (hy++(hl++(YW H (Wm Rb s.b)++(hd++β.hx)))))le:K.le K1
 nm:K1.nm=K.nm
 pk:MX K1 a l y hy
 sl:ZS K1 c.l hl
 fl:Yx K1 c.l
 fk:Vf K K1 Rb
 fy:Yx K1 (Dx l y)fx:∀b∈HP.bs β.hx,∀o,K1.m b o=β.m0 b o
def dS{Z:XF}{β:SG}{k}(h:Hq A z U {g:=z.b} k=some F):∃y c d,k y c=some F/\c.r=d/\c.g=Wm d z.b/\(∀p∈d,ZJ z.b p.1=some p.2)/\(d.map (·.1)).Nodup/\(∀p∈c.l,∃q∈d,q.1=p.1)/\(∀h∈U,KX A h)/\(∀h∈U,Ua h=true->∃q∈d,q.1=h.t)/\∀K H a w,MS Z β z (Oq z.n) K H a w->∃o l O j,j9 Z β z U y c d K H a w o l O j:=by
 obtain⟨y,c,d,R,J,f,V,C⟩:=Zgh h;refine⟨y,c,d,J,by rw[f.r];simp,f.g,f.mr,f.nd,λp e=>?_,Zp,Zp,λK H a w i=>?_⟩;·obtain⟨q,T,D⟩:=f.ids p e;exact⟨q,Zp,D⟩
 ·obtain⟨j,M,L⟩:=i.own;have x:=Fk (H:=H) (D6 i.nd f.nd f.mr);rw[Ld]at x;have e:=by have:=x.append_right (j++β.hx);simpa[Yc]using this
  have r:=M.perm e;have v:=λp e=>Vn (f.mr p e);obtain⟨o,l,s,m,P,Q,G,S,I⟩:=C w K H a [] (YW H d) r.left i.ev trivial (ls λp e=>i.bx p (v p e)) (λp e=>by obtain⟨g,_,n⟩:=i.bx p (Vn (f.mq p e));exact⟨g,n⟩) (i.YT.sub λp e=>v p (by simpa using e)) Zc;obtain⟨u,t⟩:=(m.frame _).step r;have E:l++s++(YW H (Wm d z.b)++(j++β.hx))=l++(s++(YW H (Wm d z.b)++(j++β.hx))):=Zc;rw[E]at u t;exact⟨o,l,s,j,u,L.trans (ZW.Qm e t),m.le,m.nm,P,Q,G,Zp,I,λb n B=>(m.wq r b (by simp only[HP.bs,WW,Sr];exact .inr (.inr n)) B).trans (i.fx b n B)⟩
def MX.names{K K2}(j:K2.fm=K.fm)(k:K2.m=K.m)(o:∀i,¬(A<=i/\i<500)->K2.nm i=K.nm i):∀{l}{y}{hs},(∀h∈l,KX A h)->MX K B l y hs->MX K2 B l y hs:=by
 have m:∀{h:HI}{g:h.ty.den}{hs:HP},KX A h->PE K B h g hs->PE K2 B h g hs:=by
  intro h g hs ok a;unfold PE at a⊢
  cases b:Ua h with|true=>
   rw[b]at a;obtain⟨e,c,d⟩:=a;have s:¬h.t<1000:=by
    unfold Ua at b;rw[YL]at b;intro n;have:Nat.blt h.t 1000=true:=by rw[TN];exact n
    rw[this]at b;cases b.2
   exact⟨e,mH j k (ok.nh b) c,Zp⟩|false=>rw[b]at a;obtain⟨e,c,d⟩:=a;exact⟨e,ZwB j k (λi r=>o i Y) (ok.ok b) c,d⟩
 intro l;induction l with|nil=>intro _ _ _ _;trivial|cons h l t=>cases l with|nil=>rintro y hs ok⟨c,p,f,a⟩;exact⟨c,p,f,m (ok h Zc) a⟩|cons q l=>rintro y hs ok⟨c,d,f,a,u⟩;exact⟨c,d,f,m (ok h Zc) a,Zp⟩
def ZrK{y}{K K0 r}{H0}{w}{u}{d}{tr}{al}(c:j9 J M z U y l C K E B w r k s u)(x:MS J M z (Oq z.n) K E B w)(x5:(C.map (·.1)).Nodup)(x4:∀p∈C,ZJ z.b p.1=some p.2)(O:∀h∈U,KX A h)(x2:∀i,¬(A<=i/\i<500)->K.nm i=K0.nm i)(V:∀i,Oq A i->K0.nm i=none)(N:K0.le K)(W:NW J K0)(Z:(o.map (·.1)).Nodup)(D:∀p∈o,ZJ z.b p.1=some p.2/\∀q∈C,q.1≠p.1)(S:∀p∈o,∃h,H0 p.1=some h/\WC K0 p.1 p.2 h)(Q:∀p∈o,E p.1=H0 p.1)(T:∀t,Y0 K0 H0 (Yw G t) (B.tmps.getD t undef))(x0:∀t,Us (Yw G t)=[]):∃K2,PF J M A {e:=G,b:=o,n:=A,d:=d,tr:=tr,al:=al} U y K2 H0 B w/\K0.le K2/\K2.nm=K0.nm/\∀f,(∀q∈C,q.1≠Yp f)->K2.fm f=K.fm f:=by
 obtain⟨K2,a⟩:∃K2:KK,K2=⟨K0.nm,r.fm,r.m⟩:=⟨_,rfl⟩;have v:K0.le K2:=by rw[a];exact⟨λ_ _ h=>h,(N.trans c.le).fm,(N.trans c.le).m⟩
 have X:∀p∈o,ZJ (Wm C z.b) p.1=some p.2:=λp j=>by rw[Ji (D p j).2];exact(D p j).1
 have H:=Fk (H:=E) (D6 (JM x.nd) Z X);rw[Ld,Fj (H:=H0) (H':=E) (b:=o) Q]at H;have j:(k++(s++(YW E (Wm C z.b)++(u++M.hx)))).Perm (YW H0 o++(k++(YW E (Wm o (Wm C z.b))++(s++u)++M.hx))):=by classical rw[VX]at H⊢;intro x3;have:=H x3;simp only[VU]at this⊢;omega
 refine⟨K2,⟨⟨k,⟨⟨YW E (Wm o (Wm C z.b))++(s++u),by rw[a];exact c.gd.perm j,by rw[a];exact ZW.Od j c.JA⟩,W.mono v,λp j=>?_,λt=>(T t).mono v,x0,λi g=>by rw[a];exact V i g,?_,x.sz,x.df,by rw[a];exact c.fx⟩,MX.names (K:=r) (by rw[a]) (by rw[a]) (λi g=>by rw[a,c.nm];exact(x2 i g).symm) O c.pk⟩,?_,O⟩,v,by rw[a],λf x1=>by rw[a];exact c.fk f x1⟩;·obtain⟨P,e,R⟩:=S p j;exact⟨P,e,R.mono v⟩
 ·intro f t I F i g;have L:=D _ F;rw[a];show r.fm f i=none;rw[c.fk f L.2];exact x.YT f t I (Vn L.1) i g
 ·intro f t I F i g;rw[a];exact c.fy f t I F i g
def ZrL{y}{K N}{w}{A}{e0}{d}{tr}{al}(c:j9 J M z U y l C K E B w N k s A)(i:MS J M z (Oq z.n) K E B w)(D:l.g=Wm C z.b)(x2:∀p∈C,ZJ z.b p.1=some p.2)(X:∀p∈l.l,∃q∈C,q.1=p.1)(ok:∀h∈U,KX z.n h)(G:((l.l++l.g).map (·.1)).Nodup)(Z:∀t,Y0 K E (Yw e0 t) (B.tmps.getD t undef))(S:∀t,Us (Yw e0 t)=[]):∃L,PF J M z.n {e:=e0,b:=l.l++l.g,n:=z.n,d:=d,tr:=tr,al:=al} U y N L B w/\∀j,(∀q∈C,q.1≠j)->L j=E j:=by
 rw[WW,T5]at G;obtain⟨o,x0,k1,T⟩:=uP G.1 c.sl;obtain⟨m,O⟩:∃m:HM,m=λj=>if j∈l.l.map (·.1)then o j else E j:=⟨_,rfl⟩;have P:∀p∈l.l,m p.1=o p.1:=λp a=>by rw[O];show(if p.1∈l.l.map (·.1)then o p.1else E p.1)=_;rw[Y4 (VV (f:=(·.1)) a)]
 have v:∀j,j∉l.l.map (·.1)->m j=E j:=λj r=>by rw[O];show(if j∈l.l.map (·.1)then o j else E j)=_;rw[Ys r]
 have Q:∀p∈l.g,p.1∉l.l.map (·.1):=λp a i=>G.2.2 p.1 i p.1 (VV (f:=(·.1)) a) rfl;have W:YW m (l.l++l.g)=YW o l.l++YW E l.g:=by rw[Ld,Fj P,Fj λp a=>v p.1 (Q p a)]
 have a:(k++(s++(YW E (Wm C z.b)++(A++M.hx)))).Perm (YW m (l.l++l.g)++(k++(x0++A++M.hx))):=by rw[W,D];classical rw[VX]at T⊢;intro x1;have:=T x1;simp only[VU]at this⊢;omega
 refine⟨m,⟨⟨k,⟨⟨_,c.gd.perm a,ZW.Od a c.JA⟩,i.gl.mono c.le,λp a=>?_,λt=>(((Z t).mono c.le).boxes λj r=>by have R:j∈Us (Yw e0 t):=r;rw[S t]at R;cases R),S,λI F=>by rw[c.nm];exact i.fr I F,?_,i.sz,i.df,c.fx⟩,c.pk⟩,c.fy,ok⟩,λj r=>v j λu=>?_⟩
 ·obtain a|a:=ZY (show p∈l.l++l.g from a);·obtain⟨g,e,x⟩:=k1 p a;exact⟨g,(P p a).trans e,x⟩
  ·obtain⟨g,e,x⟩:=i.bx p (by rw[D]at a;exact Ju p a);exact⟨g,(v p.1 (Q p a)).trans e,x.mono c.le⟩
 ·refine Yx.append c.fl λf t xs u I F=>?_;rw[D]at u;rw[c.fk f λq H e=>?_];·exact i.YT f t xs (Ju _ u) I F
  ·exact Jh (Nf (JM i.nd) u) q H e
 ·obtain⟨p,a,e⟩:=VR u;obtain⟨q,H,V⟩:=X p a;exact r q H (V.trans e)
def KW(l:L HI)(j:Nat):Prop:=∃a∈l,Ua a=true/\a.t=j
def Zkc{h}{x}:(∀j,1000<=j->j∈(Wu h x z).d->j∈z.d\/Ua h=true/\h.t=j)/\(Ua h=true->h.t∈(Wu h x z).d):=by cases hb:h.b with
 |true=>cases g:Ua h with
  |true=>
   have e:Wu h x z={z with b:=(h.t,⟨h.ty,x⟩)::z.b,d:=h.t::z.d}:=by unfold Wu;grind
   grind|false=>
   refine⟨λj m a=>?_,Zc⟩;unfold Wu at a;rw[hb]at a;dsimp only at a;rw[g]at a;split at a;·rename_i k r q;cases i:Nat.blt k 1000with
    |true=>
     rw[i,S7]at a;rcases o:JO k ⟨h.ty,x⟩ z.n z.b with⟨l,c⟩;obtain f|f:=XL a;·have p:=TN▸i;omega
     ·exact .inl f|false=>grind
   ·exact .inl a
 |false=>
  have g:Ua h=false:=by unfold Ua;rw[hb];rfl
  refine⟨λj m a=>?_,Zp⟩;rcases o:Ln h.ty x z.n z.b with⟨v,l,c⟩;have e:Wu h x z={z with e:=(h.t,v)::z.e,n:=l,b:=c}:=by unfold Wu;grind
  grind
def ka:∀{l}{y}{s},(∀j,1000<=j->j∈(unpack l y s).d->j∈s.d\/KW l j)/\∀j,KW l j->j∈(unpack l y s).d
 |[],_,s=>⟨λj _ h=>.inl h,λj⟨h,f,_⟩=>Zp⟩|[h],x,s=>by obtain⟨g,i⟩:=Zkc;refine⟨λj e f=>(g j e f).imp id λ⟨a,b⟩=>⟨h,Zc,a,b⟩,λj⟨c,hg,a,b⟩=>?_⟩;have:=YV hg;subst this;rw[<-b];exact i a|h::h'::l,x,s=>by
  obtain⟨g,i⟩:=Zkc;obtain⟨m,n⟩:=ka (y:=x.2);have o:QD h (Wu h x.1 s) (unpack _ x.2 _):=Ia h;refine⟨λj e f=>?_,λj⟨c,hg,a,b⟩=>?_⟩
  ·obtain k|⟨c,hg,a,b⟩:=m j e f;·exact(g j e k).imp id λ⟨a,b⟩=>⟨h,Zc,a,b⟩
   ·exact .inr ⟨c,Zp,a,b⟩
  ·obtain rfl|hg:=XL hg;·rw[<-b];exact o.d _ (i a)
   ·exact n j ⟨c,hg,a,b⟩
def Ze6{d}(h:Fo C d=true):∀p∈C,p.1∉d:=by intro p b a;simp only[Fo,MI,CR]at h;have:=h p b;rw[Km.2 a]at this;cases this
def ZqE{f:L Nat->Oper->L Nat}(d:∀l o t,t∈f l o↔t∈l\/o.dst=some t):∀{l}{t},t∈c.foldl f l↔t∈l\/∃o∈c,o.dst=some t:=by induction c with|nil=>simp|cons o c e=>
  intro l t;rw[List.foldl_cons,e,d];constructor
  ·rintro((h|h)|⟨b,a,h⟩);·exact .inl h
   ·exact .inr ⟨o,Zc,h⟩
   ·exact .inr ⟨b,XY _ a,h⟩
  ·rintro(h|⟨b,a,h⟩);·exact .inl (.inl h)
   ·grind
def ZaQ{id}{ops}{l}:A∈XH (.region id ops x) l↔A∈l\/∃o∈ops.toList,o.dst=some A:=by refine ZqE λl o A=>?_;cases hd:o.dst<;>grind
def ZAK:∀{c}{l}{t},t∈XH c l↔t∈XH c []\/t∈l:=by intro c;induction c with|region id h g=>intro l t;rw[ZaQ,ZaQ];grind|seq a e d f=>intro l t;show t∈XH a _↔t∈XH a _\/t∈l;rw[d,f,d (l:=XH e _)];exact or_assoc.symm|cond i a e d f=>intro l t;show t∈XH a _↔t∈XH a _\/t∈l;rw[d,f,d (l:=XH e _)];exact or_assoc.symm|block id a b=>exact b|loop a b=>exact b|scope a b=>exact b|_=>simp[XH]
def kK{a b}(h:A∉XH a (XH b [])):A∉XH a []/\A∉XH b []:=by rw[ZAK]at h;exact⟨Zp,Zp⟩
def LQ2{ρ:Type}(id:Nat)(I:N->Act->World->Prop)(Rr:ρ->Exit->Act->World->Prop)(r:LR N ρ)(e:Exit)(a:Act)(w:World):Prop:=match r with|.next s=>e=.normal/\I s a w|.brk s=>e=.exit id/\I s a w|.ret x=>e≠.normal/\Rr x e a w
def Ziv{k}{Q}{ρ}{f}{I}{Rr}{id}{body}(q:∀s r a w,f s=some r->I s a w->body.wpIn (WR k) 0 P (LQ2 id I Rr r) a w):∀(n)(s)(c:N⊕ρ)(a)(w),P5 f n s=some c->I s a w->(∀s' a w,c=.inl s'->I s' a w->Q (.exit id) a w)->(∀x e a w,c=.inr x->Rr x e a w->Q e a w)->Code.roundsIn (WR k) 0 P body Q n a w:=by intro n;induction n with|zero=>intro s c a w b;cases b|succ n p=>intro s c a w b l h i;unfold P5 at b;cases j:f s with|none=>grind|some r=>rw[j]at b;refine MM (q s r a w j l) λe t u g=>?_;cases r with|next s'=>obtain⟨rfl,d⟩:=g;exact p _ c _ _ b d h i|brk s'=>obtain⟨rfl,d⟩:=g;simp at b;exact h _ _ _ b.symm d|ret x=>have⟨o,m⟩:=g;simp at b;have:=i x e _ _ b.symm m;cases e with|normal=>exact absurd rfl o|_=>exact this
def Zde{k}(h:Ry A C U z k=some F){K0 K'}{H0}{e0}{d}{tr}{al}(m:St J M z K' E B K)(R:K0.le K')(V:∀i,¬(A<=i/\i<500)->K'.nm i=K0.nm i)(l:∀p,p∈C->p.1∉z.d->ZJ z.b p.1=some p.2/\E p.1=H0 p.1)(L:NW J K0)(D:∀p∈C,∃h,H0 p.1=some h/\WC K0 p.1 p.2 h)(I:∀i,Oq A i->K0.nm i=none)(Q:(C.map (·.1)).Nodup)(G:∀t,Y0 K0 H0 (Yw e0 t) (B.tmps.getD t undef))(T:∀t,Us (Yw e0 t)=[]):∃(y:(TG U).den)(c:Bx),k y=some F/\(∀p,p∈C->p.1∉z.d)/\(∀p,p∈c->ZJ z.b p.1=some p.2)/\(∀p,p∈C->∀q,q∈c->q.1≠p.1)/\∃K2,PF J M A {e:=e0,b:=C,n:=A,d:=d,tr:=tr,al:=al} U y K2 H0 B K/\K0.le K2/\K2.nm=K0.nm/\∀f,(∀q,q∈c->q.1≠Yp f)->K2.fm f=K'.fm f:=by have⟨O,s⟩:=Yq h;obtain⟨y,x1,c,u,r,eg,j,x,x2,ok,_,Z⟩:=dS s;have⟨P,v⟩:=Yq u;have g:=Ze6 O;have o:∀p∈C,∀q∈c,q.1≠p.1:=λp a q X e=>Ze6 P p a (by rw[r,<-e];exact VV X);have⟨K1,hy,hl,hd,x0⟩:=Z _ _ _ _ m.ms;obtain⟨K2,w,S,W,H⟩:=ZrK x0 m.ms x j ok V I R L Q (λp a=>⟨(l p a (g p a)).1,o p a⟩) D (λp a=>(l p a (g p a)).2) G T;exact⟨y,c,v,g,j,o,K2,w,S,W,H⟩
def rM(a:Ex)(x:Exit):Prop:=match a with|.Vt=>x=.normal|.exit i=>x=.exit i|.ret=>x=.ret
def EQ(Z:XF)(β:SG)(W:L Nat)(s:XS)(K:KK)(H:HM)(a:Act)(f:Ex->XS->Zg N)(r:N)(x:Exit)(a':Act)(w':World):Prop:=∃e b d c,rM e x/\f e b=some r/\St Z β b d c a' w'/\Ow s K H b d c/\MY W a a'
def EQ.wide{W b}{K}{a}{x}{a'}{w'}(h:EQ J M W z K E B a F x a' w')(m:∀t,t∉b->t∉W):EQ J M b z K E B a F x a' w':=let⟨e,n,d,c,f,g,i,j,k⟩:=h
 ⟨e,n,d,c,f,g,i,j,λt l=>k t (m t l)⟩
def qH{R}{r:R}{s}{k}:∀{l}{b}{d},Dp s l b d k=some r->∃c e,k c e=some r/\(∀p∈c,p∈b)/\(∀j v,ZJ b j=some v->j∉e->ZJ c j=some v)/\(∀j∈d,j∈e)/\((b.map (·.1)).Nodup->(c.map (·.1)).Nodup)/\∀j∈e,j∈d\/j<1000
 |[],b,d,a=>⟨b,d,a,λ_ a=>a,λ_ _ a _=>a,λ_ a=>a,λa=>a,λ_ a=>.inl a⟩|x::l,b,d,a=>by
  unfold Dp at a;split at a;·rename_i j B _ _;cases g:Nat.blt j _ with|true=>rw[g]at a;have A:=TN▸g;have⟨c,e,i,m,n,y,o,z⟩:=qH a;refine⟨c,e,i,λp t=>GB p (m p t),λh v u f=>n h v (by rw[Zc9 λw=>f Zp];exact u) f,Zp,λq=>o (ZfV q),λh f=>Zp⟩|false=>rw[g]at a;exact qH a
  ·exact qH a
def Gl(Z:XF)(β:SG)(c:Code):Prop:=∀{a:Type}(d:XS)(g:Ex->XS->Zg a)(h:a),exec Z c a d g=some h->∀f e b i,St Z β d f e b i->c.wpIn (WR none) 0 Z.P (EQ Z β (XH c []) d f e b g h) b i
def ZaC{y}{v}(i:EK (unpack U y z))(k:A∉(unpack U y z).d)(f:ZJ z.b A=some v)(hi:A<z.n\/500<=A):ZJ (unpack U y z).b A=some v/\¬(z.n<=A/\A<(unpack U y z).n):=by
 have j:QD ⟨0,false,.int⟩ z (unpack U y z):=Ia _;have⟨a,c,g⟩:=j.b;have l:=i.n;refine⟨?_,Y⟩;rw[c,iI];have:ZJ a A=none:=by cases h:ZJ a A with|none=>rfl|some m=>
   obtain e|e:=g _ (Vn h);·grind
   ·grind
 rw[this];exact f
def Zkd{h}{x}(l:(Wu h x z).n<=500){v}(h1:1000<=A)(a:ZJ (Wu h x z).b A=some v):Ua h=true/\h.t=A\/∃v,ZJ z.b A=some v:=by
 have u:∀{c b:Bx},ZJ (c++b) A=some v->(∀o∈c,o.1≠A)->∃v,ZJ b A=some v:=by intro c b a B;rw[iI]at a;cases h:ZJ c A with|none=>rw[h]at a;exact⟨v,a⟩|some p=>exact absurd rfl (B _ (Vn h))
 cases k:h.b with
 |true=>cases q:Ua h with
  |true=>
   have e:Wu h x z={z with b:=(h.t,⟨h.ty,x⟩)::z.b,d:=h.t::z.d}:=by unfold Wu;rw[k];dsimp only;rw[q];rfl
   rw[e]at a;have j:ZJ ((h.t,⟨h.ty,x⟩)::z.b) A=some v:=a;rw[M4]at j;cases t:Nat.beq h.t A with|true=>exact .inl ⟨rfl,Wc t⟩|false=>rw[t]at j;exact .inr ⟨v,j⟩
  |false=>
   by_cases y:∃A p,Yw z.e h.t=.v ⟨.hole A,p⟩/\Nat.blt A 1000=true
   ·obtain⟨m,p,w,s⟩:=y;rcases f:JO m ⟨h.ty,x⟩ z.n z.b with⟨g,i⟩;have e:Wu h x z={z with n:=g,b:=i,d:=m::z.d}:=by unfold Wu;rw[k];dsimp only;rw[q,Su,w];dsimp only;rw[s,f];rfl
    rw[e]at a l;obtain⟨D,c,rfl,r,_⟩:=vK f;have G:m<1000:=TN▸s;grind
   ·have e:Wu h x z=z:=by unfold Wu;grind
    rw[e]at a;exact .inr ⟨v,a⟩
 |false=>
  rcases f:Ln h.ty x z.n z.b with⟨E,g,i⟩;have e:Wu h x z={z with e:=(h.t,E)::z.e,n:=g,b:=i}:=by unfold Wu;rw[k];dsimp only;rw[f]
  rw[e]at a l;obtain⟨D,c,rfl,r,_⟩:=vM f;refine .inr (u a λo C e=>?_);have F:=r o C;have:g<=500:=l;omega
def Zkf{j}(h1:1000<=j):∀{l}{y}{s}{v},(unpack l y s).n<=500->ZJ (unpack l y s).b j=some v->KW l j\/∃v,ZJ s.b j=some v
 |[],_,s,v,_,hb=>.inr ⟨v,hb⟩|[h],x,s,v,c,hb=>by
  obtain⟨a,b⟩|d:=Zkd c h1 hb;·exact .inl ⟨h,Zc,a,b⟩
  ·grind|h::h'::l,x,s,v,c,hb=>by
  obtain⟨e,g,a,b⟩|⟨i,d⟩:=Zkf h1 (y:=x.2) c hb;·exact .inl ⟨e,Zp,a,b⟩
  ·obtain⟨a,b⟩|f:=Zkd (WB (Ia h).n c) h1 d;·exact .inl ⟨h,Zc,a,b⟩
   ·grind
def kc{y}{v}(c:EK (unpack U y z))(h1:1000<=A)(a:ZJ (unpack U y z).b A=some v):KW U A\/∃v,ZJ z.b A=some v:=Zkf h1 c.n a
def ZpS{A B}{P}{b}(hA:Gl J M A)(hB:Gl J M B)(h:(Hq z.n z (U.filter (·.b)) {g:=z.b} λ_ j=>Dp z U j.g (j.r.map (·.1)++z.d) λp s=>O (Zf b (exec J A (TG U).den {z with d:=[]} λx s'=>match x with|.Vt=>Ry z.n p U s' some|_=>none) (exec J B (TG U).den {z with d:=[]} λx s'=>match x with|.Vt=>Ry z.n p U s' some|_=>none)) λy=>Ob (unpack U y {e:=Rg (XH A (XH B [])) z.e,b:=p,n:=z.n,d:=s}) (P .Vt))=some F){K}{a}{w}(i:St J M z K E a w)(hc:a.eval j=.bool b):(Code.cond j A B).wpIn (WR none) 0 J.P (EQ J M (XH A (XH B [])) z K E a P F) a w:=by
 obtain⟨y0,cc,Rb,t,W,eg,Z,ys,yt,yy,y7,_⟩:=dS (Z:=J) (β:=M) h;obtain⟨p,s,h2,k1,k2,k3,k4,k5⟩:=qH t;obtain⟨y,x0,xb⟩:=Ti h2;obtain⟨I,hk⟩:=zf xb;rw[eg]at k1 k2 k4;have T:∀k∈p,ZJ z.b k.1=some k.2:=λk q=>IQ (Nf (JM i.wf.nd) (k1 k q));have L:QD ⟨0,false,.int⟩ _ _:=Ia (l:=U) (y:=y) (s:={e:=Rg (XH A (XH B [])) z.e,b:=p,n:=z.n,d:=s}) ⟨0,false,.int⟩;have y4:=ka (l:=U) (y:=y) (s:={e:=Rg (XH A (XH B [])) z.e,b:=p,n:=z.n,d:=s});have x7:∀c v,ZJ z.b c=some v->c∉s->ZJ p c=some v:=λc v o m=>k2 c v (by rw[Ji λk q e=>m (k3 c (Ym (.inl (by rw[W,<-e];exact VV (f:=(·.1)) q))))];exact o) m;have X:∀c,KW U c->∃v,ZJ z.b c=some v:=by
  rintro c⟨g,hg,u,e⟩;have xi:g.b=true:=by unfold Ua at u;rw[YL]at u;exact u.1
  obtain⟨D,H,Q⟩:=y7 g (List.mem_filter.2 ⟨hg,xi⟩) u;exact⟨D.2,by rw[<-e,<-Q];exact Z D H⟩
 have x8:∀c,1000<=c->c∈s\/KW U c->c∈z.d\/∃v,ZJ z.b c=some v:=by
  intro c m h;obtain h|h:=h
  ·obtain h|h:=k5 c h
   ·obtain h|h:=ZY h;·rw[W]at h;obtain⟨k,q,e⟩:=VR h;exact .inr ⟨k.2,by rw[<-e];exact Z k q⟩
    ·exact .inl h
   ·omega
  ·exact .inr (X c h)
 have x6:∀{G:Code},Gl J M G->(∀l,l∉XH A (XH B [])->l∉XH G [])->exec J G (TG U).den {z with d:=[]} (λx s'=>match x with|.Vt=>Ry z.n p U s' some|_=>none)=some y->G.wpIn (WR none) 0 J.P (EQ J M (XH A (XH B [])) z K E a P F) a w:=by
  intro G hC hW hx;have y2:St J M {z with d:=[]} K E a w:=⟨⟨i.wf.nd,i.wf.ids,i.wf.len⟩,⟨i.ms.nd,i.ms.own,i.ms.gl,i.ms.bx,i.ms.ev,i.ms.fr,i.ms.YT,i.ms.sz,i.ms.df,i.ms.fx⟩⟩;refine MM (hC _ _ _ hx K E a w y2)<|λx a' w'⟨ex,s',K',H',hm,V,y1,C,x3⟩=>?_
  cases ex with|Vt=>
   subst hm;obtain⟨y',yf,e1,y5,xa,y6,K2,x9,xv,xx,xh⟩:=Zde (K0:=K) (H0:=E) (e0:=Rg (XH A (XH B [])) z.e) (d:=s) (tr:=[]) (al:=none) V y1 C.le C.nm (λk q hd=>C.bx k.1 k.2 (T k q) hd) i.ms.gl (λk q=>i.ms.bx k (Vn (T k q))) i.ms.fr (k4 (JM i.wf.nd)) (λl=>Ao.2 _ _ _ λr=>by rw[x3 l (hW l r)];exact i.ms.ev l) λl=>Ao.1;have Q:y'=y:=by injection e1
   subst Q;obtain⟨K3,H3,y3,R,xs⟩:=x9.unpack I;refine⟨.Vt,_,K3,H3,rfl,hk,y3,⟨xv.trans R.le,λc m=>L.d c (k3 c (Ym (.inr m))),λc v o m=>?_,λf u=>?_,λx4 hi=>?_,L.n,λc t m=>x8 c t (y4.1 c t m),λc v t o=>?_⟩,λl r=>x3 l (hW l r)⟩;·obtain⟨b1,b2⟩:=ZaC I m (x7 c v o λe=>m (L.d c e)) (i.wf.ids _ (Vn o));exact⟨b1,xs c m b2⟩
   ·have x5:∀v,ZJ z.b (Yp f)=some v->(Yp f,v)∈p:=λv o=>Vn (x7 _ v o λe=>u (L.d _ e));have x1:1000<=Yp f:=sJ (wg f);rw[R.fm,xh f λD H e=>?_]
    ·refine C.fk f λx2=>?_;obtain h|⟨v,h⟩:=C.fd _ x1 x2;·cases h
     ·exact y5 _ (x5 v h) x2
    ·obtain⟨v,o⟩:=C.fb (Yp f) D.2 x1 (by rw[<-e];exact xa D H);exact y6 _ (x5 v o) D H e
   ·have yv:=I.n;rw[R.nm x4 λh=>hi ⟨h.1,Y⟩,xx]
   ·obtain h|⟨y8,h⟩:=kc I t o;·exact X c h
    ·exact⟨y8,T _ (Vn h)⟩|exit x4=>cases V|ret=>cases V
 refine jB hc (λS=>?_) λS=>?_;·subst S;exact x6 hA (λl r=>(kK r).1) (by rwa[XD]at x0)
 ·subst S;exact x6 hB (λl r=>(kK r).2) (by rwa[Xp]at x0)
structure LI(Z:XF)(β:SG)(s0:XS)(l:List HI)(W:List Nat)(Ks:KK)(Hs:HM)(a0:Act)(y:(TG l).den)(K:KK)(H:HM)(a:Act)(w:World):Prop where
 pf:PF Z β s0.n s0 l y K H a w
 le:Ks.le K
 nm:K.nm=Ks.nm
 hk:∀p:Nat×TV,p∈s0.b->H p.1=Hs p.1fk:∀f,¬KW l (Yp f)->K.fm f=Ks.fm f
 wr:MY W a0 a
structure BB(s0:XS)(l:List HI)(Ks:KK)(Hs:HM)(s':XS)(K':KK)(H':HM):Prop where
 le:Ks.le K'
 bx:∀p:Nat×TV,p∈s0.b->p.1∉s'.d->ZJ s'.b p.1=some p.2/\H' p.1=Hs p.1fk:∀f,Yp f∉s'.d->K'.fm f=Ks.fm f
 nm:∀i,¬(s0.n<=i/\i<500)->K'.nm i=Ks.nm i
 n:s0.n<=s'.n
 fd:∀j,1000<=j->j∈s'.d->KW l j\/∃v,ZJ s0.b j=some v
 fb:∀j v,1000<=j->ZJ s'.b j=some v->KW l j\/∃v,ZJ s0.b j=some v
def ZwJ{W}{x K K' K2}{H H' h}{a}{y}{w}(l:LI J M z U W x E B y K H a w)(V:z.d=[])(Q:(z.b.map (·.1)).Nodup)(O:∀p,p∈z.b->p.1<z.n\/500<=p.1)(q:EK (unpack U y z))(k:Vw z.n (unpack U y z).n K K')(hk:∀j,j∉(unpack U y z).d->¬(z.n<=j/\j<(unpack U y z).n)->H' j=H j)(b:Ow (unpack U y z) K' H' g K2 h):BB z U x E g K2 h/\K.le K2/\(∀i,¬(z.n<=i/\i<500)->K2.nm i=K.nm i)/\∀p,p∈z.b->p.1∉g.d->ZJ g.b p.1=some p.2/\h p.1=H p.1:=by
 have R:QD ⟨0,false,.int⟩ z (unpack U y z):=Ia _;have S:=ka (l:=U) (y:=y) (s:=z);have X:=q.n;have F:=R.n;have I:∀i,¬(z.n<=i/\i<500)->K2.nm i=K.nm i:=λi o=>(b.nm i λc=>o ⟨WB F c.1,c.2⟩).trans (k.nm i λc=>o ⟨c.1,Y⟩);have A:∀p:Nat×TV,p∈z.b->p.1∉g.d->ZJ g.b p.1=some p.2/\h p.1=H p.1:=λp f m=>by have G:=λu=>m (b.d _ u);obtain⟨r,t⟩:=ZaC q G (Nf Q f) (O p f);obtain⟨L,N⟩:=b.bx _ _ r m;exact⟨L,N.trans (hk _ G t)⟩
 refine⟨⟨l.le.trans (k.le.trans b.le),λp f m=>?_,λC D=>?_,λi o=>by rw[I i o,l.nm],WB F b.n,λj e P=>?_,λj v e T=>?_⟩,k.le.trans b.le,I,A⟩;·obtain⟨r,t⟩:=A p f m;exact⟨r,t.trans (l.hk p f)⟩
 ·rw[b.fk C D,k.fm];exact l.fk C λu=>D (b.d _ (S.2 _ u))
 ·obtain c|⟨v,c⟩:=b.fd j e P;·grind
  ·exact kc q e c
 ·obtain⟨Z,c⟩:=b.fb j v e T;exact kc q e c
def Ziu{W}{n K K2}{H l}{a a'}{y}{w w'}{k}(c:LI J M z U W n E B y K H a w)(x1:z.d=[])(x2:z.tr=[])(x0:z.al=none)(D:z.e=Rg W G)(Q:(z.b.map (·.1)).Nodup)(h:Ry z.n z.b U g k=some F)(T:St J M g K2 l a' w')(hL:BB z U n E g K2 l)(O:K.le K2)(R:∀i,¬(z.n<=i/\i<500)->K2.nm i=K.nm i)(C:∀p,p∈z.b->p.1∉g.d->ZJ g.b p.1=some p.2/\l p.1=H p.1)(t:MY W a a'):∃j,k j=some F/\∃m,LI J M z U W n E B j m H a' w':=by
 have⟨hy,d,_⟩:=c.pf.hy;obtain⟨j,Z,hk,V,A,X,m,x,P,S,L⟩:=Zde h T O R C d.gl d.bx d.fr Q (λb=>by
  by_cases f:b∈W;·rw[D];exact Ao.2 _ _ _ λh=>absurd f h
  ·rw[t b f];exact d.ev b) d.ln;refine⟨j,hk,m,x,c.le.trans P,S.trans c.nm,c.hk,λo I=>?_,λb f=>(t b f).trans (c.wr b f)⟩;have q:=sJ (wg o);rw[L o λu s e=>?_]
 ·refine hL.fk o λr=>?_;obtain h|⟨v,h⟩:=hL.fd _ q r;·exact I h
  ·exact V _ (Vn h) r
 ·obtain h|⟨v,h⟩:=hL.fb _ _ q (by rw[<-e];exact A u s);·grind
  ·exact X _ (Vn h) u s e
def Zfk{body}{id}{W}{h}{u}{Kx:Ex->XS->N->Prop}(R:Gl J M body)(V:∀t,t∉W->t∉XH body [])(T:∀x s' c,u x s'=some c->x=.Vt/\Ry z.n z.b U s' (λy=>some (LR.next y))=some c\/x=.exit id/\Ry z.n z.b U s' (λy=>some (LR.brk y))=some c\/∃q,c=.ret q/\x≠.Vt/\Kx x s' q)(n:z.d=[])(L:z.tr=[])(A:z.al=none)(D:z.e=Rg W G)(o:(z.b.map (·.1)).Nodup)(Z:∀p,p∈z.b->p.1<z.n\/500<=p.1)(y)(c)(a)(w)(X:Ob (unpack U y z) (λx3=>exec J body (LR (TG U).den N) x3 u)=some c)(b:∃K H,LI J M z U W h E B y K H a w):body.wpIn (WR none) 0 J.P (LQ2 id (λy a w=>∃K H,LI J M z U W h E B y K H a w) (λq e a' w'=>∃x s' K' H',rM x e/\Kx x s' q/\St J M s' K' H' a' w'/\BB z U h E s' K' H'/\MY W B a') c) a w:=by
 obtain⟨O,hx⟩:=zf X;obtain⟨K,H,b⟩:=b;obtain⟨K',H',x1,S,hk⟩:=b.pf.unpack O;refine MM (R _ _ _ hx K' H' a w x1)<|λx a' w'⟨v,s',Q,P,d,x0,r,hl,x2⟩=>?_;have s:=λt f=>x2 t (V t f);obtain⟨m,F,I,C⟩:=ZwJ b n o Z O S hk hl;obtain⟨rfl,k⟩|⟨rfl,k⟩|⟨q,rfl,x4,hq⟩:=T _ _ _ x0;·obtain⟨y',j,g,l⟩:=Ziu b n L A D o k r m F I C s;cases j;exact⟨d,g,H,l⟩
 ·obtain⟨y',j,g,l⟩:=Ziu b n L A D o k r m F I C s;cases j;exact⟨d,g,H,l⟩
 ·refine⟨?_,v,s',Q,P,d,hq,r,m,λt f=>(s t f).trans (b.wr t f)⟩;cases v with|Vt=>grind|exit i=>rw[d];simp|ret=>rw[d];simp
def Li(s:XS)(body:Code)(c:CS):XS:={e:=Rg (XH body []) s.e,b:=c.l++c.g,n:=s.n,d:=[]}
def vl(s:XS)(body:Code)(c:CS):XS:={Li s body c with d:=c.r.map (·.1)++s.d}
def Zqm{body}{id}{D}(hB:Gl J M body)(h:(Hq z.n z U {g:=z.b} λy c=>bif I7 id body then X4 (X3 (λy=>Ob (unpack U y (Li z body c)) λx4=>exec J body (LR (TG U).den N) x4 λx s'=>match x with|.Vt=>Ry (Li z body c).n (Li z body c).b U s' λy=>some (.next y)|.exit m=>bif Nat.beq m id then Ry (Li z body c).n (Li z body c).b U s' λy=>some (.brk y)else O (D (.exit m) {s' with d:=s'.d++(vl z body c).d}) λF=>some (.ret F)|.ret=>O (D .ret {s' with d:=s'.d++(vl z body c).d}) λF=>some (.ret F)) y) λy=>Ob (unpack U y (vl z body c)) (D .Vt)else O (YE (λy=>Ob (unpack U y (Li z body c)) λx4=>exec J body (LR (TG U).den Empty) x4 λx s'=>match x with|.Vt=>Ry (Li z body c).n (Li z body c).b U s' λy=>some (.next y)|.exit m=>bif Nat.beq m id then Ry (Li z body c).n (Li z body c).b U s' λy=>some (.brk y)else none|.ret=>none) y) λy=>Ob (unpack U y (vl z body c)) (D .Vt))=some F){K}{w}(x2:St J M z K E B w):(Code.block id (.loop body)).wpIn (WR none) 0 J.P (EQ J M (XH body []) z K E B D F) B w:=by
 obtain⟨y0,c,Rb,A,er,eg,x9,av,y6,ok,ag,a7⟩:=dS (Z:=J) (β:=M) h;clear h;obtain⟨T,hy,hl,hd,x3⟩:=a7 K E B w x2.ms;obtain⟨i,x1⟩:∃i,i=Li z body c:=⟨_,rfl⟩;obtain⟨o,x6⟩:∃o,o=vl z body c:=⟨_,rfl⟩;rw[<-x1,<-x6]at A;have zs:∀H:Nat×TV,H∈i.b->H.1<i.n\/500<=H.1:=λH u=>by
  rw[x1]at u⊢;obtain u|u:=ZY (show H∈c.l++c.g from u);·obtain⟨k,P,e⟩:=y6 H u;rw[<-e];exact x2.wf.ids _ (Vn (x9 k P))
  ·rw[eg]at u;exact x2.wf.ids H (Ju H u)
 have xx:∀a,KW U a->∃v,ZJ z.b a=some v:=by rintro a⟨g,hg,W,e⟩;obtain⟨k,P,e2⟩:=ag g hg W;exact⟨k.2,by rw[<-e,<-e2];exact x9 k P⟩
 have yv:∀a v,ZJ i.b a=some v->∃v,ZJ z.b a=some v:=by
  intro a v Q;rw[x1]at Q;obtain u|u:=ZY (Vn Q);·obtain⟨k,P,e⟩:=y6 _ u;have e':k.1=a:=e;exact⟨k.2,by rw[<-e'];exact x9 k P⟩
  ·rw[eg]at u;exact⟨v,Nf x2.wf.nd (Ju _ u)⟩
 have xi:∀a,a∉o.d->(∀H∈Rb,H.1≠a)/\a∉z.d:=λa s=>by rw[x6]at s;have xa:a∉c.r.map (·.1)++z.d:=s;refine⟨λH u e=>xa (Ym (.inl (by rw[er,<-e];exact VV (f:=(·.1)) u))),λe=>xa (Ym (.inr e))⟩
 have a2:∀a v,ZJ z.b a=some v->a∉o.d->(a,v)∈i.b:=λa v Q s=>by
  have A:ZJ c.g a=some v:=by rw[eg,Ji (xi a s).1];exact Q
  rw[x1];exact Ym (.inr (Vn A))
 have z6:∀a,1000<=a->a∈o.d->a∈z.d\/∃v,ZJ z.b a=some v:=λa _ s=>by
  rw[x6]at s;obtain h|h:=ZY (show a∈c.r.map (·.1)++z.d from s);·rw[er]at h;obtain⟨H,u,e⟩:=VR h;exact .inr ⟨H.2,by rw[<-e];exact x9 H u⟩
  ·exact .inl h
 have z0:∀{y:(TG U).den}{S:XS},S.b=i.b->EK (unpack U y S)->∃r,LI J M i U (XH body []) T r B y0 T r B w/\∀a,(∀k∈Rb,k.1≠a)->r a=E a:=by
  intro y S yt hu;have x0:QD ⟨0,false,.int⟩ S (unpack U y S):=Ia _;obtain⟨ad,eb,_⟩:=x0.b;have a5:((c.l++c.g).map (·.1)).Nodup:=by have:=hu.nd;rw[eb,yt,x1]at this;exact vH this
  obtain⟨r,y5,V⟩:=ZrL (e0:=Rg (XH body []) z.e) (d:=[]) (tr:=[]) (al:=none) x3 x2.ms eg x9 y6 ok a5 (λa1=>Ao.2 _ _ _ λ_=>x2.ms.ev a1) λa1=>Ao.1;refine⟨r,⟨by rw[x1];exact y5,KK.le.refl _,rfl,λ_ _=>rfl,λ_ _=>rfl,λ_ _=>rfl⟩,V⟩
 have y8:∀{y:(TG U).den}{S:XS},S.b=i.b->EK (unpack U y S)->(i.b.map (·.1)).Nodup:=by intro y S yt hu;have x0:QD ⟨0,false,.int⟩ S (unpack U y S):=Ia _;obtain⟨ad,eb,_⟩:=x0.b;have:=hu.nd;rw[eb,yt]at this;exact vH this
 have⟨x5,z4,y2,y1,z2,z5,z1,z3⟩:o.b=i.b/\o.e=i.e/\o.n=i.n/\i.n=z.n/\i.d=[]/\i.tr=[]/\i.al=none/\i.e=Rg (XH body []) z.e:=by rw[x1,x6];exact⟨rfl,rfl,rfl,rfl,rfl,rfl,rfl,rfl⟩
 have yy:∀{r:HM},(∀a,(∀k∈Rb,k.1≠a)->r a=E a)->∀{y:(TG U).den}{j:Act}{l:World},Ob (unpack U y o) (D .Vt)=some F->(∃q p,LI J M i U (XH body []) T r B y q p j l)->EQ J M (XH body []) z K E B D F .normal j l:=by
  rintro r V y j l x7⟨q,p,C⟩;obtain⟨hu,hk⟩:=zf x7;have y5:PF J M o.n o U y q p j l:=by obtain⟨hy,L,u⟩:=C.pf.hy;refine⟨⟨hy,⟨by rw[x5];exact L.own,L.gl,by rw[x5];exact L.bx,by rw[z4];exact L.ev,by rw[z4];exact L.ln,by rw[y2];exact L.fr,by rw[x5];exact L.YT,L.sz,L.df,L.fx⟩,u⟩,C.pf.YT,by rw[y2];exact C.pf.ok⟩
  obtain⟨K3,H3,a8,y3,a4⟩:=y5.unpack hu;have x0:QD ⟨0,false,.int⟩ o (unpack U y o):=Ia _;have a0:=ka (l:=U) (y:=y) (s:=o);have b0:=hu.n;have y7:o.n=z.n:=y2.trans y1;refine⟨.Vt,_,K3,H3,rfl,hk,a8,⟨x3.le.trans (C.le.trans y3.le),λa s=>x0.d a<|by rw[x6];exact Ym (.inr s),λa v Q s=>?_,λf W=>?_,λm hi=>by rw[y3.nm m λh=>hi ⟨by rw[<-y7];exact h.1,Y⟩,C.nm,x3.nm],by rw[<-y7];exact x0.n,λa A s=>?_,λa v A Q=>?_⟩,C.wr⟩;·have xb:a∉o.d:=λe=>s (x0.d a e);have zz:=a2 a v Q xb;obtain⟨b1,b2⟩:=ZaC hu s (by rw[x5];exact Nf (y8 x5 hu) zz) (by rw[y7];exact x2.wf.ids _ (Vn Q));refine⟨b1,(a4 a s b2).trans ((C.hk _ zz).trans (V a (xi a xb).1))⟩
  ·rw[y3.fm,C.fk f λe=>W (a0.2 _ e)];exact x3.fk f (xi _ λe=>W (x0.d _ e)).1
  ·obtain h|h:=a0.1 a A s;·exact z6 a A h
   ·exact .inr (xx a h)
  ·obtain h|⟨xv,h⟩:=kc hu A Q;·exact xx a h
   ·rw[x5]at h;exact yv a xv h
 have ar:∀{r:HM},(∀a,(∀k∈Rb,k.1≠a)->r a=E a)->∀{s':XS}{q:KK}{p:HM}{j:Act}{l:World},St J M s' q p j l->BB i U T r s' q p->St J M {s' with d:=s'.d++o.d} q p j l/\Ow z K E {s' with d:=s'.d++o.d} q p:=by
  intro r V s' q p j l G X;refine⟨⟨⟨G.wf.nd,G.wf.ids,G.wf.len⟩,⟨G.ms.nd,G.ms.own,G.ms.gl,G.ms.bx,G.ms.ev,G.ms.fr,G.ms.YT,G.ms.sz,G.ms.df,G.ms.fx⟩⟩,⟨x3.le.trans X.le,λa s=>?_,λa v Q s=>?_,λf W=>?_,λm hi=>by rw[X.nm m (by rw[y1];exact hi),x3.nm],by have:=X.n;rwa[y1]at this,λa A s=>?_,λa v A Q=>?_⟩⟩;·refine Ym (.inr ?_);rw[x6];exact Ym (.inr s)
  ·have xa:a∉s'.d++o.d:=s;have xb:a∉o.d:=λe=>xa (Ym (.inr e));obtain⟨b1,b2⟩:=X.bx _ (a2 a v Q xb) λe=>xa (Ym (.inl e));exact⟨b1,b2.trans (V a (xi a xb).1)⟩
  ·have zc:Yp f∉s'.d++o.d:=W;rw[X.fk f λe=>zc (Ym (.inl e))];exact x3.fk f (xi _ λe=>zc (Ym (.inr e))).1
  ·obtain h|h:=ZY (show a∈s'.d++o.d from s)
   ·obtain h|⟨xv,h⟩:=X.fd a A h;·exact .inr (xx a h)
    ·exact .inr (yv a xv h)
   ·exact z6 a A h
  ·obtain h|⟨xv,h⟩:=X.fb a v A Q;·exact xx a h
   ·exact yv a xv h
 have ab:∀{n:Nat}{j:Act}{l:World},Code.roundsIn (WR none) 0 J.P body (Exit.inBlock id (EQ J M (XH body []) z K E B D F)) n j l->(Code.block id (.loop body)).wpIn (WR none) 0 J.P (EQ J M (XH body []) z K E B D F) j l:=λh=>wpIn_block (wpIn_loop_rounds _ h)
 refine ab (n:=FU) ?_;cases z7:I7 id body with|true=>
  rw[z7,S7]at A;obtain⟨xs,x8,x7⟩:=Ti A;rw[eM]at x8;obtain⟨ai,ys⟩:∃rr,(Ob (unpack U y0 i) λx4=>exec J body (LR (TG U).den N) x4 λx s'=>match x with|.Vt=>Ry i.n i.b U s' λy=>some (.next y)|.exit m=>bif Nat.beq m id then Ry i.n i.b U s' λy=>some (.brk y)else O (D (.exit m) {s' with d:=s'.d++o.d}) λF=>some (.ret F)|.ret=>O (D .ret {s' with d:=s'.d++o.d}) λF=>some (.ret F))=some rr:=by
   have Z:P5 _ FU y0=some xs:=x8;unfold FU at Z;unfold P5 at Z;split at Z;·cases Z
   all_goals(rename_i P;exact⟨_,P⟩)
  obtain⟨xh,_⟩:=zf ys;obtain⟨r,y4,V⟩:=z0 rfl xh;refine Ziv (I:=λy j l=>∃q p,LI J M i U (XH body []) T r B y q p j l) (Rr:=λk e j l=>∃x s' q p,rM x e/\((∃m,x=.exit m/\Nat.beq m id=false/\D (.exit m) {s' with d:=s'.d++o.d}=some k)\/x=.ret/\D .ret {s' with d:=s'.d++o.d}=some k)/\St J M s' q p j l/\BB i U T r s' q p/\MY (XH body []) B j) (id:=id) (λy rr j l W C=>?_) FU y0 xs B w x8 ⟨T,r,y4⟩ ?_ ?_;·refine Zfk hB (λ_ h=>h) (λx s' rr t=>?_) z2 z5 z1 z3 (y8 rfl xh) zs y rr j l W C;cases x with
   |Vt=>exact .inl ⟨rfl,t⟩|exit m=>dsimp only at t;cases R:Nat.beq m id with|true=>rw[R,S7]at t;have:=Wc R;subst this;exact .inr (.inl ⟨rfl,t⟩)|false=>rw[R,Su]at t;obtain⟨k,P,e⟩:=Ti t;cases e;exact .inr (.inr ⟨k,rfl,Zc,.inl ⟨m,rfl,R,P⟩⟩)
   |ret=>obtain⟨k,P,e⟩:=Ti t;cases e;exact .inr (.inr ⟨k,rfl,Zc,.inr ⟨rfl,P⟩⟩)
  ·rintro y j l rfl C;have:=yy V x7 C;simpa[Exit.inBlock]using this
  ·rintro k e j l rfl⟨x,s',q,p,L,t,G,X,hw⟩;have a3:k=F:=by injection x7
   subst a3;obtain⟨w1,w2⟩:=ar V G X;obtain⟨m,rfl,R,t⟩|⟨rfl,t⟩:=t
   ·subst L;have a6:m≠id:=λe=>by rw[e,sH]at R;cases R
    have:EQ J M (XH body []) z K E B D k (.exit m) j l:=⟨.exit m,_,q,p,rfl,t,w1,w2,hw⟩;simpa[Exit.inBlock,a6]using this
   ·subst L;have:EQ J M (XH body []) z K E B D k .ret j l:=⟨.ret,_,q,p,rfl,t,w1,w2,hw⟩;simpa[Exit.inBlock]using this|false=>
  rw[z7,Su]at A;obtain⟨yf,x8,x7⟩:=Ti A;rw[eN]at x8;obtain⟨xs,zv,eo⟩:=Zql x8;obtain⟨ai,ys⟩:∃rr,(Ob (unpack U y0 i) λx4=>exec J body (LR (TG U).den Empty) x4 λx s'=>match x with|.Vt=>Ry i.n i.b U s' λy=>some (.next y)|.exit m=>bif Nat.beq m id then Ry i.n i.b U s' λy=>some (.brk y)else none|.ret=>none)=some rr:=by
   have Z:P5 _ FU y0=some xs:=zv;unfold FU at Z;unfold P5 at Z;split at Z;·cases Z
   all_goals(rename_i P;exact⟨_,P⟩)
  obtain⟨xh,_⟩:=zf ys;obtain⟨r,y4,V⟩:=z0 rfl xh;refine Ziv (I:=λy j l=>∃q p,LI J M i U (XH body []) T r B y q p j l) (Rr:=λ(k:Empty)e j l=>∃x s' q p,rM x e/\False/\St J M s' q p j l/\BB i U T r s' q p/\MY (XH body []) B j) (id:=id) (λy rr j l W C=>?_) FU y0 xs B w zv ⟨T,r,y4⟩ ?_<|λk=>k.elim;·refine Zfk (Kx:=λ_ _ _=>False) hB (λ_ h=>h) (λx s' rr t=>?_) z2 z5 z1 z3 (y8 rfl xh) zs y rr j l W C;cases x with
   |Vt=>exact .inl ⟨rfl,t⟩|exit m=>dsimp only at t;cases R:Nat.beq m id with|true=>rw[R,S7]at t;have:=Wc R;subst this;exact .inr (.inl ⟨rfl,t⟩)|false=>rw[R,Su]at t;cases t
   |ret=>cases t
  ·rintro y j l ho C;rw[eo]at ho;cases ho;have:=yy V x7 C;simpa[Exit.inBlock]using this
end Go.R
