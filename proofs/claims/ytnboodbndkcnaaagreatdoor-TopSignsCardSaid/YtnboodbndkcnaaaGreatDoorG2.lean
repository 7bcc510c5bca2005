import Derived.WalkKit
import Derived.ProofKit
import Derived.OpenShut
import Derived.Carry
import Derived.SevenTiedAt
import Derived.Deep.DeepHandedRow
import Derived.Lib.LaidTab
import Derived.Test.YtnboodbndkcnaaaGreatDoorG1
set_option linter.all false
namespace Go.Sl
def YZ:=λ{a b c}=>(@List.mem_singleton a b c).1
def V8:=@List.Perm.refl
def V9:=@List.length_singleton
def Tq:=λ{a b c}=>(@List.mem_singleton a b c).2
def Oj:=λ{a b c}=>(@List.append_eq_nil_iff a b c).1
def Ol:=@List.length_set
def OZ:=@List.drop_append_of_le_length
def MT:=@List.take_append_of_le_length
def MV:=@Or.imp
def LG:=@Nat.le_succ
def Jl:=@Nat.beq_eq
def E7:=λ{a b c}=>(@List.all_eq_true a b c).1
def BD:=@List.getElem?_append_right
def BH:=@Nat.mul_one
def dK:=@Go.DataW.trod_int
end Go.Sl
namespace Go.Sl
open Go.ChangeShapes Go.WideShapes Go.ChangeAt Go.RowKit
def Hw(W:World):YD:=λa b=>W.cell? ⟨a,b,none⟩
structure vi(H:Type)where
 b:DataW H->Nat
 all:List (DataW H)->Nat
 one:∀d,1<=b d
 nil:0<=all []cons:∀d r,all (d::r)=b d+all r
 slice:∀e s,all e+1<=b (.slice e s)agg:∀ps,all ps<=b (.agg ps)
section
variable{α β:Type}
def EH(f:α->Nat):List α->Nat|[]=>0|x::r=>f x+EH f r
def RR(P:Program)(T:TypeId)(R:ZM α)(wf:α->Prop)(sz:α->Nat):Prop:=P.cellsOf T=R.n/\∀{a:Type}{h:TypeId×Value->a}{d:World}{g:Nat}{k:Nat->Bool}{j:Bool}{i:Nat}{c:List Value}{e:DataW a×List MemPlace},DataW.trod h P d g k j i T c=some e->∃b:α,R.rel (Hw d) c b/\wf b/\∀f:vi a,sz b<=f.b e.1
def ET(n:Int):Prop:=-9223372036854775808<=n/\n<9223372036854775808
def dm(_:α):Prop:=True
def wc(p:α->Prop)(l:List α):Prop:=l.length<=9223372036854775807/\∀a∈l,p a
def EU(p:α->Prop)(q:β->Prop)(x:α×β):Prop:=p x.1/\q x.2
def If(_:α):Nat:=1
def Ge(f:α->Nat)(l:List α):Nat:=EH f l+1
def Gg(f:α->Nat)(g:β->Nat)(x:α×β):Nat:=f x.1+g x.2
theorem xp{P}{T}(h:P.underlying T=some (.int .i64))(b:P.cellsOf T=1):RR P T i64 ET If:=by refine⟨b,λ{f j n g m l k i o}d=>?_⟩;obtain⟨e,rfl,rfl,c⟩:=dK h d;refine⟨e,rfl,?_,λa=>a.one _⟩;simp[Lit.wf,IntKind.min,IntKind.max,IntKind.bits,IntKind.signed]at c;unfold ET;omega
theorem ZeY{P}{T}{k}{b}(h:P.underlying T=some (.int k))(e:P.cellsOf T=1)(f:k.bits=b)(hs:k.signed=false):RR P T (un k b) dm If:=by
 refine⟨e,λ{j n r l q p o m s}i=>?_⟩;obtain⟨a,rfl,rfl,c⟩:=dK h i;simp[Lit.wf,IntKind.min,IntKind.max,hs,SW,VZ,Yv,BN]at c;have g:(BitVec.ofInt b a).toNat=a:=by rw[<-NH f hs];unfold IntKind.wrap;simp[hs,oY,SW,VZ];rw[Int.emod_eq_of_lt c.1 Y]
 exact⟨BitVec.ofInt b a,by show[Value.int k a]=[Value.int k _];rw[g],trivial,λd=>d.one _⟩
theorem ZeS{P}{e}{R:ZM α}{wf}{sz}(h:RR P e R wf sz){H}{enc}{w}{base}{sp}{g}{c}:∀{xs:List (DataW H×List MemPlace)}{cs},cs.length=xs.length*R.n->(∀i,i<xs.length->DataW.trod enc P w base sp g c e ((cs.drop (i*R.n)).take R.n)=xs[i]?)->∃ys,ys.length=xs.length/\YT R (Hw w) cs ys/\(∀y∈ys,wf y)/\∀B:vi H,EH sz ys<=B.all (xs.map (·.1))
 |[],cs,a,_=>⟨[],rfl,by simpa[YT]using a,Zb,λB=>by simp[EH]⟩|x::xs,cs,a,hx=>by
  have b:=hx 0 Zb;simp at b;obtain⟨y,j,n,f⟩:=h.2 b;simp only[WA,Ta,Om]at a;obtain⟨ys,l,k,o,d⟩:=ZeS h (xs:=xs) (cs:=cs.drop R.n) Zm λi m=>by have:=hx (i+1) WI;rw[UV];simp at this;rw[<-this,Ta,Om,wK R.n]
  refine⟨y::ys,by simp[l],⟨cs.take R.n,cs.drop R.n,Zb,j,k⟩,Zm,λB=>?_⟩;·rw[XF,B.cons];have:=f B;have:=d B;simp only[EH];omega
inductive DC(P:Program):List Field->Nat->{α:Type}->ZM α->(α->Prop)->(α->Nat)->Prop|one{α:Type}{f:Field}{off:Nat}{R:ZM α}{wf:α->Prop}{sz:α->Nat}:f.offset=off->RR P f.type R wf sz->DC P [f] off R wf sz|cons{α β:Type}{f:Field}{fs:List Field}{off:Nat}{R:ZM α}{S:ZM β}{wf:α->Prop}{sz:α->Nat}{wf':β->Prop}{sz':β->Nat}:f.offset=off->RR P f.type R wf sz->DC P fs (off+R.n) S wf' sz'->DC P (f::fs) off (prod R S) (EU wf wf') (Gg sz sz')
theorem DC.run{P}{H}{enc}{w}{base}{sp}{o}{m}{cs:List Value}{fs}{off}{R}{wf}{sz}(h:DC P fs off R wf sz):∀{xs:List (DataW H×List MemPlace)},cs.length=off+R.n->xs.length=fs.length->(∀(i:Nat)(f),fs[i]?=some f->DataW.trod enc P w base sp o m f.type ((cs.drop f.offset).take (P.cellsOf f.type))=xs[i]?)->∃y:α,R.rel (Hw w) (cs.drop off) y/\wf y/\∀B:vi H,sz y<=B.all (xs.map (·.1)):=by induction h with
 |@one α f off R wf sz k b=>intro xs l c d;have a:=d 0 f rfl;rw[k,b.1,VT (by rw[Wn];omega)]at a;match xs,c with|[x],_=>obtain⟨y,e,g,j⟩:=b.2 a;exact⟨y,e,g,λB=>by have:=j B;simp only[XF,O1,B.cons];omega⟩
 |@cons α β f fs off R S wf sz z v k b _ q=>intro xs l c d;have a:=d 0 f rfl;rw[k,b.1]at a;match xs,c with
  |x::xs,c=>
   obtain⟨y,e,g,j⟩:=b.2 a;obtain⟨u,r,s,t⟩:=q (xs:=xs) (by rw[l];show off+(R.n+S.n)=_;omega) (by simpa using c) λi n p=>by have:=d (i+1) n (by simpa using p);simpa using this
   refine⟨(y,u),⟨_,_,by rw[<-UV,Sb],e,r⟩,⟨g,s⟩,λB=>?_⟩;·have:=j B;have:=t B;simp only[XF,B.cons,Gg];omega
theorem Zrg{P}{T}{fs}{R:ZM α}{wf}{sz}(g:P.underlying T=some (.struct fs))(e:P.cellsOf T=R.n)(h:DC P fs.toList 0 R wf sz):RR P T R wf sz:=by refine⟨e,λ{l p x m w s q o y}i=>?_⟩;obtain⟨z,n,rfl,rfl,u,v,f⟩:=DataW.trod_struct g i;have⟨k,r,c,d⟩:=h.run Y Y λj b t=>f j b Zm;exact⟨k,Zm,c,λa=>WX (d a) (a.agg _)⟩
theorem pt{P}{T e}{R:ZM α}{wf}{sz}(hu:P.underlying T=some (.slice e))(N:P.cellsOf T=1)(W:0<R.n)(h:RR P e R wf sz):RR P T (sl R) (wc wf) (Ge sz):=by
 refine⟨N,λ{z B l q K D x4 cs x8}hx=>?_⟩;rcases DataW.trod_slice hu hx with⟨rfl,rfl⟩|⟨p,x6,A,L,J,n,rfl,rfl,rfl,hb,U,O,rfl,m,_,_⟩;·exact⟨[],⟨none,0,rfl,YG _,.inl rfl⟩,⟨Zb,λx3 x=>by cases x⟩,λf=>by have:=f.one (.nil:DataW z);simp[Ge,EH];omega⟩
 ·have x5:A<=9223372036854775807:=by unfold maxLen at O;omega
  cases L with|nil=>exact⟨[],⟨_,_,rfl,Zb,.inl rfl⟩,⟨Zb,λx3 x=>by cases x⟩,λf=>by have:=f.slice ([]:List (DataW z)) (J.map (·.1));have:=f.nil;simp only[Ge,EH,O1];omega⟩|cons j i=>
   have C:∀a,a<(j::i).length->∃g,l.cells? q (p.add (a*R.n)) R.n=some g/\DataW.trod B P l q K D n e g=(j::i)[a]?:=by intro a G;have:=m a G;rw[h.1]at this;rw[VB G]at this⊢;obtain⟨g,k,r⟩:=Dg this;exact⟨g,k,r⟩
   have H:p.spot=none:=by
    obtain⟨g,k,_⟩:=C 0 Zb;obtain⟨_,t,F⟩:=World.cells?_some k;have:=F 0 W;rw[VB Y]at this;unfold World.cell? at this;simp only[Nat.zero_mul,Addr.add,Sc]at this;split at this
    ·split at this;·cases this
     ·rename_i Z;simpa using Z
    ·cases this
   obtain⟨b,I,x7⟩:=p;simp only at H;subst H;have x2:∀(c:Nat),c<=(j::i).length->∃d:List Value,d.length=c*R.n/\At (Hw l) b I d/\∀a,a<c->DataW.trod B P l q K D n e ((d.drop (a*R.n)).take R.n)=(j::i)[a]?:=by intro c;induction c with|zero=>exactλ_=>⟨[],Zb,λo v e=>by simp at e,λa h=>Y⟩|succ c ih=>
     intro F;obtain⟨d,w,s,u⟩:=ih Y;obtain⟨g,k,r⟩:=C c Y;obtain⟨_,t,S⟩:=World.cells?_some k;refine⟨d++g,by rw[Yw,w,t,Ta,Om],?_,?_⟩
     ·intro o v e;by_cases Q:o<d.length;·rw[Uy Q]at e;exact s o v e
      ·rw[BD Y]at e;have:=S (o-d.length) (by rw[<-t];exact(Wm e).1);rw[e,SE,SE]at this;show l.cell? _=_;rw[<-this];congr 2;omega
     ·intro a m;by_cases E:a<c;·rw[<-u a E];have V:(a+1)*R.n<=c*R.n:=RM _ E;rw[Ta,Om]at V;rw[OZ Y,MT (by rw[Wn];omega)]
      ·have:a=c:=Y;subst this;rw[OZ Y,Re Y,UW,VT Y];exact r
   obtain⟨d,w,s,u⟩:=x2 _ (YG _);obtain⟨ys,y,X,x1,M⟩:=ZeS h (xs:=j::i) (cs:=d) w λa m=>u a m;refine⟨ys,⟨_,A,by rw[y],by rw[y];exact U,.inr ⟨b,I,d,rfl,X,s⟩⟩,⟨by rw[y];omega,x1⟩,λf=>?_⟩;have:=M f;have:=f.slice ((j::i).map (·.1)) (J.map (·.1));simp only[Ge];show _<=f.b (.slice _ _);omega
theorem ZhR{P}{T}{R}{wf}{sz}(h:RR P T R wf sz)(a:∀{w}{base}{v},Value.okWide P w .any base T v->(R.ag=true->∃cs,v=.agg cs)/\(R.ag=false->v.oneCell'=true)){H}{enc}{w}{base b}{sp}{f}{v}{d}{ps}(hv:Value.okWide P w .any b T v)(e:DataW.Trod enc P w base sp f T v d ps):∃y:α,(R.slot y).p (Hw w) v/\wf y/\∀B:vi H,sz y<=B.b d:=by have⟨k,g⟩:=e;have⟨y,i,j,c⟩:=h.2 g;refine⟨y,?_,j,c⟩;show R.is _ v y;unfold ZM.is;cases hb:R.ag with|true=>obtain⟨cs,rfl⟩:=(a hv).1 hb;exact⟨cs.toList,rfl,i⟩|false=>have:=lD ((a hv).2 hb);grind
theorem ZhE{P}{T e}{R:ZM α}(h:P.underlying T=some (.slice e))(a:R.ag=false){w}{base}{v}(hv:Value.okWide P w .any base T v):(R.ag=true->∃cs,v=.agg cs)/\(R.ag=false->v.oneCell'=true):=by obtain⟨_,_,_,rfl⟩:=okWide_slice h hv;exact⟨Zm,λ_=>rfl⟩
mutual
def Kb{H:Type}:DataW H->List Value|.lit (.int k n)=>[.int k n]|.agg ps=>IZ ps|_=>[]
def IZ{H:Type}:List (DataW H)->List Value|[]=>[]|d::r=>Kb d++IZ r
end
def FL(P:Program)(T n:Nat):Prop:=P.cellsOf T=n/\∀{a:Type}{e:TypeId×Value->a}{i:World}{d:Nat}{h:Nat->Bool}{g:Bool}{f:Nat}{b:List Value}{c:DataW a×List MemPlace},DataW.trod e P i d h g f T b=some c->b=Kb c.1
theorem FF{P}{T:TypeId}{k}(h:P.underlying T=some (.int k))(a:P.cellsOf T=1):FL P T 1:=by refine⟨a,λ{c f n d m i g e o}b=>?_⟩;obtain⟨l,rfl,rfl,j⟩:=dK h b;rfl
theorem ZaN{P}{e n}(h:FL P e n){H}{enc}{w}{base}{sp}{f}{c}:∀{xs:List (DataW H×List MemPlace)}{cs},cs.length=xs.length*n->(∀i,i<xs.length->DataW.trod enc P w base sp f c e ((cs.drop (i*n)).take n)=xs[i]?)->cs=IZ (xs.map (·.1))
 |[],cs,a,_=>by simpa[IZ]using a|x::xs,cs,a,hx=>by
  have b:=hx 0 Zb;simp at b;simp[WA,Ta,Om]at a;have d:=ZaN h (xs:=xs) (cs:=cs.drop n) Zm λi g=>by have:=hx (i+1) Zm;rw[UV];simp at this;rw[<-this,Ta,Om,wK n]
  rw[XF,IZ,<-h.2 b,<-d,Sb]
theorem zj{P}{T e n k}(l:P.underlying T=some (.array n e))(c:P.cellsOf T=n*k)(h:FL P e k):FL P T (n*k):=by refine⟨c,λ{m r w p v s b q x}a=>?_⟩;cases b with|zero=>simp[DataW.trod]at a|succ b=>
  simp only[DataW.trod,l]at a;split at a
  ·rename_i j;obtain⟨y,f,rfl⟩:=Option.map_eq_some_iff.1 a;have u:=by simpa using Go.Lib.mapM_length f
   rw[c]at j;exact ZaN h Zm λg t=>by have⟨o,i,d⟩:=Go.Lib.mapM_at f g g Zm;rw[h.1]at d;rw[d,i]
  ·grind
inductive Dv(P:Program):List Field->Nat->Nat->Prop|nil{off:Nat}:Dv P [] off off|cons{f:Field}{fs:List Field}{off n top:Nat}:f.offset=off->FL P f.type n->Dv P fs (off+n) top->Dv P (f::fs) off top
theorem Dv.run{P}{H}{enc}{w}{base}{sp}{m}{j}{cs:List Value}{fs}{off c}(h:Dv P fs off c):∀{xs:List (DataW H×List MemPlace)},cs.length=c->xs.length=fs.length->(∀(i:Nat)(f),fs[i]?=some f->DataW.trod enc P w base sp m j f.type ((cs.drop f.offset).take (P.cellsOf f.type))=xs[i]?)->cs.drop off=IZ (xs.map (·.1)):=by induction h with
 |nil=>intro xs b a _;cases xs with|nil=>simp[IZ,Re (wO b)]|cons=>grind
 |@cons f fs off n c o e _ p=>intro xs b a g;have d:=g 0 f rfl;rw[o,e.1]at d;match xs,a with
  |x::xs,a=>
   have l:=p b (by simpa using a) λi k q=>by have:=g (i+1) k Zm;simpa using this
   rw[XF,IZ,<-e.2 d,<-l,<-UV,Sb]
theorem ZjR{P}{T n:Nat}{fs}(e:P.underlying T=some (.struct fs))(a:P.cellsOf T=n)(h:Dv P fs.toList 0 n):FL P T n:=by refine⟨a,λ{i l t j s o m k u}f=>?_⟩;obtain⟨v,r,rfl,rfl,d,q,c⟩:=DataW.trod_struct e f;have:=h.run (by rw[d,a]) Zm λg b p=>c g b Zm;simpa[Kb]using this
theorem zr{P}{W}{nm}{d}{r}{ps}(h:DataW.LaidVars P W ((nm,d)::r) ps){g T n:Nat}(o:P.globalNamed nm=some g)(l:P.globals[g]?.map (·.type)=some T)(j:FL P T n){R}{x:α}(k:∀m,R.rel m (Kb d) x):bg g R x (Hw W)/\∃q,DataW.LaidVars P W r q:=by have⟨u,y,s,t,w,q,b,c,e,f,i,_⟩:=h;obtain rfl:=XD (o.symm.trans b);obtain rfl:=XD (l.symm.trans c);refine⟨⟨Kb d,k _,λp v a=>?_⟩,q,i⟩;rw[<-j.2 f]at a;show W.cell? _=some v;rw[TN,World.var?_cell b e p,<-a];simp
theorem Zh3{W a}{m e}{b}(h:ZG W a m e [] b):Below W.heap.size W a:=⟨h.os,h.tape,h.output,h.size,λd c=>(h.Wa d c Zb).1⟩
theorem Znf{H}{enc}{P}{f}{s:ChangeSpec}{D R V N}{W h}{args}{v}{ds}{E}(x:DataW.Whole enc P f.params.toList s.vars D W args.toList ds [] E)(A:s.vars=[])(o:Below W.heap.size W h)(K:laidOutB P=true)(x3:(f.params.toList.all λt=>P.readableRec t&&Nat.blt t P.types.size)=true)(L:∀(b)(sp)(X),DataW.TrodAll enc P h b sp X f.resultTypes.toList (v.resultList f.resultTypes.size) (s.fn H (ds++[])).results [])(J:(s.fn H (ds++[])).args=ds)(M:(s.fn H (ds++[])).vars=[])(x1:∀(j:Nat)(t)(r),f.resultTypes[j]?=some t->(v.resultList f.resultTypes.size)[j]?=some r->Value.okWide P h .any 0 t r):s.post enc P f D R V N W args v h:=by
 have T:=x;have y:∀a∈E,a.block<W.heap.size:=λa d=>x.lt a d;obtain⟨p,pv,F,G,rfl,hz,hn⟩:=x;rw[A]at G;obtain rfl:pv=[]:=G;have x4:∀(e:List TypeId)(m:List Value)(i:List (DataW H))(a:List MemPlace),(∀t∈e,P.readableRec t=true/\t<P.types.size)->(∀c∈a,c.block<W.heap.size)->DataW.TrodAll enc P W 0 (λ_=>true) true e m i a->DataW.TrodAll enc P h 0 (λb=>decide (b<W.heap.size)) true e m i a:=by intro e;induction e with|nil=>intro m i a _ _ k;obtain⟨rfl,rfl,rfl⟩:=trodAll_nil k;rfl|cons t e B=>intro m i a l d k;obtain⟨v,x7,O,Q,q,b,rfl,rfl,rfl,u,w⟩:=trodAll_cons k;exact⟨q,b,Below.trod K (l t Zb).1 (l t Zb).2 u o λc g=>d c (by simp[g]),B _ _ _ (λC z=>l C (by simp[z])) (λc g=>d c (by simp[g])) w,rfl⟩
 have I:∀t∈f.params.toList,P.readableRec t=true/\t<P.types.size:=by intro t l;have:=E7 x3 t l;simpa[Uk]using this
 have Z:∀b n,b<W.heap.size->h.frozen? ⟨b,n,none⟩=W.frozen? ⟨b,n,none⟩:=by intro b n k;unfold World.frozen?;simp only[o.block b k]
 have x0:W.keptBut h λ_=>False:=by refine⟨o.os,o.output,λx6 hi=>?_⟩;rw[o.block x6 hi];split<;>simp_all
 refine⟨ds,[],p++[],[],p,[],T,L _ _ _,by rw[J];exact x4 _ _ _ _ I (λc g=>y c (by simp[g])) F,by rw[A,M];rfl,World.keptBut_mono (λa d=>d.elim) x0,λ_=>?_⟩;have S:DataW.TrodAll enc P h 0 (λ_=>true) true f.params.toList args.toList ds p:=by
  have x5:∀(e:List TypeId)(m:List Value)(i:List (DataW H))(a:List MemPlace),(∀t∈e,P.readableRec t=true/\t<P.types.size)->(∀c∈a,c.block<W.heap.size)->DataW.TrodAll enc P W 0 (λ_=>true) true e m i a->DataW.TrodAll enc P h 0 (λ_=>true) true e m i a:=by intro e;induction e with|nil=>intro m i a _ _ k;obtain⟨rfl,rfl,rfl⟩:=trodAll_nil k;rfl|cons t e B=>intro m i a l d k;obtain⟨v,x7,O,Q,q,b,rfl,rfl,rfl,u,w⟩:=trodAll_cons k;exact⟨q,b,WideElems.Trod_stays K (l t Zb).1 (l t Zb).2 u (λc g=>o.same (d c (by simp[g]))) λc g=>rfl,B _ _ _ (λC z=>l C (by simp[z])) (λc g=>d c (by simp[g])) w,rfl⟩
  exact x5 _ _ _ _ I (λc g=>y c (by simp[g])) F
 refine⟨x1,(s.fn H (ds++[])).results++(s.fn H (ds++[])).args,(s.fn H (ds++[])).vars,[]++p++[],⟨[]++p,[],trodAll_append (by rw[J];exact S) (L _ _ _),by rw[A,M];rfl,rfl,?_,?_⟩,?_⟩
 ·intro b n d;have x2:MemPlace.cell b n∈p++[]:=by simpa using d
  rw[Z b n (y _ x2)];exact hz b n (by simpa using d)
 ·intro U;have:=hn U;simpa using this
 ·intro a d _;simpa using d
end
end Go.Sl
noncomputable section
namespace Go.R
open Go.Sl
theorem Jc:∃w:(∀α β:Type,Option α->(α->Option β)->Option β)×(∀σ ρ,(σ->Option (LR σ ρ))->σ->Option (σ⊕ρ))×(∀σ,(σ->Option (LR σ Empty))->σ->Option σ)×(∀α β:Type,Option α->Option β->(α->Option β)->Option β)×∀α:Type,Bool->α->α->α,w=(λ_ _ o f=>Option.bind o f,λ_ _ f s=>Pg f FU s,λ_ f s=>Ll f FU s,λ_ _ o n s=>match o with|none=>n|some x=>s x,λ_ b x y=>if b=true then x else y):=⟨_,rfl⟩
def O{α β:Type}(o:Option α)(f:α->Option β):Option β:=Jc.choose.1 α β o f
theorem vY{α β}(o)(f:α->Option β):O o f=Option.bind o f:=by unfold O;rw[Jc.choose_spec]
def XO{σ ρ:Type}(f:σ->Option (LR σ ρ))(s:σ):Option (σ⊕ρ):=Jc.choose.2.1 σ ρ f s
theorem ZbG{σ ρ}(f:σ->Option (LR σ ρ))(s):XO f s=Pg f FU s:=by unfold XO;rw[Jc.choose_spec]
def YK{σ:Type}(f:σ->Option (LR σ Empty))(s:σ):Option σ:=Jc.choose.2.2.1 σ f s
theorem jo{σ}(f)(s:σ):YK f s=Ll f FU s:=by unfold YK;rw[Jc.choose_spec]
def Yq{α β:Type}(o:Option α)(n:Option β)(s:α->Option β):Option β:=Jc.choose.2.2.2.1 α β o n s
def Zc{α:Type}(b:Bool)(x y:α):α:=Jc.choose.2.2.2.2 α b x y
theorem Cn{α}(b)(x y:α):Zc b x y=if b=true then x else y:=by unfold Zc;rw[Jc.choose_spec]
theorem KJ{α β}(o:Option α)(n:Option β)(s):Yq o n s=match o with|none=>n|some a=>s a:=by unfold Yq;rw[Jc.choose_spec]
def XY{σ ρ:Type}(o:Option (σ⊕ρ))(f:σ->Option ρ):Option ρ:=O o λo=>match o with|.inl y=>f y|.inr r=>some r
theorem TF:∃w:(Int->Int)×(Int->Int->Int)×(Int->Int->Int)×(Int->Int->Int)×(Int->Int->Int)×(Int->Int->Int)×(Int->Int->Int)×(Int->Int->Int)×(Int->Int->Int)×(Int->Int->Int)×(Int->Int->Int)×(Int->Int->Int)×(Int->Int->Int),w=(λp=>VY p,λp q=>p+q,λp q=>p-q,λp q=>p*q,λp q=>p.tdiv q,λp q=>p.tmod q,λp q=>JS p q,λp q=>ja p q,λp q=>tZ p q,λp q=>JU p q,λp q=>FP p q,λp q=>max p q,λp q=>min p q):=⟨_,rfl⟩
def Zk(p:Int):Int:=TF.choose.1 p
theorem OV(p):Zk p=VY p:=by unfold Zk;rw[TF.choose_spec]
def Zu(p q:Int):Int:=TF.choose.2.1 p q
theorem bZ(p q):Zu p q=p+q:=by unfold Zu;rw[TF.choose_spec]
def ZU(p q:Int):Int:=TF.choose.2.2.1 p q
theorem EG(p q):ZU p q=p-q:=by unfold ZU;rw[TF.choose_spec]
def Vq(p q:Int):Int:=TF.choose.2.2.2.1 p q
theorem Zb5(p q):Vq p q=p*q:=by unfold Vq;rw[TF.choose_spec]
def TX(p q:Int):Int:=TF.choose.2.2.2.2.1 p q
theorem ki(p q):TX p q=p.tdiv q:=by unfold TX;rw[TF.choose_spec]
def Pk(p q:Int):Int:=TF.choose.2.2.2.2.2.1 p q
theorem ZbX(p q):Pk p q=p.tmod q:=by unfold Pk;rw[TF.choose_spec]
def Sv(p q:Int):Int:=TF.choose.2.2.2.2.2.2.1 p q
theorem vN(p q):Sv p q=JS p q:=by unfold Sv;rw[TF.choose_spec]
def HJ(p q:Int):Int:=TF.choose.2.2.2.2.2.2.2.1 p q
theorem rX(p q):HJ p q=ja p q:=by unfold HJ;rw[TF.choose_spec]
def wg(p q:Int):Int:=TF.choose.2.2.2.2.2.2.2.2.1 p q
theorem Zf9(p q):wg p q=tZ p q:=by unfold wg;rw[TF.choose_spec]
def Sm(p q:Int):Int:=TF.choose.2.2.2.2.2.2.2.2.2.1 p q
theorem xD(p q):Sm p q=JU p q:=by unfold Sm;rw[TF.choose_spec]
def Qh(p q:Int):Int:=TF.choose.2.2.2.2.2.2.2.2.2.2.1 p q
theorem Zfn(p q):Qh p q=FP p q:=by unfold Qh;rw[TF.choose_spec]
def Uo(p q:Int):Int:=TF.choose.2.2.2.2.2.2.2.2.2.2.2.1 p q
theorem ZbO(p q):Uo p q=max p q:=by unfold Uo;rw[TF.choose_spec]
def Tj(p q:Int):Int:=TF.choose.2.2.2.2.2.2.2.2.2.2.2.2 p q
theorem ZbT(p q):Tj p q=min p q:=by unfold Tj;rw[TF.choose_spec]
theorem WU{α}{x y:α}:Zc true x y=x:=by rw[Cn];rfl
theorem Wi{α}{x y:α}:Zc false x y=y:=by rw[Cn];rfl
theorem gE{α}{c}[Decidable c]{x}{r:α}(h:Zc (decide c) x none=some r):c/\x=some r:=by rw[Cn]at h;grind
theorem U3{α β}{o:Option α}{f}{r:β}(h:O o f=some r):∃x,o=some x/\f x=some r:=Dg (vY o f▸h)
def FY{α β:Type}(eq:α->α->Bool)(x:α):List (α×β)->Option β|[]=>none|(a,y)::l=>if eq x a=true then some y else FY eq x l
def HA{α β:Type}(eq:α->α->Bool)(x:α)(y:β):List (α×β)->List (α×β)|[]=>[(x,y)]|(a,z)::l=>if eq x a=true then(x,y)::l else(a,z)::HA eq x y l
def XM{α:Type}(i:Int)(x:Option α):Option α:=Zc (decide (0<=i)) x none
def ZZ{α:Type}(i n:Int)(x:Option α):Option α:=Zc (decide (0<=i/\i<n)) x none
def Wj{α:Type}(l h m:Int)(x:Option α):Option α:=Zc (decide (0<=l/\l<=h/\h<=m/\l<m)) x none
def JT{α:Type}(h m:Int)(x:Option α):Option α:=Zc (decide (0<=h/\h<=m)) x none
def Co{α:Type}(h m n:Int)(x:Option α):Option α:=Zc (decide (h<=m/\m<=n)) x none
def Yp{α:Type}(m n:Nat)(x:Option α):Option α:=Zc (decide (m+n<=AP)) x none
def Pe{α:Type}(l c:Int)(x:Option α):Option α:=Zc (decide (0<=l/\l<=c/\c<=(4294967296:Int))) x none
def S8{α:Type}(q:Int)(x:Option α):Option α:=Zc (decide (q≠0)) x none
def Kn{α:Type}(q:Nat)(x:Option α):Option α:=Zc (decide (q≠0)) x none
def kV{α:Type}(l h:Int)(x:Option α):Option α:=Zc (decide (l=0/\h=0)) x none
@[reducible] def Cp{α β:Type}(l:List α)(x:Option β):Option β:=match l with|[]=>none|_::_=>x
@[reducible] def yk{α:Type}(l:List α):Bool:=match l with|[]=>true|_::_=>false
@[reducible] def ZA{α:Type}(l:List α)(i:Int):Option α:=QD l i
@[reducible] def YV{α:Type}{n:Nat}(v:Vector α n)(i:Int):Option α:=Bs v i
@[reducible] def SN{α:Type}(l:List α)(i j:Int):Option (List α):=sM l i j
@[reducible] def MD{α:Type}(n:Nat)(l:List α):Option (Vector α n):=eI n l
@[reducible] def Zz(p q:Int):Bool:=decide (p<q)
@[reducible] def YH(p q:Int):Bool:=decide (p<=q)
@[reducible] def Wt{w:Nat}(p q:BitVec w):BitVec w:=p+q
@[reducible] def Ie{w:Nat}(p q:BitVec w):BitVec w:=p-q
@[reducible] def HB{w:Nat}(p q:BitVec w):BitVec w:=p*q
@[reducible] def uT{w:Nat}(p q:BitVec w):BitVec w:=p/q
@[reducible] def KA{w:Nat}(p q:BitVec w):BitVec w:=p%q
@[reducible] def SH{w:Nat}(p q:BitVec w):BitVec w:=p&&&q
@[reducible] def P4{w:Nat}(p q:BitVec w):BitVec w:=p|||q
@[reducible] def U9{w:Nat}(p q:BitVec w):BitVec w:=p^^^q
@[reducible] def Zcd{w:Nat}(p:BitVec w):BitVec w:= ~~~p
@[reducible] def rF{w:Nat}(p:BitVec w):BitVec w:=-p
@[reducible] def EF{w:Nat}(p:BitVec w)(q:Nat):BitVec w:=p<<<q
@[reducible] def Vm{w:Nat}(p:BitVec w)(q:Nat):BitVec w:=p>>>q
@[reducible] def PY{w:Nat}(p q:BitVec w):Bool:=decide (p<q)
@[reducible] def PT{w:Nat}(p q:BitVec w):Bool:=decide (p<=q)
@[reducible] def Z6(w:Nat)(p:Int):BitVec w:=BitVec.ofInt w p
@[reducible] def W6{v:Nat}(w:Nat)(p:BitVec v):BitVec w:=p.setWidth w
@[reducible] def Z4{w:Nat}(p:BitVec w):Nat:=p.toNat
@[reducible] def Ze(n:Nat):Int:=(n:Int)
@[reducible] def Yf(i:Int):Nat:=i.toNat
@[reducible] def Hb{α:Type}(h:DecidableEq α)(p q:α):Bool:=@decide (p=q) (h p q)
@[reducible] def Zy(b:Bool):Bool:=!b
@[reducible] def I9(p q:Bool):Bool:=p==q
@[reducible] def aM{α:Type}(c:Bool)(x y:α):α:=bif c then x else y
@[reducible] def UE{α:Type}(o:Option α):Bool:=o.isSome
@[reducible] def zF{α:Type}(o:Option α):Bool:=o.isNone
@[reducible] def U5{α:Type}(o:Option α)(x:α):α:=o.getD x
@[reducible] def Zf{α:Type}(l:List α):Nat:=l.length
@[reducible] def Z9{α:Type}(l m:List α):List α:=l++m
@[reducible] def YC{α:Type}(n:Nat)(l:List α):List α:=l.take n
@[reducible] def Xc{α:Type}(n:Nat)(l:List α):List α:=l.drop n
@[reducible] def Y3{α:Type}(l:List α)(i:Nat)(x:α):List α:=l.set i x
@[reducible] def SQ{α:Type}(n:Nat)(x:α):List α:=List.replicate n x
@[reducible] def YA{α:Type}{n:Nat}(v:Vector α n)(i:Nat)(x:α):Vector α n:=v.setIfInBounds i x
@[reducible] def Zn{α:Type}(n:Nat)(x:α):Vector α n:=Vector.replicate n x
@[reducible] def Xw{α:Type}{n:Nat}(v:Vector α n):List α:=v.toList
@[reducible] def K8{α:Type}{n:Nat}(v:Vector α n)(lo:Nat)(l:List α):Vector α n:=Bt v lo l
@[reducible] def Zga(w:Nat):BitVec w:=0#w
@[reducible] def rq(m n:Nat):Nat:=min m n
@[reducible] def NB(p q:Int):Nat:=(p-q).toNat
@[reducible] def Kw{α β:Type}(h:DecidableEq α)(x:α)(l:List (α×β)):Option β:=FY (λa b=>@decide (a=b) (h a b)) x l
@[reducible] def jQ{α β:Type}(h:DecidableEq α)(x:α)(y:β)(l:List (α×β)):List (α×β):=HA (λa b=>@decide (a=b) (h a b)) x y l
end Go.R
end
namespace Go.R
open Go.Sl
inductive Ty where|int|un(k:IntKind)(w:Nat)|bool|str|vec(n:Nat)(t:Ty)|pair(a b:Ty)|only(t:Ty)|sl(t:Ty)|nz(t:Ty)|ptr(t:Ty)|YM(f:Nat)(t:Ty)|hole(j:Nat)|Ue(j:Nat)(p:List Nat)|fn(f:FuncId)(a c:Ty)|Tk|V4|JY|yj|bit(b:Bool)|own(t:Ty)|opt(t:Ty)|full(t:Ty)|YO(t:Ty)|map(k v:Ty)|YL(f:Nat)(t:Ty)|nl|cons(a b:Ty)deriving DecidableEq
namespace Ty
@[reducible] def den:Ty->Type|int=>Int|un _ w=>BitVec w|bool=>Bool|str=>List (BitVec 8)|vec f a=>Vector a.den f|pair b d=>b.den×d.den|only a=>a.den|sl a=>List a.den|nz a=>List a.den|ptr a=>Option a.den|YM _ _=>Option Nat|hole _=>Unit|Ue _ _=>Unit|fn _ b c=>b.den×c.den|Tk=>Unit|V4=>Unit|JY=>Unit|yj=>Unit|bit _=>Unit|own a=>a.den|opt a=>Option a.den|full a=>List a.den|YO a=>List a.den|map e v=>List (e.den×v.den)|YL _ a=>List a.den|nl=>Unit|cons b d=>b.den×d.den
def n:Ty->Nat|vec d c=>d*c.n|pair a b=>a.n+b.n|only c=>c.n|YL _ _=>0|nl=>0|cons a b=>a.n+b.n|_=>1
def ag:Ty->Bool|vec _ _=>true|pair _ _=>true|only _=>true|_=>false
def plain:Ty->Bool|own _=>false|opt _=>false|full _=>false|YO _=>false|map _ _=>false|YL _ _=>false|vec _ a=>a.plain|pair b d=>b.plain&&d.plain|only a=>a.plain|sl a=>a.plain|nz a=>a.plain|ptr a=>a.plain|fn _ b c=>b.plain&&c.plain|cons b d=>b.plain&&d.plain|_=>true
def nh:Ty->Bool|hole _=>false|Ue _ _=>false|vec _ a=>a.nh|pair b d=>b.nh&&d.nh|only a=>a.nh|sl a=>a.nh|nz a=>a.nh|ptr a=>a.nh|YM _ a=>a.nh|fn _ b c=>b.nh&&c.nh|own a=>a.nh|opt a=>a.nh|full a=>a.nh|YO a=>a.nh|map b d=>b.nh&&d.nh|YL _ a=>a.nh|cons b d=>b.nh&&d.nh|_=>true
def beq:Ty->Ty->Bool|int,int=>true|un j n,un k' w'=>decide (j=k')&&Nat.beq n w'|bool,bool=>true|str,str=>true|vec k a,vec n' b=>Nat.beq k n'&&beq a b|pair c d,pair a' b'=>beq c a'&&beq d b'|only a,only b=>beq a b|sl a,sl b=>beq a b|nz a,nz b=>beq a b|ptr a,ptr b=>beq a b|YM e a,YM f b=>Nat.beq e f&&beq a b|hole g,hole h=>Nat.beq g h|Ue g l,Ue h m=>Nat.beq g h&&decide (l=m)|fn e c i,fn f a' c'=>Nat.beq e f&&(beq c a'&&beq i c')|Tk,Tk=>true|V4,V4=>true|JY,JY=>true|yj,yj=>true|bit d,bit b'=>d==b'|own a,own b=>beq a b|opt a,opt b=>beq a b|full a,full b=>beq a b|YO a,YO b=>beq a b|map c d,map a' b'=>beq c a'&&beq d b'|YL e a,YL f b=>Nat.beq e f&&beq a b|nl,nl=>true|cons c d,cons a' b'=>beq c a'&&beq d b'|_,_=>false
theorem eq_of_beq{a b}(h:beq a b=true):a=b:=by induction a generalizing b<;>cases b<;>simp[beq,Yv,BN,SW,beq_iff_eq,Jl]at h<;>first|rfl|(rfl)|grind|simp|simp|grind|grind
end Ty
end Go.R
noncomputable section
namespace Go.R
open Go.Sl
structure TV where
 t:Ty
 x:t.den
inductive PS where|ix(i:Int)(sz m:Nat)|a|b(o:Nat)|o|m(i:Nat)
def KM:List Nat->List PS|[]=>[]|0::l=>.a::KM l|(k+1)::l=>.b k::KM l
def F5:List PS->Option (List Nat)
 |[]=>some []|.a::p=>match F5 p with|some c=>some (0::c)|none=>none
 |.b k::p=>match F5 p with|some c=>some ((k+1)::c)|none=>none
 |_=>none
def Z8:List PS->Nat|[]=>0|.ix i sz _::p=>i.toNat*sz+Z8 p|.a::p=>Z8 p|.b o::p=>o+Z8 p|.o::p=>Z8 p|.m _::p=>Z8 p
def JQ:List PS->Bool|[]=>true|.a::p=>JQ p|.b _::p=>JQ p|.o::p=>JQ p|_=>false
inductive SV where|v(tv:TV)|Sw(j:Nat)(p:List PS)|sub(j:Nat)(p:List PS)(sz m:Nat)(lo hi:Int)|T5(tv:TV)|gl(n:Nat)|bv(js:List Nat)(tv:TV)|un|tn|tc(a b:SV)|any
abbrev En:=List (Nat×SV)
abbrev Bx:=List (Nat×TV)
def Ys:En->Nat->SV|[],_=>.any|(t,s)::e,u=>bif Nat.beq t u then s else Ys e u
def ZF:Bx->Nat->Option TV|[],_=>none|(t,s)::e,u=>bif Nat.beq t u then some s else ZF e u
def Vi:Bx->Nat->Bx|[],_=>[]|(t,s)::e,u=>bif Nat.beq t u then Vi e u else(t,s)::Vi e u
def X0(r:Bx)(b:Bx):Bx:=r.foldr (λa b=>Vi b a.1) b
structure CS where
 g:Bx
 l:Bx:=[]r:Bx:=[]s:List (Nat×Nat):=[]f:List (Nat×Nat×Nat×TV):=[]n:Nat:=0q:Bx:=[]p:Bool:=false
def US:List (Nat×Nat)->Nat->Option Nat|[],_=>none|(t,s)::e,u=>bif Nat.beq t u then some s else US e u
def Yj(f:Nat):Nat:=1000+f
section
variable{R:Type}
abbrev Zir{a b:Ty}(h:a=b)(x:a.den):b.den:=h▸x
def TU(t:Ty)(v:TV)(k:t.den->Option R):Option R:=if h:v.t.beq t=true then k (Zir (Ty.eq_of_beq h) v.x)else none
def UN(t:Ty)(v:TV)(k:t.den->Option R):Option R:=bif t.nh then TU t v k else none
def Nn:TV->List PS->(TV->Option R)->Option R|v,[],k=>k v|⟨.pair a b,x⟩,.a::p,k=>Nn ⟨a,x.1⟩ p k|⟨.pair a b,x⟩,.b o::p,k=>bif Nat.beq o a.n then Nn ⟨b,x.2⟩ p k else none|⟨.only t,x⟩,.o::p,k=>Nn ⟨t,x⟩ p k|⟨.vec n t,x⟩,.ix i sz m::p,k=>bif Nat.beq sz t.n&&Nat.beq m n then O (YV x i) λc=>Nn ⟨t,c⟩ p k else none|_,_::_,_=>none
def QK:TV->List PS->TV->(TV->Option R)->Option R|v,[],y,k=>bif Nat.beq v.t.n y.t.n then k y else none|⟨.pair a b,x⟩,.a::p,y,k=>QK ⟨a,x.1⟩ p y λc=>k ⟨.pair c.t b,(c.x,x.2)⟩|⟨.pair a b,x⟩,.b o::p,y,k=>bif Nat.beq o a.n then QK ⟨b,x.2⟩ p y λc=>k ⟨.pair a c.t,(x.1,c.x)⟩else none|⟨.only t,x⟩,.o::p,y,k=>QK ⟨t,x⟩ p y λc=>k ⟨.only c.t,c.x⟩|⟨.vec n t,x⟩,[.ix i sz m],y,k=>bif Nat.beq sz t.n&&Nat.beq m n then TU t y λd=>k ⟨.vec n t,YA x (Yf i) d⟩else none|⟨.vec n t,x⟩,.ix i sz m::p,y,k=>bif Nat.beq sz t.n&&Nat.beq m n then O (YV x i) λe=>QK ⟨t,e⟩ p y λc=>TU t c λd=>k ⟨.vec n t,YA x (Yf i) d⟩else none|_,_::_,_,_=>none
def tI:TV->List PS->(TV->Option R)->Option R|⟨.own t,x⟩,p,k=>Nn ⟨t,x⟩ p k|⟨.full t,x⟩,.ix i sz m::p,k=>bif Nat.beq sz t.n then O (ZA x i) λa=>Nn ⟨t,a⟩ p k else none|⟨.YO t,x⟩,.ix i sz m::p,k=>bif Nat.beq sz t.n then O (ZA x i) λa=>Nn ⟨t,a⟩ p k else none|_,_,_=>none
def pG:TV->List PS->TV->(TV->Option R)->Option R|⟨.own t,x⟩,p,y,k=>QK ⟨t,x⟩ p y λa=>k ⟨.own a.t,a.x⟩|⟨.full t,x⟩,[.ix i sz m],y,k=>bif Nat.beq sz t.n then TU t y λb=>k ⟨.full t,Y3 x (Yf i) b⟩else none|⟨.full t,x⟩,.ix i sz m::p,y,k=>bif Nat.beq sz t.n then O (ZA x i) λc=>QK ⟨t,c⟩ p y λa=>TU t a λb=>k ⟨.full t,Y3 x (Yf i) b⟩else none|_,_,_,_=>none
def Cf:TV->List PS->(TV->Option R)->Option R|⟨.YL _ t,x⟩,.m i::p,k=>O (ZA x (Ze i)) λa=>tI ⟨t,a⟩ p k|v,p,k=>tI v p k
def Lv:TV->List PS->TV->(TV->Option R)->Option R|⟨.YL f t,x⟩,.m i::p,y,k=>O (ZA x (Ze i)) λb=>pG ⟨t,b⟩ p y λa=>TU t a λc=>k ⟨.YL f t,Y3 x i c⟩|v,p,y,k=>pG v p y k
def EO:Ty->List PS->Option Ty|t,[]=>some t|.pair a b,.a::p=>EO a p|.pair a b,.b _::p=>EO b p|.only t,.o::p=>EO t p|.vec _ t,.ix _ _ _::p=>EO t p|_,_=>none
def ZfL:Ty->List PS->Option Ty|.own t,p=>EO t p|.full t,.ix _ _ _::p=>EO t p|.YO t,.ix _ _ _::p=>EO t p|_,_=>none
def T7:Ty->List PS->Option Ty|.YL _ t,.m _::p=>ZfL t p|t,p=>ZfL t p
def kO:List PS->Bool|[]=>false|.ix _ _ _::_=>true|.m _::_=>true|_::p=>kO p
def Qk(c:CS)(j:Nat)(k:TV->CS->Option R):Option R:=match ZF c.l j with|some v=>k v {c with l:=Vi c.l j}|none=>match ZF c.g j with|some v=>k v {c with g:=Vi c.g j,r:=(j,v)::c.r}|none=>none
def CS.put(c:CS)(j:Nat)(v:TV):CS:={c with l:=(j,v)::c.l}
def CS.qg(c:CS)(j:Nat)(v:TV):CS:={c with l:=(j,v)::c.l,p:=true}
def pM(t:Ty)(j:Nat)(c:CS)(k:List t.den->CS->Option R):Option R:=match ZF c.l j with
   |none=>match ZF c.g j with|some ⟨.YO a,l⟩=>UN (.YO t) ⟨.YO a,l⟩ λl=>k l {c with q:=(j,⟨.YO t,l⟩)::c.q}|_=>Qk c j λb c=>match b with|⟨.full a,l⟩=>bif t.plain then UN (.full t) ⟨.full a,l⟩ λl=>k l (c.qg j ⟨.YO t,l⟩)else none|_=>none
   |some _=>Qk c j λb c=>match b with|⟨.full a,l⟩=>bif t.plain then UN (.full t) ⟨.full a,l⟩ λl=>k l (c.qg j ⟨.YO t,l⟩)else none|⟨.YO a,l⟩=>UN (.YO t) ⟨.YO a,l⟩ λl=>k l (c.put j ⟨.YO t,l⟩)|_=>none
def ZaI(f:Nat)(t:Ty)(y:t.den)(c:CS)(k:Option Nat->CS->Option R):Option R:=Qk c (Yj f) λb c=>UN (.YL f t) b λa=>k (some (Zf a)) (c.qg (Yj f) ⟨.YL f t,Z9 a [y]⟩)
def Vu:(t:Ty)->TV->CS->(t.den->CS->Option R)->Option R
 |.bool,v,c,k=>match v with|⟨.bit b,_⟩=>k b c|v=>UN .bool v λe=>k e c
 |.pair a b,⟨.pair a' b',e⟩,c,k=>bif a.plain&&b.plain&&a.beq a'&&b.beq b'&&a.nh&&b.nh then UN (.pair a b) ⟨.pair a' b',e⟩ λl=>k l c else Vu a ⟨a',e.1⟩ c λl c=>Vu b ⟨b',e.2⟩ c λm c=>k (l,m) c|.cons a b,⟨.cons a' b',e⟩,c,k=>Vu a ⟨a',e.1⟩ c λl c=>Vu b ⟨b',e.2⟩ c λm c=>k (l,m) c|.nl,⟨.nl,_⟩,c,k=>k () c|.only t,⟨.only h,e⟩,c,k=>Vu t ⟨h,e⟩ c k|.sl t,v,c,k=>match v with|⟨.Tk,_⟩=>k [] c|⟨.hole j,_⟩=>pM t j c k|⟨.nz h,g⟩=>UN (.nz t) ⟨.nz h,g⟩ λe=>k e c|v=>UN (.sl t) v λe=>k e c
 |.nz t,v,c,k=>match v with|⟨.Tk,_⟩=>k [] c|⟨.hole j,_⟩=>pM t j c λg c=>Cp g (k g c)|v=>UN (.nz t) v λe=>k e c
 |.ptr t,v,c,k=>match v with
  |⟨.V4,_⟩=>k none c|⟨.hole j,_⟩=>Qk c j λw c=>match w with|⟨.own h,e⟩=>bif t.plain then Vu t ⟨h,e⟩ c λl c=>k (some l) {c with p:=true}else none|_=>none
  |v=>UN (.ptr t) v λe=>k e c
 |.own t,⟨.hole j,_⟩,c,k=>Qk c j λw c=>match w with|⟨.own h,e⟩=>Vu t ⟨h,e⟩ c k|⟨.opt h,e⟩=>Yq e none λl=>Vu t ⟨h,l⟩ c k|_=>none
 |.own t,⟨.own h,e⟩,c,k=>Vu t ⟨h,e⟩ c k|.own t,⟨.opt h,e⟩,c,k=>Yq e none λl=>Vu t ⟨h,l⟩ c k|.opt t,v,c,k=>match v with
  |⟨.V4,_⟩=>k none c|⟨.hole j,_⟩=>Qk c j λw c=>match w with|⟨.own h,e⟩=>Vu t ⟨h,e⟩ c λl c=>k (some l) c|⟨.opt h,e⟩=>UN (.opt t) ⟨.opt h,e⟩ λe=>k e c|_=>none
  |v=>UN (.opt t) v λe=>k e c
 |.full t,v,c,k=>match v with|⟨.Tk,_⟩=>k [] c|⟨.hole j,_⟩=>Qk c j λw c=>UN (.full t) w λg=>k g c|v=>UN (.full t) v λg=>k g c
 |.YO t,v,c,k=>match v with
  |⟨.Tk,_⟩=>k [] c|⟨.hole j,_⟩=>Qk c j λw c=>match w with|⟨.full h,g⟩=>bif t.plain then UN (.full t) ⟨.full h,g⟩ λg=>k g {c with p:=true}else none|w=>UN (.YO t) w λg=>k g c
  |v=>UN (.YO t) v λg=>k g c
 |.map a b,v,c,k=>match v with|⟨.hole j,_⟩=>Qk c j λw c=>UN (.map a b) w λg=>k g c|v=>UN (.map a b) v λg=>k g c
 |.YM f t,v,c,k=>match v with|⟨.V4,_⟩=>k none c|⟨.hole j,_⟩=>Vu t ⟨.hole j,()⟩ c λl c=>ZaI f t l c k|v=>UN (.YM f t) v λe=>k e c
 |.YL f t,v,c,k=>UN (.YL f t) v λg=>k g c|.hole i,⟨.hole j,_⟩,c,k=>bif Nat.blt i 1000then match US c.s i with|some n=>bif Nat.beq j n then k () c else none|none=>k () {c with s:=(i,j)::c.s}else bif Nat.beq i j then k () c else none|.Ue i q,⟨.Ue j r,_⟩,c,k=>bif decide (q=r)then(bif Nat.blt i 1000then match US c.s i with|some n=>bif Nat.beq j n then k () c else none|none=>k () {c with s:=(i,j)::c.s}else bif Nat.beq i j then k () c else none)else none|.fn f a d,⟨.fn o a' d',e⟩,c,k=>bif Nat.beq f o&&(a.plain&&d.plain)then Vu a ⟨a',e.1⟩ c λl c=>Vu d ⟨d',e.2⟩ c λm c=>k (l,m) c else none|t,v,c,k=>bif t.plain then UN t v λe=>k e c else none
def No(s:List (Nat×Nat)):Bool:=s.all λa=>Nat.beq a.1 a.2
def OB(t:Ty)(v:TV)(c:CS)(k:t.den->CS->Option R):Option R:=Vu t v c λa c=>bif No c.s then k a c else none
def UR:(t:Ty)->t.den->Nat->Bx->TV×Nat×Bx
 |.pair a b,x,n,l=>match UR a x.1 n l with|(u,n,l)=>match UR b x.2 n l with|(w,n,l)=>(⟨.pair u.t w.t,(u.x,w.x)⟩,n,l)
 |.only t,x,n,l=>match UR t x n l with|(u,n,l)=>(⟨.only u.t,u.x⟩,n,l)
 |.own t,x,n,l=>match UR t x (n+1) l with|(u,m,l)=>(⟨.hole n,()⟩,m,(n,⟨.own u.t,u.x⟩)::l)
 |.full t,x,n,l=>(⟨.hole n,()⟩,n+1,(n,⟨.full t,x⟩)::l)|.YO t,x,n,l=>(⟨.hole n,()⟩,n+1,(n,⟨.YO t,x⟩)::l)|.map a b,x,n,l=>(⟨.hole n,()⟩,n+1,(n,⟨.map a b,x⟩)::l)|t,x,n,l=>(⟨t,x⟩,n,l)
def Mt(t:Ty)(x:t.den)(n:Nat)(l:Bx):SV×Nat×Bx:=match t,x with|.opt t,x=>(.v ⟨.hole n,()⟩,n+1,(n,⟨.opt t,x⟩)::l)|.Ue j q,_=>(.Sw j (KM q),n,l)|t,x=>match UR t x n l with|(u,n,l)=>(bif u.t.plain then .v u else .any,n,l)
def P7(s:List (Nat×Nat)):(t:Ty)->t.den->TV|.hole i,_=>⟨.hole ((bif Nat.blt i 1000then US s i else some i).getD 0),()⟩|.pair a b,x=>⟨.pair (P7 s a x.1).t (P7 s b x.2).t,((P7 s a x.1).x,(P7 s b x.2).x)⟩|.only t,x=>⟨.only (P7 s t x).t,(P7 s t x).x⟩|.own t,x=>⟨.own (P7 s t x).t,(P7 s t x).x⟩|t,x=>⟨t,x⟩
def KH(j:Nat):TV->Nat->Bx->Nat×Bx
 |⟨.own t,x⟩,n,l=>match UR t x n l with|(u,m,l)=>(m,(j,⟨.own u.t,u.x⟩)::l)
 |v,n,l=>(n,(j,v)::l)
end
end Go.R
noncomputable section
namespace Go.R
open Go.Sl
structure HI where
 t:Nat--atemporary,orabox
 b:Bool--abox?
 ty:Ty
structure mo where
 key:Nat
 it:List HI
def Tw(l:List (Nat×Ty)):Ty:=l.foldr (λa b=>Ty.cons a.2 b) Ty.nl
structure FC where
 f:FuncId
 A:Ty
 B:List (Nat×Ty)C:Ty
 D:List (Nat×Ty)ρ:Type
 u:Bool:=false
 m:A.den->(Tw B).den->Option ρ
 dec:ρ->C.den×(Tw D).den
structure Xq where
 P:Program
 ov:List (Nat×Ty)gl:List (Nat×TV)tb:List FC
 hs:List mo
 sp:List Nat:=[]fz:List Nat:=[]cl:List Nat:=[]
def eF:List (Nat×Ty)->Nat->Option Ty|[],_=>none|(t,s)::e,u=>bif Nat.beq t u then some s else eF e u
def Rs:List (Nat×TV)->Nat->Option TV|[],_=>none|(t,s)::e,u=>bif Nat.beq t u then some s else Rs e u
def kQ:List mo->Nat->Option (List HI)|[],_=>none|h::e,u=>bif Nat.beq h.key u then some h.it else kQ e u
def Zcx:List Ty->Option Ty|[]=>none|[t]=>some t|t::ts=>match Zcx ts with|some a=>some (.pair t a)|none=>none
def ae:List (Option Ty)->Option (List Ty)
 |[]=>some []|some b::l=>match ae l with|some a=>some (b::a)|none=>none
 |none::_=>none
def ER:IntKind->Bool|.u8=>true|.u16=>true|.u32=>true|.u64=>true|_=>false
def ol(P:Program)(ov:List (Nat×Ty)):Nat->TypeId->Option Ty|0,_=>none|n+1,T=>match eF ov T with|some a=>some a|none=>match P.underlying T with
   |some .bool=>some .bool|some (.int .i64)=>some .int|some (.int k)=>bif ER k then some (.un k k.bits)else none|some .string=>some .str|some (.slice e)=>match ol P ov n e with|some a=>some (.sl a)|none=>none
   |some (.array k e)=>match ol P ov n e with|some a=>some (.vec k a)|none=>none
   |some (.struct fs)=>match ae (fs.toList.map λb=>ol P ov n b.type)with|some [a]=>some (bif a.ag then a else .only a)|some c=>Zcx c|none=>none
   |_=>none
def Pr:(t:Ty)->Option t.den
 |.int=>some 0|.un _ w=>some (Zga w)|.bool=>some false|.str=>some []|.vec n t=>match Pr t with|some v=>some (Zn n v)|none=>none
 |.pair a b=>match Pr a,Pr b with|some v,some w=>some (v,w)|_,_=>none
 |.only t=>Pr t|.sl _=>some []|.ptr _=>some none|.YM _ t=>match t with|.full _=>none|_=>some none
 |_=>none
def Iu:Ty->Option TV
 |.int=>some ⟨.int,0⟩|.un k w=>some ⟨.un k w,Zga w⟩|.bool=>some ⟨.bool,false⟩|.str=>some ⟨.str,[]⟩|.vec n t=>match Pr t with|some v=>some ⟨.vec n t,Zn n v⟩|none=>none
 |.pair a b=>match Iu a,Iu b with|some v,some w=>some ⟨.pair v.t w.t,(v.x,w.x)⟩|_,_=>none
 |.only t=>match Iu t with|some v=>some ⟨.only v.t,v.x⟩|none=>none
 |.sl t=>some ⟨.Tk,()⟩|.ptr t=>some ⟨.ptr t,none⟩|.YM f t=>match t with|.full _=>some ⟨.Tk,()⟩|t=>some ⟨.YM f t,none⟩
 |.full _=>some ⟨.Tk,()⟩|.YO _=>some ⟨.Tk,()⟩|.opt _=>some ⟨.V4,()⟩|.own _=>some ⟨.V4,()⟩|.map _ _=>some ⟨.JY,()⟩|_=>none
def UL:Ty->List Value->Option (List Value)
 |.int,.int .i64 (.ofNat 0)::c=>some c|.un k _,.int k' (.ofNat 0)::c=>bif decide (k=k')then some c else none|.bool,.bool false::c=>some c|.sl _,.slice none 0 0::c=>some c|.Tk,.slice none 0 0::c=>some c|.ptr _,.pointer none::c=>some c|.YM _ _,.pointer none::c=>some c|.V4,.pointer none::c=>some c|.JY,.map none::c=>some c|.pair a b,c=>match UL a c with|some c=>UL b c|none=>none
 |.only t,c=>UL t c|.vec n t,c=>n.rec (some c) λ_ d=>match d with|some c=>UL t c|none=>none
 |_,_=>none
def ZaR:Ty->Nat->Nat->Option (List PS×Nat)
 |.pair a b,m,0=>some ([.a],0)|.pair a b,m,f+1=>bif Nat.beq m 2then(bif Nat.beq f 0then some ([.b a.n],a.n)else none)else match ZaR b (m-1) f with|some (p,o)=>some (.b a.n::p,a.n+o)|none=>none
 |.only t,_,0=>some ([.o],0)|_,_,_=>none
def Zb8(P:Program)(a:TypeId):Nat:=match P.underlying a with|some (.struct fs)=>fs.size|_=>0
def Cb(P:Program)(a:TypeId)(t:Ty)(f:Nat):Option (List PS×Nat):=bif Nat.beq (Zb8 P a) 1&&!(match t with|.only _=>true|_=>false)then(bif Nat.beq f 0then some ([],0)else none)else ZaR t (Zb8 P a) f
structure Wc where
 v:SV
 rd:Bx
 r:Bx
 w:Bx
 n:Nat
section
variable{R:Type}(Z:Xq)(e:En)(b:Bx)(n:Nat)(k:Wc->Option R)
def lQ:Value->SV|.int .i64 x=>.v ⟨.int,x⟩|.int q (.ofNat x)=>bif ER q&&Nat.blt x (Nat.pow 2 q.bits)then .v ⟨.un q q.bits,Z6 q.bits (.ofNat x)⟩else .any|.bool x=>.v ⟨.bit x,()⟩|.string s=>.v ⟨.str,s.data.toList.map UInt8.toBitVec⟩|.pointer none=>.v ⟨.V4,()⟩|.slice none 0 0=>.v ⟨.Tk,()⟩|.map none=>.v ⟨.JY,()⟩|.nilFunc=>.v ⟨.yj,()⟩|_=>.any
def ZW:Operand->SV|.tmp t=>Ys e t|.const v=>lQ v|.global g=>.gl g|.func f=>.v ⟨.fn f .nl .nl,((),())⟩
def U8(s:SV):Option R:=k ⟨s,[],[],[],n⟩
def X5(t:Ty)(x:t.den):Option R:=k ⟨.v ⟨t,x⟩,[],[],[],n⟩
def JD(b:Bx):List Nat->Option Bx|[]=>some []|j::l=>match ZF b j,JD b l with|some v,some r=>some ((j,v)::r)|_,_=>none
def Ut:Ty->Bool|.int=>true|.un _ _=>true|.bool=>true|.str=>true|.YM _ _=>true|.vec _ t=>Ut t|.pair a b=>Ut a&&Ut b|.only t=>Ut t|.cons a b=>Ut a&&Ut b|.nl=>true|.full t=>Ut t|.YO t=>Ut t|.own t=>Ut t|.opt t=>Ut t|.map a b=>Ut a&&Ut b|.YL _ t=>Ut t|_=>false
def JP(j:Nat):Ty->Bool|.YL f _=>Nat.beq j (Yj f)|_=>true
def IV(b:Bx)(j:Nat):Option TV:=match ZF b j with|some v=>bif JP j v.t then some v else none|none=>none
def Mg(t:Ty)(s:SV)(k:List t.den->Bx->Option R):Option R:=match s with
 |.v ⟨.Tk,_⟩=>k [] []|.v ⟨.sl c,a⟩=>TU (.sl t) ⟨.sl c,a⟩ λa=>k a []|.v ⟨.nz c,a⟩=>TU (.nz t) ⟨.nz c,a⟩ λa=>k a []|.v ⟨.hole j,_⟩=>match ZF b j with|some ⟨.full c,a⟩=>bif t.plain then TU (.full t) ⟨.full c,a⟩ λa=>k a [(j,⟨.full t,a⟩)]else none|some ⟨.YO c,a⟩=>TU (.YO t) ⟨.YO c,a⟩ λa=>k a [(j,⟨.YO t,a⟩)]|_=>none
 |.v ⟨.YM f (.full _),d⟩=>Yq d none λi=>match ZF b (Yj f)with|some ⟨.YL g (.full c),h⟩=>bif Nat.beq f g&&t.plain then TU (.YL g (.full t)) ⟨.YL g (.full c),h⟩ λh=>O (ZA h (Ze i)) λa=>k a [(Yj f,⟨.YL g (.full t),h⟩)]else none|_=>none
 |.bv l ⟨.sl c,a⟩=>bif Ut t&&t.plain then TU (.sl t) ⟨.sl c,a⟩ λa=>match JD b l with|some o=>k a o|none=>none else none|.sub j p sz m lo hi=>match IV b j with
  |some v=>Cf v p λq=>match q with|⟨.vec m' c,d⟩=>bif Nat.beq sz c.n&&Nat.beq m m'&&t.plain then TU (.vec m' t) ⟨.vec m' c,d⟩ λd=>k (Xc (Yf lo) (YC (Yf hi) (Xw d))) [(j,v)]else none|_=>none
  |none=>none
 |_=>none
def sk(s:SV)(k:Int->Bx->Option R):Option R:=match s with
 |.v ⟨.Tk,_⟩=>k 0 []|.v ⟨.sl _,a⟩=>k (Ze (Zf a)) []|.v ⟨.nz _,a⟩=>k (Ze (Zf a)) []|.v ⟨.YM f (.full _),x⟩=>Yq x none λd=>match ZF b (Yj f)with|some ⟨.YL c (.full t),xs⟩=>bif Nat.beq f c then O (ZA xs (Ze d)) λa=>k (Ze (Zf a)) [(Yj f,⟨.YL c (.full t),xs⟩)]else none|_=>none
 |.v ⟨.hole j,_⟩=>match ZF b j with|some ⟨.full t,a⟩=>k (Ze (Zf a)) [(j,⟨.full t,a⟩)]|some ⟨.YO t,a⟩=>k (Ze (Zf a)) [(j,⟨.YO t,a⟩)]|_=>none
 |.sub j p sz m lo hi=>k (ZU hi lo) []|.bv g ⟨.sl _,a⟩=>match JD b g with|some h=>k (Ze (Zf a)) h|none=>none
 |_=>none
def Mw(t:Ty)(s:SV)(k:t.den->Option R):Option R:=match s with|.v v=>OB t v {g:=[]} λx a=>bif a.r.isEmpty then k x else none|.T5 v=>OB t ⟨.ptr v.t,some v.x⟩ {g:=[]} λx a=>bif a.r.isEmpty then k x else none|_=>none
def Qj:SV->Option TV|.v v=>some v|.T5 v=>some ⟨.ptr v.t,some v.x⟩|_=>none
def Mn(s:SV)(k:Int->Option R):Option R:=match s with|.v ⟨.int,x⟩=>k x|.v ⟨.un _ _,x⟩=>k (Ze (Z4 x))|_=>none
end
@[reducible] def Ty.Fp:(t:Ty)->Option (DecidableEq t.den)
 |.int=>some inferInstanceAs(DecidableEq Int)|.un _ w=>some inferInstanceAs(DecidableEq (BitVec w))|.bool=>some inferInstanceAs(DecidableEq Bool)|.str=>some inferInstanceAs(DecidableEq (List (BitVec 8)))|.vec n t=>match t.Fp with|some c=>some (have:=c;inferInstanceAs(DecidableEq (Vector t.den n)))|none=>none
 |.pair a b=>match a.Fp,b.Fp with|some c,some j=>some (have:=c;have:=j;inferInstanceAs(DecidableEq (a.den×b.den)))|_,_=>none
 |.only t=>t.Fp|_=>none
section
variable{R:Type}(Z:Xq)(e:En)(b:Bx)(n:Nat)(k:Wc->Option R)
def vZ(neg v:Bool):Option R:=U8 n k (.v ⟨.bit (bif neg then !v else v),()⟩)
def PQ(P:Program)(T:TypeId):Bool:=match P.underlying T with|some (.slice e)=>(P.info? e).isSome|_=>false
def vT:Ty->Bool|.YL _ _=>false|.nl=>false|.cons _ _=>false|_=>true
def A9(P:Program)(q:TypeId->Ty->Bool):List Field->Nat->Ty->Bool|[f],off,t=>Nat.beq f.offset off&&(!f.name== "_"&&(vT t&&(Go.Sl.T7 P f.type t.ag t.n&&q f.type t)))|f::c::fs,off,.pair a b=>Nat.beq f.offset off&&(!f.name== "_"&&(vT a&&(Go.Sl.T7 P f.type a.ag a.n&&(q f.type a&&A9 P q (c::fs) (off+a.n) b))))|_,_,_=>false
def JN(P:Program):Nat->TypeId->Ty->Bool|0,_,_=>false|n+1,T,t=>match t,P.underlying T with|.int,some (.int .i64)=>true|.un k _,some (.int k')=>decide (k=k')|.bool,some .bool=>true|.vec m t,some (.array m' e)=>Nat.beq m m'&&(vT t&&(Go.Sl.T7 P e t.ag t.n&&JN P n e t))|.pair a b,some (.struct fs)=>!P.stoodInHeld T&&A9 P (JN P n) fs.toList 0 (.pair a b)|_,_=>false
def kz(P:Program)(T:TypeId):Ty->Bool
 |.int=>true|.un a w=>ER a&&Nat.beq w a.bits|.str=>match P.underlying T with|some .string=>true|_=>false
 |t=>t.ag&&(JN P 8 T t&&Go.Sl.za P T)
def Hr(P:Program)(T:TypeId):Bool:=match P.underlying T with|some (.pointer _)=>true|_=>false
def tY(P:Program)(T:TypeId):Bool:=match P.underlying T with|some .bool=>true|_=>false
def kA(T:TypeId)(neg:Bool)(v w:TV):Option R:=match v.t with|.bit c=>bif tY Z.P T then(match w with|⟨.bit a,_⟩=>vZ n k neg (c==a)|⟨.bool,a⟩=>X5 n k .bool (bif neg then Zy (I9 c a)else I9 c a)|_=>none)else none|.bool=>bif tY Z.P T then TU .bool v λc=>Mw .bool (.v w) λa=>X5 n k .bool (bif neg then Zy (I9 c a)else I9 c a)else none|t=>bif kz Z.P T t then(match t.Fp with|some d=>TU t v λc=>TU t w λa=>X5 n k .bool (bif neg then Zy (Hb d c a)else Hb d c a)|none=>none)else none
def zb(T:TypeId)(neg:Bool)(x y:SV):Option R:=match x,y with|.v ⟨.hole j,_⟩,.v ⟨.V4,_⟩=>bif Hr Z.P T then(match ZF b j with|some ⟨.own t,x⟩=>k ⟨.v ⟨.bit neg,()⟩,[(j,⟨.own t,x⟩)],[],[],n⟩|some ⟨.opt t,x⟩=>k ⟨.v ⟨.bool,bif neg then UE x else zF x⟩,[(j,⟨.opt t,x⟩)],[],[],n⟩|_=>none)else none|.v ⟨.V4,_⟩,.v ⟨.V4,_⟩=>bif Hr Z.P T then vZ n k neg true else none|.T5 _,.v ⟨.V4,_⟩=>bif Hr Z.P T then vZ n k neg false else none|.Sw _ _,.v ⟨.V4,_⟩=>bif Hr Z.P T then vZ n k neg false else none|.v ⟨.ptr t,x⟩,.v ⟨.V4,_⟩=>bif Hr Z.P T then X5 n k .bool (bif neg then UE x else zF x)else none|.v ⟨.nz t,l⟩,.v ⟨.Tk,_⟩=>bif PQ Z.P T then X5 n k .bool (bif neg then Zy (yk l)else yk l)else none|.v ⟨.YM f (.own t),x⟩,.v ⟨.V4,_⟩=>bif Hr Z.P T then(match ZF b (Yj f)with|some ⟨.YL a (.own t),xs⟩=>bif Nat.beq f a then Yq x (k ⟨.v ⟨.bit !neg,()⟩,[],[],[],n⟩) λc=>O (ZA xs (Ze c)) λ_=>k ⟨.v ⟨.bit neg,()⟩,[(Yj f,⟨.YL a (.own t),xs⟩)],[],[],n⟩else none|_=>none)else none|.v v,.v w=>kA Z n k T neg v w|_,_=>none
def EP(a:IntKind)(w:Nat):Bool:=ER a&&Nat.beq w a.bits
def lh(T:TypeId)(op:BinOp)(x y:SV):Option R:=match op,x,y with|.eql,x,y=>zb Z b n k T false x y|.neq,x,y=>zb Z b n k T true x y|.shl,.v ⟨.int,p⟩,y=>Mn y λc=>XM c (X5 n k .int (Sm p c))|.shr,.v ⟨.int,p⟩,y=>Mn y λc=>XM c (X5 n k .int (Qh p c))|.shl,.v ⟨.un a w,p⟩,y=>bif EP a w then Mn y λc=>XM c (X5 n k (.un a w) (EF p (Yf c)))else none|.shr,.v ⟨.un a w,p⟩,y=>bif EP a w then Mn y λc=>XM c (X5 n k (.un a w) (Vm p (Yf c)))else none|.add,.v ⟨.int,p⟩,.v ⟨.int,c⟩=>X5 n k .int (Zk (Zu p c))|.sub,.v ⟨.int,p⟩,.v ⟨.int,c⟩=>X5 n k .int (Zk (ZU p c))|.mul,.v ⟨.int,p⟩,.v ⟨.int,c⟩=>X5 n k .int (Zk (Vq p c))|.quo,.v ⟨.int,p⟩,.v ⟨.int,c⟩=>S8 c (X5 n k .int (Zk (TX p c)))|.rem,.v ⟨.int,p⟩,.v ⟨.int,c⟩=>S8 c (X5 n k .int (Pk p c))|.and,.v ⟨.int,p⟩,.v ⟨.int,c⟩=>X5 n k .int (Sv p c)|.or,.v ⟨.int,p⟩,.v ⟨.int,c⟩=>X5 n k .int (HJ p c)|.xor,.v ⟨.int,p⟩,.v ⟨.int,c⟩=>X5 n k .int (wg p c)|.lss,.v ⟨.int,p⟩,.v ⟨.int,c⟩=>X5 n k .bool (Zz p c)|.leq,.v ⟨.int,p⟩,.v ⟨.int,c⟩=>X5 n k .bool (YH p c)|.gtr,.v ⟨.int,p⟩,.v ⟨.int,c⟩=>X5 n k .bool (Zz c p)|.geq,.v ⟨.int,p⟩,.v ⟨.int,c⟩=>X5 n k .bool (YH c p)|op,.v ⟨.un a w,p⟩,.v v=>bif EP a w then TU (.un a w) v λc=>match op with|.add=>X5 n k (.un a w) (Wt p c)|.sub=>X5 n k (.un a w) (Ie p c)|.mul=>X5 n k (.un a w) (HB p c)|.quo=>Kn (Z4 c) (X5 n k (.un a w) (uT p c))|.rem=>Kn (Z4 c) (X5 n k (.un a w) (KA p c))|.and=>X5 n k (.un a w) (SH p c)|.or=>X5 n k (.un a w) (P4 p c)|.xor=>X5 n k (.un a w) (U9 p c)|.lss=>X5 n k .bool (PY p c)|.leq=>X5 n k .bool (PT p c)|.gtr=>X5 n k .bool (PY c p)|.geq=>X5 n k .bool (PT c p)|_=>none else none|_,_,_=>none
def eV(c:UnOp)(x:SV):Option R:=match c,x with|.not,.v ⟨.bit p,_⟩=>U8 n k (.v ⟨.bit !p,()⟩)|.not,.v ⟨.bool,p⟩=>X5 n k .bool (Zy p)|.neg,.v ⟨.int,p⟩=>X5 n k .int (Zk (ZU 0 p))|.neg,.v ⟨.un a w,p⟩=>bif EP a w then X5 n k (.un a w) (rF p)else none|.xor,.v ⟨.un a w,p⟩=>bif EP a w then X5 n k (.un a w) (Zcd p)else none|_,_=>none
def Il(P:Program)(T:TypeId):Bool:=match P.underlying T with|some (.slice e)=>(match P.underlying e with|some (.int .u8)=>true|_=>false)|_=>false
def uE(x:SV):Option R:=match x with
 |.v ⟨.hole j,_⟩=>match ZF b j with|some ⟨.full (.un .u8 8),l⟩=>Cp l (k ⟨.v ⟨.sl (.un .u8 8),l⟩,[],[(j,⟨.full (.un .u8 8),l⟩)],[],n⟩)|_=>none
 |_=>none
def lR(a c:TypeId)(x:SV):Option R:=bif(Z.P.underlying a).isNone then none else match Z.P.underlying c with
 |some (.int .i64)=>match x with|.v ⟨.int,p⟩=>X5 n k .int (Zk p)|.v ⟨.un _ w,p⟩=>bif Nat.blt w 64then X5 n k .int (Ze (Z4 p))else X5 n k .int (Zk (Ze (Z4 p)))|_=>none
 |some (.int q)=>bif ER q then match x with|.v ⟨.int,p⟩=>X5 n k (.un q q.bits) (Z6 q.bits p)|.v ⟨.un _ w,p⟩=>X5 n k (.un q q.bits) (W6 q.bits p)|_=>none else none|some (.slice _)=>bif Nat.beq a c&&Il Z.P a then uE b n k x else none|some .string=>bif Il Z.P a then Mg b (.un .u8 8) x λd f=>k ⟨.v ⟨.str,d⟩,f,[],[],n⟩else none|_=>none
def xQ(T:TypeId):Option Ty:=ol Z.P Z.ov 12 T
def Bm(T:TypeId)(t:Ty):Bool:=vT t&&Go.Sl.T7 Z.P T t.ag t.n
def placeOf:SV->Option (Nat×List PS)|.Sw j p=>some (j,p)|.v ⟨.hole j,_⟩=>some (j,[])|_=>none
def ji(T:TypeId)(x:SV):Option R:=match x with
 |.T5 v=>bif Bm Z T v.t then U8 n k (.v v)else none|.gl g=>match Rs Z.gl g with|some v=>bif Bm Z T v.t then U8 n k (.v v)else none|none=>none
 |x=>match placeOf x with|none=>none|some (j,p)=>match IV b j with|none=>none|some v=>Cf v p λw=>bif Bm Z T w.t then(match w with
    |⟨.opt t,a⟩=>Yq a (k ⟨.v ⟨.V4,()⟩,[(j,v)],[],[],n⟩) λa=>match UR (.own t) a n []with|(u,n',l)=>Lv v p u λc=>k ⟨.v u,[],[(j,v)],(j,c)::l,n'⟩
    |w=>bif w.t.plain then k ⟨.v w,[(j,v)],[],[],n⟩else none)else none
def eC(T:TypeId)(x y:SV):Option R:=match placeOf x,Qj y with
 |some (j,p),some y=>match IV b j with|none=>none|some v=>bif Go.Sl.QL Z.P T y.t.n&&vT y.t then bif kO p then match T7 v.t p with|some t=>OB t y {g:=Vi b j} λy a=>Lv v p ⟨t,y⟩ λc=>k ⟨.any,a.q,(j,v)::a.r,(j,c)::a.l,n⟩|none=>none else Lv v p y λc=>k ⟨.any,[],[(j,v)],[(j,c)],n⟩else none
 |_,_=>none
def jW(x:SV):Option R:=match x with
 |.v ⟨.hole j,_⟩=>match ZF b j with
  |some ⟨.own t,x⟩=>k ⟨.v ⟨.hole j,()⟩,[(j,⟨.own t,x⟩)],[],[],n⟩|some ⟨.opt t,x⟩=>Yq x none λa=>match UR t a n []with|(u,n',l)=>k ⟨.v ⟨.hole j,()⟩,[],[(j,⟨.opt t,x⟩)],(j,⟨.own u.t,u.x⟩)::l,n'⟩
  |_=>none
 |.Sw j p=>U8 n k (.Sw j p)|.T5 v=>U8 n k (.T5 v)|.gl g=>U8 n k (.gl g)|.v ⟨.ptr t,x⟩=>Yq x none λa=>U8 n k (.T5 ⟨t,a⟩)|.v ⟨.YM f (.own t),x⟩=>Yq x none λd=>match ZF b (Yj f)with|some ⟨.YL c (.own t),xs⟩=>bif Nat.beq f c then O (ZA xs (Ze d)) λ_=>k ⟨.Sw (Yj f) [.m d],[(Yj f,⟨.YL c (.own t),xs⟩)],[],[],n⟩else none|_=>none
 |_=>none
def kF(a:TypeId)(x:SV)(f:Nat):Option R:=match x with
 |.T5 v=>match Cb Z.P a v.t f with|some (p,_)=>bif Go.Sl.Hg Z.P a f (Z8 p)then Nn v p λc=>U8 n k (.T5 c)else none|none=>none
 |.gl g=>match Rs Z.gl g with|some v=>(match Cb Z.P a v.t f with|some (p,_)=>bif Go.Sl.Hg Z.P a f (Z8 p)then Nn v p λc=>U8 n k (.T5 c)else none|none=>none)|none=>none
 |.v ⟨.hole j,_⟩=>match ZF b j with
   |some ⟨.own t,y⟩=>match Cb Z.P a t f with|some (q,_)=>bif Go.Sl.Hg Z.P a f (Z8 q)&&JQ q then k ⟨.Sw j q,[(j,⟨.own t,y⟩)],[],[],n⟩else none|none=>none
   |_=>none
 |.Sw j p=>match ZF b j with
   |some v=>match T7 v.t p with
    |some t=>match Cb Z.P a t f with|some (q,_)=>bif Go.Sl.Hg Z.P a f (Z8 q)&&JQ q then U8 n k (.Sw j (p++q))else none|none=>none
    |none=>none
   |none=>none
 |_=>none
def kX(T:TypeId)(x y:SV):Option R:=Mn y λc=>match x with
 |.v ⟨.sl t,a⟩=>bif Go.Sl.Uh Z.P T t.n then O (ZA a c) λy=>U8 n k (.T5 ⟨t,y⟩)else none|.v ⟨.nz t,a⟩=>bif Go.Sl.Uh Z.P T t.n then O (ZA a c) λy=>U8 n k (.T5 ⟨t,y⟩)else none|.v ⟨.YM f (.full _),x⟩=>Yq x none λm=>match ZF b (Yj f)with|some ⟨.YL d (.full t),xs⟩=>bif Nat.beq f d&&Go.Sl.Uh Z.P T t.n then O (ZA xs (Ze m)) λa=>ZZ c (Ze (Zf a)) (k ⟨.Sw (Yj f) [.m m,.ix c t.n 0],[(Yj f,⟨.YL d (.full t),xs⟩)],[],[],n⟩)else none|_=>none
 |.T5 ⟨.vec m t,a⟩=>bif Go.Sl.Qz Z.P T m t.n then O (YV a c) λy=>U8 n k (.T5 ⟨t,y⟩)else none|.gl g=>match Rs Z.gl g with|some ⟨.vec m t,a⟩=>bif Go.Sl.Qz Z.P T m t.n then O (YV a c) λy=>U8 n k (.T5 ⟨t,y⟩)else none|_=>none
 |.v ⟨.hole j,_⟩=>match ZF b j with|some ⟨.full t,a⟩=>bif Go.Sl.Uh Z.P T t.n then ZZ c (Ze (Zf a)) (k ⟨.Sw j [.ix c t.n 0],[(j,⟨.full t,a⟩)],[],[],n⟩)else none|some ⟨.YO t,a⟩=>bif Go.Sl.Uh Z.P T t.n then ZZ c (Ze (Zf a)) (k ⟨.Sw j [.ix c t.n 0],[(j,⟨.YO t,a⟩)],[],[],n⟩)else none|some ⟨.own (.vec m t),a⟩=>bif Go.Sl.Qz Z.P T m t.n then ZZ c (Ze m) (k ⟨.Sw j [.ix c t.n m],[(j,⟨.own (.vec m t),a⟩)],[],[],n⟩)else none|_=>none
 |.Sw j p=>match ZF b j with
  |some v=>match T7 v.t p with|some (.vec m t)=>bif Go.Sl.Qz Z.P T m t.n then ZZ c (Ze m) (U8 n k (.Sw j (p++[.ix c t.n m])))else none|_=>none
  |none=>none
 |_=>none
def P3(x:Option Operand)(d:Int)(k:Int->Option R):Option R:=match x with|none=>k d|some a=>Mn (ZW e a) k
def pJ(t:Ty)(xs:List t.den)(lo hi mx:Option Operand)(k:List t.den->Option R):Option R:=match mx with|none=>P3 e lo 0 λd=>P3 e hi (Ze (Zf xs)) λa=>O (SN xs d a) k|some c=>match lo,hi with|none,some a=>Mn (ZW e a) λa=>Mn (ZW e c) λc=>XM a (Co a c (Ze (Zf xs)) (k (YC (Yf a) xs)))|_,_=>none
def fX(fz:Bool)(T:TypeId)(x:SV)(lo hi mx:Option Operand):Option R:=bif fz then(match x,mx with
 |.v ⟨.hole j,_⟩,none=>match ZF b j with|some ⟨.own (.vec m t),v⟩=>bif t.plain&&Go.Sl.Qz Z.P T m t.n then P3 e lo 0 λc=>P3 e hi (Ze m) λa=>Wj c a (Ze m) (k ⟨.v ⟨.sl t,Xc (Yf c) (YC (Yf a) (Xw v))⟩,[],[(j,⟨.own (.vec m t),v⟩)],[],n⟩)else none|_=>none
 |_,_=>none)else match x with
 |.v ⟨.Tk,_⟩=>bif PQ Z.P T&&mx.isNone then P3 e lo 0 λc=>P3 e hi 0 λa=>kV c a (U8 n k (.v ⟨.Tk,()⟩))else none|.v ⟨.sl t,xs⟩=>bif Go.Sl.Uh Z.P T t.n then pJ e t xs lo hi mx λd=>X5 n k (.sl t) d else none|.v ⟨.hole j,_⟩=>match ZF b j with
  |some ⟨.full t,xs⟩=>match lo,mx with|none,none=>bif t.plain&&Go.Sl.Uh Z.P T t.n then P3 e hi (Ze (Zf xs)) λa=>JT a (Ze (Zf xs)) (k ⟨.v ⟨.hole n,()⟩,[],[(j,⟨.full t,xs⟩)],[(n,⟨.full t,YC (Yf a) xs⟩)],n+1⟩)else none|_,_=>none
  |some ⟨.YO t,xs⟩=>bif Go.Sl.Uh Z.P T t.n then pJ e t xs lo hi mx λd=>k ⟨.v ⟨.sl t,d⟩,[(j,⟨.YO t,xs⟩)],[],[],n⟩else none|some ⟨.own (.vec m t),v⟩=>bif mx.isNone&&Go.Sl.Qz Z.P T m t.n then P3 e lo 0 λc=>P3 e hi (Ze m) λa=>Wj c a (Ze m) (k ⟨.sub j [] t.n m c a,[(j,⟨.own (.vec m t),v⟩)],[],[],n⟩)else none|_=>none
 |.Sw j p=>match ZF b j with
  |some v=>match T7 v.t p with|some (.vec m t)=>bif mx.isNone&&Go.Sl.Qz Z.P T m t.n then P3 e lo 0 λc=>P3 e hi (Ze m) λa=>Wj c a (Ze m) (U8 n k (.sub j p t.n m c a))else none|_=>none
  |none=>none
 |.T5 ⟨.vec m t,v⟩=>bif mx.isNone&&Go.Sl.Qz Z.P T m t.n then P3 e lo 0 λc=>P3 e hi (Ze m) λa=>Wj c a (Ze m) (X5 n k (.sl t) (Xc (Yf c) (YC (Yf a) (Xw v))))else none|_=>none
def ZaP(P:Program)(c f off:Nat)(t:Ty):Bool:=match P.underlying c with
 |some (.struct fs)=>match fs[f]?with|some a=>Nat.beq a.offset off&&(vT t&&Go.Sl.T7 P a.type t.ag t.n)|none=>false
 |_=>false
def kE(a:TypeId)(x:SV)(f:Nat):Option R:=match x with
 |.v v=>match Cb Z.P a v.t f with|some (p,_)=>bif v.t.ag then Nn v p λc=>bif ZaP Z.P a f (Z8 p) c.t then U8 n k (.v c)else none else none|none=>none
 |_=>none
def aj(P:Program)(T m:Nat)(t:Ty):Bool:=match P.underlying T with|some (.array m' e)=>Nat.beq m m'&&(vT t&&Go.Sl.T7 P e t.ag t.n)|_=>false
def kW(T:TypeId)(x y:SV):Option R:=match x with|.v ⟨.vec m t,l⟩=>bif aj Z.P T m t then Mn y λa=>O (YV l a) λy=>X5 n k t y else none|.v ⟨.str,l⟩=>bif(match Z.P.underlying T with|some .string=>true|_=>false)then Mn y λa=>O (ZA l a) λy=>X5 n k (.un .u8 8) y else none|_=>none
def fM(T:TypeId)(x:SV):Option R:=match Z.P.underlying T with
 |some (.array m _)=>match x with|.v ⟨.sl t,l⟩=>bif Nat.blt 0 m then O (MD m l) λv=>U8 n k (.T5 ⟨.vec m t,v⟩)else none|_=>none
 |_=>none
def CG(mx:Bool):Int->List Operand->Option R|a,[]=>X5 n k .int a|a,o::l=>match ZW e o with|.v ⟨.int,x⟩=>CG mx (bif mx then Uo a x else Tj a x) l|_=>none
end
end Go.R
noncomputable section
namespace Go.R
open Go.Sl
section
variable{R:Type}(Z:Xq)(e:En)(b:Bx)(n:Nat)(k:Wc->Option R)
def KW(P:Program)(ST n:Nat):Bool:=match P.underlying ST with|some (.slice e)=>Go.Sl.Qi P ST e n|_=>false
def mU(ST XT:TypeId)(x y:SV):Option R:=bif PQ Z.P XT then(match x with
 |.v ⟨.hole j,_⟩=>match ZF b j with|some ⟨.full t,l⟩=>bif KW Z.P ST t.n then Mg b t y λa c=>Yp (Zf l) (Zf a) (k ⟨.v ⟨.hole n,()⟩,c,[(j,⟨.full t,l⟩)],[(n,⟨.full t,Z9 l a⟩)],n+1⟩)else none|some ⟨.YO t,l⟩=>bif KW Z.P ST t.n then Mg b t y λa c=>Yp (Zf l) (Zf a) (k ⟨.v ⟨.hole n,()⟩,c,[(j,⟨.YO t,l⟩)],[(n,⟨.YO t,Z9 l a⟩)],n+1⟩)else none|_=>none
 |.v ⟨.Tk,_⟩=>match xQ Z ST with|some (.sl t)=>bif KW Z.P ST t.n then Mg b t y λa c=>Yp (Zf ([]:List t.den)) (Zf a) (k ⟨.v ⟨.hole n,()⟩,c,[],[(n,⟨.full t,Z9 [] a⟩)],n+1⟩)else none|_=>none
 |_=>none)else none
def oR(T:TypeId):Option TV:=match xQ Z T with
 |some t=>match Iu t with
  |some a=>match Go.Sl.QT Z.P T with
   |some c=>match UL a.t c with|some []=>some a|_=>none
   |none=>none
  |none=>none
 |none=>none
def ig(t:Ty):Nat->List (Nat×Operand)->CS->(List t.den->CS->Option R)->Option R|_,[],a,k=>k [] a|i,(c,o)::ps,a,k=>bif Nat.beq i c then(match Qj (ZW e o)with|some v=>bif vT v.t then OB t v a λf a=>ig t (i+1) ps a λd a=>k (f::d) a else none|none=>none)else none
def sn(s:SV)(k:TV->List Nat->Option R):Option R:=match s with
 |.sub j p sz m lo hi=>match IV b j with
  |some v=>Cf v p λh=>match h with|⟨.vec m' t,x⟩=>bif Nat.beq sz t.n&&Nat.beq m m'&&t.plain then k ⟨.sl t,Xc (Yf lo) (YC (Yf hi) (Xw x))⟩ [j]else none|_=>none
  |none=>none
 |.bv g v=>bif vT v.t then k v g else none|.Sw j []=>k ⟨.hole j,()⟩ []|.Sw j p=>match F5 p with|some a=>k ⟨.Ue j a,()⟩ []|none=>none
 |.v ⟨.YM f (.full t0),x⟩=>Yq x none λd=>match IV b (Yj f)with|some ⟨.YL c (.full t),xs⟩=>bif Nat.beq f c&&t.plain then O (ZA xs (Ze d)) λa=>k ⟨.sl t,a⟩ [Yj f]else none|_=>none
 |s=>match Qj s with|some v=>k v []|none=>none
def yz(t:Ty):Nat->List (Nat×Operand)->CS->List Nat->(List t.den->CS->List Nat->Option R)->Option R|_,[],a,c,k=>k [] a c|i,(h,o)::ps,a,c,k=>bif Nat.beq i h then sn b (ZW e o) λv d=>bif vT v.t then(match d with|[]=>OB t v a λg a=>yz t (i+1) ps a c λf a c=>k (g::f) a c|j::d=>UN t v λg=>yz t (i+1) ps a (j::d++c) λf a c=>k (g::f) a c)else none else none
def lA(ST:TypeId)(len:Nat)(ps:List (Nat×Operand)):Option R:=match xQ Z ST with|some (.sl t)=>bif Nat.beq ps.length len&&(vT t&&(KW Z.P ST t.n&&Nat.ble (len*t.n) 16777216))then(bif ps.all λf=>(Qj (ZW e f.2)).isSome then ig e t 0 ps {g:=b} λl a=>k ⟨.v ⟨.hole n,()⟩,a.q,a.r,(n,⟨.full t,l⟩)::a.l,n+1⟩else yz e b t 0 ps {g:=b} [] λl a c=>bif t.plain&&c.all λd=>(ZF a.r d).isNone then(match JD b c with|some r=>k ⟨.bv c ⟨.sl t,l⟩,r++a.q,a.r,a.l,n⟩|none=>none)else none)else none|_=>none
def ic(T:TypeId)(v:TV)(i:Nat):Option (List PS×Nat):=match v.t with|.vec m t=>bif Nat.blt i m then some ([.ix (Ze i) t.n m],i*t.n)else none|t=>match Cb Z.P T t i with|some (p,_)=>bif JQ p then some (p,Z8 p)else none|none=>none
def xB(T:TypeId):TV->List (Nat×Operand)->(TV->Option R)->Option R|v,[],k=>k v|v,(i,o)::ps,k=>match Qj (ZW e o),ic Z T v i with|some a,some (p,o)=>bif vT a.t&&(match Go.Sl.placeOf Z.P T i with|some (off,m)=>Nat.beq off o&&Nat.beq m a.t.n|none=>false)then(match v.t with|.vec m t=>OB t a {g:=[]} λf d=>bif d.p then none else QK v p ⟨t,f⟩ λc=>xB T c ps k|_=>QK v p a λc=>xB T c ps k)else none|_,_=>none
def lB(T:TypeId)(ps:List (Nat×Operand)):Option R:=match oR Z T with|some a=>bif Go.Sl.ly Z.P T then xB Z e T a ps λv=>bif v.t.ag then U8 n k (.v v)else none else none|none=>none
def mR(T:TypeId):Option R:=match oR Z T with|some a=>k ⟨.v ⟨.hole n,()⟩,[],[],[(n,⟨.own a.t,a.x⟩)],n+1⟩|none=>none
def lq(y:SV):Option R:=match Qj y with|some v=>bif vT v.t then k ⟨.v ⟨.hole n,()⟩,[],[],[(n,⟨.own v.t,v.x⟩)],n+1⟩else none|none=>none
def jt(ST:TypeId)(x y:SV):Option R:=match xQ Z ST with
 |some (.sl t)=>match Pr t,Z.P.underlying ST with|some d,some (.slice el)=>bif Go.Sl.Qi Z.P ST el t.n&&(match Go.Sl.QT Z.P el with|some a=>(match UL t a with|some []=>true|_=>false)|none=>false)then(match x,y with|.v ⟨.int,l⟩,.v ⟨.int,c⟩=>Pe l c (k ⟨.v ⟨.hole n,()⟩,[],[],[(n,⟨.full t,SQ (Yf l) d⟩)],n+1⟩)|_,_=>none)else none|_,_=>none
 |_=>none
def lS(T:TypeId)(x y:SV):Option R:=match x with
 |.sub j p sz m lo hi=>match IV b j with
  |some v=>Cf v p λf=>match f with|⟨.vec m' t,x⟩=>bif Nat.beq sz t.n&&Nat.beq m m'&&(t.plain&&Go.Sl.Uh Z.P T t.n)then Mg b t y λa c=>Lv v p ⟨.vec m' t,K8 x (Yf lo) (YC (NB hi lo) a)⟩ λd=>k ⟨.v ⟨.int,Ze (rq (Zf a) (NB hi lo))⟩,c,[(j,v)],[(j,d)],n⟩else none|_=>none
  |none=>none
 |.v ⟨.hole j,_⟩=>match ZF b j with|some ⟨.full t,x⟩=>bif t.plain&&Go.Sl.Uh Z.P T t.n then Mg b t y λa c=>k ⟨.v ⟨.int,Ze (rq (Zf a) (Zf x))⟩,c,[(j,⟨.full t,x⟩)],[(j,⟨.full t,Z9 (YC (Zf x) a) (Xc (Zf a) x)⟩)],n⟩else none|_=>none
 |_=>none
def kZ(P:Program)(e:TypeId)(t:Ty):Bool:=match t,P.underlying e with|.un k _,some (.int k')=>decide (k=k')|_,_=>false
def G0(P:Program)(a m:Nat)(t:Ty):Bool:=match P.underlying a with|some (.array m' e)=>Nat.beq m m'&&(P.plainKey e&&(Go.Sl.QL P e 1&&kZ P e t))|_=>false
def zL(P:Program)(a:TypeId):Ty->Bool
 |.int=>match P.underlying a with|some (.int .i64)=>true|_=>false
 |.str=>match P.underlying a with|some .string=>true|_=>false
 |.vec m t=>G0 P a m t&&JN P 8 a (.vec m t)|_=>false
def dB(P:Program)(a:TypeId)(t:Ty):Bool:=match(P.info? a).bind (·.zero)with
 |some v=>match t.ag,v with
  |true,.agg cs=>match UL t cs.toList with|some []=>true|_=>false
  |true,_=>false|false,v=>match UL t [v]with|some []=>true|_=>false
 |none=>false
def CC(P:Program)(T:TypeId)(a:Ty):Bool:=match P.underlying T with|some (.map c _)=>zL P c a|_=>false
def jv(P:Program)(T:TypeId)(t:Ty):Bool:=match P.underlying T with|some (.map _ a)=>dB P a t|_=>false
def jl(T:TypeId)(x y:SV)(f:Bool):Option R:=match x,y with
 |.v ⟨.hole j,_⟩,.v yv=>match ZF b j with
  |some ⟨.map a t,l⟩=>bif CC Z.P T a&&(jv Z.P T t&&t.plain)then(match a.Fp,Pr t with
   |some c,some z=>TU a yv λd=>match f with|true=>k ⟨.tc (.v ⟨t,U5 (Kw c d l) z⟩) (.tc (.v ⟨.bool,UE (Kw c d l)⟩) .tn),[(j,⟨.map a t,l⟩)],[],[],n⟩|false=>k ⟨.v ⟨t,U5 (Kw c d l) z⟩,[(j,⟨.map a t,l⟩)],[],[],n⟩
   |_,_=>none)else none|_=>none
 |_,_=>none
def ju(T:TypeId)(x y z:SV):Option R:=match x,y,Qj z with
 |.v ⟨.hole j,_⟩,.v yv,some f=>match ZF b j with|some ⟨.map a t,l⟩=>bif CC Z.P T a&&t.plain then(match a.Fp with|some d=>TU a yv λq=>OB t f {g:=Vi b j} λz c=>k ⟨.any,c.q,(j,⟨.map a t,l⟩)::c.r,(j,⟨.map a t,jQ d q z l⟩)::c.l,n⟩|none=>none)else none|_=>none
 |_,_,_=>none
def ul:List Oper->Option TypeId
 |[⟨some 2,.assign (.const (.slice none 0 0)),_,_,_,none⟩,⟨some 3,.move (.tmp 0),_,_,_,none⟩,⟨some 4,.binOp .eql T (.tmp 3) (.const (.slice none 0 0)) _,_,_,_,none⟩,⟨some 2,.assign (.const (.slice none 0 0)),_,_,_,none⟩,⟨some 5,.buildSlice a 0 ps,_,_,_,none⟩,⟨some 6,.move (.tmp 0),_,_,_,none⟩,⟨some 7,.call c,_,_,_,none⟩,⟨some 2,.assign (.tmp 7),_,_,_,none⟩]=>match c.callee,c.args.toList,c.argTypes.toList with|.builtin .append,[.tmp 5,.tmp 6],[d,f]=>bif Nat.beq T a&&(Nat.beq T d&&(Nat.beq T f&&ps.isEmpty))then some T else none|_,_,_=>none
 |_=>none
def um(P:Program)(f:FuncId):Option TypeId:=match P.funcs[f]?with
 |some g=>match g.body,g.results.toList,g.ntmps with|some (.seq (.region _ a false) (.seq (.seq (.region _ b false) (.cond (.tmp 4) (.seq (.region _ c false) .ret) .skip)) (.seq (.region _ d false) .ret))),[.tmp 2],8=>bif Nat.beq a.size 1&&(Nat.beq b.size 2&&Nat.beq c.size 1)then ul (a.toList++(b.toList++(c.toList++d.toList)))else none|_,_,_=>none
 |none=>none
def lG(f:FuncId)(T':TypeId)(x:SV):Option R:=match xQ Z T',um Z.P f with|some (.sl t),some T=>bif t.plain&&(KW Z.P T t.n&&(PQ Z.P T&&Go.Sl.Q7 Z.P f))then Mg b t x λa c=>Yp 0 (Zf a) (k ⟨.v ⟨.hole n,()⟩,c,[],[(n,⟨.full t,a⟩)],n+1⟩)else none|_,_=>none
def xP:List SV->Option TV|[]=>some ⟨.nl,()⟩|s::l=>match Qj s,xP l with|some v,some w=>some ⟨.cons v.t w.t,(v.x,w.x)⟩|_,_=>none
def ua:(l:List (Nat×Ty))->CS->((Tw l).den->CS->Option R)->Option R|[],a,k=>k () a|(i,t)::l,a,k=>match(bif Nat.blt i 1000then US a.s i else some i)with|some c=>Qk a c λd a=>Vu t d a λf a=>ua l a λg a=>k (f,g) a|none=>none
def Ms:(t:Ty)->t.den->Nat->Bx->SV×Nat×Bx
 |.cons a c,x,n,b=>match Mt a x.1 n b with|(u,n,b)=>match Ms c x.2 n b with|(w,n,b)=>(.tc u w,n,b)
 |_,_,n,b=>(.tn,n,b)
def one:SV->SV|.tc a .tn=>a|s=>s
def FE:Ty->Ty->Bool|.cons a b,.cons c d=>FE a c&&FE b d|.hole _,.hole _=>true|.hole _,.YM _ _=>true|.Ue _ _,.Ue _ _=>true|.Ue _ _,_=>false|.V4,.V4=>true|.V4,_=>false|.fn f a b,.fn g c d=>Nat.beq f g&&(FE a c&&FE b d)|.fn _ _ _,_=>false|.nl,.nl=>true|.Tk,.Tk=>true|.hole _,_=>false|_,_=>true
def Lj:List (List Nat)->Bool|(_::_)::_=>true|_=>false
def Fa:Ty->TV->List (List Nat)->CS->(TV->CS->Option R)->Option R
 |.cons (.hole _) A,⟨.cons b B,x⟩,d,a,k=>match b,x with|.YM f (.own u),x=>bif Lj d then none else Yq x.1 none λg=>Qk a (Yj f) λj a=>TU (.YL f (.own u)) j λh=>O (ZA h (Ze g)) λm=>bif(ZF a.g a.n).isNone&&Nat.blt a.n 1000then Fa A ⟨B,x.2⟩ d.tail {a with n:=a.n+1,l:=(a.n,⟨.own u,m⟩)::a.l,f:=(a.n,f,g,⟨.YL f (.own u),h⟩)::a.f} λc i=>k ⟨.cons (.hole a.n) c.t,((),c.x)⟩ i else none|b,x=>Fa A ⟨B,x.2⟩ d.tail a λc a=>k ⟨.cons b c.t,(x.1,c.x)⟩ a
 |.cons _ A,⟨.cons b B,x⟩,d,a,k=>Fa A ⟨B,x.2⟩ d.tail a λc a=>k ⟨.cons b c.t,(x.1,c.x)⟩ a|_,v,d,a,k=>k v a
def JF:(A:Ty)->TV->List (List Nat)->CS->(A.den->CS->Option R)->Option R
 |.cons t A,⟨.cons h g,x⟩,c,a,k=>match Lj c with|true=>UN t ⟨h,x.1⟩ λd=>JF A ⟨g,x.2⟩ c.tail a λf a=>k (d,f) a|false=>Vu t ⟨h,x.1⟩ a λd a=>JF A ⟨g,x.2⟩ c.tail a λf a=>k (d,f) a
 |.nl,⟨.nl,_⟩,_,a,k=>k () a|_,_,_,_,_=>none
def AF:List (Nat×Nat×Nat×TV)->Bx->(Bx->Option R)->Option R|[],l,k=>k l|(i,f,m,w)::fs,l,k=>match ZF l i,w with|some a,⟨.YL c (.own u),xs⟩=>bif Nat.beq f c then TU (.own u) a λa=>AF fs ((Yj f,⟨.YL f (.own u),Y3 xs m a⟩)::Vi l i) k else none|_,_=>none
def so(i:Nat):List (Nat×Nat×Nat×TV)->Bool|[]=>false|(j,_)::l=>Nat.beq i j||so i l
def J8(s:List (Nat×Nat))(fs:List (Nat×Nat×Nat×TV)):(l:List (Nat×Ty))->(Tw l).den->Nat->Bx->Nat×Bx|[],_,n,b=>(n,b)|(i,t)::l,x,n,b=>match(bif Nat.blt i 1000then US s i else some i).getD 0,P7 s t x.1with|j,v=>bif so j fs then J8 s fs l x.2 n ((j,v)::b)else match KH j v n b with|(n,b)=>J8 s fs l x.2 n b
def S6(s:List (Nat×Nat)):Ty->Bool|.hole i=>!Nat.blt i 1000||(US s i).isSome|.Ue i _=>!Nat.blt i 1000||(US s i).isSome|.vec _ t=>S6 s t|.pair a b=>S6 s a&&S6 s b|.only t=>S6 s t|.sl t=>S6 s t|.ptr t=>S6 s t|.YM _ t=>S6 s t|.fn _ a c=>S6 s a&&S6 s c|.own t=>S6 s t|.opt t=>S6 s t|.full t=>S6 s t|.YO t=>S6 s t|.map a b=>S6 s a&&S6 s b|.YL _ t=>S6 s t|.cons a b=>S6 s a&&S6 s b|_=>true
def Eu:Ty->Bool|.hole _=>true|.pair a b=>Eu a&&Eu b|.only t=>Eu t|.own t=>Eu t|t=>t.nh
def F8(s:List (Nat×Nat))(D:List (Nat×Ty)):Bool:=D.all λa=>S6 s a.2&&(Eu a.2&&(JP a.1 a.2&&(!Nat.blt a.1 1000||(US s a.1).isSome)))
def HE(c:CS)(B:List (Nat×Ty)):Bool:=B.all λa=>Nat.blt a.1 1000||(c.r.any λd=>Nat.beq d.1 a.1)&&(!(c.f.any λf=>Nat.beq (Yj f.2.1) a.1)&&!c.l.any λd=>Nat.beq d.1 a.1)
def lC(c:FC)(v:TV)(d:List (List Nat)):Option R:=Fa c.A v d {g:=b,n:=n} λv a=>JF c.A v d a λi a=>ua c.B a λh a=>bif c.C.nh&&(F8 a.s c.D&&(F8 a.s c.B&&HE a c.B))then O (c.m i h) λr=>match JD b d.flatten with|none=>none|some q=>bif d.flatten.isEmpty||(Ut c.C&&Ut (Tw (bif c.u&&a.p then c.B else c.D))&&d.flatten.all λf=>(ZF a.r f).isNone&&(ZF a.q f).isNone)then bif c.u then bif a.p then match J8 a.s a.f c.B h a.n a.l with|(n,l)=>match Ms c.C (c.dec r).1 n l with|(u,n',l)=>AF a.f l λl=>k ⟨one u,q++a.q,a.r,l,n'⟩else match Ms c.C (c.dec r).1 a.n []with|(u,n',l)=>k ⟨one u,q++(a.q++a.r),[],l,n'⟩else match J8 a.s a.f c.D (c.dec r).2 a.n a.l with|(n,l)=>match Ms c.C (c.dec r).1 n l with|(u,n',l)=>AF a.f l λl=>k ⟨one u,q++a.q,a.r,l,n'⟩else none else none
def Ka(f:FuncId)(v:TV)(c:List (List Nat)):List FC->Option R|[]=>none|a::l=>bif Nat.beq a.f f&&FE a.A v.t then lC b n k a v c else Ka f v c l
def tz(f:FuncId)(A:Ty)(l:List FC):Bool:=l.any λa=>Nat.beq a.f f&&(FE a.A A&&match a.A with|.cons .V4 _=>true|.cons _ (.cons .V4 _)=>true|_=>false)
def uc(f:FuncId)(v:TV)(c:List (List Nat))(l:List FC):Option R:=match v with|⟨.cons (.YM g u) B,x⟩=>bif tz f (.cons .V4 B) l then Yq x.1 (Ka b n k f ⟨.cons .V4 B,((),x.2)⟩ c l) λ_=>Ka b n k f ⟨.cons (.YM g u) B,x⟩ c l else Ka b n k f ⟨.cons (.YM g u) B,x⟩ c l|⟨.cons a (.cons (.YM g u) B),x⟩=>bif tz f (.cons a (.cons .V4 B)) l then Yq x.2.1 (Ka b n k f ⟨.cons a (.cons .V4 B),(x.1,((),x.2.2))⟩ c l) λ_=>Ka b n k f ⟨.cons a (.cons (.YM g u) B),x⟩ c l else Ka b n k f ⟨.cons a (.cons (.YM g u) B),x⟩ c l|v=>Ka b n k f v c l
def vQ:List SV->(TV->List (List Nat)->Option R)->Option R|[],k=>k ⟨.nl,()⟩ []|s::l,k=>sn b s λv c=>vQ l λa d=>k ⟨.cons v.t a.t,(v.x,a.x)⟩ (c::d)
def Lk:Ty->Nat|.cons _ b=>Lk b+1|_=>0
def IS:(a:Ty)->a.den->TV->TV
 |.cons a c,x,v=>match IS c x.2 v with|w=>⟨.cons a w.t,(x.1,w.x)⟩
 |_,_,v=>v
def jZ:SV->Nat->SV|.tc a _,0=>a|.tc _ b,i+1=>jZ b i|_,_=>.any
def pY:SV->Nat|.tc _ s=>pY s+1|_=>0
def kC(x:SV)(i:Nat):Option R:=match x with|.tc a s=>bif Nat.blt i (pY (.tc a s))then U8 n k (jZ (.tc a s) i)else none|_=>none
def fzB(Z:Xq):Operand->Bool|.tmp t=>Z.fz.any (Nat.beq t)|_=>false
def Nq(o:Op):Option R:=match o with
 |.move x=>U8 n k (ZW e x)|.assign x=>U8 n k (ZW e x)|.pick c x h=>match ZW e c with|.v ⟨.bit true,_⟩=>U8 n k (ZW e x)|.v ⟨.bit false,_⟩=>U8 n k (ZW e h)|.v ⟨.bool,c⟩=>Mw .bool (ZW e x) λx=>Mw .bool (ZW e h) λh=>X5 n k .bool (aM c x h)|_=>none
 |.binOp op T x h _=>lh Z b n k T op (ZW e x) (ZW e h)|.unOp op _ x=>eV n k op (ZW e x)|.convert s d x=>lR Z b n k s d (ZW e x)|.alloc T=>mR Z n k T|.box _ h=>lq n k (ZW e h)|.build T ps=>lB Z e n k T ps.toList|.buildSlice T j ps=>lA Z e b n k T j ps.toList|.load T x=>ji Z b n k T (ZW e x)|.store T x h=>eC Z b n k T (ZW e x) (ZW e h)|.nilCheck x=>jW b n k (ZW e x)|.fieldAddr S x f=>kF Z b n k S (ZW e x) f|.field S x f=>kE Z n k S (ZW e x) f|.indexAddr T x h=>kX Z b n k T (ZW e x) (ZW e h)|.index T x h=>kW Z n k T (ZW e x) (ZW e h)|.slice T x lo hi mx=>fX Z e b n k (fzB Z x) T (ZW e x) lo hi mx|.sliceToArrayPointer T x=>fM Z n k T (ZW e x)|.makeSlice T x h=>jt Z n k T (ZW e x) (ZW e h)|.makeMap T none=>match eF Z.ov T with|some (.map a t)=>k ⟨.v ⟨.hole n,()⟩,[],[],[(n,⟨.map a t,[]⟩)],n+1⟩|_=>none
 |.makeFunc (.func f) first cs=>match xP (first.toList.map (ZW e)),xP (cs.toList.map (ZW e))with|some l,some v=>U8 n k (.v ⟨.fn f l.t v.t,(l.x,v.x)⟩)|_,_=>none
 |.lookup T x h ok=>jl Z b n k T (ZW e x) (ZW e h) ok|.mapUpdate T x h z=>ju Z b n k T (ZW e x) (ZW e h) (ZW e z)|.extract x i=>kC n k (ZW e x) i|.call c=>match c.callee with
  |.builtin .len=>match c.args.toList,c.argTypes.toList with|[x],[T]=>bif PQ Z.P T then sk b (ZW e x) λj p=>k ⟨.v ⟨.int,j⟩,p,[],[],n⟩else none|_,_=>none
  |.builtin .cap=>match c.args.toList,c.argTypes.toList with|[x],[T]=>(match ZW e x with|.v ⟨.Tk,_⟩=>bif PQ Z.P T then X5 n k .int 0 else none|_=>none)|_,_=>none
  |.builtin .append=>match c.args.toList,c.argTypes.toList with|[x,h],[T,U]=>mU Z b n k T U (ZW e x) (ZW e h)|_,_=>none
  |.builtin .copy=>match c.args.toList,c.argTypes.toList with|[x,h],[T,_]=>lS Z b n k T (ZW e x) (ZW e h)|_,_=>none
  |.builtin .max=>match c.args.toList with|x::j=>(match ZW e x with|.v ⟨.int,x⟩=>CG e n k true x j|_=>none)|_=>none
  |.builtin .min=>match c.args.toList with|x::j=>(match ZW e x with|.v ⟨.int,x⟩=>CG e n k false x j|_=>none)|_=>none
  |.value g=>match ZW e g with|.v ⟨.fn f a d,x⟩=>bif Z.cl.any (Nat.beq f)then(match a,d,c.args.toList,c.argTypes.toList with|.nl,.nl,[h],[T]=>lG Z b n k f T (ZW e h)|_,_,_,_=>none)else vQ b (c.args.toList.map (ZW e)) λv m=>uc b n k f (vO ⟨a,x.1⟩ (vO v ⟨d,x.2⟩)) (List.replicate (Lk a) []++m) Z.tb|_=>none
  |_=>none
 |_=>none
where vO(v w:TV):TV:=IS v.t v.x w
end
def PZ:List Nat->Nat->Bool|[],_=>false|a::l,x=>Nat.beq a x||PZ l x
def Lr(r:Bx):En->En|[]=>[]|(t,s)::e=>match s with|.bv a v=>bif r.any λb=>PZ a b.1then(t,.any)::Lr r e else(t,.bv a v)::Lr r e|s=>(t,s)::Lr r e
def sQ(a b:List Nat):Bool:=a.any (PZ b)
def Un:SV->List Nat|.bv a _=>a|_=>[]
structure As where
 i:Nat
 rd:List Nat
 wr:List Nat
structure XS where
 e:En
 b:Bx
 n:Nat
 d:List Nat:=[]tr:List As:=[]al:Option (List Nat×Nat):=none
def XS.app(s:XS)(d:Option Tmp)(f:Wc):XS:={s with e:=(bif f.r.isEmpty&&f.w.isEmpty thenλe=>e else Lr (f.r++f.w)) ((match d with|some d=>λe=>(d,f.v)::e|none=>λe=>e) s.e),b:=f.w++X0 f.r s.b,n:=f.n,d:=f.r.map (·.1)++s.d}
section
variable{R:Type}(Z:Xq)
def Hk(a:List Oper)(j:Nat):Nat:=(a[j]?.bind (·.dst)).getD 0
def Bf(j:Nat):List (Nat×Oper)->Option (List (Nat×Oper)×List (Nat×Oper))|[]=>none|(i,o)::l=>match o.op,o.guard with|.pick ..,some (a,_)=>bif Nat.beq j a then(match Bf j l with|some (g,r)=>some ((i,o)::g,r)|none=>none)else some ([(i,o)],l)|.pick ..,none=>some ([(i,o)],l)|_,_=>match Bf j l with|some (g,r)=>some ((i,o)::g,r)|none=>none
def JW:List (Nat×Oper)->Nat|[]=>0|[(_,o)]=>o.dst.getD 0|_::l=>JW l
def JV:List (Nat×Oper)->En->En|[],e=>e|(_,o)::l,e=>JV l (match o.dst with|some a=>(a,.any)::e|none=>e)
def EC(t:Nat)(v:Bool)(s:XS):XS:={s with e:=(t,.v ⟨.bit v,()⟩)::s.e}
def uW(a:List Oper)(i:Nat)(o:Oper)(rd wr:List Nat):List As->Bool|[]=>true|x::l=>(!(sQ wr (x.rd++x.wr)||sQ rd x.wr)||(Go.Sl.marks a i (Go.Sl.Vv o)).contains x.i)&&uW a i o rd wr l
def C6(e:En)(o:Op)(f:Wc):List Nat:=f.rd.map (·.1)++(Un f.v++o.operands.toList.flatMap λa=>Un (ZW e a))
def Sx:Ty->List Nat|.hole j=>[j]|.Ue j _=>[j]|.vec _ t=>Sx t|.pair a b=>Sx a++Sx b|.only t=>Sx t|.sl t=>Sx t|.nz t=>Sx t|.ptr t=>Sx t|.YM f t=>Yj f::Sx t|.fn _ a c=>Sx a++Sx c|.own t=>Sx t|.opt t=>Sx t|.full t=>Sx t|.YO t=>Sx t|.map a b=>Sx a++Sx b|.YL f t=>Sx t|.cons a b=>Sx a++Sx b|_=>[]
def kU:SV->List Nat|.v c=>Sx c.t|.Sw j _=>[j]|.sub j _ _ _ _ _=>[j]|.T5 c=>Sx c.t|.bv d c=>d++Sx c.t|.tc a b=>kU a++kU b|_=>[]
def qS(b:Bx):Nat->List Nat->List Nat|0,l=>l|n+1,l=>qS b n (l++l.flatMap λc=>match ZF b c with|some v=>(Sx v.t).filter λa=>!PZ l a|none=>[])
def Zj9(s:XS)(g:List (Nat×Oper)):List Nat:=qS s.b 5 (g.flatMap λb=>b.2.op.operands.toList.flatMap λa=>kU (ZW s.e a))
def rT(n:Nat)(f:Wc):Bx->Bool|[]=>true|p::l=>((f.r.any λa=>Nat.beq a.1 p.1)||Nat.ble n p.1&&Nat.blt p.1 f.n)&&(!(l.any λa=>Nat.beq a.1 p.1)&&rT n f l)
def yo(n:Nat)(f:Wc):Bool:=Nat.blt f.n 500&&(rT n f f.w&&(Un f.v).all λa=>(Nat.blt a f.n||!Nat.blt a 500)&&!(f.r++f.w).any λb=>Nat.beq b.1 a)
def j6(dr:Bool)(f:Wc)(b:List Nat):Option (List Nat×Nat)->Bool|none=>true|some a=>f.r.isEmpty&&(Nat.ble f.n a.2&&(!dr||f.w.isEmpty&&b.all (PZ a.1)))
def pS(a:List Oper)(dr:Bool)(i:Nat)(o:Oper)(s:XS)(f:Wc)(k:XS->Option R):Option R:=bif yo s.n f&&j6 dr f (C6 s.e o.op f) s.al then(bif dr then(bif uW a i o (C6 s.e o.op f) (f.r.map (·.1)++f.w.map (·.1)) s.tr then k {s.app o.dst f with tr:=⟨i,C6 s.e o.op f,f.r.map (·.1)++f.w.map (·.1)⟩::s.tr}else none)else k (s.app o.dst f))else none
def dt(A:List Nat)(l:List (Nat×Oper))(tr:List As):List As:=l.map (λa=>⟨a.1,A,[]⟩)++tr
def gN:Nat:=12
def gM:Nat:=2
def Nd(dr:Bool)(g:List (Nat×Oper))(s:XS):List Nat×Nat:=match s.al with|some a=>(a.1,s.n+gM)|none=>(bif dr then Zj9 s g else[],s.n+gN)
def mQ(s:XS):Bool:=match s.al with|some a=>Nat.ble (s.n+gM) a.2|none=>true
def QH(c:List Oper)(dr:Bool):Nat->(R:Type)->List (Nat×Oper)->XS->(XS->Option R)->Option R|0,_,_,_,_=>none|_+1,_,[],a,k=>k a|m+1,R,(i,o)::l,a,k=>match o.guard with|none=>Nq Z a.e a.b a.n (λf=>pS c dr i o a f λa=>QH c dr m R l a k) o.op|some (j,p)=>bif(c[j]?.bind (·.dst)).isSome then match Ys a.e (Hk c j)with
   |.v ⟨.bit b,_⟩=>bif b==p then Nq Z a.e a.b a.n (λf=>pS c dr i o a f λa=>QH c dr m R l a k) o.op else QH c dr m R l {a with e:=match o.dst with|some d=>(d,.un)::a.e|none=>a.e} k|.un=>QH c dr m R l {a with e:=match o.dst with|some d=>(d,.un)::a.e|none=>a.e} k|.v ⟨.bool,b⟩=>bif PZ Z.sp (Hk c j)then Zc b (QH c dr m R ((i,o)::l) (EC (Hk c j) true a) k) (QH c dr m R ((i,o)::l) (EC (Hk c j) false a) k)else match Bf j ((i,o)::l)with|none=>none|some (g,r)=>bif mQ a then O (Zc b (QH c dr m Bool g {EC (Hk c j) true a with al:=some (Nd dr g a)} λh=>Mw .bool (Ys h.e (JW g)) some) (QH c dr m Bool g {EC (Hk c j) false a with al:=some (Nd dr g a)} λh=>Mw .bool (Ys h.e (JW g)) some)) λq=>QH c dr m R r {a with e:=(JW g,.v ⟨.bool,q⟩)::JV g a.e,n:=(Nd dr g a).2,tr:=bif dr then dt (Nd dr g a).1 g a.tr else a.tr} k else none
   |_=>none else none
def Tv:Nat->List Oper->List (Nat×Oper)|_,[]=>[]|i,o::l=>(i,o)::Tv (i+1) l
def uZ(l:List Oper):Bool:=Go.Sl.Pa l l.length&&Go.Sl.JJ l
end
inductive Ex where|Ve|exit(id:Nat)|ret
def Tu:List HI->Ty|[]=>.nl|[h]=>h.ty|h::h'::l=>.pair h.ty (Tu (h'::l))
def hiV(s:XS)(h:HI):Option TV:=Qj (Ys s.e h.t)
section
variable{R:Type}(Z:Xq)
def TG(n:Nat):Ty->Bool|.hole i=>Nat.blt i n|.Ue i _=>Nat.blt i n|.vec _ t=>TG n t|.pair a b=>TG n a&&TG n b|.only t=>TG n t|.sl t=>TG n t|.nz t=>TG n t|.ptr t=>TG n t|.YM _ t=>TG n t|.fn _ a c=>TG n a&&TG n c|.own t=>TG n t|.opt t=>TG n t|.full t=>TG n t|.YO t=>TG n t|.map a b=>TG n a&&TG n b|.YL _ t=>TG n t|.cons a b=>TG n a&&TG n b|_=>true
def V3(h:HI):Bool:=h.b&&!Nat.blt h.t 1000
def tS(a:Nat)(s:XS)(h:HI)(c:CS)(k:h.ty.den->CS->Option R):Option R:=bif V3 h then Qk c h.t λb c=>UN h.ty b λd=>k d c else match hiV s h with|some v=>bif TG a h.ty&&(!h.b||Nat.beq h.ty.n 1&&!h.ty.ag)then OB h.ty v c k else none|none=>none
def J4(b:Nat)(s:XS):(l:List HI)->CS->((Tu l).den->CS->Option R)->Option R|[],a,k=>k () a|[h],a,k=>tS b s h a k|h::h'::l,a,k=>tS b s h a λc a=>J4 b s (h'::l) a λd a=>k (c,d) a
def Fs(s:XS):List HI->Bx->List Nat->(Bx->List Nat->Option R)->Option R|[],b,d,k=>k b d|h::l,b,d,k=>match h.b,Ys s.e h.t with|false,.v ⟨.hole j,_⟩=>bif Nat.blt j 1000then Fs s l (Vi b j) (j::d) k else Fs s l b d k|_,_=>Fs s l b d k
def Wb(h:HI)(x:h.ty.den)(s:XS):XS:=match h.b with
 |true=>bif V3 h then{s with b:=(h.t,⟨h.ty,x⟩)::s.b,d:=h.t::s.d}else match Ys s.e h.t with|.v ⟨.hole j,_⟩=>bif Nat.blt j 1000then match KH j ⟨h.ty,x⟩ s.n s.b with|(n,b)=>{s with n:=n,b:=b,d:=j::s.d}else s|_=>s
 |false=>match Mt h.ty x s.n s.b with|(v,n,b)=>{s with e:=(h.t,v)::s.e,n:=n,b:=b}
def unpack:(l:List HI)->(Tu l).den->XS->XS|[],_,s=>s|[h],x,s=>Wb h x s|h::h'::l,x,s=>unpack (h'::l) x.2 (Wb h x.1 s)
def rD:Bx->Bool|[]=>true|p::l=>!(l.any λa=>Nat.beq a.1 p.1)&&rD l
def Pm(s:XS)(k:XS->Option R):Option R:=bif rD s.b&&(Nat.ble s.n 500&&s.b.all λa=>Nat.blt a.1 s.n||!Nat.blt a.1 500)then k s else none
def Hf:Code->Bool|.ret=>false|.exit _=>false|.seq a b=>Hf a&&Hf b|.cond _ a b=>Hf a||Hf b|_=>true
def JO(id:Nat):Code->Bool|.ret=>true|.exit i=>!Nat.beq i id|.seq a b=>JO id a||JO id b|.cond _ a b=>JO id a||JO id b|.block i a=>Hc id i a|.loop a=>JO id a|.scope a=>JO id a|_=>false
where Hc(id i:Nat):Code->Bool|.ret=>true|.exit j=>!Nat.beq j id&&!Nat.beq j i|.seq a b=>Hc id i a||Hc id i b|.cond _ a b=>Hc id i a||Hc id i b|.block j a=>Hc id i a|.loop a=>Hc id i a|.scope a=>Hc id i a|_=>false
def Xt:Code->List Nat->List Nat|.region _ ops _,c=>ops.toList.foldl (λc e=>match e.dst with|some d=>d::c|none=>c) c|.seq a b,c=>Xt a (Xt b c)|.cond _ a b,c=>Xt a (Xt b c)|.block _ a,c=>Xt a c|.loop a,c=>Xt a c|.scope a,c=>Xt a c|_,c=>c
def SM(l:List Nat):En->En|[]=>[]|(t,s)::e=>bif PZ l t then SM l e else match s with|.bv _ _=>(t,.any)::SM l e|s=>(t,s)::SM l e
def Ht(b:Bx)(d:List Nat):Bool:=b.all λa=>!PZ d a.1
def keyOf:Operand->Nat|.tmp t=>t|_=>0
def S7(c:Nat)(a:Bx)(l:List HI)(s:XS)(k:(Tu l).den->Option R):Option R:=bif Ht a s.d then J4 c s l {g:=s.b} λd b=>bif Ht a (b.r.map (·.1))then k d else none else none
def exec:Code->(R:Type)->XS->(Ex->XS->Option R)->Option R
 |.skip,_,c,K=>K .Ve c|.region _ ops dr,R,c,K=>bif !dr||uZ ops.toList then QH Z ops.toList dr (ops.size+60) R (Tv 0 ops.toList) {c with tr:=[],al:=none} (K .Ve)else none|.seq a b,R,c,K=>exec a R c λx c=>match x with|.Ve=>exec b R c K|x=>K x c
 |.cond k A B,R,c,K=>match ZW c.e k with
  |.v ⟨.bit b,_⟩=>bif b then exec A R c K else exec B R c K|.v ⟨.bool,b⟩=>match kQ Z.hs (10000+keyOf k)with|some l=>bif Hf A&&Hf B then J4 c.n c (l.filter (·.b)) {g:=c.b} λ_ k=>Fs c l k.g (k.r.map (·.1)++c.d) λp s=>O (Zc b (exec A (Tu l).den {c with d:=[]} λx h=>match x with|.Ve=>S7 c.n p l h some|_=>none) (exec B (Tu l).den {c with d:=[]} λx h=>match x with|.Ve=>S7 c.n p l h some|_=>none)) λf=>Pm (unpack l f {e:=SM (Xt A (Xt B [])) c.e,b:=p,n:=c.n,d:=s}) (K .Ve)else Zc b (exec A R c K) (exec B R c K)|none=>Zc b (exec A R c K) (exec B R c K)
  |_=>none
 |.block id a,R,c,K=>match a with
  |.loop m=>match kQ Z.hs id with
   |none=>none|some l=>J4 c.n c l {g:=c.b} λf k=>let j:XS:={e:=SM (Xt m []) c.e,b:=k.l++k.g,n:=c.n,d:=[]}
    let o:XS:={j with d:=k.r.map (·.1)++c.d}
    bif JO id m then XY (XO (λf=>Pm (unpack l f j) λq=>exec m (LR (Tu l).den R) q λx h=>match x with|.Ve=>S7 j.n j.b l h λf=>some (.next f)|.exit i=>bif Nat.beq i id then S7 j.n j.b l h λf=>some (.brk f)else O (K (.exit i) {h with d:=h.d++o.d}) λr=>some (.ret r)|.ret=>O (K .ret {h with d:=h.d++o.d}) λr=>some (.ret r)) f) λf=>Pm (unpack l f o) (K .Ve)else O (YK (λf=>Pm (unpack l f j) λq=>exec m (LR (Tu l).den Empty) q λx h=>match x with|.Ve=>S7 j.n j.b l h λf=>some (.next f)|.exit i=>bif Nat.beq i id then S7 j.n j.b l h λf=>some (.brk f)else none|.ret=>none) f) λf=>Pm (unpack l f o) (K .Ve)
  |a=>exec a R c λx c=>match x with|.exit i=>bif Nat.beq i id then K .Ve c else K (.exit i) c|x=>K x c
 |.exit i,_,c,K=>K (.exit i) c|.ret,_,c,K=>K .ret c|.scope a,R,c,K=>exec a R c K|.label _,_,c,K=>K .Ve c|_,_,_,_=>none
def uY(N:Nat)(l:List Oper):Bool:=l.all λb=>match b.dst with|some a=>Nat.blt a N|none=>true
def OA(N:Nat):Code->Bool|.region _ ops _=>uY N ops.toList|.seq a b=>OA N a&&OA N b|.cond _ a b=>OA N a&&OA N b|.block _ a=>OA N a|.loop a=>OA N a|.scope a=>OA N a|_=>true
def nP(i:Nat):Bool:=Nat.blt i 100||!Nat.blt i 500
def Tm:Ty->Bool|.hole i=>nP i|.Ue i _=>nP i|.vec _ t=>Tm t|.pair a b=>Tm a&&Tm b|.only t=>Tm t|.sl t=>Tm t|.nz t=>Tm t|.ptr t=>Tm t|.YM _ t=>Tm t|.fn _ a c=>Tm a&&Tm c|.own t=>Tm t|.opt t=>Tm t|.full t=>Tm t|.YO t=>Tm t|.map a b=>Tm a&&Tm b|.YL _ t=>Tm t|.cons a b=>Tm a&&Tm b|_=>true
def J1(l:List (Nat×Ty)):Bool:=l.all λa=>nP a.1&&Tm a.2
def Za7(f:Func)(a:Code)(A:Ty)(B:List (Nat×Ty))(C:Ty)(D:List (Nat×Ty)):Bool:=Tm A&&(J1 B&&(Tm C&&(J1 D&&(Nat.ble (Lk A) f.ntmps&&OA f.ntmps a))))
def QB:(A:Ty)->A.den->Nat->Nat->Bx->En->XS
 |.cons a c,x,i,n,b,e=>match Mt a x.1 n b with|(v,n,b)=>QB c x.2 (i+1) n b ((i,v)::e)
 |_,_,_,n,b,e=>{e:=e,b:=b,n:=n}
def AY:(l:List (Nat×Ty))->(Tw l).den->Nat->Bx->Nat×Bx|[],_,n,b=>(n,b)|(i,t)::l,x,n,b=>match KH i ⟨t,x.1⟩ n b with|(n,b)=>AY l x.2 n b
def Ny(s:XS):(C:Ty)->List ResultVar->CS->(C.den->CS->Option R)->Option R
 |.cons t C,r::rs,a,k=>match r with
  |.tmp u=>match Qj (Ys s.e u)with|some v=>OB t v a λc a=>Ny s C rs a λd a=>k (c,d) a|none=>none
  |.cell u T=>match Ys s.e u with
   |.v ⟨.hole j,_⟩=>Qk a j λb a=>match b with|⟨.own u,b⟩=>bif Bm Z T u then OB t ⟨u,b⟩ a λc a=>Ny s C rs a λd a=>k (c,d) a else none|_=>none
   |_=>none
 |.nl,[],a,k=>k () a|_,_,_,_=>none
def Fc:(l:List (Nat×Ty))->CS->((Tw l).den->CS->Option R)->Option R|[],a,k=>k () a|(i,t)::l,a,k=>Qk a i λb a=>OB t b a λc a=>Fc l a λd a=>k (c,d) a
def jM(f:Func)(u:Bool)(A:Ty)(B:List (Nat×Ty))(C:Ty)(D:List (Nat×Ty))(j:C.den->(Tw D).den->R)(a:A.den)(x:(Tw B).den):Option R:=match f.body with|none=>none|some i=>bif Za7 f i A B C D then(match AY B x 100 []with|(n,b)=>Pm (QB A a 0 n b []) λl=>exec Z i R l λk c=>match k with|.exit _=>none|_=>bif u then(bif A.plain&&(D.isEmpty&&Ht b c.d)then Ny Z c C f.results.toList {g:=c.b} λe d=>bif Ht b (d.r.map (·.1))then Fc D {g:=[]} λh _=>some (j e h)else none else none)else Ny Z c C f.results.toList {g:=c.b} λe d=>Fc D d λh _=>some (j e h))else none
end
end Go.R
namespace Go.R
open Go.Sl
abbrev HP:=List (Nat×Nat×Obj)
def HP.bs(hs:HP):List Nat:=hs.map (·.1)
theorem HP.XL(a b):HP.bs (a++b)=a.bs++b.bs:=Vg
structure GD(m:YD)(hs:HP)(w:World):Prop where
 mem:∀b o v,m b o=some v->w.cell? ⟨b,o,none⟩=some v
 nodup:hs.bs.Nodup
 YY:∀h∈hs,w.heap[h.1]?=some h.2.2free:∀h∈hs,∀o,h.2.1<=o->m h.1 o=none
theorem GD.perm{m}{hs b:HP}{w}(h:GD m hs w)(p:hs.Perm b):GD m b w where mem:=h.mem;nodup:=(p.map _).nodup_iff.1 h.nodup;YY:=λa c=>h.YY a Zm;free:=λa c=>h.free a (p.mem_iff.2 c)
theorem GD.right{m}{hs b}{w}(h:GD m (hs++b) w):GD m b w where
 mem:=h.mem;nodup:=by have:=h.nodup;rw[HP.XL]at this;exact(List.nodup_append.1 this).2.1
 YY:=λa c=>h.YY a Zm;free:=λa c=>h.free a Zm
theorem GD.left{m}{hs a}{w}(h:GD m (hs++a) w):GD m hs w:=(h.perm XJ).right
theorem GD.nil{m}{hs}{w}(h:GD m hs w):GD m [] w:=GD.right (by simpa using h)
theorem GD.lt{m}{hs}{w}(a:GD m hs w){b o}{v}(h:m b o=some v):b<w.heap.size:=cf w _ (a.mem b o v h)
theorem GD.QF{m}{hs}{w}(a:GD m hs w){b}(h:b∈hs.bs):b<w.heap.size:=by obtain⟨d,c,rfl⟩:=Uj h;have:=a.YY d c;grind
theorem GD.drew{m}{hs}{w}(a:GD m hs w):GD m hs w.drew:=⟨a.mem,a.nodup,a.YY,a.free⟩
theorem GD.frame{m g}{h1 h1' h2}{w w'}(e:GD m (h1++h2) w)(f:GD g h1' w')(d:ZG w w' m g h1.bs h1'.bs):GD g (h1'++h2) w'/\ZG w w' m g (h1++h2).bs (h1'++h2).bs:=by
 have j:=e.nodup;rw[HP.XL,TM]at j;have i:=λc a p=>j.2.2 c p c a rfl;have k:∀c∈HP.bs h2,c<w.heap.size:=λc a=>e.QF (by rw[HP.XL];exact Yd (.inr a));refine⟨⟨f.mem,?_,?_,?_⟩,by rw[HP.XL,HP.XL];exact d.wide _⟩
 ·rw[HP.XL,TM];refine⟨f.nodup,j.2.1,λc a q o n=>?_⟩;subst n;rcases d.own c a with h|h;·exact i c o h
  ·grind
 ·intro b hx;rcases Z1 hx with hx|hx;·exact f.YY b hx
  ·have a:b.1∈HP.bs h2:=Pt ⟨b,hx,rfl⟩;rw[(d.Wa b.1 (k _ a) (i _ a)).1];exact e.YY b (Yd (.inr hx))
 ·intro b hx l;rcases Z1 hx with hx|hx;·exact f.free b hx l
  ·have a:b.1∈HP.bs h2:=Pt ⟨b,hx,rfl⟩;rw[(d.Wa b.1 (k _ a) (i _ a)).2];exact e.free b (Yd (.inr hx)) l
theorem ZG.RB{w w'}{m d}{hs hs1:HP}{c}(p:hs.Perm hs1)(h:ZG w w' m d hs1.bs c):ZG w w' m d hs.bs c:=by have e:∀a,a∈hs.bs↔a∈hs1.bs:=λa=>(p.map _).mem_iff;exact{h with Wa:=λa b f=>h.Wa a b XA,own:=λa b=>(h.own a b).imp (e a).2 id}
theorem ZG.QI{w w'}{m a}{hs hs1:HP}{bs}(p:hs1.Perm hs)(h:ZG w w' m a bs hs1.bs):ZG w w' m a bs hs.bs:=by exact h.sub (λc b=>((p.map (·.1)).mem_iff).2 b)
structure KK where
 nm:Nat->Option Value
 fm:Nat->Nat->Option Value
 m:YD
structure KK.le(K K':KK):Prop where
 nm:∀j v,K.nm j=some v->K'.nm j=some v
 fm:∀f i v,K.fm f i=some v->K'.fm f i=some v
 m:XI K.m K'.m
theorem KK.le.refl(K):KK.le K K:=⟨Zb,Zb,XI.refl _⟩
theorem KK.le.trans{a b c}(h:KK.le a b)(k:KK.le b c):KK.le a c:=⟨λg v d=>k.nm g v (h.nm g v d),λe f v d=>k.fm e f v (h.fm e f v d),h.m.trans k.m⟩
def Row{α:Type}(n:Nat)(R:HP->List Value->α->Prop):HP->List Value->List α->Prop|hs,cs,[]=>cs=[]/\hs=[]|hs,cs,x::xs=>∃a b c d,cs=a++b/\hs=c++d/\a.length=n/\R c a x/\Row n R d b xs
def F2{α β:Type}(R:α->β->Prop):List α->List β->Prop|[],ys=>ys=[]|x::xs,ys=>∃a b,ys=a::b/\R x a/\F2 R xs b
def XE(ag:Bool)(cs:List Value):Value:=match ag with|true=>.agg cs.toArray|false=>cs.headD undef
def V7:Ty->List Value->List Value->Prop|.cons a b,cs,vs=>∃c d v e,cs=c++d/\vs=v::e/\c.length=a.n/\v=XE a.ag c/\V7 b d e|.nl,cs,vs=>cs=[]/\vs=[]|_,_,_=>False
def cellsOf(cs:List Value)(T:TypeId):Obj:=.cells cs.toArray T (0,0)
def J0:List Nat->Nat|[]=>0|0::l=>J0 l|(k+1)::l=>k+J0 l
def rel (K:KK):(t:Ty)->HP->List Value->t.den->Prop
 | .int,hs,cs,x=>hs=[]/\cs=[.int .i64 x]
 | .un k w,hs,cs,x=>hs=[]/\cs=[.int k ((x:BitVec w).toNat:Int)]
 | .bool,hs,cs,x=>hs=[]/\cs=[.bool x]
 | .str,hs,cs,x=>hs=[]/\∃G:ByteArray,cs=[.string G]/\G.data.toList.map UInt8.toBitVec=x
 | .vec n t,hs,cs,x=>Row t.n (rel K t) hs cs (Vector.toList x)
 | .pair d a,hs,cs,x=>∃r s o q,hs=r++s/\cs=o++q/\rel K d r o x.1/\rel K a s q x.2
 | .only t,hs,cs,x=>rel K t hs cs x
 | .sl t,hs,cs,x=>hs=[]/\∃d e,cs=[.slice d (List.length x) e]/\List.length x<=e/\(x=[]\/∃a i b,d=some ⟨a,i,none⟩/\Row t.n (rel K t) [] b x/\At K.m a i b)
 | .nz t,hs,cs,x=>hs=[]/\((x=[]/\cs=[.slice none 0 0])\/(x≠[]/\∃a i b e,cs=[.slice (some ⟨a,i,none⟩) (List.length x) e]/\List.length x<=e/\Row t.n (rel K t) [] b x/\At K.m a i b))
 | .ptr t,hs,cs,x=>hs=[]/\((x=none/\cs=[.pointer none])\/∃l a i g,x=some l/\cs=[.pointer (some ⟨a,i,none⟩)]/\rel K t [] g l/\At K.m a i g)
 | .YM f _,hs,cs,x=>hs=[]/\((x=none/\cs=[.pointer none])\/∃n v,x=some n/\K.fm f n=some v/\cs=[v]/\v.oneCell'=true)
 | .hole j,hs,cs,_=>hs=[]/\∃v,K.nm j=some v/\cs=[v]/\v.oneCell'=true
 | .Ue j p,hs,cs,_=>hs=[]/\∃a,K.nm j=some (.pointer (some ⟨a,0,none⟩))/\cs=[.pointer (some ⟨a,J0 p,none⟩)]
 | .fn f d c,hs,cs,x=>hs=[]/\∃as y B,cs=[.func (.func f) as.toArray y.toArray]/\(∃z,V7 d z as/\rel K d [] z x.1)/\(V7 c B y/\rel K c [] B x.2)
 | .Tk,hs,cs,_=>hs=[]/\cs=[.slice none 0 0]
 | .V4,hs,cs,_=>hs=[]/\cs=[.pointer none]
 | .JY,hs,cs,_=>hs=[]/\cs=[.map none]
 | .yj,hs,cs,_=>hs=[]/\cs=[.nilFunc]
 | .bit a,hs,cs,_=>hs=[]/\cs=[.bool a]
 | .own t,hs,cs,x=>∃a m g h,hs=(a,0,cellsOf g m)::h/\cs=[.pointer (some ⟨a,0,none⟩)]/\rel K t h g x
 | .opt t,hs,cs,x=>(x=none/\hs=[]/\cs=[.pointer none])\/∃l a m g h,x=some l/\hs=(a,0,cellsOf g m)::h/\cs=[.pointer (some ⟨a,0,none⟩)]/\rel K t h g l
 | .full t,hs,cs,x=>(x=[]/\hs=[]/\∃d,cs=[.slice d 0 0])\/∃a m e b u h,cs=[.slice (some ⟨a,0,none⟩) (List.length x) e]/\hs=(a,0,cellsOf (b++u) m)::h/\Row t.n (rel K t) h b x/\List.length x<=e/\(b++u).length=e*t.n
 | .YO t,hs,cs,x=>(x=[]/\hs=[]/\∃d,cs=[.slice d 0 0])\/∃a m e b u,cs=[.slice (some ⟨a,0,none⟩) (List.length x) e]/\hs=[(a,b.length,cellsOf (b++u) m)]/\Row t.n (rel K t) [] b x/\At K.m a 0 b/\List.length x<=e/\(b++u).length=e*t.n
 | .map k v,hs,cs,x=>∃a E I,cs=[.map (some a)]/\hs=[(a,0,.map E I)]/\F2 (λ(D:MapEntry) (l:k.den×v.den)=>(∃A,D.key=XE k.ag A/\rel K k [] A l.1)/\(∃C,D.val=XE v.ag C/\rel K v [] C l.2)) E.toList x
 | .YL f t,hs,cs,x=>cs=[]/\∃H,(∀F v,H[F]?=some v->K.fm f F=some v)/\Row 1 (rel K t) hs H x
 | .nl,hs,cs,_=>hs=[]/\cs=[]
 | .cons d a,hs,cs,x=>∃r s o q,hs=r++s/\cs=o++q/\rel K d r o x.1/\rel K a s q x.2
end Go.R
namespace Go.R
open Go.Sl
theorem Row.imp{α}{n}{R a}(h:∀hs cs x,R hs cs x->a hs cs x):∀{xs:List α}{hs}{cs},Row n R hs cs xs->Row n a hs cs xs|[],_,_,k=>k|_::_,_,_,⟨c,c',g,d,e,b,l,r,k⟩=>⟨c,c',g,d,e,b,l,h _ _ _ r,Row.imp h k⟩
theorem F2.imp{α β}{R a}(h:∀x y,R x y->a x y):∀{xs:List α}{ys:List β},F2 R xs ys->F2 a xs ys|[],_,k=>k|_::_,_,⟨y,b,e,r,k⟩=>⟨y,b,e,h _ _ r,F2.imp h k⟩
theorem Xl {K K'}(g:K.le K'):∀{t} {hs} {cs} {x},rel K t hs cs x->rel K' t hs cs x:=by
 intro t
 induction t with
 |vec L t e=>intro hs cs x a;exact Row.imp (λ_ _ _ a=>e a) a
 |pair s d q F=>rintro hs cs x ⟨B,C,w,y,b,z,u,G⟩;exact⟨B,C,w,y,b,z,q u,F G⟩
 |only t e=>intro hs cs x a;exact e (x:=x) a
 |sl t e=>
  rintro hs cs x ⟨b,s,i,c,l,a⟩
  refine⟨b,s,i,c,l,a.imp id (λ⟨d,r,m,Q,f,k⟩=>⟨d,r,m,Q,Row.imp (λ_ _ _ a=>e a) f,k.mono g.m⟩)⟩
 |nz t e=>
  rintro hs cs x ⟨b,a⟩
  refine⟨b,a.imp id (λ⟨U,d,r,m,i,c,l,f,k⟩=>⟨U,d,r,m,i,c,l,Row.imp (λ_ _ _ a=>e a) f,k.mono g.m⟩)⟩
 |ptr t e=>
  rintro hs cs x ⟨b,a⟩
  refine⟨b,a.imp id (λ⟨I,d,r,n,o,c,f,k⟩=>⟨I,d,r,n,o,c,e f,k.mono g.m⟩)⟩
 |YM J t _=>
  rintro hs cs x ⟨b,a⟩
  refine⟨b,a.imp id (λ⟨L,v,o,j,c,A⟩=>⟨L,v,o,g.fm _ _ _ j,c,A⟩)⟩
 |hole X=>rintro hs cs x ⟨b,v,j,c,A⟩;exact⟨b,v,g.nm _ _ j,c,A⟩
 |Ue X u=>rintro hs cs x ⟨b,d,j,c⟩;exact⟨b,d,g.nm _ _ j,c⟩
 |fn J s x0 q W=>
  rintro hs cs x ⟨b,as,M,P,c,⟨N,D,f⟩,T,S⟩
  exact⟨b,as,M,P,c,⟨N,D,q f⟩,T,W S⟩
 |own t e=>rintro hs cs x ⟨d,h,n,p,b,c,f⟩;exact⟨d,h,n,p,b,c,e (x:=x) f⟩
 |opt t e=>
  intro hs cs x a
  refine MV id (λ⟨I,d,h,n,p,o,b,c,f⟩=>⟨I,d,h,n,p,o,b,c,e f⟩) a
 |full t e=>
  intro hs cs x a
  refine MV id (λ⟨d,h,i,m,H,p,c,b,f,l,E⟩=>⟨d,h,i,m,H,p,c,b,Row.imp (λ_ _ _ a=>e a) f,l,E⟩) a
 |YO t e=>
  intro hs cs x a
  refine MV id (λ⟨d,h,i,m,H,c,b,f,k,l,E⟩=>⟨d,h,i,m,H,c,b,Row.imp (λ_ _ _ a=>e a) f,k.mono g.m,l,E⟩) a
 |map x3 v x1 x2=>
  rintro hs cs x ⟨d,R,O,c,b,a⟩
  refine⟨d,R,O,c,b,F2.imp ?_ a⟩
  grind
 |YL J t e=>
  rintro hs cs x ⟨b,Z,D,f⟩
  exact⟨b,Z,λV v j=>g.fm _ _ _ (D V v j),Row.imp (λ_ _ _ a=>e a) f⟩
 |cons s d q F=>rintro hs cs x ⟨B,C,w,y,b,z,u,G⟩;exact⟨B,C,w,y,b,z,q u,F G⟩
 |_=>intro hs cs x a;exact a
theorem Row.length{α}{n}{R}:∀{xs:List α}{hs}{cs},Row n R hs cs xs->cs.length=xs.length*n|[],_,_,h=>by simp[h.1]|_::xs,_,_,⟨c,c',g,b,e,a,l,r,k⟩=>by rw[e,Yw,l,Row.length k,WA,Ta,Om,wK]
theorem Row.cell{α}{n}{R}(a:∀hs cs x,R hs cs x->∀v∈cs,v.oneCell'=true):∀{xs:List α}{hs}{cs},Row n R hs cs xs->∀v∈cs,v.oneCell'=true|[],_,_,h,v,hv=>by simp[h.1]at hv|_::xs,_,_,⟨c,c',g,d,e,b,l,r,k⟩,v,hv=>by rw[e,TL]at hv;exact hv.elim (a _ _ _ r v) (Row.cell a k v)
theorem WH {K}:∀{t} {hs} {cs} {x},rel K t hs cs x->cs.length=t.n:=by
 intro t
 induction t with
 |vec n t b=>intro hs cs x h;have:=Row.length h;simpa[Ty.n]using this
 |pair d c i j=>rintro hs cs x ⟨s,u,q,r,a,rfl,e,k⟩;simp[Ty.n,i e,j k]
 |cons d c i j=>rintro hs cs x ⟨s,u,q,r,a,rfl,e,k⟩;simp[Ty.n,i e,j k]
 |only t b=>intro hs cs x h;exact b h
 |sl t b=>rintro hs cs x ⟨a,d,g,rfl,_⟩;rfl
 |nz t b=>rintro hs cs x ⟨a,⟨_,rfl⟩|⟨_,c,y,p,g,rfl,_⟩⟩<;>rfl
 |ptr t b=>rintro hs cs x ⟨a,⟨_,rfl⟩|⟨A,c,y,l,_,rfl,_⟩⟩<;>rfl
 |YM m t _=>rintro hs cs x ⟨a,⟨_,rfl⟩|⟨n,v,_,_,rfl,_⟩⟩<;>rfl
 |hole w=>rintro hs cs x ⟨a,v,_,rfl,_⟩;rfl
 |Ue w e=>rintro hs cs x ⟨a,c,_,rfl⟩;rfl
 |fn m d C _ _=>rintro hs cs x ⟨a,as,B,E,rfl,_⟩;rfl
 |str=>rintro hs cs x ⟨a,I,rfl,_⟩;rfl
 |own t b=>rintro hs cs x ⟨c,f,l,o,a,rfl,G⟩;rfl
 |opt t b=>rintro hs cs x (⟨_,_,rfl⟩|⟨A,c,f,l,o,_,_,rfl,_⟩)<;>rfl
 |full t b=>rintro hs cs x (⟨_,_,d,rfl⟩|⟨c,f,g,p,z,o,rfl,_⟩)<;>rfl
 |YO t b=>rintro hs cs x (⟨_,_,d,rfl⟩|⟨c,f,g,p,z,rfl,_⟩)<;>rfl
 |map H v _ _=>rintro hs cs x ⟨c,F,D,rfl,_⟩;rfl
 |YL m t b=>rintro hs cs x ⟨rfl,_⟩;rfl
 |_=>rintro hs cs x ⟨_,rfl⟩;rfl
theorem RD {K}:∀{t} {hs} {cs} {x},rel K t hs cs x->∀v∈cs,v.oneCell'=true:=by
 intro t
 induction t with
 |vec y t b=>intro hs cs x f;exact Row.cell (λ_ _ _ f=>b f) f
 |pair e d s u=>rintro hs cs x ⟨q,r,o,p,c,rfl,m,A⟩ v a;grind
 |cons e d s u=>rintro hs cs x ⟨q,r,o,p,c,rfl,m,A⟩ v a;grind
 |only t b=>intro hs cs x f;exact b (x:=x) f
 |sl t b=>rintro hs cs x ⟨c,e,h,rfl,_⟩ v a;simp at a;subst a;rfl
 |nz t b=>rintro hs cs x ⟨c,⟨_,rfl⟩|⟨_,d,z,n,h,rfl,_⟩⟩ v a<;>(simp at a;subst a;rfl)
 |ptr t b=>rintro hs cs x ⟨c,⟨_,rfl⟩|⟨D,d,z,j,_,rfl,_⟩⟩ v a<;>(simp at a;subst a;rfl)
 |YM k t _=>
  rintro hs cs x ⟨c,⟨_,rfl⟩|⟨y,v,_,_,rfl,i⟩⟩ C a
  ·simp at a;subst a;rfl
  ·simp at a;subst a;exact i
 |hole w=>rintro hs cs x ⟨c,v,_,rfl,i⟩ C a;simp at a;subst a;exact i
 |Ue w m=>rintro hs cs x ⟨c,d,_,rfl⟩ v a;simp at a;subst a;rfl
 |fn k e F _ _=>rintro hs cs x ⟨c,as,E,H,rfl,_⟩ v a;simp at a;subst a;rfl
 |str=>rintro hs cs x ⟨c,M,rfl,_⟩ v a;simp at a;subst a;rfl
 |own t b=>rintro hs cs x ⟨d,g,j,l,c,rfl,J⟩ v a;simp at a;subst a;rfl
 |opt t b=>rintro hs cs x (⟨_,_,rfl⟩|⟨D,d,g,j,l,_,_,rfl,_⟩) v a<;>(simp at a;subst a;rfl)
 |full t b=>rintro hs cs x (⟨_,_,e,rfl⟩|⟨d,g,h,n,B,l,rfl,_⟩) v a<;>(simp at a;subst a;rfl)
 |YO t b=>rintro hs cs x (⟨_,_,e,rfl⟩|⟨d,g,h,n,B,rfl,_⟩) v a<;>(simp at a;subst a;rfl)
 |map L v _ _=>rintro hs cs x ⟨d,I,G,rfl,_⟩ v a;simp at a;subst a;rfl
 |YL k t b=>rintro hs cs x ⟨rfl,_⟩ v a;simp at a
 |nl=>rintro hs cs x ⟨_,rfl⟩ v a;simp at a
 |_=>rintro hs cs x ⟨_,rfl⟩ v a;simp at a;subst a;rfl
theorem Row.Lo{α}{n}{R:HP->List Value->α->Prop}(a:∀hs cs x,R hs cs x->hs=[]):∀{xs}{hs}{cs},Row n R hs cs xs->hs=[]|[],_,_,h=>h.2|_::xs,_,_,⟨c,c',g,d,e,b,l,r,k⟩=>by rw[b,a _ _ _ r,Row.Lo a k];rfl
theorem SD{K}:∀{t},t.plain=true->∀{hs}{cs}{x},rel K t hs cs x->hs=[]:=by intro t;induction t with|vec q t b=>exactλa hs cs x c=>Row.Lo (λ_ _ _ c=>b a c) c|pair e f k l=>intro a;simp[Ty.plain,Yv]at a;rintro hs cs x⟨i,j,g,h,d,rfl,m,n⟩;grind|cons e f k l=>intro a;simp[Ty.plain,Yv]at a;rintro hs cs x⟨i,j,g,h,d,rfl,m,n⟩;grind|only t b=>exactλa hs cs x c=>b a c|own t b=>intro a;cases a|opt t b=>intro a;cases a|full t b=>intro a;cases a|YO t b=>intro a;cases a|map p v _ _=>intro a;cases a|YL o t b=>intro a;cases a|_=>exactλa hs cs x⟨d,_⟩=>d
end Go.R
namespace Go.R
open Go.Sl
section
variable{α:Type}{n:Nat}{R:HP->List Value->α->Prop}
theorem Row.append:∀{xs ys}{h1 h2}{a b},Row n R h1 a xs->Row n R h2 b ys->Row n R (h1++h2) (a++b) (xs++ys)|[],_,_,_,_,_,h,k=>by rw[h.1,h.2];exact k|_::_,_,_,_,_,_,⟨c,c',g,d,e,i,l,r,k⟩,f=>⟨c,c'++_,g,d++_,Zm,Zm,l,r,Row.append k f⟩
theorem Row.split:∀{xs ys}{hs}{cs},Row n R hs cs (xs++ys)->∃h1 h2,hs=h1++h2/\Row n R h1 (cs.take (xs.length*n)) xs/\Row n R h2 (cs.drop (xs.length*n)) ys|[],ys,hs,cs,h=>⟨[],hs,rfl,by simp[Row],XA⟩|x::xs,ys,hs,cs,⟨c,c',g,j,e,f,l,r,k⟩=>by have⟨h1,h2,i,b,d⟩:=Row.split k;have a:(x::xs).length*n=c.length+xs.length*n:=Zm;refine⟨g++h1,h2,Zm,⟨c,c'.take _,g,h1,Zm,rfl,l,r,b⟩,by rw[a,e];simpa[Re]using d⟩
theorem Row.single{x}{hs}{cs}(a:cs.length=n)(h:R hs cs x):Row n R hs cs [x]:=⟨cs,[],hs,[],Zb,Zb,a,h,rfl,rfl⟩
theorem Row.j5{x}{hs}{cs}(h:Row n R hs cs [x]):cs.length=n/\R hs cs x:=by obtain⟨a,b,e,f,c,d,j,k,g,i⟩:=h;grind
theorem Row.at{xs}{hs}{cs}(h:Row n R hs cs xs){i}(hi):∃h1 a h2,hs=h1++(a++h2)/\Row n R h1 (cs.take (i*n)) (xs.take i)/\R a ((cs.drop (i*n)).take n) xs[i]/\Row n R h2 (cs.drop (i*n+n)) (xs.drop (i+1))/\i*n+n<=cs.length:=by have l:=h.length;rw[jf hi]at h;have⟨h1,h2,f,d,e⟩:=Row.split h;obtain⟨a,k,g,b,c⟩:=Row.split e;have j:(List.take i xs).length=i:=Zm;rw[j]at d e b c;simp at b c;refine⟨h1,a,k,by rw[f,g],d,b.j5.2,c,?_⟩;have:(i+1)*n<=xs.length*n:=RM _ hi;grind
theorem Row.set{xs:List α}{cs:List Value}{i}(hi:i<xs.length){h1 b h2}{a}{y}(f:Row n R h1 (cs.take (i*n)) (xs.take i))(g:Row n R h2 (cs.drop (i*n+n)) (xs.drop (i+1)))(d:a.length=n)(e:R b a y):Row n R (h1++(b++h2)) (cs.take (i*n)++a++cs.drop (i*n+n)) (xs.set i y):=by
 have c:xs.set i y=xs.take i++([y]++xs.drop (i+1)):=by rw[Zgr,YW hi,Db]
 rw[c,Z5];exact f.append ((Row.single d e).append g)
theorem Row.take{xs}{cs}(k)(h:Row n R [] cs xs):Row n R [] (cs.take (k*n)) (xs.take k):=by
 by_cases d:k<=xs.length;·rw[<-Sb k xs]at h;have⟨b,c,a,f,_⟩:=Row.split h;simp_all
 ·have e:xs.take k=xs:=VT Y;have:cs.take (k*n)=cs:=VT (by rw[h.length];exact RM _ Y);grind
theorem Row.drop{xs}{cs}(k)(h:Row n R [] cs xs):Row n R [] (cs.drop (k*n)) (xs.drop k):=by
 by_cases e:k<=xs.length;·rw[<-Sb k xs]at h;have⟨c,d,b,_,f⟩:=Row.split h;simp_all
 ·have a:xs.drop k=[]:=Re Y;have:cs.drop (k*n)=[]:=Re (by rw[h.length];exact RM _ Y);rw[a,this];exact⟨rfl,rfl⟩
end
inductive QY:TV->List PS->TV->Prop|nil{v:TV}:QY v [] v|a{a b:Ty}{x:(Ty.pair a b).den}{p:List PS}{u:TV}:QY ⟨a,x.1⟩ p u->QY ⟨.pair a b,x⟩ (.a::p) u|b{a b:Ty}{x:(Ty.pair a b).den}{p:List PS}{u:TV}:QY ⟨b,x.2⟩ p u->QY ⟨.pair a b,x⟩ (.b a.n::p) u|o{t:Ty}{x:t.den}{p:List PS}{u:TV}:QY ⟨t,x⟩ p u->QY ⟨.only t,x⟩ (.o::p) u|vec{n:Nat}{t:Ty}{x:Vector t.den n}{i:Int}{y:t.den}{p:List PS}{u:TV}:Bs x i=some y->QY ⟨t,y⟩ p u->QY ⟨.vec n t,x⟩ (.ix i t.n n::p) u
inductive Rh:TV->List PS->TV->TV->Prop|nil{v y:TV}:v.t.n=y.t.n->Rh v [] y y|a{a b:Ty}{x:(Ty.pair a b).den}{p:List PS}{y r:TV}:Rh ⟨a,x.1⟩ p y r->Rh ⟨.pair a b,x⟩ (.a::p) y ⟨.pair r.t b,(r.x,x.2)⟩|b{a b:Ty}{x:(Ty.pair a b).den}{p:List PS}{y r:TV}:Rh ⟨b,x.2⟩ p y r->Rh ⟨.pair a b,x⟩ (.b a.n::p) y ⟨.pair a r.t,(x.1,r.x)⟩|o{t:Ty}{x:t.den}{p:List PS}{y r:TV}:Rh ⟨t,x⟩ p y r->Rh ⟨.only t,x⟩ (.o::p) y ⟨.only r.t,r.x⟩|db{n:Nat}{t:Ty}{x:Vector t.den n}{i:Int}{z:t.den}:Rh ⟨.vec n t,x⟩ [.ix i t.n n] ⟨t,z⟩ ⟨.vec n t,x.setIfInBounds i.toNat z⟩|vec{n:Nat}{t:Ty}{x:Vector t.den n}{i:Int}{w z:t.den}{p:List PS}{y:TV}:Bs x i=some w->Rh ⟨t,w⟩ p y ⟨t,z⟩->Rh ⟨.vec n t,x⟩ (.ix i t.n n::p) y ⟨.vec n t,x.setIfInBounds i.toNat z⟩
theorem DG{a b c d:Nat}(h:(Nat.beq a b&&Nat.beq c d)=true):a=b/\c=d:=by simp_all
theorem Yk{α:Type}{b}{x}{r:α}(h:(bif b then x else none)=some r):b=true/\x=some r:=by grind
theorem S5{R}{t}{v}{k}{r:R}(h:TU t v k=some r):∃x,v=⟨t,x⟩/\k x=some r:=by
 unfold TU at h;split at h;·obtain⟨a,x⟩:=v;grind
 ·cases h
theorem Kk{R}:∀{p}{v}{k}{r:R},Nn v p k=some r->∃u,QY v p u/\k u=some r
 |[],v,k,r,h=>by
  have:Nn v [] k=k v:=by rfl
  exact⟨v,.nil,h⟩|s::p,⟨t,x⟩,k,r,h=>by
  cases t<;>cases s<;>simp[Nn]at h<;>try grind
  ·have⟨e,f⟩:=Yk h;have⟨e,i⟩:=DG e;subst e i;have⟨l,j,g⟩:=U3 f;have⟨u,d,c⟩:=Kk g;exact⟨u,.vec j d,c⟩
  ·have⟨u,d,c⟩:=Kk h;exact⟨u,.a d,c⟩
  ·have⟨e,f⟩:=Yk h;cases Xu e;have⟨u,d,c⟩:=Kk f;exact⟨u,.b d,c⟩
  ·have⟨u,d,c⟩:=Kk h;exact⟨u,.o d,c⟩
theorem pI{R}{p}:∀{v y}{k}{r:R},QK v p y k=some r->∃u,Rh v p y u/\k u=some r:=by
 induction p with|nil=>
  intro v y k r c;have:QK v [] y k=bif Nat.beq v.t.n y.t.n then k y else none:=by cases v;rfl
  rw[this]at c;obtain⟨d,c⟩:=Yk c;exact⟨y,.nil (Xu d),c⟩|cons q p h=>
  rintro⟨t,z⟩y k r c;cases t<;>cases q<;>(first|(simp only[QK]at rfl;done)|(cases p<;>simp only[QK]at c<;>cases c<;>done)|skip);case vec.ix=>cases p with|nil=>simp only[QK]at c;obtain⟨d,f⟩:=Yk c;obtain⟨d,j⟩:=DG d;subst d j;obtain⟨s,rfl,i⟩:=S5 f;exact⟨_,.db,i⟩|cons w p=>simp only[QK]at c;obtain⟨d,f⟩:=Yk c;obtain⟨d,j⟩:=DG d;subst d j;obtain⟨x,n,i⟩:=U3 f;obtain⟨u,e,l⟩:=h i;obtain⟨s,rfl,m⟩:=S5 l;exact⟨_,.vec n e,m⟩
  case pair.a=>simp only[QK]at c;obtain⟨u,e,g⟩:=h c;exact⟨_,.a e,g⟩
  case pair.b=>simp only[QK]at c;obtain⟨d,f⟩:=Yk c;cases Xu d;obtain⟨u,e,g⟩:=h f;exact⟨_,.b e,g⟩
  case only.o=>simp only[QK]at c;obtain⟨u,e,g⟩:=h c;exact⟨_,.o e,g⟩
theorem focus{K}{v u}{p}(h:QY v p u):∀{hs}{cs},rel K v.t hs cs v.x->∃k d,hs.Perm (k++d)/\rel K u.t k ((cs.drop (Z8 p)).take u.t.n) u.x/\Z8 p+u.t.n<=cs.length/\∀{K'}{y B},K.le K'->Rh v p y B->∀{m}{s},rel K' y.t m s y.x->y.t.n=u.t.n/\∃f,f.Perm (m++d)/\rel K' B.t f (cs.take (Z8 p)++s++cs.drop (Z8 p+u.t.n)) B.x:=by induction h with
 |@nil v=>intro hs cs d;have M:=WH d;refine⟨hs,[],Zb,by simpa[Z8,<-M]using d,by simp[Z8,M],?_⟩;intro K' y B j q m s l;cases q with|nil E=>exact⟨E.symm,m,Zb,by simpa[Z8,<-M]using l⟩
 |@a a b x p u h G=>rintro hs cs⟨e,g,L,Z,rfl,rfl,J,O⟩;obtain⟨k,d,q,A,H,F⟩:=G J;refine⟨k,d++g,by rw[<-Z5];exact q.append_right g,by rw[show Z8 (.a::p)=Z8 p from rfl,OZ Y,MT (by rw[Wn];omega)];exact A,by rw[show Z8 (.a::p)=Z8 p from rfl,Yw];omega,?_⟩;·intro K' y B j c m s l;cases c with|@a _ _ _ _ _ r c=>obtain⟨E,f,I,z⟩:=F j c l;refine⟨E,f++g,by rw[<-Z5];exact I.append_right g,f,g,_,_,rfl,?_,z,Xl j O⟩;rw[show Z8 (.a::p)=Z8 p from rfl,MT Y,OZ Y];simp only[Z5]
 |@b a b x p u h G=>
  rintro hs cs⟨e,g,L,Z,rfl,rfl,J,O⟩;obtain⟨k,d,q,A,H,F⟩:=G O;have D:Z8 (.b a.n::p)=L.length+Z8 p:=by rw[WH J];rfl
  refine⟨k,e++d,?_,by rw[D,np,Re Y,UW];simpa using A,by rw[D,Yw];omega,?_⟩;·refine(q.append_left e).trans ?_;rw[<-Z5,<-Z5];exact XJ.append_right d
  ·intro K' y B j c m s l;cases c with|@b _ _ _ _ _ r c=>
    obtain⟨E,f,I,z⟩:=F j c l;refine⟨E,e++f,?_,e,f,L,_,rfl,?_,Xl j J,z⟩;·refine(I.append_left e).trans ?_;rw[<-Z5,<-Z5];exact XJ.append_right d
    ·rw[D,List.take_append,VT Y,np,Re Y];simp only[Z5,UW];congr 3;·congr 1;omega
     ·congr 2;omega
 |@o t x p u h G=>intro hs cs d;obtain⟨k,z,q,A,H,F⟩:=G (hs:=hs) (cs:=cs) d;refine⟨k,z,q,A,H,?_⟩;intro K' y B j c m s l;cases c with|@o _ _ _ _ r c=>exact F j c l
 |@vec n t x i y p u hv h G=>
  intro hs cs d;obtain⟨h0,hi,x0⟩:=oy hv;have P:i.toNat<x.toList.length:=by simpa using hi
  obtain⟨e,hm,g,eh,k1,N,k3,x4⟩:=Row.at (xs:=x.toList) d P;have x1:x.toList[i.toNat]=y:=by rw[<-x0];simp
  rw[x1]at N;obtain⟨k,z,q,A,H,F⟩:=G N;have D:Z8 (.ix i t.n n::p)=i.toNat*t.n+Z8 p:=rfl;have x3:Z8 p+u.t.n<=t.n:=by rw[<-WH N];exact H
  refine⟨k,e++(z++g),?_,?_,by rw[D];omega,?_⟩;·rw[eh];refine(VA e (q.append_right g)).trans ?_;rw[Z5,<-Z5 e,<-Z5 k];exact XJ.append_right _
  ·rw[MQ,UV,Jk]at A;rw[D,<-Pu (show u.t.n<=t.n-Z8 p by omega)];exact A
  ·intro K' U B j c m s l;have T:∀{C:t.den},Rh ⟨t,y⟩ p U ⟨t,C⟩->U.t.n=u.t.n/\∃f,f.Perm (m++(e++(z++g)))/\rel K' (.vec n t) f (cs.take (Z8 (.ix i t.n n::p))++s++cs.drop (Z8 (.ix i t.n n::p)+u.t.n)) (x.setIfInBounds i.toNat C):=by
    intro C c;obtain⟨E,f,I,Q⟩:=F j c l;refine⟨E,e++(f++g),?_,?_⟩;·refine(VA e (I.append_right g)).trans ?_;rw[Z5,<-Z5 e,<-Z5 m];exact XJ.append_right _
    ·have e1:(x.setIfInBounds i.toNat C).toList=x.toList.set i.toNat C:=by simp[Vector.toList]
     show Row t.n (rel K' t) _ _ (Vector.toList (x.setIfInBounds i.toNat C));rw[e1];refine cast (X7 (λX=>Row t.n (rel K' t) _ X _) ?_) (Row.set (R:=rel K' t) (y:=C) P (Row.imp (λ_ _ _ h=>Xl j h) k1) (Row.imp (λ_ _ _ h=>Xl j h) k3) (WH Q) Q);rw[D];have x2:=WH l;simp only[Z5,Jk,MQ,UV];rw[<-Z5 (List.take _ _) (List.take _ _)];have V:List.take (i.toNat*t.n) cs++List.take (min (Z8 p) t.n) (List.drop (i.toNat*t.n) cs)=List.take (i.toNat*t.n+Z8 p) cs:=by rw[Pu Y,Dc]
     have W:List.take (t.n-(Z8 p+u.t.n)) (List.drop (i.toNat*t.n+(Z8 p+u.t.n)) cs)++List.drop (i.toNat*t.n+t.n) cs=List.drop (i.toNat*t.n+Z8 p+u.t.n) cs:=by
      have:List.drop (i.toNat*t.n+t.n) cs=List.drop (t.n-(Z8 p+u.t.n)) (List.drop (i.toNat*t.n+(Z8 p+u.t.n)) cs):=by rw[UV];congr 1;omega
      rw[this,Sb];congr 1;omega
     rw[V,W]
   cases c with
   |db=>cases h with|nil=>exact T (.nil rfl)
   |@vec _ _ _ _ w C _ _ S c=>rw[hv]at S;cases S;exact T c
def RU:List PS->Prop|[]=>True|.ix i _ m::p=>(0<=i/\i.toNat<m)/\RU p|_::p=>RU p
theorem Rh.at{v y r}{p}(h:Rh v p y r):RU p->∃u,QY v p u:=by induction h with|nil _=>exactλ_=>⟨_,.nil⟩|a _ c=>intro b;have⟨u,h⟩:=c b;exact⟨u,.a h⟩|b _ c=>intro b;have⟨u,h⟩:=c b;exact⟨u,.b h⟩|o _ c=>intro b;have⟨u,h⟩:=c b;exact⟨u,.o h⟩|@db n t x i z=>intro b;have⟨⟨e,f⟩,_⟩:=b;exact⟨_,.vec (y:=x[i.toNat]) (by unfold Bs;grind) .nil⟩|vec d _ c=>intro b;have⟨u,h⟩:=c b.2;exact⟨u,.vec d h⟩
def Wg(K:KK)(j:Nat)(v:TV)(h:HP):Prop:=∃a,rel K v.t h a v.x/\∀b∈a,K.nm j=some b
def ZH(K:KK):Bx->HP->Prop|[],_=>True|(j,v)::b,hs=>∃a c,hs.Perm (a++c)/\Wg K j v a/\ZH K b c
theorem Wg.mono{K K'}(a:K.le K'){j}{v}{h}(p:Wg K j v h):Wg K' j v h:=by have⟨b,c,d⟩:=p;exact⟨b,Xl a c,λf e=>a.nm _ _ (d f e)⟩
theorem ZH.mono{K K'}(a:K.le K'):∀{b}{hs},ZH K b hs->ZH K' b hs|[],_,_=>trivial|_::_,_,⟨h1,h2,c,p,q⟩=>⟨h1,h2,c,p.mono a,ZH.mono a q⟩
theorem ZH.perm{K}:∀{b}{hs a},hs.Perm a->ZH K b hs->ZH K b a|[],_,_,_,_=>trivial|_::_,_,_,c,⟨h1,h2,d,p,q⟩=>⟨h1,h2,c.symm.trans d,p,q⟩
theorem ZH.more{K}:∀{b}{hs}(r),ZH K b hs->ZH K b (hs++r)|[],_,_,_=>trivial|_::_,_,r,⟨h1,h2,a,p,q⟩=>⟨h1,h2++r,by rw[<-Z5];exact a.append_right r,p,ZH.more r q⟩
theorem ZH.append{K}:∀{b c}{hs},ZH K (b++c) hs↔∃h1 h2,hs.Perm (h1++h2)/\ZH K b h1/\ZH K c h2
 |[],c,hs=>⟨λk=>⟨[],hs,Zb,trivial,k⟩,λ⟨h1,h2,a,_,d⟩=>(ZH.more _ d).perm (XJ.trans a.symm)⟩|(j,v)::b,c,hs=>by
  constructor;·rintro⟨h1,h2,a,h,d⟩;have⟨e,f,g,l,i⟩:=ZH.append.1 d;exact⟨h1++e,f,by rw[Z5];exact a.trans (VA _ g),⟨h1,e,Zb,h,l⟩,i⟩
  ·exactλ⟨h1,h2,a,⟨e,f,g,h,d⟩,i⟩=>⟨e,f++h2,by rw[<-Z5];exact a.trans (g.append_right _),h,ZH.append.2 ⟨f,h2,Zb,d,i⟩⟩
theorem ZH.nil{K}{hs}:ZH K [] hs:=trivial
theorem Mb{j i}{v}{b:Bx}:ZF ((j,v)::b) i=bif Nat.beq j i then some v else ZF b i:=rfl
theorem beq_false{a b:Nat}(h:a≠b):Nat.beq a b=false:=by cases hb:Nat.beq a b<;>simp_all
theorem ZH.del{K}{j}:∀{b}{hs},ZH K b hs->ZH K (Vi b j) hs|[],_,_=>trivial|(i,v)::b,hs,⟨h1,h2,a,p,q⟩=>by show ZH K (bif Nat.beq i j then Vi b j else(i,v)::Vi b j) _;cases hb:Nat.beq i j with|true=>exact(ZH.more _ (ZH.del q)).perm (XJ.trans a.symm)|false=>exact⟨h1,h2,a,p,ZH.del q⟩
theorem ZH.get{K}{j}{v}:∀{b}{hs},ZF b j=some v->ZH K b hs->∃h1 h2,hs.Perm (h1++h2)/\Wg K j v h1/\ZH K (Vi b j) h2|[],_,e,_=>by cases e|(i,u)::b,hs,e,⟨h1,h2,c,p,q⟩=>by rw[Mb]at e;cases hb:Nat.beq i j with|true=>rw[hb]at e;cases Xu hb;cases e;refine⟨h1,h2,c,p,?_⟩;unfold Vi;rw[hb];exact ZH.del q|false=>
   rw[hb]at e;have⟨d,a,f,g,h⟩:=ZH.get e q;refine⟨d,h1++a,?_,g,?_⟩;·refine c.trans ((VA _ f).trans ?_);rw[<-Z5,<-Z5];exact XJ.append_right _
   ·show ZH K (bif Nat.beq i j then Vi b j else(i,u)::Vi b j) _;rw[hb];exact⟨h1,a,Zb,p,h⟩
structure Y0(w:World)(K:KK)(hs:HP)(K':KK)(hs':HP):Prop where
 le:K.le K'
 nm:K'.nm=K.nm
 step:GD K.m hs w->GD K'.m hs' w/\ZG w w K.m K'.m hs.bs hs'.bs
theorem Y0.refl(w)(K)(hs):Y0 w K hs K hs:=⟨KK.le.refl K,rfl,λa=>⟨a,ZG.refl _ _ _⟩⟩
theorem Y0.trans{w}{K c K2}{hs h1 h2}(a:Y0 w K hs c h1)(b:Y0 w c h1 K2 h2):Y0 w K hs K2 h2:=⟨a.le.trans b.le,b.nm.trans a.nm,λh=>let⟨f,d⟩:=a.step h;let⟨g,e⟩:=b.step f;⟨g,d.trans e⟩⟩
theorem Y0.frame{w}{K K'}{h1 h1'}(h2)(a:Y0 w K h1 K' h1'):Y0 w K (h1++h2) K' (h1'++h2):=⟨a.le,a.nm,λb=>let⟨d,c⟩:=a.step b.left;GD.frame b d c⟩
theorem Y0.perm{w}{K K'}{h1 h1' g b}(p:g.Perm h1)(q:h1'.Perm b)(a:Y0 w K h1 K' h1'):Y0 w K g K' b:=⟨a.le,a.nm,λe=>let⟨d,c⟩:=a.step (e.perm p);⟨d.perm q,ZG.QI q (ZG.RB p c)⟩⟩
theorem Y0.Zcn{w}{K}{g a}(p:g.Perm a):Y0 w K g K a:=Y0.perm Zb p (Y0.refl w K g)
def YD.Qf(m:YD)(b k:Nat)(cs:List Value):YD:=λc a=>if c=b/\a<k then cs[a]?else m c a
theorem qz{w}{K}{h:HP}{b k}{cs}{T}(c:GD K.m ((b,0,cellsOf cs T)::h) w):∃K',K.le K'/\K'.fm=K.fm/\(∀o v,o<k->cs[o]?=some v->K'.m b o=some v)/\Y0 w K ((b,0,cellsOf cs T)::h) K' ((b,k,cellsOf cs T)::h):=by
 have p:∀o,K.m b o=none:=λo=>c.free (b,0,cellsOf cs T) Zb o (VD _);have g:XI K.m (YD.Qf K.m b k cs):=by intro d o v a;unfold YD.Qf;grind
 have l:=c.YY (b,0,cellsOf cs T) Zb;have m:=c.nodup;simp only[HP.bs,XF,T9]at m;refine⟨⟨K.nm,K.fm,YD.Qf K.m b k cs⟩,⟨λ_ _ h=>h,λ_ _ _ h=>h,g⟩,rfl,?_,⟨λ_ _ h=>h,λ_ _ _ h=>h,g⟩,rfl,λ_=>⟨⟨?_,c.nodup,?_,?_⟩,?_⟩⟩;·intro o v i a;show YD.Qf K.m b k cs b o=some v;unfold YD.Qf;rw[YW ⟨rfl,i⟩];exact a
 ·intro d o v a;simp only[YD.Qf]at a;split at a;·rename_i e;obtain⟨rfl,_⟩:=e;simp only[World.cell?,l,cellsOf];simpa using a
  ·exact c.mem d o v a
 ·intro j hx;rcases XB hx with rfl|hx;·exact l
  ·exact c.YY j (XG _ hx)
 ·intro j hx o i;rcases XB hx with rfl|hx;·simp only[YD.Qf];grind
  ·simp only[YD.Qf];rw[Yg (by exactλ⟨h,_⟩=>(λa=>m.1 (by rw[<-a];exact VC (f:=(·.1)) hx)) h)];exact c.free j (XG _ hx) o i
 ·refine⟨rfl,rfl,rfl,YG _,λd _ n=>⟨rfl,λo=>?_⟩,λd e=>.inl e,g⟩;simp only[YD.Qf];rw[Yg (by exactλ⟨h,_⟩=>(λa=>n (by simp[HP.bs,a])) h)]
def KK.WO(K:KK)(s:List (Nat×Nat)):KK:={K with nm:=λa=>if Nat.blt a 1000=true then(US s a).bind K.nm else K.nm a}
theorem KK.Ia{K K':KK}(h:K.le K'){s s'}(hs:∀i j,US s i=some j->US s' i=some j):(K.WO s).le (K'.WO s'):=by
 refine⟨λi v a=>?_,h.fm,h.m⟩;simp[KK.WO]at a⊢;split at a;·rename_i b;have⟨j,c,d⟩:=Dg a;rw[YW b,hs i j c];exact h.nm _ _ d
 ·rename_i b;rw[Yg b];exact h.nm _ _ a
theorem qV {K K2}(R:K2.fm=K.fm)(r:K2.m=K.m):∀{t},t.nh=true->∀{hs} {cs} {x},rel K t hs cs x->rel K2 t hs cs x:=by
 intro t
 induction t with
 |vec x4 t d=>exact λa hs cs x b=>Row.imp (λ_ _ _ b=>d a b) b
 |pair q e o E=>
  intro a;simp only[Ty.nh,Yv]at a
  rintro hs cs x ⟨A,B,u,w,c,y,s,F⟩;exact⟨A,B,u,w,c,y,o a.1 s,E a.2 F⟩
 |only t d=>exact λa hs cs x b=>d a (x:=x) b
 |sl t d=>
  refine λa hs cs x ⟨c,q,i,f,k,b⟩=>⟨c,q,i,f,k,b.imp id (λ⟨e,p,l,O,g,j⟩=>⟨e,p,l,O,Row.imp (λ_ _ _ b=>d a b) g,by rw[r];exact j⟩)⟩
 |nz t d=>
  refine λa hs cs x ⟨c,b⟩=>⟨c,b.imp id (λ⟨U,e,p,l,i,f,k,g,j⟩=>⟨U,e,p,l,i,f,k,Row.imp (λ_ _ _ b=>d a b) g,by rw[r];exact j⟩)⟩
 |ptr t d=>
  refine λa hs cs x ⟨c,b⟩=>⟨c,b.imp id (λ⟨H,e,p,m,z,f,g,j⟩=>⟨H,e,p,m,z,f,d a g,by rw[r];exact j⟩)⟩
 |YM I t _=>
  refine λa hs cs x ⟨c,b⟩=>⟨c,b.imp id ?_⟩
  grind
 |hole X=>intro a;cases a
 |Ue X s=>intro a;cases a
 |fn I q x0 o W=>
  intro a;simp only[Ty.nh,Yv]at a
  rintro hs cs x ⟨c,as,J,N,f,⟨L,C,g⟩,T,S⟩
  exact⟨c,as,J,N,f,⟨L,C,o a.1 g⟩,T,W a.2 S⟩
 |own t d=>exact λa hs cs x ⟨e,h,m,n,c,f,g⟩=>⟨e,h,m,n,c,f,d a (x:=x) g⟩
 |opt t d=>
  refine λa hs cs x b=>MV id (λ⟨H,e,h,m,n,z,c,f,g⟩=>⟨H,e,h,m,n,z,c,f,d a g⟩) b
 |full t d=>
  refine λa hs cs x b=>MV id (λ⟨e,h,i,l,G,n,f,c,g,k,D⟩=>⟨e,h,i,l,G,n,f,c,Row.imp (λ_ _ _ b=>d a b) g,k,D⟩) b
 |YO t d=>
  refine λa hs cs x b=>MV id (λ⟨e,h,i,l,G,f,c,g,j,k,D⟩=>⟨e,h,i,l,G,f,c,Row.imp (λ_ _ _ b=>d a b) g,by rw[r];exact j,k,D⟩) b
 |map x3 v x1 x2=>
  intro a;simp only[Ty.nh,Yv]at a
  rintro hs cs x ⟨e,P,M,f,c,b⟩
  refine⟨e,P,M,f,c,F2.imp ?_ b⟩
  grind
 |YL I t d=>
  exact λa hs cs x ⟨c,Z,C,g⟩=>⟨c,Z,λV v Q=>by rw[R];exact C V v Q,Row.imp (λ_ _ _ b=>d a b) g⟩
 |cons q e o E=>
  intro a;simp only[Ty.nh,Yv]at a
  rintro hs cs x ⟨A,B,u,w,c,y,s,F⟩;exact⟨A,B,u,w,c,y,o a.1 s,E a.2 F⟩
 |_=>exact λa hs cs x b=>b
theorem HS{K}{s}{t}(a:t.nh=true){hs}{cs}{x}(h:rel K t hs cs x):rel (K.WO s) t hs cs x:=qV (K:=K) (K2:=K.WO s) rfl rfl a h
theorem qX{K}{s}{t}(a:t.nh=true){hs}{cs}{x}(h:rel (K.WO s) t hs cs x):rel K t hs cs x:=qV (K:=K.WO s) (K2:=K) rfl rfl a h
def Yt(K:KK)(b:Bx):Prop:=∀a d(e:List d.den),(Yj a,(⟨.YL a d,e⟩:TV))∈b->∀c,e.length<=c->K.fm a c=none
def W3(K K':KK)(b:Bx):Prop:=∀a,(∀c∈b,c.1≠Yj a)->K'.fm a=K.fm a
theorem W3.refl(K)(b):W3 K K b:=λ_ _=>rfl
theorem Yt.sub{K}{b c}(h:Yt K b)(s:∀p∈c,p∈b):Yt K c:=λa e f d=>h a e _ (s _ d)
theorem IU{b}{j}:∀p∈Vi b j,p∈b:=by induction b with|nil=>intro p a;cases a|cons d b e=>have⟨c,v⟩:=d;intro p a;have a:p∈bif Nat.beq c j then Vi b j else(c,v)::Vi b j:=a;cases hb:Nat.beq c j<;>grind
theorem W8{b}{j}{v}(h:ZF b j=some v):(j,v)∈b:=by induction b with|nil=>cases h|cons c b d=>have⟨a,e⟩:=c;rw[Mb]at h;cases hb:Nat.beq a j<;>simp_all
theorem JB{b}{i j}{v}(h:ZF (Vi b j) i=some v):ZF b i=some v/\i≠j:=by induction b with|nil=>cases h|cons g b e=>have⟨a,f⟩:=g;have h:ZF (bif Nat.beq a j then Vi b j else(a,f)::Vi b j) i=some v:=h;rw[Mb];cases hb:Nat.beq a j with|true=>rw[hb]at h;cases Xu hb;have⟨c,d⟩:=e h;rw[beq_false Zm];exact⟨c,d⟩|false=>rw[hb]at h;simp[TO,Mb]at h;cases hk:Nat.beq a i<;>grind
theorem JC{b}{i}{v}:∀{r},ZF (X0 r b) i=some v->ZF b i=some v|[],h=>h|_::r,h=>JC (JB h).1
theorem Zab(r s b):X0 (r++s) b=X0 r (X0 s b):=by simp[X0]
theorem Kg{b}:∀{r},∀p∈X0 r b,p∈b|[],p,h=>h|_::r,p,h=>Kg p (IU p h)
theorem Zh5{b}{j}:ZF (Vi b j) j=none:=by cases h:ZF _ j with|none=>rfl|some v=>exact absurd rfl (JB h).2
theorem Zh4{b}{i j}(h:ZF b i=none):ZF (Vi b j) i=none:=by cases h2:ZF _ i with|none=>rfl|some v=>rw[(JB h2).1]at h;cases h
theorem L7{b}{i}{v}:∀{r},ZF (X0 r b) i=some v->∀p∈r,p.1≠i
 |x::r,h,p,a=>by
  rcases XB a with rfl|a;·exactλc=>(JB h).2 c.symm
  ·exact L7 (JB h).1 p a
structure Ua(c c':CS)(R Q:Bx):Prop where
 r:c'.r=R++c.r
 q:c'.q=Q++c.q
 g:c'.g=X0 R c.g
 f:c'.f=c.f
 n:c'.n=c.n
 s:∀i j,US c.s i=some j->US c'.s i=some j
 mr:∀p∈R,ZF c.g p.1=some p.2nd:(R.map (·.1)).Nodup
 mq:∀p∈Q,ZF c.g p.1=some p.2dj:(∀p∈c.l,ZF c.g p.1=none)->∀p∈c'.l,ZF c'.g p.1=none
 ids:∀p∈c'.l,∃q∈c.l++R,q.1=p.1p:c'.p=false->c.p=false
theorem Ua.refl(c):Ua c c [] []:=⟨rfl,rfl,rfl,rfl,rfl,Zb,Zb,Zb,Zb,λa=>a,Zm,λa=>a⟩
theorem Ua.trans{a b c}{R Q o m}(h:Ua a b R Q)(k:Ua b c o m):Ua a c (o++R) (m++Q)where
 r:=by rw[k.r,h.r,Z5]
 q:=by rw[k.q,h.q,Z5]
 g:=by rw[k.g,h.g,Zab]
 f:=k.f.trans h.f;n:=k.n.trans h.n;s:=λj l e=>k.s j l (h.s j l e);mr:=λp d=>(Z1 d).elim (λd=>by have:=k.mr p d;rw[h.g]at this;exact JC this) (h.mr p);nd:=by rw[Vg,TM];refine⟨k.nd,h.nd,λj u l v e=>?_⟩;subst e;obtain⟨p,d,rfl⟩:=Uj u;obtain⟨q,i,e⟩:=Uj v;have:=k.mr p d;rw[h.g]at this;exact L7 this q i e
 mq:=λp d=>(Z1 d).elim (λd=>by have:=k.mq p d;rw[h.g]at this;exact JC this) (h.mq p);dj:=λt=>k.dj (h.dj t);ids:=λp d=>by
  obtain⟨q,i,e⟩:=k.ids p d;rcases Z1 i with i|i;·obtain⟨y,x,w⟩:=h.ids q i;grind
  ·grind
 p:=λe=>h.p (k.p e)
def GB(t:Ty)(v:TV)(c:CS)(x:t.den)(c':CS)(R Q:Bx):Prop:=∀(j:World)(a:KK)(f e d:HP)(g:List Value),GD a.m (f++(e++d)) j->rel a v.t f g v.x->ZH a c.l e->ZH a R d->(∀p∈Q,∃k,Wg a p.1 p.2 k)->Yt a (c.l++R)->(∀p∈c.l,ZF c.g p.1=none)->∃b i h,Y0 j a (f++(e++d)) b (i++h)/\rel (b.WO c'.s) t i g x/\ZH b c'.l h/\Yt b c'.l/\W3 a b (c.l++R)/\(c'.p=false->b=a)
def Coe(t:Ty)(v:TV)(c:CS)(x:t.den)(c':CS):Prop:=∃b a,Ua c c' b a/\GB t v c x c' b a
theorem Coe.id{t}(f:t.nh=true)(x)(c):Coe t ⟨t,x⟩ c x c:=by refine⟨[],[],Ua.refl c,λl a h d b i k g e _ _ j _=>⟨a,h,d++b,Y0.refl _ _ _,HS f g,ZH.more _ e,Zm,W3.refl _ _,λ_=>rfl⟩⟩
theorem Coe.imp{t}{v}{x}(c)(h:∀K hv cs,rel K v.t hv cs v.x->rel (K.WO c.s) t hv cs x):Coe t v c x c:=by refine⟨[],[],Ua.refl c,λi K hv b a cs g e d _ _ f _=>⟨K,hv,b++a,Y0.refl _ _ _,h K _ _ e,ZH.more _ d,Zm,W3.refl _ _,λ_=>rfl⟩⟩
theorem Ma{R}{t}{v}{k}{r:R}(h:UN t v k=some r):t.nh=true/\∃x,v=⟨t,x⟩/\k x=some r:=by have⟨a,h⟩:=Yk h;exact⟨a,S5 h⟩
theorem GD.sub{m}{hs a r:HP}{w}(h:GD m hs w)(p:hs.Perm (a++r)):GD m a w:=(h.perm p).left
theorem Yt.next{K K'}{c d}{b f l}(h:Ua c d b l)(n:Yt K (f++b++c.l))(o:Yt K' d.l)(r:W3 K K' (c.l++b))(q:∀p∈c.l,ZF c.g p.1=none)(s:∀p∈f,ZF d.g p.1=some p.2):Yt K' (d.l++f):=by
 intro e k u hx j i;rcases Z1 hx with hx|hx;·exact o e k _ hx j i
 ·have g:=s _ hx;rw[h.g]at g;have t:∀p∈c.l++b,p.1≠Yj e:=by
   intro p a;rcases Z1 a with a|a;·intro m;have:=q p a;rw[m,JC g]at this;cases this
   ·exact L7 g p a
  rw[r e t];exact n e k _ Zm j i
theorem GB.seq{a b}{u v}{c n j}{x}{y}{k l A B}(F:Ua c n k A)(G:Ua n j l B)(m1:GB a u c x n k A)(m2:GB b v n y j l B):∀(w)(K)(h1 h2 e m)(r s),GD K.m (h1++h2++(e++m)) w->rel K u.t h1 r u.x->rel K v.t h2 s v.x->ZH K c.l e->ZH K (l++k) m->(∀p∈B++A,∃h,Wg K p.1 p.2 h)->Yt K (c.l++(l++k))->(∀p∈c.l,ZF c.g p.1=none)->∃K' g z hl',Y0 w K (h1++h2++(e++m)) K' (g++z++hl')/\rel (K'.WO j.s) a g r x/\rel (K'.WO j.s) b z s y/\ZH K' j.l hl'/\Yt K' j.l/\W3 K K' (c.l++(l++k))/\(j.p=false->K'=K):=by
 intro w K h1 h2 e m r s Q r1 r2 x3 x0 N M D;obtain⟨d,i,x4,xk,x9⟩:=ZH.append.1 x0;have R:(h1++h2++(e++m)).Perm (h1++(e++i)++(h2++d)):=by
  refine(VA (h1++h2) (VA e x4)).trans ?_;have C:(h1++h2++(e++(d++i))).Perm (h1++(h2++(e++(i++d)))):=by rw[Z5];exact VA h1 (VA h2 (VA e XJ))
  refine C.trans ?_;have V:(h2++(e++(i++d))).Perm (e++i++(h2++d)):=by
   have:h2++(e++(i++d))=h2++(e++i)++d:=by simp[Z5]
   rw[this];refine(XJ.append_right d).trans ?_;rw[Z5]
  have:=VA h1 V;simpa[Z5]using this
 obtain⟨J,g,hl',q,x7,xs,W,L,x5⟩:=m1 w K h1 e i r (Q.sub R) r1 x3 x9 (λp f=>N p (Yd (.inr f))) (M.sub (by intro p f;rcases Z1 f with h|h<;>simp[h])) D;have H:Y0 w K (h1++h2++(e++m)) J (g++hl'++(h2++d)):=Y0.perm R (V8 _) (q.frame (h2++d));have S:(g++hl'++(h2++d)).Perm (h2++(hl'++d)++g):=by
  have C:(g++hl'++(h2++d)).Perm (g++(h2++(hl'++d))):=by rw[Z5];refine VA g ?_;rw[<-Z5,<-Z5];exact XJ.append_right d
  exact C.trans XJ
 obtain⟨T,z,x2,I,x8,xv,X,Z,x6⟩:=m2 w J h2 hl' d s ((H.step Q).1.sub S) (Xl q.le r2) xs (xk.mono q.le) (λp f=>let⟨h,E⟩:=N p (Yd (.inl f));⟨h,E.mono q.le⟩) (Yt.next (K:=K) F (M.sub Zm) W L D G.mr) (F.dj D);refine⟨T,g,z,x2,?_,Xl (KK.Ia I.le G.s) x7,x8,xv,X,?_,λo=>(x6 o).trans (x5 (G.p o))⟩;·refine H.trans (Y0.perm S ?_ (I.frame g));rw[Z5 g];exact XJ
 ·intro t O;have P:∀p∈c.l++k,p.1≠Yj t:=λp f=>O p (by rcases Z1 f with h|h<;>simp[h]);have x1:∀p∈n.l++l,p.1≠Yj t:=by
   intro p f o;rcases Z1 f with f|f;·obtain⟨E,hq,U⟩:=F.ids p f;exact P E hq (U.trans o)
   ·exact O p (by simp[f]) o
  rw[Z t x1,L t P]
def Zhq(c:CS)(j:Nat)(v:TV)(g:CS)(R:Bx):Prop:=∀(a:KK)(e b:HP),ZH a c.l e->ZH a R b->∃d f,(e++b).Perm (d++f)/\Wg a j v d/\ZH a g.l f
structure IP(c:CS)(j:Nat)(v:TV)(c1:CS)(R:Bx):Prop where
 S:Ua c c1 R []M:Zhq c j v c1 R
 mem:(j,v)∈c.l++R
 sub:∀p∈c1.l,p∈c.l++R
 none:(∀p∈c.l,ZF c.g p.1=none)->ZF c1.g j=none
 ne:∀p∈c1.l,p.1≠j
 sl:∀p∈c1.l,p∈c.l
theorem ZhX{b}{j}:∀p∈Vi b j,p.1≠j:=by induction b with|nil=>intro p h;cases h|cons d b e=>have⟨a,v⟩:=d;intro p h;have h:p∈bif Nat.beq a j then Vi b j else(a,v)::Vi b j:=h;cases hb:Nat.beq a j with|true=>grind|false=>
   rw[hb]at h;rcases XB h with rfl|h;·intro c;rw[show Nat.beq a j=true from by rw[Jl];exact c]at hb;cases hb
   ·grind
theorem lg{b}{j}(h:ZF b j=none):∀p∈b,p.1≠j:=by induction b with|nil=>simp|cons e b f=>have⟨c,v⟩:=e;rw[Mb]at h;intro p a;cases hb:Nat.beq c j with|true=>grind|false=>
   rw[hb]at h;rcases XB a with rfl|a;·intro d;rw[show Nat.beq c j=true from by rw[Jl];exact d]at hb;cases hb
   ·grind
theorem OU{R}{c}{j}{k}{r:R}(h:Qk c j k=some r):∃v p B,IP c j v p B/\k v p=some r:=by
 unfold Qk at h;split at h;·rename_i v hv;refine⟨v,{c with l:=Vi c.l j},[],⟨⟨rfl,rfl,rfl,rfl,rfl,λ_ _ h=>h,Zb,Zb,Zb,λd b a=>d b (IU b a),λb a=>⟨b,by simp[IU b a],rfl⟩,λh=>h⟩,λq n f o t=>?_,by simp[W8 hv],λb a=>by simp[IU b a],λd=>d _ (W8 hv),ZhX,λb a=>IU b a⟩,h⟩;obtain⟨i,e,a,m,s⟩:=ZH.get hv o;exact⟨i,e++f,by rw[<-Z5];exact a.append_right f,m,s.more f⟩
 ·split at h;·rename_i v hv;refine⟨v,{c with g:=Vi c.g j,r:=(j,v)::c.r},[(j,v)],⟨⟨rfl,rfl,rfl,rfl,rfl,λ_ _ h=>h,Zm,Zb,Zb,λd b a=>Zh4 (d b a),λb a=>⟨b,by simp[a],rfl⟩,λh=>h⟩,λq n f o⟨i,e,a,m,_⟩=>⟨i,n++e,(VA n a).trans ?_,m,o.more e⟩,Zb,Zm,λd=>Zh5,lg (by assumption),λb a=>a⟩,h⟩;rw[<-Z5,<-Z5];exact XJ.append_right e
  ·cases h
theorem IP.put{c d}{j}{v}{R}(h:IP c j v d R)(u){b}(g:b=false->d.p=false):Ua c {d.put j u with p:=b} R []:={h.S with
  dj:=λe p a=>by
   rcases XB a with rfl|a;·exact h.none e
   ·exact h.S.dj e p a
  ids:=λp a=>by
   rcases XB a with rfl|a;·exact⟨(j,v),h.mem,rfl⟩
   ·exact h.S.ids p a
  p:=λf=>h.S.p (g f)}
theorem IP.fr{c a}{j}{v}{R}{K}(h:IP c j v a R)(b:Yt K (c.l++R)):Yt K a.l:=b.sub h.sub
theorem tT{K}{j}{v}{hv a}{cs}{x:Unit}(g:rel K (.hole j) hv cs x)(e:Wg K j v a)(f:v.t.n=1):hv=[]/\rel K v.t a cs v.x:=by obtain⟨h,l,k,rfl,_⟩:=g;have⟨c,d,i⟩:=e;have b:=WH d;rw[f]at b;match c,b with|[m],_=>simp_all
theorem ZaU{K}{w}{h}{t}{cs}{l:List t.den}(n:t.plain=true)(j:GD K.m h w)(o:rel K (.full t) h cs l):∃K' h',Y0 w K h K' h'/\K'.fm=K.fm/\rel K' (.YO t) h' cs l:=by
 rcases o with⟨rfl,rfl,d,rfl⟩|⟨e,c,f,q,r,h',rfl,rfl,a,k,p⟩;·exact⟨K,[],Y0.refl _ _ _,rfl,.inl ⟨rfl,rfl,d,rfl⟩⟩
 ·have g:=Row.Lo (λ_ _ _ h=>SD n h) a;subst g;obtain⟨K',m,i,s,b⟩:=qz j;refine⟨K',_,b,i,.inr ⟨e,c,f,q,r,rfl,rfl,Row.imp (λ_ _ _ h=>Xl m h) a,λx v u=>?_,k,p⟩⟩;grind
theorem pX{K}{h}{t}{cs}{l:List t.den}(d:rel K (.YO t) h cs l):rel K (.sl t) [] cs l:=by
 rcases d with⟨rfl,rfl,a,rfl⟩|⟨f,e,b,k,m,rfl,rfl,i,g,c,j⟩;·exact⟨rfl,a,0,rfl,Zb,.inl rfl⟩
 ·exact⟨rfl,_,b,rfl,c,Zm⟩
section
variable{c Z X:CS}{j:Nat}{R:Bx}
theorem Coe.pair{a b a' b'}{x}{y}{z}(h1:Coe a ⟨a',x.1⟩ c y Z)(h2:Coe b ⟨b',x.2⟩ Z z X):Coe (.pair a b) ⟨.pair a' b',x⟩ c (y,z) X:=by have⟨K,I,d,u⟩:=h1;have⟨L,J,e,v⟩:=h2;refine⟨_,_,d.trans e,?_⟩;rintro H g S Q P M q⟨N,O,i,k,rfl,rfl,C,D⟩F E o n p;have⟨h,s,t,r,f,A,B,G,l,m,w⟩:=GB.seq d e u v H g _ _ _ _ _ _ q C D F E o n p;exact⟨h,_,r,f,⟨s,t,i,k,rfl,rfl,A,B⟩,G,l,m,w⟩
theorem Coe.cons{a b a' b'}{x}{y}{z}(h1:Coe a ⟨a',x.1⟩ c y Z)(h2:Coe b ⟨b',x.2⟩ Z z X):Coe (.cons a b) ⟨.cons a' b',x⟩ c (y,z) X:=by have⟨K,I,d,u⟩:=h1;have⟨L,J,e,v⟩:=h2;refine⟨_,_,d.trans e,?_⟩;rintro H g S Q P M q⟨N,O,i,k,rfl,rfl,C,D⟩F E o n p;have⟨h,s,t,r,f,A,B,G,l,m,w⟩:=GB.seq d e u v H g _ _ _ _ _ _ q C D F E o n p;exact⟨h,_,r,f,⟨s,t,i,k,rfl,rfl,A,B⟩,G,l,m,w⟩
theorem Coe.only{t a}{x}{y}(h:Coe t ⟨a,x⟩ c y Z):Coe (.only t) ⟨.only a,x⟩ c y Z:=h
theorem Coe.hole{t}{v}{x}(b:IP c j v Z R)(D:v.t.n=1)(h:Coe t v Z x X):Coe t ⟨.hole j,()⟩ c x X:=by
 obtain⟨R2,Q2,o,L⟩:=h;refine⟨_,_,b.S.trans o,λW K hv e y q B H T P hQ g k=>?_⟩;obtain⟨d,z,F,S,Q⟩:=ZH.append.1 P;obtain⟨i,m,E,A,V⟩:=b.M K e z T Q;obtain⟨rfl,I⟩:=tT H A D;have a:(e++y).Perm (i++(m++d)):=by refine(VA e (F.trans XJ)).trans ?_;rw[<-Z5,<-Z5];exact E.append_right d
 obtain⟨K',J,C,p,N,U,u,w,M⟩:=L W K i m d q (by simpa using B.perm a) I V S Zm (Yt.next (K:=K) (K':=K) b.S (g.sub Zm) (b.fr (g.sub Zm)) (W3.refl _ _) k o.mr) (b.S.dj k);refine⟨K',J,C,Y0.perm (by simpa using a) (V8 _) p,N,U,u,λs l=>w s λn a f=>?_,M⟩;rcases Z1 a with a|a;·obtain⟨O,G,r⟩:=b.S.ids n a;exact l O (by rcases Z1 G with h|h<;>simp[h]) (r.trans f)
 ·exact l n (by simp[a]) f
theorem Coe.own{t m}{x}{y}(h:Coe t ⟨m,x⟩ c y Z):Coe (.own t) ⟨.own m,x⟩ c y Z:=by
 have⟨R,q,E,B⟩:=h;refine⟨R,q,E,?_⟩;rintro I o K g f J z⟨b,a,d,e,rfl,rfl,A⟩G F v u w;have l:((b,0,cellsOf d a)::e++(g++f)).Perm (e++(g++f)++[(b,0,cellsOf d a)]):=by have:=XJ (l₁:=[(b,0,cellsOf d a)]) (l₂:=e++(g++f));simpa using this
 have⟨p,i,k,n,D,H,r,s,C⟩:=B I o _ _ _ _ (z.sub l) A G F v u w;refine⟨p,(b,0,cellsOf _ a)::i,k,Y0.perm l ?_ (n.frame _),⟨b,a,d,i,rfl,rfl,D⟩,H,r,s,C⟩;have:=XJ (l₁:=i++k) (l₂:=[(b,0,cellsOf d a)]);simpa using this
theorem Coe.Zl1{t a}{x:a.den}{y:t.den}(h:Coe (.own t) ⟨.own a,x⟩ c y Z):Coe (.opt t) ⟨.own a,x⟩ c (some y) Z:=by have⟨R,f,B,w⟩:=h;refine⟨R,f,B,λE d I H G F r u D C p o q=>?_⟩;have⟨e,v,s,b,⟨i,g,k,n,l,m,z⟩,A⟩:=w E d _ _ _ _ r u D C p o q;exact⟨e,v,s,b,.inr ⟨y,i,g,k,n,rfl,l,m,z⟩,A⟩
theorem Coe.Zcm{t b}{x:(Ty.opt b).den}{d}{y:t.den}(hx:x=some d)(h:Coe (.own t) ⟨.own b,d⟩ c y Z):Coe (.own t) ⟨.opt b,x⟩ c y Z:=by
 have⟨R,f,w,u⟩:=h;refine⟨R,f,w,λB e F E D C r s A z p o q=>u B e _ _ _ _ r ?_ A z p o q⟩;rcases s with⟨a,_⟩|⟨G,i,g,k,n,a,l,m,v⟩;·grind
 ·rw[hx]at a;cases a;exact⟨i,g,k,n,l,m,v⟩
theorem Coe.ptr{t f}{x:f.den}{y:t.den}(I:t.plain=true)(h:Coe (.own t) ⟨.own f,x⟩ c y Z):Coe (.ptr t) ⟨.own f,x⟩ c (some y) {Z with p:=true}:=by have⟨R,u,L,m⟩:=h;refine⟨R,u,{L with p:=λh=>by grind},λP s K W U S n J N M D C E=>?_⟩;obtain⟨Q,o,H,g,⟨a,k,b,T,rfl,w,r⟩,O,A,B,pp⟩:=m P s _ _ _ _ n J N M D C E;have z:=SD I r;subst z;obtain⟨i,x0,l,V,d⟩:=qz (by simpa using(g.step n).1);refine⟨i,[],(a,b.length,cellsOf _ k)::H,g.trans (by simpa using d),⟨rfl,.inr ⟨y,a,0,b,rfl,w,Xl (KK.Ia d.le λ_ _ h=>h) r,?_⟩⟩,((O.mono d.le).more [(a,b.length,cellsOf b k)]).perm Zb,by intro e t xs o q G;rw[l];exact A e t _ o q G,by intro e F;rw[l];exact B e F,Zb⟩;·intro q v K;show i.m a _=some v;grind
theorem Coe.YO{t}{l:List t.den}(o:t.plain=true)(n:t.nh=true)(c):Coe (.YO t) ⟨.full t,l⟩ c l {c with p:=true}:=by refine⟨[],[],{Ua.refl c with p:=λx=>by grind},λA v y m h w i q u _ _ g _=>?_⟩;have⟨e,f,a,d,s⟩:=ZaU o i.left q;exact⟨e,f,m++h,a.frame _,HS (t:=.YO t) n s,(u.mono a.le).more _,λb t B z r k=>by rw[d];exact g b t _ Zm r k,λb _=>by rw[d],Zb⟩
theorem Coe.WG{t}{l:List t.den}{v}(k:IP c j v Z R)(I:t.nh=true){h}(hv:v=⟨.YO t,l⟩/\h=Z.p\/(v=⟨.full t,l⟩/\t.plain=true)/\h=true):Coe (.sl t) ⟨.hole j,()⟩ c l {Z.put j ⟨.YO t,l⟩with p:=h}:=by
 refine⟨R,[],k.put _ Zm,λx d V H C S E q sl N _ B T=>?_⟩;obtain⟨i,g,o,D,O⟩:=k.M d H C sl N;obtain⟨rfl,r⟩:=tT q D (by rcases hv with⟨rfl,_⟩|⟨⟨rfl,_⟩,_⟩<;>rfl);obtain⟨f,w,K,rfl,U⟩:=q;have F:GD d.m (i++g) x:=by simpa using E.perm o
 have⟨a,b,e,n,u,M⟩:∃a b,Y0 x d i a b/\a.fm=d.fm/\rel a (.YO t) b [w] l/\(h=false->a=d):=by
  rcases hv with⟨rfl,_⟩|⟨⟨rfl,J⟩,f⟩;·exact⟨d,i,Y0.refl _ _ _,rfl,r,λ_=>rfl⟩
  ·obtain⟨a,b,e,y,z⟩:=ZaU J F.left r;exact⟨a,b,e,y,z,λA=>by rw[A]at f;cases f⟩
 refine⟨a,[],b++g,Y0.perm (by simpa using o) (V8 _) (e.frame g),HS (t:=.sl t) I (pX u),⟨b,g,V8 _,⟨[w],u,by intro W s;simp at s;subst s;exact e.le.nm _ _ K⟩,O.mono e.le⟩,?_,λm _=>by rw[n],M⟩
 ·intro m P Q hx L G;rcases XB hx with f|hx;·grind
  ·rw[n];exact(k.fr B) m P Q hx L G
theorem Coe.Zmq{t}{l:List t.den}(u:ZF c.g j=some ⟨.YO t,l⟩)(i:t.nh=true):Coe (.sl t) ⟨.hole j,()⟩ c l {c with q:=(j,⟨.YO t,l⟩)::c.q}:=by refine⟨[],[(j,⟨.YO t,l⟩)],⟨rfl,rfl,rfl,rfl,rfl,Zb,Zb,Zb,Zm,λb=>b,Zm,λd=>d⟩,λn a w h f o v k sl x e p s=>?_⟩;have⟨r,g⟩:=e _ (Tq rfl);obtain⟨rfl,m⟩:=tT k g rfl;exact⟨a,[],h++f,Y0.refl n a _,HS (t:=.sl t) i (pX m),sl.more _,Zm,W3.refl _ _,λ_=>rfl⟩
end
structure VU(t t':Ty):Prop where
 n:t'.n=t.n
 ag:t'.ag=t.ag
 V7:∀cs vs,V7 t' cs vs->V7 t cs vs
theorem VU.refl(t):VU t t:=⟨rfl,rfl,Zb⟩
section
variable{c Z X:CS}{j:Nat}{R:Bx}
theorem Coe.fn {f}{a d a' d'}{x}{y}{z}(v:a.plain=true)(w:d.plain=true)(F:VU a a')(G:VU d d')(h1:Coe a ⟨a',x.1⟩ c y Z)(h2:Coe d ⟨d',x.2⟩ Z z X):Coe (.fn f a d) ⟨.fn f a' d',x⟩ c (y,z) X:=by
 have⟨T,Q,h,D⟩:=h1
 have⟨U,S,i,E⟩:=h2
 refine⟨_,_,h.trans i,?_⟩
 rintro P l hv hl W V B ⟨rfl,as,n,b,rfl,⟨o,N,I⟩,O,J⟩ L K u t A
 have⟨m,k1,k2,C,k,e,g,M,r,s,H⟩:=GB.seq h i D E P l _ _ _ _ _ b B I J L K u t A
 have p:=SD v e
 have q:=SD w g
 subst p q
 exact⟨m,[],C,k,⟨rfl,as,n,b,rfl,⟨o,F.V7 _ _ N,e⟩,G.V7 _ _ O,g⟩,M,r,s,H⟩
theorem kD{f g}(h:Yj f=Yj g):f=g:=by simp[Yj]at h;omega
theorem Coe.push{f}{t}{v}{y}{l:List t.den}(hv:v.t.n=1)(hn:t.nh=true)(h:Coe t v c y Z)(k:IP Z (Yj f) ⟨.YL f t,l⟩ X R):Coe (.YM f t) v c (some (Zf l)) (X.qg (Yj f) ⟨.YL f t,Z9 l [y]⟩):=by
 obtain⟨R1,Q1,G,m1⟩:=h;refine⟨_,_,G.trans (k.put _ (b:=true) λh=>by cases h),λxk K p o hR L Q F sl sR hQ N P=>?_⟩;obtain⟨m,x,x4,x7,x6⟩:=ZH.append.1 sR;have T:(p++(o++hR)).Perm (p++(o++x)++m):=by
  have:p++(o++x)++m=p++(o++(x++m)):=by simp[Z5]
  rw[this];exact VA p (VA o (x4.trans XJ))
 obtain⟨e,i,D,I,q1,x8,x0,M,y3⟩:=m1 xk K p o x L (Q.sub T) F sl x6 (λw n=>hQ w (by simp[n])) (N.sub (by intro w n;rcases Z1 n with h|h<;>simp[h])) P;have J:=Y0.perm T (V8 _) (I.frame m);have y0:=(J.step Q).1;obtain⟨r,s,x2,⟨xv,⟨rfl,H,y2,U⟩,_⟩,x9⟩:=k.M e D m x8 (x7.mono I.le);have B:Yt e (Z.l++R):=Yt.next (K:=K) G (N.sub (by intro w n;rcases Z1 n with h|h;rcases Z1 h with h|h<;>simp[h];simp[h])) x0 M P (by simpa using k.S.mr);have y1:H.length=l.length:=by have:=Row.length U;simpa using this
 have x1:e.fm f l.length=none:=B f t l k.mem _ (YG _);have O:=WH F;rw[hv]at O;match L,O with
 |[u],_=>
  let q:KK:={e with fm:=λa d=>if a=f/\d=l.length then some u else e.fm a d};have z:e.le q:=by
   refine⟨λ_ _ h=>h,λa d v h=>?_,XI.refl _⟩;show(if a=f/\d=l.length then some u else e.fm a d)=some v;split;·rename_i h';obtain⟨rfl,rfl⟩:=h';rw[x1]at h;cases h
   ·exact h
  have x3:(i++D++m).Perm ([]++(r++i++s)):=by
   have A:(i++D++m).Perm (i++(r++s)):=by rw[Z5];exact VA i x2
   refine A.trans ?_;rw[UW,<-Z5];exact XJ.append_right s
  refine⟨q,[],r++i++s,(J.trans ⟨z,rfl,λh=>⟨⟨h.mem,h.nodup,h.YY,h.free⟩,ZG.refl _ _ _⟩⟩).trans (Y0.Zcn x3),⟨rfl,.inr ⟨l.length,u,rfl,by simp[KK.WO,q],rfl,RD F u Zb⟩⟩,⟨r++i,s,V8 _,⟨[],⟨rfl,H++[u],Zm,?_⟩,Zb⟩,x9.mono z⟩,?_,?_,λh=>by cases h⟩;·show Row 1 (rel q t) (r++i) (H++[u]) (l++[y]);exact(Row.imp (λ_ _ _ h=>Xl z h) U).append (Row.single rfl (Xl z (qX hn q1)))
  ·intro a V xs hx d S;rcases XB hx with g|hx;·injection g with A e2;cases kD A;injection e2 with e3 e4;injection e3 with _ e5;subst e5;cases e4;rw[show Z9 l [y]=l++[y]from rfl,Yw,V9]at S;show(if f=f/\d=l.length then some u else e.fm f d)=none;rw[Yg (by rintro⟨_,g⟩;omega)];exact B f V l k.mem d Y
   ·have E:a≠f:=λg=>k.ne _ hx (X7 Yj g);show(if a=f/\d=l.length then some u else e.fm a d)=none;rw[Yg (by exactλ⟨g,_⟩=>E g)];exact B a V xs (k.sub _ hx) d S
  ·intro a C;have E:a≠f:=by
    rintro rfl;rcases Z1 k.mem with h|h;·obtain⟨q',x5,W⟩:=G.ids _ h;exact C q' (Yd ((Z1 x5).imp (λh=>h) λh=>Yd (.inr h))) W
    ·exact C _ (Yd (.inr (Yd (.inl h)))) rfl
   have:q.fm a=e.fm a:=by funext d;show(if a=f/\d=l.length then some u else e.fm a d)=_;rw[Yg (by exactλ⟨g,_⟩=>E g)]
   rw[this];exact M a λw n=>C w (by rcases Z1 n with h|h<;>simp[h])
end
theorem Mu{α R}{o:Option α}{d}{k}{r:R}(h:Yq o d k=some r):o=none/\d=some r\/∃x,o=some x/\k x=some r:=by rw[KJ]at h;cases o<;>grind
theorem VU.cons{a b a' b'}(h:VU a a')(k:VU b b'):VU (.cons a b) (.cons a' b'):=by refine⟨by simp[Ty.n,h.n,k.n],rfl,λm n⟨c,d,v,l,e,f,g,i,j⟩=>⟨c,d,v,l,e,f,by rw[g,h.n],by rw[i,h.ag],k.V7 _ _ j⟩⟩
theorem VU.pair{a b a' b'}(h:VU a a')(k:VU b b'):VU (.pair a b) (.pair a' b'):=⟨by simp[Ty.n,h.n,k.n],rfl,λ_ _ h=>h.elim⟩
theorem VU.only{a a'}(h:VU a a'):VU (.only a) (.only a'):=⟨by simp[Ty.n,h.n],rfl,λ_ _ h=>h.elim⟩
def NP(t:Ty)(v:TV)(c:CS)(x:t.den)(c':CS):Prop:=VU t v.t/\Coe t v c x c'
theorem NP.same{t}{v}{x}(a:t.nh=true)(e:v=⟨t,x⟩)(c):NP t v c x c:=by subst e;exact⟨VU.refl _,Coe.id a x c⟩
theorem Q6{R}{t}{v}{c}{k:t.den->CS->Option R}{r}(h:UN t v (λx=>k x c)=some r):∃x c',k x c'=some r/\NP t v c x c':=by have⟨d,x,a,b⟩:=Ma h;exact⟨x,c,b,NP.same d a c⟩
theorem Ig{R}{t}{v}{c}{k:t.den->CS->Option R}{r}(h:(bif t.plain then UN t v λx=>k x c else none)=some r):∃x c',k x c'=some r/\NP t v c x c':=Q6 (Yk h).2
theorem Zbb{K}{s}{i j}{hv}{cs}{x:Unit}(e:Nat.blt i 1000=true)(hs:US s i=some j)(h:rel K (.hole j) hv cs x):rel (K.WO s) (.hole i) hv cs x:=by have⟨a,d,f,b,c⟩:=h;exact⟨a,d,by simp only[KK.WO];grind,b,c⟩
theorem xC{j i u}{b}:US ((j,u)::b) i=bif Nat.beq j i then some u else US b i:=rfl
theorem Coe.bind{i j}{c}{x:Unit}(e:Nat.blt i 1000=true)(hs:US c.s i=none):Coe (.hole i) ⟨.hole j,x⟩ c () {c with s:=(i,j)::c.s}:=by refine⟨[],[],⟨rfl,rfl,rfl,rfl,rfl,?_,Zb,Zb,Zb,λa=>a,Zm,λa=>a⟩,λr b k f d m p h g _ _ n _=>⟨b,k,f++d,Y0.refl _ _ _,Zbb e (by rw[xC,show Nat.beq i i=true by simp];rfl) h,ZH.more _ g,Zm,W3.refl _ _,λ_=>rfl⟩⟩;·intro l q a;rw[xC];cases o:Nat.beq i l<;>simp_all
theorem rO{K}{t}{hv}{cs}{l:List t.den}(h:rel K (.nz t) hv cs l):rel K (.sl t) hv cs l:=by
 obtain⟨a,⟨rfl,rfl⟩|⟨g,d,i,j,b,rfl,c,f,e⟩⟩:=h;·exact⟨a,none,0,rfl,Zb,.inl rfl⟩
 ·exact⟨a,_,b,rfl,c,Zm⟩
theorem fV{K}{t}{hv}{cs}{l}(hx:l≠[])(h:rel K (.sl t) hv cs l):rel K (.nz t) hv cs l:=by
 obtain⟨c,j,b,rfl,e,h⟩:=h;rcases h with h|⟨a,g,i,rfl,f,d⟩;·grind
 ·exact⟨c,.inr ⟨hx,a,g,i,b,rfl,e,f,d⟩⟩
theorem Coe.fV{t}{v}{c c'}{l}(hx:l≠[])(h:Coe (.sl t) v c l c'):Coe (.nz t) v c l c':=by have⟨R,e,r,o⟩:=h;refine⟨R,e,r,λu b z y x w j m sl s g f i=>?_⟩;have⟨d,n,k,a,p,q⟩:=o u b _ _ _ _ j m sl s g f i;exact⟨d,n,k,a,Go.R.fV hx p,q⟩
theorem Zfp{R}{r:R}{t}{j}{c}{k}(h:pM t j c k=some r):∃l c',k l c'=some r/\Coe (.sl t) ⟨.hole j,()⟩ c l c':=by
 unfold pM at h;split at h
 ·split at h;·rename_i p l m;have⟨b,f,d,a⟩:=Ma h;cases d;exact⟨_,_,a,Coe.Zmq m b⟩
  ·obtain⟨o,i,g,e,h⟩:=OU h;split at h;·have⟨n,h⟩:=Yk h;have⟨b,f,d,a⟩:=Ma h;exact⟨_,_,a,Coe.WG (t:=t) e b Zm⟩
   ·cases h
 ·obtain⟨o,i,g,e,h⟩:=OU h;split at h;·have⟨n,h⟩:=Yk h;have⟨b,f,d,a⟩:=Ma h;exact⟨_,_,a,Coe.WG (t:=t) e b Zm⟩
  ·have⟨b,f,d,a⟩:=Ma h;cases d;exact⟨_,_,a,Coe.WG (t:=t) e b Zb⟩
  ·cases h
theorem ZjF{R}{r:R}{f}{t}{v}{y}{c a}{k}(hv:v.t.n=1)(g:Coe t v c y a)(h:ZaI f t y a k=some r):∃x c',k x c'=some r/\Coe (.YM f t) v c x c':=by have⟨m,j,i,e,h⟩:=OU h;obtain⟨d,l,rfl,b⟩:=Ma h;exact⟨_,_,b,Coe.push hv d g e⟩
theorem lO{R}{r:R}:∀{t}{v}{c}{k},Vu t v c k=some r->∃x c',k x c'=some r/\NP t v c x c':=by intro t;induction t generalizing R with
 |bool=>
  intro v c k a;unfold Vu at a;split at a;·exact⟨_,_,a,⟨rfl,rfl,λ_ _ a=>a.elim⟩,Coe.imp c λi m n a=>a⟩
  ·exact Q6 a|pair j p P X=>intro v c k a;obtain⟨h,x⟩:=v;cases h with
  |pair B M=>replace a:(bif(j.plain&&p.plain&&j.beq B&&p.beq M&&j.nh&&p.nh)then UN (.pair j p) ⟨.pair B M,x⟩ λd=>k d c else Vu j ⟨B,x.1⟩ c λd c=>Vu p ⟨M,x.2⟩ c λA c=>k (d,A) c)=some r:=a;cases F:(j.plain&&p.plain&&j.beq B&&p.beq M&&j.nh&&p.nh)with|true=>rw[F]at a;exact Q6 a|false=>rw[F]at a;obtain⟨d,y,a,e,b⟩:=P a;obtain⟨A,o,a,Q,K⟩:=X a;exact⟨_,_,a,e.pair Q,b.pair K⟩
  |_=>exact Ig a
 |cons j p P X=>intro v c k a;obtain⟨h,x⟩:=v;cases h with|cons B M=>replace a:(Vu j ⟨B,x.1⟩ c λd c=>Vu p ⟨M,x.2⟩ c λA c=>k (d,A) c)=some r:=a;obtain⟨d,y,a,e,b⟩:=P a;obtain⟨A,o,a,Q,K⟩:=X a;exact⟨_,_,a,e.cons Q,b.cons K⟩|_=>exact Ig a
 |nl=>intro v c k a;obtain⟨h,x⟩:=v;cases h with|nl=>exact⟨(),c,a,VU.refl _,Coe.id rfl _ _⟩|_=>exact Ig a
 |only t f=>intro v c k a;obtain⟨h,x⟩:=v;cases h with|only w=>replace a:Vu t ⟨w,x⟩ c k=some r:=a;obtain⟨d,y,a,e,b⟩:=f a;exact⟨_,_,a,e.only,Coe.only b⟩|_=>exact Ig a
 |sl t f=>
  intro v c k a;unfold Vu at a;split at a;·refine⟨_,_,a,⟨rfl,rfl,λ_ _ a=>a.elim⟩,Coe.imp c λi m n a=>⟨a.1,none,0,a.2,YG _,.inl rfl⟩⟩
  ·obtain⟨S,c',a,b⟩:=Zfp a;exact⟨_,_,a,⟨rfl,rfl,λ_ _ a=>a.elim⟩,b⟩
  ·rename_i w S;obtain⟨V,l',q,u⟩:=Ma a;cases q;exact⟨_,_,u,⟨rfl,rfl,λ_ _ a=>a.elim⟩,Coe.imp c λi m n a=>HS (t:=.sl t) V (rO a)⟩
  ·exact Q6 a|nz t f=>
  intro v c k a;unfold Vu at a;split at a;·exact⟨_,_,a,⟨rfl,rfl,λ_ _ a=>a.elim⟩,Coe.imp c λi m n a=>⟨a.1,.inl ⟨rfl,a.2⟩⟩⟩
  ·obtain⟨S,c',a,b⟩:=Zfp a;cases S with|nil=>cases a|cons d S=>exact⟨_,_,a,⟨rfl,rfl,λ_ _ a=>a.elim⟩,Coe.fV Zb b⟩
  ·exact Q6 a|ptr t f=>
  intro v c k a;unfold Vu at a;split at a;·exact⟨_,_,a,⟨rfl,rfl,λ_ _ a=>a.elim⟩,Coe.imp c λi m n a=>⟨a.1,.inl ⟨rfl,a.2⟩⟩⟩
  ·obtain⟨C,y,N,l,a⟩:=OU a;split at a;·obtain⟨O,a⟩:=Yk a;obtain⟨d,o,a,e,b⟩:=f a;exact⟨_,_,a,⟨rfl,rfl,λ_ _ a=>a.elim⟩,Coe.hole l rfl (Coe.ptr O (Coe.own b))⟩
   ·cases a
  ·exact Q6 a|own t f=>intro v c k a;obtain⟨h,x⟩:=v;cases h with
  |hole z=>
   replace a:(Qk c z λC c=>match C with|⟨.own w,x⟩=>Vu t ⟨w,x⟩ c k|⟨.opt w,x⟩=>Yq x none λd=>Vu t ⟨w,d⟩ c k|_=>none)=some r:=a;obtain⟨C,y,N,l,a⟩:=OU a;split at a;·obtain⟨d,o,a,e,b⟩:=f a;exact⟨_,_,a,⟨rfl,rfl,λ_ _ a=>a.elim⟩,Coe.hole l rfl (Coe.own b)⟩
   ·rcases Mu a with⟨_,a⟩|⟨x0,T,a⟩;·cases a
    ·obtain⟨d,o,a,e,b⟩:=f a;exact⟨_,_,a,⟨rfl,rfl,λ_ _ a=>a.elim⟩,Coe.hole l rfl (Coe.Zcm T (Coe.own b))⟩
   ·cases a|own w=>replace a:Vu t ⟨w,x⟩ c k=some r:=a;obtain⟨d,o,a,e,b⟩:=f a;exact⟨_,_,a,⟨rfl,rfl,λ_ _ a=>a.elim⟩,Coe.own b⟩|opt w=>
   replace a:(Yq (α:=w.den) x none λd=>Vu t ⟨w,d⟩ c k)=some r:=a;rcases Mu a with⟨_,a⟩|⟨x0,T,a⟩;·cases a
   ·obtain⟨d,o,a,e,b⟩:=f a;exact⟨_,_,a,⟨rfl,rfl,λ_ _ a=>a.elim⟩,Coe.Zcm T (Coe.own b)⟩|_=>exact Ig a
 |opt t f=>
  intro v c k a;unfold Vu at a;split at a;·exact⟨_,_,a,⟨rfl,rfl,λ_ _ a=>a.elim⟩,Coe.imp c λi m n a=>.inl ⟨rfl,a.1,a.2⟩⟩
  ·obtain⟨C,y,N,l,a⟩:=OU a;split at a;·obtain⟨d,o,a,e,b⟩:=f a;exact⟨_,_,a,⟨rfl,rfl,λ_ _ a=>a.elim⟩,Coe.hole l rfl (Coe.Zl1 (Coe.own b))⟩
   ·obtain⟨d,o,a,e,b⟩:=Q6 a;exact⟨_,_,a,⟨rfl,rfl,λ_ _ a=>a.elim⟩,Coe.hole l rfl b⟩
   ·cases a
  ·exact Q6 a|full t f=>
  intro v c k a;unfold Vu at a;split at a;·exact⟨_,_,a,⟨rfl,rfl,λ_ _ a=>a.elim⟩,Coe.imp c λi m n a=>.inl ⟨rfl,a.1,none,a.2⟩⟩
  ·obtain⟨C,y,N,l,a⟩:=OU a;obtain⟨d,o,a,e,b⟩:=Q6 a;exact⟨_,_,a,⟨rfl,rfl,λ_ _ a=>a.elim⟩,Coe.hole l e.n b⟩
  ·exact Q6 a|YO t f=>
  intro v c k a;unfold Vu at a;split at a;·exact⟨_,_,a,⟨rfl,rfl,λ_ _ a=>a.elim⟩,Coe.imp c λi m n a=>.inl ⟨rfl,a.1,none,a.2⟩⟩
  ·obtain⟨C,y,N,l,a⟩:=OU a;split at a;·obtain⟨O,a⟩:=Yk a;obtain⟨V,l',q,u⟩:=Ma a;cases q;exact⟨_,_,u,⟨rfl,rfl,λ_ _ a=>a.elim⟩,Coe.hole l rfl (Coe.YO O V _)⟩
   ·obtain⟨d,o,a,e,b⟩:=Q6 a;exact⟨_,_,a,⟨rfl,rfl,λ_ _ a=>a.elim⟩,Coe.hole l e.n b⟩
  ·exact Q6 a|map j p _ _=>
  intro v c k a;unfold Vu at a;split at a;·obtain⟨C,y,N,l,a⟩:=OU a;obtain⟨d,o,a,e,b⟩:=Q6 a;exact⟨_,_,a,⟨rfl,rfl,λ_ _ a=>a.elim⟩,Coe.hole l e.n b⟩
  ·exact Q6 a|YM U t f=>
  intro v c k a;unfold Vu at a;split at a;·exact⟨_,_,a,⟨rfl,rfl,λ_ _ a=>a.elim⟩,Coe.imp c λi m n a=>⟨a.1,.inl ⟨rfl,a.2⟩⟩⟩
  ·obtain⟨d,y,a,e,b⟩:=f a;obtain⟨A,c3,a,K⟩:=ZjF rfl b a;exact⟨_,_,a,⟨rfl,rfl,λ_ _ a=>a.elim⟩,K⟩
  ·exact Q6 a|YL U t f=>intro v c k a;unfold Vu at a;exact Q6 a|hole g=>intro v c k a;obtain⟨h,x⟩:=v;cases h with
  |hole z=>
   replace a:(bif Nat.blt g 1000then match US c.s g with|some J=>bif Nat.beq z J then k () c else none|none=>k () {c with s:=(g,z)::c.s}else bif Nat.beq g z then k () c else none)=some r:=a
   cases hb:Nat.blt g 1000with|true=>
    rw[hb]at a;simp only[TP]at a;split at a;·rename_i J H;obtain⟨G,u⟩:=Yk a;cases Xu G;exact⟨_,_,u,⟨rfl,rfl,λ_ _ a=>a.elim⟩,Coe.imp c λi m n W=>Zbb hb H W⟩
    ·rename_i H;exact⟨_,_,a,⟨rfl,rfl,λ_ _ a=>a.elim⟩,Coe.bind hb H⟩|false=>rw[hb]at a;obtain⟨G,u⟩:=Yk a;cases Xu G;refine⟨_,_,u,VU.refl _,Coe.imp c λi m n W=>?_⟩;obtain⟨q,L,I,D,ho⟩:=W;exact⟨q,L,by simp only[KK.WO];rw[hb];exact I,D,ho⟩
  |_=>exact Ig a
 |Ue g x1=>intro v c k a;obtain⟨h,x⟩:=v;cases h with
  |Ue z q'=>
   replace a:(bif decide (x1=q')then(bif Nat.blt g 1000then match US c.s g with|some J=>bif Nat.beq z J then k () c else none|none=>k () {c with s:=(g,z)::c.s}else bif Nat.beq g z then k () c else none)else none)=some r:=a;obtain⟨hq,E⟩:=Yk a;have x4:x1=q':=by simpa using hq
   subst x4;cases hb:Nat.blt g 1000with|true=>
    rw[hb]at E;simp only[TP]at E;split at E;·rename_i J H;obtain⟨G,u⟩:=Yk E;cases Xu G;refine⟨_,_,u,⟨rfl,rfl,λ_ _ a=>a.elim⟩,Coe.imp c λi m n⟨q,L,I,D⟩=>?_⟩;exact⟨q,L,by simp only[KK.WO];rw[YW hb,H];exact I,D⟩
    ·rename_i H;refine⟨_,_,E,⟨rfl,rfl,λ_ _ a=>a.elim⟩,[],[],⟨rfl,rfl,rfl,rfl,rfl,?_,Zb,Zb,Zb,λa=>a,λx6 O=>⟨x6,by simpa using O,rfl⟩,λa=>a⟩,?_⟩;·intro i' J a;show US ((g,z)::c.s) i'=some J;rw[xC];cases x2:Nat.beq g i' with|true=>cases Xu x2;rw[H]at a;cases a|false=>exact a
     ·intro C i m hl hR n hg⟨q,L,I,D⟩x3 _ _ hF _;refine⟨i,m,hl++hR,Y0.refl _ _ _,⟨q,L,?_,D⟩,ZH.more hR x3,hF.sub Zb,W3.refl _ _,λ_=>rfl⟩;simp only[KK.WO];rw[YW hb,xC,show Nat.beq g g=true by rw[Jl]];exact I|false=>rw[hb]at E;obtain⟨G,u⟩:=Yk E;cases Xu G;refine⟨_,_,u,VU.refl _,Coe.imp c λi m n⟨q,L,I,D⟩=>⟨q,L,by simp only[KK.WO];rw[hb];exact I,D⟩⟩
  |_=>exact Ig a
 |fn U j Z P x5=>intro v c k a;obtain⟨h,x⟩:=v;cases h with|fn f' B d'=>replace a:(bif Nat.beq U f'&&(j.plain&&Z.plain)then Vu j ⟨B,x.1⟩ c λd c=>Vu Z ⟨d',x.2⟩ c λA c=>k (d,A) c else none)=some r:=a;obtain⟨F,a⟩:=Yk a;simp only[Yv]at F;cases Xu F.1;obtain⟨d,y,a,e,b⟩:=P a;obtain⟨A,o,a,Q,K⟩:=x5 a;exact⟨_,_,a,⟨rfl,rfl,λ_ _ a=>a.elim⟩,Coe.fn F.2.1 F.2.2 e Q b K⟩|_=>exact Ig a
 |_=>intro v c k a;exact Ig a
structure Vh(n n':Nat)(K K':KK):Prop where
 m:K'.m=K.m
 fm:K'.fm=K.fm
 le:K.le K'
 nm:∀i,¬(n<=i/\i<n')->K'.nm i=K.nm i
theorem Vh.refl(n n')(K):Vh n n' K K:=⟨rfl,rfl,KK.le.refl _,λ_ _=>rfl⟩
theorem Vh.trans{a b c}{K d K2}(f:a<=b)(g:b<=c)(h:Vh a b K d)(k:Vh b c d K2):Vh a c K K2:=⟨k.m.trans h.m,k.fm.trans h.fm,h.le.trans k.le,λe i=>(k.nm e Y).trans (h.nm e Zm)⟩
def Pz(n n':Nat)(K:KK):Prop:=∀a,n<=a->a<n'->K.nm a=none
theorem Vh.fresh{a b c}{K d}(h:Vh a b K d)(g:Pz a c K)(j:a<=b):Pz b c d:=λe i f=>(h.nm e Y).trans (g e Y f)
def KK.name(K:KK)(n:Nat)(v:Value):KK:={K with nm:=λa=>if a=n then some v else K.nm a}
theorem KK.HC{K}{n}(h:K.nm n=none)(v):Vh n (n+1) K (K.name n v):=by
 refine⟨rfl,rfl,⟨λa b c=>?_,λ_ _ _ h=>h,XI.refl _⟩,λa d=>?_⟩;·show(if a=n then some v else K.nm a)=some b;grind
 ·show(if a=n then some v else K.nm a)=K.nm a;rw[Yg Y]
theorem KK.Pl{K:KK}{n}{v}:(K.name n v).nm n=some v:=by simp[KK.name]
structure Js(t:Ty)(x:t.den)(n:Nat)(l:Bx)(u:TV)(n':Nat)(l':Bx):Prop where
 le:n<=n'
 tn:u.t.n=t.n
 ag:u.t.ag=t.ag
 h:∃new,l'=new++l/\(∀p∈new,n<=p.1/\p.1<n')/\∀(K:KK)(hs:HP)(cs:List Value),rel K t hs cs x->Pz n n' K->∃K' hu hn,hs.Perm (hu++hn)/\Vh n n' K K'/\rel K' u.t hu cs u.x/\ZH K' new hn
theorem Js.same{t}{x}{n}{l}:Js t x n l ⟨t,x⟩ n l:=⟨Zb,rfl,rfl,[],rfl,Zb,λa c d b _=>⟨a,c,[],Zb,Vh.refl _ _ _,b,trivial⟩⟩
theorem Js.box{t}{x}{n}{l}(h1:t.n=1)(h:t.ag=false):Js t x n l ⟨.hole n,()⟩ (n+1) ((n,⟨t,x⟩)::l):=by refine⟨Zb,h1.symm,h.symm,[(n,⟨t,x⟩)],rfl,Zb,λf d g a i=>?_⟩;have c:=WH a;rw[h1]at c;match g,c with|[v],_=>have b:=KK.HC (i n Zb Zb) v;exact⟨f.name n v,[],d,Zb,b,⟨rfl,v,KK.Pl,rfl,RD a v Zb⟩,⟨d,[],Zb,⟨[v],Xl b.le a,by intro j e;simp at e;subst e;exact KK.Pl⟩,trivial⟩⟩
theorem yr:∀{t}{x}{n}{l}{u}{n'}{b},UR t x n l=(u,n',b)->Js t x n l u n' b:=by intro t;induction t with|pair F o x3 x4=>
  intro x n l u n' b h;unfold UR at h;rcases a:UR F x.1 n l with⟨f,B,A⟩;rw[a]at h;rcases s:UR o x.2 B A with⟨L,n2,l2⟩;dsimp only at h;rw[s]at h;replace h:((⟨.pair f.t L.t,(f.x,L.x)⟩:TV),n2,l2)=(u,n',b):=h;cases h;have k:=x3 a;have q:=x4 s;obtain⟨w1,T,P,k1⟩:=k.h;obtain⟨w2,U,Q,k2⟩:=q.h;have x9:=k.le;have xk:=q.le;refine⟨Y,by simp[Ty.n,k.tn,q.tn],rfl,w2++w1,by rw[U,T,Z5],?_,?_⟩
  ·intro e c;rcases Z1 c with c|c;·have:=Q e c;omega
   ·have:=P e c;omega
  ·rintro E hs R⟨V,W,G,H,rfl,rfl,r1,r2⟩j;obtain⟨O,K,N,p1,D,q1,s1⟩:=k1 E V G r1 λx0 a s=>j x0 a Y;obtain⟨m,M,C,p2,g,q2,s2⟩:=k2 O W H (Xl D.le r2) (D.fresh j k.le);refine⟨m,K++M,C++N,(p1.append p2).trans ?_,D.trans k.le q.le g,⟨K,M,G,H,rfl,rfl,Xl g.le q1,q2⟩,ZH.append.2 ⟨C,N,V8 _,s2,s1.mono g.le⟩⟩;rw[Z5,Z5];refine VA _ ?_;rw[<-Z5,<-Z5];refine(XJ.append_right C).trans ?_;rw[Z5,Z5];exact VA _ XJ|only t z=>intro x n l u n' b h;unfold UR at h;rcases a:UR t x n l with⟨f,B,A⟩;rw[a]at h;cases h;have d:=z a;exact⟨d.le,d.tn,rfl,d.h⟩|own t z=>
  intro x n l u n' b h;unfold UR at h;rcases a:UR t x (n+1) l with⟨f,B,A⟩;rw[a]at h;cases h;have d:=z a;obtain⟨x8,S,o,x5⟩:=d.h;have Z:=d.le;refine⟨Y,rfl,rfl,(n,⟨.own f.t,f.x⟩)::x8,by rw[S];rfl,?_,?_⟩
  ·intro e c;rcases XB c with rfl|c;·exact⟨YG _,Y⟩
   ·have:=o e c;omega
  ·rintro E hs R⟨i,r,p,X,rfl,rfl,hr⟩j;have w:=KK.HC (j n (YG _) Y) (.pointer (some ⟨i,0,none⟩));obtain⟨m,y,I,e,g,x6,x7⟩:=x5 _ X p (Xl w.le hr) (w.fresh j (LG _));have J:m.nm n=some (.pointer (some ⟨i,0,none⟩)):=g.le.nm _ _ KK.Pl;refine⟨m,[],(i,0,cellsOf p r)::y++I,OY _ e,w.trans (LG _) Z g,⟨rfl,_,J,rfl,rfl⟩,⟨(i,0,cellsOf p r)::y,I,V8 _,⟨_,⟨i,r,p,y,rfl,rfl,x6⟩,by intro v hv;simp at hv;subst hv;exact J⟩,x7⟩⟩|full t _=>intro x n l u n' b h;unfold UR at h;cases h;exact Js.box rfl rfl|YO t _=>intro x n l u n' b h;unfold UR at h;cases h;exact Js.box rfl rfl|map F o _ _=>intro x n l u n' b h;unfold UR at h;cases h;exact Js.box rfl rfl|_=>intro x n l u n' b h;unfold UR at h;cases h;exact Js.same
def IL(r:Value)(p:List PS)(b:Nat):Prop:=r=.pointer (some ⟨b,0,none⟩)/\RU p\/∃c e a g f d,r=.slice (some ⟨b,0,none⟩) c e/\p=.ix a g f::d/\0<=a/\a.toNat<c/\RU d
def MB(K:KK)(j:Nat):List PS->Option Value|.m i::_=>K.fm (j-1000) i|_=>K.nm j
def Ew:List PS->List PS|.m _::q=>q|p=>p
def SG(K:KK)(j:Nat)(p:List PS)(b:Nat):Prop:=∃a,MB K j p=some a/\IL a (Ew p) b
def CJ:Obj->Nat->Option Value|.cells cs _ _,o=>cs[o]?|_,_=>none
def RX(K:KK)(c:HP):Prop:=∀b∈c,∀a v,CJ b.2.2 a=some v->K.m b.1 a=some v
theorem RX.at{K}{a}(h:RX K a){b k}{cs}{T}(c:(b,k,cellsOf cs T)∈a):At K.m b 0 cs:=λe v d=>by rw[TN];exact h _ c e v (by simpa[CJ,cellsOf]using d)
abbrev HM:=Nat->Option HP
def R1(K:KK)(H:HM):SV->Value->Prop|.v a,v=>∃c,rel K a.t [] c a.x/\v=XE a.t.ag c|.Sw d p,v=>∃b,SG K d p b/\v=.pointer (some ⟨b,Z8 p,none⟩)|.sub d p sz m lo hi,v=>∃b f,SG K d p b/\v=.slice (some ⟨b,Z8 p+lo.toNat*sz,none⟩) (hi-lo).toNat f/\(hi-lo).toNat<=f/\0<=lo/\lo<=hi/\hi.toNat<=m|.T5 a,v=>∃b j h,v=.pointer (some ⟨b,j,none⟩)/\rel K a.t [] h a.x/\At K.m b j h|.gl g,v=>v=.pointer (some ⟨g,0,none⟩)|.bv k a,v=>∀(e:KK),K.le e->(∀d∈k,∃i,H d=some i/\RX e i)->∃c,rel e a.t [] c a.x/\v=XE a.t.ag c|.un,v=>v=undef|.any,_=>True|_,_=>False
def R0(K:KK)(s:SV)(v:Value):Prop:=Un s=[]/\R1 K (λ_=>none) s v
def RT(K:KK):SV->List Value->Prop|.tc a s,vs=>∃v b,vs=v::b/\R0 K a v/\RT K s b|.tn,vs=>vs=[]|_,_=>False
def YU(K:KK)(H:HM)(s:SV)(v:Value):Prop:=match s with|.tc a r=>∃b:List Value,v=.tuple b.toArray/\RT K (.tc a r) b|.tn=>v=.tuple #[]|s=>R1 K H s v
theorem Zra{K K'}(h:K.le K'){j}{p}{r}(e:MB K j p=some r):MB K' j p=some r:=by cases p with|nil=>exact h.nm _ _ e|cons a p=>cases a<;>first|exact h.nm _ _ e|exact h.fm _ _ _ e
theorem SG.mono{K K'}(h:K.le K'){j}{p}{b}(r:SG K j p b):SG K' j p b:=by have⟨r,a,c⟩:=r;exact⟨r,Zra h a,c⟩
theorem R1.mono{K K'}(h:K.le K'){H}:∀{s}{v},R1 K H s v->R1 K' H s v|.v _,_,⟨cs,r,e⟩=>⟨cs,Xl h r,e⟩|.Sw _ _,_,⟨bl,r,e⟩=>⟨bl,r.mono h,e⟩|.sub _ _ _ _ _ _,_,⟨bl,cap,r,e⟩=>⟨bl,cap,r.mono h,e⟩|.T5 _,_,⟨bl,o,ds,e,r,k⟩=>⟨bl,o,ds,e,Xl h r,k.mono h.m⟩|.gl _,_,e=>e|.bv _ _,_,k=>λb a=>k _ (h.trans a)|.un,_,e=>e|.any,_,_=>trivial
theorem R0.mono{K K'}(h:K.le K'){s}{v}(r:R0 K s v):R0 K' s v:=⟨r.1,r.2.mono h⟩
theorem RT.mono{K K'}(h:K.le K'):∀{s}{vs},RT K s vs->RT K' s vs|.tc _ _,_,⟨v,r,e,p,q⟩=>⟨v,r,e,p.mono h,RT.mono h q⟩|.tn,_,e=>e
theorem YU.JZ{K}{H}{s}{v}(h:R1 K H s v):YU K H s v:=by cases s<;>first|exact h|exact h.elim
theorem YU.mono{K K'}(h:K.le K'){H}{s}{v}(r:YU K H s v):YU K' H s v:=by cases s with|tc j s=>have⟨i,d,e⟩:=r;exact⟨i,d,e.mono h⟩|tn=>exact r|v c=>exact R1.mono (H:=H) (s:=.v _) h r|Sw a b=>exact R1.mono (H:=H) (s:=.Sw a b) h r|sub a b n f m k=>exact R1.mono (H:=H) (s:=.sub a b _ f _ _) h r|T5 c=>exact R1.mono (H:=H) (s:=.T5 _) h r|gl g=>exact R1.mono (H:=H) (s:=.gl g) h r|bv l c=>exact R1.mono (s:=.bv _ _) h r|un=>exact R1.mono (H:=H) (s:=.un) h r|any=>trivial
theorem YU.boxes{K}{H H'}{s}{v}(h:∀j∈Un s,H' j=H j)(r:YU K H s v):YU K H' s v:=by
 cases s<;>first|exact r|skip
 exactλg d e=>r _ d λj a=>let⟨c,b,f⟩:=e j a;⟨c,h j a▸b,f⟩
theorem R1.boxes{K}{H H'}{s}{v}(h:∀j∈Un s,H' j=H j)(r:R1 K H s v):R1 K H' s v:=by
 cases s<;>first|exact r|skip
 exactλg d e=>r _ d λj a=>let⟨c,b,f⟩:=e j a;⟨c,h j a▸b,f⟩
theorem R1.rP{K}{H}{s}{v}(h:R0 K s v):R1 K H s v:=h.2.boxes λb a=>by rw[h.1]at a;cases a
theorem aN{K}{H}(v):R1 K H (lQ v) v:=by
 unfold lQ;split;·exact⟨_,⟨rfl,rfl⟩,rfl⟩
 ·rename_i a b _
  cases hb:(ER a&&Nat.blt b _)with|true=>
   rw[Yv]at hb;have d:b<2^a.bits:=XA;refine⟨_,⟨rfl,rfl⟩,?_⟩;have c:(Z6 a.bits (.ofNat b)).toNat=b:=by grind
   show Value.int a b=Value.int a _;rw[c]|false=>trivial
 ·exact⟨_,⟨rfl,rfl⟩,rfl⟩
 ·exact⟨_,⟨rfl,_,rfl,rfl⟩,rfl⟩
 ·exact⟨_,⟨rfl,rfl⟩,rfl⟩
 ·exact⟨_,⟨rfl,rfl⟩,rfl⟩
 ·exact⟨_,⟨rfl,rfl⟩,rfl⟩
 ·exact⟨_,⟨rfl,rfl⟩,rfl⟩
 ·trivial
structure Mv(n n':Nat)(K K':KK):Prop where
 le:K.le K'
 nm:∀i,¬(n<=i/\i<n')->K'.nm i=K.nm i
theorem Mv.refl(n n')(K):Mv n n' K K:=⟨KK.le.refl _,λ_ _=>rfl⟩
theorem Mv.trans{n n'}{K a K2}(h:Mv n n' K a)(k:Mv n n' a K2):Mv n n' K K2:=⟨h.le.trans k.le,λc b=>(k.nm c b).trans (h.nm c b)⟩
theorem Mv.wide{n n' m b}{K a}(h:Mv n n' K a)(h1:m<=n)(h2:n'<=b):Mv m b K a:=⟨h.le,λc d=>h.nm c Y⟩
theorem Y0.mv{w}{K K'}{hs a}(h:Y0 w K hs K' a)(n n'):Mv n n' K K':=⟨h.le,λb _=>by rw[h.nm]⟩
theorem Vh.mv{n n'}{K K'}(h:Vh n n' K K'):Mv n n' K K':=⟨h.le,h.nm⟩
def O7(Z:Xq)(K:KK):Prop:=∀c a,Rs Z.gl c=some a->∃b,rel K a.t [] b a.x/\At K.m c 0 b
theorem O7.mono{Z}{K K'}(h:O7 Z K)(a:K.le K'):O7 Z K':=λd g c=>let⟨b,f,e⟩:=h d _ c;⟨b,Xl a f,e.mono a.m⟩
structure TD(Z:Xq)(e:En)(n:Nat)(f:Wc)(xs:List Operand)(K:KK)(H:HM)(hr hx:HP)(a:Act)(w:World):Prop where
 gd:GD K.m (hr++hx) w
 gl:O7 Z K
 sr:ZH K f.r hr
 rd:∀p∈f.rd,∃h,H p.1=some h/\Wg K p.1 p.2 h/\∀x∈h,x∈hr++hx
 rx:∀p∈f.rd,(∀q∈f.r,q.1≠p.1)->∀h,H p.1=some h->∀x∈h,x∈hx
 op:∀x∈xs,YU K H (ZW e x) (a.eval x)fr:Pz n f.n K
 lt:f.n<=500YM:Yt K f.r
 dj:∀p∈f.rd,∀q∈f.rd,p.1≠q.1->∀h h',H p.1=some h->H q.1=some h'->∀x∈h,x∉h'
 ZjH:Yt K f.rd
 ndd:∀p∈f.rd,∀h,H p.1=some h->(HP.bs h).Nodup
structure cr(n:Nat)(f:Wc)(K:KK)(H:HM)(hr hx:HP)(w:World)(v:Value)(w':World)(K':KK)(hw:HP):Prop where
 gd:GD K'.m (hw++hx) w'
 Kj:ZG w w' K.m K'.m (hr++hx).bs (hw++hx).bs
 mv:Mv n f.n K K'
 v:YU K' H f.v v
 sw:ZH K' f.w hw
 YM:Yt K' f.w
 fk:W3 K K' f.r
def GK(Z:Xq)(o:Oper)(e:En)(n:Nat)(f:Wc):Prop:=∀c b g h d a,TD Z e n f o.op.operands.toList c b g h d a->TE Z.P (λv k=>∃i j,cr n f c b g h a v k i j) ((execOp d.eval o).run Z.P a)
abbrev Wc.val(s:SV)(a:Bx)(n:Nat):Wc:=⟨s,a,[],[],n⟩
theorem X3{Z}{o}{e}{n}{s}{d}(h:∀K H b hx a w,TD Z e n (Wc.val s d n) o.op.operands.toList K H b hx a w->∃v,(execOp a.eval o).run Z.P w=.ok (.value v) w/\YU K H s v):GK Z o e n (Wc.val s d n):=by intro K H b hx a w c;have⟨v,f,g⟩:=h K H _ _ a w c;rw[f];exact⟨K,b,c.gd,ZG.refl _ _ _,Mv.refl _ _ _,g,trivial,λ_ _ _ h=>(by cases h),W3.refl _ _⟩
def Rj(a:Act):List Operand->Yr|[]=>[]|.tmp t::l=>(t,val (a.tmps.getD t undef))::Rj a l|_::l=>Rj a l
theorem zd{a}{t:Nat}:∀{l},Operand.tmp t∈l->lk (Rj a l) t=some (val (a.tmps.getD t undef))
 |.tmp u::l,h=>by
  by_cases b:u=t;·subst b;exact PW _ _ _
  ·rw[show Rj a _=(u,val _)::Rj a l from rfl,PU b];exact zd Zm|.const _::l,h=>zd (l:=l) Zm|.global _::l,h=>zd (l:=l) Zm|.func _::l,h=>zd (l:=l) Zm
theorem D7{a}{l}{x}(h:x∈l):Yo (Rj a l) x (val (a.eval x)):=by cases x with|tmp e=>exactλd b c=>c _ (zd h)|_=>intro d b _;rfl
theorem ZaA{a}{l}{m}:Uq (Rj a l) m a:=by
 induction l with|nil=>intro c g b;cases b|cons h l f=>cases h with|tmp d=>
   intro c g b;by_cases e:d=c;·subst e;rw[show Rj a _=(d,val _)::Rj a l from rfl,PW]at b;cases b;rfl
   ·rw[show Rj a _=(d,val _)::Rj a l from rfl,PU e]at b;exact f c g b|_=>exact f
def cx(P:Program):XK:=⟨P,0,⟨λ_=>True,λ_ _=>trivial⟩,λ_ _=>none,default,[],none,false⟩
theorem T4{Z}{o}{e}{n}{s}{j}(h:∀K H c hx a w,TD Z e n (Wc.val s j n) o.op.operands.toList K H c hx a w->∃d,PJ (cx Z.P) o (Rj a o.op.operands.toList) [] d/\∀(K')v,K.le K'->d.p K'.m v->YU K' H s v):GK Z o e n (Wc.val s j n):=by intro K H c hx a w b;have⟨d,l,p⟩:=h K H _ _ a w b;refine(l _ _ a w ⟨b.gd.mem,by simp[Hp.bs],Zb,Zb⟩ trivial rfl λr _=>ZaA.ZW r).mono λv u⟨i,k,q,f⟩=>?_;have g:K.le {K with m:=i}:=⟨Zb,Zb,f.le⟩;have t:=GD.frame (h1:=[]) (h1':=[]) (by simpa using b.gd) ⟨k.mem,by simp[HP.bs],Zb,Zb⟩ f;exact⟨{K with m:=i},c,Zm,Zm,⟨g,λ_ _=>rfl⟩,p _ v g q,trivial,λ_ _ _ h=>(by cases h),λ_ _=>rfl⟩
structure Loc(b:Bx)(n:Nat)(f:Wc):Prop where
 le:n<=f.n
 r:∀p∈f.r,ZF b p.1=some p.2rd:∀p∈f.rd,ZF b p.1=some p.2nd:(f.r.map (·.1)).Nodup
def W4{R:Type}(Z:Xq)(o:Oper)(e:En)(b:Bx)(n:Nat)(k:Wc->Option R)(r:R):Prop:=∃a,k a=some r/\Loc b n a/\GK Z o e n a
theorem Loc.val{b}{n}{s}:Loc b n (Wc.val s [] n):=⟨Zb,Zb,Zb,Zb⟩
section
variable{Z:Xq}{e:En}{n:Nat}{f:Wc}{xs:List Operand}{K:KK}{H:HM}{X hx:HP}{a:Act}{w:World}{x:Operand}
theorem TD.v(g:TD Z e n f xs K H X hx a w){b}(d:ZW e x=.v b)(c:x∈xs):∃cs,rel K b.t [] cs b.x/\a.eval x=XE b.t.ag cs:=by have:=g.op x c;rwa[d]at this
theorem TD.int(d:TD Z e n f xs K H X hx a w){p:Int}(c:ZW e x=.v ⟨.int,p⟩)(b:x∈xs):a.eval x=.int .i64 p:=by obtain⟨g,⟨_,rfl⟩,e⟩:=d.v c b;exact e
theorem TD.un(d:TD Z e n f xs K H X hx a w){k}{m}{p:BitVec m}(c:ZW e x=.v ⟨.un k m,p⟩)(b:x∈xs):a.eval x=.int k p.toNat:=by obtain⟨g,⟨_,rfl⟩,e⟩:=d.v c b;exact e
theorem TD.bool(d:TD Z e n f xs K H X hx a w){p:Bool}(c:ZW e x=.v ⟨.bool,p⟩)(b:x∈xs):a.eval x=.bool p:=by obtain⟨g,⟨_,rfl⟩,e⟩:=d.v c b;exact e
theorem TD.bit(d:TD Z e n f xs K H X hx a w){p}{u:Unit}(c:ZW e x=.v ⟨.bit p,u⟩)(b:x∈xs):a.eval x=.bool p:=by obtain⟨g,⟨_,rfl⟩,e⟩:=d.v c b;exact e
theorem OG(g:TD Z e n f xs K H X hx a w){p:Int}(d:ZW e x=.v ⟨.int,p⟩)(b:x∈xs):Yo (Rj a xs) x (i64.slot p):=Ch (D7 b) λh v c=>by rw[c];exact WN.2 (g.int d b)
theorem Pd(g:TD Z e n f xs K H X hx a w){k}{m}{p:BitVec m}(d:ZW e x=.v ⟨.un k m,p⟩)(b:x∈xs):Yo (Rj a xs) x ((un k m).slot p):=Ch (D7 b) λm v c=>by rw[c];exact Wy.2 (g.un d b)
theorem Hl(d:TD Z e n f xs K H X hx a w){p}(h:a.eval x=.bool p)(c:x∈xs):Yo (Rj a xs) x (bl.slot p):=Ch (D7 c) λg v b=>by rw[b];exact Rg h
end
theorem Ea{H}{p}(K')(v)(h:(i64.slot p).p K'.m v):YU K' H (.v ⟨.int,p⟩) v:=⟨_,⟨rfl,rfl⟩,VJ h⟩
theorem Eb{H}{k}{m}{p}(K')(v)(h:((un k m).slot p).p K'.m v):YU K' H (.v ⟨.un k m,p⟩) v:=⟨_,⟨rfl,rfl⟩,Up h⟩
theorem J2{H}{p}(K')(v)(h:(bl.slot p).p K'.m v):YU K' H (.v ⟨.bool,p⟩) v:=⟨_,⟨rfl,rfl⟩,U4.1 h⟩
theorem Zcv{H}{p}(K')(v)(h:(bl.slot p).p K'.m v):YU K' H (.v ⟨.bit p,()⟩) v:=⟨_,⟨rfl,rfl⟩,U4.1 h⟩
theorem HF{R}{Z}{e}{b}{n}{k}{r:R}{f}{T yt ty}{x y}{d}{pos}{aft}{g}{p q z:Int}(hx:ZW e x=.v ⟨.int,p⟩)(j:ZW e y=.v ⟨.int,q⟩)(i:X5 n k .int z=some r)(h:∀(c)Γ,Yo Γ x (i64.slot p)->Yo Γ y (i64.slot q)->PJ c ⟨d,.binOp f T x y yt,ty,pos,aft,g⟩ Γ [] (i64.slot z)):W4 Z ⟨d,.binOp f T x y yt,ty,pos,aft,g⟩ e b n k r:=⟨_,i,Loc.val,T4 λm l t u s w a=>⟨_,h _ _ (OG a hx Ye) (OG a j Ye),λo v _=>Ea _ v⟩⟩
theorem rV{R}{Z}{e}{b}{n}{k}{r:R}{f}{T yt ty}{x y}{d}{pos}{aft}{g}{p q:Int}{z:Bool}(hx:ZW e x=.v ⟨.int,p⟩)(j:ZW e y=.v ⟨.int,q⟩)(i:X5 n k .bool z=some r)(h:∀(c)Γ,Yo Γ x (i64.slot p)->Yo Γ y (i64.slot q)->PJ c ⟨d,.binOp f T x y yt,ty,pos,aft,g⟩ Γ [] (bl.slot z)):W4 Z ⟨d,.binOp f T x y yt,ty,pos,aft,g⟩ e b n k r:=⟨_,i,Loc.val,T4 λm l t u s w a=>⟨_,h _ _ (OG a hx Ye) (OG a j Ye),λo v _=>J2 _ v⟩⟩
theorem HG{R}{Z}{e}{b}{n}{k}{r:R}{f}{T yt ty}{x y}{d}{pos}{aft}{g}{u}{m}{p q z:BitVec m}(hx:ZW e x=.v ⟨.un u m,p⟩)(j:ZW e y=.v ⟨.un u m,q⟩)(i:X5 n k (.un u m) z=some r)(h:∀(c)Γ,Yo Γ x ((un u m).slot p)->Yo Γ y ((un u m).slot q)->PJ c ⟨d,.binOp f T x y yt,ty,pos,aft,g⟩ Γ [] ((un u m).slot z)):W4 Z ⟨d,.binOp f T x y yt,ty,pos,aft,g⟩ e b n k r:=⟨_,i,Loc.val,T4 λo l w A t B a=>⟨_,h _ _ (Pd a hx Ye) (Pd a j Ye),λs v _=>Eb _ v⟩⟩
theorem rW{R}{Z}{e}{b}{n}{k}{r:R}{f}{T yt ty}{x y}{d}{pos}{aft}{g}{u}{m}{p q:BitVec m}{z:Bool}(hx:ZW e x=.v ⟨.un u m,p⟩)(j:ZW e y=.v ⟨.un u m,q⟩)(i:X5 n k .bool z=some r)(h:∀(c)Γ,Yo Γ x ((un u m).slot p)->Yo Γ y ((un u m).slot q)->PJ c ⟨d,.binOp f T x y yt,ty,pos,aft,g⟩ Γ [] (bl.slot z)):W4 Z ⟨d,.binOp f T x y yt,ty,pos,aft,g⟩ e b n k r:=⟨_,i,Loc.val,T4 λo l w A t B a=>⟨_,h _ _ (Pd a hx Ye) (Pd a j Ye),λs v _=>J2 _ v⟩⟩
theorem Bn{a}{w}(h:EP a w=true):a.bits=w/\a.signed=false:=by simp[EP,Yv]at h;refine⟨XA,?_⟩;have:=h.1;cases a<;>first|rfl|cases this
theorem Kp{R}{s}{k}{r:R}(h:Mn s k=some r):∃q,k q=some r/\(s=.v ⟨.int,q⟩\/∃(u:IntKind)(m:Nat)(p:BitVec m),s=.v ⟨.un u m,p⟩/\q=p.toNat):=by
 unfold Mn at h;split at h;·exact⟨_,h,.inl rfl⟩
 ·exact⟨_,h,Zm⟩
 ·cases h
theorem tL{Z}{e}{n}{f}{xs}{K}{H}{g hx}{a}{w}{x}(d:TD Z e n f xs K H g hx a w){q:Int}(b:ZW e x=.v ⟨.int,q⟩\/∃(u:IntKind)(m:Nat)(p:BitVec m),ZW e x=.v ⟨.un u m,p⟩/\q=p.toNat)(c:x∈xs):∃s,Yo (Rj a xs) x s/\O8 s q:=by
 rcases b with b|⟨u,m,p,b,rfl⟩;·exact⟨_,OG d b c,PP⟩
 ·exact⟨_,Pd d b c,zE⟩
theorem Pf{α}{c}[Decidable c]{x}{r:α}(h:Zc (decide c) x none=some r):c/\x=some r:=gE h
theorem ZhT{R}{u}{m}{v}{k:BitVec m->Option R}{r}(h:TU (.un u m) v k=some r):∃q,v=⟨.un u m,q⟩/\k q=some r:=S5 h
theorem Zh8{R}{Z}{e}{b}{n}{k}{r:R}{u}{T yt ty}{x y}{d}{pos}{aft}{g}(H:∀neg,zb Z b n k T neg (ZW e x) (ZW e y)=some r->u=(match neg with|true=>.neq|false=>.eql)->W4 Z ⟨d,.binOp u T x y yt,ty,pos,aft,g⟩ e b n k r)(h:lh Z b n k T u (ZW e x) (ZW e y)=some r):W4 Z ⟨d,.binOp u T x y yt,ty,pos,aft,g⟩ e b n k r:=by
 unfold lh at h;split at h;·exact H false h rfl
 ·exact H true h rfl
 ·rename_i w _ f;obtain⟨z,h,i⟩:=Kp h;obtain⟨m,h⟩:=Pf h;rw[xD]at h;exact⟨_,h,Loc.val,T4 λB A D E C G p=>by obtain⟨F,c,a⟩:=tL p i Ye;exact⟨_,iv (OG p f Ye) c a m,λs v _=>Ea s v⟩⟩
 ·rename_i w _ f;obtain⟨z,h,i⟩:=Kp h;obtain⟨m,h⟩:=Pf h;rw[Zfn]at h;exact⟨_,h,Loc.val,T4 λB A D E C G p=>by obtain⟨F,c,a⟩:=tL p i Ye;exact⟨_,iw (OG p f Ye) c a m,λs v _=>Ea s v⟩⟩
 ·rename_i J I w _ f;obtain⟨t,h⟩:=Yk h;obtain⟨o,q⟩:=Bn t;obtain⟨z,h,i⟩:=Kp h;obtain⟨m,h⟩:=Pf h;exact⟨_,h,Loc.val,T4 λB A D E C G p=>by obtain⟨F,c,a⟩:=tL p i Ye;exact⟨_,Zm8 o q (Pd p f Ye) c a m,λs v _=>Eb s v⟩⟩
 ·rename_i J I w _ f;obtain⟨t,h⟩:=Yk h;obtain⟨o,q⟩:=Bn t;obtain⟨z,h,i⟩:=Kp h;obtain⟨m,h⟩:=Pf h;exact⟨_,h,Loc.val,T4 λB A D E C G p=>by obtain⟨F,c,a⟩:=tL p i Ye;exact⟨_,Zm9 o (Pd p f Ye) c a m,λs v _=>Eb s v⟩⟩
 ·rename_i f i;simp only[OV,bZ]at h;exact HF f i h λj l c a=>iq c a
 ·rename_i f i;simp only[OV,EG]at h;exact HF f i h λj l c a=>yE c a
 ·rename_i f i;simp only[OV,Zb5]at h;exact HF f i h λj l c a=>ZmC c a
 ·rename_i f i;obtain⟨m,h⟩:=Pf h;simp only[OV,ki]at h;exact HF f i h λj l c a=>ZmI c a m
 ·rename_i f i;obtain⟨m,h⟩:=Pf h;simp only[OV,ZbX]at h;exact HF f i h λj l c a=>ZmJ c a m
 ·rename_i f i;simp only[OV,vN]at h;exact HF f i h λj l c a=>ZcH c a
 ·rename_i f i;simp only[OV,rX]at h;exact HF f i h λj l c a=>ZmH c a
 ·rename_i f i;simp only[OV,Zf9]at h;exact HF f i h λj l c a=>ZmK c a
 ·rename_i f i;exact rV f i h λj l c a=>iu c a
 ·rename_i f i;exact rV f i h λj l c a=>ZmB c a
 ·rename_i f i;exact rV f i h λj l c a=>ZmA c a
 ·rename_i f i;exact rV f i h λj l c a=>ZcI c a
 ·rename_i J I w v _ _ _ _ f i;obtain⟨t,h⟩:=Yk h;obtain⟨o,q⟩:=Bn t;obtain⟨z,rfl,a⟩:=ZhT h;clear h;split at a;·exact HG f i a λj l c a=>ZmU o q c a
  ·exact HG f i a λj l c a=>Zna o q c a
  ·exact HG f i a λj l c a=>Zm1 o q c a
  ·obtain⟨m,a⟩:=Pf a;exact HG f i a λj l c a=>Zm6 o q c a m
  ·obtain⟨m,a⟩:=Pf a;exact HG f i a λj l c a=>Zm7 c a m
  ·exact HG f i a λj l c a=>ZmV o q c a
  ·exact HG f i a λj l c a=>Zm5 o q c a
  ·exact HG f i a λj l c a=>Znb o q c a
  ·exact rW f i a λj l c a=>Zm0 c a
  ·exact rW f i a λj l c a=>ZmZ c a
  ·exact rW f i a λj l c a=>ZmY c a
  ·exact rW f i a λj l c a=>ZmX c a
  ·cases a
 ·cases h
section
variable{R:Type}{Z:Xq}{e:En}{b:Bx}{n:Nat}{k:Wc->Option R}{r:R}{x y z:Operand}{d:Option Tmp}{ty T:TypeId}{pos:String}{aft:Array Edge}{g:Option (Nat×Bool)}
theorem Zlt(h:U8 n k (ZW e x)=some r):W4 Z ⟨d,.move x,ty,pos,aft,g⟩ e b n k r:=⟨_,h,Loc.val,X3 λf c j l i m a=>⟨_,rfl,a.op x Ye⟩⟩
theorem ZhV(h:U8 n k (ZW e x)=some r):W4 Z ⟨d,.assign x,ty,pos,aft,g⟩ e b n k r:=⟨_,h,Loc.val,X3 λf c j l i m a=>⟨_,rfl,a.op x Ye⟩⟩
theorem rM{w}{n}(h:BitVec.ofInt w n=BitVec.allOnes w)(p):BitVec.ofInt w (BitVec.ofInt w n^^^BitVec.ofInt w (p.toNat:Int)).toNat= ~~~p:=by rw[LB,LB,ww,ww,wx,wx,h,BitVec.allOnes_xor]
theorem Zm4{c}{Γ}{H}{u}{m}{p}(f:u.bits=m)(hs:u.signed=false)(hx:Yo Γ x ((un u m).slot p)):PJ c ⟨d,.unOp .xor T x,ty,pos,aft,g⟩ Γ H ((un u m).slot (~~~p)):=S9 λm i a j _ _ _ h=>by
  subst f;refine⟨_,by simp only[execOp,Up (hx m a (h x Ye)),Op.unary,hs,SW,VZ,Op.intBits];rfl,Wy.2 ?_⟩;rw[NH rfl hs];congr 2;cases u<;>first|(cases hs)|skip
  ·exact X7 _ (rM YP p)
  ·exact X7 _ (rM YP p)
  ·exact X7 _ (rM YP p)
  ·exact X7 _ (rM YP p)
theorem ZsC{u}(h:eV n k u (ZW e x)=some r):W4 Z ⟨d,.unOp u T x,ty,pos,aft,g⟩ e b n k r:=by
 unfold eV at h;split at h;·rename_i o _ hx;exact⟨_,h,Loc.val,T4 λi f l m j p a=>⟨_,iA (Hl a (a.bit hx Ye) Ye),λc v _=>Zcv c v⟩⟩
 ·rename_i o _ hx;exact⟨_,h,Loc.val,T4 λi f l m j p a=>⟨_,iA (Hl a (a.bool hx Ye) Ye),λc v _=>J2 _ v⟩⟩
 ·rename_i o _ hx;simp only[OV,EG]at h;exact⟨_,h,Loc.val,T4 λi f l m j p a=>⟨_,ZmF (OG a hx Ye),λc v _=>Ea c v⟩⟩
 ·rename_i A w o _ hx;have⟨t,h⟩:=Yk h;have⟨q,s⟩:=Bn t;exact⟨_,h,Loc.val,T4 λi f l m j p a=>⟨_,Zm2 q s (Pd a hx Ye),λc v _=>Eb _ v⟩⟩
 ·rename_i A w o _ hx;have⟨t,h⟩:=Yk h;have⟨q,s⟩:=Bn t;exact⟨_,h,Loc.val,T4 λi f l m j p a=>⟨_,Zm4 q s (Pd a hx Ye),λc v _=>Eb c v⟩⟩
 ·cases h
theorem ZsD{q}(h:ER q=true):q.signed=false:=by cases q<;>first|rfl|cases h
theorem Zbd{P}{c a}{q}(h1:(P.underlying c).isNone=false)(h2:P.underlying a=some (.int q)):Ko P c a q=true:=by simp[Ko,h2,Yv];simp_all
theorem jS{α:Type}{b}{x}{r:α}(h:(bif b then none else x)=some r):b=false/\x=some r:=by grind
theorem ZiM{i j}(G:uE b n k (ZW e x)=some r->i=j->Il Z.P i=true->W4 Z ⟨d,.convert i j x,ty,pos,aft,g⟩ e b n k r)(hs:Mg b (.un .u8 8) (ZW e x) (λl r=>k ⟨.v ⟨.str,l⟩,r,[],[],n⟩)=some r->Z.P.underlying j=some .string->Il Z.P i=true->W4 Z ⟨d,.convert i j x,ty,pos,aft,g⟩ e b n k r)(h:lR Z b n k i j (ZW e x)=some r):W4 Z ⟨d,.convert i j x,ty,pos,aft,g⟩ e b n k r:=by
 unfold lR at h;obtain⟨C,h⟩:=jS h;split at h
 ·rename_i t;simp only[OV]at h;have m:=Zbd C t;split at h;·rename_i B f;exact⟨_,h,Loc.val,T4 λq p u w s A c=>⟨_,ZcF m (OG c f Ye) PP,λa v _=>Ea a v⟩⟩
  ·rename_i H E B f;cases hb:Nat.blt E 64with|true=>rw[hb]at h;exact⟨_,h,Loc.val,T4 λq p u w s A c=>⟨_,ZcG (by rwa[Uk]at hb) m (Pd c f Ye),λa v _=>Ea a v⟩⟩|false=>rw[hb]at h;exact⟨_,h,Loc.val,T4 λq p u w s A c=>⟨_,ZcF m (Pd c f Ye) zE,λa v _=>Ea a v⟩⟩
  ·cases h
 ·rename_i J _ t;obtain⟨o,h⟩:=Yk h;have D:=ZsD o;have m:=Zbd C t;split at h;·rename_i B f;exact⟨_,h,Loc.val,T4 λq p u w s A c=>⟨_,ip rfl D m (OG c f Ye) PP,λa v _=>Eb a v⟩⟩
  ·rename_i H E B f;exact⟨_,h,Loc.val,T4 λq p u w s A c=>⟨_,Zmy rfl D m (Pd c f Ye),λa v _=>Eb a v⟩⟩
  ·cases h
 ·rename_i I t;obtain⟨o,F⟩:=Yk h;rw[Yv]at o;exact G F (Xu o.1) o.2
 ·grind
 ·cases h
end
inductive O6:TV->List PS->TV->Prop|own{t:Ty}{x:t.den}{p:List PS}{u:TV}:QY ⟨t,x⟩ p u->O6 ⟨.own t,x⟩ p u|full{t:Ty}{x:List t.den}{i:Int}{m:Nat}{y:t.den}{p:List PS}{u:TV}:QD x i=some y->QY ⟨t,y⟩ p u->O6 ⟨.full t,x⟩ (.ix i t.n m::p) u|YO{t:Ty}{x:List t.den}{i:Int}{m:Nat}{y:t.den}{p:List PS}{u:TV}:QD x i=some y->QY ⟨t,y⟩ p u->O6 ⟨.YO t,x⟩ (.ix i t.n m::p) u
inductive GA:TV->List PS->TV->Prop|box{v:TV}{p:List PS}{u:TV}:O6 v p u->GA v p u|mem{f:Nat}{t:Ty}{x:List t.den}{i:Nat}{y:t.den}{p:List PS}{u:TV}:QD x (i:Int)=some y->O6 ⟨t,y⟩ p u->GA ⟨.YL f t,x⟩ (.m i::p) u
theorem ZaX{R}{p}{v}{k}{r:R}(h:tI v p k=some r):∃u,O6 v p u/\k u=some r:=by
 unfold tI at h;split at h;·have⟨u,b,a⟩:=Kk h;exact⟨u,.own b,a⟩
 ·have⟨e,c⟩:=Yk h;cases Xu e;have⟨g,f,d⟩:=U3 c;have⟨u,b,a⟩:=Kk d;exact⟨u,.full f b,a⟩
 ·have⟨e,c⟩:=Yk h;cases Xu e;have⟨g,f,d⟩:=U3 c;have⟨u,b,a⟩:=Kk d;exact⟨u,.YO f b,a⟩
 ·grind
theorem tJ{R}{p}{v}{k}{r:R}(h:Cf v p k=some r):∃u,GA v p u/\k u=some r:=by
 unfold Cf at h;split at h;·have⟨e,d,c⟩:=U3 h;have⟨u,b,a⟩:=ZaX c;exact⟨u,.mem d b,a⟩
 ·have⟨u,b,a⟩:=ZaX h;exact⟨u,.box b,a⟩
def Jx(v:Value)(b:Nat):Prop:=v=.pointer (some ⟨b,0,none⟩)\/∃c a,v=.slice (some ⟨b,0,none⟩) c a
theorem Jx.uniq{v}{b b'}(h:Jx v b)(k:Jx v b'):b=b':=by rcases h with rfl|⟨e,c,rfl⟩<;>rcases k with a|⟨f,d,a⟩<;>cases a<;>rfl
theorem SG.C9{K}{j}{p}{b}(h:SG K j p b):∃r,MB K j p=some r/\Jx r b:=by
 obtain⟨r,a,⟨rfl,_⟩|⟨f,c,d,i,e,g,rfl,_⟩⟩:=h;·exact⟨_,a,.inl rfl⟩
 ·exact⟨_,a,.inr ⟨_,_,rfl⟩⟩
theorem GD.cell{m}{hs}{w}(a:GD m hs w){b k}{cs}{T}(h:(b,k,cellsOf cs T)∈hs){i}{v}(hv:cs[i]?=some v):w.cell? ⟨b,i,none⟩=some v:=by have:=a.YY _ h;simp[World.cell?,this,cellsOf];simpa using hv
theorem au{K}{v u}{p}{h}{B}(n:rel K v.t h B v.x)(c:O6 v p u):∃r b k T cs a,B=[r]/\Jx r b/\(b,k,cellsOf cs T)∈h/\(∀x∈a,x∈h)/\Z8 p+u.t.n<=cs.length/\rel K u.t a ((cs.drop (Z8 p)).take u.t.n) u.x:=by
 cases c with|@own t x p u c=>obtain⟨b,T,E,H,rfl,rfl,n⟩:=n;obtain⟨a,D,f,d,l,_⟩:=focus c n;exact⟨_,b,0,T,E,a,rfl,.inl rfl,Zb,λx z=>XG _ (f.mem_iff.2 (Yd (.inl z))),l,d⟩|@full t x i m y p u hy c=>
  obtain⟨I,j,A⟩:=JX hy;rcases n with⟨rfl,_⟩|⟨b,T,q,g,o,H,rfl,rfl,w,M,P⟩;·simp at j
  ·obtain⟨J,C,L,s,Q,e,R,N⟩:=Row.at w j;rw[A]at e;obtain⟨a,D,f,d,l,_⟩:=focus c e;have O:Z8 p+u.t.n<=t.n:=by rw[<-WH e];exact l
   refine⟨_,b,0,T,g++o,a,rfl,.inr ⟨x.length,q,rfl⟩,XP,?_,?_,?_⟩;·refineλx z=>XG _ ?_;rw[s];exact Yd (.inr (Yd (.inl (f.mem_iff.2 (Yd (.inl z))))))
   ·show i.toNat*t.n+Z8 p+u.t.n<=_;rw[Yw];omega
   ·show rel K u.t a (((g++o).drop (i.toNat*t.n+Z8 p)).take u.t.n) u.x;rw[MQ,UV,Jk,Pu Y]at d;rw[OZ Y,MT (by rw[Wn];omega)];exact d|@YO t x i m y p u hy c=>
  obtain⟨I,j,A⟩:=JX hy;rcases n with⟨rfl,_⟩|⟨b,T,q,g,o,rfl,rfl,w,S,M,P⟩;·simp at j
  ·obtain⟨J,C,L,s,Q,e,R,N⟩:=Row.at w j;rw[A]at e;obtain⟨a,D,f,d,l,_⟩:=focus c e;have O:Z8 p+u.t.n<=t.n:=by rw[<-WH e];exact l
   have F:C=[]:=by have:=s.symm;simp only[List.append_eq_nil_iff]at this;exact this.2.1
   have G:a=[]:=by rw[F]at f;have:=f.symm.eq_nil;exact(Oj this).1
   refine⟨_,b,g.length,T,g++o,a,rfl,.inr ⟨x.length,q,rfl⟩,Tq rfl,by rw[G];simp,?_,?_⟩;·show i.toNat*t.n+Z8 p+u.t.n<=_;rw[Yw];omega
   ·show rel K u.t a (((g++o).drop (i.toNat*t.n+Z8 p)).take u.t.n) u.x;rw[MQ,UV,Jk,Pu Y]at d;rw[OZ Y,MT (by rw[Wn];omega)];exact d
theorem O6.nom{v u}{p}(h:O6 v p u):∀i q,p≠.m i::q:=by rintro i q rfl;cases h with|own h=>cases h
theorem O6.rest{v u}{p}(h:O6 v p u):Ew p=p/\∀K j,MB K j p=K.nm j:=by cases p with|nil=>exact⟨rfl,λ_ _=>rfl⟩|cons a p=>cases a<;>first|exact⟨rfl,λ_ _=>rfl⟩|exact absurd rfl (h.nom _ _)
theorem Row.IT{K}{t}{h}{vs}{xs}{i:Nat}{y}(k:Row 1 (rel K t) h vs xs)(l:QD xs i=some y):∃v b,vs[i]?=some v/\(∀x∈b,x∈h)/\rel K t b [v] y:=by
 have⟨n,e,r⟩:=JX l;have f:=by simpa using e
 have⟨o,j,p,m,s,a,u,q⟩:=Row.at k f;have c:xs[i]=y:=XA;rw[c]at a;have g:i<vs.length:=Y;have d:(vs.drop (i*1)).take 1=[vs[i]]:=by rw[BH,O0 g];rfl
 rw[d]at a;exact⟨vs[i],j,Zb,Zm,a⟩
theorem v9{K}{j}{v u}{p}{h}(q:JP j v.t=true)(o:Wg K j v h)(a:GA v p u):∃r b k T cs c,MB K j p=some r/\Jx r b/\(b,k,cellsOf cs T)∈h/\(∀x∈c,x∈h)/\Z8 p+u.t.n<=cs.length/\rel K u.t c ((cs.drop (Z8 p)).take u.t.n) u.x:=by have⟨C,d,E⟩:=o;cases a with|box a=>obtain⟨r,b,k,T,cs,c,rfl,rest⟩:=au d a;exact⟨r,b,k,T,cs,c,(a.rest.2 K j).trans Zm,rest⟩|@mem f t x i y p u hy a=>obtain⟨_,G,B,w⟩:=d;have⟨v,F,A,z,s⟩:=w.IT hy;obtain⟨r,b,k,T,cs,c,e,g,l,D,m,n⟩:=au s a;cases e;refine⟨v,b,k,T,cs,c,?_,g,z _ l,Zm,m,n⟩;show K.fm _ i=some v;rw[Xu q,show Yj f-1000=f by simp[Yj]];exact B i v A
def Cl(K:KK)(w:World):KK:={K with m:=λa b=>w.cell? ⟨a,b,none⟩}
theorem tR{K:KK}{hs}{w}(b:GD K.m hs w):K.le (Cl K w):=⟨λ_ _ a=>a,λ_ _ _ a=>a,b.mem⟩
theorem DO{w:World}{b}{a}(h:w.heap[b]?=some a)(o):w.cell? ⟨b,o,none⟩=CJ a o:=by unfold World.cell?;rw[h];cases a<;>rfl
theorem tQ{K}{hs}{w}(a:GD K.m hs w):RX (Cl K w) hs:=by intro d b c v hv;show w.cell? _=some v;rw[DO (a.YY _ b)];exact hv
theorem Zq3{K K2}(r:K2.fm=K.fm):∀{t},Ut t=true->t.plain=true->∀{hs}{cs}{x},rel K t hs cs x->rel K2 t hs cs x:=by intro t;induction t with|vec s t j=>exactλc a hs cs x b=>Row.imp (λ_ _ _ b=>j c a b) b|pair k l m p=>intro c a;simp[Ut,Ty.plain,Yv]at c a;rintro hs cs x⟨h,i,e,f,d,g,n,q⟩;exact⟨h,i,e,f,d,g,Zm,Zm⟩|only t j=>exactλc a hs cs x b=>j c a b|YM o t _=>refineλc a hs cs x⟨d,b⟩=>⟨d,b.imp id ?_⟩;grind|cons k l m p=>intro c a;simp[Ut,Ty.plain,Yv]at c a;rintro hs cs x⟨h,i,e,f,d,g,n,q⟩;exact⟨h,i,e,f,d,g,m c.1 a.1 n,Zm⟩|int=>exactλ_ _ hs cs x b=>b|un _ _=>exactλ_ _ hs cs x b=>b|bool=>exactλ_ _ hs cs x b=>b|str=>exactλ_ _ hs cs x b=>b|nl=>exactλ_ _ hs cs x b=>b|own t _=>intro _ a;cases a|opt t _=>intro _ a;cases a|full t _=>intro _ a;cases a|YO t _=>intro _ a;cases a|map k l _ _=>intro _ a;cases a|YL o t _=>intro _ a;cases a|_=>intro c;cases c
structure LM(K:KK)(w:World)(t:Ty)(l:List t.den)(v:Value):Prop where h:∃a cap,v=.slice a l.length cap/\l.length<=cap/\(l=[]\/∃bl o row,a=some ⟨bl,o,none⟩/\Row t.n (rel K t) [] row l/\∀i u,row[i]?=some u->w.cell? ⟨bl,o+i,none⟩=some u)
theorem kl{K}{hs}{w}{t}{l:List t.den}{h}{cs}(g:GD K.m hs w)(j:rel K (.sl t) h cs l):∃v,cs=[v]/\LM K w t l v:=by obtain⟨_,a,c,rfl,i,f⟩:=j;refine⟨_,rfl,a,c,rfl,i,f.imp id λ⟨b,o,p,d,k,e⟩=>⟨b,o,p,d,k,λn q m=>g.mem _ _ _ (e n q m)⟩⟩
theorem Fb{b}:∀{a}{r},JD b a=some r->(∀p∈r,ZF b p.1=some p.2)/\∀j∈a,∃u,ZF b j=some u/\(j,u)∈r
 |[],r,h=>by cases h;exact⟨Zb,Zb⟩|j::a,r,h=>by
  unfold JD at h;split at h;·rename_i v q hv c;have⟨d,e⟩:=Fb c;grind
  ·grind
theorem Zas{K}{hs h}{w}{t}{l:List t.den}{v}(i:t.plain=true)(f:GD K.m hs w)(j:rel K (.full t) h [v] l)(k:∀x∈h,x∈hs):LM K w t l v:=by
 rcases j with⟨rfl,_,c,a⟩|⟨d,n,e,m,s,o,a,rfl,b,g,q⟩;·cases a;exact⟨c,0,rfl,Zb,.inl rfl⟩
 ·cases a;have a:=Row.Lo (λ_ _ _ h=>SD i h) b;subst a;refine⟨_,e,rfl,g,.inr ⟨d,0,m,rfl,b,λr u p=>f.cell (k _ XP) Zm⟩⟩
theorem DJ{b}{j}{v}(h:IV b j=some v):ZF b j=some v/\JP j v.t=true:=by unfold IV at h;grind
theorem PL{K}{j}{v}{h}{u}(d:Wg K j v h)(g:K.nm j=some u)(e:v.t.n=1):rel K v.t h [u] v.x:=by have⟨b,c,f⟩:=d;have a:=WH c;rw[e]at a;match b,a with|[i],_=>simp_all
theorem Zjg{K}{hs h}{w}{t}{l:List t.den}{v}{j}(b:GD K.m hs w)(hv:K.nm j=some v)(a:Wg K j ⟨.YO t,l⟩ h):LM K w t l v:=by have⟨d,c,f⟩:=a;have⟨i,g,e⟩:=kl b (pX c);simp_all
theorem Ft{R}{b}{t}{s}{k}{r:R}(h:Mg b t s k=some r):∃l T,k l T=some r/\(∀p∈T,ZF b p.1=some p.2)/\∀(K)(H)(hs)(w)(v),GD K.m hs w->(∀p∈T,∃h,H p.1=some h/\Wg K p.1 p.2 h/\∀x∈h,x∈hs)->YU K H s v->LM K w t l v:=by
 unfold Mg at h;split at h;·refine⟨[],[],h,Zb,?_⟩;rintro K H hs w v d _⟨o,⟨_,rfl⟩,rfl⟩;exact⟨none,0,rfl,YG _,.inl rfl⟩
 ·obtain⟨l,c,a⟩:=S5 h;cases c;refine⟨l,[],a,Zb,?_⟩;rintro K H hs w v d _⟨o,G,rfl⟩;obtain⟨n,rfl,O⟩:=kl d G;exact O
 ·obtain⟨l,c,a⟩:=S5 h;cases c;refine⟨l,[],a,Zb,?_⟩;rintro K H hs w v d _⟨o,G,rfl⟩;obtain⟨n,rfl,O⟩:=kl d (rO G);exact O
 ·rename_i B x;split at h;·rename_i M l q;obtain⟨f,h⟩:=Yk h;obtain⟨I,c,a⟩:=S5 h;cases c;refine⟨I,[(B,_)],a,λp f=>by rw[YZ f];exact q,?_⟩;rintro K H hs w v d g⟨o,⟨_,n,A,rfl,_⟩,rfl⟩;obtain⟨E,_,i,j⟩:=g _ (Tq rfl);exact Zas f d (PL i A rfl) j
  ·rename_i M l q;obtain⟨I,c,a⟩:=S5 h;cases c;refine⟨I,[(B,_)],a,λp f=>by rw[YZ f];exact q,?_⟩;rintro K H hs w v d g⟨o,⟨_,n,A,rfl,_⟩,rfl⟩;obtain⟨E,_,i,j⟩:=g _ (Tq rfl);exact Zjg d A i
  ·cases h
 ·rename_i x1 t0 x;rcases Mu h with⟨_,h⟩|⟨L,u,h⟩;·cases h
  ·split at h
   ·rename_i f' M xs q;obtain⟨e,h⟩:=Yk h;rw[Yv]at e;cases Xu e.1;obtain⟨ys,c,a⟩:=S5 h;cases c;obtain⟨l,P,F⟩:=U3 a;refine⟨l,[(Yj x1,_)],F,λp f=>by rw[YZ f];exact q,?_⟩;rintro K H hs w v d g⟨o,⟨_,S⟩,rfl⟩;obtain⟨E,_,i,j⟩:=g _ (Tq rfl);obtain⟨cv,⟨_,vs,y1,Q⟩,_⟩:=i;obtain⟨n,A,hv,y0,z⟩:=Row.IT Q P;rcases S with⟨c,_⟩|⟨i',u',W,J,rfl,_⟩;·have D:x=none:=c;rw[u]at D;cases D
    ·have D:x=some i':=W;rw[u]at D;cases D;rw[y1 L n hv]at J;cases J;exact Zas e.2 d z λy5 hy=>j _ (y0 y5 hy)
   ·cases h
 ·rename_i js M l;obtain⟨e,h⟩:=Yk h;rw[Yv]at e;obtain⟨I,c,a⟩:=S5 h;cases c;clear h;split at a
  ·rename_i y3 hq;obtain⟨F,h4⟩:=Fb hq;refine⟨I,y3,a,F,λK H hs w v d g G=>?_⟩;obtain⟨o,z,rfl⟩:=G (Cl K w) (tR d) λB hj=>by obtain⟨n,W,J⟩:=h4 B hj;obtain⟨E,eh,i,j⟩:=g _ J;exact⟨E,eh,λx S=>tQ d x (j x S)⟩
   obtain⟨_,x0,N,rfl,P,x5⟩:=z;refine⟨x0,N,rfl,P,x5.imp (λh=>h) λ⟨V,y2,y4,ea,Q,x2⟩=>⟨V,y2,y4,ea,Row.imp (λ_ _ _ h=>Zq3 (K:=Cl K w) (K2:=K) rfl e.1 e.2 h) Q,x2⟩⟩
  ·cases a
 ·rename_i B p sz m C u;split at h
  ·rename_i v x3;obtain⟨q,x6⟩:=DJ x3;obtain⟨w0,ha,h⟩:=tJ h;split at h
   ·rename_i m' M x;obtain⟨e,a⟩:=Yk h;clear h;rw[Yv]at e;obtain⟨rfl,rfl⟩:=DG e.1;obtain⟨U,c,F⟩:=S5 a;cases c;clear a;refine⟨_,[(B,v)],F,λp f=>by rw[YZ f];exact q,?_⟩;rintro K H hs w n d g⟨V,N,xv,rfl,x4,h0,yf,y7⟩;obtain⟨E,_,i,j⟩:=g _ (Tq rfl);obtain⟨r0,b0,k0,y6,o,A,x8,x9,x7,yl,y9,z⟩:=v9 x6 i ha;obtain⟨r1,Z,xk⟩:=xv.C9;rw[x8]at Z;cases Z;have eb:=x9.uniq xk;subst eb;have e0:A=[]:=SD (t:=.vec m t) e.2 z;subst e0;have X:(Xc (Yf C) (YC (Yf u) (Xw U))).length=(u-C).toNat:=by show(List.drop C.toNat (List.take u.toNat U.toList)).length=_;rw[Wn,UF,Gy];omega
    refine⟨_,N,by rw[X],by rw[X];exact x4,.inr ⟨b0,_,_,rfl,Row.drop (R:=rel K t) (Yf C) (Row.take (Yf u) (show Row t.n (rel K t) [] _ (Vector.toList U)from z)),λL n y=>d.cell (j _ x7) ?_⟩⟩;have y8:=(Wm y).1;rw[Rt,Ps,Ps,Rt]at y;split at y
    ·split at y;·rw[<-y];congr 1;show Z8 p+C.toNat*t.n+L=Z8 p+(C.toNat*t.n+L);omega
     ·cases y
    ·cases y
   ·cases h
  ·cases h
 ·cases h
theorem Zkn{s}(h:No s=true){i j}(e:US s i=some j):i=j:=by induction s with|nil=>cases e|cons c s b=>have⟨a,d⟩:=c;simp only[No,E6,Yv]at h;rw[xC]at e;cases hb:Nat.beq a i with|true=>rw[hb]at e;cases e;exact(Xu hb).symm.trans (Xu h.1)|false=>rw[hb]at e;exact b h.2 e
theorem KU{K:KK}{s}(h:No s=true):(K.WO s).le K:=by
 refine⟨λd v a=>?_,λ_ _ _ h=>h,XI.refl _⟩;simp[KK.WO]at a;split at a;·have⟨e,b,c⟩:=Dg a;rw[Zkn h b];exact c
 ·grind
theorem JG{R}{r:R}{t}{v}{c}{k}(h:OB t v c k=some r):∃x c',k x c'=some r/\No c'.s=true/\NP t v c x c':=by have⟨x,c',h,a⟩:=lO h;have⟨b,h⟩:=Yk h;exact⟨x,c',h,b,a⟩
theorem Gd{K}{H}{s}{b}{v}(h:Qj s=some b)(a:YU K H s v):∃cs,rel K b.t [] cs b.x/\v=XE b.t.ag cs:=by
 unfold Qj at h;split at h;·cases h;exact a
 ·cases h;obtain⟨c,f,d,rfl,a,e⟩:=a;exact⟨_,⟨rfl,.inr ⟨_,c,f,d,rfl,rfl,a,e⟩⟩,rfl⟩
 ·grind
theorem rL{R:Bx}(h:∀p∈R,ZF [] p.1=some p.2):R=[]:=by cases R with|nil=>rfl|cons p R=>have:=h p XP;cases this
theorem ZiG{t}{v}{x}{c'}(h:NP t v {g:=[]} x c')(hi:No c'.s=true):∀(K)(hs)(w)(cs),GD K.m hs w->rel K v.t [] cs v.x->∃K' hx j,Y0 w K hs K' (hx++j++hs)/\K'.fm=K.fm/\rel K' t hx cs x/\XE v.t.ag cs=XE t.ag cs:=by intro K hs w cs i l;have⟨n,q,p,s,m⟩:=h;have d:=rL s.mr;have c:=rL s.mq;subst d c;have⟨K',hx,k,b,o,_,_,e,_⟩:=m w K _ [] [] _ (by simpa using i.nil) l trivial trivial Zb (by intro a t r f;simp at f) Zb;refine⟨K',hx,k,Y0.perm Zb Zb (b.frame hs),by funext a;exact e a Zb,Xl (KU hi) o,by rw[n.ag]⟩
theorem Y0.drop{w}{K K'}{hs d b}(h:Y0 w K hs K' (d++b)):Y0 w K hs K' b:=⟨h.le,h.nm,λa=>⟨(h.step a).1.right,(h.step a).2.sub λe c=>by rw[HP.XL];exact Yd (.inr c)⟩⟩
theorem Znd{R}{t}{s}{k}{r:R}(p:t.plain=true)(h:Mw t s k=some r):∃x,k x=some r/\∀(K)(H)(hs)(w)(v),GD K.m hs w->YU K H s v->∃K' cs,Y0 w K hs K' hs/\K'.fm=K.fm/\rel K' t [] cs x/\v=XE t.ag cs:=by
 have b:∀a:TV,Qj s=some a->(OB t a {g:=[]} λx e=>bif e.r.isEmpty then k x else none)=some r->∃x,k x=some r/\∀K H hs w v,GD K.m hs w->YU K H s v->∃K' cs,Y0 w K hs K' hs/\K'.fm=K.fm/\rel K' t [] cs x/\v=XE t.ag cs:=by intro a hs h;have⟨x,z,h,o,m⟩:=JG h;have⟨_,l⟩:=Yk h;refine⟨x,l,λK H y w v n q=>?_⟩;obtain⟨cs,u,rfl⟩:=Gd hs q;have⟨K',B,A,d,i,c,j⟩:=ZiG m o K y w _ n u;have f:=SD p c;subst f;exact⟨K',cs,d.drop,i,c,j⟩
 unfold Mw at h;split at h;·exact b _ rfl h
 ·exact b _ rfl h
 ·cases h
theorem iC{R}{s}{k:Bool->Option R}{r}(h:Mw .bool s k=some r):∃x,k x=some r/\∀(K)(H)(hs)(w)(v),GD K.m hs w->YU K H s v->v=.bool x:=by have⟨x,h,c⟩:=Znd rfl h;refine⟨x,h,λK H hs w v a b=>?_⟩;obtain⟨d,e,_,_,⟨_,rfl⟩,rfl⟩:=c K H _ w v a b;rfl
theorem Zmw{R}{Z}{e}{b}{n}{k}{r:R}{x y z}{d}{ty}{pos}{aft}{g}(h:Nq Z e b n k (.pick x y z)=some r):W4 Z ⟨d,.pick x y z,ty,pos,aft,g⟩ e b n k r:=by
 simp[Nq]at h;split at h;·rename_i p c;refine⟨_,h,Loc.val,X3 λi f m o j l a=>⟨j.eval y,?_,a.op y Ye⟩⟩;simp[execOp,a.bit c Ye,asBool]
 ·rename_i p c;refine⟨_,h,Loc.val,X3 λi f m o j l a=>⟨j.eval z,?_,a.op z Ye⟩⟩;simp[execOp,a.bit c Ye,asBool]
 ·rename_i t c;have⟨p,h,q⟩:=iC h;have⟨v,h,s⟩:=iC h;refine⟨_,h,Loc.val,X3 λi f m o j l a=>⟨.bool _,?_,⟨_,⟨rfl,rfl⟩,rfl⟩⟩⟩;cases t<;>simp[execOp,a.bool c Ye,q i f _ l _ a.gd (a.op y Ye),s i f _ l _ a.gd (a.op z Ye),asBool,aM]
 ·grind
theorem ZeU{K}:∀{xs:List (BitVec 8)}{hs}{cs},Row 1 (rel K (.un .u8 8)) hs cs xs->cs=xs.map λx=>Value.int .u8 x.toNat|[],_,cs,h=>h.1|x::xs,_,cs,⟨a,b,h1,h2,e,_,_,r,q⟩=>by rw[e,r.2,ZeU q];rfl
theorem ZfN{P}{T}(h:Il P T=true):∃e,P.underlying T=some (.slice e)/\P.underlying e=some (.int .u8):=by
 unfold Il at h;split at h;·grind
 ·grind
theorem Zsf{P}{b a}{K}{w}{l:List (BitVec 8)}{v}(n:Il P b=true)(d:P.underlying a=some .string)(h:LM K w (.un .u8 8) l v):∃s,(convert b a v).run P w=.ok (.string s) w/\s.data.toList.map UInt8.toBitVec=l:=by
 have⟨c,f,e⟩:=ZfN n;obtain⟨i,k,rfl,r,rfl|⟨j,o,u,rfl,m,q⟩⟩:=h.h;·refine⟨ByteArray.empty,?_,rfl⟩;rw[run_convert_bytes_string w b a c _ _ _ f e d];cases i with|none=>rfl|some p=>rfl
 ·have t:=ZeU m;refine⟨_,run_convert_bytes_arg w b c f e j o l.length k (l.map λg=>g.toNat) Zb Zm a d,?_⟩;simp[strOfNums,List.map_map];refine(List.map_congr_left λg _=>?_).trans (List.map_id _);simp
theorem ZhD:∀{t:Ty},t.ag=false->t.n=1\/(∃f u,t=.YL f u)\/t=.nl\/∃a b,t=.cons a b:=by intro t c;cases t<;>first|(cases c;done)|exact .inl rfl|simp|simp|simp
theorem rR{ag}{cs}{n}(a:cs.length=n)(h1:ag=false->n=1):U6 ag cs=XE ag cs:=by cases ag with|true=>rfl|false=>rw[h1 rfl]at a;match cs,a with|[v],_=>rfl
theorem KZ{t}(h:vT t=true):t.ag=false->t.n=1:=by
 intro a;rcases ZhD a with e|⟨d,f,rfl⟩|rfl|⟨b,c,rfl⟩;·omega
 ·cases h
 ·cases h
 ·cases h
theorem L9:∀{p q},RU p->JQ q=true->RU (p++q)|[],[],_,_=>trivial|[],.a::q,_,h=>L9 (p:=[]) trivial (q:=q) h|[],.b _::q,_,h=>L9 (p:=[]) trivial (q:=q) h|[],.o::q,_,h=>L9 (p:=[]) trivial (q:=q) h|[],.ix _ _ _::_,_,h=>by cases h|[],.m _::_,_,h=>by cases h|.ix _ _ _::p,q,⟨h1,h2⟩,h=>⟨h1,L9 h2 h⟩|.a::p,q,h1,h=>L9 (p:=p) h1 h|.b _::p,q,h1,h=>L9 (p:=p) h1 h|.o::p,q,h1,h=>L9 (p:=p) h1 h|.m _::p,q,h1,h=>L9 (p:=p) h1 h
theorem DL:∀{p}{i}{sz m},RU p->0<=i->i.toNat<m->RU (p++[.ix i sz m])|[],_,_,_,_,c,h1=>⟨Y,trivial⟩|.ix _ _ _::p,_,_,_,⟨h1,h2⟩,c,h=>⟨h1,DL h2 c h⟩|.a::p,_,_,_,h1,c,h=>DL (p:=p) h1 c h|.b _::p,_,_,_,h1,c,h=>DL (p:=p) h1 c h|.o::p,_,_,_,h1,c,h=>DL (p:=p) h1 c h|.m _::p,_,_,_,h1,c,h=>DL (p:=p) h1 c h
theorem F7:∀(p q),Z8 (p++q)=Z8 p+Z8 q|[],q=>by simp[Z8]|.ix i _ m::p,q=>by simp[Z8,F7 p q,BF]|.a::p,q=>by simp[Z8,F7 p q]|.b o::p,q=>by simp[Z8,F7 p q,BF]|.o::p,q=>by simp[Z8,F7 p q]|.m i::p,q=>by simp[Z8,F7 p q]
theorem IL.more{r}{p q}{b}(h:IL r p b)(f:RU p->RU (p++q))(g:∀x s,p=x::s->RU s->RU (s++q)):IL r (p++q) b:=by
 rcases h with⟨rfl,h⟩|⟨k,a,i,l,j,s,rfl,rfl,c,d,e⟩;·exact .inl ⟨rfl,f h⟩
 ·exact .inr ⟨k,a,i,l,j,s++q,rfl,rfl,c,d,g _ _ rfl e⟩
theorem SG.more{K}{j}{p q}{b}(h:SG K j p b)(k:p≠[]\/∀i s,q≠.m i::s)(e:∀p,RU p->RU (p++q)):SG K j (p++q) b:=by
 have⟨a,d,f⟩:=h;cases p with|nil=>
  have l:=k.resolve_left λh=>h rfl;have g:MB K j q=K.nm j/\Ew q=q:=by cases q with|nil=>exact⟨rfl,rfl⟩|cons c q=>cases c<;>first|exact⟨rfl,rfl⟩|grind
  refine⟨a,g.1.trans d,?_⟩;show IL a _ b;have:=IL.more f (e _) Zm;simpa[Ew]using this|cons c p=>cases c<;>first|exact⟨a,d,IL.more f (e _) Zm⟩
theorem ZjS{q}(h:JQ q=true):∀i s,q≠.m i::s:=by rintro i s rfl;cases h
theorem SG.field{K}{j}{p q}{b}(h:SG K j p b)(a:JQ q=true):SG K j (p++q) b:=h.more (.inr (ZjS a)) λ_ c=>L9 c a
theorem SG.index{K}{j}{p}{b}{i}{sz m}(h:SG K j p b)(a:0<=i)(h1:i.toNat<m):SG K j (p++[.ix i sz m]) b:=h.more Zb λ_ c=>DL c a h1
theorem J3{K}{H}{j}{t}{y:t.den}{h}{val}{u:Unit}(hv:YU K H (.v ⟨.hole j,u⟩) val)(a:Wg K j ⟨.own t,y⟩ h):∃b T ds h',h=(b,0,cellsOf ds T)::h'/\K.nm j=some (.pointer (some ⟨b,0,none⟩))/\val=.pointer (some ⟨b,0,none⟩)/\rel K t h' ds y:=by obtain⟨d,⟨_,i,c,rfl,_⟩,rfl⟩:=hv;obtain⟨b,T,ds,h',f,e,g⟩:=PL a c rfl;grind
theorem iD{K}{H}{s}{j}{p}{v u}{h}{val}(d:placeOf s=some (j,p))(hv:YU K H s val)(y:JP j v.t=true)(f:Wg K j v h)(a:GA v p u):∃b k T cs c,val=.pointer (some ⟨b,Z8 p,none⟩)/\(b,k,cellsOf cs T)∈h/\(∀x∈c,x∈h)/\Z8 p+u.t.n<=cs.length/\rel K u.t c ((cs.drop (Z8 p)).take u.t.n) u.x:=by
 have⟨r,b,k,T,cs,c,o,l,i,q,g,n⟩:=v9 y f a;unfold placeOf at d;split at d;·cases d;obtain⟨C,A,rfl⟩:=hv;have⟨J,m,z⟩:=A.C9;rw[o]at m;cases m;cases l.uniq z;exact⟨b,k,T,cs,c,rfl,i,q,g,n⟩
 ·cases d;cases a with|box a=>cases a with|@own t x p u a=>
    obtain⟨w,B,D,G,F,I,rfl,_⟩:=J3 hv f;have:r=.pointer (some ⟨w,0,none⟩):=by have E:K.nm j=some r:=o;grind
    subst this;rcases l with e|⟨_,_,e⟩;·cases e;exact⟨b,k,T,cs,c,rfl,i,q,g,n⟩
    ·grind
 ·grind
inductive Jo:TV->List PS->TV->TV->Prop|own{t:Ty}{x:t.den}{p:List PS}{y r:TV}:Rh ⟨t,x⟩ p y r->Jo ⟨.own t,x⟩ p y ⟨.own r.t,r.x⟩|kJ{t:Ty}{x:List t.den}{i:Int}{m:Nat}{z:t.den}:Jo ⟨.full t,x⟩ [.ix i t.n m] ⟨t,z⟩ ⟨.full t,x.set i.toNat z⟩|full{t:Ty}{x:List t.den}{i:Int}{m:Nat}{w z:t.den}{p:List PS}{y:TV}:QD x i=some w->Rh ⟨t,w⟩ p y ⟨t,z⟩->Jo ⟨.full t,x⟩ (.ix i t.n m::p) y ⟨.full t,x.set i.toNat z⟩
inductive LJ:TV->List PS->TV->TV->Prop|box{v:TV}{p:List PS}{y r:TV}:Jo v p y r->LJ v p y r|mem{f:Nat}{t:Ty}{x:List t.den}{i:Nat}{w z:t.den}{p:List PS}{y:TV}:QD x (i:Int)=some w->Jo ⟨t,w⟩ p y ⟨t,z⟩->LJ ⟨.YL f t,x⟩ (.m i::p) y ⟨.YL f t,x.set i z⟩
theorem Zfl{R}{v y}{p}{k}{r:R}(h:pG v p y k=some r):∃u,Jo v p y u/\k u=some r:=by
 unfold pG at h;split at h;·have⟨u,d,g⟩:=pI h;exact⟨_,.own d,g⟩
 ·have⟨c,a⟩:=Yk h;cases Xu c;obtain⟨j,rfl,b⟩:=S5 a;exact⟨_,.kJ,b⟩
 ·have⟨c,a⟩:=Yk h;cases Xu c;have⟨l,i,b⟩:=U3 a;have⟨u,d,e⟩:=pI b;obtain⟨j,rfl,f⟩:=S5 e;exact⟨_,.full i d,f⟩
 ·grind
theorem pH{R}{v y}{p}{k}{r:R}(h:Lv v p y k=some r):∃u,LJ v p y u/\k u=some r:=by
 unfold Lv at h;split at h;·have⟨g,f,b⟩:=U3 h;have⟨u,a,c⟩:=Zfl b;obtain⟨i,rfl,d⟩:=S5 c;exact⟨_,.mem f a,d⟩
 ·have⟨u,a,e⟩:=Zfl h;exact⟨_,.box a,e⟩
theorem aw{K}{v u}{p}{h}{O}(z:rel K v.t h O v.x)(g:O6 v p u)(x1:∀t x,v≠⟨.YO t,x⟩):∃r b T cs j P,O=[r]/\Jx r b/\h.Perm ((b,0,cellsOf cs T)::(j++P))/\Z8 p+u.t.n<=cs.length/\rel K u.t j ((cs.drop (Z8 p)).take u.t.n) u.x/\∀{K'}{y o},K.le K'->Jo v p y o->∀{k}{c},rel K' y.t k c y.x->y.t.n=u.t.n/\∃h',h'.Perm ((b,0,cellsOf (cs.take (Z8 p)++c++cs.drop (Z8 p+u.t.n)) T)::(k++P))/\rel K' o.t h' [r] o.x:=by cases g with
 |@own t x p u g=>obtain⟨b,T,F,h',rfl,rfl,z⟩:=z;obtain⟨j,A,J,B,I,M⟩:=focus g z;refine⟨_,b,T,F,j,A,rfl,.inl rfl,OY _ J,I,B,?_⟩;intro K' y o n d k c C;cases d with|@own _ _ _ _ r d=>obtain⟨s,D,L,x2⟩:=M n d C;exact⟨s,(b,0,cellsOf (F.take (Z8 p)++c++F.drop (Z8 p+u.t.n)) T)::D,OY _ L,b,T,_,D,rfl,rfl,x2⟩
 |@full t x i m y p u k g=>
  obtain⟨h0,H,x4⟩:=JX k;rcases z with⟨rfl,_⟩|⟨b,T,E,a,e,h',rfl,rfl,x3,hl,hz⟩;·simp at H
  ·obtain⟨f,hm,l,eh,k1,N,k3,x0⟩:=Row.at x3 H;rw[x4]at N;obtain⟨j,A,J,B,I,M⟩:=focus g N;have x5:Z8 p+u.t.n<=t.n:=by rw[<-WH N];exact I
   have G:Z8 (.ix i t.n m::p)=i.toNat*t.n+Z8 p:=rfl;refine⟨_,b,T,a++e,j,f++(A++l),rfl,.inr ⟨x.length,E,rfl⟩,?_,by rw[G,Yw];omega,?_,?_⟩;·refine OY _ ?_;rw[eh];refine(VA f (J.append_right l)).trans ?_;rw[Z5,<-Z5 f,<-Z5 j];exact XJ.append_right _
   ·rw[G];rw[MQ,UV,Jk,Pu Y]at B;rw[OZ Y,MT (by rw[Wn];omega)];exact B
   ·intro K' X o n d V c C;have W:∀{q:t.den},Rh ⟨t,y⟩ p X ⟨t,q⟩->X.t.n=u.t.n/\∃h',h'.Perm ((b,0,cellsOf ((a++e).take (Z8 (.ix i t.n m::p))++c++(a++e).drop (Z8 (.ix i t.n m::p)+u.t.n)) T)::(V++(f++(A++l))))/\rel K' (.full t) h' [.slice (some ⟨b,0,none⟩) x.length E] (x.set i.toNat q):=by
     intro q d;obtain⟨s,D,L,S⟩:=M n d C;have Q:=Row.set (R:=rel K' t) (y:=q) H (Row.imp (λ_ _ _ h=>Xl n h) k1) (Row.imp (λ_ _ _ h=>Xl n h) k3) (WH S) S;have Z:a.take (i.toNat*t.n)++((a.drop (i.toNat*t.n)).take t.n).take (Z8 p)=a.take (i.toNat*t.n+Z8 p):=by rw[Jk,Pu Y,Dc]
     have a2:((a.drop (i.toNat*t.n)).take t.n).drop (Z8 p+u.t.n)++a.drop (i.toNat*t.n+t.n)=a.drop (i.toNat*t.n+Z8 p+u.t.n):=by
      have:a.drop (i.toNat*t.n+t.n)=(a.drop (i.toNat*t.n+(Z8 p+u.t.n))).drop (t.n-(Z8 p+u.t.n)):=by rw[UV];congr 1;omega
      rw[MQ,UV,this,Sb];congr 1;omega
     have e1:a.take (i.toNat*t.n)++(((a.drop (i.toNat*t.n)).take t.n).take (Z8 p)++c++((a.drop (i.toNat*t.n)).take t.n).drop (Z8 p+u.t.n))++a.drop (i.toNat*t.n+t.n)=a.take (i.toNat*t.n+Z8 p)++c++a.drop (i.toNat*t.n+Z8 p+u.t.n):=by rw[<-Z,<-a2];simp only[Z5]
     rw[e1]at Q;have x6:i.toNat*t.n+t.n<=a.length:=x0;have e2:(a++e).take (Z8 (.ix i t.n m::p))++c++(a++e).drop (Z8 (.ix i t.n m::p)+u.t.n)=a.take (i.toNat*t.n+Z8 p)++c++a.drop (i.toNat*t.n+Z8 p+u.t.n)++e:=by rw[G,MT Y,OZ Y];simp only[Z5]
     refine⟨s,(b,0,cellsOf (a.take (i.toNat*t.n+Z8 p)++c++a.drop (i.toNat*t.n+Z8 p+u.t.n)++e) T)::(f++(D++l)),?_,.inr ⟨b,T,E,_,e,_,by rw[Ol],rfl,Q,by rw[Ol];exact hl,?_⟩⟩;·rw[e2];refine OY _ ((VA f (L.append_right l)).trans ?_);rw[Z5,<-Z5 f,<-Z5 V];exact XJ.append_right _
     ·rw[<-hz];simp only[Yw,UF,Wn,WH C,s];omega
    cases d with
    |kJ=>cases g with|nil=>exact W (.nil rfl)
    |@full _ _ _ _ w q _ _ U d=>rw[k]at U;cases U;exact W d
 |@YO t x i m y p u k g=>exact absurd rfl (x1 _ _)
theorem ZbA{α}{l}{i:Nat}{x:α}(h:QD l i=some x):∃hi,l[i]=x:=by obtain⟨_,hi,a⟩:=JX h;exact⟨Y,XA⟩
theorem ls{K}{j}{v u}{p}{h}(hf:JP j v.t=true)(hb:Wg K j v h)(n:GA v p u)(hs:∃y l,LJ v p y l):∃r b T cs a c,MB K j p=some r/\Jx r b/\h.Perm ((b,0,cellsOf cs T)::(a++c))/\Z8 p+u.t.n<=cs.length/\rel K u.t a ((cs.drop (Z8 p)).take u.t.n) u.x/\∀{K'}{y l},K.le K'->LJ v p y l->∀{q}{o},rel K' y.t q o y.x->y.t.n=u.t.n/\∃h',h'.Perm ((b,0,cellsOf (cs.take (Z8 p)++o++cs.drop (Z8 p+u.t.n)) T)::(q++c))/\Wg K' j l h':=by obtain⟨cv,Q,G⟩:=hb;cases n with
 |box n=>
  have I:∀t x,v≠⟨.YO t,x⟩:=by rintro t x rfl;obtain⟨y,l,hs⟩:=hs;cases hs with|box hs=>cases hs
  obtain⟨r,b,T,cs,a,c,rfl,⟨A,B,C,D,E⟩⟩:=aw Q n I;refine⟨r,b,T,cs,a,c,(n.rest.2 K j).trans (G _ Zb),A,B,C,D,?_⟩;intro K' y l k e q o M;cases e with|box e=>obtain⟨H,h',J,L⟩:=E k e M;exact⟨H,h',J,[r],L,λu a=>k.nm _ _ (G u a)⟩|mem=>exact absurd rfl (n.nom _ _)
 |@mem f t x d y p u q n=>
  obtain⟨ec,m,V,S⟩:=Q;obtain⟨P,x1⟩:=ZbA q;obtain⟨g,gm,i,eh,k1,N,k3,x2⟩:=Row.at S P;rw[x1]at N;have x0:=Row.length S;have F:d<m.length:=by rw[x0];omega
  have e2:(m.drop (d*1)).take 1=[m[d]]:=by rw[BH,O0 F];rfl
  rw[e2]at N;have I:∀Z x',(⟨t,y⟩:TV)≠⟨.YO Z,x'⟩:=by intro Z x' s;cases s;obtain⟨y',l,hs⟩:=hs;cases hs with|mem _ hs=>cases hs|box hs=>cases hs
  obtain⟨r,b,T,cs,a,c,s,A,B,C,D,E⟩:=aw (v:=⟨t,y⟩) N n I;have O:m[d]=r:=by simpa using s
  refine⟨r,b,T,cs,a,g++(c++i),?_,A,?_,C,D,?_⟩;·show K.fm (j-1000) d=some r;rw[Xu hf,show Yj f-1000=f by simp[Yj],<-O];exact V d _ (VB F)
  ·rw[eh];refine(VA g (B.append_right i)).trans ?_;have:g++((b,0,cellsOf cs T)::(a++c)++i)=g++(b,0,cellsOf cs T)::a++(c++i):=Zb;rw[this];refine(XJ.append_right _).trans ?_;simp
  ·intro K' yy l k e X o M;cases e with|box e=>cases e|@mem _ _ _ _ w z _ _ W e=>
    rw[q]at W;cases W;obtain⟨H,h',J,L⟩:=E k e M;have U:=Row.set (R:=rel K' t) (y:=z) P (Row.imp (λ_ _ _ h=>Xl k h) k1) (Row.imp (λ_ _ _ h=>Xl k h) k3) rfl L;have e3:m.take (d*1)++[r]++m.drop (d*1+1)=m:=by rw[BH,<-O,Z5,Db,<-O0 F,Sb]
    rw[e3]at U;refine⟨H,g++(h'++i),(VA g (J.append_right i)).trans ?_,cv,⟨ec,m,λd v hv=>k.fm _ _ _ (V d v hv),U⟩,λu a=>k.nm _ _ (G u a)⟩;have:g++((b,0,cellsOf (cs.take (Z8 p)++o++cs.drop (Z8 p+u.t.n)) T)::(X++c)++i)=g++(b,0,cellsOf (cs.take (Z8 p)++o++cs.drop (Z8 p+u.t.n)) T)::X++(c++i):=Zb;rw[this];refine(XJ.append_right _).trans ?_;simp[Z8]
theorem kL{K K':KK}{b a rest hx:HP}{w}(g:GD K.m (b++hx) w)(c:K'.m=K.m)(h:b.Perm (a++rest)):GD K'.m (a++hx) w/\ZG w w K.m K'.m (b++hx).bs (a++hx).bs:=by
 have d:(b++hx).Perm (a++hx++rest):=by refine(h.append_right _).trans ?_;rw[Z5,Z5];exact VA _ XJ
 refine⟨by rw[c];exact(g.perm d).left,?_⟩;rw[c];refine(ZG.refl w _ _).sub λe f=>?_;have:e∈HP.bs (a++hx++rest):=by rw[HP.XL];exact Yd (.inl f)
 exact(d.map _).mem_iff.2 this
theorem GD.Wr{m}{hs:HP}{w}{b k}{T}{cs}(f)(d:GD m ((b,k,cellsOf cs T)::hs) w)(q:∀o,m b o=none):GD m ((b,k,cellsOf f T)::hs) (Go.Sl.Wr w b T f)where
 mem:=λc o v j=>by
  have h:c≠b:=λg=>Zm;have:=d.mem c o v j;have l:(Go.Sl.Wr w b T f).heap[c]?=w.heap[c]?:=by have n:b≠c:=λg=>h g.symm;simp[Go.Sl.Wr,Jh,n]
  exact(BL (w:=w) (a:=⟨c,o,none⟩) l).trans this
 nodup:=d.nodup;YY:=λe hx=>by
  rcases XB hx with rfl|hx;·exact xA (d.YY (b,k,cellsOf cs T) Zb)
  ·have i:=d.nodup;simp only[HP.bs,XF,T9]at i;have h:b≠e.1:=λg=>i.1 Zm;simp only[Go.Sl.Wr,Jh,Yg h];exact d.YY e (XG _ hx)
 free:=λe hx o p=>by
  rcases XB hx with rfl|hx;·grind
  ·exact d.free e (XG _ hx) o p
theorem GD.tC{m}{hs:HP}{w}{b}{o}(a:GD m ((b,0,o)::hs) w):∀i,m b i=none:=λi=>a.free (b,0,o) Zb i Zb
theorem Ziw{K}{t}{hs}{cs}{x}(h:rel K t hs cs x)(hv:vT t=true):(XE t.ag cs).cells=cs.toArray:=by cases b:t.ag with|true=>rfl|false=>have a:=WH h;rw[KZ hv b]at a;match cs,a with|[v],_=>have c:=RD h v Zb;cases v<;>first|rfl|cases c
theorem tw{K}{n n'}{l}(h:∀p∈l,n<=p.1/\p.1<n')(c:n'<=500):Yt K l:=by intro b d e a;have:=h _ a;simp[Yj]at this;omega
theorem tx{K K'}{j}{v y u}{p}(hs:LJ v p y u)(h:Yt K [(j,v)])(c:∀f,j=Yj f->K'.fm f=K.fm f):Yt K' [(j,u)]:=by intro f a k d e b;cases YZ d;cases hs with|box hs=>cases hs|@mem f a x i w z p y g hs=>rw[c f rfl];refine h f a x Zb e ?_;simpa using b
theorem Yt.append{K}{a b}(h:Yt K a)(k:Yt K b):Yt K (a++b):=λd g i c f e=>(Z1 c).elim (λc=>h d g _ c f e) λc=>k d g _ c f e
theorem Yt.cons{K}{p}{b}(h:Yt K [p])(k:Yt K b):Yt K (p::b):=Yt.append h k
theorem Jo.at{v y r}{p}(h:Jo v p y r){K}{hs}{o}{D}(c:rel K v.t hs [o] v.x)(j:IL o p D):∃u,O6 v p u:=by cases h with
 |@own t x p y r h=>
  have⟨e,d,L,g,_,E,_⟩:=c;cases E;rcases j with⟨_,i⟩|⟨m,b,l,C,q,s,a,_⟩;·have⟨u,k⟩:=h.at i;exact⟨u,.own k⟩
  ·grind|@kJ t x l q z=>
  rcases j with⟨a,_⟩|⟨m,b,I,C,J,s,a,f,F,G,_⟩;·subst a;rcases c with⟨_,_,n,a⟩|⟨e,d,b,A,B,g,a,_⟩<;>cases a
  ·cases f;subst a;have:m=x.length:=by rcases c with⟨rfl,_,n,a⟩|⟨e,d,b,A,B,g,a,_⟩<;>cases a<;>rfl
   subst this;exact⟨_,.full (y:=x[l.toNat]) (by unfold QD;grind) .nil⟩|@full t x l q w z p y H h=>
  rcases j with⟨a,_⟩|⟨m,b,I,C,J,s,a,f,F,G,i⟩;·subst a;rcases c with⟨_,_,n,a⟩|⟨e,d,b,A,B,g,a,_⟩<;>cases a
  ·cases f;have⟨u,k⟩:=h.at i;exact⟨u,.full H k⟩
theorem LJ.at{v y r}{p}(h:LJ v p y r){K}{j}{hs}{s}(x:JP j v.t=true)(k:Wg K j v hs)(l:SG K j p s):∃u,GA v p u:=by
 cases h with|@box v p y r h=>
  obtain⟨o,b,c⟩:=l;have H:∀a e,p≠.m a::e:=by rintro a e rfl;cases h with|own h=>cases h
  have g:MB K j p=K.nm j/\Ew p=p:=by cases p with|nil=>exact⟨rfl,rfl⟩|cons q e=>cases q<;>first|exact⟨rfl,rfl⟩|grind
  rw[g.1]at b;rw[g.2]at c;have⟨u,d⟩:=h.at (PL k b (by cases h<;>rfl)) c;exact⟨u,.box d⟩|@mem f t q a w z p y n h=>obtain⟨o,b,c⟩:=l;have⟨E,⟨F,L,D,B⟩,G⟩:=k;have⟨v,J,C,I,A⟩:=B.IT n;have i:K.fm _ a=some o:=b;rw[Xu x,show Yj f-1000=f by simp[Yj],D a v C]at i;cases i;obtain⟨u,d⟩:=h.at A c;exact⟨u,.mem n d⟩
theorem ZcN{K}{H}{s}{j}{p}{val}(c:placeOf s=some (j,p))(hv:YU K H s val)(h2:∀u,s=.v ⟨.hole j,u⟩->∃b,K.nm j=some (.pointer (some ⟨b,0,none⟩))):∃a,SG K j p a/\val=.pointer (some ⟨a,Z8 p,none⟩):=by
 unfold placeOf at c;split at c;·cases c;obtain⟨a,f,rfl⟩:=hv;exact⟨a,f,rfl⟩
 ·rename_i h u;cases c;have⟨b,d⟩:=h2 u rfl;obtain⟨g,⟨_,i,e,rfl,_⟩,rfl⟩:=hv;rw[d]at e;cases e;exact⟨b,⟨_,d,.inl ⟨rfl,trivial⟩⟩,rfl⟩
 ·grind
section
variable{R:Type}{Z:Xq}{e:En}{b:Bx}{n:Nat}{k:Wc->Option R}{r:R}{x y z:Operand}{d:Option Tmp}{ty T:TypeId}{pos:String}{aft:Array Edge}{g:Option (Nat×Bool)}
theorem oj{Z}{T}{t}(h:Bm Z T t=true):vT t=true/\Go.Sl.T7 Z.P T t.ag t.n=true:=by simpa[Bm]using h
theorem xx{P}{w}{T}{t}{c o}{cs}(f:Go.Sl.T7 P T t.ag t.n=true)(hv:vT t=true)(i:cs.length=t.n)(h:∀j v,cs[j]?=some v->w.cell? ⟨c,o+j,none⟩=some v){a:Act}(hx:a.eval x=.pointer (some ⟨c,o,none⟩)):(execOp a.eval ⟨d,.load T x,ty,pos,aft,g⟩).run P w=.ok (.value (XE t.ag cs)) w:=by simp[execOp,hx,Ym,xw f i (KZ hv) h,rR _ _];rfl
theorem GD.at{K:KK}{hs}{w}(c:GD K.m hs w){a o}{ds}(h:At K.m a o ds):∀j v,ds[j]?=some v->w.cell? ⟨a,o+j,none⟩=some v:=λj v e=>c.mem _ _ _ (h j v e)
theorem GD.uf{m}{hs}{w}(a:GD m hs w){b k}{cs}{T}(h:(b,k,cellsOf cs T)∈hs){o n}:∀j v,((cs.drop o).take n)[j]?=some v->w.cell? ⟨b,o+j,none⟩=some v:=by
 intro j v e;rw[Ps]at e;split at e;·rw[Rt]at e;exact a.cell h e
 ·grind
theorem Ziv(cs:List Value)(o n)(h:o+n<=cs.length):cs.take o++(cs.drop o).take n++cs.drop (o+n)=cs:=by have:cs.drop (o+n)=(cs.drop o).drop n:=Zb;rw[this,Z5,Sb,Sb]
theorem Zk3(h:ji Z b n k T (ZW e x)=some r):W4 Z ⟨d,.load T x,ty,pos,aft,g⟩ e b n k r:=by
 unfold ji at h;split at h;·rename_i v hx;obtain⟨i,h⟩:=Yk h;obtain⟨A,i⟩:=oj i;refine⟨_,h,Loc.val,X3 λB L H U M V a=>?_⟩;have j:=a.op x Ye;rw[hx]at j;obtain⟨bl,zs,D,p,c,x1⟩:=j;exact⟨_,xx i A (WH c) (GD.at a.gd x1) p,D,c,rfl⟩
 ·rename_i gg hx;split at h;·rename_i v y8;obtain⟨i,h⟩:=Yk h;obtain⟨A,i⟩:=oj i;refine⟨_,h,Loc.val,X3 λB L H U M V a=>?_⟩;have j:=a.op x Ye;rw[hx]at j;obtain⟨D,c,x1⟩:=a.gl gg v y8;exact⟨_,xx i A (WH c) (GD.at a.gd x1) j,D,c,rfl⟩
  ·cases h
 ·split at h;·cases h
  ·rename_i yy s E;split at h;·cases h
   ·rename_i v y5;obtain⟨x2,F⟩:=DJ y5;obtain⟨z0,l,h8⟩:=tJ h;obtain⟨x7,h9⟩:=Yk h8;clear h h8;obtain⟨A,i⟩:=oj x7;clear x7;split at h9
    ·rename_i K y0;rcases Mu h9 with⟨rfl,h⟩|⟨y,rfl,h⟩
     ·refine⟨_,h,⟨YG _,Zb,λs a=>by rw[YZ a];exact x2,Zb⟩,X3 λB L H U M V a=>?_⟩;obtain⟨o,_,q,x5⟩:=a.rd _ (Tq rfl);obtain⟨N,k0,T0,f,w,j,p,h3,h4,c⟩:=iD E (a.op x Ye) F q l;refine⟨_,xx i A (WH c) (a.gd.uf (x5 _ p)) j,_,?_,rfl⟩;rcases c with⟨_,_,P⟩|⟨_,_,_,_,_,P,_⟩;·exact⟨rfl,P⟩
      ·cases P
     ·rcases G:UR (.own K) y n []with⟨u1,n',z6⟩;rw[G]at h;dsimp only at h;obtain⟨z1,x4,h⟩:=pH h;have x8:=yr G;obtain⟨zc,el,y9,ys⟩:=x8.h;rw[Xp]at el;subst el;refine⟨_,h,⟨x8.le,λs a=>by rw[YZ a];exact x2,Zb,Zb⟩,λB L H U M V a=>?_⟩;obtain⟨j,p,S,q,_⟩:=a.sr;obtain⟨N,k0,T0,x6,z4,e1,e2,P,e4,yv⟩:=iD E (a.op x Ye) F q l;obtain⟨rr,t,C,f,w,u,f1,f2,f3,f4,c,y7⟩:=ls F q l ⟨_,_,x4⟩;have xk:=xx (x:=x) (d:=d) (ty:=ty) (pos:=pos) (aft:=aft) (g:=g) i A (WH yv) (a.gd.uf (Yd (.inl (S.mem_iff.2 (Yd (.inl e2)))))) e1;obtain⟨O,x0⟩:∃xv,xv=(f.drop (Z8 s)).take (Ty.opt K).n:=⟨_,rfl⟩;rw[<-x0]at c;have y6:t=N/\(x6.drop (Z8 s)).take (Ty.opt K).n=O:=by
       obtain⟨r2,Q,g2⟩:∃r,MB B yy s=some r/\Jx r N:=by
        obtain⟨r3,b3,k3,T3,z2,z5,i1,i2,i3,i4,i5,i6⟩:=v9 F q l;have x3:=ZcN E (a.op x Ye) λz0 w=>by rw[w]at E;cases E;cases l with|box l=>cases l with|own l=>obtain⟨W,T',D,o,eh,yf,_⟩:=J3 (w▸a.op x Ye) q;exact⟨W,yf⟩
        obtain⟨bl,yx,xs⟩:=x3;rw[e1]at xs;cases xs;exact yx.C9
       rw[f1]at Q;cases Q;have eb:=f2.uniq g2;refine⟨eb,?_⟩;subst eb;have m2:=a.gd.YY _ (Yd (.inl (S.mem_iff.2 (Yd (.inl (f3.mem_iff.2 XP))))));rw[a.gd.YY _ (Yd (.inl (S.mem_iff.2 (Yd (.inl e2)))))]at m2;have m3:=XD m2;simp only[cellsOf,Obj.cells.injEq]at m3;have m4:x6=f:=by have:=m3.1;simpa using this
       rw[m4,x0]
      rw[y6.2]at xk;rw[xk];obtain⟨K',I,m,q1,J,q3,q4⟩:=ys B w O (by
       rcases c with⟨X,_,_⟩|⟨y',W,T',D,o,X,e6,e7,e8⟩;·cases X
       ·cases X;exact⟨W,T',D,o,e6,e7,e8⟩) a.fr;obtain⟨z3,o,x9,y4⟩:=y7 J.le x4 q3;have y2:f.take (Z8 s)++O++f.drop (Z8 s+(Ty.opt K).n)=f:=by rw[x0];exact Ziv f _ _ f4
      rw[y2]at x9;have yt:H.Perm (o++m++p):=by refine S.trans (Ji p<|f3.trans ?_);have:((t,0,cellsOf f C)::(w++u)).Perm ((t,0,cellsOf f C)::(I++m++u)):=OY _ (q1.append_right u);refine this.trans<|nf ?_ (x9.append_right m).symm;have e9:(t,0,cellsOf f C)::(I++m++u)=(t,0,cellsOf f C)::I++(m++u):=Zb;have y1:(t,0,cellsOf f C)::(I++u)++m=(t,0,cellsOf f C)::I++(u++m):=Zb;rw[e9,y1];exact VA _ XJ
      obtain⟨Q,g2⟩:=kL a.gd J.m yt;refine⟨K',o++m,Q,g2,J.mv,?_,⟨o,m,V8 _,y4,q4⟩,Yt.cons (tx x4 a.YM λy3 _=>by rw[J.fm]) (tw y9 a.lt),by intro y3 _;rw[J.fm]⟩;·unfold UR at G;rcases yl:UR K y (n+1) []with⟨u2,n2,l2⟩;rw[yl]at G;cases G;obtain⟨i1,vv,i2,i3,i4⟩:=q3;exact⟨O,⟨rfl,vv,i2,i3,i4⟩,by rw[i3];rfl⟩
    ·obtain⟨x3,h⟩:=Yk h9;refine⟨_,h,⟨YG _,Zb,λs a=>by rw[YZ a];exact x2,Zb⟩,X3 λB L H U M V a=>?_⟩;obtain⟨o,_,q,x5⟩:=a.rd _ (Tq rfl);obtain⟨N,k0,T0,f,w,j,p,h3,h4,c⟩:=iD E (a.op x Ye) F q l;have e0:=SD x3 c;subst e0;exact⟨_,xx i A (WH c) (a.gd.uf (x5 _ p)) j,_,c,rfl⟩
end
end Go.R
