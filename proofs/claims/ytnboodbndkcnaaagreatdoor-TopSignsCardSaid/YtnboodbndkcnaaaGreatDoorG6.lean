import Derived.Test.YtnboodbndkcnaaaGreatDoorG5
set_option linter.all false
namespace Go.Sl
def Sa:=@List.set_set
def Qo:=@Int.eq_ofNat_of_zero_le
def O2:=@List.take_add_one
def De:=@Nat.mod_lt
def wA:=@List.drop_zero
def wH:=@List.mem_of_mem_drop
def oX:=@BitVec.le_refl
def nH:=λ{a b c d}=>(@Vector.toList_inj a b c d).1
def dE:=@BitVec.le_trans
def dF:=λ{a b}=>(@BitVec.le_zero_iff a b).1
def dH:=@BitVec.toNat_umod
def dJ:=λ{a b}=>(@Classical.not_forall a b).1
def dO:=@List.getElem?_set_self
def dU:=@List.replicate_zero
def dV:=@List.sum_append
def Zgm:=@List.dropLast_concat_getLast
def Zgs:=@Nat.exists_eq_add_of_le
end Go.Sl
namespace Go.R
open Go.Sl
theorem ZgX{n:Nat}(o:1<=n)(h1:n<4294967296):W (sO (Z6 64 n)) λr=>∃k:Nat,r=k+1/\k<=31/\2^k<=n:=by
 have j:(Z6 64 (n:Int)).toNat=n:=by show(BitVec.ofInt 64 (n:Int)).toNat=n;simp;omega
 have i:∀(g:Nat)(h:BitVec 64),g<18446744073709551616->PT (BitVec.ofNat 64 g) h=decide (g<=h.toNat):=λg h t=>by show decide (BitVec.ofNat 64 g<=h)=_;exact decide_eq_decide.2 (by rw[oW,Gw,LH t])
 unfold sO jx;refine Zj (Zj (W.mono (P:=λb=>b.2=0/\b.1.toNat=n) (by rw[i _ _ Y,j,MW Y,Wi];exact J ⟨rfl,j⟩) λb f=>W.ZV (λb=>∃a:Nat,b.2=a/\a<=16/\b.1.toNat=n/2^a/\1<=n/2^a/\n/2^a<65536) ?_ λb f=>W.ZV (λb=>∃a:Nat,b.2=a/\a<=24/\b.1.toNat=n/2^a/\1<=n/2^a/\n/2^a<256) ?_ λb f=>?_))
 ·obtain⟨d,c⟩:=f;rw[i _ _ Y,c];by_cases e:65536<=n;·rw[RN e,WU];refine Sp ⟨Oi _,J ⟨16,by rw[d];simp only[Wx];exact ZK Y,Y,?_,Y,Y⟩⟩;·show(b.1>>>16).toNat=_;rw[dI,c,dY]
  ·rw[MW e,Wi];exact J ⟨0,d,Y,by rw[c];simp,by simpa using o,WI⟩
 ·obtain⟨a,d,s,c,l,m⟩:=f;rw[i _ _ Y,c];by_cases e:256<=n/2^a
  ·have p:n/2^(a+8)=n/2^a/256:=by rw[Nat.pow_add,<-Nat.div_div_eq_div_mul]
   rw[RN e,WU];refine Sp ⟨Oi _,J ⟨a+8,by rw[d];simp only[Wx];exact ZK Y,Y,?_,Y,Y⟩⟩;·show(b.1>>>8).toNat=_;rw[dI,c,dY,p]
  ·rw[MW e,Wi];exact J ⟨a,d,Y,c,l,Y⟩
 ·obtain⟨a,d,s,c,l,m⟩:=f;obtain⟨u,w,v⟩:=Zbw (n/2^a) m;have q:(W6 8 b.1).toNat=n/2^a:=by show(b.1.setWidth 8).toNat=_;rw[BitVec.toNat_setWidth,c,LH Y]
  rw[show Ze (Z4 (W6 8 b.1))=((n/2^a:Nat):Int)by simp only[Wx];rw[q],be (Sz (Oi _) (by rw[Vz];exact u))];refine J (J ⟨a+QC (BitVec.ofNat 8 (n/2^a))-1,?_,Y,?_⟩);·simp only[Wx];rw[Gw,LH Y,d,ZK Y];omega
  ·rw[show a+QC (BitVec.ofNat 8 (n/2^a))-1=QC (BitVec.ofNat 8 (n/2^a))-1+a by omega,Nat.pow_add];exact(Nat.le_div_iff_mul_le (eS a)).1 (v Y).2
theorem HX{k:Nat}(c:k<=40):Sm 1 k=(2^k:Nat):=by have a:2^k<=2^40:=Ix Zb c;have b:(2:Int)^k=(2^k:Nat):=Zb;rw[xD];unfold JU;rw[Vz,Pu Y,Int.one_mul,b];generalize 2^k=m at a;exact Ip Y
theorem ZrN{a b}(j:0<=a)(h1:a<b)(h2:b<=2147483647):W (tF a b) λr=>1<=r/\r<=b-a:=by unfold tF;rw[show Zk (ZU b a)=((b-a).toNat:Int)by simp only[Wx];rw[ZK Y];omega];refine W.ZV _ (ZgX Y Y) λr f=>?_;obtain⟨d,rfl,l,m⟩:=f;rw[show Zk _=(d:Int)by simp only[Wx];rw[ZK Y];omega];have k:=eS d;refine Sp ⟨Y,W.ZV _ (Zp ⟨λi=>W.ZV _ (ZsB Zm Y) λe g=>Sp ⟨g.1,J ?_⟩,λ_=>J (by rw[HX Y];omega)⟩) λn h=>J h⟩;·obtain⟨c,rfl⟩:∃c:Nat,e=c:=⟨e.toNat,Y⟩;rw[HX Y,HX Y];have:=eS c;simp only[Wx];omega
theorem ZbP{a b}:W (zq a b) λr=>r=true↔0<=a/\a<=b/\b<=2147483647:=by unfold zq;simp[Wx];omega
theorem Zhf{a b}:W (Hj a b) λr=>r.length<=2147483648/\(0<=a->a<=b->b<=2147483647->(∀x∈r,1<=x)/\r.sum=b-a):=by
 unfold Hj;refine W.ZV _ ZbP λl j=>Zp ⟨λh=>J ⟨Zb,λi f g=>Zm⟩,λh=>?_⟩
 ·obtain⟨i,f,g⟩:=j.1 Zm;refine W.ZV (λc=>(c.2.length:Int)<=b-a/\(∀x∈c.2,1<=x)/\c.2.sum=b-a) (W.UQ (λc=>a<=c.1/\c.1<=b/\(c.2.length:Int)<=c.1-a/\(∀x∈c.2,1<=x)/\c.2.sum=c.1-a) _ (λc=>(b-c.1).toNat) ⟨Zb,f,Zb,Zb,Zb⟩ Zw (λc d=>?_) λc d=>d) λc d=>J ⟨Y,λ_ _ _=>d.2⟩;obtain⟨o,p,q,k,s⟩:=d;refine Zp ⟨λe=>?_,λe=>?_⟩<;>simp only[Wx]at e;·refine W.ZV _ (ZrN Y e g) λr m=>Xa ⟨Zm,J ?_⟩;rw[show Zk (Zu c.1 r)=c.1+r by simp only[Wx];exact ZK Y];refine⟨⟨Zw,Zw,Zm,λx n=>?_,Zm⟩,Zw⟩;grind
  ·exact J ⟨Y,k,Y⟩
theorem tt{r}:W (Cc r) λc=>c=true->0<=r.1/\r.1<=r.2.1/\r.2.1<=2147483647/\r.2.2.length<=2147483648/\∃s,Hj r.1 r.2.1=some s/\s.length=r.2.2.length/\(∀x∈s,1<=x)/\s.sum=r.2.1-r.1:=by refine W.ZV _ ZbP λc d=>Zj (Zp ⟨λa=>W.ZV _ (W.self Zhf) λs e=>J (J λb=>?_),λa=>J (J λa=>by cases a)⟩);grind
theorem mG{r}:W (zp r) λ_=>True:=by refine W.ZV _ tt λd f=>W.ZV (λc=>c=false->d=true) (by simp only[Wx];exactλa=>a.1) λc g=>Zp ⟨λ_=>J trivial,λa=>Zp ⟨λ_=>W.ZV _ (M7 Zb) λ_ _=>J trivial,λe=>?_⟩⟩;·obtain⟨-,-,-,i,-⟩:=f (g a);simp only[Wx]at e⊢;rw[ZK Y,ZK Y];refine⟨Y,λj _=>W.lp (λb=>b.1<r.2.2.length/\-2<=b.1) (λb=>(b.1+1).toNat) ⟨Y,Y⟩ Y (λb h=>?_) λ_ _=>trivial⟩;simp only[Wx];refine⟨λa=>⟨Y,λ_ _=>bE.mono λ_ _=>?_⟩,λa=>h⟩;rw[ZK Y];omega
theorem jk{l}:W (I8 l) λ_=>True:=by unfold I8;simp[Wx];exact bF.mono λ_ _=>mG.mono λ_ _=>trivial
theorem jK{α β}{eq}{x:α}{y:β}:∀{l},FY eq x l=some y->∃a,(a,y)∈l
 |[],h=>by cases h|(a,z)::l,h=>by
  unfold FY at h;split at h;·grind
  ·have⟨b,c⟩:=jK h;exact⟨b,Zm⟩
theorem rA{α β}{eq}{x:α}{y:β}{p}:∀{l},p∈HA eq x y l->p.2=y\/p∈l
 |[],h=>by rw[YZ h];exact .inl rfl|(a,z)::l,h=>by
  unfold HA at h;split at h;·grind
  ·rcases XB h with rfl|h;·simp
   ·exact(rA h).imp id Zm
def GH(l:List (Zt×Int))(n:Nat):Prop:=∀a∈l,0<=a.2/\a.2<n
theorem Zci{l}{n}{x}(h:GH l n)(hs:UE (W0 x l)=true):0<=U5 (W0 x l) 0/\U5 (W0 x l) 0<n:=by cases e:W0 x l with|none=>grind|some c=>have⟨b,a⟩:=jK e;exact h _ a
def KG(l:List UB):Prop:=l.length<=100000/\∀a∈l,a.1.length<=100000/\a.2.2.2.2.2.length<=100000
def Vt(s:WZ):Prop:=VK s.2.1/\s.2.2.1.length<=2147483648/\(∀a∈s.2.2.1,-1<=a.1/\a.1<s.2.1.length/\KG a.2.2.2.2)/\s.2.2.2.1.length<=s.2.1.length/\(∀b∈s.2.2.2.1,b.2.length<=2147483648)/\GH s.2.2.2.2 s.2.2.2.1.length
theorem bD{h}:JM h=some (h,[],[],[],[]):=rfl
theorem GR{h}:Vt (h,[],[],[],[]):=⟨⟨Zb,Zb⟩,Zb,Zb,Zb,Zb,λa h=>by cases h⟩
theorem Du{s}:I7 s=some (s.2.2.1.length:Int):=rfl
theorem AX{s}(h:s.2.2.1.length<=2147483649):W (Fy s) λr=>r=s.2.2.1.map (·.2.2.2.1):=by refine W.ZV _ (W.UQ (λb=>∃a:Nat,b.2=a/\a<=s.2.2.1.length/\b.1=(s.2.2.1.take a).map (·.2.2.2.1)) _ (λb=>(s.2.2.1.length-b.2).toNat) ⟨0,rfl,Zb,rfl⟩ Y (λb⟨a,d,j,e⟩=>?_) λ_ h=>h) λ_ h=>J h;have k:b.1.length=a:=Zm;simp only[Wx,d];refine⟨λi=>⟨Y,Y,λl c=>⟨Zm,?_⟩⟩,λi=>Zm⟩;·rw[ZK Y];rw[Vz]at c;have⟨f,g⟩:=Wm c;exact⟨⟨a+1,Zb,Y,by rw[MU f,Vg,<-e,g];rfl⟩,Y⟩
theorem mK{s}(h:s.2.2.1.length<=2147483649):W (AZ s) λr=>r=s.2.2.1.map (·.2.1):=by refine W.ZV _ (W.UQ (λb=>∃a:Nat,b.2=a+1/\a<=s.2.2.1.length/\b.1=(s.2.2.1.take a).map (·.2.1)) _ (λb=>(s.2.2.1.length+1-b.2).toNat) ⟨0,rfl,Zb,rfl⟩ Zm (λb⟨a,d,j,e⟩=>?_) λ_ h=>h) λ_ h=>J h;have k:b.1.length=a:=Zm;rw[be Du];simp only[Wx,d];refine⟨λi=>?_,λi=>Zm⟩;·rw[ZK Y,ZK Y];refine⟨Y,Y,λl c=>⟨Zm,?_⟩⟩;rw[show((a:Int)+1-1).toNat=a by omega]at c;have⟨f,g⟩:=Wm c;exact⟨⟨a+1,Zb,Y,by rw[MU f,Vg,<-e,g];rfl⟩,Y⟩
theorem ZgS{s}{t}(h:s.2.2.1.length<=2147483649):W (th s t) λ_=>True:=by unfold th;rw[be Du];refine Zp ⟨λ_=>J trivial,λa=>?_⟩;simp only[Wx]at a⊢;rw[ZK Y];exact⟨Y,Y,λ_ _=>(AX h).mono λ_ _=>jk.mono λ_ _=>trivial⟩
theorem Zj8{s}{e}{t l}(h:s.2.2.1.length<=2147483649):W (ti s e t l) λ_=>True:=by unfold ti;simp[Wx];exact(AX h).mono λb a=>tK.mono λ_ _=>⟨Zm,jk.mono λ_ _=>trivial⟩
theorem lE{s}{l}(h:Vt s):W (A7 s l) λc=>c.length<=2147483648:=by obtain⟨-,-,-,-,b,d⟩:=h;refine Zp ⟨λa=>?_,λ_=>J Zb⟩;have:=Zci d a;refine Xo ⟨this,Zj (YF ⟨this,λf e=>J (b f (X6 e))⟩)⟩
theorem ZfK{s}(h:Vt s):W (D5 s) λt=>-1<=t/\t<s.2.1.length:=by obtain⟨-,e,b,-⟩:=h;refine Zp ⟨λa=>J Y,λa=>?_⟩;simp only[Wx]at a⊢;rw[ZK Y];exact⟨Y,Y,λd c=>⟨(b d (X6 c)).1,(b d (X6 c)).2.1⟩⟩
def zu(g:Me)(l:List UB):Prop:=g.1=l/\g.2.length=l.length/\(∀b∈g.2,b.length<=2147483648)/\∀a∈l,a.1.length<=32/\a.2.2.2.2.2.length<=64
theorem kM{s}{e}{l}(h:Vt s)(E:l.length<=100000):W (Lf s e l) λr=>r.2=true->zu r.1 l:=by
 unfold Lf;have g:∀{o p:Int×Me×Me×List (Zt×Int)->Prop}{x:Int×Me×Me×List (Zt×Int)->Nat}{b:Nat}(i:Me),W (O (some (i,false)) λw=>some (LR.ret w)) (LQ o x b p λr:Me×Bool=>r.2=true->zu r.1 l):=λi=>by rw[bs];exact J λh=>by cases h
 refine Wo (W.Vy (λa=>0<=a.1/\a.1<=l.length/\a.2.2.1.1=l/\a.2.2.1.2.length=a.1/\(∀c∈a.2.2.1.2,c.length<=2147483648)/\∀b∈l.take a.1.toNat,b.1.length<=32/\b.2.2.2.2.2.length<=64) (λa=>zu a.2.2.1 l) (λa=>(l.length-a.1).toNat) (λr=>r.2=true->zu r.1 l) ⟨Zb,Zb,rfl,Zb,(λc k=>by cases k),λb d=>by simp at d⟩ Zw (λa f=>?_) (λa f=>J λ_=>f) λr t=>t)
 ·obtain⟨F,G,m,H,v,n⟩:=f;refine Zp ⟨λj=>?_,λj=>?_⟩<;>simp only[Wx]at j;rotate_left;·rw[show a.1.toNat=l.length by omega,NM]at n;exact J ⟨m,Y,v,n⟩
  refine Zj (YF ⟨Y,λi u=>W.ZV _ (lE h) λc k=>Xa ⟨by simp only[Wx];omega,Xa ⟨by simp only[Wx,WA,Vf];omega,Zp ⟨λ_=>g _,λ_=>Zp ⟨λ_=>g _,λ_=>W.ZV _ (vq (by simp only[Wx,Yw,WA,Vf];omega)) λy C=>Zp ⟨λ_=>g _,λB=>Xa ⟨by simp only[Wx,WA,Vf];omega,J ?_⟩⟩⟩⟩⟩⟩⟩);rw[show Zk (Zu a.1 1)=a.1+1by simp only[Wx];exact ZK Y];obtain⟨q,A⟩:=Wm u;refine⟨⟨Zw,Zw,m,by simp only[Wx,Yw,WA,Vf];omega,λz D=>Zm,λb d=>?_⟩,Zw⟩;·rw[show(a.1+1).toNat=a.1.toNat+1by omega,MU q]at d;grind
theorem iE{s}{l}(h:Vt s)(B:l.length<=100000)(o:∀n∈l,n.1.length<=100000/\n.2.2.2.2.2.length<=100000):W (Fz s l) λr=>VK r.1.2.1/\r.1.1=s.1/\r.1.2.2=s.2.2/\(∃y,r.1.2.1=s.2.1++y)/\(r.2.2=0->-1<=r.2.1/\r.2.1<r.1.2.1.length/\s.2.1.length+l.length<=r.1.2.1.length):=by
 unfold Fz;refine W.ZV _ (ZfK h) λE e=>Wo (W.Vy (λa=>VK a.2.2.2.1/\a.2.2.1=s.1/\a.2.2.2.2=s.2.2/\(∃y,a.2.2.2.1=s.2.1++y)/\-1<=a.1/\a.1<a.2.2.2.1.length/\0<=a.2.1/\a.2.1<=l.length/\s.2.1.length+a.2.1<=a.2.2.2.1.length) (λa=>VK a.2.2.2.1/\a.2.2.1=s.1/\a.2.2.2.2=s.2.2/\(∃y,a.2.2.2.1=s.2.1++y)/\-1<=a.1/\a.1<a.2.2.2.1.length/\s.2.1.length+l.length<=a.2.2.2.1.length) (λa=>(l.length-a.2.1).toNat) _ ⟨h.1,rfl,rfl,⟨[],Zb⟩,e.1,e.2,Zb,Zb,Zb⟩ Zw (λa b=>?_) (λa b=>J ⟨b.1,b.2.1,b.2.2.1,b.2.2.2.1,λ_=>b.2.2.2.2⟩) λr p=>p)
 ·obtain⟨f,g,i,⟨y,j⟩,w,x,F,G,H⟩:=b;refine Zp ⟨λd=>?_,λd=>J ⟨f,g,i,⟨y,j⟩,w,x,by simp only[Wx]at d;omega⟩⟩;simp only[Wx]at d;refine Zj (YF ⟨Y,λz q=>?_⟩);obtain⟨k,A⟩:=o z (X6 q);refine Zj (mw k|>.mono λC _=>Zj (vl k A|>.mono λv _=>Zj ((Zg6 f).mono λr⟨t,D,u⟩=>?_)));refine Zp ⟨λc=>?_,λc=>J ?_⟩<;>simp only[Wx]at c;·rw[bs];exact J ⟨t,g,i,⟨y,by dsimp only;rw[u c,j]⟩,λm=>absurd m c⟩
  ·rw[show Zk (Zu a.2.1 1)=a.2.1+1by simp only[Wx];exact ZK Y];exact⟨Zm,Zw⟩
theorem aO{l}(h:KG l):W (tm l) λr=>r=l:=by refine W.ZV _ (W.UQ (λb=>∃a:Nat,b.2=a/\a<=l.length/\b.1=l.take a) _ (λb=>(l.length-b.2).toNat) ⟨0,rfl,Zb,rfl⟩ (by have:=h.1;omega) (λb⟨a,d,k,e⟩=>?_) λ_ h=>h) λ_ h=>J h;have n:b.1.length=a:=Zm;have m:=h.1;simp only[Wx,d];refine⟨λi=>⟨Y,λj c=>?_⟩,λi=>Zm⟩;·have:=h.2 j Zm;rw[ZK Y];rw[Vz]at c;have⟨f,g⟩:=Wm c;exact⟨Y,Y,Zm,⟨a+1,Zb,Y,by rw[MU f,<-e,g]⟩,Y⟩
theorem uo{s}{t z:Int}{g}(h:Vt s)(E:-1<=t)(F:t<s.2.1.length)(R:g.2.length=g.1.length)(S:∀c∈g.2,c.length<=2147483648)(k:KG g.1)(b:s.2.2.2.1.length+g.1.length<=s.2.1.length)(P:s.2.2.1.length<2147483648):W (Fx s t z g) λr=>Vt r/\r.1=s.1/\r.2.1=s.2.1/\∃x,r.2.2.1=s.2.2.1++[x]:=by
 obtain⟨w,s2,H,s4,I,K⟩:=h;have Q:=w.1;unfold Fx;refine Zj (He.mono λZ _=>W.ZV (λa=>a.2.1=s.1/\a.2.2.1=s.2.1/\a.2.2.2.1=s.2.2.1/\a.2.2.2.2.1.length<=s.2.1.length/\(∀e∈a.2.2.2.2.1,e.2.length<=2147483648)/\GH a.2.2.2.2.2 a.2.2.2.2.1.length) (W.lp (λa=>a.2.1=s.1/\a.2.2.1=s.2.1/\a.2.2.2.1=s.2.2.1/\0<=a.1/\a.1<=g.1.length/\a.2.2.2.2.1.length<=s.2.2.2.1.length+a.1/\(∀e∈a.2.2.2.2.1,e.2.length<=2147483648)/\GH a.2.2.2.2.2 a.2.2.2.2.1.length) (λa=>(g.1.length-a.1).toNat) ⟨rfl,rfl,rfl,Zb,Zb,Zb,I,K⟩ (by have:=k.1;dsimp only;omega) (λa d=>?_) λa d=>⟨d.1,d.2.1,d.2.2.1,by have:=d.2.2.2.2.1;have:=d.2.2.2.2.2.1;omega,d.2.2.2.2.2.2⟩) λa d=>?_)
 ·obtain⟨l,f,i,n,o,p,q,m⟩:=d;have U:=k.1;refine Zp ⟨λu=>?_,λu=>J ⟨l,f,i,n,o,p,q,m⟩⟩;simp only[Wx]at u;refine Zj (YF ⟨Y,λx G=>?_⟩);have V:=k.2 x (X6 G);refine W.ZV (λv=>0<=v.1/\v.1<v.2.2.2.2.1.length/\v.2.1=s.1/\v.2.2.1=s.2.1/\v.2.2.2.1=s.2.2.1/\v.2.2.2.2.1.length<=s.2.2.2.1.length+a.1+1/\(∀e∈v.2.2.2.2.1,e.2.length<=2147483648)/\GH v.2.2.2.2.2 v.2.2.2.2.1.length) ?_ λv⟨y,A,v3,v4,v5,v6,v7,v8⟩=>?_
  ·refine Zp ⟨λC=>Xa ⟨by simp only[Wx];omega,Xa ⟨by simp only[Wx,WA,Vf];omega,J ?_⟩⟩,λC=>J ?_⟩
   ·simp only[Wx,Yw,WA,Vf];refine⟨Y,Y,l,f,i,Y,λe b=>?_,λe b=>?_⟩
    ·rcases Z1 b with b|b;·exact q e b
     ·rw[YZ b];simp
    ·rcases rA b with b|b;·rw[b];omega
     ·have:=m e b;omega
   ·have:=Zci m (x:=x.1) (by cases T:UE (W0 x.1 a.2.2.2.2.2)<;>simp_all[Zy]);exact⟨this.1,this.2,l,f,i,Zw,q,m⟩
  ·refine Zj (YF ⟨Y,λc O=>Xo ⟨⟨y,A⟩,Zj (YF ⟨⟨y,A⟩,λx0 X=>J ?_⟩)⟩⟩);rw[show Zk (Zu a.1 1)=a.1+1by simp only[Wx];exact ZK Y];simp only[Wx,Ol];grind
 ·obtain⟨l,f,i,n,o,p⟩:=d;refine Zj (tK.mono λN _=>Zj ((aO k).mono λM D=>Xa ⟨by simp only[Wx,WA,Vf];rw[i];omega,J ?_⟩));subst D;simp only[Wx];refine⟨⟨by rw[f];exact w,by rw[i];simp;omega,?_,by rw[f];exact n,o,p⟩,l,f,⟨_,by rw[i]⟩⟩<;>dsimp only
  ·rw[f,i];intro B j;rcases Z1 j with j|j;·exact H B j
   ·rw[YZ j];exact⟨E,F,k⟩
theorem vF{s}{f}{y}{a}(h:Vt s)(d:VK f)(e:f=s.2.1++y):Vt (a,f,s.2.2):=by
 obtain⟨-,g,c,i,j,k⟩:=h;have:s.2.1.length<=f.length:=by rw[e];simp
 exact⟨d,g,λe b=>⟨(c e b).1,by have:=(c e b).2.1;show e.1<f.length;omega,(c e b).2.2⟩,WX i this,j,k⟩
theorem ZfF{s}{e}{l}{h}(hs:Vt s)(a:l.length<=100000):W (tj s e l h) λr=>VK r.1.2.1/\r.1.1=s.1/\r.1.2.2=s.2.2/\(∃y,r.1.2.1=s.2.1++y)/\(r.2.2.2=true->-1<=r.2.1/\r.2.1<r.1.2.1.length/\s.2.1.length+l.length<=r.1.2.1.length/\zu r.2.2.1 l/\Lf s e l=some (r.2.2.1,true)):=by have g:VK _/\s.1=s.1/\s.2.2=s.2.2/\∃y,s.2.1=s.2.1++y:=⟨hs.1,rfl,rfl,[],Zb⟩;refine W.ZV _ (W.self (kM hs a)) λo k=>Zp ⟨λi=>J ⟨g.1,g.2.1,Zb,Zb,Zb⟩,λi=>W.ZV _ (iE hs a λn m=>by have:=(k.2 Zm).2.2.2 n m;omega) λq⟨b,c,d,f,t⟩=>Zp ⟨λj=>J ⟨b,c,d,f,Zb⟩,λj=>Zj (He.mono λr p=>J ⟨b,c,d,f,λh=>?_⟩)⟩⟩;grind
theorem bQ{s}{l}(hs:Vt s)(I:s.2.2.1.length<2147483647):W (OF s l) λr=>Vt r.1/\r.1.1=s.1/\(r.2=0->∃x,r.1.2.2.1=s.2.2.1++[x])/\(r.2≠0->r.1.2.2=s.2.2):=by
 unfold OF;refine Zp ⟨λc=>J ⟨hs,rfl,(λc=>by cases c),λ_=>rfl⟩,λc=>?_⟩;simp only[Wx]at c;refine Wo (W.Ku (λb=>0<=b.2/\b.2<=l.length/\b.1.length=b.2) (λb=>(l.length-b.2).toNat) (λr=>r.1=s/\r.2≠0) ⟨Zb,Zb,Zb⟩ Zw (λb p=>?_) (λb p=>?_) λr f=>⟨by rw[f.1];exact hs,by rw[f.1],λc=>absurd c f.2,λ_=>by rw[f.1]⟩)
 ·obtain⟨B,C,D⟩:=p;refine Zp ⟨λj=>?_,λj=>J ⟨B,C,D⟩⟩;simp only[Wx]at j;refine Zj (YF ⟨Y,λx N=>W.ZV _ (lE hs) λE H=>W.ZV _ (ZgM Y) λg k=>Zp ⟨λd=>?_,λd=>?_⟩⟩)<;>simp only[Wx]at d;·rw[bs];exact J ⟨rfl,d⟩
  ·obtain⟨F,G⟩:=k d;rw[show Zk (ZU (Ze (Zf g.1)) 1)=(g.1.length:Int)-1by simp only[Wx];exact ZK Y,show Zk (Zu b.2 1)=b.2+1by simp only[Wx];exact ZK Y];refine Zj (YF ⟨Y,λv M=>Xa ⟨by simp only[Wx,WA,Vf];omega,J ⟨⟨Zw,Zw,by simp only[Wx,Yw,WA,Vf];omega⟩,Zw⟩⟩⟩)
 ·have m:b.1.length<=100000:=Y;refine W.ZV _ (kM hs m) λg k=>Zp ⟨λ_=>J ⟨hs,rfl,(λc=>by cases c),λ_=>rfl⟩,λj=>?_⟩;have e:=k (by cases K:g.2<;>simp_all[Zy]);refine Zj (Q4 (show ND s.2.1=some _ from rfl) (W.ZV _ (iE hs m λn h=>by have:=e.2.2.2 n h;omega) λq⟨t,u,i,⟨P,w⟩,y⟩=>?_));have o:Vt q.1:=by have:=vF (a:=q.1.1) hs t w;rwa[<-i]at this
  refine Zp ⟨λd=>J ⟨o,u,λc=>absurd c (by simpa only[Wx]using d),λ_=>i⟩,λd=>?_⟩;simp only[Wx]at d;obtain⟨z,A,O⟩:=y d;refine Zj ((uo o z A (by rw[e.1];exact e.2.1) e.2.2.1 ⟨by rw[e.1];exact m,λn h=>by rw[e.1]at h;have:=e.2.2.2 n h;omega⟩ (by rw[e.1,i];have:=hs.2.2.2.1;omega) (by rw[i];omega)).mono λr f=>J ?_);grind
theorem tN{f}{i}:W (I5 f i) λ_=>True:=by exact Zj (Hd (λ_ _ _ _=>J trivial) λ_ _=>J trivial)
theorem jX{f}{i}:W (yM f i) λ_=>True:=by exact Zj (Hd (λ_ _ _ _=>J trivial) λ_ _=>J trivial)
theorem Zrd{f}{i}:W (ke f i) λ_=>True:=by have b:∀a:SK×Bool,W (Zc a.1.1 (some (true,a.1.2.1,a.1.2.2.1,(0,Zn _ 0#8),Zn _ 0#8,Zn _ 0#8)) (O (I5 f a.1.2.2.2.2.1) λc=>O (I5 f a.1.2.2.2.2.2.1) λd=>some (false,Zn _ 0#8,Zn _ 0#8,a.1.2.2.2.1,c,d))) λ_=>True:=λa=>Zp ⟨λ_=>J trivial,λ_=>Zj (tN.mono λ_ _=>Zj (tN.mono λ_ _=>J trivial))⟩;exact Zj (Hd (λ_ _ _ _=>b _) λ_ _=>b _)
theorem Zhm{f}{t z}(g:VK f):W (uM f t z) λr=>r.1.length<=1048577:=by refine Zj (He.mono λr _=>W.ZV (λ_=>True) (by simp only[Wx]) λd _=>Zp ⟨λ_=>J Zb,λ_=>W.ZV _ (Zck g) λc i=>?_⟩);have j:(c.mergeSort λe d=>decide (e<=d)).length=c.length:=List.length_mergeSort _;unfold Ga;rw[YW Y,bs];refine W.ZV (λa=>a.1.length<=1048577) (W.lp (λa=>0<=a.2/\a.2<=c.length/\a.1.length=a.2) (λa=>(c.length-a.2).toNat) ⟨Zb,Zb,Zb⟩ Y (λa b=>?_) λa b=>Y) λa b=>J b;obtain⟨k,l,m⟩:=b;simp only[Wx];refine⟨λh=>⟨Y,Y,λ_ _=>Zrd.mono λ_ _=>⟨Zm,?_⟩⟩,Y⟩;rw[ZK Y];grind
theorem ZlN{f}{t}(e:VK f):W (uO f t) λr=>r.length<=1048577/\∀i∈r,0<=i/\i<f.length:=by
 have v:=e.1;unfold uO;refine W.ZV (λa=>a.1.length<=1048577/\∀i∈a.1,0<=i/\i<f.length) (W.lp (λa=>a.1.length+Tx f a.2<=1048577/\∀i∈a.1,0<=i/\i<f.length) (λa=>Tx f a.2) ⟨by have:=@oI f t;simp[Tx];omega,Zb⟩ (by have:=@oI f t;simp[Tx];omega) (λa d=>?_) λa d=>⟨Y,d.2⟩) λa d=>J d
 ·obtain⟨o,g⟩:=d;have l:=dq e a.2;refine Zp ⟨λh=>?_,λh=>J ⟨o,g⟩⟩;simp only[Wx]at h;rw[show Zk (ZU (Ze (Zf a.2)) 1)=(a.2.length:Int)-1by simp only[Wx];exact ZK Y];obtain⟨c,j⟩:∃c,a.2[a.2.length-1]?=some c:=⟨_,VB Y⟩;have y:=Zf6 (f:=f) j;refine Xo ⟨by simp only[Wx];omega,?_⟩;rw[be (Sz Y (show a.2[((a.2.length:Int)-1).toNat]?=some c by rw[show((a.2.length:Int)-1).toNat=a.2.length-1by omega];exact j))];refine GW.2 ⟨by simp only[Wx];omega,?_⟩;have w:=@dn f c e;rw[show YC (Yf ((a.2.length:Int)-1)) a.2=a.2.take (a.2.length-1)by simp only[Wx];congr 1;omega];have stop:W (some (LR.next (a.1,a.2.take (a.2.length-1)))) (LQ (ρ:=Empty) (λa=>a.1.length+Tx f a.2<=1048577/\∀i∈a.1,0<=i/\i<f.length) (λa=>Tx f a.2) (Tx f a.2) (λa=>a.1.length+Tx f a.2<=1048577/\∀i∈a.1,0<=i/\i<f.length) λ_=>True):=J ⟨⟨Zw,g⟩,Zw⟩;refine Zj (Hd (λb n q s=>?_) λ_ b=>by rw[show Zy false=true from rfl,WU,bs,WU];exact stop)
  ·unfold l8;rw[show Zy true=false from rfl,Wi,bs,bs];refine Zp ⟨λ_=>stop,λ_=>Xa ⟨by simp only[Wx,WA,Vf];omega,?_⟩⟩;have k:∀i∈a.1++[c],0<=i/\i<f.length:=λi hi=>by
    rcases Z1 hi with hi|hi;·exact g i hi
    ·rw[YZ hi];exact⟨n,q⟩
   cases p:b.1
   ·have x:=Zf5 e n s p;have u:Tx f (a.2.take (a.2.length-1)++[UH b,UK b])=Tx f (a.2.take (a.2.length-1))+(RH f (UH b)+RH f (UK b)):=by simp[Tx]
    rw[show Zy false=true from rfl,WU];refine W.ZV (λm=>m=a.2.take (a.2.length-1)++[UH b,UK b]) (Xa ⟨by simp only[Wx,WA,Vf,UF];omega,J rfl⟩) λm l=>J ?_;subst l;exact⟨⟨by simp only[Wx,Yw,WA,Vf];omega,k⟩,Zw⟩
   ·rw[show Zy true=false from rfl,Wi,bs];exact J ⟨⟨by simp only[Wx,Yw,WA,Vf];omega,k⟩,Zw⟩
theorem Zla{f}{e}{r}(d:VK f):W (ka ((),e) f r) λo=>VK o.2.1/\(∃y,o.2.1=f++y)/\(o.2.2.2=0->0<=o.2.2.1/\o.2.2.1<o.2.1.length):=by
 have i:W (kc ((),e) f r) λ_=>True:=by refine Zp ⟨λ_=>J trivial,λ_=>W.ZV (λ_=>True) (Zp ⟨λ_=>J trivial,λ_=>J trivial⟩) λ_ _=>J trivial⟩
 refine W.ZV _ i λp _=>Zp ⟨λ_=>J ⟨d,⟨[],Zb⟩,λa=>by cases a⟩,λ_=>W.ZV _ (cq d) λm j=>?_⟩;obtain⟨b,g,h,-⟩:=j;refine Zp ⟨λa=>?_,λa=>?_⟩<;>simp only[Wx]at a;·obtain⟨k,l,n,-⟩:=g a;refine Zj (tN.mono λ_ _=>J ⟨b,⟨[k],l⟩,λ_=>?_⟩);grind
 ·exact Zp ⟨λ_=>J ⟨b,⟨[],by rw[h a];simp⟩,λc=>absurd c a⟩,λ_=>J ⟨b,XA,λc=>by cases c⟩⟩
theorem Zgz{f}{t}{k}{h}(i:VK f)(E:k.length<=1000000000):W (uL f t k h) λo=>VK o.1/\(∃y,o.1=f++y)/\(o.2.2=0->-1<=o.2.1/\o.2.1<o.1.length):=by
 have q:∃y,f=f++y:=⟨[],Zb⟩;unfold uL;refine W.ZV _ He λG w=>Zp ⟨λ_=>J ⟨i,q,λh=>by cases h⟩,λn=>W.ZV _ (ZlN i) λx D=>W.ZV (λa=>a.2.1=f) (W.lp (λa=>a.2.1=f/\0<=a.1) (λa=>(x.length-a.1).toNat) ⟨rfl,Zb⟩ Zw (λa b=>?_) λa b=>b.1) λa b=>?_⟩;·simp only[Wx];refine⟨λe=>⟨Y,Y,λ_ _=>tN.mono λ_ _=>?_⟩,λe=>b⟩;rw[ZK Y];exact⟨⟨b.1,Y⟩,Y⟩
 ·simp only[Wx]at n;have p:=w.1 n;refine Wo (W.Ku (λv=>VK v.2.2.1/\(∃y,v.2.2.1=f++y)/\-1<=v.1/\v.1<v.2.2.1.length/\0<=v.2.1) (λv=>(k.length-v.2.1).toNat) _ ⟨by rw[b];exact i,by rw[b];exact q,p.1,by rw[b];exact p.2,Zb⟩ Zw (λv j=>?_) (λv j=>?_) λo u=>u)
  ·obtain⟨c,⟨y,d⟩,l,m,r⟩:=j;refine Zp ⟨λe=>?_,λe=>J ⟨c,⟨y,d⟩,l,m,r⟩⟩;simp only[Wx]at e;refine Zj (YF ⟨Y,λI F=>W.ZV _ (Zla c) λo⟨z,⟨C,A⟩,B⟩=>?_⟩);refine Zp ⟨λg=>?_,λg=>?_⟩<;>simp only[Wx]at g;·rw[bs];exact J ⟨z,⟨y++C,by rw[A,d,Z5]⟩,λs=>absurd s g⟩
   ·have:=B g;rw[show Zk (Zu v.2.1 1)=v.2.1+1by simp only[Wx];exact ZK Y];exact J ⟨Zm,Zw⟩
  ·obtain⟨c,d,l,m,r⟩:=j;refine Zj (He.mono λH _=>Zp ⟨λ_=>J ⟨c,d,λh=>by cases h⟩,λ_=>J ⟨c,d,λ_=>⟨l,m⟩⟩⟩)
theorem Zkc{s}{a}{f}{e}{l}:Lf (a,f,s.2.2) e l=Lf s e l:=rfl
theorem Zgw{s}{h}{r}{l}(hs:Vt s)(d:r.length<=1000000000)(p:l.length<=100000)(E:s.2.2.1.length<2147483647):W (te s h r l) λo=>o.2=0->Vt o.1/\h.1=s.2.2.1.length+1/\∃x,o.1.2.2.1=s.2.2.1++[x]:=by
 unfold te;refine Zp ⟨λ_=>J λh=>(by cases h),λe=>W.ZV _ (ZfF hs p) λb⟨t,O,f,⟨Q,C⟩,D⟩=>?_⟩;simp only[Wx]at e;rw[ZK Y]at e;have m:Vt b.1:=by have:=vF (a:=b.1.1) hs t C;rwa[<-f]at this
 refine W.ZV (λi=>i=false->b.2.2.2=true) ?_ λi z=>Zp ⟨λ_=>J λh=>(by cases h),λj=>?_⟩;·refine Zp ⟨λ_=>J λh=>(by cases h),λj=>Zj ((Zj8 (by rw[f];omega)).mono λ_ _=>J λ_=>?_)⟩;cases F:b.2.2.2<;>simp_all[Zy]
 ·obtain⟨I,K,M,c,B⟩:=D (z j);refine Zj (Q4 (show ND b.1.2.1=some _ from rfl) (W.ZV _ (ZfK m) λP G=>W.ZV _ (Zgz t d) λa⟨u,⟨R,g⟩,v⟩=>Zp ⟨λ_=>J λh=>(by cases h),λk=>?_⟩));simp only[Wx]at k;obtain⟨w,y⟩:=v k;have n:Vt (b.1.1,a.1,b.1.2.2):=vF m u g;rw[f]at n⊢;rw[be (Zkc.trans B)];have H:b.1.2.1.length<=a.1.length:=by rw[g];simp
  refine Zj ((uo n w y (by rw[c.1];exact c.2.1) c.2.2.1 ⟨by rw[c.1];exact p,λA q=>by rw[c.1]at q;have:=c.2.2.2 A q;omega⟩ (by rw[c.1];have:=hs.2.2.2.1;dsimp only;omega) (show s.2.2.1.length<_ by omega)).mono λN d=>J λ_=>⟨d.1,e,d.2.2.2⟩)
theorem bC{h}{l}{f}(u:KG l)(K:f.length<=1000000000):W (Fv h l f) λo=>o.2=0->∃s,o.1=some s/\Vt s/\h.1=s.2.2.1.length:=by
 unfold Fv;refine Zp ⟨λ_=>J λh=>(by cases h),λr=>?_⟩;simp only[Wx]at r;rw[be bD];have I:=u.1;refine Wo (W.Vy (λb=>Vt b.2.2/\KG b.1/\0<=b.2.1/\b.2.1<=f.length/\b.2.2.2.2.1.length=b.2.1) (λb=>Vt b.2.2/\b.2.2.2.2.1.length=f.length) (λb=>(f.length-b.2.1).toNat) _ ⟨GR,u,Zb,Zb,Zb⟩ Zw (λb d=>?_) (λb d=>by refine Zj ((ZgS (by have:=d.1.2.1;omega)).mono λG _=>W.ZV (λ_=>True) (by simp only[Wx]) λk _=>Zp ⟨λ_=>J λh=>(by cases h),λ_=>J λ_=>⟨_,rfl,d.1,by rw[r,d.2]⟩⟩)) λo y=>y)
 ·obtain⟨j,q,T,U,V⟩:=d;have X:=q.1;refine Zp ⟨λt=>?_,λt=>?_⟩<;>simp only[Wx]at t;rotate_left;·exact J ⟨j,Y⟩
  refine Zj (YF ⟨Y,λZ M=>W.ZV (λc=>0<=c/\c<=b.1.length) (W.lp (λc=>0<=c/\c<=b.1.length) (λc=>(b.1.length-c).toNat) ⟨Zb,Zb⟩ Y (λc g=>?_) λc g=>g) λc g=>?_⟩);·refine W.ZV (λk=>k=true->c<b.1.length) (by simp only[Wx];exactλh=>⟨Y,λ_ _ _=>h⟩) λk x=>Zp ⟨λm=>J ?_,λm=>J g⟩;·have:=x m;rw[show Zk (Zu c 1)=c+1by simp only[Wx];exact ZK Y];exact⟨Y,Zw⟩
  ·refine Zj (Q4 (show ND b.2.2.2.1=some _ from rfl) (Zj (N0.2 ⟨Y,?_⟩)));have v:KG ((b.1.take c.toNat).drop (0:Int).toNat):=⟨WI,λp n=>q.2 p (wI (wH n))⟩;refine W.ZV _ (ZfF j v.1) λw⟨D,S,i,⟨x0,E⟩,F⟩=>Zp ⟨λ_=>by rw[bs];exact J λh=>(by cases h),λm=>?_⟩;obtain⟨z,A,N,e,O⟩:=F (by cases H:w.2.2.2<;>simp_all[Zy]);refine Zj ((uo (by have:=vF (a:=w.1.1) j D E;rwa[<-i]at this) z A (by rw[e.1];exact e.2.1) e.2.2.1 (by rw[e.1];exact v) (by rw[e.1,i];have:=j.2.2.2.1;omega) (by rw[i];omega)).mono λP⟨B,Q,R,x2,C⟩=>Zj (N0.2 ⟨by simp only[Wx];omega,J ?_⟩));rw[show Zk (Zu b.2.1 1)=b.2.1+1by simp only[Wx];exact ZK Y];refine⟨⟨B,⟨WI,λp n=>q.2 p (wI (wH n))⟩,Zw,Zw,by dsimp only;rw[C,i];simp;omega⟩,Zw⟩
theorem zx{s}{e}:W (A8 s e) λb=>b=true↔1<=e/\e<=s.2.2.1.length:=by
 refine Zj (Zp ⟨λa=>?_,λa=>?_⟩)<;>simp at a;·rw[be Du];simp[Wx];omega
 ·exact J (J ⟨Zb,Y⟩)
theorem mC{s}{e}(h:Vt s):W (Fw s e) KG:=by have g:=h.2.1;refine W.ZV _ zx λd a=>Zp ⟨λ_=>J ⟨Zb,Zb⟩,λf=>?_⟩;have:=a.1 Zm;simp only[Wx];rw[ZK Y];refine⟨Y,Y,λc b=>?_⟩;have:=(h.2.2.1 c (X6 b)).2.2;exact(aO this).mono λj i=>Zm
theorem Zhc{s}{e}(h:Vt s):W (D4 s e) λr=>r.length<=1048577:=by have f:=h.2.1;refine W.ZV _ zx λc a=>Zp ⟨λ_=>J Zb,λd=>?_⟩;have:=a.1 Zm;simp only[Wx];rw[ZK Y];exact⟨Y,Y,λj g=>⟨Y,Y,λk i=>(Zhm h.1).mono λr b=>b⟩⟩
theorem pU{l}{a b}(h:0<=a/\a<=b/\b<=l.length):W (EK l a b) λr=>r.length<=2147483648:=by unfold EK;simp[Wx];exact⟨h,bF⟩
theorem Zsk{l}{m}(d:l.length<=4294967296):W (oa l m) λr=>r.1.1.length<=2147483648/\r.1.2.length<=2147483648:=by unfold oa;simp only[Wx];exact⟨Zb,λc=>(pU Y).mono λ_ a=>(pU Y).mono λ_ b=>⟨a,b⟩⟩
theorem Zsj{l}{m}(d:l.length<=4294967296):W (p9 l m) λr=>r.1.1.length<=2147483648/\r.1.2.length<=2147483648:=by unfold p9;simp only[Wx];exact⟨Zb,λc=>(pU Y).mono λ_ a=>(pU (by rw[ZK Y];omega)).mono λ_ b=>⟨a,b⟩⟩
theorem ZgN{s}{m n}(h:s.2.2.1.length<=2147483648):W (kv s m n) λr=>r.1.1.length<=2147483648/\r.1.2.length<=2147483648:=by
 refine W.ZV (λb=>b=false->0<=m/\n<=s.2.2.1.length/\m<=n) ?_ λb d=>Zp ⟨λ_=>J Zb,λa=>W.ZV _ (AX Y) λr e=>?_⟩
 ·refine Zp ⟨λa=>?_,λa=>?_⟩<;>simp at a;·simp[Wx];omega
  ·refine Zj (Zp ⟨λc=>?_,λc=>?_⟩)<;>simp[Wx]at c<;>refine J (J ?_)<;>simp[Wx]<;>omega
 ·refine GW.2 ⟨Zm,Zj ((Zsk Zm).mono λ_ h=>J h)⟩
theorem Zg3{s}{m n}(h:s.2.2.1.length<=2147483648):W (kx s m n) λr=>r.1.1.length<=2147483648/\r.1.2.length<=2147483648:=by
 refine W.ZV (λb=>b=false->1<=m/\n<=s.2.2.1.length/\m<=n) ?_ λb d=>Zp ⟨λ_=>J Zb,λa=>W.ZV _ (AX Y) λr e=>?_⟩
 ·refine Zp ⟨λa=>?_,λa=>?_⟩<;>simp at a;·simp[Wx];omega
  ·refine Zj (Zp ⟨λc=>?_,λc=>?_⟩)<;>simp[Wx]at c<;>refine J (J ?_)<;>simp[Wx]<;>omega
 ·refine GW.2 ⟨Zm,Zj ((Zsj Zm).mono λ_ h=>J h)⟩
theorem bU{c}{e}(h:c.length<=4294967296):W (ui c e) λr=>r.length<=c.length/\∃n,r=c.take n:=by
 refine W.ZV _ (W.lp (λn=>0<=n/\n<=c.length) (λn=>(c.length-n).toNat) ⟨Zb,Zb⟩ Y (λn a=>?_) λn a=>a) λn a=>?_;·refine W.ZV (λb=>b=true->n<c.length) (by simp only[Wx];exactλh=>⟨Y,λ_ _ _=>h⟩) λb f=>Zp ⟨λd=>J ?_,λd=>J a⟩;·have:=f d;rw[show Zk _=n+1by simp[Wx];exact ZK Y];exact⟨Y,Zm⟩
 ·simp[Wx];refine⟨Y,Zm,Zm,n.toNat,Zb⟩
theorem Zmg{f}{t}{k}(g:VK f):W (qw f t k) λr=>r.1.1.length<=1048577:=by
 have x:=g.1;unfold qw;refine W.ZV _ He λr l=>Zp ⟨λ_=>J Zb,λe=>?_⟩;simp only[Wx]at e;have h:=l.1 e;refine W.ZV (λa=>a.2.1.length<=1048577) (W.UQ (λa=>-1<=a.1/\a.1<f.length/\a.2.1.length+a.1<f.length) _ (λa=>(a.1+1).toNat) ⟨h.1,h.2,WI⟩ Zw (λa b=>?_) λa b=>b) λa b=>J b;obtain⟨D,E,F⟩:=b;refine Zj (Hd (λc B C m=>?_) λ_ c=>by rw[show Zy false=true from rfl,WU];exact J (by simp only[Wx];omega))
 ·rw[show Zy true=false from rfl,Wi];refine Zp ⟨λ_=>J (by simp only[Wx];omega),λy=>W.ZV _ Dx λs w=>Zp ⟨λ_=>Zj (jX.mono λ_ _=>Zj (jX.mono λ_ _=>J (by simp only[Wx];omega))),λu=>W.ZV _ Do λG A=>?_⟩⟩;rcases g.2 _ _ m with v|⟨n,o,⟨i,p,-⟩,j,q,-⟩;·grind
  refine W.ZV (λd=>0<=d.1/\d.1<a.1) (Zp ⟨λ_=>J ⟨j,show UK c<a.1by omega⟩,λ_=>J ⟨i,show UH c<a.1by omega⟩⟩) λd z=>Zj (jX.mono λ_ _=>Xa ⟨Zm,J ⟨Zm,Zw⟩⟩)
theorem Zhi{s}{l}{e}(h:Vt s):W (ky s l e) λr=>r.1.2.1.1.length<=1048577/\r.1.2.2.length<=2147483648:=by have k:=h.2.1;refine W.ZV (λb=>b=false->l.length<=32) (by refine Zp ⟨λa=>?_,λa=>?_⟩<;>simp[Wx]at a<;>refine J ?_<;>simp[Wx]<;>omega) λb g=>Zp ⟨λ_=>J Zb,λf=>W.ZV _ zx λd c=>Zp ⟨λ_=>J Zb,λa=>?_⟩⟩;·have:=c.1 Zm;have n:=g f;rw[show Zk _=e-1by simp[Wx];exact ZK Y];refine Xo ⟨Zm,Zj (YF ⟨Y,λt o=>Zj ((mw Y).mono λp _=>W.ZV _ (Zmg h.1) λq i=>Zp ⟨λ_=>J Zb,λ_=>W.ZV _ (lE h) λd c=>W.ZV _ (bU Y) λj m=>J ⟨i,Zm⟩⟩)⟩)⟩
def Sim(f g:Vj):Prop:=∀(c:Nat)(a:SK),g[c]?=some a->∃b,f[c]?=some b/\a.1=b.1/\X4 a=X4 b
theorem ZgD{s}(h:Vt s):W (tf s) λr=>Vt r/\r.2.2.1=s.2.2.1:=by
 obtain⟨D,s2,s3,s4,s5,s6⟩:=h;have x2:=D.1;unfold tf;rw[be bD];refine Zj (Q4 (show ND s.2.1=some _ from rfl) (W.ZV (λa=>VK a.2.2.1/\a.2.2.1.length=s.2.1.length/\a.2.2.2.2=([],[])) (W.UQ (λa=>VK a.2.2.1/\a.1=a.2.2.1.length/\a.2.2.1.length<=s.2.1.length/\Sim s.2.1 a.2.2.1/\a.2.2.2.2=([],[])) _ (λa=>(s.2.1.length-a.1).toNat) ⟨GR (h:=s.1)|>.1,rfl,VD _,(λo p l=>by cases l),rfl⟩ Zw (λa i=>?_) λa i=>i) λa i=>Xa ⟨by simp only[Wx];omega,W.ZV (λv=>v.2.2.1=a.2.2.1/\v.2.2.2.1=s.2.2.1/\v.2.2.2.2.1.length<=s.2.2.2.1.length/\(∀e∈v.2.2.2.2.1,e.2.length<=2147483648)/\GH v.2.2.2.2.2 v.2.2.2.2.1.length) (W.lp (λv=>v.2.2.1=a.2.2.1/\v.2.2.2.1=s.2.2.1/\0<=v.1/\v.1<=s.2.2.2.1.length/\v.2.2.2.2.1.length=v.1/\(∀e∈v.2.2.2.2.1,e.2.length<=2147483648)/\GH v.2.2.2.2.2 v.2.2.2.2.1.length) (λv=>(s.2.2.2.1.length-v.1).toNat) ?_ Zw (λv d=>?_) λv d=>⟨d.1,d.2.1,by have:=d.2.2.2.1;have:=d.2.2.2.2.1;omega,d.2.2.2.2.2⟩) λv d=>J ?_⟩))
 ·obtain⟨n,t,u,w,E⟩:=i;refine Zp ⟨λf=>?_,λf=>J ⟨n,by simp only[Wx]at f;omega,E⟩⟩;simp only[Wx]at f;refine Zj (Hd (λC n1 n2 q=>?_) λZ=>absurd ⟨Y,f⟩ Z);have X:NU a.2.2.1 a.2.2.1.length C:=by
   have hi:a.1.toNat=a.2.2.1.length:=Y;rw[hi]at q;rcases D.2 _ _ q with h|⟨f,P,⟨Q,R,S⟩,T,U,V⟩;·exact .inl h
   ·refine .inr ⟨f,P,⟨Q,R,λp l=>by obtain⟨n',g,-,m⟩:=w _ _ l;rw[m];exact S _ g⟩,T,U,λp l=>by obtain⟨n',g,-,m⟩:=w _ _ l;rw[m];exact V _ g⟩
  refine W.ZV _ (cq n) λI⟨K,M,a3,N⟩=>J ?_;obtain⟨p,g,m2,m,m4,-⟩:=M (N X Y);dsimp only at g;have hl:I.1.length=a.2.2.1.length+1:=by rw[g];simp
  rw[show Zk (Zu a.1 1)=a.1+1by simp only[Wx];exact ZK Y];refine⟨⟨K,Zw,Zw,λo z c=>?_,E⟩,Zw⟩;dsimp only at c;rw[g]at c;rcases Ru o a.2.2.1.length with B|B;·rw[Uy B]at c;exact w o z c
  ·have x0:=PR c;simp at x0;have:o=a.2.2.1.length:=Y;subst this;rw[BD (YG _)]at c;simp at c;subst c;exact⟨C,by rw[<-q];congr 1;omega,m,m4⟩
 ·obtain⟨n,t,u⟩:=i;refine⟨rfl,rfl,Zb,Zb,?_,?_,?_⟩<;>dsimp only<;>rw[u];·rfl
  ·intro e b;cases b
  ·intro e b;cases b
 ·obtain⟨j,k,F,x,y,G,H⟩:=d;simp only[Wx];refine⟨λf=>⟨Y,Y,λz c=>?_⟩,λf=>⟨j,k,F,x,y,G,H⟩⟩;have x1:=s5 z (X6 c);rw[ZK Y];refine⟨Y,WI,⟨j,k,Y,Y,WI,λe b=>?_,λe b=>?_⟩,Y⟩
  ·rcases Z1 b with b|b;·exact G e b
   ·rw[YZ b];exact x1
  ·rcases rA b with b|b;·rw[b];simp;omega
   ·have:=H e b;simp;omega
 ·obtain⟨n,t,u⟩:=i;obtain⟨j,k,F,x,y⟩:=d;refine⟨⟨by rw[j];exact n,by rw[k];exact s2,λO A=>?_,by rw[j];omega,x,y⟩,k⟩;rw[k]at A;rw[j,t];exact s3 O A
def XC(c:Nat)(w w':ZO):Prop:=(w.2=true->w'=w)/\w'.1.length<=w.1.length+c
theorem XC.trans{c d}{w w' b}(h:XC c w w')(k:XC d w' b):XC (c+d) w b:=⟨λa=>by have:=h.1 a;subst this;exact k.1 a,by have:=h.2;have:=k.2;omega⟩
theorem XC.le{c d}{w w'}(h:XC c w w')(k:c<=d):XC d w w':=⟨h.1,by have:=h.2;omega⟩
theorem XC.put{w}{l}:XC l.length w (put w l):=⟨Ei,CZ w l⟩
theorem XC.W2{w}{x m}:XC 0 w (W2 w x m):=⟨λa=>by unfold Go.R.W2;grind,by rw[E0];omega⟩
theorem xG{w}(h:w.1.length<=4000000000):W (Hy w) (XC 1 w):=by unfold Hy;rw[be (mL Y)];exact J ((XC.W2.trans XC.put).le (by rw[WY];omega))
theorem Hv{w}{x}(h:w.1.length<=4000000000):W (Pq w x) (XC 1 w):=by rw[mL Y];exact J ((XC.W2.trans XC.put).le (by rw[WY];omega))
theorem F0{w}{x}(h:w.1.length<=4000000000):W (OP w x) (XC 4 w):=by refine Zj (W.mono (P:=λ_=>True) (by simp[Wx]) λa _=>Zp ⟨λ_=>Zj ((xG h).mono λ_ h=>J (h.le Zb)),λ_=>?_⟩);rw[be (DE Y)];exact J (XC.put.le (by rw[WY];omega))
theorem Zlo{w}{x}(h:w.1.length<=4000000000):W (sY w x) (XC 1 w):=by exact Zj (W.mono (P:=λ_=>True) (by simp[Wx]) λa _=>Zp ⟨λ_=>Zj ((xG h).mono λ_ h=>J h),λ_=>Zj ((Hv h).mono λ_ h=>J h)⟩)
theorem Zb3{w}{b}(h:w.1.length<=2000000000)(a:b.length<=2000000000):W (NG w b) (XC (2+b.length) w):=by rw[vH Y];exact J ((XC.W2.trans XC.put).le (by simp[WY]))
theorem rB{w}{b}(h:w.1.length<=2000000000):W (Hz w b) (XC 66 w):=by refine Zp ⟨λ_=>Zj ((xG Y).mono λ_ h=>J (h.le Zb)),λa=>?_⟩;simp[Wx]at a;exact Zj ((Zb3 h Y).mono λ_ h=>J (h.le Y))
theorem yh{w}{b}(h:w.1.length<=2000000000)(a:b.length<=2000000000):W (Tp w b) (XC b.length w):=by rw[An Y];exact J XC.put
theorem OQ{w}{k}(h:w.1.length<=2000000000):W (Pj w k) (XC 32 w):=by refine Ul ⟨Zb,Zj ((yh h Zb).mono λ_ h=>J Zm)⟩
theorem kN{h}:W (Li h) λr=>r.1.length<=72:=by refine Zj (W.mono (P:=λ_=>True) (by unfold Hn;simp only[Wx]) λj _=>Zp ⟨λ_=>J Zb,λ_=>?_⟩);have a:XC 4 ([],false) (put ([],false) (Y6 ((Z6 32 h.1).setWidth 64) 4)):=XC.put.le (by rw[WY];omega);rw[be (DE Zb)];have b:=a.trans (XC.put (l:=Y6 ((Z6 32 h.2.1).setWidth 64) 4));rw[WY]at b;have g:=a.2;have i:=b.2;simp at g i;rw[be (DE Y)];refine Ul ⟨Y,W.ZV _ (yh Y (by simp[Xc,YC,Xw])) λk c=>Ul ⟨Y,W.ZV _ (yh (by have:=c.2;grind) Zb) λm f=>?_⟩⟩;have d:=c.2;have e:=f.2;simp[Xc,YC,Xw]at d e;rw[be (GL Y)];refine J ?_;grind
theorem Za2{w}{s}(h:w.1.length<=1000000000)(hs:s.2.length<=1000000000):W (FI w s) (XC (74+s.2.length) w):=by refine W.ZV _ kN λd c=>Zp ⟨λ_=>Zj ((Hv Y).mono λ_ h=>J (h.le Y)),λ_=>W.ZV _ (yh Y Y) λe a=>Zj ((Zb3 (by have:=a.2;omega) Y).mono λf b=>J ((a.trans b).le Y))⟩
theorem zN{α}{m:ZO->α->Option ZO}{l}{c}{w}(B:w.1.length<=500000000)(y:c<=10000)(z:l.length<=4294967296)(hi:∀w x,x∈l->w.1.length<=600000000->W (m w x) (XC c w)):W (O (OX w (Ze (Zf l))) λq=>O (YK (λd=>Zc (Zz d.1 (Ze (Zf l))) (O (ZA l d.1) λr=>O (m d.2 r) λs=>some (.next (Zk (Zu d.1 1),s))) (some (.brk d))) (0,q)) λt=>some t.2) (XC (2+4096*c) w):=by
 rw[be (mb Y)];have f:XC 2 w (put (W2 w (Ze (Zf l)) 4096) (Y6 (BitVec.ofInt 64 (Ze (Zf l))) 2)):=(XC.W2.trans XC.put).le (by rw[WY];omega);have b:(put (W2 w (Ze (Zf l)) 4096) (Y6 (BitVec.ofInt 64 (Ze (Zf l))) 2)).2=true\/l.length<=4096:=by
  by_cases e:l.length<=4096;·exact .inr e
  ·refine .inl ?_;have:W2 w (Ze (Zf l)) 4096=(w.1,true):=by unfold W2;rw[YW (by simp only[Wx];omega)]
   rw[this];simp[put]
 generalize put (W2 w (Ze (Zf l)) 4096) (Y6 (BitVec.ofInt 64 (Ze (Zf l))) 2)=v at f b;have u:=f.2;have hm:c*l.length<=4096*c\/v.2=true:=by
  rcases b with b|b;·exact .inr b
  ·exact .inl (by rw[wR];exact RM c b)
 refine W.ZV (λa=>XC (4096*c) v a.2) (W.UQ (λa=>0<=a.1/\a.1<=l.length/\XC (c*a.1.toNat) v a.2/\(v.2=true->a.2=v)) _ (λa=>(l.length-a.1).toNat) ⟨Zb,Zb,⟨λ_=>rfl,Zb⟩,λ_=>rfl⟩ Zw (λa g=>?_) λ_ e=>e) λa g=>J (f.trans g);obtain⟨C,D,h,n⟩:=g;have A:c*a.1.toNat<=c*l.length:=Nat.mul_le_mul_left c Y;have o:a.2.1.length<=v.1.length+4096*c:=by
  rcases hm with hm|hm;·have:=h.2;omega
  ·rw[n hm];omega
 refine Zp ⟨λj=>?_,λj=>J ⟨h.1,o⟩⟩;simp only[Wx]at j;refine Zj (YF ⟨Y,λx p=>Zj ((hi _ _ (X6 p) Y).mono λE k=>J ?_)⟩);rw[show Zk (Zu a.1 1)=a.1+1by simp only[Wx];exact ZK Y];refine⟨⟨Zw,Zw,(h.trans k).le<|by dsimp only;rw[show(a.1+1).toNat=a.1.toNat+1by omega,Nat.mul_add,BH];omega,λi=>by dsimp only;have:=n i;rw[<-this];exact k.1 (by rw[this];exact i)⟩,Zw⟩
theorem jc{w}{l}(b:w.1.length<=500000000)(a:l.length<=4294967296):W (ya w l) (XC 131074 w):=by exact zN b (c:=32) Zb a λw e _ d=>OQ Y
theorem Zb4{w}{t}(c:w.1.length<=400000000)(h1:t.1.length<=4294967296)(h2:t.2.length<=4294967296):W (rf w t) (XC 262148 w):=by exact W.ZV _ (jc Y h1) λd a=>Zj ((jc (by have:=a.2;omega) h2).mono λe b=>J ((a.trans b).le Zb))
theorem jP{w}{p}(h:w.1.length<=1000000000):W (z7 w p) (XC 34 w):=by refine W.ZV _ Ed λb _=>Zp ⟨λ_=>Zj ((xG Y).mono λ_ h=>J (h.le Zb)),λ_=>?_⟩;rw[be (bT Y)];have a:XC 2 w (put (W2 w p.1 65535) (Y6 (BitVec.ofInt _ p.1) 2)):=(XC.W2.trans XC.put).le (by rw[WY];omega);exact Zj ((OQ (by have:=a.2;omega)).mono λ_ h=>J (a.trans h))
theorem Zly{w}{p}(h:w.1.length<=1000000000):W (jG w p) (XC 66 w):=by exact W.ZV _ (jP h) λb a=>Zj ((OQ (by have:=a.2;omega)).mono λ_ h=>J (a.trans h))
theorem jn{α}{c}{A B}{Q:α->Prop}(h1:c=true->W A Q)(h2:c=false->W B Q):W (O (Zc c A B) λz=>some z) Q:=Zj (Zp ⟨λa=>(h1 a).mono λ_ b=>J b,λa=>(h2 a).mono λ_ b=>J b⟩)
theorem Zlu{w}{p}(n:w.1.length<=400000000)(h1:p.1.length<=4294967296):W (sZ w p) (XC 280000 w):=by unfold sZ;refine W.ZV _ (show W (rm w p.1) (XC 270338 w)by unfold rm;exact zN Y (c:=66) Y h1 λw f _ l=>Zly Y) λv d=>W.ZV (λg=>XC 280000 w g.1) ?_ λg i=>J i;have m:=d.2;refine Zp ⟨λ_=>Zj ((Hv Y).mono λf a=>J ((d.trans a).le Y)),λ_=>jn (λ_=>by refine W.ZV _ (Hv Y) λf a=>W.ZV _ (OQ (by have:=a.2;omega)) λj b=>Zj ((OQ (by have:=a.2;have:=b.2;omega)).mono λk e=>J ((((d.trans a).trans b).trans e).le Y))) λ_=>jn (λ_=>by refine W.ZV _ (Hv Y) λf a=>W.ZV _ (jP (by have:=a.2;omega)) λj b=>W.ZV _ (OQ (by have:=a.2;have:=b.2;omega)) λk e=>Zj ((OQ (by have:=a.2;have:=b.2;have:=e.2;omega)).mono λo h=>J (((((d.trans a).trans b).trans e).trans h).le Y))) λ_=>Zj ((xG Y).mono λf a=>J ((d.trans a).le Y))⟩
theorem Zb6{w}{v}(k:w.1.length<=1000000000):W (rg w v) (XC 138 w):=by refine W.ZV _ (F0 Y) λf d=>W.ZV _ (F0 (by have:=d.2;omega)) λg a=>?_;have a:=d.trans a;refine W.ZV _ (OQ (by have:=a.2;omega)) λh b=>?_;have b:=a.trans b;refine W.ZV _ (OQ (by have:=b.2;omega)) λi c=>?_;have c:=b.trans c;exact Zj ((rB (by have:=c.2;omega)).mono λj e=>J ((c.trans e).le Zb))
theorem Zlx{w}{r}(i:w.1.length<=900000000):W (re w r) (XC 99 w):=by unfold re;rw[be (ba Y)];have c:XC 1 w (put w [if r.1then 1#8 else 0#8]):=XC.put;have h:=c.2;refine Zp ⟨λ_=>W.ZV _ (OQ Y) λd a=>Zj ((OQ (by have:=a.2;omega)).mono λe b=>J (((c.trans a).trans b).le Y)),λ_=>W.ZV _ (jP Y) λd a=>W.ZV _ (OQ (by have:=a.2;omega)) λe b=>Zj ((OQ (by have:=a.2;have:=b.2;omega)).mono λg f=>J ((((c.trans a).trans b).trans f).le Y))⟩
theorem Zlp{w}{n}(e:w.1.length<=900000000):W (jF w n) (XC 204 w):=by exact W.ZV _ (rB Y) λc a=>Zj ((Zb6 (by have:=a.2;omega)).mono λd b=>J (a.trans b))
def jr(m:YN):Prop:=m.2.2.2.2.2.2.2.2.2.1.2.length<=1000000000/\m.2.2.2.2.2.2.2.2.2.2.1.1.length<=4294967296/\m.2.2.2.2.2.2.2.2.2.2.1.2.length<=4294967296/\m.2.2.2.2.2.2.2.2.2.2.2.1.1.length<=4294967296/\m.2.2.2.2.2.2.2.2.2.2.2.1.2.length<=4294967296/\m.2.2.2.2.2.2.2.2.2.2.2.2.2.1.1.length<=4294967296/\m.2.2.2.2.2.2.2.2.2.2.2.2.2.2.1.length<=4294967296/\m.2.2.2.2.2.2.2.2.2.2.2.2.2.2.2.1.length<=4294967296/\m.2.2.2.2.2.2.2.2.2.2.2.2.2.2.2.2.1.length<=4294967296/\m.2.2.2.2.2.2.2.2.2.2.2.2.2.2.2.2.2.length<=4294967296
theorem ZjL{w}{m}{f}(B:w.1.length<=100000000)(h:m.2.2.2.2.2.2.2.2.2.1.2.length<=20000000\/True)(l:jr m):W (FX w m f) λr=>r.1.length<=w.1.length+1001000000/\(m.2.2.2.2.2.2.2.2.2.1.2.length<=100000->r.1.length<=w.1.length+1100000):=by obtain⟨o,q,s,t,u,v,x,y,z,p⟩:=l;unfold FX;have a:∀{c:Nat}{d:Option ZO},W d (XC c w)->c<=1001000000->(m.2.2.2.2.2.2.2.2.2.1.2.length<=100000->c<=1100000)->W (O d λg=>some (g,m)) λr=>r.1.1.length<=w.1.length+1001000000/\(m.2.2.2.2.2.2.2.2.2.1.2.length<=100000->r.1.1.length<=w.1.length+1100000):=λi A j=>Zj (i.mono λg b=>J ⟨by have:=b.2;dsimp only;omega,λk=>by have:=b.2;have:=j k;dsimp only;omega⟩);refine W.ZV _ (Zp ⟨λ_=>a (F0 Y) Y Y,λ_=>jn (λ_=>a (F0 Y) Y Y) λ_=>jn (λ_=>a (F0 Y) Y Y) λ_=>jn (λ_=>a (F0 Y) Y Y) λ_=>jn (λ_=>a (F0 Y) Y Y) λ_=>jn (λ_=>a (Zlo Y) Y Y) λ_=>jn (λ_=>a (rB Y) Y Y) λ_=>jn (λ_=>a (rB Y) Y Y) λ_=>jn (λ_=>a (Za2 Y o) Y Y) λ_=>jn (λ_=>a (Zb4 Y q s) Y Y) λ_=>jn (λ_=>a (Zb4 Y t u) Y Y) λ_=>jn (λ_=>a (OQ Y) Y Y) λ_=>jn (λ_=>a (Zlu Y v) Y Y) λ_=>jn (λ_=>a (c:=565250) (by unfold jI;exact zN Y (c:=138) Y x λw e _ h=>Zb6 Y) Y Y) λ_=>jn (λ_=>a (c:=405506) (by unfold yb;exact zN Y (c:=99) Y y λw e _ h=>Zlx Y) Y Y) λ_=>jn (λ_=>a (c:=835586) (by unfold yc;exact zN Y (c:=204) Y z λw e _ h=>Zlp Y) Y Y) λ_=>jn (λ_=>a (jc Y p) Y Y) λ_=>J ⟨Zw,λ_=>Zw⟩⟩) λr n=>J n
theorem ZaK{k}:W (z8 k) λl=>l.length<=12:=by repeat(first|exact J Zb|refine Zp ⟨λ_=>J Zb,λ_=>?_⟩)
theorem eB{m}{f}:W (CE m f) λ_=>True:=by unfold CE;simp[Wx]
theorem ZgI{m}(i:jr m)(hs:m.2.2.2.2.2.2.2.2.2.1.2.length<=100000):W (Hx m) λr=>r.1.length<=14000000:=by
 unfold Hx;refine W.ZV _ ZaK λe n=>Zp ⟨λ_=>J Zb,λ_=>W.ZV _ (Hv Zb) λv j=>?_⟩;have o:=j.2;refine W.ZV (λa=>a.2.2.1.length<=14000000) (W.lp (λa=>0<=a.1/\a.1<=e.length/\a.2.1=m/\a.2.2.1.length<=1+1100000*a.1.toNat) (λa=>(e.length-a.1).toNat) ⟨Zb,Zb,rfl,WI⟩ Zw (λa c=>?_) λa c=>Y) λa c=>?_;·obtain⟨f,g,b,h⟩:=c;refine Zp ⟨λd=>?_,λd=>J ⟨f,g,b,h⟩⟩;simp only[Wx]at d;refine Zj (YF ⟨Y,λq p=>Zj (eB.mono λl _=>Zp ⟨λ_=>J ⟨f,g,b,h⟩,λ_=>Zj ((ZjL Y (.inr trivial) (by rw[b];exact i)).mono λs k=>J ?_)⟩)⟩);have:=k.2 (by rw[b];exact hs);rw[show Zk (Zu a.1 1)=a.1+1by simp only[Wx];exact ZK Y];exact⟨⟨Zw,Zw,b,Zw⟩,Zw⟩
 ·rw[be (GL Y)];refine Zp ⟨λ_=>J Zb,λ_=>J ?_⟩;grind
def Rd{α:Type}(r:ZO)(P:α->Prop)(o:ZO×α):Prop:=o.1.1.length<=r.1.length/\P o.2
theorem Lw{r}{n:Int}(h:r.2=false)(a:0<=n)(h1:n<=r.1.length):tk r n=((r.1.drop n.toNat,false),r.1.take n.toNat):=by unfold tk;rw[Yg Zm,Yg Y]
theorem tu{r}:W (FV r) λo=>o.1.length<=r.1.length:=by unfold FV;rw[be Rm];exact J UT.1
theorem Fq{r}:W (Kv r) (Rd r λn=>0<=n/\n<2147483648):=by unfold Kv;rw[be RC];refine Zp ⟨λ_=>Zj (tu.mono λc a=>J ⟨WX a UT.1,Zb⟩),λa=>J ⟨UT.1,?_⟩⟩;have:¬2147483648#32<=(pk r 4).1.setWidth _:=XA;rw[oW]at this;simp at this⊢;have b:(2147483648#32).toNat=2147483648:=rfl;omega
theorem Zi3{r}:W (sT r) (Rd r λn=>0<=n/\n<=13):=by unfold sT;rw[be xb];refine Zp ⟨λ_=>Zj (tu.mono λb a=>J ⟨WX a UT.1,Zb⟩),λa=>J ⟨UT.1,?_⟩⟩;grind
theorem Zsn{r}{n}:(tk r n).2.length<=n.toNat:=by unfold tk;grind
theorem Bh{r}{m}(a:0<=m):(TJ r m).1.1.length<=r.1.length/\(TJ r m).2.length<=m/\(TJ r m).2.length<=8192:=by
 unfold TJ;split;·grind
 ·have b:=@UT (tk r 2).1 (pk r 2).1.toNat;have c:=@UT r 2;have d:=@Zsn (tk r 2).1 (pk r 2).1.toNat;omega
theorem ta{r}(h:r.1.length<=4000000000):W (FW r) (Rd r λb=>b.length<=64):=by unfold FW;rw[be (KS Y)];have:=@Bh r 64 Zb;exact J ⟨this.1,Y⟩
theorem OE{r}:W (Ph r) (Rd r λ_=>True):=by refine Ul ⟨Zb,?_⟩;rw[be Rm];exact J ⟨UT.1,Zb⟩
theorem lN{r}{m}(h:0<=m):(Md r m).1.1.length<=r.1.length/\0<=(Md r m).2/\(Md r m).2<=m:=by
 unfold Md;split;·grind
 ·exact⟨UT.1,Zb,Y⟩
theorem zI{α}{h:ZO->Option (ZO×α)}{P}{r}{B}(f:r.1.length<=B)(hi:∀r,r.1.length<=B->W (h r) (Rd r P)):W (O (MH r 4096) λj=>XY (XO (λc=>Zc (Zz c.2.1 j.2) (O (h c.2.2) λd=>O (QQ d.1) λu=>Zc u (O (some (d.1,[])) λv=>some (.ret v)) (Yp (Zf c.1) (Zf [d.2]) (some (.next (Z9 c.1 [d.2],Zk (Zu c.2.1 1),d.1))))) (some (.brk c))) ([],0,j.1)) λk=>some (k.2.2,k.1)) (Rd r λl=>l.length<=4096/\∀x∈l,P x):=by
 rw[be xa];obtain⟨n,o,w⟩:=@lN r 4096 Y;refine Wo (W.Ku (λa=>0<=a.2.1/\a.2.1<=(Md r 4096).2/\a.1.length=a.2.1/\a.2.2.1.length<=r.1.length/\∀x∈a.1,P x) (λa=>((Md r 4096).2-a.2.1).toNat) _ ⟨Zb,o,Zb,n,λx b=>by cases b⟩ Zw (λa e=>?_) (λa e=>J ⟨e.2.2.2.1,Zm,e.2.2.2.2⟩) λr f=>f);obtain⟨p,q,s,t,i⟩:=e;refine Zp ⟨λb=>?_,λb=>J ⟨p,q,s,t,i⟩⟩;simp only[Wx]at b;refine W.ZV _ (hi _ Y) λm g=>?_;have y:=g.1;rw[be (show QQ m.1=some m.1.2from rfl),bs];refine Zp ⟨λ_=>J ⟨Zw,Zb,λx b=>by cases b⟩,λ_=>Xa ⟨Zm,J ?_⟩⟩;rw[show Zk (Zu a.2.1 1)=a.2.1+1by simp only[Wx];exact ZK Y];refine⟨⟨Zw,Zw,Zm,Zw,λx hx=>?_⟩,Zw⟩;rcases Z1 hx with hx|hx;·exact i x hx
 ·rw[YZ hx];exact g.2
abbrev LL{α:Type}(l:List α):Prop:=l.length<=4096
theorem kT{r}:W (z9 r) (Rd r λl=>LL l/\∀x∈l,True):=by exact zI (YG _) λr _=>OE
theorem Zan{r}:W (sW r) (Rd r λt=>LL t.1/\LL t.2):=by exact W.ZV _ kT λc a=>Zj (kT.mono λd b=>J ⟨WX b.1 a.1,a.2.1,b.2.1⟩)
theorem kj{r}:W (CF r) (Rd r λ_=>True):=by unfold CF;rw[be ZqP];refine W.ZV _ OE λc a=>Zj (Ed.mono λd _=>Zp ⟨λ_=>Zj (tu.mono λe b=>J ⟨WX b (WX a.1 UT.1),Zb⟩),λ_=>J ⟨WX a.1 UT.1,Zb⟩⟩)
theorem Zjf{r}:W (jE r) (Rd r λ_=>True):=by exact W.ZV _ kj λc a=>Zj (OE.mono λd b=>J ⟨WX b.1 a.1,Zb⟩)
theorem Zjb{r}:W (jD r) (Rd r λp=>LL p.1):=by refine W.ZV _ (by unfold jH;exact zI (YG _) λr _=>Zjf) λf i=>?_;obtain⟨d,a,-⟩:=i;rw[be xb];have e:=@UT f.1 1;refine jn (λ_=>J ⟨Zm,a⟩) λ_=>jn (λ_=>W.ZV _ OE λg b=>Zj (OE.mono λh c=>J ⟨WX c.1 (WX b.1 (WX e.1 d)),a⟩)) λ_=>jn (λ_=>W.ZV _ kj λg b=>W.ZV _ OE λh c=>Zj (OE.mono λk j=>J ⟨WX j.1 (WX c.1 (WX b.1 (WX e.1 d))),a⟩)) λ_=>Zj (tu.mono λm l=>J ⟨Zm,a⟩)
theorem Zao{r}(h:r.1.length<=4000000000):W (sX r) (Rd r λv=>v.2.2.2.2.length<=64):=by exact W.ZV _ Fq λf a=>W.ZV _ Fq λg b=>W.ZV _ OE λi c=>W.ZV _ OE λj d=>Zj ((ta (by have:=a.1;have:=b.1;have:=c.1;have:=d.1;omega)).mono λk e=>J ⟨by have:=a.1;have:=b.1;have:=c.1;have:=d.1;have:=e.1;grind,e.2⟩)
theorem Zjd{r}:W (sV r) (Rd r λ_=>True):=by
 unfold sV;rw[be gO];have g:(tB r).1.1.length<=r.1.length:=by refine WX UT.1 ?_;split<;>simp
 refine Zp ⟨λ_=>W.ZV _ OE λc a=>Zj (OE.mono λd b=>J ⟨by have:=a.1;have:=b.1;grind,Zb⟩),λ_=>W.ZV _ kj λc a=>W.ZV _ OE λd b=>Zj (OE.mono λf e=>J ⟨by have:=a.1;have:=b.1;have:=e.1;grind,Zb⟩)⟩
theorem Zi8{r}(h:r.1.length<=4000000000):W (jC r) (Rd r λn=>n.1.length<=64/\n.2.2.2.2.2.length<=64):=by exact W.ZV _ (ta h) λc a=>Zj ((Zao (by have:=a.1;omega)).mono λd b=>J ⟨WX b.1 a.1,a.2,b.2⟩)
theorem Zba{h}:W (Hn h) λc=>c=true->1<=h.1/\h.1<2147483648:=by unfold Hn;simp only[Wx];exactλh=>⟨h.1.1.1,h.1.1.2⟩
theorem Zkd{b}:W (kP b) λr=>r.2=0->b.length=72/\1<=r.1.1/\r.1.1<2147483648:=by refine Zp ⟨λ_=>J Zb,λa=>?_⟩;simp[Wx]at a;rw[be (QN Y),be RC,Lw rfl Y Zm,be RC,Lw rfl Y Zm,be Rm,Lw rfl Zb Zm];refine Zj (Aw.2 ⟨Zm,?_⟩);rw[be Rm,Lw rfl Zb Zm];refine Zj (Aw.2 ⟨Zm,W.ZV _ Zba λc e=>Zp ⟨λ_=>J Zb,λd=>J λ_=>?_⟩⟩);grind
theorem Za3{r}(h:r.1.length<=4000000000):W (zy r) (Rd r λs=>s.2.length<=8192):=by unfold zy;rw[be Rm];have a:=@UT r 72;refine W.ZV _ Zkd λc d=>Zp ⟨λ_=>by rw[be Rm];exact J ⟨WX UT.1 a.1,Zb⟩,λ_=>?_⟩;·rw[be (KS Y)];have b:=@Bh (tk r 72).1 8192 Zb;rw[be (show QQ _=some _ from rfl)];exact Zp ⟨λ_=>J ⟨Zm,Zb⟩,λ_=>J ⟨WX b.1 a.1,b.2.2⟩⟩
def Q9(m:YN):Prop:=(0<=m.2.1/\m.2.1<2147483648)/\(0<=m.2.2.1/\m.2.2.1<2147483648)/\(0<=m.2.2.2.1/\m.2.2.2.1<2147483648)/\(0<=m.2.2.2.2.1/\m.2.2.2.2.1<2147483648)/\(0<=m.2.2.2.2.2.1/\m.2.2.2.2.2.1<2147483648)/\(0<=m.2.2.2.2.2.2.1/\m.2.2.2.2.2.2.1<=13)/\m.2.2.2.2.2.2.2.1.length<=64/\m.2.2.2.2.2.2.2.2.1.length<=64/\m.2.2.2.2.2.2.2.2.2.1.2.length<=8192/\(LL m.2.2.2.2.2.2.2.2.2.2.1.1/\LL m.2.2.2.2.2.2.2.2.2.2.1.2)/\(LL m.2.2.2.2.2.2.2.2.2.2.2.1.1/\LL m.2.2.2.2.2.2.2.2.2.2.2.1.2)/\LL m.2.2.2.2.2.2.2.2.2.2.2.2.2.1.1/\(LL m.2.2.2.2.2.2.2.2.2.2.2.2.2.2.1/\∀v∈m.2.2.2.2.2.2.2.2.2.2.2.2.2.2.1,v.2.2.2.2.length<=64)/\LL m.2.2.2.2.2.2.2.2.2.2.2.2.2.2.2.1/\KG m.2.2.2.2.2.2.2.2.2.2.2.2.2.2.2.2.1/\LL m.2.2.2.2.2.2.2.2.2.2.2.2.2.2.2.2.2
theorem Zi4{r}{m}{f}(h:r.1.length<=4000000000)(A:Q9 m):W (sU r m f) λo=>o.1.1.length<=r.1.length/\Q9 o.2:=by obtain⟨b,l,n,p,q,s,t,u,w,c,d,e,g,i,j,k⟩:=A;unfold sU;refine Zj (W.mono (P:=λo=>o.1.1.length<=r.1.length/\Q9 o.2) (Zp ⟨λ_=>Zj (Fq.mono λx a=>J ⟨a.1,⟨a.2,l,n,p,q,s,t,u,w,c,d,e,g,i,j,k⟩⟩),λ_=>jn (λ_=>Zj (Fq.mono λx a=>J ⟨a.1,⟨b,a.2,n,p,q,s,t,u,w,c,d,e,g,i,j,k⟩⟩)) λ_=>jn (λ_=>Zj (Fq.mono λx a=>J ⟨a.1,⟨b,l,a.2,p,q,s,t,u,w,c,d,e,g,i,j,k⟩⟩)) λ_=>jn (λ_=>Zj (Fq.mono λx a=>J ⟨a.1,⟨b,l,n,a.2,q,s,t,u,w,c,d,e,g,i,j,k⟩⟩)) λ_=>jn (λ_=>Zj (Fq.mono λx a=>J ⟨a.1,⟨b,l,n,p,a.2,s,t,u,w,c,d,e,g,i,j,k⟩⟩)) λ_=>jn (λ_=>Zj (Zi3.mono λx a=>J ⟨a.1,⟨b,l,n,p,q,a.2,t,u,w,c,d,e,g,i,j,k⟩⟩)) λ_=>jn (λ_=>Zj ((ta h).mono λx a=>J ⟨a.1,⟨b,l,n,p,q,s,a.2,u,w,c,d,e,g,i,j,k⟩⟩)) λ_=>jn (λ_=>Zj ((ta h).mono λx a=>J ⟨a.1,⟨b,l,n,p,q,s,t,a.2,w,c,d,e,g,i,j,k⟩⟩)) λ_=>jn (λ_=>Zj ((Za3 h).mono λx a=>J ⟨a.1,⟨b,l,n,p,q,s,t,u,a.2,c,d,e,g,i,j,k⟩⟩)) λ_=>jn (λ_=>Zj (Zan.mono λx a=>J ⟨a.1,⟨b,l,n,p,q,s,t,u,w,a.2,d,e,g,i,j,k⟩⟩)) λ_=>jn (λ_=>Zj (Zan.mono λx a=>J ⟨a.1,⟨b,l,n,p,q,s,t,u,w,c,a.2,e,g,i,j,k⟩⟩)) λ_=>jn (λ_=>Zj (OE.mono λx a=>J ⟨a.1,⟨b,l,n,p,q,s,t,u,w,c,d,e,g,i,j,k⟩⟩)) λ_=>jn (λ_=>Zj (Zjb.mono λx a=>J ⟨a.1,⟨b,l,n,p,q,s,t,u,w,c,d,a.2,g,i,j,k⟩⟩)) λ_=>jn (λ_=>Zj ((show W (rh r) (Rd r λy=>LL y/\∀v∈y,v.2.2.2.2.length<=64)by unfold rh;exact zI h λr h=>Zao h).mono λx a=>J ⟨a.1,⟨b,l,n,p,q,s,t,u,w,c,d,e,a.2,i,j,k⟩⟩)) λ_=>jn (λ_=>Zj ((show W (ri r) (Rd r λy=>LL y/\∀v∈y,True)by unfold ri;exact zI h λr h=>Zjd).mono λx a=>J ⟨a.1,⟨b,l,n,p,q,s,t,u,w,c,d,e,g,a.2.1,j,k⟩⟩)) λ_=>jn (λ_=>Zj ((show W (rj r) (Rd r λy=>LL y/\∀z∈y,z.1.length<=64/\z.2.2.2.2.2.length<=64)by unfold rj;exact zI h λr h=>Zi8 h).mono λx a=>J ⟨a.1,⟨b,l,n,p,q,s,t,u,w,c,d,e,g,i,⟨by have:=a.2.1;dsimp only;omega,λz B=>by have:=a.2.2 z B;omega⟩,k⟩⟩)) λ_=>jn (λ_=>Zj (kT.mono λx a=>J ⟨a.1,⟨b,l,n,p,q,s,t,u,w,c,d,e,g,i,j,a.2.1⟩⟩)) λ_=>J ⟨YG _,⟨b,l,n,p,q,s,t,u,w,c,d,e,g,i,j,k⟩⟩⟩) λo C=>J C)
theorem ZgF{b}(h:b.length<=1000000):W (sS b) λo=>o.2=0->Q9 o.1:=by
 unfold sS;rw[be (QN Y),be xb];refine W.ZV _ ZaK λf k=>Zp ⟨λ_=>J Zb,λ_=>W.ZV _ (W.lp (λa=>0<=a.1/\a.1<=f.length/\Q9 a.2.1/\a.2.2.1.length<=1000000) (λa=>(f.length-a.1).toNat) ⟨Zb,Zb,by refine⟨⟨?_,?_⟩,Zb,Zb,Zb,Zb,⟨?_,?_⟩,?_,?_,?_,Zb,Zb,?_,Zb,?_,⟨?_,?_⟩,?_⟩<;>simp[LL],WX UT.1 h⟩ Zm (λa c=>?_) λa c=>c.2.2.1) λa c=>?_⟩;·obtain⟨g,i,d,j⟩:=c;refine Zp ⟨λe=>?_,λe=>J ⟨g,i,d,j⟩⟩;simp only[Wx]at e;refine Zj (YF ⟨Y,λn l=>Zj (eB.mono λb _=>Zp ⟨λ_=>J ⟨g,i,d,j⟩,λ_=>W.ZV _ (Zi4 Y d) λp m=>J ?_⟩)⟩);rw[show Zk _=a.1+1by simp only[Wx];exact ZK Y];exact⟨Zm,Zw⟩
 ·rw[be KR];exact Zp ⟨λ_=>J Zb,λ_=>J λ_=>c⟩
theorem ZgV{a b}:W (tD a b) λ_=>True:=by
 unfold tD;refine W.ZV _ tt λC X=>W.ZV (λw=>w=false->C=true/\W (Cc b) λk=>k=true) ?_ λw Z=>W.ZV (λk=>k=false->w=false) (by simp only[Wx];exactλe=>e.1) λk z=>Zp ⟨λ_=>J trivial,λe=>?_⟩;·refine Zp ⟨λ_=>J (λe=>by cases e),λr=>Zj ((W.self tt).mono λk z=>J λx=>⟨by cases C<;>simp_all[Zy],Q4 z.1 (by cases k<;>simp_all[Zy])⟩)⟩
 obtain⟨r,x⟩:=Z (z e);obtain⟨a1,a2,a3,a4,t,M,N,P,a8⟩:=X r;obtain⟨e2,x0,s⟩:=x;obtain⟨e3,E,y⟩:=@tt b;rw[x0]at E;cases E;obtain⟨b1,b2,b3,b4,A,R,S,T,b8⟩:=y s;have x1:∀p:List Int,(∀f∈p,1<=f)->0<=p.sum:=λp=>by induction p with|nil=>simp|cons f p ih=>intro e;have:=ih λv l=>e v (XG _ l);have:=e f (XP ..);simp only[wJ];omega
 have H:∀(i:JI)(d:List Int)(B:List Rx)(h:Int),Hj i.1 i.2.1=some d->d.length=i.2.2.length->(∀f∈d,1<=f)->RA B h->h+d.sum<=4294967294->d.length<=2147483648->W (O (Hj i.1 i.2.1) λu=>O (YK (λ(j:List Rx×AO)=>Zc (Zz j.2.2 (Ze (Zf u))) (O (ZA u j.2.2) λK=>O (ZA i.2.2 j.2.2) λx2=>O (Cd j.1 (j.2.1,K,x2)) λx3=>some (.next (x3,Zk (Zu j.2.1 K),Zk (Zu j.2.2 1)))) (some (.brk j))) (B,i.1,0)) λx4=>some x4.1) λq=>RA q (h+d.sum):=by
  intro i d B h r x s y h5 h6;rw[be r];refine W.ZV (λc=>RA c.1 (h+d.sum)) (W.UQ (λc=>0<=c.2.2/\c.2.2<=d.length/\RA c.1 (h+(d.take c.2.2.toNat).sum)) _ (λc=>(d.length-c.2.2).toNat) ⟨Zb,Zb,by simpa using y⟩ Zw (λc g=>?_) λc g=>g) λc g=>J g;obtain⟨m,n,I⟩:=g;refine Zp ⟨λe=>?_,λe=>J ?_⟩<;>simp only[Wx]at e
  ·refine Zj (YF ⟨Y,λf G=>Zj (YF ⟨Y,λv l=>?_⟩)⟩);obtain⟨U,V⟩:=Wm G;have D:d.take (c.2.2.toNat+1)=d.take c.2.2.toNat++[f]:=by rw[MU U,V]
   have F:(d.take (c.2.2.toNat+1)).sum<=d.sum:=by
    have k:d.sum=(d.take (c.2.2.toNat+1)).sum+(d.drop (c.2.2.toNat+1)).sum:=by rw[<-dV,Sb]
    have:=x1 (d.drop (c.2.2.toNat+1)) λx5 hz=>s x5 (wH hz);omega
   rw[D,dV]at F;simp only[wJ,List.sum_nil]at F;refine Zj ((ZcR I (s f (X6 G)) Zw).mono λx6 hq=>J ?_);rw[show Zk (Zu c.2.2 1)=c.2.2+1by simp only[Wx];exact ZK Y];refine⟨⟨Zw,Zw,?_⟩,Zw⟩;dsimp only;rw[show(c.2.2+1).toNat=c.2.2.toNat+1by omega,D,dV];simp only[wJ,List.sum_nil];rw[show h+((d.take c.2.2.toNat).sum+(f+0))=h+(d.take c.2.2.toNat).sum+f by omega];exact hq
  ·rwa[show c.2.2.toNat=d.length by omega,NM]at I
 refine Wo (W.Vy (λc=>c.2=0/\RA c.1 0\/c.2=1/\RA c.1 (0+t.sum)\/c.2=2/\RA c.1 (0+t.sum+A.sum)) (λc=>RA c.1 (0+t.sum+A.sum)) (λc=>(2-c.2).toNat) (λ_=>True) (.inl ⟨rfl,⟨Zb,rfl⟩⟩) Zw (λc g=>?_) (λc g=>?_) λ_ _=>trivial)
 ·rcases g with⟨m,n⟩|⟨m,n⟩|⟨m,n⟩;·rw[m];refine Zp ⟨λ_=>Xo ⟨by simp only[Wx,WA,Vf];omega,?_⟩,λe=>by simp only[Wx,WA,Vf]at e;omega⟩;rw[be (show ZA [a,b] 0=some a from rfl)];have:=H a t c.1 0 M N P n Y Y;rw[Zi]at this⊢;refine this.mono λu o=>?_;rw[Zi]at o⊢;refine o.mono λv l=>J ⟨.inr (.inl ⟨?_,L (Q:=λq=>RA q _).1 l⟩),?_⟩<;>(rw[show Zk (Zu 0 1)=1by simp only[Wx];exact ZK Y])<;>simp
  ·rw[m];refine Zp ⟨λ_=>Xo ⟨by simp only[Wx,WA,Vf];omega,?_⟩,λe=>by simp only[Wx,WA,Vf]at e;omega⟩;rw[be (show ZA [a,b] 1=some b from rfl)];have:=H b A c.1 _ R S T n Y Y;rw[Zi]at this⊢;refine this.mono λu o=>?_;rw[Zi]at o⊢;refine o.mono λv l=>J ⟨.inr (.inr ⟨?_,L (Q:=λq=>RA q _).1 l⟩),?_⟩<;>(rw[show Zk (Zu 1 1)=2by simp only[Wx];exact ZK Y])<;>simp
  ·rw[m];exact Zp ⟨λe=>by simp only[Wx,WA,Vf]at e;omega,λ_=>J n⟩
 ·have:=F9 g;exact Zj ((Za6 Y).mono λ_ _=>J trivial)
theorem fq{h}{l}(h1:1<=l.length)(h2:l.length<=10):W (xK h l) λ_=>True:=by refine Zj (YF ⟨Y,λg c=>Zj (N0.2 ⟨Zm,Wo (W.Ku (λa=>0<=a.1) (λa=>(l.length-a.1).toNat) (λ_=>True) Zb Y (λa b=>?_) (λa b=>Zj (mG.mono λf _=>by simp only[Wx])) λ_ _=>trivial)⟩)⟩);·refine Zp ⟨λh=>?_,λh=>J b⟩;simp only[Wx,Wn,UF]at h;refine Zj (YF ⟨Zm,λi d=>Zj (ZgV.mono λe _=>Zp ⟨λ_=>by rw[bs];exact J trivial,λ_=>J ?_⟩)⟩);rw[show Zk _=a.1+1by simp only[Wx];exact ZK Y];exact⟨Y,Zm⟩
theorem Zky{t}{m n}{a b}:W (eM t m n a b) λ_=>True:=by exact Zp ⟨λ_=>J trivial,λ_=>Zp ⟨λ_=>J trivial,λ_=>Zp ⟨λ_=>J trivial,λ_=>Zj ((fq Zb Zb).mono λ_ _=>Zp ⟨λ_=>Zj ((fq Zb Zb).mono λ_ _=>J trivial),λ_=>J trivial⟩)⟩⟩⟩
theorem Zkx{t}{m n}{a b}:W (eK t m n a b) λ_=>True:=by refine W.ZV (λ_=>True) (by simp[Wx]) λ_ _=>W.ZV (λ_=>True) (by simp[Wx]) λ_ _=>Zp ⟨λ_=>J trivial,λ_=>Zj ((fq Zb Zb).mono λ_ _=>J trivial)⟩
theorem Uu{α β}{c}{A B:Option α}{f}{Q:β->Prop}(h1:c=true->W A λ_=>True)(h2:c=false->W B λ_=>True)(b:∀x,W (f x) Q):W (O (Zc c A B) f) Q:=Zj (Zp ⟨Zm,λa=>(h2 a).mono λx _=>b x⟩)
theorem kY{p}{a b}:W (yL p a b) λr=>r.length<=200000000:=by exact Zj (pV.mono λ_ c=>J c)
theorem Yu{α β}{c}{A B}{f}{Q:β->Prop}(P:α->Prop)(h1:c=true->W A P)(h2:c=false->W B P)(b:∀x,P x->W (f x) Q):W (O (Zc c A B) f) Q:=Zj (Zp ⟨λa=>(h1 a).mono b,λa=>(h2 a).mono b⟩)
theorem Ri{α}[DecidableEq α]{p q:α}:(Zs p q=true)=(p=q):=Zb
theorem Ha{α}[DecidableEq α]{p q:α}:(Zs p q=false)=¬p=q:=Zb
theorem ZjO{p}{k}(h:p.1.length<=4294967296):W (qv p k) λb=>b=true->p.2.1=0\/p.2.1=1\/p.2.1=2:=by
 unfold qv;refine Wo (W.Ku (λa=>0<=a.1) (λa=>(p.1.length-a.1).toNat) (λb=>b=false) Zb Zw (λa d=>?_) (λa d=>?_) λb f=>by rw[f];simp);·refine Zp ⟨λh=>?_,λh=>J d⟩;simp only[Wx]at h;refine Zj (YF ⟨⟨d,Y⟩,λm i=>Zj (Dx.mono λb _=>Uu (λ_=>J trivial) (λ_=>Zj (mP.mono λ_ _=>J trivial)) λe=>Zp ⟨λ_=>by rw[bs];exact J rfl,λ_=>Zj (Do.mono λj _=>Zj (cX.mono λl _=>Zp ⟨λ_=>by rw[bs];exact J rfl,λ_=>J ?_⟩))⟩)⟩);rw[show Zk (Zu a.1 1)=a.1+1by simp only[Wx];exact ZK Y];exact⟨Zw,Zw⟩
 ·refine Zp ⟨λc=>J λ_=>.inl (by rwa[Ri]at c),λ_=>Zp ⟨λc=>Zj (Dx.mono λ_ _=>J λ_=>.inr (.inl (by rwa[Ri]at c))),λ_=>Zp ⟨λc=>Uu (λ_=>Zj (mP.mono λ_ _=>J trivial)) (λ_=>J trivial) λe=>Uu (λ_=>Zj (Dx.mono λ_ _=>J trivial)) (λ_=>J trivial) λg=>J λ_=>.inr (.inr (by rwa[Ri]at c)),λ_=>J Zb⟩⟩⟩
theorem Zjj{p}:W (iK p) λr=>r.1.length<=200000000/\(p.2.1=0\/p.2.1=1\/p.2.1=2->r.2=true):=by exact Zp ⟨λ_=>Zj ((Ar Zb Zb).mono λ_ a=>J ⟨a,λ_=>rfl⟩),λb=>Zp ⟨λ_=>Zj (pV.mono λ_ a=>J ⟨a,λ_=>rfl⟩),λc=>Zp ⟨λ_=>Zj (kY.mono λ_ a=>J ⟨a,λ_=>rfl⟩),λd=>J ⟨Zb,Zm⟩⟩⟩⟩
theorem Zhs{p}{k}(h:p.1.length<=1000000000)(o:p.2.1=0\/p.2.1=1\/p.2.1=2):W (qx p k) λr=>(1<=r.length/\r.length<=1000000001)/\∀x∈r,x.length<=200000000:=by
 unfold qx;refine Zj (Zjj (p:=p).mono λn l=>Zp ⟨Zm,λ_=>Zj (W.lp (λa=>a.1.length<=200000000/\a.2.1.length=p.1.length-a.2.2/\-1<=a.2.2/\a.2.2<p.1.length/\∀x∈a.2.1,x.length<=200000000) (λa=>(a.2.2+1).toNat) ?_ ?_ (λa b=>?_) λa b=>J ⟨Y,b.2.2.2.2⟩)⟩);·rw[show Zk (ZU (Ze (Zf p.1)) 1)=(p.1.length:Int)-1by simp only[Wx];exact ZK Y];exact⟨l.1,by simp only[V9];omega,Zw,Zw,Zm⟩
 ·rw[show Zk (ZU (Ze (Zf p.1)) 1)=(p.1.length:Int)-1by simp only[Wx];exact ZK Y];dsimp only;omega
 ·obtain⟨f,g,i,e,j⟩:=b;refine Zp ⟨λd=>Zj ((M7 Y).mono λu _=>?_),λ_=>J ⟨f,g,i,e,j⟩⟩;simp only[Wx]at d;refine Zj (YF ⟨⟨d,e⟩,λw s=>Zj (Do.mono λt _=>Yu _ (λ_=>Zj (kY.mono λ_ c=>J c)) (λ_=>Zj (kY.mono λ_ c=>J c)) λv m=>Xa ⟨by simp only[Wx,V9];omega,J ?_⟩)⟩);rw[show Zk (ZU a.2.2 1)=a.2.2-1by simp only[Wx];exact ZK Y];refine⟨⟨m,Zm,Zw,Zw,λx q=>Zm⟩,Zw⟩
theorem Zmb{p}{k t}(h:p.1.length<=1000000000):W (iJ p k t) λ_=>True:=by refine Zj ((ZjO Y).mono λe f=>Zp ⟨λ_=>J trivial,λg=>Zj ((Zhs h Zm).mono λc a=>?_)⟩);rw[show Zk _=c.length-1by simp only[Wx];exact ZK Y];exact Zj (YF ⟨Y,λd b=>Zj ((M7 (by have:=a.2 d (X6 b);omega)).mono λi _=>Zp ⟨λ_=>J trivial,λ_=>Uu (λ_=>J trivial) (λ_=>J trivial) λ_=>Zp ⟨λ_=>J trivial,λ_=>J trivial⟩⟩)⟩)
theorem Zie{l}{c}{h}(e:l.length<=100000)(d:c.length<4000000000):W (lF l c h) λ_=>True:=by refine Zj ((vq d).mono λi a=>Uu (λb=>?_) (λ_=>J trivial) λ_=>J trivial);have a:=a b;rw[show Zk _=c.length-1by simp[Wx];exact ZK Y];exact Zj (YF ⟨Y,λg f=>Zj ((vl e (by have:=a.2.2.2.2 g (X6 f);omega)).mono λj _=>J trivial)⟩)
theorem Zhj{l}{s}(h1:s.2.1.1.length<=1000000000)(h2:s.2.2.length<=2000000000):W (ku l s) λ_=>True:=by refine Yu (λa=>a=false->l.length<=32) (λ_=>J Zb) (λ_=>J λb=>Zm) λa c=>Zp ⟨λ_=>J trivial,λb=>Zj ((mw Zm).mono λd _=>Zj ((Zmb h1).mono λe _=>Zp ⟨λ_=>J trivial,λ_=>Zp ⟨λ_=>J trivial,λ_=>Xa ⟨Zm,Zj ((Zie (by have:=c b;omega) Y).mono λ_ _=>J trivial)⟩⟩⟩))⟩
theorem ZfP{id}{q}{d}{ps}(g:ps.length<=1000)(e:∀p∈ps,p.length<=1000000):W (Kr id q d ps) λ_=>True:=by unfold Kr;simp only[Wx];refine⟨YP,Y,Zb,YP,YP,YP,YP,Zb,(W.lp (λa=>0<=a.2/\a.2<=ps.length/\a.1.length<=22+a.2.toNat*1000000) (λa=>(ps.length-a.2).toNat) Zb Y (λa b=>?_) λa b=>(M7 Y).mono λ_ _=>trivial)⟩;·refine Zp ⟨λc=>?_,λ_=>J b⟩;simp at c;refine Zj (YF ⟨Y,λf h=>?_⟩);have:=e f Zm;refine Xa ⟨Y,J ?_⟩;rw[ZK Y];exact⟨Zm,Zm⟩
noncomputable def U(id:Ts)(q:BitVec 32)(d:Int)(ps:List Zt):ZI:=(Kr id q d ps).getD (Zn 32 0#8)
theorem Au{α}{o}{x:α}{Q}(h:W o Q):o=some (o.getD x):=by obtain⟨a,b,-⟩:=h;grind
theorem vJ{id}{q}{d}{ps}(b:ps.length<=1000)(a:∀p∈ps,p.length<=1000000):Kr id q d ps=some (U id q d ps):=Au (ZfP b a)
abbrev tl(h:ZI):Zt:=Xc 0 (YC 32 (Xw h))
theorem ZfG(h):tl h=h.toList:=by show List.drop 0 (List.take _ _)=_;rw[wA,VT Zb]
theorem To(h):(tl h).length=32:=Zb
noncomputable def S(id:Ts)(q:BitVec 32)(i:Int)(s:ZI):ZI:=U id q i [[255#8],tl s]
theorem mH{id}{q}{i}{s}:zQ id q i s=some (S id q i s):=by exact Vo (Ul ⟨Zb,Zj (Q4 (vJ Zb Zb) (J rfl))⟩)
noncomputable def cn(id:Ts)(q:BitVec 32)(i:Int):Nat->Nat->ZI->ZI|_,0,x=>x|a,n+1,x=>cn id q i (a+1) n (U id q i [[Z6 8 (a:Int)],tl x])
theorem aK(id)(q)(i):∀(n a m)(x),cn id q i (a+n) m (cn id q i a n x)=cn id q i a (n+m) x|0,a,m,x=>by rw[TN];rfl|n+1,a,m,x=>by rw[show n+1+m=n+m+1by omega];show cn _ q i _ m (cn _ q i _ n _)=cn _ q i (a+1) _ _;rw[<-aK _ q i n _ m,show a+(n+1)=a+1+n by omega]
theorem aI{id}{q}{i}{x}{a b:Nat}(h:a<=b)(k:b<=1000):Cw id q i x a b=some (cn id q i a (b-a) x):=by
 refine Vo (Zj (W.UQ (λc=>(a:Int)<=c.1/\c.1<=b/\cn id q i c.1.toNat (b-c.1.toNat) c.2=cn id q i a (b-a) x) _ (λc=>(b-c.1).toNat) Zm Zw (λc e=>?_) λc e=>J e))
 ·obtain⟨g,j,f⟩:=e;refine Zp ⟨λd=>Ul ⟨YP,Zj (Q4 (vJ Zb (by simp[To])) (J ?_))⟩,λd=>J ?_⟩;·simp only[Wx]at d;rw[show Zk (Zu c.1 1)=c.1+1by simp only[Wx];exact ZK Y];refine⟨⟨Zw,Zw,?_⟩,Zw⟩;rw[<-f];dsimp only;rw[show(c.1+1).toNat=c.1.toNat+1by omega,show b-c.1.toNat=b-(c.1.toNat+1)+1by omega];show _=cn id q i (c.1.toNat+1) _ _;rw[show((c.1.toNat:Nat):Int)=c.1by omega]
  ·simp only[Wx]at d;show c.2=_;rw[<-f,show b-c.1.toNat=0 by omega];rfl
noncomputable def F(id:Ts)(q:BitVec 32)(l:List ZI):ZI:=(Cx id q l).getD (Zn 32 0#8)
theorem c9{id}{q}{l}(h:l.length<=10000):Cx id q l=some (F id q l):=by refine Au (Q:=λ_=>True) ?_;unfold Cx;refine M8.2 ⟨by simp only[Wx];rw[ZK Y];omega,Zj (W.lp (λa=>0<=a.2/\a.2<=l.length/\a.1.length=32*a.2.toNat) (λa=>(l.length-a.2).toNat) Zb Zw (λa c=>?_) λa c=>Zj ((ZfP Zb WI).mono λ_ _=>J trivial))⟩;·obtain⟨d,e,f⟩:=c;refine Zp ⟨λb=>?_,λb=>J ⟨d,e,f⟩⟩;simp only[Wx]at b;refine Zj (YF ⟨Y,λi g=>Ul ⟨YP,Xa ⟨Zm,J ?_⟩⟩⟩);·rw[show Zk (Zu a.2 1)=a.2+1by simp only[Wx];exact ZK Y];refine⟨⟨Zw,Zw,?_⟩,Zw⟩;grind
theorem M9{α β}{o:Option β}{f}{Q:α->Prop}:W (Option.bind o f) Q↔W o λx=>W (f x) Q:=by rw[<-vY];exact Zi
theorem bV{σ}{f}{s:σ}{Q}(I P)(a)(b:I s)(d:a s<4611686018427387904)(h:∀s,I s->W (f s) (LQ I a (a s) P λ_=>True))(c:∀s,P s->Q s):W (Ll f FU s) Q:=by rw[<-jo];exact W.UQ I P _ b d h c
theorem IQ{α}{c}[Decidable c]{x y}{Q:α->Prop}:W (if c then x else y) Q↔(c->W x Q)/\(¬c->W y Q):=Zm
theorem ah(x m)(h:0<=m/\m<256):0<=JS x m/\JS x m<=m:=by
 obtain⟨a,rfl⟩:=Qo h.1;have b:(BitVec.ofInt _ x&&&BitVec.ofInt 64 a).toNat<=a:=by refine WX Nat.and_le_right ?_;grind
 unfold JS;rw[Ip Y];omega
def Us(f:Nh):Prop:=f=(1,265,7)\/f=(2,133,6)\/f=(4,67,4)\/f=(8,34,0)
theorem Us.bits{f}(h:Us f):f.1=1\/f.1=2\/f.1=4\/f.1=8:=by rcases h with rfl|rfl|rfl|rfl<;>simp
def SA(f:Nh):Nat:=2^f.1.toNat-1
theorem ZbZ{f}(h:Us f):Kq f=some (SA f:Int):=by refine Vo (Sp ⟨by rcases h.bits with e|e|e|e<;>omega,J ?_⟩);rcases h.bits with e|e|e|e<;>rw[xD,EG,OV]<;>unfold SA<;>rw[e]<;>decide
theorem ZbY{f}(h:Us f):Go.Sl.M.Kq f=some (SA f:Int):=by rcases h with rfl|rfl|rfl|rfl<;>rfl
theorem aU{x}{f}{b:Zt}{w}{u}(t:Us f)(D:b.length<=1000)(P:Nat->x->Prop)(A:P 0 u)(p:∀n s(d:Int),P n s->0<=d->d<=SA f->W (w s d) (P (n+1))):W (Go.Sl.M.Cy f b w u) (P (b.length*(8/f.1.toNat))):=by
 unfold Go.Sl.M.Cy;have c:=t.bits;refine M9.2 (bV (λa=>0<=a.1/\a.1<=b.length/\P (a.1.toNat*(8/f.1.toNat)) a.2) (λa=>P (b.length*(8/f.1.toNat)) a.2) (λa=>(b.length-a.1).toNat) Zm Zw (λa m=>?_) λa m=>J m)
 ·obtain⟨B,C,r⟩:=m;unfold Go.Sl.M.sB;refine IQ.2 ⟨λh=>?_,λh=>J ?_⟩
  ·have h:=IA h;refine M9.2 (YE (l:=b) (Q:=λ_=>True).2 ⟨Y,λ_ _=>trivial⟩|>.mono λz _=>M9.2 (bV (λv=>∃j:Nat,v.1=8-f.1*(j+1)/\j<=8/f.1.toNat/\P (a.1.toNat*(8/f.1.toNat)+j) v.2) (λv=>P ((a.1.toNat+1)*(8/f.1.toNat)) v.2) (λv=>(v.1+8).toNat) ?_ ?_ (λv o=>?_) λv o=>J ?_));·refine⟨0,?_,VD _,r⟩;show VY (8-f.1)=_;rw[Ip Y];rcases c with e|e|e|e<;>rw[e]<;>rfl
   ·show(VY (8-f.1)+8).toNat<_;rw[Ip Y];omega
   ·obtain⟨j,k,q,y⟩:=o;have E:v.1<=8:=by rcases c with e|e|e|e<;>rw[e]at k<;>omega
    unfold Go.Sl.M.sC;refine IQ.2 ⟨λg=>?_,λg=>J ?_⟩
    ·have g:=IA g;refine IQ.2 ⟨λ_=>M9.2 (Q4 (ZbY t) (M9.2 ((p _ _ _ y (ah _ _ (by rcases c with e|e|e|e<;>unfold SA<;>rw[e]<;>decide)).1<|(ah _ _ (by rcases c with e|e|e|e<;>unfold SA<;>rw[e]<;>decide)).2).mono λF p=>J ⟨⟨j+1,?_,by rcases c with e|e|e|e<;>rw[e]at k q⊢<;>simp at q⊢<;>omega,p⟩,?_⟩))),λi=>absurd g i⟩;·show VY (v.1-f.1)=_;rw[Ip Y];rcases c with e|e|e|e<;>rw[e]at k⊢<;>omega
     ·show(VY (v.1-f.1)+8).toNat<_;rw[Ip Y];rcases c with e|e|e|e<;>omega
    ·have g:¬0<=v.1:=λi=>g (RN i);show P _ v.2;grind
   ·refine⟨⟨?_,?_,?_⟩,?_⟩<;>(try dsimp only)<;>rw[Ip Y];·omega
    ·omega
    ·rw[show(a.1+1).toNat=a.1.toNat+1by omega];exact o
    ·omega
  ·have h:¬a.1<b.length:=λi=>h (RN i);show P _ a.2;rw[<-show a.1.toNat=b.length by omega];exact r
theorem Zsh{f}{h:ZI}(a:Us f):W (Go.Sl.M.sG f h) λr=>r.length=2:=by refine M9.2 (M9.2 ((aU a Zb (λ_ _=>True) trivial λb d c _ _ _=>?_).mono λe _=>J (IQ.2 ⟨λ_=>J rfl,λb=>absurd (by rcases a with rfl|rfl|rfl|rfl<;>decide) b⟩)));exact M9.2 (Q4 (ZbY a) (J trivial))
theorem uR{f}{h}(b:Us f):W (OO f h) λl=>l.length=f.2.1/\∀d∈l,0<=d/\d<=SA f:=by
 refine IQ.2 ⟨λ_=>M9.2 ((Zsh b).mono λn e=>IQ.2 ⟨λ_=>M9.2 (M9.2 ((aU b (by simp[e]) (λa(l:List Int)=>(l.length:Int)=min (a:Int) f.2.1/\∀d∈l,0<=d/\d<=SA f) ⟨by rcases b with rfl|rfl|rfl|rfl<;>rfl,Zb⟩ λa o d i j k=>?_).mono λq g=>J (J ⟨?_,g.2⟩))),λa=>(a ⟨Y,by simp[e,AP]⟩).elim⟩),λa=>absurd (by rcases b with rfl|rfl|rfl|rfl<;>decide) a⟩;·refine IQ.2 ⟨λc=>IQ.2 ⟨λ_=>J ⟨Zm,λp m=>Zm⟩,λa=>(a ?_).elim⟩,λc=>J ⟨Zm,i.2⟩⟩;·have c:=IA c;rw[V9];unfold AP;omega
 ·have:=g.1;rw[Yw,e,Gy]at this;rw[this];rcases b with rfl|rfl|rfl|rfl<;>rfl
theorem F6{k}:W (Ti k) λr=>(r.2=true->1<=k/\k<=4/\Us r.1)/\(1<=k->k<=4->r.2=true):=by refine Yu (λb=>b=true↔¬(1<=k/\k<=4)) (λa=>J<|Zm) (λa=>J<|Zm) λb g=>Zp ⟨λa=>J ⟨Zb,Zm⟩,λa=>Zj (Ax.2 ⟨Zm,λh c=>J ?_⟩)⟩;·have f:¬¬(1<=k/\k<=4):=λd=>Zm;refine⟨λ_=>⟨Y,Y,?_⟩,λ_ _=>rfl⟩;have:k=1\/k=2\/k=3\/k=4:=Y;rcases this with e|e|e|e<;>subst e<;>cases c<;>first|exact .inl rfl|exact .inr (.inl rfl)|exact .inr (.inr (.inl rfl))|exact .inr (.inr (.inr rfl))
theorem Zch(x):∀(k)(a),List.foldl (λ(x:BitVec 64)b=>x<<<8|||b.setWidth 64) a (Y6 x k)=a<<<(8*k)|||(x.setWidth (8*k)).setWidth 64|0,a=>by show a=_;grind|k+1,a=>by show List.foldl _ _ (Y6 x k)=_;rw[Zch x k];grind
theorem rN(x)(k):Tl (Y6 x k)=(x.setWidth (8*k)).setWidth 64:=by unfold Tl;rw[Zch];grind
theorem KX(l m){n:Int}(h:n=l.length):tk (l++m,false) n=((m,false),l):=by subst h;rw[Lw rfl Zb Zm];simp
def w4(x:BitVec 32):Zt:=Y6 (x.setWidth 64) 4
theorem WW(x):(w4 x).length=4:=WY _ _
theorem Lu(x)(l):Tz (w4 x++l,false)=some ((l,false),x):=by
 rw[RC,KX _ _ (by rfl)];have:pk (w4 x++l,false) 4=(Tl (w4 x),true):=by unfold pk;rw[Yg (by simp[WW]),MT (by rw[WW];omega),VT (by rw[WW];omega)]
 rw[this];unfold w4;rw[rN];simp_all
noncomputable def CN(id:Ts)(q:BitVec 32)(s:ZI)(m n:Nat):List ZI:=(List.range n).map λa:Nat=>cn id q a 0 m (S id q a s)
theorem Zfm{α:Type}(g)(z:α){i n}(h:i<n):((List.range i).map g++List.replicate (n-i) z).set i (g i)=(List.range (i+1)).map g++List.replicate (n-(i+1)) z:=by rw[List.set_append_right _ _ Zb,Jj,List.length_range,Nat.sub_self,show n-i=n-(i+1)+1by omega,List.replicate_succ,nw,Vg,Z5];rfl
theorem Us.n{f}(h:Us f):34<=f.2.1/\f.2.1<=265:=by rcases h with rfl|rfl|rfl|rfl<;>decide
theorem Us.m{f}(h:Us f):SA f<=255:=by rcases h with rfl|rfl|rfl|rfl<;>decide
theorem Zg5{t}{id}{q}{s}{f}(g:Ti t=some (f,true))(c:Us f):su t id q s=some (F id q (CN id q s (SA f) f.2.1.toNat),0):=by
 unfold su;rw[be g];have l:=c.n;have k:=c.m;refine Vo (Zp ⟨λb=>(by cases b),λ_=>M8.2 ⟨Zw,Zj (W.UQ (λa=>0<=a.1/\a.1<=f.2.1/\a.2=(List.range a.1.toNat).map (λi:Nat=>cn id q i 0 (SA f) (S id q i s))++List.replicate (f.2.1.toNat-a.1.toNat) (Zn 32 0#8)) (λa=>a.2=CN id q s (SA f) f.2.1.toNat) (λa=>(f.2.1-a.1).toNat) Zm Zw (λa d=>?_) λa d=>?_)⟩⟩)
 ·obtain⟨h,j,e⟩:=d;refine Zp ⟨λb=>Zj (Q4 mH (Zj (Q4 (ZbZ c) (Zj (Q4 (by have:=aI (id:=id) (q:=q) (i:=a.1) (x:=S id q a.1 s) (VD (SA f)) Y;exact this) (Xo ⟨Zm,J ?_⟩)))))),λb=>J ?_⟩;·simp only[Wx,E9]at b;rw[show Zk (Zu a.1 1)=a.1+1by simp only[Wx];exact ZK Y];refine⟨⟨Zw,Zw,?_⟩,Zw⟩;dsimp only;rw[e,show(a.1+1).toNat=a.1.toNat+1by omega,<-Zfm _ _ Y];grind
  ·simp only[Wx,E9]at b;show a.2=_;rw[e,show f.2.1.toNat-a.1.toNat=0 by omega,show a.1.toNat=f.2.1.toNat by omega,dU,Xp];rfl
 ·rw[d];exact Zj (Q4 (c9 (by unfold CN;rw[Jj,List.length_range];omega)) (J rfl))
noncomputable def T6(id:Ts)(q:BitVec 32)(s:ZI):Nat->List Int->Zt|_,[]=>[]|i,d::l=>tl (cn id q i 0 d.toNat (S id q i s))++T6 id q s (i+1) l
theorem EE(id)(q)(s):∀(i)(l),(T6 id q s i l).length=32*l.length|_,[]=>rfl|i,d::l=>by unfold T6;rw[Yw,To,EE _ q s _ l,WA];omega
theorem ZcS(l m):put (l,false) m=(l++m,false):=rfl
theorem OW{l}{x}(h:l.length<=4000000000):SU (l,false) x=some (l++w4 x,false):=DE Zm
theorem Gp{l b}(h:l.length+b.length<=4000000000):Tp (l,false) b=some (l++b,false):=An Zm
theorem xW{l}{h:ZI}(a:l.length<=3000000000):Tp (l,false) (Xc 0 (YC 32 (Xw h)))=some (l++tl h,false):=Gp Zm
theorem aG{id}{q}{i}{x}{a b}(c:0<=a)(h1:a<=b)(h2:b<=1000):Cw id q i x a b=some (cn id q i a.toNat (b-a).toNat x):=by obtain⟨a,rfl⟩:=Qo c;obtain⟨b,rfl⟩:=Qo (show 0<=b by omega);rw[aI Y Y,Vz,show((b:Int)-a).toNat=b-a by simp]
theorem Iq{l}(h:l.length<=4000000000):QR (l,false)=some (l,0):=GL Zm
def Rn(t:Int)(r:ZI)(b:Zt):Zt:=w4 (Z6 32 t)++(tl r++b)
theorem Zhk{t}{id}{q}{s}{m}{f}(A:Ti t=some (f,true))(g:Us f)(C:m.length<=1000000):∃l,OO f (U id q 33153 [tl (S id q 65533 s),m])=some l/\l.length=f.2.1/\(∀d∈l,0<=d/\d<=SA f)/\sA t id q s m=some (Rn t (S id q 65533 s) (T6 id q s 0 l),0):=by
 obtain⟨l,n,x,u⟩:=uR (h:=U id q 33153 [tl (S id q 65533 s),m]) g;refine⟨l,n,x,u,?_⟩;have E:=g.n;have D:=g.m;have F:=To (S id q 65533 s);unfold sA;rw[be A];refine Vo (Zp ⟨λb=>(by cases b),λ_=>?_⟩);rw[be mH,be (OW Zb)];refine Ul ⟨YP,?_⟩;rw[be (xW (by have:=WW (Z6 32 t);simp only[UW];omega))];refine Ul ⟨YP,?_⟩;rw[be (vJ Zb (by simp[To];omega)),be n,UW];generalize S id q 65533 s=r at*;have B:=WW (Z6 32 t);have G:=EE id q s 0 l;refine Zj (W.UQ (λa=>0<=a.1/\a.1<=l.length/\a.2.2=false/\a.2.1.length=36+32*a.1.toNat/\a.2.1++T6 id q s a.1.toNat (l.drop a.1.toNat)=Rn t r (T6 id q s 0 l)) (λa=>a.2=(Rn t r (T6 id q s 0 l),false)) (λa=>(l.length-a.1).toNat) ?_ Zw (λa j=>?_) λa j=>?_);·refine⟨Zb,Zw,rfl,Zm,?_⟩;·show w4 _++tl r++_=_;unfold Rn;rw[Z5];rfl
 ·obtain⟨k,⟨c,H⟩⟩:=a;obtain⟨o,v,p,w,e⟩:=j;dsimp only at o v p w e;subst p;refine Zp ⟨λb=>?_,λb=>J ?_⟩
  ·simp only[Wx]at b;refine Zj (YF ⟨⟨o,b⟩,λd y=>?_⟩);have z:=u d (X6 y);rw[be mH];dsimp only;rw[be (aG Y z.1 Y),Int.sub_zero];refine Ul ⟨YP,?_⟩;rw[be (xW Y)];refine J ⟨⟨?_,?_,rfl,?_,?_⟩,?_⟩;all_goals rw[show Zk (Zu k 1)=k+1by simp only[Wx];exact ZK Y]
   ·dsimp only;omega
   ·dsimp only;omega
   ·grind
   ·rw[<-e,O0 (i:=k.toNat) Y];show c++tl _++_=c++(tl _++_);grind
   ·dsimp only;omega
  ·simp only[Wx]at b;show(c,false)=_;rw[<-e,Re Y];show _=(c++[],false);rw[Xp]
 ·rw[j,be (Iq (by unfold Rn;simp only[Yw];omega))];exact J rfl
theorem ZfI{l}{Q:ZI->Prop}(h:l.length=32)(a:∀x,tl x=l->Q x):W (MD 32 l) Q:=by refine Aw.2 ⟨Y,a _ ?_⟩;unfold Bi;grind
theorem ZfH{a b}(h:tl a=tl b):a=b:=by rw[ZfG,ZfG]at h;exact nH h
theorem mJ{t}:W (zP t) λn=>∀f,Ti t=some (f,true)->Us f->n=36+32*f.2.1:=by refine Zj (F6.self.mono λe d=>Zp ⟨λb=>J λf a=>Zm,λb=>J λf a c=>?_⟩);·rw[d.1]at a;cases a;have:=c.n;rw[show Zk (Zu 1 _)=1+f.2.1by simp[Wx];exact ZK Y,show Zk (Vq _ _)=32*(1+f.2.1)by simp[Wx];exact ZK Y];simp[Wx];rw[ZK Y];omega
theorem ZrV(id)(q)(s){l:List Int}{i}{d}(h:l[i]?=some d):T6 id q s i (l.drop i)=tl (cn id q i 0 d.toNat (S id q i s))++T6 id q s (i+1) (l.drop (i+1)):=by have⟨a,b⟩:=Wm h;rw[O0 a,b];rfl
theorem Zg8{id}{q}{m b}(hm:m.length<=1000000)(hb:b.length<=1000000)(t)(r s)(l)(f)(ht:Ti t=some (f,true))(I:Us f)(hl:OO f (U id q 33153 [tl r,m])=some l):W (sy id q m b) λo=>b=Rn t r (T6 id q s 0 l)->o=(F id q (CN id q s (SA f) f.2.1.toNat),true):=by
 have x5:1<=t/\t<=4:=by obtain⟨c,a,h,-⟩:=F6 (k:=t);rw[ht]at a;cases a;exact⟨(h rfl).1,(h rfl).2.1⟩
 obtain⟨l',O,x6,x7⟩:=uR (h:=U id q 33153 [tl r,m]) I;rw[hl]at O;cases O;unfold sy;rw[be (QN Y)];have hn:=I.n;have x9:=I.m;have xk:=EE id q s 0 l;generalize T:(b=Rn t r (T6 id q s 0 l))=C;refine W.ZV (λo=>o.1=(tk (b,false) 4).1/\(C->o.2=Z6 32 t)) (Q4 RC ⟨rfl,?_⟩) λo ho=>?_;·intro a;rw[<-T]at a;subst a;have:=Lu (Z6 32 t) (tl r++T6 id q s 0 l);rw[RC]at this;exact X7 (·.2) (XD this)
 have hk:C->Ze (Z4 o.2)=t:=λa=>by rw[ho.2 a];show((BitVec.ofInt 32 t).toNat:Int)=t;obtain⟨k,rfl⟩:=Qo (show 0<=t by omega);rw[LB,Gw,LH Y]
 generalize Ze (Z4 o.2)=k at hk;refine Zj (F6.self.mono λc G=>?_);have H:C->b.drop 4=tl r++T6 id q s 0 l/\(b.length:Int)=36+32*f.2.1:=λa=>by rw[<-T]at a;subst a;have R:=WW (Z6 32 t);have hr:=To r;unfold Rn;refine⟨by rw[OZ Y,Re Y,UW],?_⟩;rw[Yw,Yw];omega
 have K:C->c=(f,true):=λa=>by have:=G.1;rw[hk a,ht]at this;exact(XD this).symm
 refine Yu (λx=>(x=false->c.2=true/\Us c.1/\(b.length:Int)=36+32*c.1.2.1)/\(C->x=false)) (λe=>J ⟨Zb,λa=>?_⟩) (λe=>Zj (mJ.mono λxs v=>J ?_)) λx V=>Zp ⟨λe=>J λa=>?_,λe=>?_⟩;·rw[K a]at e;cases e
 ·have e:c.2=true:=by simpa only[Wx]using e
  have x0:=(G.2.1 e).2.2;have v:=v c.1 (by rw[G.1,<-e]) x0;refine⟨λa=>⟨e,x0,by simp only[Wx]at a;omega⟩,λa=>?_⟩;·have D:=(H a).2;rw[K a]at v;simp only[Wx];dsimp only at v;omega
 ·rw[V.2 a]at e;cases e
 obtain⟨c,a2⟩:=c;obtain⟨rfl,j,R⟩:=V.1 e;change Us c at j;have x2:=j.n;dsimp only at R x2;rw[ho.1,Lw rfl Y (by show(4:Int)<=b.length;omega),be Rm,Lw rfl Y (by show(32:Int)<=(List.drop 4 b).length;rw[Wn];omega)];refine M8.2 ⟨Zw,?_⟩;have h5:(List.take 32 (List.drop 4 b)).length=32:=by rw[UF,Wn];omega
 rw[be (vJ Zb WI)];refine Zj ((uR j).self.mono λN u=>?_);have p:C->c=f/\N=l/\List.drop 36 b=T6 id q s 0 l:=λa=>by
  have D:=X7 Prod.fst (K a);dsimp only at D;subst D;have E:=u.1;have h8:List.take 32 (List.drop 4 b)=tl r:=by rw[(H a).1,MT (by rw[To];omega),VT (by rw[To];omega)]
  have h9:List.drop 36 b=T6 id q s 0 l:=by rw[show 36=4+32from rfl,<-UV,(H a).1,OZ (by rw[To];omega),Re (by rw[To];omega),UW]
  refine⟨rfl,?_,h9⟩;change OO c (U id q 33153 [List.take 32 (List.drop 4 b),m])=some N at E;rw[h8,hl]at E;exact(XD E).symm
 refine Zj (W.UQ (λd=>0<=d.1/\d.1<=c.2.1/\d.2.1.2=false/\(d.2.1.1.length:Int)=32*(c.2.1-d.1)/\d.2.2.length=c.2.1.toNat/\(C->d.2.1.1=T6 id q s d.1.toNat (l.drop d.1.toNat)/\d.2.2=(List.range d.1.toNat).map (λx1:Nat=>cn id q x1 0 (SA f) (S id q x1 s))++List.replicate (f.2.1.toNat-d.1.toNat) (Zn 32 0#8))) (λd=>d.2.2.length=c.2.1.toNat/\(C->d.2.2=CN id q s (SA f) f.2.1.toNat)) (λd=>(c.2.1-d.1).toNat) ?_ Zw (λd M=>?_) λd M=>?_)
 ·refine⟨Zb,Zw,rfl,?_,by simp[SQ,Yf],λa=>⟨?_,by rw[<-(p a).1];rfl⟩⟩;·show((List.drop 32 (List.drop 4 b)).length:Int)=_;rw[Wn,Wn];dsimp only;omega
  ·show List.drop 32 (List.drop 4 b)=_;rw[UV,show 4+32=36from rfl,(p a).2.2];rfl
 ·obtain⟨g,⟨w,u4⟩,u3⟩:=d;obtain⟨P,g2,Q,g4,A,B⟩:=M;dsimp only at P g2 Q g4 A B;subst Q;refine Zp ⟨λe=>?_,λe=>J ⟨A,λa=>?_⟩⟩
  ·simp only[Wx]at e;refine Zj (YF ⟨⟨P,e⟩,λi Z=>?_⟩);have X:=u.2.2 i (X6 Z);have x3:=u.2.1;have x8:=j.m;dsimp only;rw[be Rm,Lw rfl Y (by show(32:Int)<=w.length;omega)];refine Zj (ZfI (by show(List.take 32 w).length=32;rw[UF];omega) λx4 hx=>?_);rw[be (ZbZ j),be (aG X.1 X.2 Y)];refine Xo ⟨by simp only[Wx];omega,J ⟨⟨?_,?_,rfl,?_,?_,λa=>?_⟩,?_⟩⟩;all_goals rw[show Zk (Zu g 1)=g+1by simp only[Wx];exact ZK Y]
   ·dsimp only;omega
   ·dsimp only;omega
   ·show((List.drop 32 w).length:Int)=_;rw[Wn];dsimp only;omega
   ·show(List.set _ _ _).length=_;rw[Ol];exact A
   ·obtain⟨y,e2,e3⟩:=p a;obtain⟨n,z⟩:=B a;subst y e2;rw[ZrV id q s Z]at n;have e6:tl x4=tl (cn id q g.toNat 0 i.toNat (S id q g.toNat s)):=by rw[hx,n];show List.take 32 _=_;rw[MT (by rw[To];omega),VT (by rw[To];omega)]
    refine⟨?_,?_⟩;·show List.drop 32 w=_;rw[n,OZ (by rw[To];omega),Re (by rw[To];omega),UW,show(g+1).toNat=g.toNat+1by omega]
    ·show List.set u3 g.toNat _=_;rw[z,ZfH e6,show(g+1).toNat=g.toNat+1by omega,<-Zfm _ _ Y];congr 1;have:=aK id q g i.toNat 0 (SA c-i.toNat) (S id q g s);rw[show((g.toNat:Nat):Int)=g by omega,show((SA c:Int)-i).toNat=SA c-i.toNat by omega];rwa[TN,show i.toNat+(SA c-i.toNat)=SA c by omega]at this
   ·dsimp only;omega
  ·have x3:=u.2.1;simp only[Wx]at e;obtain⟨n,z⟩:=B a;obtain⟨y,-,-⟩:=p a;show u3=_;rw[z,y.symm,show c.2.1.toNat-g.toNat=0 by omega,show g.toNat=c.2.1.toNat by omega,dU,Xp];rfl
 ·rw[be (c9 Y)];exact J λa=>by rw[M.2 a]
theorem Zb9{id}{r d}{ps}(m:ps.length<=1000)(g:∀p∈ps,p.length<=1000000):W (zW id r d ps) λ_=>True:=by
 unfold zW;refine Ul ⟨YP,?_⟩;have i:(Xc 0 (YC 16 (Xw id))).length<=16:=Zb;rw[be (Gp (by simp only[Vf];omega)),be (OW (by simp only[UW];omega))];have l:=WW (Z6 32 r);refine W.ZV (λc=>c.1.length<=30) (Q4 (bT Zm) ?_) λc n=>?_;·have:=CZ (W2 ([]++Xc 0 (YC 16 (Xw id))++w4 (Z6 32 r),false) d 65535) (Y6 (BitVec.ofInt 64 d) 2);rw[E0,WY]at this;grind
 ·refine Zj (W.lp (λa=>0<=a.1/\a.1<=ps.length/\a.2.1.length<=30+a.1.toNat*1000000) (λa=>(ps.length-a.1).toNat) Zm Zw (λa b=>?_) λa b=>?_);·refine Zp ⟨λf=>?_,λ_=>J b⟩;simp only[Wx]at f;refine Zj (YF ⟨Y,λe h=>?_⟩);have j:=g e (X6 h);rw[be (An Y)];have k:=CZ a.2 e;refine J ?_;rw[show Zk (Zu a.1 1)=a.1+1by simp only[Wx];exact ZK Y];exact⟨Zm,Zw⟩
  ·rw[be (GL Y)];refine Zj ((M7 ?_).mono λ_ _=>J trivial);grind
noncomputable def LF(id:Ts)(r:Int)(x:ZI):ZI:=(zV id r x).getD (Zn 32 0#8)
noncomputable def IN(id:Ts)(r:Int)(x y:ZI):ZI:=(zU id r x y).getD (Zn 32 0#8)
theorem bw{id}{r}{x}:zV id r x=some (LF id r x):=by refine Au (Q:=λ_=>True) (Ul ⟨Zb,Zj ((Zb9 Zb Zb).mono λ_ _=>J trivial)⟩)
theorem bp{id}{r}{x y}:zU id r x y=some (IN id r x y):=by refine Au (Q:=λ_=>True) (Ul ⟨Zb,Ul ⟨Zb,Zj ((Zb9 Zb Zb).mono λ_ _=>J trivial)⟩⟩)
theorem ZlU{k}:W (Ti k) λr=>r.2=false->r.1=(0,0,0):=by exact Yu (λb=>b=true↔¬(1<=k/\k<=4)) (λa=>J Zm) (λa=>J Zm) λb d=>Zp ⟨λa=>J λ_=>rfl,λa=>Zj (Ax.2 ⟨Zm,λf e=>J λc=>Zm⟩)⟩
theorem jA{h t}:W (CA h t) λb=>b=true↔(1<=h/\h<=4)/\∃f,Ti t=some (f,true)/\Us f:=by
 refine Yu (λc=>c=true↔1<=h/\h<=4) (λa=>J<|Zm) (λa=>J<|Zm) λc e=>Yu _ (λa=>?_) (λa=>J<|Zm) λn g=>J g
 ·refine Zj (Zj (F6.self.mono λl j=>J<|J ⟨λd=>⟨e.1 a,?_⟩,λ⟨_,f,d,i⟩=>?_⟩))
  ·by_cases p:l.2=true;·grind
   ·obtain⟨m,o,q⟩:=ZlU (k:=t);grind
  ·rw[j.1]at d;have:=i.n;grind
def nd(T:List ZI)(i:Nat):ZI:=T.getD i (Zn 32 0#8)
theorem yi{T}{i}{x}(h:i<T.length)(j):nd (T.set i x) j=if j=i then x else nd T j:=by
 unfold nd;by_cases a:j=i;·simp_all
 ·simp[a,Iy a]
theorem rE{T}{i}{x}(h:T[i]?=some x):x=nd T i:=by unfold nd;simp_all
noncomputable def PB(id:Ts)(s:ZI)(f:Nh)(q:Nat):ZI:=F id (Z6 32 (q:Int)) (CN id (Z6 32 (q:Int)) s (SA f) f.2.1.toNat)
def TI(h:Nat)(f:Nh)(id:Ts)(s:ZI)(T:List ZI):Prop:=T.length=2*2^h/\(∀b:Nat,b<2^h->nd T (2^h+b)=LF id ((2^h+b:Nat):Int) (PB id s f b))/\∀a:Nat,1<=a->a<2^h->nd T a=IN id (a:Int) (nd T (2*a)) (nd T (2*a+1))
theorem EN{h}(h1:1<=h)(a:h<=4):2<=2^h/\2^h<=16:=by have:h=1\/h=2\/h=3\/h=4:=Y;rcases this with e|e|e|e<;>subst e<;>decide
theorem Zll{h:Nat}{t}{f}(h1:1<=h)(g:h<=4)(d:Ti t=some (f,true))(c:Us f):CA h t=some true:=by obtain⟨e,a,b⟩:=jA;rw[a,b.2 ⟨Y,f,d,c⟩]
theorem Zsl{h:Nat}{t}{f}{id}{s}(h1:1<=h)(u:h<=4)(y:Ti t=some (f,true))(x:Us f):W (FR h t id s) λo=>o.2=0/\∃T,o.1=some ((h:Int),t,id,s,T)/\TI h f id s T:=by
 unfold FR;rw[be (Zll h1 u y x),HX (show h<=40by omega)];have O:=EN h1 u;generalize w:2^h=N at*;rw[show Zk (Vq 2 (N:Int))=2*N by simp only[Wx];exact ZK Y];refine Zp ⟨λd=>(by cases d),λ_=>Sp ⟨Y,M8.2 ⟨Y,Wo (W.Vy (λb=>0<=b.1/\b.1<=N/\∃T,b.2=((h:Int),t,id,s,T)/\T.length=2*N/\∀a:Nat,(a:Int)<b.1->nd T (N+a)=LF id ((N+a:Nat):Int) (PB id s f a)) (λb=>∃T,b.2=((h:Int),t,id,s,T)/\T.length=2*N/\∀a:Nat,a<N->nd T (N+a)=LF id ((N+a:Nat):Int) (PB id s f a)) (λb=>(N-b.1).toNat) (λ_=>False) ⟨Zb,Zw,_,rfl,by simp only[SQ,Yf,E9];omega,λa k=>by dsimp only at k;omega⟩ Zw (λb n=>?_) (λb n=>?_) λ_ i=>i.elim)⟩⟩⟩
 ·obtain⟨K,M,T,i,l,m⟩:=n;refine Zp ⟨λd=>?_,λd=>J ⟨T,i,l,λa k=>m a (by simp only[Wx]at d;omega)⟩⟩
  ·simp only[Wx]at d;rw[be (Zg5 y x),show Zk (Zu (N:Int) b.1)=((N+b.1.toNat:Nat):Int)by simp only[Wx];rw[ZK Y];omega];refine Zp ⟨λd=>by simp only[Wx]at d,λ_=>?_⟩;rw[be bw];refine Xo ⟨by rw[i];simp only[Wx];omega,J ?_⟩;rw[show Zk (Zu b.1 1)=b.1+1by simp only[Wx];exact ZK Y,i];refine⟨⟨Zw,Zw,_,rfl,by simp only[Y3,Ol];exact l,λa k=>?_⟩,Zw⟩
   ·show nd (List.set T (N+b.1.toNat) _) _=_;rw[yi Y];dsimp only at k;by_cases j:a=b.1.toNat;·subst j;rw[YW rfl,show b.1=((b.1.toNat:Nat):Int)by omega];unfold PB;rfl
    ·rw[Yg Y];exact m a Y
 ·obtain⟨T,i,l,m⟩:=n;refine Zj (W.UQ (λv=>0<=v.1/\v.1<N/\∃T,v.2=((h:Int),t,id,s,T)/\T.length=2*N/\(∀a:Nat,a<N->nd T (N+a)=LF id ((N+a:Nat):Int) (PB id s f a))/\∀c:Nat,v.1<c->c<N->nd T c=IN id (c:Int) (nd T (2*c)) (nd T (2*c+1))) (λv=>∃T,v.2=((h:Int),t,id,s,T)/\TI h f id s T) (λv=>v.1.toNat) ?_ ?_ (λv p=>?_) λv p=>J ?_);·rw[show Zk (ZU (N:Int) 1)=N-1by simp only[Wx];exact ZK Y];exact⟨Zw,Zw,T,i,l,m,λc E=>by dsimp only at E;omega⟩
  ·rw[show Zk (ZU (N:Int) 1)=N-1by simp only[Wx];exact ZK Y];dsimp only;omega
  ·obtain⟨P,Q⟩:=v;obtain⟨B,I,g,j,C,D,q⟩:=p;dsimp only at B I q j;subst j;obtain⟨e,rfl⟩:=Qo B;refine Zp ⟨λd=>?_,λd=>J ⟨g,rfl,by rw[w];exact C,by rw[w];exact D,λc z A=>q c (by simp only[Wx]at d;omega) Y⟩⟩
   ·simp only[Wx]at d;dsimp only;rw[show Zk (Vq 2 (e:Int))=((2*e:Nat):Int)by simp only[Wx];rw[ZK Y];omega,show Zk (Zu ((2*e:Nat):Int) 1)=((2*e+1:Nat):Int)by simp only[Wx];rw[ZK Y];omega];refine Xo ⟨by simp only[Wx];omega,Zj (YF ⟨Y,λR F=>Xo ⟨by simp only[Wx];omega,Zj (YF ⟨Y,λS G=>?_⟩)⟩⟩)⟩;rw[be bp];refine Xo ⟨by simp only[Wx];omega,J ?_⟩;rw[show Zk (ZU (e:Int) 1)=e-1by simp only[Wx];exact ZK Y,rE F,rE G];refine⟨⟨Zw,Zw,_,rfl,by simp only[Y3,Ol];exact C,λa k=>?_,λc z A=>?_⟩,Zw⟩;·show nd (List.set g e _) _=_;rw[yi Y,Yg Y];exact D a k
    ·show nd (List.set g e _) _=IN id _ (nd (List.set g e _) _) (nd (List.set g e _) _);dsimp only at z;rw[yi Y,yi Y,yi Y];by_cases r:c=e;·subst r;rw[YW rfl,Yg Y,Yg Y];rfl
     ·rw[Yg r,Yg Y,Yg Y];exact q c Y A
  ·obtain⟨g,j,H⟩:=p;exact⟨rfl,g,by rw[j],H⟩
def Be(r:Nat):Nat:=if r%2=0then r+1 else r-1
theorem ZsV{r:Nat}(h:r<32):wg r 1=(Be r:Nat):=by rw[Zf9];have:∀r:Fin 32,tZ r.val 1=(Be r.val:Int):=YP;exact this ⟨r,h⟩
noncomputable def pp(T:List ZI):Nat->Nat->List ZI|0,_=>[]|n+1,r=>nd T (Be r)::pp T n (r/2)
def fl(l:List ZI):Zt:=(l.map tl).flatten
theorem tA:∀l,(fl l).length=32*l.length|[]=>rfl|a::l=>by show(tl a++fl l).length=_;rw[Yw,To,tA l,WA];omega
theorem Ef(T):∀n r,(pp T n r).length=n|0,_=>rfl|n+1,r=>by unfold pp;rw[WA,Ef T n]
def PX(h t:Int)(q:Nat)(r:ZI)(b:Zt)(P:List ZI):Zt:=w4 (Z6 32 (q:Int))++(Rn t r b++(w4 (Z6 32 h)++fl P))
theorem mA{h t}{id}{s}{T}(a:0<=h)(h1:h<=4):zS (some (h,t,id,s,T))=some ((2^h.toNat:Nat):Int):=by obtain⟨c,rfl⟩:=Qo a;refine Vo (Zp ⟨Zb,λ_=>bW.2 ⟨Zb,λd b=>?_⟩⟩);cases b;exact Sp ⟨a,J (HX Y)⟩
theorem ko{α β}{a:β}{n:Option α}{s}:Yq (some a) n s=s a:=by rw[KJ]
theorem ZfD{h}{t}{f}{id}{s}{T}{q:Nat}{m}(h1:1<=h)(y:h<=4)(F:Ti t=some (f,true))(p:Us f)(C:TI h f id s T)(N:q<2^h)(E:m.length<=1000000):∃l r,OO f (U id (Z6 32 q) 33153 [tl r,m])=some l/\l.length=f.2.1/\zT (some (h,t,id,s,T)) q m=some (PX h t q r (T6 id (Z6 32 q) s 0 l) (pp T h (2^h+q)),0):=by
 obtain⟨l,x,z,K,A⟩:=Zhk (id:=id) (q:=Z6 32 (q:Int)) (s:=s) F p E;refine⟨l,_,x,z,?_⟩;have I:=EN h1 y;have M:=p.n;unfold zT;refine Vo (Zp ⟨λa=>(by cases a),λ_=>Yu (λk=>k=false) (λa=>?_) (λa=>?_) λk D=>?_⟩);·simp only[Wx]at a;omega
 ·rw[be (mA Y Y)];refine J ?_;simp only[Wx,Vz];omega
 subst D;refine Zp ⟨λa=>(by cases a),λ_=>?_⟩;rw[ko,ko,ko,be A];refine Zp ⟨λa=>by simp only[Wx]at a,λ_=>?_⟩;have O:=EE id (Z6 32 (q:Int)) s 0 l;generalize o:Rn t _ _=d;have Q:d.length<=10000:=by rw[<-o];unfold Rn;rw[Yw,Yw,WW,To];omega
 have R:=WW (Z6 32 (q:Int));have S:=WW (Z6 32 (h:Int));rw[be (OW Zb),be (Gp (by simp only[UW];omega)),ko,be (OW (by simp only[UW,Yw];omega)),be (mA Y Y),Vz,show Zk (Zu ((2^h:Nat):Int) (q:Int))=((2^h+q:Nat):Int)by simp only[Wx];rw[ZK Y];omega];refine Zj (W.UQ (λb=>∃n r:Nat,n<=h/\b.1=r/\2^n<=r/\r<2*2^n/\b.2.2=false/\b.2.1.length=8+d.length+32*(h-n)/\b.2.1++fl (pp T n r)=w4 (Z6 32 (q:Int))++(d++(w4 (Z6 32 (h:Int))++fl (pp T h (2^h+q))))) (λb=>b.2=(w4 (Z6 32 (q:Int))++(d++(w4 (Z6 32 (h:Int))++fl (pp T h (2^h+q)))),false)) (λb=>b.1.toNat) Zm Zw (λb e=>?_) λb e=>?_)
 ·obtain⟨V,⟨c,X⟩⟩:=b;obtain⟨n,r,G,v,g,i,w,H,j⟩:=e;dsimp only at v w H j;subst v w;have B:2^n<=2^h:=Ix Y G;refine Zp ⟨λa=>?_,λa=>J ?_⟩;·simp only[Wx]at a;cases n with|zero=>simp at i;omega|succ n=>
    dsimp only;rw[ko,ZsV Y];have P:Be r<T.length:=by rw[C.1];unfold Be;rw[Df]at g i B;split<;>omega
    refine Zj (YF ⟨Zw,λZ u=>Ul ⟨YP,?_⟩⟩);rw[be (xW Y)];refine L2.2 ⟨YP,J ?_⟩;rw[Vz]at u;rw[rE u,show Zk (TX (r:Int) 2)=((r/2:Nat):Int)by rw[JK Y,ZK Y];omega];rw[Df]at g i;refine⟨⟨n,r/2,Y,rfl,Y,Y,rfl,?_,?_⟩,Zw⟩;·show(c++tl _).length=_;rw[Yw,To];omega
    ·rw[<-j];show c++tl _++fl _=c++(tl _++fl _);rw[Z5]
  ·simp only[Wx]at a;have:n=0:=by cases n with|zero=>rfl|succ n=>rw[Df]at g;have:=Nat.one_le_two_pow (n:=n);omega
   subst this;show(c,false)=_;rw[<-j];show _=(c++[],false);rw[Xp]
 ·rw[e,be (Iq ?_)];·refine J ?_;unfold PX;rw[<-o]
  ·have:=tA (pp T h (2^h+q));rw[Ef]at this;simp only[Yw];omega
theorem Ziy{id}{r:Nat}{x}{l}(R:l.length<=1000)(O:r<1000000)(h n)(f)(s)(T):W (sJ id r x l) λy=>TI h f id s T->n<=h->2^n<=r->r<2*2^n->l=pp T n r->x=nd T r->y=nd T 1:=by
 unfold sJ;refine Zj (W.UQ (λc=>∃a:Nat,c.1=a/\a<1000000/\0<=c.2.1/\c.2.1<=l.length/\(TI h f id s T->n<=h->2^n<=r->r<2*2^n->l=pp T n r->x=nd T r->∃b,b<=n/\2^b<=a/\a<2*2^b/\l.drop c.2.1.toNat=pp T b a/\c.2.2=nd T a)) (λc=>TI h f id s T->n<=h->2^n<=r->r<2*2^n->l=pp T n r->x=nd T r->c.2.2=nd T 1) (λc=>(l.length-c.2.1).toNat) ⟨r,rfl,O,Zb,Zw,λ_ _ E F H K=>⟨n,YG _,E,F,H,K⟩⟩ Zw (λc u=>?_) λc u=>J u)
 ·obtain⟨V,g,w⟩:=c;obtain⟨a,d,U,P,Q,v⟩:=u;dsimp only at d P Q v;subst d;refine Zp ⟨λt=>?_,λt=>J λi j k m o p=>?_⟩
  ·simp only[Wx]at t;refine Zj (YF ⟨Zw,λy C=>L2.2 ⟨YP,?_⟩⟩);dsimp only at C⊢;rw[ye Y,JK Y,show Zk ((a:Int)/2)=((a/2:Nat):Int)by rw[ZK Y];omega];refine Yu (λD=>D=if a%2=1then(y,w)else(w,y)) (λd=>J ?_) (λd=>J ?_) λD N=>L2.2 ⟨YP,?_⟩;·rw[Ri]at d;rw[YW Y]
   ·rw[Ha]at d;rw[Yg Y]
   rw[be bp];refine J ⟨⟨a/2,rfl,Y,?_,?_,λi j k m o p=>?_⟩,?_⟩;all_goals rw[show Zk (Zu g 1)=g+1by simp only[Wx];exact ZK Y]
   ·dsimp only;omega
   ·dsimp only;omega
   ·obtain⟨b,G,z,A,e,q⟩:=v i j k m o p;have M:2^b<=2^h:=Ix Y Y;cases b with|zero=>have:=X7 List.length e;rw[Ef,Wn]at this;omega|succ b=>
     rw[Df]at z A M;have S:=Nat.one_le_two_pow (n:=b);rw[O0 Y]at e;obtain⟨B,I⟩:=List.cons.inj e;refine⟨b,Y,Y,Y,?_,?_⟩;·dsimp only;rw[show(g+1).toNat=g.toNat+1by omega];exact I
     ·dsimp only;rw[show l[g.toNat]'Y=y from(Wm C).2]at B;rw[i.2.2 (a/2) Y Y,N,q,B];unfold Be;by_cases d:a%2=1;·rw[YW d,Yg Y,show 2*(a/2)=a-1by omega,show a-1+1=a by omega]
      ·rw[Yg d,YW Y,show 2*(a/2)=a by omega]
   ·dsimp only;omega
  ·simp only[Wx]at t;obtain⟨b,G,z,A,e,q⟩:=v i j k m o p;have:=X7 List.length e;rw[Ef,Wn]at this;have:b=0:=Y;subst this;show w=_;rw[q,show a=1by omega]
theorem si{h t}:W (zR h t) λn=>1<=h/\h<=4->∀f,Ti t=some (f,true)->Us f->n=44+32*f.2.1+32*h:=by refine Zj (jA.mono λg i=>Zp ⟨λc=>J λd f b a=>Zm,λc=>Zj (mJ.mono λn e=>J λd f b a=>?_)⟩);·have:=e f b a;have:=a.n;rw[show Zk (Zu 8 n)=8+n by simp[Wx];exact ZK Y,show Zk (Vq _ h)=32*h by simp[Wx];exact ZK Y];simp[Wx];rw[ZK Y];omega
theorem HR{b}{Q}(h:4<=b.length)(c:∀v,(∀x l,b=w4 x++l->v=x)->Q ((b.drop 4,false),v)):W (Tz (b,false)) Q:=by rw[RC,Lw rfl Zb Zm];refine J (c _ λx l a=>?_);have:=Lu x l;rw[<-a,RC]at this;exact X7 (·.2) (XD this)
theorem C5{b}{n:Int}{Q}(a:0<=n)(h:n<=b.length)(c:Q ((b.drop n.toNat,false),b.take n.toNat)):W (TK (b,false) n) Q:=by rw[Rm,Lw rfl a h];exact J c
theorem Mf{l m:Zt}{n}(h:l.length=n):(l++m).drop n=m:=Zm
theorem Gi{l m:Zt}{n}(h:l.length=n):(l++m).take n=l:=Zm
theorem xJ{n:Nat}(h:n<4294967296):Ze (Z4 (Z6 32 n))=n:=by grind
theorem EI{n}(a:0<=n)(h:n<4294967296):Ze (Z4 (Z6 32 n))=n:=by obtain⟨b,rfl⟩:=Qo a;exact xJ Y
theorem Zmo{b}{h:Nat}{t}{f}(h1:1<=h)(h4:h<=4)(D:Ti t=some (f,true))(A:Us f)(hb:b.length<=1000000)(q)(r)(b')(P):W (sK b h t) λo=>(o.2=true->(0<=o.1.1/\o.1.1<(2^h:Nat))/\o.1.2.1.length=36+32*f.2.1/\o.1.2.2.length=h)/\(b=PX h t q r b' P->q<2^h->b'.length=32*f.2.1->P.length=h->o=(((q:Int),Rn t r b',P),true)):=by
 have hn:=A.n;have h2:=EN h1 h4;have x7:1<=t/\t<=4:=by obtain⟨x5,a,h,-⟩:=F6 (k:=t);rw[D]at a;cases a;exact⟨(h rfl).1,(h rfl).2.1⟩
 have x1:b=PX h t q r b' P->q<2^h->(b'.length:Int)=32*f.2.1->P.length=h->(b.length:Int)=44+32*f.2.1+32*h:=λa _ x y=>by rw[a];unfold PX Rn;simp only[Yw,WW,To,tA];omega
 unfold sK;refine Zj (si.mono λx8 I=>Zp ⟨λd=>J ⟨λa=>(by cases a),λa x y F=>?_⟩,λd=>?_⟩);·have:=I ⟨Y,Y⟩ f D A;have:=x1 a x y F;simp only[Wx]at d;omega
 have I:=I ⟨Y,Y⟩ f D A;simp only[Wx]at d;have x6:(b.length:Int)=44+32*f.2.1+32*h:=Y;generalize z:(b=PX h t q r b' P/\q<2^h/\(b'.length:Int)=32*f.2.1/\P.length=h)=C;suffices hh:W _ λo:l6×Bool=>(o.2=true->(0<=o.1.1/\o.1.1<((2^h:Nat):Int))/\(o.1.2.1.length:Int)=36+32*f.2.1/\o.1.2.2.length=h)/\(C->o=(((q:Int),Rn t r b',P),true))from hh.mono λo ho=>⟨ho.1,λs x y F=>ho.2 (by rw[<-z];exact⟨s,x,y,F⟩)⟩;rw[be (QN Y)];refine Zj (HR Y λQ x3=>Zj (mJ.mono λz2 K=>?_));have K:=K f D A;subst K;have X:C->b.drop 4=Rn t r b'++(w4 (Z6 32 (h:Int))++fl P)/\Q=Z6 32 (q:Int):=λa=>by rw[<-z]at a;have s:=a.1;unfold PX at s;exact⟨by rw[s,Mf (WW _)],x3 _ _ s⟩
 have G:C->((Rn t r b').length:Int)=36+32*f.2.1/\q<2^h:=λa=>by rw[<-z]at a;refine⟨?_,a.2.1⟩;unfold Rn;rw[Yw,Yw,WW,To];omega
 have U:C->P.length=h:=λa=>by rw[<-z]at a;exact a.2.2.2
 generalize V:(36+32*f.2.1).toNat=i at*;refine Zj (C5 Y (by rw[Wn];omega) (Zj (HR (by simp only[Wn];omega) λv2 u=>?_)));dsimp only;rw[V];rw[V]at u;have B:C->List.take i (List.drop 4 b)=Rn t r b'/\List.drop i (List.drop 4 b)=w4 (Z6 32 (h:Int))++fl P:=λa=>by have:=(G a).1;rw[(X a).1];exact⟨Gi Y,Mf Y⟩
 have u:C->v2=Z6 32 (h:Int)/\List.drop 4 (List.drop i (List.drop 4 b))=fl P:=λa=>⟨u _ _ (B a).2,by rw[(B a).2,Mf (WW _)]⟩;refine Zj (W.UQ (λc=>0<=c.1/\c.1<=h/\c.2.1.1=Ze (Z4 Q)/\c.2.1.2.1=List.take i (List.drop 4 b)/\(c.2.1.2.2.length:Int)=c.1/\c.2.2.2=false/\(c.2.2.1.length:Int)=32*(h-c.1)/\(C->c.2.1.2.2=P.take c.1.toNat/\c.2.2.1=fl (P.drop c.1.toNat))) (λc=>c.2.1.1=Ze (Z4 Q)/\c.2.1.2.1=List.take i (List.drop 4 b)/\c.2.1.2.2.length=h/\c.2.2=([],false)/\(C->c.2.1.2.2=P)) (λc=>(h-c.1).toNat) ?_ Zw (λc H=>?_) λc H=>?_);·refine⟨Zb,Zw,rfl,rfl,rfl,rfl,?_,λa=>⟨rfl,(u a).2⟩⟩;show((List.drop 4 (List.drop i (List.drop 4 b))).length:Int)=_;simp only[Wn];omega
 ·obtain⟨e,⟨N,O,w⟩,⟨g,u6⟩⟩:=c;obtain⟨v,m,n,p,E,k6,k7,M⟩:=H;dsimp only at v m n p E k6 k7 M;subst k6;refine Zp ⟨λd=>?_,λd=>J ⟨n,p,?_,?_,λa=>?_⟩⟩
  ·simp only[Wx]at d;refine Zj (C5 Y Y (Zj (ZfI (by show(List.take 32 g).length=32;rw[UF];omega) λR hx=>Xa ⟨by simp only[Wx,V9];omega,J ?_⟩)));rw[show Zk (Zu e 1)=e+1by simp only[Wx];exact ZK Y];refine⟨⟨Zw,Zw,n,p,?_,rfl,?_,λa=>?_⟩,Zw⟩;·show((w++[R]).length:Int)=_;rw[Yw,V9];dsimp only;omega
   ·show((List.drop 32 g).length:Int)=_;rw[Wn];dsimp only;omega
   ·obtain⟨a1,S⟩:=M a;have hp:=U a;have Z:e.toNat<P.length:=Y;rw[O0 Z]at S;have T:g=tl P[e.toNat]++fl (P.drop (e.toNat+1)):=S;have a4:R=P[e.toNat]:=by apply ZfH;rw[hx,T];exact Gi (To _)
    dsimp only;rw[show(e+1).toNat=e.toNat+1by omega];refine⟨?_,by show List.drop 32 g=_;rw[T];exact Mf (To _)⟩;show w++[R]=_;rw[O2,a1,a4,VB Z];rfl
  ·simp only[Wx]at d;dsimp only;omega
  ·simp only[Wx]at d;show(g,false)=_;rw[MR (l:=g) Y]
  ·simp only[Wx]at d;have hp:=U a;show w=_;rw[(M a).1,VT Y]
 ·obtain⟨e,⟨N,O,w⟩,g⟩:=c;obtain⟨v,m,n,p,E⟩:=H;dsimp only at v m n p E;subst p;rw[be KR];refine Zp ⟨λ_=>?_,λd=>by simp at d⟩;dsimp only;have x0:C->N=q:=λa=>by rw[v,(X a).2,xJ (by have:=(G a).2;omega)]
  refine Zp ⟨λd=>Sp ⟨Y,Zp ⟨λj=>?_,λj=>J ⟨λa=>(by cases a),λa=>?_⟩⟩⟩,λd=>J ⟨λa=>(by cases a),λa=>?_⟩⟩
  ·rw[HX Y]at j;simp only[Wx]at j;have x2:(O.length:Int)=36+32*f.2.1:=by rw[m,UF,Wn];omega
   rw[be (QN Y)];refine Zj (HR Y λv3 x4=>J ⟨λ_=>⟨⟨by rw[v];exact Oi _,j⟩,x2,n⟩,λa=>?_⟩);show((N,O,w),_)=_;rw[x0 a,m,(B a).1,E a,x4 _ (tl r++b') (by rw[m,(B a).1];rfl),EI Y Y];congr 1;simp only[Wx]
  ·rw[HX Y]at j;simp only[Wx]at j;have:=x0 a;have:=(G a).2;omega
  ·rw[(u a).1,xJ Y]at d;simp only[Wx]at d
theorem eG{n}{l:Zt}{Q}(h:l.length=n)(a:∀x:Vector (BitVec 8) n,x.toList=l->Q x):W (MD n l) Q:=by refine Aw.2 ⟨Y,a _ ?_⟩;unfold Bi;grind
theorem tlD(h:ZI):(Xc 0 (YC 32 (Xw h))).length=32:=To h
theorem ZgJ{a b}(k:a.length<=4000000000):W (ee a b) λc=>a=b->c=true:=by
 refine Zp ⟨λe=>J λg=>Zm,λe=>Wo (W.Ku (λd=>0<=d) (λd=>(a.length-d).toNat) _ Zb Y (λd f=>?_) (λd f=>J λ_=>rfl) λc i=>i)⟩
 ·simp[Wx]at e;refine Zp ⟨λh=>?_,λ_=>J f⟩;simp[Wx]at h;refine Zj (YF ⟨Y,λn l=>Zj (YF ⟨Y,λo m=>Zp ⟨λj=>?_,λ_=>J ?_⟩⟩)⟩);·rw[bs];refine J λg=>?_;grind
  ·rw[show Zk _=d+1by simp[Wx];exact ZK Y];exact⟨Y,Zm⟩
def QE(h t:Int)(id:Ts)(x:ZI):Zt:=w4 (Z6 32 h)++(w4 (Z6 32 t)++(id.toList++tl x))
theorem zY{h t}{id}{x}:(QE h t id x).length=56:=by unfold QE;simp[Yw,WW,To,Gy]
theorem sj{WG m p}(hm:m.length<=1000000)(hs:p.length<=1000000)(h)(t)(f)(id)(s)(T)(q:Nat)(r)(l):W (Cz WG m p) λc=>1<=h/\h<=4->Ti t=some (f,true)->Us f->TI h f id s T->q<2^h->OO f (U id (Z6 32 q) 33153 [tl r,m])=some l->l.length=f.2.1->WG=QE h t id (nd T 1)->p=PX h t q r (T6 id (Z6 32 q) s 0 l) (pp T h (2^h+q))->c=true:=by
 generalize g:((1<=h/\h<=4)/\Ti t=some (f,true)/\Us f/\TI h f id s T/\q<2^h/\OO f (U id (Z6 32 (q:Int)) 33153 [tl r,m])=some l/\(l.length:Int)=f.2.1/\WG=QE h t id (nd T 1)/\p=PX h t q r (T6 id (Z6 32 (q:Int)) s 0 l) (pp T h (2^h+q)))=C;suffices hh:W (Cz WG m p) λc=>C->c=true from hh.mono λc H Z a2 a3 a4 a5 a6 a7 a8 a9=>H (g▸⟨Z,a2,a3,a4,a5,a6,a7,a8,a9⟩);unfold Cz;refine Zp ⟨λv=>J λa=>?_,λv=>?_⟩;·rw[<-g]at a;rw[a.2.2.2.2.2.2.2.1,show Ze (Zf (QE h t id (nd T 1)))=56from X7 Int.ofNat zY]at v;simp only[Wx]at v
 simp only[Wx]at v;rw[be (QN Y)];refine Zj (HR Y λA x2=>Zj (HR (by rw[Wn];omega) λO x3=>Zj (C5 Y (by simp only[Wn];omega) (Zj (eG (by simp only[UF,Wn];omega) λN x0=>Zj (C5 Y (by simp only[Wn];omega) (Zj (jA.mono λx6 S=>?_))))))));have G:C->A=Z6 32 (h:Int)/\O=Z6 32 t/\N=id/\List.take 32 (List.drop 16 (List.drop 4 (List.drop 4 WG)))=tl (nd T 1):=λa=>by
  rw[<-g]at a;have d:=a.2.2.2.2.2.2.2.1;unfold QE at d;have b:List.drop 4 WG=w4 (Z6 32 t)++(id.toList++tl (nd T 1)):=by rw[d,Mf (WW _)]
  have e:List.drop 4 (List.drop 4 WG)=id.toList++tl (nd T 1):=by rw[b,Mf (WW _)]
  refine⟨x2 _ _ d,x3 _ _ b,?_,by rw[e,Mf Zb,VT (by rw[To];omega)]⟩;·apply nH;rw[x0];show List.take 16 _=_;rw[e,Gi Zb]
 have j:C->Ze (Z4 A)=h/\Ze (Z4 O)=t:=λa=>by obtain⟨d,b,-⟩:=G a;rw[<-g]at a;obtain⟨x5,P,h9,-⟩:=F6 (k:=t);rw[a.2.1]at P;cases P;have:=h9 rfl;exact⟨by rw[d,xJ (by have:=a.1;omega)],by rw[b,EI Y Y]⟩
 have x1:0<=Ze (Z4 A):=Oi _;generalize Ze (Z4 A)=i at*;generalize Ze (Z4 O)=t' at*;refine Zp ⟨λw=>J λa=>?_,λw=>?_⟩;·obtain⟨d,b⟩:=j a;rw[<-g]at a;rw[S.2 ⟨Y,f,by rw[b];exact a.2.1,a.2.2.1⟩]at w;cases w
 obtain⟨x7,u,z,y⟩:=S.1 (by simpa only[Wx]using w);obtain⟨i,rfl⟩:=Qo x1;have I:C->u=f:=λa=>by have b:=(j a).2;rw[<-g]at a;rw[b,a.2.1]at z;cases z;rfl
 have K:C->i=h:=λa=>by have:=(j a).1;omega
 have hn:=y.n;have h2:=EN (show 1<=i by omega) (show i<=4by omega);refine Zj ((Zmo Y Y z y hs q r (T6 id (Z6 32 (q:Int)) s 0 l) (pp T h (2^h+q))).mono λX M=>Zp ⟨λx=>J λa=>?_,λx=>?_⟩);·have d:=I a;have b:=K a;have e:=(j a).2;rw[<-g]at a;rw[M.2 (by rw[b,e];exact a.2.2.2.2.2.2.2.2) (by rw[b];exact a.2.2.2.2.1) (by rw[EE,d];have:=a.2.2.2.2.2.2.1;omega) (by rw[Ef,b])]at x;cases x
 have Q:C->X.1=((q:Int),Rn t r (T6 id (Z6 32 (q:Int)) s 0 l),pp T h (2^h+q)):=λa=>by have d:=I a;have b:=K a;have e:=(j a).2;rw[<-g]at a;rw[M.2 (by rw[b,e];exact a.2.2.2.2.2.2.2.2) (by rw[b];exact a.2.2.2.2.1) (by rw[EE,d];have:=a.2.2.2.2.2.2.1;omega) (by rw[Ef,b]),e]
 have V:=M.1 (by simpa only[Wx]using x);obtain⟨⟨o1,o2,o3⟩,o4⟩:=X;dsimp only at V Q;obtain⟨⟨k1,k2⟩,k3,k4⟩:=V;obtain⟨o,rfl⟩:=Qo k1;obtain⟨l',E,x8,x9⟩:=uR (h:=U N (Z6 32 (o:Int)) 33153 [tl r,m]) y;refine Zj ((Zg8 hm Zw t' r s l' u z y E).mono λx4 hy=>?_);have R:C->x4=(PB id s f q,true)/\u=f/\i=h/\N=id/\o=q/\o3=pp T h (2^h+q):=λa=>by
  have d:=I a;have b:=K a;have e:=(j a).2;have B:=(G a).2.2.1;have n:=Q a;rw[<-g]at a;have D:o=q:=by have:=X7 Prod.fst n;dsimp only at this;omega
  subst d b e B D;rw[a.2.2.2.2.2.1]at E;cases E;exact⟨hy (X7 (·.2.1) n),rfl,rfl,rfl,rfl,(X7 (·.2.2) n)⟩
 refine Zp ⟨λF=>J λa=>?_,λF=>?_⟩;·rw[(R a).1]at F;cases F
 refine Sp ⟨Y,?_⟩;dsimp only;rw[be bw,HX Y,show Zk (Zu ((2^i:Nat):Int) (o:Int))=((2^i+o:Nat):Int)by simp only[Wx];rw[ZK Y];omega];refine Zj ((Ziy Y Y i i u s T).mono λxk hz=>Ul ⟨YP,Zj ((ZgJ (by rw[tlD];omega)).mono λc H=>J λa=>H ?_)⟩);obtain⟨y1,d,b,e,B,n⟩:=R a;have D:=(G a).2.2.2;rw[<-g]at a;subst d b e B;rw[hz a.2.2.2.1 (YG _) Y Y n (by rw[y1,a.2.2.2.1.2.1 _ a.2.2.2.2.1])];exact D.symm
noncomputable def ch(sd:ZI)(b:Zt):Ts×ZI:=(zC sd b).getD (Zn 16 0#8,Zn 32 0#8)
theorem aH{sd}{b}(e:b.length<=1000):zC sd b=some (ch sd b):=by refine Au (Q:=λ_=>True) (Ul ⟨Zb,Yu (λd=>d.length<=2/\∀a∈d,a.length<=1000) (λ_=>Xa ⟨Zb,J ⟨Zb,λa c=>Zm⟩⟩) (λ_=>J ⟨Zb,λa c=>Zm⟩) λd f=>Zj ((DD Y λa c=>Zm).mono λg _=>Ul ⟨Zb,Zj (eG Zb λh _=>Zj ((DD Y λa c=>Zm).mono λi _=>J trivial))⟩)⟩)
noncomputable def Gj(h:Nat)(t:Int)(c:Ts×ZI):Option Ld:=((FR (h:Int) t c.1 c.2).getD (none,0)).1
theorem EL{h:Nat}{t}{f}(c)(h1:1<=h)(e:h<=4)(i:Ti t=some (f,true))(g:Us f):FR h t c.1 c.2=some (Gj h t c,0)/\∃T,Gj h t c=some ((h:Int),t,c.1,c.2,T)/\TI h f c.1 c.2 T:=by
 obtain⟨j,a,k,T,b,d⟩:=Zsl h1 e i g;have:Gj h t c=j.1:=by unfold Gj;rw[a];rfl
 rw[this];exact⟨Zm,T,b,d⟩
noncomputable def wb(w:Int):Zt:=[Z6 8 (Qh w (Ze (Z4 24#64))),Z6 8 (Qh w (Ze (Z4 16#64))),Z6 8 (Qh w (Ze (Z4 8#64))),Z6 8 w]
def GI(a h:Nat)(t:Int)(sd:ZI)(s:Nk):Prop:=s.1=h/\s.2.1=t/\s.2.2.1=sd/\s.2.2.2.1=Gj a t (ch sd [])/\(s.2.2.2.2.2=-1\/s.2.2.2.2.1=Gj h t (ch sd (wb s.2.2.2.2.2)))
theorem Zke{a h:Nat}{t}{f}{sd}(b:1<=a)(c:a<=4)(h1:1<=h)(i:h<=4)(g:Ti t=some (f,true))(e:Us f):W (kR a h t sd) λo=>o.2=0/\∃s,o.1=some s/\GI a h t sd s:=by refine Zj (si.mono λk j=>Zp ⟨λd=>Zm,λd=>?_⟩);·rw[be (aH Zb),be (EL _ b c g e).1];exact Zp ⟨Zm,λ_=>J ⟨rfl,_,rfl,rfl,rfl,rfl,rfl,.inl rfl⟩⟩
theorem ZrG{a h}{t}{f}{sd}{s}{w}(m:0<=w)(h1:1<=h)(i:h<=4)(k:Ti t=some (f,true))(j:Us f)(hs:GI a h t sd s):W (kS s w) λo=>o.2.2=0/\o.2.1=Gj h t (ch sd (wb w))/\GI a h t sd o.1:=by have⟨b,c,d,e,l⟩:=hs;refine Zp ⟨λg=>J ⟨rfl,Zm,b,c,d,e,l⟩,λg=>Sp ⟨Zb,Sp ⟨Zb,Sp ⟨Zb,?_⟩⟩⟩⟩;·rw[d,b,c,be (aH Zb),be (EL _ h1 i k j).1];exact Zp ⟨Zb,λ_=>J ⟨rfl,rfl,rfl,rfl,rfl,e,.inr rfl⟩⟩
theorem ZfC{h:Nat}{t}{id}{s}{T}(c:2<=T.length):sI (some (h,t,id,s,T))=some (QE h t id (nd T 1)):=by
 refine Vo (Zp ⟨Zb,λ_=>?_⟩);have a:Xc 0 (YC 16 (Xw id))=id.toList:=by show List.drop 0 (List.take _ _)=_;rw[wA,VT Zb]
 rw[ko,be (OW Zb),ko,be (OW (by simp[WW])),ko,a];refine Ul ⟨Zb,?_⟩;rw[be (Gp (by simp[WW])),ko];refine Zj (YF ⟨Zm,λd b=>Ul ⟨Zb,?_⟩⟩);rw[be (xW (by simp[WW])),be (Iq (by simp[WW]))];refine J ?_;rw[rE b];rfl
theorem Zfh{a h}{t}{f}{sd}{s}(b:1<=a)(c:a<=4)(j:Ti t=some (f,true))(g:Us f)(hs:GI a h t sd s):∃T,Gj a t (ch sd [])=some ((a:Int),t,(ch sd []).1,(ch sd []).2,T)/\TI a f (ch sd []).1 (ch sd []).2 T/\FM s=some (w4 2#32++QE a t (ch sd []).1 (nd T 1)):=by obtain⟨T,d,e⟩:=(EL _ b c j g).2;have k:=EN b c;refine⟨T,d,e,?_⟩;unfold FM;rw[hs.2.2.2.1,d,be (ZfC (by rw[e.1];omega))];have:=zY (h:=a) (t:=t) (id:=(ch sd []).1) (x:=nd T 1);refine Vo (Zj ((vm XA).mono λl i=>J ?_));rw[i];simp;congr 1
theorem bB{r}:EV r=some (r.1.length:Int):=rfl
theorem md{r}:QQ r=some r.2:=rfl
theorem Za4{WG m a}(h:m.length<=1000000)(hs:a.length<=1000000):W (Cm WG m a) λ_=>True:=by unfold Cm;refine Zp ⟨λ_=>J trivial,λf=>?_⟩;simp only[Wx]at f;rw[be (QN Y)];refine Zj (HR Y λo _=>Zp ⟨λ_=>J trivial,λ_=>Zj (HR (by rw[Wn];omega) λp _=>Zj (HR (by simp only[Wn];omega) λq _=>?_))⟩);rw[be (QN Y),be RC];have g:=UT (r:=(a,false)) (n:=4);refine Zp ⟨λ_=>J trivial,λ_=>Zj (si.mono λe _=>?_)⟩;rw[be Rm,be Rm,be bB,be Rm,be md];generalize tk (a,false) 4=b at*;dsimp only at g⊢;have j:=UT (r:=b.1) (n:=e);generalize tk b.1 e=c at*;have k:=UT (r:=c.1) (n:=56);generalize tk c.1 56=d at*;have l:=UT (r:=d.1) (n:=(d.1.1.length:Int));refine Uu (λ_=>Zj (N0.2 ⟨by simp only[Wx];omega,Zj ((sj Y Y 0 0 (0,0,0) (Zn 16 0#8) (Zn 32 0#8) [] 0 (Zn 32 0#8) []).mono λ_ _=>J trivial)⟩)) (λ_=>J trivial) λi=>Uu (λ_=>Zj ((sj h Y 0 0 (0,0,0) (Zn 16 0#8) (Zn 32 0#8) [] 0 (Zn 32 0#8) []).mono λ_ _=>J trivial)) (λ_=>J trivial) λ_=>J trivial
theorem bL{s}{WG}(hs:s.2.length<=1000000):W (Kl s WG) λ_=>True:=by refine Zj (kN.mono λa b=>Uu (λ_=>Zj ((Za4 Y hs).mono λ_ _=>J trivial)) (λ_=>J trivial) λ_=>J trivial)
theorem bu{a h}{t}{f}{sd}{s}(d:1<=a)(e:a<=4)(h1:1<=h)(l:h<=4)(j:Ti t=some (f,true))(i:Us f)(hs:GI a h t sd s):FK s=some ((2^a*2^h:Nat):Int):=by obtain⟨k,g,m⟩:=(EL _ d e j i).2;unfold FK;rw[hs.2.2.2.1,g,be (mA Zb Y),hs.1];refine Vo (Sp ⟨Zb,J ?_⟩);have:(a=1\/a=2\/a=3\/a=4)/\(h=1\/h=2\/h=3\/h=4):=Y;obtain⟨b|b|b|b,c|c|c|c⟩:=this<;>subst b c<;>rw[xD]<;>rfl
theorem ZrY:∀h:Fin 5,∀k:Fin 256,FP k.val h.val=(k.val/2^h.val:Nat)/\JS k.val (VY (JU 1 h.val-1))=(k.val%2^h.val:Nat):=by decide+kernel
theorem ZrX{h k:Nat}(b:h<5)(c:k<256):Qh k h=(k/2^h:Nat)/\Sv k (Zk (ZU (Sm 1 h) 1))=(k%2^h:Nat):=by rw[Zfn,vN,xD,EG,show∀a,Zk a=VY a fromλa=>by rw[OV]];exact ZrY ⟨h,b⟩ ⟨k,c⟩
theorem ZbH{h t}{q}{r}{b}{P}:(PX h t q r b P).length=44+b.length+32*P.length:=by unfold PX Rn;simp[Yw,WW,To,tA];omega
theorem Zkf{a h}{t}{f}{sd}{i:Int}{m}(v:1<=a)(y:a<=4)(h1:1<=h)(z:h<=4)(l:Ti t=some (f,true))(g:Us f)(hi:0<=i)(x4:i<(2^a*2^h:Nat))(S:m.length<=1000000):∃b,b.length<=500+64*f.2.1.toNat/\(∀s,GI a h t sd s->W (tU s i m) λo=>GI a h t sd o.1/\o.2=(b,0))/\∀s WG,GI a h t sd s->FM s=some WG->W (Cm WG m b) λc=>c=true:=by
 obtain⟨k,rfl⟩:=Qo hi;have hk:k<256:=by have:=nD (EN v y).2 (EN h1 z).2;omega
 obtain⟨es,ea⟩:=ZrX (show h<5by omega) hk;have U:k/2^h<2^a:=Nat.div_lt_of_lt_mul (by rw[wR];omega);have R:k%2^h<2^h:=De _ Y;generalize k/2^h=w at*;generalize k%2^h=j at*;obtain⟨e,Z,X⟩:=(EL (ch sd []) v y l g).2;obtain⟨p,t2,I⟩:=(EL (ch sd (wb (w:Int))) h1 z l g).2;have H:=zY (h:=(h:Int)) (t:=t) (id:=(ch sd (wb (w:Int))).1) (x:=nd p 1);obtain⟨K,E,d1,n1,s1⟩:=ZfD (m:=QE h t (ch sd (wb (w:Int))).1 (nd p 1)) v y l g X U Y;obtain⟨M,F,d2,n2,s2⟩:=ZfD (m:=m) h1 z l g I R S;have hn:=g.n;have B:=ZbH (h:=(a:Int)) (t:=t) (q:=w) (r:=E) (b:=T6 (ch sd []).1 (Z6 32 (w:Int)) (ch sd []).2 0 K) (P:=pp e a (2^a+w));have C:=ZbH (h:=(h:Int)) (t:=t) (q:=j) (r:=F) (b:=T6 (ch sd (wb (w:Int))).1 (Z6 32 (j:Int)) (ch sd (wb (w:Int))).2 0 M) (P:=pp p h (2^h+j));rw[EE,Ef]at B C;refine⟨w4 1#32++(PX (a:Int) t w E (T6 (ch sd []).1 (Z6 32 (w:Int)) (ch sd []).2 0 K) (pp e a (2^a+w))++(QE h t (ch sd (wb (w:Int))).1 (nd p 1)++PX (h:Int) t j F (T6 (ch sd (wb (w:Int))).1 (Z6 32 (j:Int)) (ch sd (wb (w:Int))).2 0 M) (pp p h (2^h+j)))),by simp only[Yw,WW,H,B,C];omega,λs A=>?_,λs WG A T=>?_⟩
 ·unfold tU;refine Yu (λb=>b=false) λd=>by simp only[Wx]at d;omega (λd=>?_) λb hb=>?_;·rw[be (bu v y h1 z l g A)];refine J ?_;simp only[Wx];exact x4
  ·subst hb;have x5:=A.1;refine Zp ⟨λd=>(by cases d),λ_=>Sp ⟨Y,Sp ⟨Y,?_⟩⟩⟩;rw[x5,es];refine Zj ((ZrG (w:=(w:Int)) Y h1 z l g A).mono λo D=>Zp ⟨λd=>by rw[D.1]at d;simp only[Wx]at d,λ_=>?_⟩);rw[D.2.1,t2,be (ZfC (by rw[I.1];omega)),D.2.2.2.2.2.1,Z,be s1];refine Zp ⟨λd=>by simp only[Wx]at d,λ_=>?_⟩;rw[ea,be s2];refine Zp ⟨λd=>by simp only[Wx]at d,λ_=>Zj ((vm (by simp only[LC,wB,Yw,H,B,C,WA,Vf];omega)).mono λr hr=>J ⟨D.2.2,?_⟩)⟩;rw[hr];simp only[LC,wB,Xp];rfl
 ·obtain⟨x0,t3,k3,p3⟩:=Zfh v y l g A;rw[Z]at t3;have:e=x0:=X7 (·.2.2.2.2) (XD t3);subst this;rw[p3]at T;cases T;have G:=zY (h:=(a:Int)) (t:=t) (id:=(ch sd []).1) (x:=nd e 1);generalize x1:QE (h:Int) t (ch sd (wb (w:Int))).1 (nd p 1)=LP at*;generalize x2:PX (a:Int) t w E _ _=S1 at*;generalize x3:PX (h:Int) t j F _ _=N at*;unfold Cm;have x6:1<=t/\t<=4:=by obtain⟨a,O,h,-⟩:=F6 (k:=t);rw[l]at O;cases O;exact⟨(h rfl).1,(h rfl).2.1⟩
  refine Zp ⟨λd=>?_,λd=>?_⟩;·simp only[Wx,Yw,WW,G]at d;omega
  rw[be (QN (by simp only[Yw,WW,G];omega)),be (Lu _ _)];refine Zp ⟨λd=>by simp only[Wx]at d,λ_=>?_⟩;have e1:QE (a:Int) t (ch sd []).1 (nd e 1)=w4 (Z6 32 (a:Int))++(w4 (Z6 32 t)++((ch sd []).1.toList++tl (nd e 1))):=rfl;rw[show Tz (QE (a:Int) t (ch sd []).1 (nd e 1),false)=some (_,_)by rw[e1];exact Lu _ _,bs,be (Lu _ _),be (QN (by simp only[Yw,WW,H,B,C];omega)),be (Lu _ _)];refine Zp ⟨λd=>by simp only[Wx]at d,λ_=>?_⟩;rw[xJ Y,EI Y Y];refine Zj (si.mono λx7 V=>?_);have V:=V ⟨Y,Y⟩ f l g;rw[be Rm,KX _ _ Y,be Rm,KX _ _ Y,be bB,be Rm];have Q:=KX N [] (n:=(N.length:Int)) rfl;rw[Xp]at Q;rw[Q,be md];dsimp only;refine Yu (λc=>c=true) (λ_=>Zj (N0.2 ⟨by simp only[Wx,Yw,WW,G];omega,?_⟩)) (λd=>by cases d) λc u=>Yu (λc=>c=true) (λ_=>Zj ((sj S Y h t f (ch sd (wb (w:Int))).1 (ch sd (wb (w:Int))).2 p j F M).mono λc u=>J (u ⟨h1,z⟩ l g I R d2 n2 x1.symm x3.symm))) (λd=>by rw[u]at d;cases d) λc u=>J u;rw[show List.drop (Int.toNat 4) (List.take (Ze (Zf (w4 2#32++QE (a:Int) t (ch sd []).1 (nd e 1)))).toNat (w4 2#32++QE (a:Int) t (ch sd []).1 (nd e 1)))=QE (a:Int) t (ch sd []).1 (nd e 1)by simp only[Wx,Vz,NM];exact Mf (WW _)];exact Zj ((sj Y Y a t f (ch sd []).1 (ch sd []).2 e w E K).mono λc u=>J (u ⟨v,y⟩ l g X U d1 n1 rfl x2.symm))
abbrev PG:Type:=Vector (BitVec 8) 128
def PK(l:List PG)(w:List I4):List PG:=w.foldl (λl a=>l.set a.1.toNat a.2) l
theorem AA(w):∀l,(PK l w).length=l.length:=by induction w with|nil=>intro l;rfl|cons b w a=>intro l;show(PK _ w).length=_;rw[a,Ol]
theorem mS(l)(w)(x):PK l (w++[x])=(PK l w).set x.1.toNat x.2:=by unfold PK;simp_all
def DI(N c:Nat)(d:Yi):Prop:=d.1.length=N/\d.2.1=PK d.1 d.2.2.1/\(∀a∈d.2.2.1,0<=a.1/\a.1<N)/\d.2.2.1.length<=c
theorem DI.seen{N c}{d}(h:DI N c d):d.2.1.length=N:=by rw[h.2.1,AA,h.1]
theorem DI.le{N c c'}{d}(h:DI N c d)(a:c<=c'):DI N c' d:=⟨h.1,h.2.1,h.2.2.1,WX h.2.2.2 a⟩
theorem Zey{d}{p}:W (AV d p) λr=>d.2.2.2.2=true/\r=6\/d.2.2.2.2=false/\¬(0<=p/\p<d.1.length)/\r=4\/d.2.2.2.2=false/\(0<=p/\p<d.1.length)/\r=0:=by unfold AV;rw[show AS d=some _ from rfl,bs];refine Zp ⟨λa=>J Zm,λa=>Yu (λb=>b=true↔¬(0<=p/\p<d.1.length)) (λa=>J<|Zm) (λa=>J<|Zm) λb e=>Zp ⟨λc=>J Zm,λc=>J (.inr (.inr ⟨a,Zm,rfl⟩))⟩⟩
theorem mF{N c}{d}{p}(h:DI N c d):W (uP d p) λo=>(o.2=0->d.2.2.2.2=false/\0<=p/\p<N/\∃v:PG,d.2.1[p.toNat]?=some v/\o.1=v.toList)/\(d.2.2.2.2=false->0<=p->p<N->o.2=0):=by
 have q:=h.seen;have m:=h.1;refine Zj (Zey.mono λr n=>Zp ⟨λe=>J ⟨λk=>Zm,λg i j=>Zm⟩,λe=>?_⟩)
 ·have⟨a,b,l⟩:d.2.2.2.2=false/\0<=p/\p<d.1.length:=by grind
  refine Xo ⟨Zm,Ul ⟨Zb,Zj (YF ⟨Y,λv f=>Xa ⟨Zb,J ⟨λ_=>⟨a,b,Y,v,f,?_⟩,Zb⟩⟩⟩)⟩⟩;·show List.drop 0 (List.take _ _)=_;rw[wA,VT Zb]
theorem Zcu{d}:W (uQ d) λo=>(o.1.1=d.1/\o.1.2.1=d.2.1/\o.1.2.2.1=d.2.2.1)/\o.2=!o.1.2.2.2.2/\(d.2.2.2.1<0->o.1=d)/\(d.2.2.2.2=true->o.1.2.2.2.2=true):=by refine Yu _ (λc=>J<|Zm) (λc=>Yu (λa=>(a.1=d.1/\a.2.1=d.2.1/\a.2.2.1=d.2.2.1)/\(d.2.2.2.1<0->a=d)/\(d.2.2.2.2=true->a.2.2.2.2=true)) (λe=>J<|Zm) (λe=>J<|Zb) λa b=>J b) λa b=>J ⟨b.1,Zb,b.2⟩
theorem bX{N c}{d}{p}{b}(h:DI N c d)(G:c<4000000000):W (AU d p b) λo=>DI N (c+1) o.1/\o.1.1=d.1/\(o.2=0->0<=p/\p<N/\d.2.2.2.2=false/\o.1.2.2.2.2=false/\∃v:PG,v.toList=b/\o.1.2.2.1=d.2.2.1++[(p,v)])/\(o.2≠0->o.1.2.2.1=d.2.2.1)/\(o.2=6->o.1.2.2.2.2=true)/\(b.length=128->0<=p->p<N->o.2=0\/o.2=6)/\(d.2.2.2.1<0->d.2.2.2.2=false->b.length=128->0<=p->p<N->o.2=0/\o.1.2.2.2=d.2.2.2):=by
 have H:=h.seen;have A:=h.1;unfold AU;refine Zj (Zey.mono λI s=>Zp ⟨λr=>J ?_,λr=>Zp ⟨λy=>J ?_,λy=>?_⟩⟩)
 ·simp only[Wx]at r;refine⟨h.le Y,rfl,λa=>absurd a r,λ_=>rfl,λa=>?_,λj k m=>?_,λj k m t u=>?_⟩
  ·dsimp only at a⊢;rcases s with⟨i,e⟩|⟨-,-,e⟩|⟨-,-,e⟩;·exact i
   ·omega
   ·omega
  ·rcases s with⟨i,e⟩|⟨-,z,e⟩|⟨-,-,e⟩;·exact .inr e
   ·omega
   ·omega
  ·rcases s with⟨i,e⟩|⟨-,z,e⟩|⟨-,-,e⟩;·rw[k]at i;cases i
   ·omega
   ·omega
 ·simp only[Wx]at y;exact⟨h.le Y,rfl,λa=>(by cases a),λ_=>rfl,λa=>(by cases a),λj k m=>Y,λj k m t u=>Y⟩
 ·simp only[Wx]at r y;have⟨i,e,z⟩:d.2.2.2.2=false/\0<=p/\p<d.1.length:=by
   rcases s with⟨-,a⟩|⟨-,-,a⟩|⟨i,e,-⟩;·omega
   ·omega
   ·exact⟨i,e⟩
  refine Zj (Zcu.mono λo B=>Zp ⟨λf=>J ?_,λf=>?_⟩)
  ·obtain⟨⟨l,n,g⟩,w,x,E⟩:=B;simp only[Wx]at f;rw[w]at f;have f:o.1.2.2.2.2=true:=by simpa using f
   refine⟨⟨by rw[l,A],by rw[l,n,g,h.2.1],by rw[g];exact h.2.2.1,by rw[g];have:=h.2.2.2;omega⟩,l,λa=>(by cases a),λ_=>g,λ_=>f,λ_ _ _=>.inr rfl,λj k m t u=>?_⟩;rw[x j,k]at f;cases f
  ·obtain⟨⟨l,n,g⟩,w,x,E⟩:=B;simp only[Wx]at f;rw[w]at f;refine Zj (eG Y λv F=>Xa ⟨by rw[g];simp only[Wx,V9];have:=h.2.2.2;omega,Xo ⟨by rw[n];simp only[Wx];omega,J (⟨⟨by rw[<-A,<-l],?_,?_,?_⟩,l,λ_=>⟨e,Y,i,by simpa using f,v,F,?_⟩,λa=>absurd rfl a,λa=>(by cases a),λ_ _ _=>.inl rfl,λj k m t u=>⟨rfl,?_⟩⟩)⟩⟩);·show List.set o.1.2.1 p.toNat v=PK o.1.1 (o.1.2.2.1++[(p,v)]);rw[l,n,g,mS,<-h.2.1]
   ·intro D C;change D∈o.1.2.2.1++[(p,v)]at C;rcases Z1 C with q|q;·rw[g]at q;exact h.2.2.1 D q
    ·rw[YZ q];exact⟨e,Zw⟩
   ·show(o.1.2.2.1++[(p,v)]).length<=_;rw[g,Yw,V9];have:=h.2.2.2;omega
   ·show o.1.2.2.1++[(p,v)]=_;rw[g]
   ·show o.1.2.2.2=_;rw[x j]
theorem bc{N c}{d}(h:DI N c d)(D:c<4000000000):W (AT d) λo=>DI N c o.1/\(o.2=0\/o.2=6)/\(o.2=0->d.2.2.2.2=false/\o.1.2.2.2.2=false/\o.1.1=PK d.1 d.2.2.1/\o.1.2.2.1=[])/\(o.2=6->o.1.1=d.1/\o.1.2.2.1=d.2.2.1/\o.1.2.2.2.2=true)/\(d.2.2.2.1<0->d.2.2.2.2=false->o.2=0/\o.1.2.2.2=d.2.2.2):=by
 have w:=h.1;unfold AT;rw[show AS d=some d.2.2.2.2from rfl,bs];refine Zp ⟨λl=>J ⟨h,.inr rfl,λe=>(by cases e),λ_=>⟨rfl,rfl,l⟩,λ_ e=>by rw[l]at e;cases e⟩,λl=>Zj (Zcu.mono λo x=>Zp ⟨λb=>J ?_,λb=>?_⟩)⟩
 ·obtain⟨⟨g,q,f⟩,r,s,C⟩:=x;simp only[Wx]at b;rw[r]at b;have b:o.1.2.2.2.2=true:=by simpa using b
  refine⟨⟨by rw[g,w],by rw[g,q,f,h.2.1],by rw[f];exact h.2.2.1,by rw[f];exact h.2.2.2⟩,.inr rfl,λe=>(by cases e),λ_=>⟨g,f,b⟩,λp v=>?_⟩;rw[s p,v]at b;cases b
 ·obtain⟨⟨g,q,f⟩,r,s,C⟩:=x;simp only[Wx]at b;rw[r]at b;have b:o.1.2.2.2.2=false:=by simpa using b
  refine Zj (W.UQ (λa=>0<=a.1/\a.1<=d.2.2.1.length/\a.2.1=d.2.2.1/\a.2.2.1=PK d.1 (d.2.2.1.take a.1.toNat)/\a.2.2.2=o.1.2) (λa=>a.2.2.1=PK d.1 d.2.2.1/\a.2.2.2=o.1.2) (λa=>(d.2.2.1.length-a.1).toNat) ⟨Zb,Zw,f,g,rfl⟩ ?_ (λa u=>?_) λa u=>J ?_);·have:=h.2.2.2;dsimp only;omega
  ·obtain⟨k,E,B,F⟩:=a;obtain⟨i,j,z,m,A⟩:=u;dsimp only at i j z m A;subst z A;rw[f];refine Zp ⟨λt=>?_,λt=>J ⟨?_,rfl⟩⟩
   ·simp only[Wx]at t;refine Zj (YF ⟨Zw,λn y=>Xo ⟨?_,J ?_⟩⟩);·have:=h.2.2.1 n (X6 y);rw[m];simp only[Wx,AA];omega
    ·rw[show Zk (Zu k 1)=k+1by simp only[Wx];exact ZK (by have:=h.2.2.2;omega)];refine⟨⟨Zw,Zw,rfl,?_,rfl⟩,Zw⟩;show List.set B n.1.toNat n.2=_;rw[m,show(k+1).toNat=k.toNat+1by omega,O2,show d.2.2.1[k.toNat]?=some n from y];exact(mS _ _ _).symm
   ·simp only[Wx]at t;show B=_;rw[m,VT Y]
  ·obtain⟨i,j⟩:=u;refine⟨⟨?_,?_,Zb,Zb⟩,.inl rfl,λ_=>⟨l,?_,i,rfl⟩,λe=>(by cases e),λp v=>⟨rfl,?_⟩⟩;·show a.2.2.1.length=N;rw[i,AA,w]
   ·show a.2.2.2.1=a.2.2.1;rw[i,j,q,h.2.1]
   ·show a.2.2.2.2.2.2=_;rw[j,b]
   ·show a.2.2.2.2.2=_;rw[j,s p]
abbrev Uf:PG:=Zn 128 0#8
def Oe(o v:PG)(c:Nat):PG:=Bt o 0 (v.toList.take c)
theorem Zsz(o v){c}(h:c<=128):(Oe o v c).toList=v.toList.take c++o.toList.drop c:=by unfold Oe;rw[ZfZ _ _ _ Zm,List.take_zero,UW,UF,Gy,Pu h,TN]
def EJ(l:List PG)(x:List (I4×Nat)):List PG:=x.foldl (λl x=>l.set x.1.1.toNat (Oe (l.getD x.1.1.toNat Uf) x.1.2 x.2)) l
theorem Zsv(x):∀l,(EJ l x).length=l.length:=by induction x with|nil=>intro l;rfl|cons b x a=>intro l;show(EJ _ x).length=_;rw[a,Ol]
def Nc(l:List PG)(w:List I4)(c:List PG):Prop:=∃a:List Nat,a.length=w.length/\(∀b∈a,b<=128)/\c=EJ l (w.zip a)
theorem Nc.nil{l}:Nc l [] l:=⟨[],rfl,Zb,rfl⟩
theorem Nc.snoc{l a}{w}{x}{c}(h:Nc l w a)(g:c<=128):Nc l (w++[x]) (a.set x.1.toNat (Oe (a.getD x.1.toNat Uf) x.2 c)):=by obtain⟨d,b,f,rfl⟩:=h;refine⟨d++[c],by simp[b],λe i=>Zm,?_⟩;·rw[List.zip_append b.symm];unfold EJ;rw[ns];rfl
theorem bK{N c}{d}{cuts}(h:DI N c d)(y:c<4000000000):W (DY d cuts) λo=>DI N 0 o/\o.2.2=([],-1,false)/\Nc d.1 d.2.2.1 o.1:=by
 have x:=h.2.2.2;unfold DY;refine Zj (W.UQ (λa=>0<=a.1/\a.1<=d.2.2.1.length/\a.2.1=d.2.2.1/\Nc d.1 (d.2.2.1.take a.1.toNat) a.2.2.1/\a.2.2.1.length=N/\a.2.2.2=d.2) (λa=>Nc d.1 d.2.2.1 a.2.2.1/\a.2.2.1.length=N/\a.2.2.2=d.2) (λa=>(d.2.2.1.length-a.1).toNat) ⟨Zb,Zw,rfl,Nc.nil,h.1,rfl⟩ Zw (λa j=>?_) λa j=>J ?_)
 ·obtain⟨e,B,f,C⟩:=a;obtain⟨l,m,n,p,q,v⟩:=j;dsimp only at l m n p q v;subst n v;refine Zp ⟨λi=>?_,λi=>J ⟨?_,q,rfl⟩⟩
  ·simp only[Wx]at i;refine Zj (YF ⟨Zw,λb u=>Yu (λs=>0<=s/\s<=128) (λt=>?_) (λt=>J Y) λs w=>?_⟩);·simp only[Wx]at t;refine Zj (YF ⟨Zw,λr k=>J ?_⟩);simp only[Wx];omega
   ·have A:=h.2.2.1 b (X6 u);obtain⟨c,rfl⟩:=Qo w.1;refine Xo ⟨by simp only[Wx];omega,Ul ⟨Y,Ul ⟨Y,Zj (YF ⟨Zw,λr k=>J ?_⟩)⟩⟩⟩;rw[show Zk (Zu e 1)=e+1by simp only[Wx];exact ZK Y];dsimp only at k;have g:List.set f b.1.toNat (Bt r 0 (List.take ((c:Int)-0).toNat (List.drop 0 (List.take c b.2.toList))))=f.set b.1.toNat (Oe (f.getD b.1.toNat Uf) b.2 c):=by rw[wA,show((c:Int)-0).toNat=c by omega,Jk,Nat.min_self,Rf,k];rfl
    refine⟨⟨Zw,Zw,rfl,?_,?_,rfl⟩,Zw⟩;·show Nc _ _ (List.set f b.1.toNat (Bt r 0 (List.take ((c:Int)-0).toNat (List.drop 0 (List.take c b.2.toList)))));rw[g];dsimp only;rw[show(e+1).toNat=e.toNat+1by omega,O2,show d.2.2.1[e.toNat]?=some b from u];exact p.snoc Y
    ·show(List.set f _ _).length=N;rw[Ol];exact q
  ·simp only[Wx]at i;dsimp only;rwa[VT Y]at p
 ·obtain⟨l,m,n⟩:=j;have z:=h.seen;have g:Z9 (YC (Zf a.2.2.2.1) a.2.2.1) (Xc (Zf a.2.2.1) a.2.2.2.1)=a.2.2.1:=by grind
  rw[g];exact⟨⟨m,rfl,Zb,Zb⟩,rfl,l⟩
theorem ZiY{ds}{n}(c:0<=n)(h1:n<=4096):W (kg ds n) λo=>o.2.2=0/\o.2.1=some ds.length/\o.1=ds++[(List.replicate n.toNat Uf,List.replicate n.toNat Uf,[],-1,false)]:=by refine Yu (λa=>a=false) (λb=>Zm) (λb=>J Zm) λa d=>Zp ⟨Zm,λ_=>M8.2 ⟨Y,M8.2 ⟨Y,J ⟨rfl,rfl,rfl⟩⟩⟩⟩
theorem ZlK(l)(b):Tl (l++[b])=Tl l<<<8|||b.setWidth 64:=by unfold Tl;simp_all
theorem ao(x:BitVec 64)(b):∀k,k+1<=8->Y6 (x<<<8|||b.setWidth 64) (k+1)=Y6 x k++[b]|0,_=>by show[BitVec.setWidth 8 _]=[b];simp_all|k+1,h=>by show BitVec.setWidth 8 _::Y6 _ _=BitVec.setWidth 8 _::Y6 x k++[b];rw[ao x b k Y];congr 1;grind
theorem vX:∀(k)(l),l.length=k->k<=8->Y6 (Tl l) k=l|0,l,h,_=>by rw[MR h];rfl|k+1,l,h,hk=>by obtain⟨a,b,rfl⟩:∃a b,l=a++[b]:=⟨l.dropLast,l.getLast _,(Zgm Zm).symm⟩;rw[ZlK,ao _ _ _ hk,vX k a Zm Y]
theorem yF{b}{k}(h:k<=b.length):pk (b,false) k=(Tl (b.take k),true):=by unfold pk;rw[Yg Zm]
theorem Zeq{b}{Q}(h:8<=b.length)(a:Q ((b.drop 8,false),Tl (b.take 8))):W (Is (b,false)) Q:=by rw[qR,Lw rfl Zb Zm,yF h];exact J a
theorem Zer{b:Zt}{Q}(h:1<=b.length)(c:∀x l,b=x::l->Q ((l,false),x.toNat)):W (K9 (b,false)) Q:=by rw[xb,yF h];refine J ?_;cases b with|nil=>grind|cons x l=>
  have:=c x l rfl;have a:(Tl (List.take 1 (x::l))).toNat=x.toNat:=by show(0#64<<<8|||x.setWidth _).toNat=_;simp;omega
  rw[a];exact this
def Qd(g:BitVec 32)(n:BitVec 32):BitVec 64:=g.setWidth 64<<<32|||n.setWidth 64
theorem Zlw(g n):(Qd g n>>>32).setWidth 32=g:=by apply wv;intro b a;simp[Qd,a,Y,show 32+b<64by omega]
theorem Zb1(g n):(Qd g n).setWidth 32=n:=by apply wv;intro b a;simp[Qd,a,Y]
theorem ZbN{p}:oF p=some (Qd p.1 (Z6 32 p.2.1)):=by exact Vo (Sp ⟨Zb,J rfl⟩)
def SP(g:BitVec 32)(n:Int)(k:BitVec 8)(d:Zt):Zt:=Y6 (Qd g (Z6 32 n)) 8++k::BitVec.ofNat 8 d.length::(d++(List.replicate (110-d.length) 0#8++Y6 (Qd g (Z6 32 n)) 8))
theorem Zms{g}{n}{k}{d}(h:d.length<=110):(SP g n k d).length=128:=by unfold SP;simp[Yw,WA,WY,E9];omega
theorem be1{x}{k}(h:x=k.toNat):Y6 (BitVec.ofInt 64 x) 1=[k]:=by show[BitVec.setWidth 8 _]=[k];grind
theorem dk{l}{x}{k}(h:x=k.toNat)(a:l.length<=4000000000):Pq (l,false) x=some (l++[k],false):=by rw[mL Zm,be1 h];unfold W2;rw[Yg Y];rfl
theorem oA{l}{x}(a:l.length<=4000000000):Gq (l,false) x=some (l++Y6 x 8,false):=Zhv Zm
theorem Zmk{g}{n x}{k}{d}(hx:x=k.toNat)(b:d.length<=110):oG (g,n,x,d)=some (SP g n k d,0):=by unfold oG;rw[be ZbN,be (oA Zb),be (dk hx (by simp[WY])),be (dk (k:=BitVec.ofNat 8 d.length) Zm (by simp[WY])),be (Gp (by simp[WY];omega)),show Zk _=((110-d.length:Nat):Int)by simp only[Wx];rw[ZK Y];omega];refine Vo (M8.2 ⟨Y,?_⟩);have a:SQ (Yf ((110-d.length:Nat):Int)) 0#8=List.replicate (110-d.length) 0#8:=Zb;rw[a,be (Gp (by simp[WY];omega)),be ZbN,be (oA (by simp[WY];omega)),be (Iq (by simp[WY];omega))];refine J ?_;unfold SP;simp
def TH(b:Zt):BitVec 32:=(Tl (b.take 8)>>>32).setWidth 32
def ll(b:Zt):Nat:=(b.getD 9 0#8).toNat
def kk(b:Zt):Int:=((b.getD 8 0#8).toNat:Int)
def wP(b:Zt):AQ:=(TH b,(((Tl (b.take 8)).setWidth 32).toNat:Int),kk b,(b.drop 10).take (ll b))
def MG(b:Zt)(n:Int):Prop:=ll b<=110/\(∀a∈((b.drop 10).drop (ll b)).take (110-ll b),a=0#8)/\b.drop 120=b.take 8/\(ll b=110\/¬Sv (kk b) 2=0)/\kk b<=3/\(((Tl (b.take 8)).setWidth 32).toNat:Int)=n
theorem ZlJ{l m}(h:Tl l=Tl m)(b:l.length=m.length)(a:l.length<=8):l=m:=by rw[<-vX _ l rfl a,<-vX _ m rfl Y,h,b]
theorem Zf8{b}{n}{m}(R:b.length=128):W (oH b n m) λo=>(o.2=true↔MG b n/\m<=TH b)/\(o.2=true->o.1=wP b):=by
 unfold oH;rw[be (QN Y)];refine Zj (Zeq Y (Sp ⟨YP,Zj (Zer (by rw[Wn];omega) λu I k=>Zj (Zer (b:=I) ?_ λc g v=>?_))⟩));·have:=X7 List.length k;rw[Wn,WA]at this;omega
 have j:List.drop 10 b=g:=by rw[show 10=8+2from rfl,<-UV,k,v];rfl
 have S:g.length=118:=by rw[<-j,Wn];omega
 have B:kk b=u.toNat:=by
  unfold kk;have:b[8]?=some u:=by have:=X7 (·[0]?) k;simpa[Rt]using this
  rw[Rf,this];rfl
 have p:ll b=c.toNat:=by
  unfold ll;have:b[9]?=some c:=by have:=X7 (·[1]?) k;rw[v]at this;simpa[Rt]using this
  rw[Rf,this];rfl
 refine Zp ⟨λl=>J ⟨⟨λe=>(by cases e),λe=>?_⟩,λe=>by cases e⟩,λl=>?_⟩;·simp only[Wx]at l;have:=e.1.1;omega
 simp only[Wx]at l;refine Zj (C5 (b:=g) Y Y ?_);rw[Vz,show Zk (ZU 110 (c.toNat:Int))=((110-c.toNat:Nat):Int)by simp only[Wx];rw[ZK Y];omega];refine Zj (C5 (b:=List.drop c.toNat g) Y (by rw[Wn];omega) ?_);rw[Vz];have T:(List.take (110-c.toNat) (List.drop c.toNat g)).length=110-c.toNat:=by rw[UF,Wn];omega
 refine Wo (W.Vy (λd=>0<=d.1/\d.1<=(110-c.toNat:Nat)/\∀h∈(List.take (110-c.toNat) (List.drop c.toNat g)).take d.1.toNat,h=0#8) (λd=>∀h∈List.take (110-c.toNat) (List.drop c.toNat g),h=0#8) (λd=>(110-c.toNat-d.1).toNat) (λE=>E.2=false/\¬MG b n) ⟨Zb,Zw,Zb⟩ Zw (λd s=>?_) (λd s=>?_) λE r=>⟨⟨λe=>(by rw[r.1]at e;cases e),λe=>(r.2 e.1).elim⟩,λe=>by rw[r.1]at e;cases e⟩)
 ·obtain⟨U,V,D⟩:=s;refine Zp ⟨λa=>?_,λa=>J ?_⟩
  ·simp only[Wx]at a;refine Zj (YF ⟨Zw,λh C=>Zp ⟨λi=>?_,λi=>J ?_⟩⟩);·rw[bs];simp only[Wx]at i;refine J ⟨rfl,λe=>i ?_⟩;have:=e.2.1 h;rw[j,p]at this;exact this (X6 C)
   ·simp only[Wx]at i;rw[show Zk (Zu d.1 1)=d.1+1by simp only[Wx];exact ZK Y];refine⟨⟨Zw,Zw,λF t=>?_⟩,Zw⟩;dsimp only at t;rw[show(d.1+1).toNat=d.1.toNat+1by omega,O2,show(List.take (110-c.toNat) (List.drop c.toNat g))[d.1.toNat]?=some h from C]at t;rcases Z1 t with q|q;·exact D F q
    ·rw[show F=h by simpa using q];exact i
  ·simp only[Wx]at a;rwa[VT Y]at D
 ·have H:List.drop (110-c.toNat) (List.drop c.toNat g)=List.drop 120 b:=by rw[UV,<-j,UV];congr 1;omega
  dsimp only;rw[H];refine Zj (Zeq (by rw[Wn];omega) ?_);rw[show List.take 8 (List.drop 120 b)=List.drop 120 b from VT (by rw[Wn];omega),show List.drop 8 (List.drop 120 b)=[]by rw[UV];exact Re Y];dsimp only;rw[be KR];refine Yu (λf=>f=true↔List.drop 120 b=List.take 8 b) (λa=>J ?_) (λa=>J ?_) λK w=>Yu (λf=>f=true↔ll b=110\/¬Sv (kk b) 2=0) (λa=>J ?_) (λa=>J ?_) λM x=>Yu (λf=>f=true↔List.drop 120 b=List.take 8 b/\(ll b=110\/¬Sv (kk b) 2=0)) (λa=>J<|⟨λe=>⟨w.1 a,x.1 e⟩,λe=>x.2 e.2⟩) (λa=>J<|⟨λe=>(by cases e),λe=>by rw[w.2 e.1]at a;cases a⟩) λN y=>Yu (λf=>f=true↔(List.drop 120 b=List.take 8 b/\(ll b=110\/¬Sv (kk b) 2=0))/\kk b<=3) (λa=>J ?_) (λa=>J ⟨λe=>(by cases e),λe=>by rw[y.2 e.1]at a;cases a⟩) λO z=>Yu (λf=>f=true↔((List.drop 120 b=List.take 8 b/\(ll b=110\/¬Sv (kk b) 2=0))/\kk b<=3)/\(((Tl (b.take 8)).setWidth 32).toNat:Int)=n) (λa=>J ?_) (λa=>J<|⟨λe=>(by cases e),λe=>by rw[z.2 e.1]at a;cases a⟩) λP A=>Yu (λf=>f=true↔(((List.drop 120 b=List.take 8 b/\(ll b=110\/¬Sv (kk b) 2=0))/\kk b<=3)/\(((Tl (b.take 8)).setWidth 32).toNat:Int)=n)/\m<=TH b) (λa=>J ?_) (λa=>J ⟨λe=>(by cases e),λe=>by rw[A.2 e.1]at a;cases a⟩) λQ G=>J ⟨?_,λ_=>?_⟩;·rw[Ri]at a;have:=ZlJ a (by rw[Wn,UF];omega) (by rw[Wn];omega);simp[this]
  ·rw[Ha]at a;simp only[SW,false_iff];exactλe=>a (by rw[e])
  ·rw[Ri]at a;simp only[true_iff];left;omega
  ·rw[Ha]at a;rw[B];simp only[Wx];refine⟨λe=>.inr e,?_⟩
   ·rintro(e|e);·exfalso;omega
    ·exact e
  ·simp only[Wx];exact⟨λe=>⟨y.1 a,Y⟩,λe=>Y⟩
  ·rw[Ri];exact⟨λe=>⟨z.1 a,e⟩,λe=>e.2⟩
  ·simp only[Wx];exact⟨λe=>⟨A.1 a,e⟩,λe=>e.2⟩
  ·rw[G];unfold MG;rw[j,p];exact⟨λe=>⟨⟨Y,s,e.1.1.1.1,e.1.1.1.2,e.1.1.2,e.1.2⟩,e.2⟩,λe=>⟨⟨⟨⟨e.1.2.2.1,e.1.2.2.2.1⟩,e.1.2.2.2.2.1⟩,e.1.2.2.2.2.2⟩,e.2⟩⟩
  ·show(TH b,_,(u.toNat:Int),List.take c.toNat g)=wP b;unfold wP;rw[B,p,j]
theorem qb{g}{n}{k}{d}:(SP g n k d).take 8=Y6 (Qd g (Z6 32 n)) 8:=by exact Gi (WY _ _)
theorem j3(g n):Tl (Y6 (Qd g n) 8)=Qd g n:=by rw[rN];simp_all
theorem ZcD{g}{n}{k}{d}:TH (SP g n k d)=g:=by unfold TH;rw[qb,j3,Zlw]
theorem ZcB{g}{n}{k}{d}:(SP g n k d).drop 8=k::BitVec.ofNat 8 d.length::(d++(List.replicate (110-d.length) 0#8++Y6 (Qd g (Z6 32 n)) 8)):=by exact Mf (WY _ _)
theorem ZcC{g}{n}{k}{d}:kk (SP g n k d)=k.toNat:=by
 have:=by have:=X7 (·[0]?) (ZcB (g:=g) (n:=n) (k:=k) (d:=d));simpa[Rt]using this
 rfl
theorem qa{g}{n}{k}{d}(h:d.length<=110):ll (SP g n k d)=d.length:=by
 unfold ll;have:=by have:=X7 (·[1]?) (ZcB (g:=g) (n:=n) (k:=k) (d:=d));simpa[Rt]using this
 grind
theorem r9{g}{n}{k}{d}:(SP g n k d).drop 10=d++(List.replicate (110-d.length) 0#8++Y6 (Qd g (Z6 32 n)) 8):=by rfl
theorem ZlS{n}(a:0<=n)(h1:n<4294967296):(Z6 32 n).toNat=n:=EI a h1
theorem Zmu{g}{n}{k}{d}(h:d.length<=110)(c:0<=n)(h1:n<4294967296)(f:k.toNat<=3)(e:d.length=110\/¬Sv k.toNat 2=0):MG (SP g n k d) n/\wP (SP g n k d)=(g,n,(k.toNat:Int),d):=by
 have a:=ZlS c h1;refine⟨⟨by rw[qa h];exact h,?_,?_,by rw[qa h];exact e,by rw[ZcC];omega,by rw[qb,j3,Zb1];exact a⟩,?_⟩;·intro i b;rw[r9,qa h,Mf rfl,Gi Zb]at b;exact(List.mem_replicate.1 b).2
 ·rw[show 120=10+110from rfl,<-UV,r9,<-Z5];exact Mf Zm
 ·unfold wP;rw[ZcD,qb,j3,Zb1,a,ZcC,r9,qa h,Gi rfl]
def YI(l:List PG)(i:Nat):Zt:=(l.getD i Uf).toList
theorem yB(l)(i):(YI l i).length=128:=by unfold YI;simp
def Mc(l:List PG)(f pos n:Nat):Zt:=((List.range' pos n).map λa=>(wP (YI l (f+a))).2.2.2).flatten
theorem ue(l)(f pos n):Mc l f pos (n+1)=Mc l f pos n++(wP (YI l (f+(pos+n)))).2.2.2:=by unfold Mc;rw[List.range'_concat,Vg];simp
theorem aE(l)(f pos):∀n k,(Mc l f pos n).length<=(Mc l f pos (n+k)).length|n,0=>YG _|n,k+1=>by have:=aE l f pos n k;rw[show n+(k+1)=n+k+1by omega,ue,Yw];omega
def Lg(b:Zt):Prop:=¬Sv (kk b) 1=0
def FT(b:Zt):Prop:=¬Sv (kk b) 2=0
def Nb(l:List PG)(f sp pos:Nat)(m:BitVec 32)(r:Zt)(b:Nat)(g:BitVec 32):Prop:=pos<b/\b<=sp/\m<=g/\r.length<=6000/\(∀a,pos<=a->a<b->MG (YI l (f+a)) ((a:Int)+1)/\TH (YI l (f+a))=g/\(Lg (YI l (f+a))↔a=pos)/\(FT (YI l (f+a))↔a+1=b))/\r=Mc l f pos (b-pos)
def Stop(l:List PG)(f sp pos:Nat)(m:BitVec 32):Prop:=∀c b a,¬Nb l f sp pos m c b a
def Qq(l:List PG)(f sp:Nat):Nat->BitVec 32->List Zt->Nat->BitVec 32->Prop|pos,m,[],a,m'=>pos=a/\m=m'|pos,m,r::R,a,m'=>∃c b,Nb l f sp pos m r c b/\Qq l f sp c b R a m'
theorem Qq.snoc{l}{f sp}{r}{b}{a}:∀{R}{pos}{m}{d}{c},Qq l f sp pos m R d c->Nb l f sp d c r b a->Qq l f sp pos m (R++[r]) b a|[],_,_,_,_,⟨rfl,rfl⟩,h=>⟨b,a,h,rfl,rfl⟩|_::_,_,_,_,_,⟨p,g,h1,h2⟩,h=>⟨p,g,h1,h2.snoc h⟩
theorem Nb.uniq{l}{f sp pos}{m}{r r'}{p a}{g d}(h:Nb l f sp pos m r p g)(h':Nb l f sp pos m r' a d):r=r'/\p=a/\g=d:=by
 have⟨i,j,k,n,b,o⟩:=h;have⟨s,t,u,v,c,w⟩:=h';have x:p=a:=by
  rcases Nat.lt_trichotomy p a with q|q|q;·have e:=(c _ Y Y).2.2.2.1 ((b (p-1) Y Y).2.2.2.2 Y);omega
  ·exact q
  ·have e:=(b _ Y Y).2.2.2.1 ((c (a-1) Y Y).2.2.2.2 Y);omega
 grind
theorem Qq.uniq{l}{f sp}:∀{R c}{pos}{m}{p b}{g a},Qq l f sp pos m R p g->Stop l f sp p g->Qq l f sp pos m c b a->Stop l f sp b a->R=c/\p=b/\g=a|[],[],_,_,_,_,_,_,⟨rfl,rfl⟩,_,⟨rfl,rfl⟩,_=>⟨rfl,rfl,rfl⟩|[],_::_,_,_,_,_,_,_,⟨rfl,rfl⟩,s,⟨p,g,h1,_⟩,_=>(s _ _ _ h1).elim|_::_,[],_,_,_,_,_,_,⟨p,g,h1,_⟩,_,⟨rfl,rfl⟩,s=>(s _ _ _ h1).elim|_::_,_::_,_,_,_,_,_,_,⟨p,g,h1,h2⟩,s,⟨b,a,h1',d⟩,s'=>by have⟨rfl,rfl,rfl⟩:=h1.uniq h1';have⟨rfl,rfl,rfl⟩:=h2.uniq s d s';exact⟨rfl,rfl,rfl⟩
def IJ(l:List PG)(f b p:Nat)(e m:BitVec 32)(c:Zt)(d:BitVec 32):Prop:=b<=p/\c=Mc l f b (p-b)/\c.length<=6000/\(p=b/\d=0#32/\m=e\/b<p/\d=m/\e<=m/\¬m=0#32/\∀a,b<=a->a<p->MG (YI l (f+a)) ((a:Int)+1)/\TH (YI l (f+a))=m/\(Lg (YI l (f+a))↔a=b)/\¬FT (YI l (f+a)))
theorem IJ.Zkr{l}{f sp b p}{i m}{k}{o}(h:IJ l f b p i m k o){r}{a}{g}(s:Nb l f sp b i r a g):p<a/\(b<p->g=m):=by
 have⟨t,u,v,j⟩:=h;have⟨n,w,x,y,c,z⟩:=s;rcases j with⟨d,-,-⟩|⟨d,-,-,-,e⟩;·grind
 ·refine⟨?_,λ_=>by rw[<-(c b Y n).2.1,(e _ Zb d).2.1]⟩;rcases Ru p a with q|q;·exact q
  ·exact((e _ Y Y).2.2.2 ((c (a-1) Y Y).2.2.2.2 Y)).elim
theorem IJ.stop{l}{f sp a p}{q m}{j}{c}(h:IJ l f a p q m j c)(z:¬(p<sp/\(MG (YI l (f+p)) (p+1)/\m<=TH (YI l (f+p)))/\(Lg (YI l (f+p))↔c=0#32)/\(¬c=0#32->TH (YI l (f+p))=c)/\j.length+(wP (YI l (f+p))).2.2.2.length<=6000)):Stop l f sp a q:=by
 intro I g H o;obtain⟨x,y⟩:=h.Zkr o;obtain⟨B,s,C,i⟩:=h;obtain⟨D,E,t,F,u,v⟩:=o;obtain⟨w,k,n,G⟩:=u p Y x;refine z ⟨Y,⟨w,?_⟩,?_,λb=>XA,?_⟩
 ·rcases i with⟨b,-,d⟩|⟨b,-,-,-,A⟩;·rw[k,d];exact t
  ·rw[k,y b];exact oX _
 ·rcases i with⟨b,e,d⟩|⟨b,e,-,d,A⟩;·rw[n];exact⟨λ_=>e,λ_=>b⟩
  ·rw[n];exact⟨λr=>Y,λr=>absurd (e▸r) d⟩
 ·have:=aE l f a (p-a+1) (g-a-(p-a+1));rw[show p-a+1+(g-a-(p-a+1))=g-a by omega,<-v,ue,Yw,<-s,show a+(p-a)=p by omega]at this;omega
theorem IJ.next{l}{f sp b p}{e m}{d}{g}(h:IJ l f b p e m d g)(A:¬e=0#32)(h1:p<sp)(h2:MG (YI l (f+p)) (p+1))(I:m<=TH (YI l (f+p)))(y:Lg (YI l (f+p))↔g=0#32)(J:¬g=0#32->TH (YI l (f+p))=g)(z:d.length+(wP (YI l (f+p))).2.2.2.length<=6000):(¬FT (YI l (f+p))->IJ l f b (p+1) e (TH (YI l (f+p))) (d++(wP (YI l (f+p))).2.2.2) (TH (YI l (f+p))))/\(FT (YI l (f+p))->Nb l f sp b e (d++(wP (YI l (f+p))).2.2.2) (p+1) (TH (YI l (f+p)))):=by
 obtain⟨G,x,H,o⟩:=h;have t:d++(wP (YI l (f+p))).2.2.2=Mc l f b (p+1-b):=by rw[show p+1-b=p-b+1by omega,ue,<-x,show b+(p-b)=p by omega]
 have u:(d++(wP (YI l (f+p))).2.2.2).length<=6000:=by rw[Yw];exact z
 have j:e<=TH (YI l (f+p)):=by grind
 have B:¬TH (YI l (f+p))=0#32:=by intro c;rw[c]at j;exact A (dF j)
 have s:∀a,b<=a->a<p->MG (YI l (f+a)) ((a:Int)+1)/\TH (YI l (f+a))=TH (YI l (f+p))/\(Lg (YI l (f+a))↔a=b)/\¬FT (YI l (f+a)):=λa k w=>by
  rcases o with⟨c,-,-⟩|⟨c,i,-,r,K⟩;·omega
  ·grind
 have v:Lg (YI l (f+p))↔p=b:=by
  rw[y];rcases o with⟨c,i,-⟩|⟨c,i,-,r,-⟩;·exact⟨λ_=>c,λ_=>i⟩
  ·exact⟨λq=>absurd (i▸q) r,λq=>Y⟩
 refine⟨λn=>⟨Y,t,u,.inr ⟨Y,rfl,j,B,λa k w=>?_⟩⟩,λn=>⟨Y,Y,j,u,λa k w=>?_,t⟩⟩
 ·rcases Ru a p with q|q;·exact s a k q
  ·rw[show a=p by omega];exact⟨h2,rfl,v,n⟩
 ·rcases Ru a p with q|q;·obtain⟨C,D,E,F⟩:=s a k q;exact⟨C,D,E,λc=>absurd c F,λc=>Y⟩
  ·rw[show a=p by omega];exact⟨h2,rfl,v,λ_=>rfl,λ_=>n⟩
theorem Zf2{d}{f sp}{a g}(m:d.1.length<=4096):W (oE d f sp a g) λb=>b=true↔0<=f/\0<=sp/\f+sp<=d.1.length/\0#32<a/\a<=g:=by
 unfold oE I6;refine Yu (λb=>b=true↔0<=f/\0<=sp) λc=>J<|by simp only[Wx]at c⊢;omega λc=>J<|by simp only[Wx]at c;simp;omega λb e=>Yu (λb=>b=true↔0<=f/\0<=sp/\f<=d.1.length) (λc=>?_) (λc=>J<|Zm) λi h=>Yu (λb=>b=true↔0<=f/\0<=sp/\f+sp<=d.1.length) (λc=>?_) (λc=>J<|Zm) λj n=>Yu (λb=>b=true↔(0<=f/\0<=sp/\f+sp<=d.1.length)/\0#32<a) (λc=>J<|Zm) (λc=>J<|Zm) λk o=>Yu (λb=>b=true↔((0<=f/\0<=sp/\f+sp<=d.1.length)/\0#32<a)/\a<=g) (λc=>J<|Zm) (λc=>J<|Zm) λl p=>J Zm;·rw[bs];refine J ?_;have:=e.1 c;simp only[Wx];omega
 ·rw[bs];refine J ?_;have:=h.1 c;rw[show Zk (ZU (Ze (Zf d.1)) f)=d.1.length-f by simp only[Wx];exact ZK Y];simp only[Wx];omega
theorem Kh{ds}{k}{d}{α}{f:Yi->Option α}(h:ds[k]?=some d):O (ZA ds (Ze k)) f=f d:=be (Sz Zb h)
theorem ZsP{N c k}{ds}{d}{f sp:Nat}{a g}(hk:ds[k]?=some d)(I:DI N c d)(x8:d.2.2.2.2=false)(hN:N<=4096):W (Ir ds (some k) f sp a g) λo=>(o.2.2=0->f+sp<=N/\0#32<a/\a<=g/\∃n m,n<=sp/\o.1=some (some k,(f:Int),(sp:Int),g,(n:Int),false)/\o.2.1.length<=sp/\Qq d.2.1 f sp 0 a o.2.1 n m/\Stop d.2.1 f sp n m)/\(f+sp<=N->0#32<a->a<=g->o.2.2=0):=by
 have h1:=I.1;have hs:=I.seen;unfold Ir;rw[ko,Kh hk];refine Zj ((Zf2 Y).mono λy2 V=>Zp ⟨λt=>J ⟨λb=>(by cases b),λa1 a2 a3=>?_⟩,λt=>?_⟩);·simp only[Wx]at t;rw[V.2 ⟨Y,Y,Y,a2,a3⟩]at t;cases t
 have H:=V.1 (by simpa only[Wx]using t);have x7:¬a=0#32:=λb=>by have:=H.2.2.2.1;rw[b]at this;exact absurd this YP
 refine Wo (W.Vy (λh=>∃n:Nat,h.2.2.1=n/\n<=sp/\h.2.1.length<=n/\h.2.2.2=(some k,(f:Int),(sp:Int),g,(n:Int),false)/\¬h.1=0#32/\Qq d.2.1 f sp 0 a h.2.1 n h.1) (λh=>∃n m,n<=sp/\h.2.1.length<=sp/\h.2.2.2=(some k,(f:Int),(sp:Int),g,((n:Nat):Int),false)/\Qq d.2.1 f sp 0 a h.2.1 n m/\Stop d.2.1 f sp n m) (λh=>(sp-h.2.2.1).toNat) (λ_=>False) ⟨0,rfl,Y,Zb,rfl,x7,rfl,rfl⟩ Zw (λh K=>?_) (λh K=>J ⟨λ_=>?_,λ_ _ _=>rfl⟩) λ_ b=>b.elim)
 ·obtain⟨z,P,u3,u4⟩:=h;obtain⟨n,S,r,e3,T,D,B⟩:=K;dsimp only at S e3 T D B;subst S T;refine Zp ⟨λF=>?_,λF=>J ⟨n,z,r,Zw,rfl,B,λp e g' j=>?_⟩⟩
  ·simp only[Wx]at F;refine Wo (W.Vy (λv=>∃e:Nat,v.2.2.1=e/\e<=sp/\v.2.1=P/\v.2.2.2.2.2=(some k,(f:Int),(sp:Int),g,(n:Int),false)/\IJ d.2.1 f n e z v.1 v.2.2.2.1 v.2.2.2.2.1) (λ_=>False) (λv=>(sp-v.2.2.1).toNat) (λp=>match p with|.brk l=>l.2.1=P/\l.2.2.2=(some k,(f:Int),(sp:Int),g,(n:Int),false)/\Stop d.2.1 f sp n z|.next l=>∃p y,l.2.2.1=((y:Nat):Int)/\l.2.1=P++[p]/\l.2.2.2=(some k,(f:Int),(sp:Int),g,(y:Int),false)/\Nb d.2.1 f sp n z p y l.1|.ret _=>False) ⟨n,rfl,r,rfl,rfl,YG _,by simp[Mc],Zb,.inl ⟨rfl,rfl,rfl⟩⟩ Zw (λ⟨v1,v2,v3,v4,i,v6⟩⟨e,q1,q2,q3,q4,q⟩=>?_) (λ_ b=>b.elim) λp j=>?_)
   ·dsimp only at q1 q3 q4 q;subst q1 q3 q4;refine Zp ⟨λu=>?_,λu=>?_⟩;·rw[Ri]at u;rw[bs];exact J ⟨rfl,rfl,q.stop λb=>by have:=b.1;dsimp only at u;omega⟩
    rw[Ha]at u;have hp:e<sp:=by dsimp only at u;omega
    dsimp only;rw[ko,Kh hk,show Zk (Zu (f:Int) (e:Int))=((f+e:Nat):Int)by simp only[Wx];rw[ZK Y];omega];refine Zj ((mF I).mono λrd x3=>?_);have x2:=x3.2 x8 Y Y;obtain⟨-,-,-,pv,x1,xs⟩:=x3.1 x2;refine Zp ⟨λU=>by rw[x2]at U;simp only[Wx]at U,λ_=>?_⟩;have xv:rd.1=YI d.2.1 (f+e):=by rw[xs];unfold YI;rw[Vz]at x1;rw[Rf,x1];rfl
    rw[xv,show Zk (Zu (e:Int) 1)=(e:Int)+1by simp only[Wx];exact ZK Y];refine Zj ((Zf8 (yB _ _)).mono λx5 M=>Yu (λc=>(c=false->(MG (YI d.2.1 (f+e)) ((e:Int)+1)/\v1<=TH (YI d.2.1 (f+e)))/\x5.1=wP (YI d.2.1 (f+e))/\(Lg (YI d.2.1 (f+e))↔i=0#32))/\(c=true->¬((MG (YI d.2.1 (f+e)) ((e:Int)+1)/\v1<=TH (YI d.2.1 (f+e)))/\(Lg (YI d.2.1 (f+e))↔i=0#32)))) (λw=>J ?_) (λw=>J ?_) λc X=>Zp ⟨λG=>?_,λG=>?_⟩);·rw[w];refine⟨λb=>(by cases b),λ_ b=>?_⟩;rw[M.1.2 b.1]at w;cases w
    ·have x4:x5.2=true:=by simpa only[Wx]using w
     have O:=M.2 x4;rw[O];have Z:Zy (I9 (Zs i 0#32) (Zy (Zs (Sv (wP (YI d.2.1 (f+e))).2.2.1 1) 0)))=false↔(Lg (YI d.2.1 (f+e))↔i=0#32):=by show Zy (I9 (Zs i 0#32) (Zy (Zs (Sv (kk (YI d.2.1 (f+e))) 1) 0)))=false↔(¬Sv (kk (YI d.2.1 (f+e))) 1=0↔i=0#32);by_cases c1:i=0#32<;>by_cases c2:Sv (kk (YI d.2.1 (f+e))) 1=0<;>simp[Zs,Hb,I9,Zy,c1,c2]
     refine⟨λb=>⟨M.1.1 x4,rfl,Z.1 b⟩,λb r=>?_⟩;rw[Z.2 r.2]at b;cases b
    ·rw[bs];exact J ⟨rfl,rfl,q.stop λb=>X.2 G ⟨b.2.1,b.2.2.1⟩⟩
    ·obtain⟨⟨x0,xk⟩,O,x9⟩:=X.1 G;rw[O];refine Yu (λx6=>x6=false↔¬i=0#32->TH (YI d.2.1 (f+e))=i) (λx=>J ?_) (λx=>J ?_) λx6 hz=>Zp ⟨λC=>?_,λC=>?_⟩;·simp only[Wx]at x;show Zy (Zs (TH (YI d.2.1 (f+e))) i)=false↔_;simp only[Wx];exact⟨λb _=>b,λb=>b x⟩
     ·simp only[Wx]at x;exact⟨λ_ b=>absurd x b,λ_=>rfl⟩
     ·rw[bs];exact J ⟨rfl,rfl,q.stop λb=>by rw[hz.2 b.2.2.2.1]at C;cases C⟩
     ·have y4:(wP (YI d.2.1 (f+e))).2.2.2.length<=110:=by have:=x0.1;show(List.take _ _).length<=110;rw[UF];omega
      have y3:=q.2.2.1;refine Xa ⟨by simp only[Wx];omega,Zp ⟨λE=>?_,λE=>?_⟩⟩;·rw[bs];refine J ⟨rfl,rfl,q.stop λb=>?_⟩;have:=b.2.2.2.2;simp only[Wx,Yw]at E;omega
      ·obtain⟨y0,y1⟩:=q.next D hp x0 xk x9 (hz.1 C) (by simp only[Wx,Yw]at E;omega);rw[show(e:Int)+1=((e+1:Nat):Int)from rfl];refine Zp ⟨λs=>Xa ⟨by simp only[Wx,V9];omega,?_⟩,λs=>J ⟨⟨e+1,rfl,Y,rfl,rfl,y0 ?_⟩,Zw⟩⟩;·rw[bs];refine J ⟨_,e+1,rfl,rfl,rfl,y1 ?_⟩;simp only[Wx]at s;exact s
       ·simp only[Wx]at s;exactλb=>b s
   ·cases p with|ret _=>exact j.elim|brk l=>exact⟨n,z,r,by rw[j.1];omega,j.2.1,by rw[j.1];exact B,j.2.2⟩|next l=>obtain⟨p,y,Q,R,b3,A⟩:=j;have b5:=A.1;refine⟨⟨y,Q,A.2.1,by rw[R,Yw,V9];omega,b3,λb=>?_,by rw[R];exact B.snoc A⟩,by dsimp only;rw[Q];omega⟩;have:=A.2.2.1;rw[b]at this;exact D (dF this)
  ·simp only[Wx]at F;have:=j.1;have:=j.2.1;omega
 ·obtain⟨n,m,k1,k2,k3,k4,k5⟩:=K;exact⟨Y,H.2.2.2.1,H.2.2.2.2,n,m,k1,by rw[k3],k2,k4,k5⟩
def Mp(b:Zt)(g:Nat):Prop:=(∀a:Nat,a<3->b.getD a 0#8=0#8/\b.getD (120+a) 0#8=0#8)/\(b.getD 3 0#8).toNat<g/\(b.getD 123 0#8).toNat<g
theorem vW(x):∀(k i),i<k->(Y6 x k).getD i 0#8=(x>>>(8*(k-1-i))).setWidth 8|0,i,h=>Y|k+1,0,_=>by simp[Y6]|k+1,i+1,h=>by show(Y6 x k).getD i _=_;rw[vW x k i Y];grind
theorem Zlv{g n}(e:g.toNat<256):(∀i,i<3->(Y6 (Qd g n) 8).getD i 0#8=0#8)/\((Y6 (Qd g n) 8).getD 3 0#8).toNat=g.toNat:=by
 have d:∀a,8<=a->g.getLsbD a=false:=λa b=>by rw[BitVec.getLsbD,Nat.testBit_lt_two_pow (BG e (by have:=Ix (show 0<2by simp) b;simpa using this))]
 refine⟨λi f=>?_,?_⟩;·rw[vW _ _ _ Y];apply wv;intro a b;have c:n.getLsbD (8*(8-1-i)+a)=false:=BitVec.getLsbD_of_ge _ _ Y;simp[Qd,b,Y,c,d (8*(8-1-i)+a-32) Y]
 ·rw[vW _ _ _ Zb];have:(Qd g n>>>(8*(8-1-3))).setWidth 8=g.setWidth 8:=by apply wv;intro a b;simp[Qd,b,Y,show 32+a<64by omega,Y]
  grind
theorem Zmt{g}{n}{k}{d}(a:g.toNat<256)(h:d.length<=110):(∀i,i<3->(SP g n k d).getD i 0#8=0#8/\(SP g n k d).getD (120+i) 0#8=0#8)/\((SP g n k d).getD 3 0#8).toNat=g.toNat/\((SP g n k d).getD 123 0#8).toNat=g.toNat:=by
 have⟨j,c⟩:=Zlv (n:=Z6 _ n) a;have f:∀i:Nat,i<8->(SP g n k d).getD i _=(Y6 _ 8).getD i 0#8:=λi b=>by rw[<-qb,Rf,Rf,Ps,YW b]
 have e:∀i:Nat,(SP g n k d).getD _ _=(Y6 _ 8).getD i 0#8:=λi=>by
  have:(SP g n k d).drop 120=Y6 (Qd g (Z6 _ n)) 8:=by rw[show 120=10+110from rfl,<-UV,r9,<-Z5];exact Mf WI
  rw[<-this,Rf,Rf,Rt]
 exact⟨Zm,by exact c,Zm⟩
theorem Ij{o v}{c}(b:c<=128)(i):(Oe o v c).toList.getD i 0#8=if i<c then v.toList.getD i 0#8 else o.toList.getD i 0#8:=by
 rw[Zsz o v b,Rf,List.getElem?_append];have d:(List.take c v.toList).length=c:=Zm;rw[d];by_cases a:i<c;·grind
 ·rw[Yg a,Yg a,Rt,Rf,show c+(i-c)=i by omega]
theorem ZcE{a b:PG}(h:∀i,i<128->a.toList.getD i 0#8=b.toList.getD i 0#8):a=b:=by
 apply nH;apply BC;intro i;by_cases c:i<128;·simp_all
 ·simp_all
def ZfJ(b:Zt)(g:Nat):Prop:=(∀a:Nat,a<3->b.getD a 0#8=0#8/\b.getD (120+a) 0#8=0#8)/\(b.getD 3 0#8).toNat=g/\(b.getD 123 0#8).toNat=g
theorem jL{b:Zt}(h:b.drop 120=b.take 8)(i)(hi:i<8):b.getD (120+i) 0#8=b.getD i 0#8:=by have:=X7 (·.getD i 0#8) h;simp only[Rf,Rt,Ps,YW hi]at this⊢;exact this
theorem Zsw{o v}{c g}(b:c<=128)(m:Mp o.toList g)(hv:ZfJ v.toList g)(l:v.toList.drop 120=v.toList.take 8):(Oe o v c=o\/Oe o v c=v\/¬(Oe o v c).toList.drop 120=(Oe o v c).toList.take 8)/\Mp (Oe o v c).toList (g+1):=by
 obtain⟨h,r,s⟩:=m;obtain⟨i,n,t⟩:=hv;refine⟨?_,λa d=>⟨?_,?_⟩,by rw[Ij b];split<;>omega,by rw[Ij b];split<;>omega⟩
 ·by_cases p:c<=3
  ·left;apply ZcE;intro a d;rw[Ij b];by_cases e:a<c;·rw[YW e,(i a Y).1,(h a Y).1]
   ·rw[Yg e]
  ·right;by_cases f:(Oe o v c).toList.drop 120=(Oe o v c).toList.take 8
   ·left;by_cases q:c<=123;·exfalso;have:=jL f 3 Y;rw[Ij b,Ij b,Yg Y,YW Y]at this;have:=X7 BitVec.toNat this;rw[n]at this;change(o.toList.getD 123 0#8).toNat=g at this;omega
    ·apply ZcE;intro a d;by_cases e:a<c;·rw[Ij b,YW e]
     ·have j:=jL f (a-120) Y;have k:=jL l (a-120) Y;rw[show 120+(a-120)=a by omega]at j k;rw[j,Ij b,YW Y,k]
   ·exact .inr f
 ·rw[Ij b];split;·exact(i a d).1
  ·exact(h a d).1
 ·rw[Ij b];split;·exact(i a d).2
  ·exact(h a d).2
def Y9(n:Nat):Nat:=max ((n+109)/110) 1
theorem bG{n:Nat}(h:n<=1000000000):oD n=some (Y9 n:Int):=by refine Vo (Zp ⟨λb=>Zm,λ_=>L2.2 ⟨Zb,J ?_⟩⟩);·rw[show Zk (ZU n 1)=n-1by simp[Wx];exact ZK Y];unfold Y9;cases n with|zero=>rw[show TX _ _=0 by rw[ki];rfl,show Zk 0=0from ZK Zb,show Zk _=1by simp[Wx];exact ZK Zb];simp only[Wx];rfl|succ a=>rw[JK Zb,show Zk (((a+1:Nat)-1)/110)=a/110by rw[ZK Y];omega,show Zk _=a/110+1by simp[Wx];rw[ZK Y]];simp[Wx];omega
def QG(l:Zt):PG:=if h:l.length=128then⟨l.toArray,by simp[h]⟩else Uf
theorem FZ{l}(h:l.length=128):(QG l).toList=l:=by unfold QG;simp_all
theorem ZbW{v:PG}{l:Zt}(h:v.toList=l):v=QG l:=by apply nH;rw[FZ Zm,h]
def kd(K i:Nat):BitVec 8:=(if i=0then 1#8 else 0#8)|||if i+1=K then 2#8 else 0#8
def SB(G:BitVec 32)(n K:Nat)(b:Zt)(i:Nat):Zt:=SP G ((n+i+1:Nat):Int) (kd K i) ((b.drop (110*i)).take 110)
def Sk(G:BitVec 32)(f n K:Nat)(b:Zt)(j:Nat):List I4:=(List.range j).map λa=>(((f+n+a:Nat):Int),QG (SB G n K b a))
theorem ik{G}{f n K}{b}{j}:Sk G f n K b (j+1)=Sk G f n K b j++[(((f+n+j:Nat):Int),QG (SB G n K b j))]:=by unfold Sk;rw[nw,Vg];rfl
theorem CT{G}{n K}{b}{i}:(SB G n K b i).length=128:=Zms Zm
theorem or1:HJ 0 1=1:=by rw[rX];decide
theorem or2:HJ 0 2=2:=by rw[rX];decide
theorem or3:HJ 1 2=3:=by rw[rX];decide
theorem ZkP(K i):(kd K i).toNat<=3:=by unfold kd;split<;>split<;>decide
theorem P9{α:Type}{ds:List α}{k}{d}(a:ds[k]?=some d):ds=ds.set k d:=by
 have b:=(Wm a).1;apply BC;intro c;rw[wE];split;·grind
 ·rfl
theorem Zf4{l}:xZ l 6=some ((l.1,l.2.1,l.2.2.1,l.2.2.2.1,l.2.2.2.2.1,true),6):=by exact Vo (Yu (λa=>a=true) (λ_=>J rfl) (λ_=>J Zb) λa b=>J Zm)
theorem ZsS{l}(h:l.2.2.2.2.2=false):xZ l 0=some ((l.1,l.2.1,l.2.2.1,l.2.2.2.1,l.2.2.2.2.1,false),0):=by exact Vo (Yu (λa=>a=false) Zm (λ_=>J Zb) λa b=>J (by rw[b]))
theorem de{N c k}{ds}{d}{f sp n}{G}{fl}{b}(P:ds[k]?=some d)(z:DI N c d)(hc:c<=1000000000)(hN:N<=4096)(x6:f+sp<=N)(hn:n<=sp)(hb:b.length<=1000000000):W (xY (some k,f,sp,G,n,fl) ds b) λo=>∃d' j,o.2.1=ds.set k d'/\DI N (c+4096) d'/\d'.1=d.1/\d'.2.2.1=d.2.2.1++Sk G f n (Y9 b.length) b j/\j<=Y9 b.length/\n+j<=sp/\(o.2.2=0/\fl=false/\b.length<=6000/\n+Y9 b.length<=sp/\j=Y9 b.length/\o.1=(some k,(f:Int),(sp:Int),G,((n+Y9 b.length:Nat):Int),false)\/o.2.2=6/\o.1=(some k,(f:Int),(sp:Int),G,(n:Int),true)/\(fl=true->d'=d/\j=0)/\(fl=false->b.length<=6000/\n+Y9 b.length<=sp)\/(o.2.2=3\/o.2.2=5)/\fl=false/\d'=d/\j=0/\o.1=(some k,(f:Int),(sp:Int),G,(n:Int),fl))/\(fl=false->b.length<=6000->n+Y9 b.length<=sp->d.2.2.2.1<0->d.2.2.2.2=false->o.2.2=0/\d'.2.2.2=d.2.2.2):=by
 have A:=P9 P;unfold xY;rw[be (bG (n:=b.length) hb)];refine Zp ⟨λg=>J ⟨d,0,A,z.le Y,rfl,by simp[Sk],Y,Y,.inr (.inl ⟨rfl,?_,λ_=>⟨rfl,rfl⟩,λm=>?_⟩),λm=>?_⟩,λg=>?_⟩;·dsimp only at g;rw[g]
 ·dsimp only at g;rw[g]at m;cases m
 ·dsimp only at g;rw[g]at m;cases m
 dsimp only at g;subst g;refine Zp ⟨λg=>J ⟨d,0,A,z.le Y,rfl,by simp[Sk],Y,Y,.inr (.inr ⟨.inl rfl,rfl,rfl,rfl,rfl⟩),λ_ m=>?_⟩,λg=>?_⟩;·simp only[Wx]at g;omega
 simp only[Wx]at g;rw[show oC (some k,(f:Int),(sp:Int),G,(n:Int),false)=some ((sp-n:Nat):Int)by unfold oC;dsimp only;simp only[Wx];rw[ZK Y];congr 1;omega,bs];refine Zp ⟨λC=>J ⟨d,0,A,z.le Y,rfl,by simp[Sk],Y,Y,.inr (.inr ⟨.inr rfl,rfl,rfl,rfl,rfl⟩),λ_ _ m=>?_⟩,λC=>?_⟩;·simp only[Wx]at C;omega
 simp only[Wx]at C;have O:b.length<=6000:=Y;have Q:n+Y9 b.length<=sp:=Y;generalize hK:Y9 b.length=K at*;have x5:K=max ((b.length+109)/110) 1:=hK.symm;refine Wo (W.Vy (λl=>∃(a:Nat)(d':Yi),l.1=a/\a<=K/\l.2.1=ds.set k d'/\l.2.2=(some k,(f:Int),(sp:Int),G,(n:Int),false)/\DI N (c+a) d'/\d'.1=d.1/\d'.2.2.1=d.2.2.1++Sk G f n K b a/\(d.2.2.2.1<0->d.2.2.2.2=false->d'.2.2.2=d.2.2.2)) (λl=>∃(d':Yi),l.2.1=ds.set k d'/\l.2.2=(some k,(f:Int),(sp:Int),G,(n:Int),false)/\DI N (c+K) d'/\d'.1=d.1/\d'.2.2.1=d.2.2.1++Sk G f n K b K/\(d.2.2.2.1<0->d.2.2.2.2=false->d'.2.2.2=d.2.2.2)) (λl=>(K-l.1).toNat) (λB=>∃(a:Nat)(d':Yi),a<=K/\B.1=(some k,(f:Int),(sp:Int),G,(n:Int),true)/\B.2.1=ds.set k d'/\B.2.2=6/\DI N (c+a+1) d'/\d'.1=d.1/\d'.2.2.1=d.2.2.1++Sk G f n K b a/\(d.2.2.2.1<0->d.2.2.2.2=false->False)) ⟨0,d,rfl,Y,A,rfl,z,rfl,by simp[Sk],λ_ _=>rfl⟩ Zw (λl F=>?_) (λl F=>J ?_) λB⟨a,d',U,V,X,Z,H,I,q7,q8⟩=>⟨d',a,X,H.le Y,I,q7,U,Y,.inr (.inl ⟨Z,V,λm=>(by cases m),λ_=>⟨O,Q⟩⟩),λ_ _ _ h i=>(q8 h i).elim⟩)
 ·obtain⟨u1,u2,u3⟩:=l;obtain⟨a,d',M,e2,r,s,x,t,u,q⟩:=F;dsimp only at M r s;subst M r s;refine Zp ⟨λy=>?_,λy=>J ⟨d',rfl,rfl,?_,t,?_,q⟩⟩
  ·simp only[Wx]at y;dsimp only;have x3:Zk (Vq (a:Int) 110)=((110*a:Nat):Int):=by simp only[Wx];rw[ZK Y];omega
   have x4:Zk (Vq (Zk (Zu (a:Int) 1)) 110)=((110*a+110:Nat):Int):=by simp only[Wx];rw[ZK (n:=(a:Int)+1) Y,ZK Y];omega
   rw[x3,x4];refine Zj (N0.2 ⟨by simp only[Wx];omega,?_⟩);have x0:List.drop ((110*a:Nat):Int).toNat (List.take (Tj ((110*a+110:Nat):Int) (Ze (Zf b))).toNat b)=(b.drop (110*a)).take 110:=by
    simp only[Wx];rw[MQ,Vz];by_cases hq:110*a+110<=b.length;·congr 1;omega
    ·rw[VT (by rw[Wn];omega),VT (by rw[Wn];omega)]
   rw[x0];have x1:Zk (Zu (Zk (Zu (n:Int) (a:Int))) 1)=((n+a+1:Nat):Int):=by simp only[Wx];rw[ZK (n:=(n:Int)+a) Y,ZK Y];omega
   rw[x1];refine Yu (λw=>w=(G,((n+a+1:Nat):Int),(if a=0then 1 else 0:Int),(b.drop (110*a)).take 110)) (λe=>J ?_) (λe=>J ?_) λw E=>?_;·simp only[Wx]at e;rw[YW Y,or1]
   ·simp only[Wx]at e;rw[Yg Y]
   subst E;refine Yu (λw=>w=(G,((n+a+1:Nat):Int),((kd K a).toNat:Int),(b.drop (110*a)).take 110)) (λe=>J ?_) (λe=>J ?_) λw E=>?_
   ·simp only[Wx]at e;rw[ZK Y]at e;have:a+1=K:=Y;unfold kd;rw[YW this];by_cases p:a=0;·rw[YW p,YW p];dsimp only;rw[or3];rfl
    ·rw[Yg p,Yg p];dsimp only;rw[or2];rfl
   ·simp only[Wx]at e;rw[ZK Y]at e;have:¬a+1=K:=Y;unfold kd;rw[Yg this];by_cases p:a=0;·rw[YW p,YW p];rfl
    ·rw[Yg p,Yg p];rfl
   subst E;rw[be (Zmk (k:=kd K a) rfl (by rw[UF];omega))];refine Zp ⟨λe=>by simp only[Wx]at e,λ_=>?_⟩;rw[ko,Kh (d:=d') (by rw[wE,YW rfl,YW (Wm P).1])];have x2:Zk (Zu (Zk (Zu (f:Int) (n:Int))) (a:Int))=((f+n+a:Nat):Int):=by simp only[Wx];rw[ZK (n:=(f:Int)+n) Y,ZK Y];omega
   rw[x2];refine Zj ((bX (b:=SP G ((n+a+1:Nat):Int) (kd K a) ((b.drop (110*a)).take 110)) x Y).mono λo⟨R,S,o3,o4,o5,o6,T⟩=>?_);have D:(SP G ((n+a+1:Nat):Int) (kd K a) ((b.drop (110*a)).take 110)).length=128:=CT (K:=K);refine Zp ⟨λe=>?_,λe=>J ?_⟩
   ·simp only[Wx]at e;rw[(o6 D Y Y).resolve_left e,be Zf4,bs];refine J ⟨a,o.1,Y,rfl,?_,rfl,R,by rw[S,t],by rw[o4 e,u],λh i=>?_⟩;·show Y3 (ds.set k d') k o.1=_;simp only[Wx,Sa]
    ·have:=T (by rw[q h i];exact h) (by rw[q h i];exact i) D Y Y;exact e this.1
   ·simp only[Wx]at e;obtain⟨U,V,X,Z,v,H,I⟩:=o3 e;refine⟨⟨a+1,o.1,?_,Y,?_,rfl,R,by rw[S,t],by rw[I,u,ik,Z5,ZbW H];rfl,λh i=>?_⟩,?_⟩;·show Zk (Zu (a:Int) 1)=_;simp only[Wx];rw[ZK Y];rfl
    ·show Y3 (ds.set k d') k o.1=_;simp only[Wx,Sa]
    ·have:=T (by rw[q h i];exact h) (by rw[q h i];exact i) D Y Y;rw[this.2];exact q h i
    ·show((K:Int)-Zk (Zu (a:Int) 1)).toNat<_;simp only[Wx];rw[ZK Y];omega
  ·simp only[Wx]at y;have:a=K:=Y;rw[<-this];exact x
  ·simp only[Wx]at y;have:a=K:=Y;rwa[this]at u
 ·obtain⟨u1,u2,u3⟩:=l;obtain⟨d',r,s,x,t,u,q⟩:=F;dsimp only at r s;subst r s;refine⟨d',K,rfl,x.le Y,t,u,Y,Y,.inl ⟨rfl,rfl,O,Q,rfl,?_⟩,λ_ _ _ h i=>⟨rfl,q h i⟩⟩;dsimp only;rw[show Zk (Zu (n:Int) (K:Int))=((n+K:Nat):Int)by simp only[Wx];rw[ZK Y];omega]
theorem dh{N c k}{ds}{d}{f sp n}{G}{fl}(g:ds[k]?=some d)(b:DI N c d)(m:c<4000000000):W (oB (some k,f,sp,G,n,fl) ds) λo=>∃d',o.2.1=ds.set k d'/\DI N c d'/\(o.2.2=0/\fl=false/\o.1=(some k,f,sp,G,n,false)/\d'.1=PK d.1 d.2.2.1/\d'.2.2.1=[]\/o.2.2=6/\o.1=(some k,f,sp,G,n,true)/\d'.1=d.1/\d'.2.2.1=d.2.2.1)/\(fl=false->d.2.2.2.1<0->d.2.2.2.2=false->o.2.2=0/\d'.2.2.2=d.2.2.2):=by
 refine Zp ⟨λa=>J ⟨d,P9 g,b,.inr ⟨rfl,?_,rfl,rfl⟩,λe=>?_⟩,λa=>?_⟩;·dsimp only at a;rw[a]
 ·grind
 subst a;rw[ko,Kh g];refine Zj ((bc b m).mono λo⟨h,p,q,r,t⟩=>?_);rcases p with e|e;·have⟨i,j,l,s⟩:=q e;rw[e,be (ZsS rfl)];exact J ⟨o.1,rfl,h,.inl ⟨rfl,rfl,rfl,l,s⟩,Zm⟩
 ·obtain⟨i,j,l⟩:=r e;rw[e,be Zf4];exact J ⟨o.1,rfl,h,.inr ⟨rfl,rfl,i,j⟩,Zm⟩
theorem Mp.mono{b}{g a}(h:Mp b g)(c:g<=a):Mp b a:=⟨h.1,by have:=h.2.1;omega,by have:=h.2.2;omega⟩
theorem ij{b}{g}(n:b.length=128)(h:Mp b g):(TH b).toNat<g:=by
 obtain⟨d,l,-⟩:=h;have m:Y6 _ 8=b.take 8:=vX 8 _ Zm Zb;have c:∀a,a<8->b.getD a _=(Tl _>>>(8*(8-1-a))).setWidth 8:=λa f=>by rw[<-vW _ 8 a f,m,Rf,Rf,Ps,YW f]
 have i:=X7 BitVec.toNat ((c 0 Zb).symm.trans (d 0 Zb).1);have j:=X7 BitVec.toNat ((c 1 Zb).symm.trans (d 1 Zb).1);have k:=X7 BitVec.toNat ((c 2 Zb).symm.trans (d 2 Zb).1);have e:=l;rw[c 3 Zb]at e;unfold TH;simp at i j k e⊢;omega
theorem zt{α:Type}{l:List α}{i j}{x d}(h:i<l.length):(l.set i x).getD j d=if i=j then x else l.getD j d:=by rw[Rf,wE];grind
theorem mT{G}{f n K}{b}{l}:∀{j},f+n+j<=l.length->(∀x,x<f+n\/f+n+j<=x->(PK l (Sk G f n K b j)).getD x Uf=l.getD x Uf)/\∀i,i<j->(PK l (Sk G f n K b j)).getD (f+n+i) Uf=QG (SB G n K b i)|0,_=>⟨λ_ _=>rfl,Zb⟩|j+1,h=>by obtain⟨a,c⟩:=mT (f:=f) (n:=n) (l:=l) (j:=j) Y;rw[ik,mS,Vz];refine⟨λx e=>by rw[zt (by rw[AA];omega),Yg Y];exact a x Y,λi d=>?_⟩;·rw[zt (by rw[AA];omega)];grind
theorem eJ{G}{f n K}{b}{l}:∀{j}{d},f+n+j<=l.length->Nc l (Sk G f n K b j) d->(∀x,x<f+n\/f+n+j<=x->d.getD x Uf=l.getD x Uf)/\∀i,i<j->∃c,c<=128/\d.getD (f+n+i) Uf=Oe (l.getD (f+n+i) Uf) (QG (SB G n K b i)) c
 |0,d,_,⟨cs,g,k,a⟩=>by
  have:d=l:=by rw[a];rfl
  grind|j+1,d,h,⟨cs,g,k,a⟩=>by
  have q:cs≠[]:=by intro m;rw[m]at g;simp[Sk]at g
  obtain⟨e,c,rfl⟩:∃e c,cs=e++[c]:=⟨cs.dropLast,cs.getLast q,(Zgm q).symm⟩;rw[ik]at g a;simp only[Yw,V9]at g;have o:e.length=(Sk G f n K b j).length:=Y;obtain⟨s,r⟩:=eJ (G:=G) (f:=f) (n:=n) (K:=K) (b:=b) (l:=l) (j:=j) Y ⟨e,o,λc p=>k c (List.mem_append_left _ p),rfl⟩;have p:=k c Zb;rw[List.zip_append o.symm]at a;unfold EJ at a;rw[ns]at a;change d=List.set (EJ l ((Sk G f n K b j).zip e)) ((f+n+j:Nat):Int).toNat (Oe (List.getD (EJ l ((Sk G f n K b j).zip e)) ((f+n+j:Nat):Int).toNat Uf) (QG (SB G n K b j)) c)at a;rw[Vz]at a;rw[a];refine⟨λx u=>Zm,λi t=>?_⟩
  ·rw[zt (by rw[Zsv];omega)];by_cases m:i=j;·grind
   ·rw[Yg Y];exact r i Y
theorem Nb.congr{l a}{f sp pos}{m}{r}{p}{g}(h:Nb l f sp pos m r p g)(q:∀i,pos<=i->i<p->l.getD (f+i) Uf=a.getD (f+i) Uf):Nb a f sp pos m r p g:=by
 obtain⟨c,d,e,j,t,k⟩:=h;have s:∀i,pos<=i->i<p->YI l _=YI a _:=λi n o=>by unfold YI;rw[q i n o]
 refine⟨c,d,e,j,XA,?_⟩;rw[k];unfold Mc;congr 1;apply List.map_congr_left;intro i b;rw[List.mem_range']at b;obtain⟨v,u,rfl⟩:=b;rw[s _ Zb Y]
theorem Qq.le{l}{f sp}:∀{R}{pos}{m}{p}{g},Qq l f sp pos m R p g->pos<=p/\m<=g|[],_,_,_,_,⟨rfl,rfl⟩=>⟨Zb,Zb⟩|_::_,_,_,_,_,⟨p,g,h1,h2⟩=>⟨by have:=h1.1;have:=h2.le.1;omega,dE h1.2.2.1 h2.le.2⟩
theorem Qq.congr{l b}{f sp}:∀{R}{pos}{m}{p}{g},Qq l f sp pos m R p g->(∀i,i<p->l.getD (f+i) Uf=b.getD (f+i) Uf)->Qq b f sp pos m R p g|[],_,_,_,_,h,_=>h|_::_,_,_,_,_,⟨p,g,h1,h2⟩,a=>⟨p,g,h1.congr λi _ c=>a i (by have:=h2.le.1;omega),h2.congr a⟩
def Ot(l:List PG)(f sp:Nat)(G:BitVec 32)(R:List Zt)(n:Nat)(m:BitVec 32):Prop:=Qq l f sp 0 1#32 R n m/\Stop l f sp n m/\m<=G/\n<=sp/\∀a,n<=a->a<sp->Mp (YI l (f+a)) G.toNat
theorem Ot.up{l}{f sp}{G a}{R}{n}{m}(h:Ot l f sp G R n m)(b:G<=a):Ot l f sp a R n m:=⟨h.1,h.2.1,dE h.2.2.1 b,h.2.2.2.1,λe c d=>(h.2.2.2.2 e c d).mono b⟩
theorem eA{l}{f sp n}{m G}(c:G<=m)(h:n<sp->Mp (YI l (f+n)) G.toNat):Stop l f sp n m:=by intro i g a⟨a1,a2,a3,a4,a5,a6⟩;have b:=ij (yB _ _) (h Y);rw[(a5 n Zb a1).2.1]at b;have d:G.toNat<=m.toNat:=c;have e:m.toNat<=a.toNat:=a3;omega
theorem ZkO(K i):¬Sv (kd K i).toNat 1=0↔i=0:=by
 unfold kd;rw[vN];by_cases a:i=0<;>by_cases b:i+1=K;·rw[YW b];simp[a,iff_true];decide
 ·rw[Yg b];simp[a,iff_true];decide
 ·rw[YW b];simp[a,iff_false];decide
 ·rw[Yg b];simp[a,iff_false];decide
theorem Zbo(K i):¬Sv (kd K i).toNat 2=0↔i+1=K:=by
 unfold kd;rw[vN];by_cases a:i=0<;>by_cases b:i+1=K;·rw[YW a];simp[b,iff_true];decide
 ·rw[YW a];simp[b,iff_false];decide
 ·rw[Yg a];simp[b,iff_true];decide
 ·rw[Yg a];simp[b,iff_false];decide
theorem Znk{n i}(h:i+1=Y9 n):n<=110*(i+1):=by unfold Y9 at h;omega
theorem Zni{n i}(h:i+1<Y9 n):110*(i+1)<=n:=by unfold Y9 at h;omega
theorem yC{G}{n}{b}{i}(h:n<=4096)(g:b.length<=6000)(hi:i<Y9 b.length):MG (SB G n (Y9 b.length) b i) ((n+i:Nat)+1)/\TH (SB G n (Y9 b.length) b i)=G/\(Lg (SB G n (Y9 b.length) b i)↔i=0)/\(FT (SB G n (Y9 b.length) b i)↔i+1=Y9 b.length)/\(wP (SB G n (Y9 b.length) b i)).2.2.2=(b.drop (110*i)).take 110:=by
 have f:Y9 b.length<=55:=by unfold Y9;omega
 obtain⟨a,c⟩:=Zmu (n:=((n+i+1:Nat):Int)) (k:=kd (Y9 _) i) (d:=(b.drop (110*i)).take 110) Zm Y Y (ZkP _ _) (by
  by_cases e:i+1=Y9 b.length;·right;rw[Zbo];exact e
  ·left;have:=Zni (n:=b.length) (i:=i) Y;grind);refine⟨by exact a,ZcD,by unfold Lg SB;exact ZkO _ _,by unfold FT SB;exact Zbo _ _,by unfold SB;rw[c]⟩
theorem aF{l}{f n}{G}{b}(c:n<=4096)(a:b.length<=6000)(h:∀i,i<Y9 b.length->l.getD (f+n+i) Uf=QG (SB G n (Y9 b.length) b i)):∀j,j<=Y9 b.length->Mc l f n j=b.take (110*j)|0,_=>by simp[Mc]|j+1,d=>by rw[ue,aF c a h j Y,show f+(n+j)=f+n+j by omega];unfold YI;rw[h j Y,FZ CT,(yC c a Y).2.2.2.2,show 110*(j+1)=110*j+110by omega,Dc]
theorem ZeA{l}{f sp n}{G m}{b}(o:sp<=4096)(c:b.length<=6000)(g:m<=G)(d:n+Y9 b.length<=sp)(h:∀i,i<Y9 b.length->l.getD (f+n+i) Uf=QG (SB G n (Y9 b.length) b i)):Nb l f sp n m b (n+Y9 b.length) G:=by
 have j:0<Y9 b.length:=by unfold Y9;omega
 refine⟨Y,d,g,c,λi e k=>?_,?_⟩
 ·obtain⟨a,rfl⟩:=Zgs e;have d:=yC (G:=G) (n:=n) (i:=a) Y c Y;have:YI l (f+(n+a))=SB G n (Y9 b.length) b a:=by unfold YI;rw[show f+(n+a)=f+n+a by omega,h a Y,FZ CT]
  grind
 ·rw[show n+Y9 _-n=Y9 b.length by simp,aF Y c h _ Zb,VT];have:=Znk (n:=b.length) (i:=Y9 b.length-1) Y;omega
theorem Ot.app{l}{f sp n}{G m}{b}{R}(h:Ot l f sp G R n m)(x:f+sp<=l.length)(p:sp<=4096)(r:b.length<=6000)(c:n+Y9 b.length<=sp):Ot (PK l (Sk G f n (Y9 b.length) b (Y9 b.length))) f sp G (R++[b]) (n+Y9 b.length) G:=by
 have⟨k,u,o,v,q⟩:=h;obtain⟨e,s⟩:=mT (f:=f) (n:=n) (l:=l) (j:=Y9 b.length) Y;have d:∀a,n+Y9 b.length<=a->a<sp->Mp (YI _ _) _:=λa t i=>by unfold YI;rw[e (f+a) Y];exact q a Y i
 exact⟨(k.congr λa w=>(e _ Y).symm).snoc (ZeA p r o c s),eA Zb λg=>d _ Zb g,Zb,c,d⟩
theorem Zmv{G}{n K i}{b}(a:G.toNat<256):ZfJ (SB G n K b i) G.toNat:=Zmt a Zm
theorem Ot.lV{l a}{f sp n j}{G m}{b}{R}(h:Ot l f sp G R n m)(x5:f+sp<=l.length)(T:sp<=4096)(V:G.toNat<256)(hj:j<=Y9 b.length)(x3:n+j<=sp)(o:0<j->b.length<=6000/\n+Y9 b.length<=sp)(ht:Nc l (Sk G f n (Y9 b.length) b j) a):Ot a f sp (G+1#32) R n m\/0<j/\Ot a f sp (G+1#32) (R++[b]) (n+Y9 b.length) G:=by
 obtain⟨Q,S,E,U,t⟩:=h;obtain⟨w,q2⟩:=eJ Y ht;have W:(G+1#32).toNat=G.toNat+1:=by rw[BitVec.toNat_add];simp;omega
 have F:G<=G+1#32:=by show G.toNat<=(G+1#32).toNat;omega
 have B:∀i,i<j->(a.getD (f+n+i) Uf=l.getD (f+n+i) Uf\/a.getD (f+n+i) Uf=QG (SB G n (Y9 b.length) b i)\/¬(YI a (f+n+i)).drop 120=(YI a (f+n+i)).take 8)/\Mp (YI a (f+n+i)) (G.toNat+1):=λi p=>by obtain⟨x1,X,e⟩:=q2 i p;have A:=t (n+i) Y Y;unfold YI at A⊢;rw[show f+(n+i)=f+n+i by omega]at A;have:=Zsw X A (v:=QG (SB G n (Y9 b.length) b i)) (by rw[FZ CT];exact Zmv V) (by rw[FZ CT];exact(yC (G:=G) (n:=n) (b:=b) (i:=i) Y (o Y).1 Y).1.2.2.1);rw[e];exact this
 have L:∀i,n<=i->i<sp->Mp (YI a (f+i)) (G+1#32).toNat:=λi C D=>by
  rw[W];by_cases hq:i<n+j;·have:=(B (i-n) Y).2;rwa[show f+n+(i-n)=f+i by omega]at this
  ·unfold YI;rw[w (f+i) Y];exact(t i C D).mono Y
 have I:Qq a f sp 0 1#32 R n m:=Q.congr λi p=>(w (f+i) Y).symm;by_cases g:Stop a f sp n m;·exact .inl ⟨I,g,dE E F,U,L⟩
 obtain⟨x0,g⟩:=dJ g;obtain⟨d,g⟩:=dJ g;obtain⟨s,g⟩:=dJ g;have O:=Classical.not_not.1 g;have⟨C,D,a3,a4,y,a6⟩:=O;have N:∀i,i<j->QG (SB G n (Y9 b.length) b i)=a.getD (f+n+i) Uf->YI a (f+(n+i))=SB G n (Y9 b.length) b i:=λi p e=>by unfold YI;rw[show f+(n+i)=f+n+i by omega,<-e,FZ CT]
 by_cases J:s=G
 ·subst J;have H:∀i,n+i<d->i<j/\a.getD (f+n+i) Uf=QG (SB s n (Y9 b.length) b i):=λi p=>by
   have k:=y (n+i) Y p;by_cases u:i<j
   ·refine⟨u,?_⟩;rcases(B i u).1with e|e|e
    ·exfalso;have z:=ij (yB _ _) (t (n+i) Y Y);have:YI a (f+(n+i))=YI l (f+(n+i)):=by unfold YI;rw[show f+(n+i)=f+n+i by omega,e]
     rw[<-this,k.2.1]at z;omega
    ·exact e
    ·exfalso;rw[show f+n+i=f+(n+i)by omega]at e;exact e k.1.2.2.1
   ·exfalso;have z:=ij (yB _ _) (t (n+i) Y Y);have:YI a (f+(n+i))=YI l (f+(n+i)):=by unfold YI;rw[w _ Y]
    rw[<-this,k.2.1]at z;omega
  have K:=H (d-1-n) Y;have x4:d=n+Y9 b.length:=by have q:=K.1;have:=(y (d-1) Y Y).2.2.2.2 Y;have M:=N (d-1-n) q K.2.symm;rw[show n+(d-1-n)=d-1by omega]at M;rw[M]at this;have:=(yC (G:=s) (n:=n) (b:=b) (i:=d-1-n) Y (o Y).1 Y).2.2.2.1.1 this;omega
  have x2:j=Y9 b.length:=Y;have q:0<j:=Y;right;have Z:∀i,n+Y9 b.length<=i->i<sp->Mp (YI a (f+i)) s.toNat:=λi x r=>by unfold YI;rw[w (f+i) Y];exact t i Y r
  exact⟨q,I.snoc (ZeA T (o q).1 E (o q).2 λi p=>(H i Y).2),eA (oX _) λP=>Z _ (YG _) P,F,(o q).2,λi x r=>L i Y r⟩
 ·exfalso;refine S x0 d s (O.congr λi x r=>?_);obtain⟨c,rfl⟩:=Zgs x;have k:=y (n+c) x r;by_cases u:c<j
  ·rw[show f+(n+c)=f+n+c by omega];rcases(B c u).1with e|e|e;·exact e
   ·exfalso;rw[N c u e.symm]at k;have:=(yC (G:=G) (n:=n) (b:=b) (i:=c) Y (o Y).1 Y).2.1;rw[k.2.1]at this;exact J this
   ·exfalso;rw[show f+n+c=f+(n+c)by omega]at e;exact e k.1.2.2.1
  ·exact w _ Y
theorem ZlI(x):Tl (Y6 x 8)=x:=by rw[rN];simp
theorem rd8(x)(l):Is (Y6 x 8++l,false)=some ((l,false),x):=by rw[qR,KX _ _ (by rfl),yF (by simp[WY]),Gi (WY _ _),ZlI]
theorem Zcf{n:Nat}(h:n<65536):(Tl (Y6 (BitVec.ofInt 64 n) 2)).toNat=n:=by rw[rN];grind
theorem pk2{n:Nat}(h:n<65536)(l):pk (Y6 (BitVec.ofInt 64 n) 2++l,false) 2=(Tl (Y6 (BitVec.ofInt 64 n) 2),true):=by rw[yF (by simp[WY]),Gi (WY _ _)]
theorem gQ{b l}{m:Int}(h:b.length<=m)(h2:b.length<=8192)(a:l.length<=4000000000):Lz (Y6 (BitVec.ofInt 64 b.length) 2++(b++l),false) m=some ((l,false),b):=by rw[KS (by simp[WY];omega)];unfold TJ;rw[pk2 Y,Zcf (n:=b.length) Y,Yg (by simp[WY];omega),KX _ _ (by rfl),KX _ _ rfl]
theorem rdP{b l}{n:Int}(h:n=b.length):TK (b++l,false) n=some ((l,false),b):=by rw[Rm,KX _ _ h]
theorem rdF{x:Bool}{l:Zt}:Bu ((if x then 1#8 else 0#8)::l,false)=some ((l,false),x):=by
 rw[gO];have a:pk ((if x then 1#8 else 0#8)::l,false) 1=(if x then 1#64 else 0#64,true):=by cases x<;>rfl
 have b:tk _ 1=((l,false),[if x then 1#8 else 0#8]):=KX _ l rfl;unfold tB;cases x<;>rfl
def encS(s:BitVec 64)(x:Zt):Zt:=Y6 s 8++(Y6 (BitVec.ofInt 64 (x.length:Int)) 2++(x++(List.replicate (110-x.length) 0#8++Y6 s 8)))
theorem Zav{s}{x}(h:x.length<=110):(encS s x).length=128:=by unfold encS;simp[WY];omega
theorem ZrE{s}{x}(h:x.length<=110):pQ s x=some (encS s x,0):=by
 unfold pQ;rw[be (oA Zb),be (vH (by simp[WY];omega))];have b:W2 (([]++Y6 s 8,false):ZO) (x.length:Int) 8192=([]++Y6 s 8,false):=by unfold W2;rw[Yg Y]
 rw[b,ZcS,show Zk _=((110-x.length:Nat):Int)by simp only[Wx];rw[ZK Y];omega];refine Vo (M8.2 ⟨Y,?_⟩);have a:SQ (Yf ((110-x.length:Nat):Int)) 0#8=List.replicate (110-x.length) 0#8:=Zb;rw[a,be (Gp (by simp[WY];omega)),be (oA (by simp[WY];omega)),be (Iq (by simp[WY];omega))];refine J ?_;unfold encS;simp
theorem ZrD{s}{x}(h:x.length<=110)(hs:¬s=0#64):Gb (encS s x)=some (s,x,true):=by unfold Gb encS;rw[be (QN (by simp[WY];omega)),be (rd8 _ _),be (gQ Y Y (by simp[WY];omega)),show QQ _=some _ from rfl,bs,Wi,show Zk _=(110-x.length:Nat)by simp[Wx];rw[ZK Y];omega,be (rdP Zb)];have:=rd8 s [];rw[Xp]at this;rw[be this];refine Vo (Yu (λa=>a=true) (λb=>J<|Zm) (λb=>J<|Zm) λa d=>Yu (λa=>a=true) (λb=>by rw[be KR];exact J Zb) (λb=>Zm) λc e=>J Zm)
theorem Zsm{r}{n}:(tk r n).2.length<=n.toNat:=by unfold tk;grind
theorem Zsg{r}{m}(a:0<=m):(TJ r m).2.length<=m:=by
 unfold TJ;split;·grind
 ·next h=>have:=Zsm (r:=(tk r 2).1) (n:=(pk r 2).1.toNat);omega
theorem Zff{b}(h:b.length=128):W (Gb b) λo=>o.2.1.length<=110/\(o.2.2=true->¬o.1=0#64/\o.1=(pk (b,false) 8).1):=by
 unfold Gb;rw[be (QN Y),be qR,be (KS (by have:=UT (r:=(b,false)) (n:=8).1;grind))];have i:(TJ (tk ((b,false):ZO) 8).1 110).2.length<=110:=by have:=Zsg (r:=(tk ((b,false):ZO) 8).1) (m:=110) Y;omega
 refine Zj (Zhz rfl (J (Zp ⟨λ_=>J ⟨Zb,Zb⟩,λ_=>?_⟩)));rw[be Rm,be qR];refine Yu (λd=>d=true->¬(pk _ 8).1=0#64) (λc=>J Zb) (λc=>J λa=>by cases a) λd f=>Yu (λe=>e=true->d=true) (λc=>by rw[be KR];exact J λ_=>c) (λc=>J λa=>by cases a) λe g=>J ⟨i,λa=>⟨f (g a),rfl⟩⟩
def LY(l:List PG)(s:BitVec 64)(x:Zt):Prop:=(¬s=0#64->Gb (YI l (s.toNat%2))=some (s,x,true))/\(s=0#64->x=[])/\∀a:Nat,a<2->¬a=s.toNat%2\/s=0#64->∀b,Gb (YI l a)=some b->b.2.2=true->b.1<s
def SJ(s:BitVec 64)(x:Zt)(i:Nat)(s':BitVec 64)(a:Zt):Prop:=¬s=0#64/\s.toNat%2<i/\s'=s/\a=x\/(s=0#64\/i<=s.toNat%2)/\(s'<s\/s'=0#64/\a=[])
theorem Zfg{N c}{d}(M:DI N c d)(hN:2<=N):W (xE d 0) λo=>o.2.1.length<=110/\(d.2.2.2.2=false->o.2.2=0/\∀s x,LY d.2.1 s x->o.1=s/\o.2.1=x):=by
 have hs:=M.seen;unfold xE;refine Wo (W.Vy (λg=>∃a:Nat,g.2.2=a/\a<=2/\g.2.1.length<=110/\∀s x,LY d.2.1 s x->SJ s x a g.1 g.2.1) (λg=>g.2.1.length<=110/\∀s x,LY d.2.1 s x->SJ s x 2 g.1 g.2.1) (λg=>(2-g.2.2).toNat) (λR=>R.2.1.length<=110/\(d.2.2.2.2=false->False)) ⟨0,rfl,Y,Zb,λs x j=>.inr ⟨.inr (VD _),.inr ⟨rfl,rfl⟩⟩⟩ Zb (λg u=>?_) (λg u=>J ⟨u.1,λ_=>⟨rfl,λs x j=>?_⟩⟩) λR O=>⟨O.1,λb=>(O.2 b).elim⟩)
 ·obtain⟨G,Z,u3⟩:=g;obtain⟨a,I,e2,z,A⟩:=u;dsimp only at I z A;subst I;refine Zp ⟨λB=>?_,λB=>J ⟨z,?_⟩⟩
  ·simp only[Wx]at B;dsimp only;rw[show Zk (Zu 0 (a:Int))=a by simp only[Wx];rw[ZK Y];omega];refine Zj ((mF M).mono λo q=>Zp ⟨λp=>?_,λp=>?_⟩);·rw[bs];simp only[Wx]at p;exact J ⟨Zb,λb=>p (q.2 b Y Y)⟩
   simp only[Wx]at p;obtain⟨h1,h2,h3,v,K,T⟩:=q.1 p;have V:o.1=YI d.2.1 a:=by rw[T];unfold YI;rw[Rf];rw[Vz]at K;rw[K];rfl
   rw[V];refine Zj ((Zff (yB _ _)).self.mono λf⟨E,X,x0⟩=>Yu (λS=>S=true↔f.2.2=true/\f.1.toNat%2=a) (λe=>GX.2 ⟨YP,J ?_⟩) (λe=>J ?_) λS Q=>Yu (λw=>w=true↔(f.2.2=true/\f.1.toNat%2=a)/\G<f.1) (λe=>J ?_) (λe=>J ?_) λw t=>Yu (λF=>w=true/\F=(f.1,f.2.1)\/w=false/\F=(G,Z)) (λe=>J (.inl ⟨e,rfl⟩)) (λe=>J (.inr ⟨e,rfl⟩)) λF r=>J ?_)
   ·rw[Ri];constructor;·refineλb=>⟨e,?_⟩;have:=X7 BitVec.toNat b;rwa[show(KA f.1 2#64).toNat=f.1.toNat%2from dH,show(Z6 64 (a:Int)).toNat=a by show(BitVec.ofInt 64 (a:Int)).toNat=a;rw[LB];simp;omega]at this
    ·rintro⟨-,b⟩;apply BA;rw[show(KA f.1 2#64).toNat=f.1.toNat%2from dH,show(Z6 64 (a:Int)).toNat=a by show(BitVec.ofInt 64 (a:Int)).toNat=a;rw[LB];simp;omega];exact b
   ·exact⟨λb=>(by cases b),λb=>by rw[b.1]at e;cases e⟩
   ·simp only[Wx];exact⟨λb=>⟨Q.1 e,b⟩,λb=>b.2⟩
   ·exact⟨λb=>(by cases b),λb=>by rw[Q.2 b.1]at e;cases e⟩
   rw[show Zk (Zu (a:Int) 1)=((a+1:Nat):Int)by simp only[Wx];rw[ZK Y];rfl];refine⟨⟨a+1,rfl,Y,by rcases r with⟨-,rfl⟩|⟨-,rfl⟩;exact X;exact z,λs x j=>?_⟩,Zw⟩;dsimp only;have D:=A s x j;by_cases m:s=0#64
   ·refine .inr ⟨.inl m,?_⟩;rcases r with⟨l,rfl⟩|⟨-,rfl⟩;·exact .inl (j.2.2 a Y (.inr m) f E (t.1 l).1.1)
    ·rcases D with⟨i,-⟩|⟨-,i⟩;·exact(i m).elim
     ·exact i
   by_cases C:a=s.toNat%2
   ·have k:=j.1 m;rw[<-C,E]at k;have k:=XD k;have U:G<s:=by
     rcases D with⟨-,i,-⟩|⟨-,i|⟨i,-⟩⟩;·omega
     ·exact i
     ·rw[i];exact Nat.pos_of_ne_zero λb=>m (BA b)
    have l:=t.2 ⟨⟨by rw[k],by rw[k];exact C.symm⟩,by rw[k];exact U⟩;rcases r with⟨-,rfl⟩|⟨P,-⟩;·exact .inl ⟨m,Y,by rw[k],by rw[k]⟩
    ·rw[l]at P;cases P
   ·have q:=j.2.2 a Y (.inl C) f E;rcases D with⟨a1,h,n,y⟩|⟨a1,h⟩
    ·rcases r with⟨l,rfl⟩|⟨-,rfl⟩;·have H:=(t.1 l).2;rw[n]at H;exact(Nat.lt_asymm (q (t.1 l).1.1) H).elim
     ·exact .inl ⟨a1,Y,n,y⟩
    ·refine .inr ⟨.inr (by rcases a1 with a1|a1;exact(m a1).elim;omega),?_⟩;rcases r with⟨l,rfl⟩|⟨-,rfl⟩;·exact .inl (q (t.1 l).1.1)
     ·exact h
  ·simp only[Wx]at B;rwa[show a=2by omega]at A
 ·rcases u.2 s x j with⟨a1,h,n,y⟩|⟨a1|a1,h⟩;·exact⟨n,y⟩
  ·rcases h with h|⟨h,n⟩;·rw[a1]at h;exact(Nat.not_lt_zero _ h).elim
   ·exact⟨by rw[h,a1],by rw[n,j.2.1 a1]⟩
  ·omega
def MC(s:BitVec 64):Nat:=(s+1#64).toNat%2
theorem ZcA{l}{i j}{v:PG}(h:i<l.length):YI (l.set i v) j=if i=j then v.toList else YI l j:=by unfold YI;rw[zt h];split<;>rfl
theorem LY.save{l}{s}{x y}(h:LY l s y)(o:2<=l.length)(hs:¬s+1#64=0#64)(hx:x.length<=110):LY (l.set (MC s) (QG (encS (s+1#64) x))) (s+1#64) x:=by
 have p:MC s<2:=De _ Y;have f:s<s+1#64:=by grind
 refine⟨λ_=>?_,λa=>(hs a).elim,λb e g k c j=>?_⟩;·rw[ZcA Y,YW (show MC s=(s+1#64).toNat%2from rfl),FZ (Zav hx)];exact ZrD hx hs
 ·have i:¬MC s=b:=λa=>g.elim (λm=>m a.symm) hs;rw[ZcA Y,Yg i]at c;by_cases d:s=0#64;·exact BitVec.lt_trans (h.2.2 b e (.inr d) k c j) f
  ·by_cases n:b=s.toNat%2;·have:=h.1 d;grind
   ·grind
theorem ZrF{N c}{d}{x}(k:DI N c d)(F:2<=N)(T:c<1000000000)(hx:x.length<=4000000):W (pP d 0 x) λo=>(DI N (c+1) o.1/\(d.2.2.2.1<0->d.2.2.2.2=false->o.1.2.2.2=d.2.2.2))/\∀s y,x.length<=110->LY d.1 s y->¬s+1#64=0#64->d.2.2.1=[]->d.2.2.2.1<0->d.2.2.2.2=false->o.2.2=0/\o.1.1=d.1.set (MC s) (QG (encS (s+1#64) x))/\o.1.2.2.1=[]:=by
 have u:=k.le (c':=c+1) Y;unfold pP;refine Zp ⟨λm=>J ⟨⟨u,λ_ _=>rfl⟩,λs y h=>?_⟩,λm=>?_⟩;·simp only[Wx]at m;omega
 simp only[Wx]at m;refine Zj ((Zfg k F).mono λo A=>Zp ⟨λp=>J ⟨⟨u,λ_ _=>rfl⟩,λs y _ _ _ _ _ h=>?_⟩,λp=>?_⟩);·simp only[Wx]at p;exact(p (A.2 h).1).elim
 have H:d.2.2.1=[]->d.2.1=d.1:=λh=>by rw[k.2.1,h];rfl
 refine Zp ⟨λD=>J ⟨⟨u,λ_ _=>rfl⟩,λs y _ j t i _ h=>?_⟩,λD=>?_⟩;·grind
 rw[be (ZrE Y)];refine Zp ⟨λE=>by simp only[Wx]at E,λ_=>GX.2 ⟨YP,?_⟩⟩;have G:(KA (Wt o.1 1#64) 2#64).toNat=MC o.1:=dH;have U:MC o.1<2:=De _ Y;rw[show Zk (Zu 0 (Zk (Ze (Z4 (KA (Wt o.1 1#64) 2#64)))))=((MC o.1:Nat):Int)by show Zk (Zu 0 (Zk (((KA (Wt o.1 1#64) 2#64).toNat:Nat):Int)))=_;rw[G];simp only[Wx];rw[ZK (n:=(MC o.1:Int)) Y,ZK Y];omega];refine Zj ((bX (b:=encS (Wt o.1 1#64) x) k Y).mono λZ⟨B,P,Q,w4,w5,w6,R⟩=>?_);have w:=λa e=>R a e (Zav Y) Y Y;refine Zp ⟨λq=>J ⟨⟨B,λa e=>(w a e).2⟩,λs y _ j t i g f=>?_⟩,λq=>Zj ((bc B Y).mono λz⟨C,z2,S,z4,z5⟩=>?_)⟩;·simp only[Wx]at q;exact(q (w g f).1).elim
 have l:d.2.2.2.1<0->d.2.2.2.2=false->z.2=0/\z.1.2.2.2=d.2.2.2:=λa e=>by simp_all
 refine Zp ⟨λr=>J ⟨⟨C,λa e=>(l a e).2⟩,λs y _ j t i g f=>?_⟩,λr=>J ⟨⟨C,λa e=>(l a e).2⟩,λs y _ j t i g f=>?_⟩⟩;·simp only[Wx]at r;exact(r (l g f).1).elim
 ·obtain⟨V,X,I,K⟩:=S (l g f).1;obtain⟨-,-,-,-,v,M,O⟩:=Q (w g f).1;refine⟨rfl,?_,K⟩;show z.1.1=_;rw[I,O,i,P,ZbW M,<-((A.2 f).2 s y (by rw[H i];exact j)).1];show List.set d.1 ((MC o.1:Nat):Int).toNat _=_;rw[Vz]
def Le(b:Bool)(a g:BitVec 32):Zt:=(if b then 1#8 else 0#8)::(w4 a++w4 g)
theorem td(b)(a g):(Le b a g).length=9:=by unfold Le;simp[WW]
theorem ZsJ{s}:ow s=some (Le s.1 s.2.1 s.2.2):=by unfold ow;rw[be (ba Zb),ZcS,be (OW Zb),be (OW (by simp[WW])),be (Iq (by simp[WW]))];unfold Le;simp
theorem ZsH{b}{a g}(f:0#32<a)(h1:a<=g)(h2:g<4294967295#32):Bq (Le b a g)=some ((b,a,g),true):=by unfold Bq Le;rw[be (QN (by simp[WW])),be rdF,be (Lu _ _)];have:=Lu g [];rw[Xp]at this;rw[be this,be KR];refine Vo (Yu (λb=>b=true) (λg=>J Zm) (λg=>by simp at g) λb h=>Yu (λb=>b=true) (λg=>J<|Zm) (λg=>Zm) λd i=>Yu (λb=>b=true) (λg=>J<|Zm) (λg=>Zm) λe c=>J (by rw[c]))
theorem ZsI{b}(h:b.length<=4000000000):W (Bq b) λo=>o.2=true->0#32<o.1.2.1/\o.1.2.1<=o.1.2.2/\o.1.2.2<4294967295#32:=by unfold Bq;rw[be (QN Y),be gO,be RC,be RC,be KR];refine Yu (λb=>b=true->0#32<_) (λc=>J λa=>by simp at a;exact a) (λc=>J λa=>Zm) λb i=>Yu (λd=>d=true->b=true/\_<=_) (λc=>J λa=>by simp at a;exact⟨c,a⟩) (λc=>J λa=>Zm) λd g=>Yu (λf=>f=true->d=true/\_<_) (λc=>J λa=>Zm) (λc=>J λa=>by cases a) λf e=>J λa=>⟨i (g (e a).1).1,(g (e a).1).2,(e a).2⟩
theorem Zf3{N c k}{ds}{d}{f sp:Nat}{a g}(K:ds[k]?=some d)(I:DI N c d)(hN:N<=4096):W (Ir ds (some k) f sp a g) λo=>o.2.1.length<=sp/\(∀r∈o.2.1,r.length<=6000)/\(o.2.2=0->f+sp<=N/\∃n,n<=sp/\o.1=some (some k,(f:Int),(sp:Int),g,(n:Int),false)):=by
 have h1:=I.1;unfold Ir;rw[ko,Kh K];refine Zj ((Zf2 Y).mono λx2 hb=>Zp ⟨λF=>J ⟨Zb,Zb,λi=>by cases i⟩,λF=>?_⟩);have x3:=hb.1 (by simpa only[Wx]using F);refine Wo (W.Vy (λe=>∃b n:Nat,e.2.2.1=b/\b<=sp/\n<=sp/\e.2.1.length<=b/\(∀r∈e.2.1,r.length<=6000)/\e.2.2.2=(some k,(f:Int),(sp:Int),g,(n:Int),false)) (λe=>∃n:Nat,n<=sp/\e.2.1.length<=sp/\(∀r∈e.2.1,r.length<=6000)/\e.2.2.2=(some k,(f:Int),(sp:Int),g,(n:Int),false)) (λe=>(sp-e.2.2.1).toNat) (λr=>r.2.1.length<=sp/\(∀m∈r.2.1,m.length<=6000)/\¬r.2.2=0) ⟨0,0,rfl,Y,Y,Zb,Zb,rfl⟩ Zw (λe t=>?_) (λe t=>J ?_) λr h=>⟨h.1,h.2.1,λi=>(h.2.2 i).elim⟩)
 ·obtain⟨u1,w,u3,u4⟩:=e;obtain⟨u,n,B,V,C,X,p,D⟩:=t;dsimp only at B X p D;subst B D;refine Zp ⟨λG=>?_,λG=>J ⟨n,C,Zw,p,rfl⟩⟩;simp only[Wx]at G;dsimp only;refine Wo (W.Vy (λv=>∃b:Nat,v.2.2.1=b/\u<=b/\b<=sp/\v.2.1=w/\v.2.2.2.1.length<=6000/\v.2.2.2.2.2=(some k,(f:Int),(sp:Int),g,(n:Int),false)) (λ_=>False) (λv=>(sp-v.2.2.1).toNat) (λr=>match r with|.brk j=>j.2.1=w/\j.2.2.2=(some k,(f:Int),(sp:Int),g,(n:Int),false)|.next j=>∃b:Nat,j.2.2.1=(b:Int)/\u<b/\b<=sp/\(∃r,j.2.1=w++[r]/\r.length<=6000)/\j.2.2.2=(some k,(f:Int),(sp:Int),g,(b:Int),false)|.ret r=>r.2.1.length<=sp/\(∀m∈r.2.1,m.length<=6000)/\¬r.2.2=0) ⟨u,rfl,YG _,V,rfl,Zb,rfl⟩ Zw (λ⟨v1,v2,v3,v4,v5,v6⟩⟨b,Q,q2,q3,R,q5,S⟩=>?_) (λ_ i=>i.elim) λr h=>?_)
  ·dsimp only at Q R q5 S;subst Q R S;refine Zp ⟨λs=>by rw[bs];exact J ⟨rfl,rfl⟩,λs=>?_⟩;rw[Ha]at s;have hp:b<sp:=by dsimp only at s;omega
   dsimp only;rw[ko,Kh K,show Zk (Zu (f:Int) (b:Int))=((f+b:Nat):Int)by simp only[Wx];rw[ZK Y];omega];refine Zj ((mF I).mono λrd x1=>Zp ⟨λl=>?_,λl=>?_⟩);·simp only[Wx]at l;rw[bs,bs];exact J ⟨Zb,Zb,l⟩
   simp only[Wx]at l;obtain⟨-,-,-,pv,x5,x0⟩:=x1.1 l;refine Zj ((Zf8 (by rw[x0];simp)).mono λx M=>?_);rw[show Zk (Zu (b:Int) 1)=((b+1:Nat):Int)by simp only[Wx];rw[ZK Y];rfl];refine Yu (λc=>c=false->x.2=true) (λ_=>J λi=>?_) (λZ=>J λi=>by simpa[Zy]using Z) λc hc=>Zp ⟨λ_=>by rw[bs];exact J ⟨rfl,rfl⟩,λg7=>?_⟩;·simpa[Zy]using i
   have O:=hc g7;have x4:x.1.2.2.2.length<=110:=by rw[M.2 O];have:=(M.1.1 O).1.1;show(List.take _ _).length<=110;rw[UF];omega
   refine Uu (λ_=>J trivial) (λ_=>J trivial) λx6=>Zp ⟨λ_=>by rw[bs];exact J ⟨rfl,rfl⟩,λ_=>(Xa ⟨by simp only[Wx];omega,Zp ⟨λE=>by rw[bs];exact J ⟨rfl,rfl⟩,λE=>?_⟩⟩)⟩;have H:(v4++x.1.2.2.2).length<=6000:=by simp only[Wx]at E;omega
   refine Zp ⟨λ_=>Xa ⟨by simp only[Wx,V9];omega,?_⟩,λ_=>J ⟨⟨b+1,rfl,Y,Y,rfl,H,rfl⟩,Zw⟩⟩;rw[bs];exact J ⟨b+1,rfl,Y,Y,⟨_,rfl,H⟩,rfl⟩
  ·cases r with|ret _=>exact h|brk j=>exact⟨n,C,by rw[h.1];omega,by rw[h.1];exact p,h.2⟩|next j=>
    obtain⟨b,y,b2,z,⟨r,A,T⟩,U⟩:=h;refine⟨⟨b,b,y,z,z,by rw[A,Yw,V9];omega,λm P=>?_,U⟩,by dsimp only;rw[y];omega⟩;rw[A]at P;rcases Z1 P with q|q;·exact p m q
    ·rw[YZ q];exact T
 ·obtain⟨n,k1,k2,k3,k4⟩:=t;exact⟨k2,k3,λ_=>⟨Y,n,k1,by rw[k4]⟩⟩
theorem ox{v}{e}:W (Gm v e) λo=>o.2=e/\o.1.1=v.1/\o.1.2.1=v.2.1/\o.1.2.2.1=v.2.2.1/\(o.1.2.2.2=true↔v.2.2.2=true\/e=6):=by refine Yu _ (λa=>J<|Zm) (λa=>J Zm) λc b=>J ⟨rfl,rfl,rfl,rfl,b⟩
def Ro(N:Nat):Nat:=(N-2)/2
theorem xR{ds}{k}{d}{v}{N c}(b:ds[k]?=some d)(a:DI N c d)(hv:v.1=some k)(h2:2<=N)(e:N<=4096):K7 v ds=some (Ro N:Int):=by unfold K7;rw[hv,ko,Kh b,show I6 d=some (d.1.length:Int)from rfl,bs,a.1];refine Vo (L2.2 ⟨Zb,J ?_⟩);rw[show Zk (ZU N 2)=(N-2:Nat)by simp[Wx];rw[ZK Y];omega,JK Zb,ZK Y];unfold Ro;omega
theorem ZfW{ds}{k}{d}{v}{N c}{b}(f:ds[k]?=some d)(e:DI N c d)(hv:v.1=some k)(h2:2<=N)(a:N<=4096):ES v ds b=some ((if b then 2+Ro N else 2:Nat):Int):=by
 have g:Ro N<=4096:=by unfold Ro;omega
 unfold ES;cases b;·rw[Wi];rfl
 ·rw[WU,be (xR f e hv h2 a),YW rfl];congr 1;simp only[Wx];rw[ZK Y];omega
theorem eZ{N c k}{ds}{d}{v}{b}(r:ds[k]?=some d)(hv:v.1=some k)(q:DI N c d)(n:2<=N)(p:c<1000000000):W (Gn v ds b) λo=>∃d',o.2.1=ds.set k d'/\DI N (c+1) d'/\(d.2.2.2.1<0->d.2.2.2.2=false->d'.2.2.2=d.2.2.2)/\o.1.1=some k/\o.1.2.2.1=v.2.2.1/\(o.2.2=0->o.1=(v.1,b,v.2.2))/\∀s y,LY d.1 s y->¬s+1#64=0#64->d.2.2.1=[]->d.2.2.2.1<0->d.2.2.2.2=false->o.2.2=0/\d'.1=d.1.set (MC s) (QG (encS (s+1#64) (Le b.1 b.2.1 b.2.2)))/\d'.2.2.1=[]:=by unfold Gn;rw[be ZsJ,hv,ko,Kh r];refine Zj ((ZrF q n p (by rw[td];omega)).mono λo a=>Zp ⟨λe=>?_,λe=>J (by refine⟨o.1,rfl,a.1.1,a.1.2,rfl,rfl,λ_=>rfl,λs y f g h i j=>⟨rfl,(a.2 s y (by rw[td];omega) f g h i j).2⟩⟩)⟩);·simp at e;refine Zj (ox.mono λt l=>J ⟨o.1,rfl,a.1.1,a.1.2,by rw[l.2.1,hv],l.2.2.2.1,λm=>by rw[l.1]at m;exact(e m).elim,λs y f g h i j=>(e (a.2 s y (by rw[td];omega) f g h i j).1).elim⟩)
def VW(N k:Nat)(v:Tg):Prop:=v.1=some k/\∃(b a c:Nat)(d:BitVec 32)(e:Bool),v.2.2.1=some (some k,(b:Int),(a:Int),d,(c:Int),e)/\b+a<=N/\c<=a
def Sd(l:List PG)(g a:Nat)(R:List Zt)(n:Nat)(m:BitVec 32):Prop:=LY l (BitVec.ofNat 64 g) (if g=0then[]else Le false 1#32 (BitVec.ofNat 32 g))/\Ot l 2 449 (BitVec.ofNat 32 a) R n m
theorem Ot.congr{l d}{f sp}{G}{R}{n}{m}(h:Ot l f sp G R n m)(a:∀i,i<sp->l.getD (f+i) Uf=d.getD (f+i) Uf):Ot d f sp G R n m:=by have⟨j,k,o,p,q⟩:=h;exact⟨j.congr λi r=>a i Y,λt s g c=>k t s g (c.congr λi _ r=>(a i (by have:=c.2.1;omega)).symm),o,p,λi e b=>by unfold YI;rw[<-a i b];exact q i e b⟩
theorem Vl{α:Type}{ds:List α}{k}{d d'}(a:ds[k]?=some d):(ds.set k d')[k]?=some d':=by have:=(Wm a).1;rw[dO this]
theorem Zcl{g}(h:g<250):BitVec.ofNat 64 g+1#64=BitVec.ofNat 64 (g+1):=by apply BA;simp
theorem CK{g}(h:g<250):BitVec.ofNat 32 g+1#32=BitVec.ofNat 32 (g+1):=by apply BA;simp
theorem eY{N c k}{ds}{d}(A:ds[k]?=some d)(z:DI N c d)(hN:4<=N)(D:N<=4096)(hc:c<1000000000):W (xS ds (some k)) λo=>∃d',o.1=ds.set k d'/\DI N (c+1) d'/\o.2.2.1.length<=Ro N/\(∀r∈o.2.2.1,r.length<=6000)/\(o.2.2.2=0->∃v,o.2.1=some v/\VW N k v)/\(¬o.2.2.2=0->o.2.1=none)/\(d.2.2.2.1<0->d.2.2.2.2=false->d'.2.2.2=d.2.2.2)/\∀g R n m,N=900->g<250->d.2.2.1=[]->d.2.2.2.1<0->d.2.2.2.2=false->Sd d.1 g (g+1) R n m->o.2.2.2=0/\o.2.2.1=R/\d'.2.2.1=[]/\Sd d'.1 (g+1) (g+1) R n m/\o.2.1=some (some k,(false,1#32,BitVec.ofNat 32 (g+1)),some (some k,2,449,BitVec.ofNat 32 (g+1),(n:Int),false),false):=by
 have h1:=z.1;have x4:=P9 A;have x0:=z.le (c':=c+1) Y;have x9:d.2.2.1=[]->d.2.1=d.1:=λp=>by rw[z.2.1,p];rfl
 have x5:∀(B:Bool)(a C:BitVec 32),(∀g R n m,N=900->g<250->d.2.2.1=[]->d.2.2.2.1<0->d.2.2.2.2=false->Sd d.1 g (g+1) R n m->B=false/\a=1#32/\C=BitVec.ofNat 32 g)->W (O (Gn (some k,(false,0#32,0#32),none,false) ds (B,a,Wt C 1#32)) λt=>Zc (Zy (Zs t.2.2 0)) (some (t.2.1,(none:Option Tg),([]:List Zt),t.2.2)) (O (ES t.1 t.2.1 B) λy1=>O (K7 t.1 t.2.1) λy2=>O (Ir t.2.1 (some k) y1 y2 a (Wt C 1#32)) λK=>Zc (Zy (Zs K.2.2 0)) (some (t.2.1,none,[],K.2.2)) (some (t.2.1,some (t.1.1,t.1.2.1,K.1,t.1.2.2.2),K.2.1,0)))) λo=>∃d',o.1=ds.set k d'/\DI N (c+1) d'/\o.2.2.1.length<=Ro N/\(∀r∈o.2.2.1,r.length<=6000)/\(o.2.2.2=0->∃v,o.2.1=some v/\VW N k v)/\(¬o.2.2.2=0->o.2.1=none)/\(d.2.2.2.1<0->d.2.2.2.2=false->d'.2.2.2=d.2.2.2)/\∀g R n m,N=900->g<250->d.2.2.1=[]->d.2.2.2.1<0->d.2.2.2.2=false->Sd d.1 g (g+1) R n m->o.2.2.2=0/\o.2.2.1=R/\d'.2.2.1=[]/\Sd d'.1 (g+1) (g+1) R n m/\o.2.1=some (some k,(false,1#32,BitVec.ofNat 32 (g+1)),some (some k,2,449,BitVec.ofNat 32 (g+1),(n:Int),false),false):=by
  refineλB a C Q=>Zj ((eZ A rfl z Y hc).mono λo F=>?_);obtain⟨d',o1,u,G,U,o5,o6,o7⟩:=F;have E:(ds.set k d')[k]?=some d':=Vl A;have T:∀g R n m,N=900->g<250->d.2.2.1=[]->d.2.2.2.1<0->d.2.2.2.2=false->Sd d.1 g (g+1) R n m->o.2.2=0/\d'.2.2.1=[]/\Sd d'.1 (g+1) (g+1) R n m:=by
   intro g R n m l h i j b e;obtain⟨rfl,rfl,rfl⟩:=Q g R n m l h i j b e;have x1:¬BitVec.ofNat 64 g+1#64=0#64:=by rw[Zcl h];intro p;have:=X7 BitVec.toNat p;simp at this;omega
   obtain⟨M,w,y⟩:=o7 _ _ e.1 x1 i j b;refine⟨M,y,by rw[w,Yg Y,<-Zcl h,<-CK h];exact e.1.save (x:=Le false 1#32 (BitVec.ofNat 32 g+1#32)) Y x1 (by rw[td];omega),?_⟩;·rw[w];refine e.2.congr λy4 hi=>?_;have:MC (BitVec.ofNat 64 g)<2:=De _ Y;rw[zt Y,Yg Y]
  refine Zp ⟨λs=>J ⟨d',o1,u,Zb,Zb,λp=>?_,λ_=>rfl,G,λg R n m l h i j b e=>?_⟩,λs=>?_⟩;·simp only[Wx]at s;exact(s p).elim
  ·simp only[Wx]at s;exact(s (T g R n m l h i j b e).1).elim
  simp only[Wx]at s;rw[o1,be (ZfW E u U Y D),be (xR E u U Y D)];refine Zj ((Zf3 E u D).self.mono λI⟨xk,xs,xv,y0⟩=>?_);have Z:∀g R n m,N=900->g<250->d.2.2.1=[]->d.2.2.2.1<0->d.2.2.2.2=false->Sd d.1 g (g+1) R n m->I.2.2=0/\I.2.1=R/\I.1=some (some k,2,449,BitVec.ofNat 32 (g+1),(n:Int),false):=by
   intro g R n m l h i j b e;obtain⟨M,w,y⟩:=T g R n m l h i j b e;obtain⟨rfl,rfl,rfl⟩:=Q g R n m l h i j b e;subst l;have⟨w',e1,e2,e3⟩:=ZsP (f:=2) (sp:=449) (a:=1#32) (g:=BitVec.ofNat 32 g+1#32) E u (by rw[G j b];exact b) D;have:w'=I:=XD (e1.symm.trans xk);subst this;have x7:(1#32:BitVec 32)<=BitVec.ofNat 32 g+1#32:=by rw[CK h];show(1#32).toNat<=(BitVec.ofNat 32 (g+1)).toNat;simp;omega
   have hz:=e3 Y YP x7;obtain⟨-,-,-,n',m',f1,f2,f3,V,X⟩:=e2 hz;have x8:d'.2.1=d'.1:=by rw[u.2.1,w];rfl
   rw[x8]at V X;obtain⟨rfl,rfl,rfl⟩:=V.uniq X y.2.1 y.2.2.1;exact⟨hz,rfl,by rw[f2,CK h];rfl⟩
  refine Zp ⟨λq=>J ⟨d',rfl,u,Zb,Zb,λp=>by simp only[Wx]at q;exact(q p).elim,λ_=>rfl,G,λg R n m l h i j b e=>by simp only[Wx]at q;exact(q (Z g R n m l h i j b e).1).elim⟩,λq=>J ⟨d',rfl,u,xs,xv,λ_=>⟨_,rfl,U,?_⟩,λp=>(p rfl).elim,G,λg R n m l h i j b e=>?_⟩⟩;·simp only[Wx]at q;obtain⟨h9,n,q1,q2⟩:=y0 q;exact⟨_,_,n,_,false,q2,h9,q1⟩
  ·obtain⟨M,w,y⟩:=T g R n m l h i j b e;obtain⟨c1,c2,c3⟩:=Z g R n m l h i j b e;obtain⟨rfl,rfl,rfl⟩:=Q g R n m l h i j b e;refine⟨rfl,c2,w,y,?_⟩;rw[o6 s];dsimp only;rw[c3];show some (some k,(false,1#32,BitVec.ofNat 32 g+1#32),_,false)=_;rw[CK h]
 unfold xS;rw[ko,Kh A,show I6 d=some (d.1.length:Int)from rfl,bs,h1];refine Zp ⟨λg=>?_,λg=>?_⟩;·simp only[Wx]at g;omega
 rw[ko,Kh A];refine Zj ((Zfg z Y).mono λo F=>Zp ⟨λs=>J ⟨d,x4,x0,Zb,Zb,λp=>?_,λ_=>rfl,λ_ _=>rfl,λg R n m l h i j b e=>?_⟩,λs=>?_⟩);·simp only[Wx]at s;exact(s p).elim
 ·simp only[Wx]at s;exact(s (F.2 b).1).elim
 have S:∀g R n m,d.2.2.1=[]->d.2.2.2.2=false->Sd d.1 g (g+1) R n m->o.1=BitVec.ofNat 64 g/\o.2.1=if g=0then[]else Le false 1#32 (BitVec.ofNat 32 g):=λg R n m i b e=>(F.2 b).2 _ _ (by rw[x9 i];exact e.1);refine Zp ⟨λq=>?_,λq=>?_⟩
 ·simp only[Wx]at q;have x6:∀g R n m,g<250->d.2.2.1=[]->d.2.2.2.2=false->Sd d.1 g (g+1) R n m->¬g=0:=λg R n m h i b e p=>by have:=(S g R n m i b e).1;rw[this,p]at q;exact absurd q YP
  refine Zj ((ZsI Y).self.mono λH⟨x2,y3⟩=>?_);have x3:∀g R n m,g<250->d.2.2.1=[]->d.2.2.2.2=false->Sd d.1 g (g+1) R n m->H=((false,1#32,BitVec.ofNat 32 g),true):=λg R n m h i b e=>by have h0:=x6 g R n m h i b e;have:=(S g R n m i b e).2;rw[Yg h0]at this;rw[this,ZsH YP (by show(1#32).toNat<=(BitVec.ofNat 32 g).toNat;simp;omega) (by show(BitVec.ofNat 32 g).toNat<(4294967295#32).toNat;simp;omega)]at x2;exact(XD x2).symm
  refine Zp ⟨λP=>J ⟨d,x4,x0,Zb,Zb,λp=>(by cases p),λ_=>rfl,λ_ _=>rfl,λg R n m l h i j b e=>?_⟩,λP=>x5 H.1.1 H.1.2.1 H.1.2.2 λg R n m l h i j b e=>by rw[x3 g R n m h i b e];exact⟨rfl,rfl,rfl⟩⟩;·rw[x3 g R n m h i b e]at P;simp only[Wx]at P
 ·simp only[Wx]at q;refine x5 false 1#32 0#32 λg R n m l h i j b e=>⟨rfl,rfl,?_⟩;have:=(S g R n m i b e).1;rw[dF q]at this;have:=X7 BitVec.toNat this;simp at this;rw[show g=0 by omega]
theorem DI.sm{N c c'}{d}(h:DI N c d)(a:d.2.2.1.length<=c'):DI N c' d:=⟨h.1,h.2.1,h.2.2.1,a⟩
theorem qc{G}{f n K}{b}{j}:(Sk G f n K b j).length=j:=by unfold Sk;simp
def Io(k:Nat)(g n:Nat)(fd:Bool):Tg:=(some k,(false,1#32,BitVec.ofNat 32 g),some (some k,(2:Int),(449:Int),BitVec.ofNat 32 g,(n:Int),fd),fd)
def LV(d:Yi)(g n:Nat)(B:Zt->Prop):Prop:=∃a b,d.2.2.1=Sk (BitVec.ofNat 32 g) 2 n (Y9 a.length) a b/\b<=Y9 a.length/\n+b<=449/\(0<b->a.length<=6000/\n+Y9 a.length<=449/\B a)
theorem LV.nil{d}{g n}{B}(h:d.2.2.1=[])(a:n<=449):LV d g n B:=⟨[],0,by rw[h];rfl,Zb,Y,Zb⟩
theorem LV.mono{d}{g n}{B a}(h:LV d g n B)(k:∀b,B b->a b):LV d g n a:=by obtain⟨b,i,c,e,f,j⟩:=h;exact⟨b,i,c,e,f,XA⟩
theorem LV.len{d}{g n}{B}(h:LV d g n B):d.2.2.1.length<=449:=by have⟨b,i,a,c,e,f⟩:=h;rw[a,qc];omega
def PV(k g:Nat)(B:Zt->Prop)(R:List Zt)(n:Nat)(fd:Bool)(d:Yi):Prop:=DI 900 449 d/\(∃a,Sd d.1 g g R n a)/\LV d g n B/\(fd=false->d.2.2.1=[])
theorem ZsG{N c k}{ds}{d}{v}{b}(hv:VW N k v)(l:ds[k]?=some d)(j:DI N c d)(t:c<=1000000000)(r:N<=4096)(s:b.length<=1000000000):W (Bo v ds b) λo=>∃d',o.2.1=ds.set k d'/\DI N (c+4096) d'/\VW N k o.1:=by
 obtain⟨A,g,i,m,f,z,q,e,h⟩:=id hv;refine Zp ⟨λp=>J ⟨d,P9 l,j.le Zb,hv⟩,λp=>?_⟩;rw[q,ko];refine Zj ((de l j t r e h s).mono λo⟨d',B,w,x,C,D,E,F,y,G⟩=>Zj (ox.mono λH u=>J ⟨d',w,x,Zm,?_⟩));rw[u.2.2.2.1];rcases y with⟨-,-,-,n,-,a⟩|⟨-,a,-⟩|⟨-,-,-,-,a⟩;·exact⟨g,i,_,f,_,by rw[a],e,n⟩
 ·exact⟨g,i,m,f,_,by rw[a],e,h⟩
 ·exact⟨g,i,m,f,_,by rw[a],e,h⟩
theorem ZsM{N c k}{ds}{d}{v}(hv:VW N k v)(i:ds[k]?=some d)(h:DI N c d)(w:c<=1000000000):W (Bp v ds) λo=>∃d',o.2.1=ds.set k d'/\DI N c d'/\VW N k o.1:=by
 have⟨p,e,m,l,b,u,q,f,g⟩:=id hv;refine Zp ⟨λn=>J ⟨d,P9 i,h,hv⟩,λn=>?_⟩;rw[q,ko];refine Zj ((dh i h Y).mono λo⟨d',r,s,t,x⟩=>Zj (ox.mono λy j=>J ⟨d',r,s,by rw[j.2.1];exact p,?_⟩));rw[j.2.2.2.1];rcases t with⟨-,-,a,-⟩|⟨-,a,-⟩;·exact⟨e,m,l,b,_,by rw[a],f,g⟩
 ·exact⟨e,m,l,b,_,by rw[a],f,g⟩
theorem ZfY{v}:Gm v 6=some ((v.1,v.2.1,v.2.2.1,true),6):=by exact Vo (Yu (λa=>a=true) (λ_=>J rfl) (λ_=>J Zb) λa b=>J Zm)
theorem da{v}{e}(d:¬e=6):Gm v e=some (v,e):=by exact Vo (Yu (λa=>a=v.2.2.2) (λb=>J b.symm) (λb=>J Zm) λa c=>J (by rw[c]))
def VM(k g n:Nat)(fd:Bool)(v:Tg):Prop:=∃a:Nat,v=Io k g a fd/\a<=449/\(fd=false->a=n)
theorem VM.w{k g n}{fd}{v}(h:VM k g n fd v):VW 900 k v:=by obtain⟨b,rfl,a,-⟩:=h;exact⟨rfl,2,449,b,_,_,rfl,Zb,a⟩
noncomputable def kp(v:Tg)(ds:List Yi)(b:Zt):Option (Tg×List Yi×Int):=O (Bo v ds b) λa=>Zc (Zy (Zs a.2.2 0)) (some a) (Bp a.1 a.2.1)
theorem ZkW{k g}{B}{R}{n}{fd}{ds}{d}{b}{v}(hv:VM k g n fd v)(M:ds[k]?=some d)(h:PV k g B R n fd d)(hb:b.length<=1000000000)(T:B b):W (kp v ds b) λo=>∃d',o.2.1=ds.set k d'/\((o.2.2=0/\o.1=Io k g (n+Y9 b.length) false/\∀P,PV k g P (R++[b]) (n+Y9 b.length) false d')\/¬o.2.2=0/\∃S,VM k g n S o.1/\PV k g B R n S d')/\(fd=false->d.2.2.2.1<0->d.2.2.2.2=false->b.length<=6000->n+Y9 b.length<=449->o.2.2=0/\d'.2.2.2=d.2.2.2):=by obtain⟨H,⟨V,A⟩,⟨_,_,_,_,_,_⟩,h4⟩:=id h;have x:n<=449:=Y;obtain⟨n',rfl,x2,x0⟩:=id hv;unfold kp Bo;cases fd with|true=>rw[show Zc (Io k g n' true).2.2.2=Zc true from rfl,WU,bs];refine Zp ⟨λ_=>J ⟨d,P9 M,.inr ⟨Zb,true,hv,h⟩,λa=>by cases a⟩,λa=>by simp only[Wx]at a;omega⟩|false=>
  have s:=(x0 rfl).symm;subst s;rw[show Zc (Io k g n false).2.2.2=Zc false from rfl,Wi,show(Io k g n false).2.2.1=some (some k,(2:Int),(449:Int),BitVec.ofNat 32 g,(n:Int),false)from rfl,ko];refine Zj (Zj ((de (f:=2) (sp:=449) (G:=BitVec.ofNat 32 g) (fl:=false) (b:=b) M H Y Y Y x hb).mono λo N=>?_));obtain⟨d',j,O,X,C,r,Z,o6,o7,D⟩:=N;rw[h4 rfl,UW]at r;rcases o7 with⟨s,-,t,u,y,e4⟩|⟨s,t,-,u⟩|⟨s,-,t,u,y⟩
  ·rw[s,be (da YP)];refine J (Zp ⟨λa=>by simp only[Wx]at a,λ_=>?_⟩);dsimp only;unfold Bp;rw[show Zc (Io k g n false).2.2.2=Zc false from rfl];dsimp only;rw[Wi,e4,ko,O];refine Zj ((dh (f:=2) (sp:=449) (G:=BitVec.ofNat 32 g) (n:=((n+Y9 b.length:Nat):Int)) (fl:=false) (Vl M) X Y).mono λx3⟨Q,w1,w2,w3,w4⟩=>?_);rcases w3 with⟨E,-,F,z,w⟩|⟨E,F,z,w⟩
   ·rw[E,be (da YP)];refine J ⟨Q,by rw[w1,Sa],.inl ⟨rfl,by rw[F];rfl,λP=>⟨w2.sm (by rw[w];simp),⟨BitVec.ofNat 32 g,?_,?_⟩,LV.nil w Y,λ_=>w⟩⟩,λ_ c e p q=>⟨rfl,?_⟩⟩
    ·rw[z,C,r,y];obtain⟨s1,s2,s3⟩:=A.1;obtain⟨m,-⟩:=mT (G:=BitVec.ofNat 32 g) (f:=2) (n:=n) (K:=Y9 b.length) (b:=b) (l:=d.1) (j:=Y9 b.length) (by rw[H.1];omega);have U:∀i,i<2->YI (PK d.1 (Sk (BitVec.ofNat 32 g) 2 n (Y9 b.length) b (Y9 b.length))) i=YI d.1 i:=λi I=>by unfold YI;rw[m i Y]
     refine⟨λa=>?_,s2,λi I x o N x1=>s3 i I x o (by rw[<-U i I];exact N) x1⟩;rw[U _ (De _ Y)];exact s1 a
    ·rw[z,C,r,y];exact A.2.app (by rw[H.1];omega) Y t u
    ·have m:=(D rfl p q c e).2;have q2:=(w4 rfl (by rw[m];exact c) (by rw[m];exact e)).2;rw[q2,m]
   ·rw[E,be ZfY];refine J ⟨Q,by rw[w1,Sa],.inr ⟨by show¬(6:Int)=0;decide,true,⟨n+Y9 b.length,by rw[F];rfl,Y,λa=>by cases a⟩,w2.sm (by rw[w,r,qc];omega),⟨V,by rw[z,C];exact A⟩,⟨b,j,by rw[w,r],Z,o6,λ_=>⟨t,u,T⟩⟩,λa=>by cases a⟩,λ_ c e p q=>?_⟩;·have m:=(D rfl p q c e).2;have q2:=(w4 rfl (by rw[m];exact c) (by rw[m];exact e)).1;omega
  ·rw[s,be ZfY];refine J (Zp ⟨λ_=>J ⟨d',O,.inr ⟨by show¬(6:Int)=0;decide,true,⟨n,by rw[t];rfl,x,λa=>by cases a⟩,X.sm (by rw[r,qc];omega),⟨V,by rw[C];exact A⟩,⟨b,j,r,Z,o6,λ_=>⟨(u rfl).1,(u rfl).2,T⟩⟩,λa=>by cases a⟩,λ_ c e p q=>?_⟩,λa=>by simp only[Wx]at a;omega⟩);have:=(D rfl p q c e).1;omega
  ·rw[be (da Y)];refine J (Zp ⟨λ_=>J ⟨d',O,.inr ⟨Zw,false,⟨n,by rw[y];rfl,x,λ_=>rfl⟩,by rw[t];exact h⟩,λ_ c e p q=>?_⟩,λa=>by simp only[Wx]at a;omega⟩);have:=(D rfl p q c e).1;omega
theorem Znj{n}(h:n<=6000):Y9 n<=55:=by unfold Y9;omega
theorem Zfu{N}(h:N<=4096):Ro N<=4096:=by unfold Ro;omega
theorem ZsL{N c k}{ds}{d}{v}{R}(hv:v.1=some k)(i:ds[k]?=some d)(h:DI N c d)(h2:2<=N)(g:N<=4096)(u:R.length<=1000000):W (ou v ds R) λ_=>True:=by
 have w:Ro N<=4096:=by unfold Ro;omega
 unfold ou;refine Wo (W.Vy (λa=>∃b:Nat,a.2=b/\b<=R.length/\0<=a.1/\a.1<=5000) (λ_=>True) (λa=>(R.length-a.2).toNat) (λ_=>True) Zm Zw (λa j=>?_) (λa j=>?_) λ_ _=>trivial)
 ·obtain⟨l,y⟩:=a;obtain⟨b,f,t,m,o⟩:=j;dsimp only at f m o;subst f;refine Zp ⟨λr=>?_,λ_=>J trivial⟩;simp only[Wx]at r;refine Zj (YF ⟨Zw,λe x=>Zp ⟨λ_=>by rw[bs];exact J trivial,λs=>?_⟩⟩);simp only[Wx]at s;rw[be (bG (n:=e.length) Y),be (xR i h hv h2 g)];have:=Znj (n:=e.length) Y;have p:Zk (Zu (b:Int) 1)=((b+1:Nat):Int):=by simp only[Wx];rw[ZK Y];rfl
  have q:Tj (Zk (Zu l ((Y9 e.length:Nat):Int))) (Zk (Zu ((Ro N:Nat):Int) 1))=min (l+(Y9 e.length:Nat)) ((Ro N:Nat)+1):=by simp only[Wx];rw[ZK Y,ZK Y]
  dsimp only;rw[p,q];refine J ⟨⟨b+1,rfl,Y,Zw,Zw⟩,Zw⟩
 ·dsimp only;rw[be (xR i h hv h2 g)];exact Uu (λ_=>J trivial) (λ_=>J trivial) λ_=>Zp ⟨λ_=>J trivial,λ_=>J trivial⟩
theorem ZsK{N c k}{ds}{d}{v}{A}{R}(hv:VW N k v)(g:ds[k]?=some d)(s:DI N c d)(h2:2<=N)(q:N<=4096)(hR:R.length<=10000)(hc:c<=100000000)(K:∀r∈R,r.length<=1000000000):W (ot v ds A R) λo=>o.1=v/\∃d',o.2.1=ds.set k d'/\DI N (c+4096) d'/\(o.2.2.2=0->∃(f sp n:Nat)(G:BitVec 32)(fl:Bool),o.2.2.1=some (some k,(f:Int),(sp:Int),G,(n:Int),fl)/\f+sp<=N/\n<=sp):=by
 have D:=P9 g;have x1:=Zfu q;unfold ot;rw[be (ZfW g s hv.1 h2 q),be (xR g s hv.1 h2 q),hv.1];refine Zj ((Zf3 g s q).mono λx2 Q=>Zp ⟨λe=>J ⟨rfl,d,D,s.le Y,λw=>?_⟩,λe=>?_⟩);·simp only[Wx]at e;exact(e w).elim
 simp only[Wx]at e;obtain⟨M,U,P,O⟩:=Q.2.2 e;rw[O,ko];generalize hf:(if Zy A.1then 2+Ro N else 2:Nat)=f at*;refine Wo (W.Vy (λb=>∃(h:Nat)(d':Yi),b.1=h/\h<=R.length/\b.2.1=ds.set k d'/\∃(n:Nat)(G:BitVec 32)(fl:Bool),b.2.2=(some k,(f:Int),((Ro N:Nat):Int),G,(n:Int),fl)/\n<=Ro N/\DI N (c+n) d') (λb=>∃(d':Yi),b.2.1=ds.set k d'/\DI N (c+4096) d'/\∃(n:Nat)(G:BitVec 32)(fl:Bool),b.2.2=(some k,(f:Int),((Ro N:Nat):Int),G,(n:Int),fl)/\n<=Ro N) (λb=>(R.length-b.1).toNat) (λr=>r.1=v/\(∃d',r.2.1=ds.set k d'/\DI N (c+4096) d')/\¬r.2.2.2=0) ⟨0,d,rfl,Y,D,U,A.2.2,false,rfl,P,s.le Y⟩ Zw (λb y=>?_) (λb y=>?_) λr C=>⟨C.1,?_⟩)
 ·obtain⟨u1,u2,u3⟩:=b;obtain⟨h,d',B,e2,l,n,G,fl,p,x,m⟩:=y;dsimp only at B l p;subst B l p;refine Zp ⟨λe=>?_,λe=>J ⟨d',rfl,m.le Y,n,G,fl,rfl,x⟩⟩;simp only[Wx]at e;refine Zj (YF ⟨Zw,λx0 S=>Zj ((de (Vl g) m Y q M x (K x0 (X6 S))).mono λo⟨j,T,u,i,V,E,o5,o6,X,o8⟩=>?_)⟩);have i:DI N (c+n+T) j:=i.sm (by rw[E,Yw,qc];have:=m.2.2.2;omega);refine Zp ⟨λt=>?_,λt=>J ?_⟩;·rw[bs];simp only[Wx]at t;refine J ⟨rfl,⟨j,by rw[<-Sa (a:=d'),<-u],i.le Y⟩,t⟩
  ·simp only[Wx]at t;rw[show Zk (Zu (h:Int) 1)=((h+1:Nat):Int)by simp only[Wx];rw[ZK Y];rfl];refine⟨⟨h+1,j,rfl,Y,by rw[u,Sa],?_⟩,Zw⟩;rcases X with⟨-,-,-,z,q3,Z⟩|⟨z,-⟩|⟨z,-⟩;·exact⟨_,G,false,Z,z,i.le Y⟩
   ·omega
   ·omega
 ·obtain⟨u1,u2,u3⟩:=b;obtain⟨d',l,m,n,G,fl,p,x⟩:=y;dsimp only at l p;subst l p;refine Zj ((dh (Vl g) m Y).mono λo⟨j,u,i,V,E⟩=>J<|⟨rfl,j,by rw[u,Sa],i,λ_=>?_⟩);grind
 ·obtain⟨-,⟨d',F,H⟩,I⟩:=C;exact⟨d',F,H,λw=>(I w).elim⟩
theorem ZfX{N c k}{ds}{d}{v}{R}(hv:VW N k v)(a:ds[k]?=some d)(b:DI N c d)(h2:2<=N)(j:N<=4096)(Q:R.length<=5000)(S:c<=90000000)(C:∀r∈R,r.length<=1000000000):W (Gl v ds R) λo=>∃d',o.2.1=ds.set k d'/\DI N (c+5000) d'/\VW N k o.1:=by have l:=P9 a;unfold Gl;refine Zp ⟨λ_=>J ⟨d,l,b.le Y,hv⟩,λ_=>Zj ((ZsL hv.1 a b h2 j Y).mono λZ _=>Zp ⟨λ_=>J ⟨d,l,b.le Y,hv⟩,λ_=>Zj ((eZ a hv.1 b h2 Y).mono λo D=>?_)⟩)⟩;obtain⟨y,n,p,-,g,G,T,-⟩:=D;have e:VW N k o.1:=⟨g,by rw[G];exact hv.2⟩;refine Zp ⟨λ_=>J ⟨y,n,p.le Y,e⟩,λ_=>?_⟩;rw[n];refine Zj ((ZsK e (Vl a) p h2 j Y Y C).mono λX⟨f,z,u,w,I⟩=>Zp ⟨λ_=>Zj (ox.mono λx0 m=>J ⟨z,by rw[u,Sa],w.le Y,by rw[m.2.1,f];exact g,by rw[m.2.2.2.1,f];exact e.2⟩),λi=>?_⟩);simp only[Wx]at i;obtain⟨A,K,F,x,B,M,O,P⟩:=I i;rw[u,Sa];refine Zj ((eZ (Vl a) (by rw[f];exact g) w h2 Y).mono λU E=>?_);obtain⟨h,q,s,-,t,H,V,-⟩:=E;refine Zp ⟨λ_=>J ⟨h,by rw[q,Sa],s.le Y,t,by rw[H,f];exact e.2⟩,λ_=>J ⟨h,by rw[q,Sa],s.le Y,t,A,K,F,x,B,M,O,P⟩⟩
end Go.R
