import Derived.WalkKit
import Derived.RangeFuncKeeps
import Derived.OrdersIn
import Derived.LoopNIn
import Derived.DefersIn
import Derived.Orders
import Derived.Laws.BytesArg
import Derived.Laws.StructEq
import Derived.MapKept
import Derived.RangeFuncLeaves
import Derived.Lib.AppendZerosOnto
import Derived.Lib.Overlaps
import Derived.Laws.Externs
import Derived.ProofKit
import Derived.OpenShut
import Derived.Carry
import Derived.SevenTiedAt
import Derived.Deep.DeepHandedRow
import Derived.Lib.LaidTab
set_option linter.all false
namespace Go.Sl
abbrev L.{u}(a:Type u):=List a
abbrev Zg.{u}(a:Type u):=Option a
abbrev ZO(a:Nat):=BitVec a
def ZY:=λ{a b c d}=>(@List.mem_append a b c d).1
def Yc:=@List.append_assoc
def Ym:=λ{a b c d}=>(@List.mem_append a b c d).2
def Ys:=@if_neg
def YA:=@Nat.le_refl
def YF:=@Go.Sem.run_bind
def YL:=@Bool.and_eq_true
def YM:=@List.length_append
def Y3:=@Go.Result.andThen_ok
def Y4:=@if_pos
def Xz:=@Go.Sem.run_pure
def XL:=λ{a b c d}=>(@List.mem_cons a b c d).1
def XQ:=@List.mem_cons_self
def XX:=@List.append_nil
def XY:=@List.mem_cons_of_mem
def X2:=@List.mem_of_getElem?
def X8:=λ{a b c d}=>(@List.getElem?_eq_some_iff a b c d).1
def X9:=@Option.some.inj
def Wb:=@List.map_cons
def Wc:=@Nat.eq_of_beq_eq_true
def Wl:=@List.length_cons
def Wr:=@List.perm_append_comm
def WB:=@Nat.le_trans
def WW:=@List.map_append
def WX:=@congrArg
def W6:=@List.length_nil
def W7:=@Nat.zero_le
def W8:=@Go.run_underlying
def Ve:=@List.getElem?_eq_getElem
def VE:=@List.getElem?_append_left
def VF:=@List.length_drop
def VR:=λ{a b c d e}=>(@List.mem_map a b c d e).1
def VV:=@List.mem_map_of_mem
def V5:=@List.Perm.append_left
def UF:=@List.length_take
def UG:=@List.nil_append
def UH:=@if_false
def UT:=@List.take_of_length_le
def U0:=λ{a b c d}=>(@Array.getElem?_eq_some_iff a b c d).1
def TD:=@List.drop_drop
def TM:=@List.take_append_drop
def TN:=@Nat.blt_eq
def T5:=@List.nodup_append
def Sr:=@List.mem_append
def Ss:=@List.nodup_cons
def SE:=@Nat.add_mul
def Rn:=@Nat.lt_or_ge
def RH:=@Go.Addr.add_lit
def RK:=@Bool.false_eq_true
def Qc:=@Nat.zero_add
def Qe:=@if_true
def QZ:=@List.drop_of_length_le
def Q0:=@Nat.mul_le_mul_right
def Py:=@List.getElem?_drop
def PA:=@Nat.min_eq_left
def Oj:=@List.cons_append
def Ol:=λ{a b c d e}=>(@List.mem_map a b c d e).2
def O7:=@Nat.one_mul
def NP:=@List.Perm.cons
def NQ:=@List.getElem?_take
def NR:=@List.map_nil
def MI:=@List.all_eq_true
def MK:=@List.getElem?_append_right
def ML:=@List.take_succ_eq_append_getElem
def MM:=@Go.wpIn_mono
def LN:=@Bool.not_false
def LO:=@Bool.not_true
def KJ:=@List.drop_append_of_le_length
def KL:=@List.drop_eq_getElem_cons
def KM:=@List.drop_take
def KN:=@List.getElem?_cons_zero
def KP:=@List.getElem?_toArray
def KQ:=@List.take_append_of_le_length
def Io:=@Array.getElem?_setIfInBounds
def Ip:=@BitVec.ofInt_natCast
def Iq:=@List.flatten_cons
def Is:=@List.take_take
def It:=@Nat.beq_eq
def HZ:=@Nat.mod_eq_of_lt
def Gc:=@Option.map_some
def Gd:=@Go.eqGuard_at_int
def Ew:=@List.size_toArray
def Ey:=@Nat.add_zero
def EA:=@Nat.pow_le_pow_right
def CT:=@List.take_left'
def CV:=@BitVec.toNat_ofNat
def CW:=@Bool.eq_iff_iff
def CY:=@List.Perm.append_right
def CZ:=λ{a b c}=>(@List.all_eq_true a b c).1
def C3:=@List.forIn_cons
def C4:=@List.map_toArray
def C6:=@List.singleton_append
def C7:=@Nat.lt_of_lt_of_le
def C8:=λ{a b c d e}=>(@Option.bind_eq_some_iff a b c d e).1
def Bb:=λ{a b}=>(@Option.isSome_iff_exists a b).1
def Bc:=@Option.some.injEq
def Bd:=@Vector.length_toList
def Be:=@Go.World.cell?_of_block
def Bh:=@Go.World.putObj_heap_other
def Bi:=@Go.wpIn_seq
def yn:=@BitVec.eq_of_toNat_eq
def yo:=@Bool.or_false
def yz:=@List.mem_zipIdx_iff_getElem?
def yB:=@List.range_succ
def yC:=@List.take_add
def yD:=@Nat.add_comm
def yI:=@Go.run_loadCells_list
def tX:=@BitVec.ofNat_toNat
def tY:=@BitVec.setWidth_eq
def tZ:=@Bool.true_and
def sk:=@List.getElem?_cons_succ
def sB:=@List.mem_map
def sG:=@Nat.add_assoc
def sI:=@Nat.le_of_eq
def sM:=@Nat.shiftLeft_eq
def sN:=@Option.map_none
def sO:=@Go.World.putObj_size
def sP:=@decide_eq_true_eq
def sS:=@dite_true
def sU:=@Go.run_newObj
def kS:=@List.drop_left'
def kW:=@BitVec.le_def
def kY:=@BitVec.toNat_ofInt
def k9:=@Bool.false_and
def ja:=@Bool.false_or
def jf:=@List.drop_append
def jg:=@List.drop_length
def jl:=@Nat.le_of_lt
def jm:=@Nat.le_total
def jp:=@Nat.min_eq_right
def jq:=@Nat.sub_zero
def jr:=@Option.bind_some
def jt:=@Option.getD_some
def ju:=@Go.RoundIn.mono
def jy:=@not_false_iff
def jA:=@Go.run_program
def jB:=@Go.wpIn_cond_split
def ZaZ:=@Array.ext_getElem?
def Za1:=@Array.getElem?_eq_getElem
def Za2:=@Array.getInternal_eq_getElem
def Za4:=@Array.toArray_toList
def Za7:=@BitVec.toNat_inj
def Za8:=@BitVec.toNat_ushiftRight
def Zba:=@Go.DataW.trod_int
def Zbc:=@Int.toNat_of_nonneg
def Zbe:=@List.countP_le_length
def Zbl:=@List.mem_filter
def Zbn:=@Go.MapKept.bytes_beq
def Zbp:=@Nat.lt_irrefl
def Zbq:=@Nat.shiftRight_eq_div_pow
def Zbt:=@Go.World.block_lt_of_cell?
def Zbu:=@Go.World.cell?_alloc_lt
def Zbw:=@beq_self_eq_true
def Zbx:=@Go.wpIn_region_lit
def Zkv:=@Std.Legacy.Range.forIn_eq_forIn_range'
def Zkw:=@Array.all_eq_true_iff_forall_mem
def Zky:=@Array.mapM_eq_mapM_toList
def Zkz:=@BitVec.toNat_shiftLeft
def ZkC:=@List.eq_nil_iff_forall_not_mem
def ZkE:=@List.set_eq_of_length_le
def ZkF:=@List.set_eq_take_append_cons_drop
end Go.Sl
namespace Go.Sl
def Y{p:Prop}(h:p:=by omega):p:=h
def Zc{p:Prop}(h:p:=by simp):p:=h
def Zp{p:Prop}(h:p:=by grind):p:=h
def ZB{p:Prop}(h:p:=by dsimp only;omega):p:=h
def ZV{p:Prop}(h:p:=by kernel_rfl):p:=h
def Yr{p:Prop}(h:p:=by simp[Op.operands]):p:=h
def YI{p:Prop}(h:p:=by decide):p:=h
def Xk{p:Prop}(h:p:=by simp_all):p:=h
def XV{p:Prop}(h:p:=by simp;omega):p:=h
def Lv{p:Prop}(h:p:=by rintro p rfl;simp[Op.operands]):p:=h
end Go.Sl
namespace Go.Sl
def QS(n:Int):Int:=(n+9223372036854775808)%18446744073709551616-9223372036854775808
variable {C:Type}{A r j:Nat}{D d:World}{f b:TypeId}{x:Exit->Act->World->Prop}{G:Program}{H:Act}{c:L Oper}{h:Zg (Nat×Bool)}{z:Array Edge}{I:String}{J:Act->World->Prop}{i:L Code}{p:L Value}{K:Operand}{k:Zg Tmp}{M:L C}{N:C}{g:Array Oper}{Q:Int}{R:IntKind}{e:Func}{a:Bool}{S:Oper}{T:Nat->Bool}
def ks(h:-9223372036854775808<=Q/\Q<9223372036854775808):QS Q=Q:=by unfold QS;omega
def Fl(p q:Int):Int:=QS ((BitVec.ofInt 64 p&&&BitVec.ofInt 64 q).toNat:Int)
def fX(p q:Int):Int:=QS ((BitVec.ofInt 64 p|||BitVec.ofInt 64 q).toNat:Int)
def pT(p q:Int):Int:=QS ((BitVec.ofInt 64 p^^^BitVec.ofInt 64 q).toNat:Int)
def wM(p:Int)(n:Int):Int:=QS (p*2^min n.toNat 64)
def pS(p:Int)(n:Int):Int:=p.fdiv (2^min n.toNat 64)
def Mj(l:L C)(i:Int):Zg C:=if 0<=i then l[i.toNat]?else none
def ya(v:Vector C A)(i:Int):Zg C:=if 0<=i then v[i.toNat]?else none
def Zfl(l:L C)(lo hi:Int):Zg (L C):=if 0<=lo/\lo<=hi/\hi<=l.length then some ((l.take hi.toNat).drop lo.toNat)else none
def tu(n:Nat)(l:L C)(h:n<=l.length):Vector C n:=⟨(l.take n).toArray,by simp[PA h]⟩
def Zar(n:Nat)(l:L C):Zg (Vector C n):=if h:n<=l.length then some (tu n l h)else none
def yb(v:Vector C A)(lo:Nat)(l:L C):Vector C A:=if h:lo+l.length<=A then⟨(v.toList.take lo++l++v.toList.drop (lo+l.length)).toArray,XV⟩else v
def Zkj(v:Vector C A)(lo)(l)(h:lo+l.length<=A):(yb v lo l).toList=v.toList.take lo++l++v.toList.drop (lo+l.length):=by unfold yb;grind
inductive LR(σ ρ:Type)where|next(s:σ)|brk(s:σ)|ret(r:ρ)
def P5{σ ρ:Type}(f:σ->Zg (LR σ ρ)):Nat->σ->Zg (σ⊕ρ)|0,_=>none|n+1,s=>match f s with|none=>none|some (.next s')=>P5 f n s'|some (.brk s')=>some (.inl s')|some (.ret r)=>some (.inr r)
def AR(f:C->Zg (LR C Empty))(n:Nat)(s:C):Zg C:=match P5 f n s with|none=>none|some (.inl s')=>some s'|some (.inr e)=>e.elim
def Zql{f}{s':C}(h:AR f A N=some s'):∃o,P5 f A N=some o/\o=.inl s':=by unfold AR at h;grind
def FU:Nat:=4611686018427387904
def AP:Nat:=4294967296
def bind_some{β:Type}{o:Zg C}{f}{r:β}(h:Option.bind o f=some r):∃x,o=some x/\f x=some r:=C8 h
def Zpn{c}[Decidable c]{x}(h:(if c then x else none)=some N):c/\x=some N:=by grind
def bt{y r:C}(b:a=true)(h:(if a=true then N else y)=r):N=r:=Zp
def Fp(h:Mj M Q=some N):0<=Q/\∃hi,M[Q.toNat]=N:=by
 unfold Mj at h;split at h;·rename_i a;have⟨b,c⟩:=X8 h;exact⟨a,b,c⟩
 ·grind
def kq{v:Vector C A}(h:ya v Q=some N):0<=Q/\∃hi,v[Q.toNat]=N:=by
 unfold ya at h;split at h;·rename_i a;have⟨b,c⟩:=Vector.getElem?_eq_some_iff.1 h;exact⟨a,b,c⟩
 ·grind
def Zqp{r:L C}{hi}(h:Zfl M Q hi=some r):0<=Q/\Q<=hi/\hi<=M.length/\(M.take hi.toNat).drop Q.toNat=r:=by obtain⟨⟨a,b,c⟩,d⟩:=Zpn h;exact⟨a,b,c,Zp⟩
def ZAl{v:Vector C A}(h:Zar A M=some v):∃a,tu A M a=v:=by unfold Zar at h;grind
abbrev YO:=Nat->Nat->Zg Value
def Wy(m c:YO):Prop:=∀a b v,m a b=some v->c a b=some v
def Wy.refl(m):Wy m m:=λ_ _ _ a=>a
def Wy.trans{a b c}(h:Wy a b)(k:Wy b c):Wy a c:=λ_ _ _ d=>k _ _ _ (h _ _ _ d)
structure Wh where
 p:YO->Value->Prop
 mono:∀{m m':YO}{v:Value},Wy m m'->p m v->p m' v
abbrev YG:=L (Nat×Wh)
def lk:YG->Nat->Zg Wh|[],_=>none|(a,s)::Γ,t=>bif Nat.beq a t then some s else lk Γ t
def S9(Γ:YG)(m:YO)(a:Act):Prop:=∀c b,lk Γ c=some b->b.p m (a.tmps.getD c undef)
abbrev Hp:=L (Nat×TypeId×L Value)
def Hp.bs(hs:Hp):L Nat:=hs.map (·.1)
structure YC where
 p:YO->Hp->Prop
 mono:∀{m m':YO}{h:Hp},Wy m m'->p m h->p m' h
def ZS:L YC->YO->Hp->Prop|[],_,hs=>hs=[]|e::c,m,hs=>∃a b,hs=a++b/\e.p m a/\ZS c m b
def ZS.mono{m b}(a:Wy m b):∀{H}{hs},ZS H m hs->ZS H b hs|[],_,h=>h|_::_,_,⟨h1,h2,e,p,q⟩=>⟨h1,h2,e,YC.mono _ a p,ZS.mono a q⟩
def ZS.append{m}:∀{c d}{h1 h2},ZS c m h1->ZS d m h2->ZS (c++d) m (h1++h2)|[],_,_,_,rfl,k=>by simpa using k|e::_,_,_,_,⟨a,b,f,p,q⟩,k=>⟨a,b++_,Zp,p,ZS.append q k⟩
def ZS.split{m}:∀{c d}{hs},ZS (c++d) m hs->∃h1 h2,hs=h1++h2/\ZS c m h1/\ZS d m h2|[],_,hs,h=>⟨[],hs,rfl,rfl,h⟩|e::_,_,_,⟨a,b,l,p,q⟩=>by have⟨f,g,k,i,j⟩:=ZS.split q;exact⟨a++f,g,Zp,⟨a,f,rfl,p,i⟩,j⟩
structure Good(m:YO)(hs:Hp)(w:World):Prop where
 mem:∀b o v,m b o=some v->w.cell? ⟨b,o,none⟩=some v
 nodup:hs.bs.Nodup
 Xb:∀h∈hs,w.heap[h.1]?=some (.cells h.2.2.toArray h.2.1 (0,0))free:∀h∈hs,∀o,m h.1 o=none
structure ZW(w w':World)(m m':YO)(bs bs':List Nat):Prop where
 os:w'.os=w.os
 tape:w'.tape=w.tape
 output:w'.output=w.output
 size:w.heap.size<=w'.heap.size
 Vu:∀b,b<w.heap.size->b∉bs->w'.heap[b]?=w.heap[b]?/\∀o,m' b o=m b o
 own:∀b∈bs',b∈bs\/w.heap.size<=b
 le:Wy m m'
def ZW.refl(w)(m)(bs):ZW w w m m bs bs:=⟨rfl,rfl,rfl,Zc,Zc,λ_ a=>.inl a,Wy.refl _⟩
variable {B:YG}{F o:L YC}{s:Wh}{P:L Wh}{U:C->Wh}
def ZW.trans{o}{m j l}{e f g}(h:ZW D d m j e f)(k:ZW d o j l f g):ZW D o m l e g where
 os:=k.os.trans h.os;tape:=k.tape.trans h.tape;output:=k.output.trans h.output;size:=WB h.size k.size;Vu:=λa b i=>by have p:=h.Vu a b i;have q:=k.Vu a (C7 b h.size) λc=>(h.own a c).elim i Y;exact⟨Zp,λn=>(q.2 n).trans (p.2 n)⟩
 own:=λa b=>(k.own a b).elim (h.own a) λc=>.inr (WB h.size c);le:=h.le.trans k.le
def ZW.sub{m f}{a c e}(h:ZW D d m f a c)(k:∀b∈e,b∈c):ZW D d m f a e:={h with own:=λb g=>h.own b (k b g)}
def ZW.wide{m g}{e f}(r)(h:ZW D d m g e f):ZW D d m g (e++r) (f++r):={h with
  Vu:=λa c i=>h.Vu a c Zp
  own:=λa c=>(ZY c).elim (λb=>(h.own a b).imp (λb=>Ym (.inl b)) id) Xk}
structure GP where
 p:YO->Prop
 mono:∀{m m':YO},Wy m m'->p m->p m'
structure We where
 P:Program
 N:Nat
 G:GP
 m0:YO
 w0:World
 b0:List Nat
 ro:Option Nat:=none
 mm:Bool:=false
def WR(r:Zg Nat):Fence:={Fence.wide with round:=r}
def wh(r)(f):(WR r).fn f:=trivial
def Zel(r):(WR r).depth.isSome=true->1<=0:=λa=>by cases a
variable {y:We}
def Zm4{r}{f}{args}{R}:CallsIn (WR r) A G f args D R↔Calls G f args D R:=callsIn_wide
abbrev Znq(D:Nat):Deferred:=⟨.collected D,#[]⟩
def Ix(c:We)(ds:L Deferred)(w:World):Prop:=match c.mm with|false=>ds=[]|true=>∃a:L Nat,ds=a.map Znq/\a.Nodup/\∀b∈a,c.w0.heap.size<=b/\w.heap[b]?=some (.deferred (some []))
def Good.neD{m}{hs}(c:Good m hs D){o}(d:D.heap[A]?=some o)(b:o.isCells=false):A∉hs.bs:=by intro a;obtain⟨f,e,rfl⟩:=VR a;have:=c.Xb f e;rw[d]at this;have:=X9 this;subst this;cases b
def Ix.step{c}{ds}{w w'}{m n}{hs}{bs}(h:Ix c ds w)(j:Good m hs w)(i:ZW w w' m n hs.bs bs):Ix c ds w':=by unfold Ix at*;cases k:c.mm with|false=>grind|true=>rw[k]at h;have⟨f,g,l,d⟩:=h;refine⟨f,g,l,λa e=>⟨(d a e).1,?_⟩⟩;have b:=(d a e).2;exact(i.Vu a (U0 b).1 (j.neD b rfl)).1.trans b
def Ix.none{ds}(h:Ix y ds D)(a:y.mm=false):ds=[]:=by unfold Ix at h;grind
def St(c:We)(Γ:YG)(H:L YC)(a:Act)(w:World):Prop:=Ix c a.defers w/\a.tmps.size=c.N/\∃b d,Good b d w/\c.G.p b/\S9 Γ b a/\ZS H b d/\ZW c.w0 w c.m0 b c.b0 d.bs
def S9.mono{m a}(d:Wy m a)(h:S9 B m H):S9 B a H:=λe b c=>b.mono d (h e b c)
def JH(d)(s)(Γ:YG):lk ((d,s)::Γ) d=some s:=by simp[lk]
def He(h:A≠r)(s)(Γ:YG):lk ((A,s)::Γ) r=lk Γ r:=by
 show(bif Nat.beq A r then some s else lk _ r)=lk _ r;cases hb:Nat.beq A r;·rfl
 ·simp_all
def Lq{v}(h:A<H.tmps.size):(H.put (some A) v).tmps.getD A undef=v:=by simp[Act.put,Array.getD,h]
def Ku{v}(h:A≠r):(H.put (some A) v).tmps.getD r undef=H.tmps.getD r undef:=by simp only[Act.put,Array.getD];simp_all
def S9.put{m}{v}(h:S9 B m H)(d:A<H.tmps.size)(hv:s.p m v):S9 ((A,s)::B) m (H.put (some A) v):=by
 intro c e a;by_cases b:A=c;·subst b;rw[JH]at a;cases a;rw[Lq d];exact hv
 ·rw[He b]at a;rw[Ku b];exact h c _ a
def NB(a:Act)(d:Zg Nat)(v):(a.put d v).tmps.size=a.tmps.size:=by cases d<;>simp[Act.put]
def FI(a:Act)(d:Zg Nat)(v):(a.put d v).defers=a.defers:=by cases d<;>simp[Act.put]
inductive Ra{α:Type}:List α->α->List α->Prop|here{e:α}{t:List α}:Ra (e::t) e t|next{x e:α}{t t':List α}:Ra t e t'->Ra (x::t) e (x::t')
def Ra.perm{r}(h:Ra M N r):M.Perm (N::r):=by induction h with|here=>simp|next _ a=>exact(NP _ a).trans (List.Perm.swap _ _ _)
def ZS.pick{m}{e}(k:Ra F e o):∀{hs},ZS F m hs->∃h1 h2,hs.Perm (h1++h2)/\e.p m h1/\ZS o m h2:=by induction k with|here=>intro hs⟨h1,h2,b,p,q⟩;exact⟨h1,h2,Xk,p,q⟩|next _ f=>intro hs⟨h1,h2,b,p,q⟩;have⟨c,a,d,g,h⟩:=f q;refine⟨c,h1++a,?_,g,h1,a,rfl,p,h⟩;rw[b];exact(V5 _ d).trans (by rw[<-Yc,<-Yc];exact CY _ Wr)
def Good.perm{m}{hs b:Hp}(h:Good m hs D)(p:hs.Perm b):Good m b D where mem:=h.mem;nodup:=(p.map _).nodup_iff.1 h.nodup;Xb:=λa c=>h.Xb a Zp;free:=λa c=>h.free a (p.mem_iff.2 c)
def Good.sub{m}{hs b}(h:Good m (hs++b) D):Good m b D where
 mem:=h.mem;nodup:=by have:=h.nodup;simp[Hp.bs,WW]at this;exact(List.nodup_append.1 this).2.1
 Xb:=λa c=>h.Xb a Zp;free:=λa c=>h.free a Zp
def Hp.Wo(a b):Hp.bs (a++b)=a.bs++b.bs:=WW
variable {l:Hp}
def ZW.perm{m c}{a}{b:Hp}(h:ZW D d m c a l.bs)(p:l.Perm b):ZW D d m c a b.bs:=h.sub λf e=>(p.map _).mem_iff.2 e
def St.pick{e}(h:St y B F H D)(k:Ra F e o):St y B (e::o) H D:=by have⟨f,l,n,r,j,d,g,m,i⟩:=h;have⟨a,b,c,p,q⟩:=m.pick k;exact⟨f,l,n,a++b,j.perm c,d,g,⟨a,b,rfl,p,q⟩,i.perm c⟩
def St.drop{e}(h:St y B (e::F) H D):St y B F H D:=by obtain⟨d,j,k,o,i,b,f,⟨n,a,rfl,_,l⟩,g⟩:=h;exact⟨d,j,k,a,i.sub,b,f,l,g.sub λm c=>by rw[Hp.Wo];exact Ym (.inr c)⟩
inductive Bz:List YC->List YC->Prop|nil{H:List YC}:Bz H []|cons{H H1 H2:List YC}{e:YC}:Ra H e H1->Bz H1 H2->Bz H (e::H2)
def ZS.wR(k:Bz F o):∀{m}{hs},ZS F m hs->∃r c,hs.Perm (r++c)/\ZS o m c:=by induction k with|nil=>intro m hs _;exact⟨hs,[],Zc,rfl⟩|cons k _ g=>intro m hs d;have⟨a,l,e,h,i⟩:=d.pick k;have⟨r,b,f,j⟩:=g i;refine⟨r,a++b,e.trans ((V5 _ f).trans ?_),a,b,rfl,h,j⟩;rw[<-Yc,<-Yc];exact CY _ Wr
def St.wR(h:St y B F H D)(k:Bz F o):St y B o H D:=by have⟨d,i,m,q,g,b,e,l,f⟩:=h;have⟨r,j,a,n⟩:=l.wR k;exact⟨d,i,m,j,(g.perm a).sub,b,e,n,(f.perm a).sub λp c=>by rw[Hp.Wo];exact Ym (.inr c)⟩
def jV(Γ:YG)(t:Nat)(s:Wh):Prop:=∀b a,S9 Γ b a->s.p b (a.tmps.getD t undef)
inductive BK:YG->YG->Prop|nil{Γ:YG}:BK Γ []|cons{Γ Γ':YG}{t:Nat}{s:Wh}:jV Γ t s->BK Γ Γ'->BK Γ ((t,s)::Γ')
def BK.ok{c}(h:BK B c):∀{m}{a},S9 B m a->S9 c m a:=by induction h with|nil=>intro m a _ t s b;simp[lk]at b|@cons c t s h1 _ f=>
  intro m a d g i b;by_cases e:t=g;·subst e;rw[JH]at b;cases b;exact h1 m a d
  ·rw[He e]at b;exact f d _ _ b
def St.sub{a:YG}(h:St y B F H D)(k:BK B a):St y a F H D:=by have⟨c,g,l,i,f,b,d,j,e⟩:=h;exact⟨c,g,l,i,f,b,k.ok d,j,e⟩
def RS(P:Program)(k:Value->World->Prop):Result Next->Prop|.ok (.value v) w=>k v w|.ok .skip w=>k undef w|.ok (.enter f args) w=>Calls P f args w λa b=>∃v,a=.returned v/\k v b|.ok (.round l f tmps assign body) w=>RoundIn Fence.wide 0 P l f tmps assign body w λa b=>∃v,a=.returned v/\k v b|_=>False
def RS.Zq9{ρ}{k}(h:RS G k ((execOp ρ S).run G D)):∀c,S.op≠.defer c:=by intro c a;unfold execOp at h;rw[a]at h;simp at h;generalize(resolve _ c _).run G D=r at h;cases r with|halt e b=>exact h.elim|ok d b=>exact h.elim
def RS.wp{r}{k}(h:RS G k ((execOp H.eval S).run G D))(b:∀v w',k v w'->J (H.put S.dst v) w'):S.wpIn (WR r) 0 G H D J x:=by refine⟨λa _=>wh r a,?_⟩;rw[Oper.semAt_eq _ _ _ h.Zq9];generalize(execOp _ S).run G D=r at h;cases r with|halt i w'=>exact h.elim|ok c w'=>cases c with|value v=>exact b _ _ h|skip=>exact b _ _ h|enter a args=>refine⟨Zel _,Zm4.2 (Calls.mono h ?_)⟩;grind|round f a g d e=>refine⟨Zel _,ju h ?_⟩;grind|_=>exact h.elim
def RS.mono{P}{k k'}{r}(h:RS P k r)(a:∀v w,k v w->k' v w):RS P k' r:=by cases r with|halt j d=>exact h.elim|ok c d=>cases c with|value v=>exact a _ _ h|skip=>exact a _ _ h|enter b args=>refine Calls.mono h ?_;grind|round g b i e f=>refine ju h ?_;grind|_=>exact h.elim
def PH(Γ:YG)(m:YO)(a:Act):Operand->Prop|.tmp t=>∀b,lk Γ t=some b->b.p m (a.tmps.getD t undef)|_=>True
def rO(o:Oper)(Γ:YG)(m:YO)(a:Act):Prop:=∀b∈o.op.operands,PH Γ m a b
def S9.Z9{m}(h:S9 B m H)(x):PH B m H x:=by cases x<;>simp only[PH];exactλb a=>h _ b a
def Xe(Γ:YG)(x:Operand)(s:Wh):Prop:=∀b a,PH Γ b a x->s.p b (a.eval x)
def Xg(h:lk B A=some s):Xe B (.tmp A) s:=λ_ _ a=>a s h
def PJ(c:We)(o:Oper)(Γ:YG)(H:L YC)(s:Wh):Prop:=∀a b f e,Good a b e->c.G.p a->ZS H a b->rO o Γ a f->RS c.P (λv g=>∃d,Good d b g/\s.p d v/\ZW e g a d [] []) ((execOp f.eval o).run c.P e)
def QB(c:We)(g:Array Oper)(l:L Oper)(Γ:YG)(H:L YC)(K:Act->World->Prop):Prop:=∀b e a,(∀d f,K d f->a .normal d f)->St c Γ H b e->wpListIn (WR c.ro) 0 c.P g a l b e
def ZS.JA{m a}(h:ZS F m l)(f:ZW D d m a [] []):ZS F a l:=h.mono f.le
def ZW.pU{m a}(f:ZW D d m a [] [])(bs):ZW D d m a bs bs:=by simpa using f.wide _
def Vk{o}(h:PJ y o B F s)(r:o.guard=none)(n:o.dst=some A)(H:Nat.blt A y.N=true)(k:QB y g c ((A,s)::B) F J):QB y g (o::c) B F J:=by refineλj D i m⟨p,u,z,w,e,b,d,f,q⟩=>wpListIn_plain r λG l=>RS.wp (h z _ j D e b f λE _=>d.Z9 E) λv I⟨C,t,x,a⟩=>l _ _ (k _ _ i m ⟨by rw[FI];exact p.step e (a.pU _),by rw[NB];exact u,C,w,t,y.G.mono a.le b,?_,f.JA a,q.trans (a.pU _)⟩);rw[n];exact(d.mono a.le).put Xk x
def Q4(m:YO):L Wh->L Value->Prop|[],vs=>vs=[]|s::ss,vs=>∃v a,vs=v::a/\s.p m v/\Q4 m ss a
def Q4.mono{m b}(a:Wy m b):∀{ss}{vs},Q4 m ss vs->Q4 b ss vs|[],_,h=>h|s::_,_,⟨v,c,e,p,q⟩=>⟨v,c,e,s.mono a p,Q4.mono a q⟩
def Gk(P:Program)(G:GP)(f:FuncId)(A:L Wh)(E:L YC)(ρ:C->Wh)(k:C->L YC):Prop:=∀a e h c,Good a c e->G.p a->Q4 a A h->ZS E a c->Calls P f h.toArray e λj i=>∃v b d g,j=.returned v/\Good b d i/\(ρ g).p b v/\ZS (k g) b d/\ZW e i a b c.bs d.bs
def j8(c:We)(ρ:C->Wh)(f:C->L YC)(e:Ending)(w':World):Prop:=∃v a b d,e=.returned v/\Good a b w'/\(ρ d).p a v/\ZS (f d) a b/\ZW c.w0 w' c.m0 a c.b0 b.bs
def GV:Nat->L Wh->YG|_,[]=>[]|k,s::ss=>(k,s)::GV (k+1) ss
def Zfi{m}:∀(ss)(k)(vs pre a),Q4 m ss vs->pre.length=k->∀t s,lk (GV k ss) t=some s->s.p m ((pre++vs++a).toArray.getD t undef)
 |[],_,_,_,_,_,_,_,_,e=>by simp[GV,lk]at e|s0::ss,k,vs,pre,a,⟨v,d,c,p,q⟩,hk,t,s,e=>by
  subst c;by_cases b:k=t;·subst b;simp[GV,JH]at e;simp_all
  ·simp[GV]at e;rw[He b]at e;have:=Zfi _ _ d (pre++[v]) a q Zp t s e;simpa using this
def Q4.length{m}:∀{ss}{vs},Q4 m ss vs->vs.length=ss.length|[],_,rfl=>by rfl|_::_,_,⟨_,_,rfl,_,q⟩=>by simp[q.length]
def ZnD{P}{G}{f}{d}{N}{A}{l}(p:P.funcs[f]?=some e)(o:e.body=some d)(y:e.ntmps=N)(x:Nat.ble A.length N=true)(h:∀c,c.P=P->c.N=N->c.G=G->c.ro=none->c.mm=false->∀a w,St c (GV 0 A) F a w->d.wpIn (WR none) 0 P (bodyPost P e (j8 c U l)) a w):Gk P G f A F U l:=by
 intro k w b i q n j s;have t:St ⟨P,N,G,k,w,i.bs,none,false⟩ (GV 0 A) F {tmps:=b.toArray++Array.replicate (e.ntmps-b.toArray.size) undef,defers:=[]} w:=by
  refine⟨rfl,?_,k,i,q,n,?_,s,ZW.refl _ _ _⟩;·have:=j.length;simp_all
  ·intro v u g;have:=Zfi A 0 _ [] (List.replicate (e.ntmps-b.toArray.size) undef) j rfl v u g;have m:([]++b++List.replicate (e.ntmps-b.toArray.size) undef).toArray=b.toArray++Array.replicate (e.ntmps-b.toArray.size) undef:=Zc;rwa[m]at this
 refine(calls_of_wp p o (wpIn_wide.1 (h _ rfl rfl rfl rfl rfl _ w t))).mono<|λg z r=>r
structure Z1(α:Type)where
 n:Nat
 ag:Bool
 rel:YO->List Value->α->Prop
 mono:∀{m m':YO}{cs:List Value}{x:α},Wy m m'->rel m cs x->rel m' cs x
 len:∀{m:YO}{cs:List Value}{x:α},rel m cs x->cs.length=n
 cell:∀{m:YO}{cs:List Value}{x:α},rel m cs x->∀v∈cs,v.oneCell'=true
 one:ag=false->n=1
def Z1.is(R:Z1 C)(m:YO)(v:Value)(x:C):Prop:=match R.ag with|true=>∃a:L Value,v=.agg a.toArray/\R.rel m a x|false=>R.rel m [v] x
def Z1.ZpQ(R:Z1 C){m b}{v}(a:Wy m b)(h:R.is m v N):R.is b v N:=by unfold Z1.is at*;cases hb:R.ag with|true=>simp[hb]at h⊢;have⟨c,d,e⟩:=h;exact⟨c,d,R.mono a e⟩|false=>simp[hb]at h⊢;exact R.mono a h
def Z1.slot(R:Z1 C)(x:C):Wh:=⟨λc v=>R.is c v x,λb a=>R.ZpQ b a⟩
def Zdj{v:Value}(h:v.oneCell'=true):v.cells=#[v]:=by cases v<;>first|rfl|(simp[Value.oneCell']at h)
def Z1.fY{R:Z1 C}{m}{v}(h:R.is m v N):∃cs,v.cells=cs.toArray/\R.rel m cs N:=by unfold Z1.is at h;cases hb:R.ag with|true=>simp[hb]at h;obtain⟨cs,rfl,a⟩:=h;exact⟨cs,rfl,a⟩|false=>simp[hb]at h;exact⟨[v],Zdj (R.cell h v Zc),h⟩
def TI(ag:Bool)(cs:L Value):Value:=match ag with|true=>.agg cs.toArray|false=>cs.headD undef
def Z1.ZeY{R:Z1 C}{m}(h:R.rel m p N):R.is m (TI R.ag p) N:=by unfold Z1.is TI;cases hb:R.ag with|true=>grind|false=>have:=R.len h;rw[R.one hb]at this;match p,this with|[v],_=>grind
def Xm{α:Type}(R:Z1 α)(m:YO):L Value->L α->Prop|cs,[]=>cs=[]|cs,x::xs=>∃a b,cs=a++b/\R.rel m a x/\Xm R m b xs
def Xm.mono{α:Type}{R:Z1 α}{m b}(a:Wy m b):∀{xs}{cs},Xm R m cs xs->Xm R b cs xs|[],_,h=>h|_::_,_,⟨c,d,e,p,q⟩=>⟨c,d,e,R.mono a p,Xm.mono a q⟩
def Xm.length{α:Type}{R:Z1 α}{m}:∀{xs}{cs},Xm R m cs xs->cs.length=xs.length*R.n|[],_,h=>by simp[Xm]at h;simp[h]|_::xs,_,⟨c,a,e,p,q⟩=>by rw[e,YM,R.len p,Xm.length q,Wl,SE,O7,yD]
def Xm.cell{α:Type}{R:Z1 α}{m}:∀{xs}{cs},Xm R m cs xs->∀v∈cs,v.oneCell'=true|[],_,h,v,hv=>by simp[Xm]at h;simp[h]at hv|_::xs,_,⟨c,a,e,p,q⟩,v,hv=>by rw[e,Sr]at hv;exact hv.elim (R.cell p v) (Xm.cell q v)
def Xm.append{α:Type}{R:Z1 α}{m}:∀{xs ys}{cs ds},Xm R m cs xs->Xm R m ds ys->Xm R m (cs++ds) (xs++ys)|[],_,_,_,h,k=>by simp[Xm]at h;simpa[h]using k|_::_,_,_,_,⟨c,a,e,p,q⟩,k=>⟨c,a++_,Zp,p,Xm.append q k⟩
def Xm.split{α:Type}{R:Z1 α}{m}:∀{xs ys}{cs},Xm R m cs (xs++ys)->Xm R m (cs.take (xs.length*R.n)) xs/\Xm R m (cs.drop (xs.length*R.n)) ys|[],ys,cs,h=>by simpa[Xm]using h|x::xs,ys,cs,⟨c,a,e,p,q⟩=>by have⟨d,f⟩:=Xm.split q;have g:=R.len p;have b:(x::xs).length*R.n=c.length+xs.length*R.n:=Zp;rw[b,e];refine⟨⟨c,a.take _,Zp,p,d⟩,by simpa[QZ]using f⟩
variable {E:Z1 C}
def Xm.single{m}(h:E.rel m p N):Xm E m p [N]:=⟨p,[],Zc,h,rfl⟩
def Xm.dO{m}(h:Xm E m p [N]):E.rel m p N:=by have⟨b,c,d,e,a⟩:=h;simp[Xm]at a;grind
def eC(h):M=M.take A++([M[A]]++M.drop (A+1)):=by simp
def Xm.get{m}{i}(h:Xm E m p M)(hi):E.rel m ((p.drop (i*E.n)).take E.n) M[i]:=by rw[eC hi]at h;have⟨_,a⟩:=Xm.split h;have⟨b,_⟩:=Xm.split a;have:=b.dO;simpa[PA (jl hi)]using this
def Xm.set{R}{m}{ds}{i}{y:C}(h:Xm R m p M)(hi:i<M.length)(f:R.rel m ds y):Xm R m (p.take (i*R.n)++ds++p.drop (i*R.n+R.n)) (M.set i y):=by
 have c:M.set i y=M.take i++([y]++M.drop (i+1)):=by rw[ZkF,Y4 hi,C6]
 rw[c,Yc];rw[eC hi]at h;have⟨a,e⟩:=Xm.split h;have⟨_,b⟩:=Xm.split e;have d:(List.take i M).length=i:=Zp;rw[d]at a b;refine a.append (Xm.append (Xm.single f) ?_);simpa[TD]using b
def Xm.take{m}(k)(h:Xm E m p M):Xm E m (p.take (k*E.n)) (M.take k):=by
 by_cases b:k<=M.length;·have a:=h;rw[<-TM k M]at a;have:=(Xm.split a).1;simpa[PA b]using this
 ·have c:M.take k=M:=UT Y;have:p.take (k*E.n)=p:=UT (by rw[h.length];exact Q0 _ Y);grind
def Xm.drop{R:Z1 C}{m}(k)(h:Xm R m p M):Xm R m (p.drop (k*R.n)) (M.drop k):=by
 by_cases b:k<=M.length;·have a:=h;rw[<-TM k M]at a;have:=(Xm.split a).2;simpa[PA b]using this
 ·have c:M.drop k=[]:=QZ Y;have:p.drop (k*R.n)=[]:=QZ (by rw[h.length];exact Q0 _ Y);rw[c,this];rfl
def At(m:YO)(b o:Nat)(cs:L Value):Prop:=∀a v,cs[a]?=some v->m b (o+a)=some v
def At.mono{m a}(c:Wy m a)(h:At m A r p):At a A r p:=λd v b=>c _ _ _ (h d v b)
def At.DN{m}(k n)(h:At m A r p):At m A (r+k) ((p.drop k).take n):=by
 intro a v e;rw[NQ]at e;split at e;·rw[Py]at e;have:=h _ v e;rwa[<-sG]at this
 ·grind
def i64:Z1 Int where
 n:=1;ag:=false;rel:=λ_ c d=>c=[.int .i64 d];mono:=λ_ a=>a;len:=λa=>by subst a;rfl
 cell:=λa v b=>by subst a;simp at b;subst b;rfl
 one:=λ_=>rfl
def un(k:IntKind)(w:Nat):Z1 (ZO w)where
 n:=1;ag:=false;rel:=λ_ c d=>c=[.int k (d.toNat:Int)];mono:=λ_ a=>a;len:=λa=>by subst a;rfl
 cell:=λa v b=>by subst a;simp at b;subst b;rfl
 one:=λ_=>rfl
abbrev u8:Z1 (ZO 8):=un .u8 8
abbrev u16:Z1 (ZO 16):=un .u16 16
abbrev u32:Z1 (ZO 32):=un .u32 32
abbrev u64:Z1 (ZO 64):=un .u64 64
def bl:Z1 Bool where
 n:=1;ag:=false;rel:=λ_ c d=>c=[.bool d];mono:=λ_ a=>a;len:=λa=>by subst a;rfl
 cell:=λa v b=>by subst a;simp at b;subst b;rfl
 one:=λ_=>rfl
def exv(v:Value):Z1 Unit where
 n:=1;ag:=false;rel:=λ_ d _=>d=[v]/\v.oneCell'=true;mono:=λ_ a=>a;len:=λa=>by rw[a.1];rfl
 cell:=λc e b=>by rw[c.1]at b;simp at b;subst b;exact c.2
 one:=λ_=>rfl
def vec{α:Type}(n:Nat)(R:Z1 α):Z1 (Vector α n)where
 n:=n*R.n;ag:=true;rel:=λd b e=>Xm R d b e.toList;mono:=λc a=>a.mono c;len:=λa=>by rw[a.length,Bd]
 cell:=λa=>a.cell;one:=λa=>by cases a
def prod{β:Type}(R:Z1 C)(c:Z1 β):Z1 (C×β)where
 n:=R.n+c.n;ag:=true;rel:=λi k j=>∃a b,k=a++b/\R.rel i a j.1/\c.rel i b j.2;mono:=λg⟨a,b,d,e,f⟩=>⟨a,b,d,R.mono g e,c.mono g f⟩;len:=λ⟨a,b,d,e,f⟩=>by rw[d,YM,R.len e,c.len f]
 cell:=λ⟨a,b,d,e,f⟩v h=>by rw[d,Sr]at h;exact h.elim (R.cell e v) (c.cell f v)
 one:=λl=>by cases l
def only(R:Z1 C):Z1 C:={R with ag:=true,one:=λa=>by cases a}
def sl(R:Z1 C):Z1 (L C)where
 n:=1;ag:=false;rel:=λj k e=>∃a b,k=[.slice a e.length b]/\e.length<=b/\(e=[]\/∃d f g,a=some ⟨d,f,none⟩/\Xm R j g e/\At j d f g);mono:=λi⟨a,b,c,o,m⟩=>⟨a,b,c,o,m.imp id λ⟨d,f,g,l,p,q⟩=>⟨d,f,g,l,p.mono i,q.mono i⟩⟩;len:=λ⟨a,b,c,_,_⟩=>by rw[c];rfl
 cell:=λ⟨a,b,c,_,_⟩v h=>by rw[c]at h;simp at h;subst h;rfl
 one:=λ_=>rfl
def ptr(R:Z1 C):Z1 (Zg C)where
 n:=1;ag:=false;rel:=λi g b=>match b with|none=>g=[.pointer none]|some j=>∃c f d,g=[.pointer (some ⟨c,f,none⟩)]/\R.rel i d j/\At i c f d;mono:=λ{i o g b}m a=>by cases b with|none=>exact a|some j=>obtain⟨c,f,d,h,k,l⟩:=a;exact⟨c,f,d,h,R.mono m k,l.mono m⟩
 len:=λ{i g b}a=>by cases b with|none=>rw[a];rfl|some j=>obtain⟨c,f,d,h,k,l⟩:=a;rw[h];rfl
 cell:=λ{i g b}a v e=>by cases b with|none=>rw[a]at e;simp at e;subst e;rfl|some j=>obtain⟨c,f,d,h,k,l⟩:=a;rw[h]at e;simp at e;subst e;rfl
 one:=λ_=>rfl
def val(v:Value):Wh:=⟨λ_ b=>b=v,λ_ a=>a⟩
def any:Wh:=⟨λ_ _=>True,λ_ _=>trivial⟩
abbrev ov(v:Value):Wh:=(exv v).slot ()
def JP{v u}{m}:(ov v).p m u↔u=v/\v.oneCell'=true:=by simp[Z1.slot,Z1.is,exv]
def Zrx{a}{m}:(ov (.slice a A r)).p m (.slice a A r):=JP.2 ⟨rfl,rfl⟩
structure Pc{α β:Type}(R:Z1 α)(off:Nat)(S:Z1 β)(get:α->β)(set:α->β->α):Prop where
 fits:off+S.n<=R.n
 JC:∀{m:YO}{cs:List Value}{x:α},R.rel m cs x->S.rel m ((cs.drop off).take S.n) (get x)FY:∀{m:YO}{cs ds:List Value}{x:α}{y:β},R.rel m cs x->S.rel m ds y->R.rel m (cs.take off++ds++cs.drop (off+S.n)) (set x y)
def Pc.all(R:Z1 C):Pc R 0 R (λx=>x) (λ_ y=>y)where
 fits:=Zc;JC:=λ{d b x}a=>by have:=R.len a;simpa[UT (sI this)]using a
 FY:=λ{d b e x y}a c=>by have:=R.len a;simpa[QZ (sI this)]using c
def Pc.fst{β:Type}(R:Z1 C)(e:Z1 β):Pc (prod R e) 0 R (λx=>x.1) λx y=>(y,x.2)where
 fits:=by simp[prod]
 JC:=λ{j g x}⟨f,b,c,a,d⟩=>by have:=R.len a;grind
 FY:=λ{j g h x y}⟨f,b,c,a,d⟩i=>by have:=R.len a;subst c;refine⟨h,b,?_,i,d⟩;simp[jf,<-this]
def Pc.snd{β:Type}(R:Z1 C)(a:Z1 β):Pc (prod R a) R.n a (λx=>x.2) λx y=>(x.1,y)where
 fits:=by simp[prod]
 JC:=λ{l e x}⟨d,f,h,b,c⟩=>by have i:=R.len b;have j:=a.len c;grind
 FY:=λ{l e g x y}⟨d,f,h,b,c⟩k=>by have i:=R.len b;have j:=a.len c;refine⟨d,g,?_,b,k⟩;grind
def Pc.at(n)(R:Z1 C)(i)(hi):Pc (vec n R) (i*R.n) R (λx=>x[i]) (λx y=>x.set i y)where
 fits:=by calc i*R.n+R.n=(i+1)*R.n:=Zp
   _<=n*R.n:=Q0 _ hi
 JC:=λ{b c x}a=>by have:=Xm.get a (i:=i) Zp;simpa using this
 FY:=λ{b c e x y}a d=>by have:=Xm.set (i:=i) a Zp d;show Xm R b _ _;simpa[Vector.toList_set]using this
def Pc.then{β:Type}{m}{b:Z1 β}{T:Z1 m}{d}{g}{f}{i}(h:Pc E A b d g)(k:Pc b r T f i):Pc E (A+r) T (λx=>f (d x)) λx z=>g x (i (d x) z)where
 fits:=by have:=h.fits;have:=k.fits;omega
 JC:=λ{l a x}c=>by have:=k.JC (h.JC c);rw[KM,TD,Is]at this;have q:=k.fits;rwa[PA Y]at this
 FY:=λ{l a e x z}c j=>by
  have p:=h.FY c (k.FY (h.JC c) j);have s:=k.fits;have n:a.take A++(((a.drop A).take b.n).take r++e++((a.drop A).take b.n).drop (r+T.n))++a.drop (A+b.n)=a.take (A+r)++e++a.drop (A+r+T.n):=by
   rw[Is,yC];have o:((a.drop A).take b.n).drop (r+T.n)++a.drop (A+b.n)=a.drop (A+r+T.n):=by
    rw[KM,TD];have:a.drop (A+b.n)=(a.drop (A+(r+T.n))).drop (b.n-(r+T.n)):=by rw[TD];congr 1;omega
    rw[this,TM];congr 1;omega
   grind
  grind
def box{α:Type}(b:Nat)(T:TypeId)(R:Z1 α)(x:α):YC where p:=λg f=>∃a,f=[(b,T,a)]/\R.rel g a x;mono:=λe⟨a,c,d⟩=>⟨a,c,R.mono e d⟩
def own{α:Type}(T:TypeId)(R:Z1 α)(v:Value)(l:L α):YC where p:=λk e=>(l=[]/\e=[]/\∃f,v=.slice f 0 0)\/∃c a b d,v=.slice (some ⟨c,0,none⟩) l.length a/\e=[(c,T,b++d)]/\Xm R k b l/\l.length<=a/\(b++d).length=a*R.n;mono:=λj i=>i.imp id λ⟨c,a,b,d,g,h,p,m⟩=>⟨c,a,b,d,g,h,p.mono j,m⟩
def own.one{α:Type}{T}{R:Z1 α}{v}{l}{m}{hs}(h:(own T R v l).p m hs):v.oneCell'=true:=by obtain⟨rfl,_,a,rfl⟩|⟨b,c,d,e,rfl,_⟩:=h<;>rfl
def own.shape{v}{m}(h:(own f E v M).p m l):∃a cap,v=.slice a M.length cap/\M.length<=cap:=by
 obtain⟨rfl,_,a,rfl⟩|⟨c,cap,d,e,rfl,_,_,b,_⟩:=h;·simp
 ·exact⟨_,cap,rfl,b⟩
def ZaI(n):IntKind.i64.wrap n=QS n:=IntKind.wrap_i64 n
def ME(a:R.bits=A)(hs:R.signed=false)(n):R.wrap n=(BitVec.ofInt A n).toNat:=by simp only[IntKind.wrap,hs,k9,RK,UH,kY,a];rw[Zbc Y];norm_cast
def Vj{x}{m}{v}:(i64.slot x).p m v↔v=.int .i64 x:=by simp[Z1.slot,Z1.is,i64]
def V6:=λ{a b c}=>(@Vj a b c).1
def JD{m}:(i64.slot (QS Q)).p m (.int .i64 (IntKind.i64.wrap Q)):=Vj.2 (by rw[ZaI])
def WV{k}{w}{x}{m}{v}:((un k w).slot x).p m v↔v=.int k x.toNat:=by simp[Z1.slot,Z1.is,un]
def Uu:=λ{a b c d e}=>(@WV a b c d e).1
def Tv{x}{m}{v}:(bl.slot x).p m v↔v=.bool x:=by simp[Z1.slot,Z1.is,bl]
def Qd:=λ{a b c}=>(@Tv a b c).2
section
variable {c:We}{Γ:YG}{H H':L YC}{d:Zg Tmp}{ty:TypeId}{pos:String}{aft:Array Edge}{g:Zg (Nat×Bool)}
def AB{s'}(h:Xe Γ K s)(k:∀m v,s.p m v->s'.p m v):Xe Γ K s':=λm a b=>k m _ (h m a b)
def Nz(h:∀m hs a w,Good m hs w->c.G.p m->ZS H m hs->rO S Γ m a->∃v,(execOp a.eval S).run c.P w=.ok (.value v) w/\s.p m v):PJ c S Γ H s:=by intro m hs a w b f j i;have⟨v,e,k⟩:=h m _ a w b f j i;rw[e];exact⟨m,b,k,ZW.refl _ _ _⟩
def PJ.imp{s'}(h:PJ c S Γ H s)(k:∀m v,s.p m v->s'.p m v):PJ c S Γ H s':=by exactλm q a p f b l j=>(h m _ a p f b l j).mono λv r⟨o,i,n,e⟩=>⟨o,i,k _ _ n,e⟩
def UR(hx:Xe Γ K s):PJ c ⟨d,.move K,ty,pos,aft,g⟩ Γ H s:=Nz λe f a h _ _ _ b=>⟨_,rfl,hx e a (b K Yr)⟩
def Hr(hx:Xe Γ K s):PJ c ⟨d,.assign K,ty,pos,aft,g⟩ Γ H s:=Nz λe f a h _ _ _ b=>⟨_,rfl,hx e a (b K Yr)⟩
def Uc{a}{y}{j k s}(hx:Xe Γ K j)(o:Xe Γ y k)(h:∀m u v w,j.p m u->k.p m v->∃r,(do eqGuard a f K y u v;binOp a f u v:Sem Value).run c.P w=.ok r w/\s.p m r):PJ c ⟨d,.binOp a f K y b,ty,pos,aft,g⟩ Γ H s:=by refine Nz λm p e w _ _ _ i=>?_;have⟨r,l,n⟩:=h m _ _ w (hx m e (i K Yr)) (o m e (i y Yr));refine⟨r,?_,n⟩;simp only[execOp];rw[YF,l];rfl
section
variable {t yt:TypeId}{x y:Operand}{p q:Int}(hx:Xe Γ x (i64.slot p))(Z:Xe Γ y (i64.slot q))
include hx Z
def Zr2:PJ c ⟨d,.binOp .add t x y yt,ty,pos,aft,g⟩ Γ H (i64.slot (QS (p+q))):=Uc hx Z λe f v h a b=>by cases V6 a;cases V6 b;exact⟨_,by simp[eqGuard_add,binOp_add,Op.intArith],JD⟩
def Zsg:PJ c ⟨d,.binOp .sub t x y yt,ty,pos,aft,g⟩ Γ H (i64.slot (QS (p-q))):=Uc hx Z λe f v h a b=>by cases V6 a;cases V6 b;exact⟨_,by simp[eqGuard_sub,binOp_sub,Op.intArith],JD⟩
def Zr8:PJ c ⟨d,.binOp .mul t x y yt,ty,pos,aft,g⟩ Γ H (i64.slot (QS (p*q))):=Uc hx Z λe f v h a b=>by cases V6 a;cases V6 b;exact⟨_,by simp[eqGuard_mul,binOp_mul,Op.intArith],JD⟩
def Zsc(a:q≠0):PJ c ⟨d,.binOp .quo t x y yt,ty,pos,aft,g⟩ Γ H (i64.slot (QS (p.tdiv q))):=Uc hx Z λf h v i b e=>by cases V6 b;cases V6 e;exact⟨_,by simp[eqGuard_quo,binOp_quo,Op.intDiv,a],JD⟩
def Zsd(a:q≠0):PJ c ⟨d,.binOp .rem t x y yt,ty,pos,aft,g⟩ Γ H (i64.slot (p.tmod q)):=Uc hx Z λf h v i b e=>by cases V6 b;cases V6 e;exact⟨_,by simp[eqGuard_rem,binOp_rem,Op.intDiv,a],Vj.2 rfl⟩
def Zr7:PJ c ⟨d,.binOp .lss t x y yt,ty,pos,aft,g⟩ Γ H (bl.slot (decide (p<q))):=Uc hx Z λe f v h a b=>by cases V6 a;cases V6 b;exact⟨_,by simp[eqGuard_lss,binOp_lss],Qd rfl⟩
def Zr6:PJ c ⟨d,.binOp .leq t x y yt,ty,pos,aft,g⟩ Γ H (bl.slot (decide (p<=q))):=Uc hx Z λe f v h a b=>by cases V6 a;cases V6 b;exact⟨_,by simp[eqGuard_leq,binOp_leq],Qd rfl⟩
def Zr5:PJ c ⟨d,.binOp .gtr t x y yt,ty,pos,aft,g⟩ Γ H (bl.slot (decide (q<p))):=Uc hx Z λe f v h a b=>by cases V6 a;cases V6 b;exact⟨_,by simp[eqGuard_gtr,binOp_gtr],Qd rfl⟩
def Zr4:PJ c ⟨d,.binOp .geq t x y yt,ty,pos,aft,g⟩ Γ H (bl.slot (decide (q<=p))):=Uc hx Z λe f v h a b=>by cases V6 a;cases V6 b;exact⟨_,by simp[eqGuard_geq,binOp_geq],Qd rfl⟩
def cf:PJ c ⟨d,.binOp .eql t x y yt,ty,pos,aft,g⟩ Γ H (bl.slot (decide (p=q))):=Uc hx Z λe f v h a b=>by cases V6 a;cases V6 b;exact⟨_,by rfl,Qd Zp⟩
def Zsa:PJ c ⟨d,.binOp .neq t x y yt,ty,pos,aft,g⟩ Γ H (bl.slot !decide (p=q)):=Uc hx Z λe f v h a b=>by cases V6 a;cases V6 b;exact⟨_,by rfl,Qd Zp⟩
def Zr3:PJ c ⟨d,.binOp .and t x y yt,ty,pos,aft,g⟩ Γ H (i64.slot (Fl p q)):=Uc hx Z λe f v h a b=>by cases V6 a;cases V6 b;exact⟨_,by rfl,JD⟩
def Zsb:PJ c ⟨d,.binOp .or t x y yt,ty,pos,aft,g⟩ Γ H (i64.slot (fX p q)):=Uc hx Z λe f v h a b=>by cases V6 a;cases V6 b;exact⟨_,by rfl,JD⟩
def Zsh:PJ c ⟨d,.binOp .xor t x y yt,ty,pos,aft,g⟩ Γ H (i64.slot (pT p q)):=Uc hx Z λe f v h a b=>by cases V6 a;cases V6 b;exact⟨_,by rfl,JD⟩
end
def L1(s:Wh)(n:Int):Prop:=∀b v,s.p b v->∃a,v=.int a n
def Ha:L1 (i64.slot Q) Q:=λ_ _ a=>⟨_,V6 a⟩
def pQ{n}:L1 ((un R A).slot n) n.toNat:=λ_ _ a=>⟨_,Uu a⟩
def Zse{y}{q}(hx:Xe Γ K (i64.slot Q))(h:Xe Γ y s)(hs:L1 s q)(j:0<=q):PJ c ⟨d,.binOp .shl f K y b,ty,pos,aft,g⟩ Γ H (i64.slot (wM Q q)):=Uc hx h λi l v m a e=>by cases V6 a;obtain⟨k,rfl⟩:=hs i v e;have:¬q<0:=Y;exact⟨_,by simp[YF,Gd,Xz,Y3,binOp_shl,Op.shift,this,UH];rfl,JD⟩
def Zsf{y}{q}(hx:Xe Γ K (i64.slot Q))(h:Xe Γ y s)(hs:L1 s q)(j:0<=q):PJ c ⟨d,.binOp .shr f K y b,ty,pos,aft,g⟩ Γ H (i64.slot (pS Q q)):=Uc hx h λi l v m a e=>by cases V6 a;obtain⟨k,rfl⟩:=hs i v e;have:¬q<0:=Y;exact⟨_,by simp[YF,Gd,Xz,Y3,binOp_shr,Op.shift,this,UH];rfl,Vj.2 rfl⟩
section
variable {k:IntKind}{b:Nat}{t yt:TypeId}{x y:Operand}{p q:ZO b}(X:k.bits=b)(hs:k.signed=false)(hx:Xe Γ x ((un k b).slot p))(Z:Xe Γ y ((un k b).slot q))
include X hs hx Z
def Zsm:PJ c ⟨d,.binOp .add t x y yt,ty,pos,aft,g⟩ Γ H ((un k b).slot (p+q)):=Uc hx Z λf h v i a e=>by cases Uu a;cases Uu e;refine⟨_,by simp[eqGuard_add,binOp_add,Op.intArith];rfl,WV.2 ?_⟩;rw[ME X hs,<-Int.natCast_add,Ip,CV,BitVec.toNat_add]
def ZsC:PJ c ⟨d,.binOp .sub t x y yt,ty,pos,aft,g⟩ Γ H ((un k b).slot (p-q)):=Uc hx Z λh i v j e f=>by cases Uu e;cases Uu f;refine⟨_,by simp[eqGuard_sub,binOp_sub,Op.intArith];rfl,WV.2 ?_⟩;rw[ME X hs];have a:(p.toNat:Int)-q.toNat=p.toNat+-q.toNat:=Y;rw[a,BitVec.ofInt_add,BitVec.ofInt_neg,Ip,Ip,tX,tX,tY,tY,BitVec.sub_eq_add_neg]
def Zst:PJ c ⟨d,.binOp .mul t x y yt,ty,pos,aft,g⟩ Γ H ((un k b).slot (p*q)):=Uc hx Z λf h v i a e=>by cases Uu a;cases Uu e;refine⟨_,by simp[eqGuard_mul,binOp_mul,Op.intArith];rfl,WV.2 ?_⟩;rw[ME X hs,<-Int.natCast_mul,Ip,CV,BitVec.toNat_mul]
def Zsy(f:q.toNat≠0):PJ c ⟨d,.binOp .quo t x y yt,ty,pos,aft,g⟩ Γ H ((un k b).slot (p/q)):=Uc hx Z λh i v j a e=>by cases Uu a;cases Uu e;have:(q.toNat:Int)≠0:=Y;refine⟨_,by simp only[YF,eqGuard_quo,Xz,Y3,binOp_quo,Op.intDiv,this,UH];rfl,WV.2 ?_⟩;have:p.toNat/q.toNat<2^b:=Nat.lt_of_le_of_lt (Nat.div_le_self _ _) p.isLt;rw[ME X hs,<-Int.ofNat_tdiv,Ip,CV,HZ this,BitVec.toNat_udiv]
omit X hs in
def Zsz(f:q.toNat≠0):PJ c ⟨d,.binOp .rem t x y yt,ty,pos,aft,g⟩ Γ H ((un k b).slot (p%q)):=Uc hx Z λh i v j a e=>by cases Uu a;cases Uu e;have:(q.toNat:Int)≠0:=Y;refine⟨_,by simp only[YF,eqGuard_rem,Xz,Y3,binOp_rem,Op.intDiv,this,UH];rfl,WV.2 ?_⟩;rw[<-Int.ofNat_tmod];simp
def Zsn:PJ c ⟨d,.binOp .and t x y yt,ty,pos,aft,g⟩ Γ H ((un k b).slot (p&&&q)):=Uc hx Z λf h v i a e=>by cases Uu a;cases Uu e;subst X;refine⟨_,by simp[YF,Gd,Xz,Y3,binOp_and,Op.intBits];rfl,WV.2 ?_⟩;rw[ME rfl hs];simp
def Zsx:PJ c ⟨d,.binOp .or t x y yt,ty,pos,aft,g⟩ Γ H ((un k b).slot (p|||q)):=Uc hx Z λf h v i a e=>by cases Uu a;cases Uu e;subst X;refine⟨_,by simp[YF,Gd,Xz,Y3,binOp_or,Op.intBits];rfl,WV.2 ?_⟩;rw[ME rfl hs];simp
def ZsD:PJ c ⟨d,.binOp .xor t x y yt,ty,pos,aft,g⟩ Γ H ((un k b).slot (p^^^q)):=Uc hx Z λf h v i a e=>by cases Uu a;cases Uu e;subst X;refine⟨_,by simp[YF,Gd,Xz,Y3,binOp_xor,Op.intBits];rfl,WV.2 ?_⟩;rw[ME rfl hs];simp
omit X hs
def Zss:PJ c ⟨d,.binOp .lss t x y yt,ty,pos,aft,g⟩ Γ H (bl.slot (decide (p<q))):=Uc hx Z λf h v i a e=>by cases Uu a;cases Uu e;exact⟨_,by simp[eqGuard_lss,binOp_lss];rfl,Qd (by simp[BitVec.lt_def])⟩
def Zsr:PJ c ⟨d,.binOp .leq t x y yt,ty,pos,aft,g⟩ Γ H (bl.slot (decide (p<=q))):=Uc hx Z λf h v i a e=>by cases Uu a;cases Uu e;exact⟨_,by simp[eqGuard_leq,binOp_leq];rfl,Qd (by simp[kW])⟩
def Zsq:PJ c ⟨d,.binOp .gtr t x y yt,ty,pos,aft,g⟩ Γ H (bl.slot (decide (q<p))):=Uc hx Z λf h v i a e=>by cases Uu a;cases Uu e;exact⟨_,by simp[eqGuard_gtr,binOp_gtr];rfl,Qd (by simp[BitVec.lt_def])⟩
def Zsp:PJ c ⟨d,.binOp .geq t x y yt,ty,pos,aft,g⟩ Γ H (bl.slot (decide (q<=p))):=Uc hx Z λf h v i a e=>by cases Uu a;cases Uu e;exact⟨_,by simp[eqGuard_geq,binOp_geq];rfl,Qd (by simp[kW])⟩
def Zso:PJ c ⟨d,.binOp .eql t x y yt,ty,pos,aft,g⟩ Γ H (bl.slot (decide (p=q))):=Uc hx Z λf h v i a e=>by cases Uu a;cases Uu e;exact⟨_,by simp[Gd,binOp_eql];rfl,Qd (by congr 1;rw[CW];simp[<-Za7];omega)⟩
def Zsv:PJ c ⟨d,.binOp .neq t x y yt,ty,pos,aft,g⟩ Γ H (bl.slot !decide (p=q)):=Uc hx Z λf h v i a e=>by cases Uu a;cases Uu e;exact⟨_,by simp[Gd,binOp_neq];rfl,Qd (by congr 1;rw[CW];simp[<-Za7];omega)⟩
end
def ZsA{y}{p}(a:R.bits=A)(e:R.signed=false)(hx:Xe Γ K ((un R A).slot p))(k:Xe Γ y s)(hs:L1 s Q)(m:0<=Q):PJ c ⟨d,.binOp .shl f K y b,ty,pos,aft,g⟩ Γ H ((un R A).slot (p<<<Q.toNat)):=Uc hx k λl o v q i j=>by
  cases Uu i;obtain⟨n,rfl⟩:=hs l v j;have:¬Q<0:=Y;refine⟨_,by simp[YF,Gd,Xz,Y3,binOp_shl,Op.shift,this,UH];rfl,WV.2 ?_⟩;rw[ME a e,a];congr 3;apply yn;rw[show 2^min _ A=((2^min Q.toNat A:Nat):Int)by simp,<-Int.natCast_mul,Ip,CV,Zkz,sM];obtain h|h:=jm Q.toNat A;·grind
  ·rw[jp h,Nat.mul_mod_left];have:2^A∣p.toNat*2^Q.toNat:=Nat.dvd_mul_left_of_dvd (Nat.pow_dvd_pow 2 h) _;exact(Nat.mod_eq_zero_of_dvd this).symm
def ZsB{y}{p}(a:R.bits=A)(hx:Xe Γ K ((un R A).slot p))(j:Xe Γ y s)(hs:L1 s Q)(l:0<=Q):PJ c ⟨d,.binOp .shr f K y b,ty,pos,aft,g⟩ Γ H ((un R A).slot (p>>>Q.toNat)):=Uc hx j λk n v o e i=>by
  cases Uu e;obtain⟨m,rfl⟩:=hs k v i;have:¬Q<0:=Y;refine⟨_,by simp[YF,Gd,Xz,Y3,binOp_shr,Op.shift,this,UH];rfl,WV.2 ?_⟩;rw[a,show(2:Int)^min _ A=(2^min Q.toNat A:Nat)by simp,Za8,Zbq,Int.fdiv_eq_ediv_of_nonneg _ Zp,<-Int.natCast_ediv];obtain h|h:=jm Q.toNat A;·grind
  ·rw[jp h,Nat.div_eq_of_lt p.isLt,Nat.div_eq_of_lt (C7 p.isLt (EA Zc h))]
def Zgu(hx:Xe Γ K (bl.slot a)):PJ c ⟨d,.unOp .not f K,ty,pos,aft,g⟩ Γ H (bl.slot !a):=Nz λh i b j _ _ _ e=>by exact⟨.bool _,by simp[execOp,Tv.1 (hx h b (e K Yr)),Op.unary],Qd rfl⟩
def Zr9(hx:Xe Γ K (i64.slot Q)):PJ c ⟨d,.unOp .neg f K,ty,pos,aft,g⟩ Γ H (i64.slot (QS (0-Q))):=Nz λe h a i _ _ _ b=>by exact⟨_,by simp[execOp,V6 (hx e a (b K Yr)),Op.unary,Op.intArith],JD⟩
def run_equalIn_bool(e:G.underlying f=some .bool)(n)(a b)(w):(Op.equalIn (n+1) f (.bool a) (.bool b)).run G w=.ok (a==b) w:=by simp only[Op.equalIn,YF,W8 e,Y3];rfl
def run_eql_bool(e:G.underlying f=some .bool)(a b)(w):(binOp .eql f (.bool a) (.bool b)).run G w=.ok (.bool (a==b)) w:=by simp only[binOp,Op.equal,Op.maxDepth,YF,run_equalIn_bool e 9999 a b w];rfl
def run_neq_bool(e:G.underlying f=some .bool)(a b)(w):(binOp .neq f (.bool a) (.bool b)).run G w=.ok (.bool !a==b) w:=by simp only[binOp,Op.equal,Op.maxDepth,YF,run_equalIn_bool e 9999 a b w];rfl
def dZ{y}{q}(e:c.P.underlying f=some .bool)(hx:Xe Γ K (bl.slot a))(j:Xe Γ y (bl.slot q)):PJ c ⟨d,.binOp .eql f K y b,ty,pos,aft,g⟩ Γ H (bl.slot (a==q)):=Uc hx j λk l v m h i=>by cases Tv.1 h;cases Tv.1 i;exact⟨_,by simp[eqGuard_at_bool,run_eql_bool e],Qd rfl⟩
def ce{y}{q}(e:c.P.underlying f=some .bool)(hx:Xe Γ K (bl.slot a))(j:Xe Γ y (bl.slot q)):PJ c ⟨d,.binOp .neq f K y b,ty,pos,aft,g⟩ Γ H (bl.slot !a==q):=Uc hx j λk l v m h i=>by cases Tv.1 h;cases Tv.1 i;exact⟨_,by simp[eqGuard_at_bool,run_neq_bool e],Qd rfl⟩
def JF(P:Program)(b a:TypeId)(k:IntKind):Bool:=(P.underlying b).isSome&&match P.underlying a with|some (.int k')=>k'==k|_=>false
def ZpM(h:JF G f b R=true):G.underlying b=some (.int R)/\(G.underlying f).isSome=true:=by simp[JF,YL]at h;grind
def ZwU{k'}(h:JF G f b R=true)(n)(w):(convert f b (.int k' n)).run G w=.ok (.int R (R.wrap n)) w:=by have⟨a,e⟩:=ZpM h;have⟨j,i⟩:=Bb e;simp[convert,W8 i,W8 a,Conv.intToInt]
def nC{s'}(h:JF c.P f b R=true)(hx:Xe Γ K s)(hs:L1 s Q)(j:∀m,s'.p m (.int R (R.wrap Q))):PJ c ⟨d,.convert f b K,ty,pos,aft,g⟩ Γ H s':=Nz λm k a n _ _ _ i=>by have⟨l,e⟩:=hs m _ (hx m a (i K Yr));exact⟨_,by simp only[execOp,e,YF,ZwU h];rfl,j m⟩
def Zgr(h:JF c.P f b .i64=true)(hx:Xe Γ K s)(hs:L1 s Q):PJ c ⟨d,.convert f b K,ty,pos,aft,g⟩ Γ H (i64.slot (QS Q)):=nC h hx hs λa=>JD
def ZrZ(a:R.bits=A)(e:R.signed=false)(h:JF c.P f b R=true)(hx:Xe Γ K s)(hs:L1 s Q):PJ c ⟨d,.convert f b K,ty,pos,aft,g⟩ Γ H ((un R A).slot (BitVec.ofInt A Q)):=nC h hx hs λi=>WV.2 (by rw[ME a e])
def Zr0{k'}{n}(a:R.bits=A)(e:R.signed=false)(h:JF c.P f b R=true)(hx:Xe Γ K ((un k' r).slot n)):PJ c ⟨d,.convert f b K,ty,pos,aft,g⟩ Γ H ((un R A).slot (n.setWidth A)):=nC h hx pQ λi=>WV.2 (by rw[ME a e];grind)
def ZrY{n}(e:A<64)(h:JF c.P f b .i64=true)(hx:Xe Γ K ((un R A).slot n)):PJ c ⟨d,.convert f b K,ty,pos,aft,g⟩ Γ H (i64.slot n.toNat):=nC h hx pQ λi=>Vj.2 (by have a:2^A<=2^63:=EA Zc Y;congr 1;rw[ZaI];exact ks Y)
end
def S5(P:Program)(T:TypeId)(ag:Bool)(n:Nat):Bool:=(match P.underlying T with|some (.struct _)|some (.array _ _)=>ag|some _=>!ag|none=>false)&&match P.info? T with|some a=>a.size==n|none=>false
def NH(P:Program)(T:TypeId)(n:Nat):Bool:=match P.info? T with|some a=>a.size==n|none=>false
def DA(P:Program)(b f off:Nat):Bool:=match P.underlying b with
 |some (.struct fs)=>match fs[f]?with
  |some a=>a.offset==off&&match P.info? a.type with|some c=>c.size !=0|none=>false
  |none=>false
 |_=>false
def Mb(P:Program)(T n sz:Nat):Bool:=match P.underlying T with|some (.array n' e)=>n'==n&&NH P e sz|_=>false
def US(P:Program)(T sz:Nat):Bool:=match P.underlying T with|some (.slice e)=>NH P e sz|_=>false
def NJ(h:NH G A r=true)(w):(sizeOf A).run G w=.ok r w:=by unfold NH at h;cases hi:G.info? A with|none=>grind|some a=>
  rw[hi]at h;have:=by simpa using h
  simp[sizeOf,typeInfo,hi,this]
def l0(h:S5 G A a r=true):NH G A r=true:=by simp[S5,YL]at h;exact h.2
def Zj7(h:S5 G A a r=true)(w):(isAgg A).run G w=.ok a w:=by simp[S5,YL]at h;have⟨b,_⟩:=h;unfold isAgg;cases c:G.underlying A with|none=>grind|some d=>rw[c]at b;rw[YF,W8 c];cases d<;>simp at b<;>simp[b]
def Zc0(h:Mb G A r j=true):∃e,G.underlying A=some (.array r e)/\NH G e j=true:=by unfold Mb at h;grind
def FZ(h:US G A r=true):∃e,G.underlying A=some (.slice e)/\NH G e r=true:=by
 unfold US at h;split at h;·grind
 ·grind
def Zo6{off}(h:DA G A r off=true)(b o)(w):(Instr.fieldAt A (.pointer (some ⟨b,o,none⟩)) r).run G w=.ok (.pointer (some ⟨b,o+off,none⟩)) w:=by
 unfold DA at h;split at h
 ·rename_i f e;split at h;·rename_i c d;simp at h;obtain⟨g,a⟩:=h;cases hi:G.info? c.type with|none=>grind|some i=>rw[hi]at a;simp[Instr.fieldAt,W8 e,d,Instr.sureAddr,fieldPlace,sizeOf,typeInfo,hi,by simpa using a,RH,Y]
  ·grind
 ·grind
def aj{P}{w}{b o}(d:S5 P f a A=true)(c:p.length=A)(h1:a=false->A=1)(h:∀j v,p[j]?=some v->w.cell? ⟨b,o+j,none⟩=some v):(Instr.loadAt f (.pointer (some ⟨b,o,none⟩))).run P w=.ok (TI a p) w:=by
 simp[Instr.loadAt,Instr.sureAddr,pure_bind,loadVar,YF,Zj7 d w,Y3]
 cases a with|true=>
  subst c;have:=yI (P:=P) w _ _ λj v e=>by rw[RH];exact h j v e
  simp[NJ (l0 d) w,this,TI]|false=>rw[h1 rfl]at c;match p,c with|[v],_=>have:=h 0 v rfl;rw[Ey]at this;simp[run_load,this,TI]
def ZS.box{H H':L YC}{α:Type}{m}{hs}{w:World}{b}{a}{R}{x:α}(e:ZS H m hs)(c:Ra H (box b a R x) H'):∃cs,(b,a,cs)∈hs/\R.rel m cs x:=by obtain⟨g,h,i,⟨cs,f,d⟩,_⟩:=e.pick c;exact⟨cs,Zp,d⟩
def Good.cells{m}(a:Good m l D){T}(h:(A,T,p)∈l)(j)(v)(e:p[j]?=some v):D.cell? ⟨A,j,none⟩=some v:=by have:=a.Xb _ h;simp[World.cell?,this];simpa using e
def GAt(n:Nat)(R:Z1 C)(x:C)(m:YO):Prop:=∃a,R.rel m a x/\At m n 0 a
def ZwX(c:Mb G A r j=true)(b o)(k)(a:0<=Q)(h1:Q<r)(w):(Instr.indexAt A (.pointer (some ⟨b,o,none⟩)) (.int k Q)).run G w=.ok (.pointer (some ⟨b,o+Q.toNat*j,none⟩)) w:=by have⟨f,e,d⟩:=Zc0 c;have:0<=Q/\Q<r:=⟨a,h1⟩;simp[Instr.indexAt,asIntOf,W8 e,Instr.sureAddr,this,NJ d w,RH]
def ZwY(c:US G A r=true)(b o n cap:Nat)(k)(a:0<=Q)(h1:Q<n)(w):(Instr.indexAt A (.slice (some ⟨b,o,none⟩) n cap) (.int k Q)).run G w=.ok (.pointer (some ⟨b,o+Q.toNat*r,none⟩)) w:=by have⟨f,e,d⟩:=FZ c;have:0<=Q/\Q<n:=⟨a,h1⟩;simp[Instr.indexAt,asIntOf,W8 e,this,NJ d w,RH]
def FX{P}{T n off:Nat}{cs:L Value}(b:S5 P T a n=true)(h1:a=false->n=1)(c:off+n<=cs.length)(w):(part T cs.toArray off).run P w=.ok (TI a ((cs.drop off).take n)) w:=by simp only[part,YF,Zj7 b w,Y3];cases a with|true=>simp[NJ (l0 b) w,TI]|false=>have:=h1 rfl;subst this;rw[show cs.toArray[off]?=some cs[off]by simp,KL Y];rfl
def ZiN{ty:TypeId}(b:US G f A=true)(a)(n cap)(w):(Builtin.len_ #[f] ty #[.slice a n cap]).run G w=.ok (goInt n) w:=by have⟨d,c,_⟩:=FZ b;simp[Builtin.len_,W8 c]
def Zgs(hx:Xe B K s)(hs:∀m hs v,ZS F m hs->s.p m v->∃a cap,v=.slice a A cap)(e:US y.P b r=true):PJ y ⟨k,.call {callee:=.builtin .len,args:=#[K],argTypes:=#[b]},f,I,z,h⟩ B F (i64.slot A):=Nz λm i a l n _ j g=>by have⟨c,cap,d⟩:=hs m i _ j (hx m a (g K (by simp[Op.operands,Call.operands])));refine⟨goInt A,?_,Vj.2 rfl⟩;simp[execOp,resolve,YF,Xz,Y3,invoke,builtin];simp[C4,Wb,NR,d,ZiN (ty:=f) e c A cap l,Y3]
def Zgt{a:TypeId}{v}{sz}(hx:Xe B K (ov v))(i:Ra F (own a E v M) o)(g:US y.P b sz=true:=by kernel_rfl):PJ y ⟨k,.call {callee:=.builtin .len,args:=#[K],argTypes:=#[b]},f,I,z,h⟩ B F (i64.slot M.length):=Zgs hx (λr q s l m=>by have⟨n,p,_,j,_⟩:=l.pick i;have⟨c,d,e,_⟩:=own.shape j;exact⟨c,d,(JP.1 m).1.trans e⟩) g
def nD{a}{sz}(hx:Xe B K (val (.slice a A r)))(c:US y.P b sz=true):PJ y ⟨k,.call {callee:=.builtin .len,args:=#[K],argTypes:=#[b]},f,I,z,h⟩ B F (i64.slot A):=Zgs hx (λg e i _ d=>⟨a,r,d⟩) c
inductive Gr(Γ:YG):Option Operand->Option Int->Prop|no:Gr Γ none none|yes{x:Operand}{s:Wh}{i:Int}:Xe Γ x s->L1 s i->Gr Γ (some x) (some i)
def Gr.val{x}{i}(h:Gr B x i){m}(a:∀y,x=some y->PH B m H y):x.map H.eval=none/\i=none\/∃k n,x.map H.eval=some (.int k n)/\i=some n:=by cases h with|no=>simp|yes h k=>have⟨b,c⟩:=k _ _ (h m H (a _ rfl));exact .inr ⟨b,_,Zp,rfl⟩
def ZiQ{P}{Ta}{lo hi}{l h:Zg Int}(f:lo=none/\l=none\/∃k n,lo=some (.int k n)/\l=some n)(e:hi=none/\h=none\/∃k n,hi=some (.int k n)/\h=some n)(a:0<=l.getD 0)(h1:l.getD 0<=h.getD A)(h2:h.getD A<=r)(w):(Instr.sliceBounds Ta A r lo hi none).run P w=.ok ((l.getD 0).toNat,(h.getD A).toNat,r) w:=by
 have d:∀k(n:Int)(b:Nat)c,0<=n->n<=b->(Instr.sliceBound (.int k n) b c).run P w=.ok n.toNat w:=by intro k n b c a h1;simp[Instr.sliceBound,asIntOf,a,h1]
 unfold Instr.sliceBounds;obtain⟨rfl,rfl⟩|⟨k,n,rfl,rfl⟩:=e<;>obtain⟨rfl,rfl⟩|⟨g,i,rfl,rfl⟩:=f;·simp
 ·simp_all
 ·simp_all
 ·simp at a h1 h2⊢;simp[d k n r (if Ta=true then .sliceAcap else .sliceAlen) Y h2,d g _ n.toNat .sliceB a Y]
def am{P}(c:US P A r=true){a}{len cap:Nat}{lo hi}{l h:Zg Int}(e:lo=none/\l=none\/∃k n,lo=some (.int k n)/\l=some n)(d:hi=none/\h=none\/∃k n,hi=some (.int k n)/\h=some n)(b:0<=l.getD 0)(h1:l.getD 0<=h.getD len)(h2:h.getD len<=cap)(w):(Instr.sliceAt A (.slice a len cap) lo hi none).run P w=.ok (.slice (if cap=(l.getD 0).toNat then a else a.map (·.add ((l.getD 0).toNat*r))) ((h.getD len).toNat-(l.getD 0).toNat) (cap-(l.getD 0).toNat)) w:=by have⟨i,g,f⟩:=FZ c;simp only[Instr.sliceAt,YF,W8 g,Y3,Instr.slice,ZiQ (P:=P) (Ta:=true) e d b h1 h2 w,NJ f w,Xz]
def Good.lt{m}(a:Good m l D){v}(h:m A r=some v):A<D.heap.size:=Zbt D _ (a.mem A r v h)
def Good.P6{m}(a:Good m l D)(h:A∈l.bs):A<D.heap.size:=by obtain⟨c,b,rfl⟩:=VR h;have:=a.Xb c b;grind
def heap_alloc_old{o}(h:A<D.heap.size):(D.alloc o).heap[A]?=D.heap[A]?:=by show(D.heap.push o)[A]?=_;rw[Array.getElem?_push,Ys Y]
def heap_alloc_new{o}:(D.alloc o).heap[D.heap.size]?=some o:=by show(D.heap.push o)[D.heap.size]?=_;rw[Array.getElem?_push,Y4 rfl]
def Good.drew{m}(a:Good m l D):Good m l D.drew:=⟨a.mem,a.nodup,a.Xb,a.free⟩
def Good.Zq3{m}(a:Good m l D)(T)(cs):Good m ((D.heap.size,T,cs)::l) (D.alloc (.cells cs.toArray T))where
 mem:=λe c v b=>(Zbu D _ _ (a.lt b)).trans (a.mem e c v b);nodup:=by simp only[Hp.bs,Wb,Ss];exact⟨λb=>Zbp _ (a.P6 b),a.nodup⟩
 Xb:=λd hx=>by
  obtain rfl|hx:=XL hx;·exact heap_alloc_new
  ·rw[heap_alloc_old (a.P6 (VV hx))];exact a.Xb d hx
 free:=λd hx c=>by
  obtain rfl|hx:=XL hx;·cases b:m _ c with|none=>rfl|some v=>exact absurd (a.lt b) Zc
  ·exact a.free d hx c
def ZW.alloc(w)(m)(bs)(o):ZW w (w.alloc o) m m bs (w.heap.size::bs)where
 os:=rfl;tape:=rfl;output:=rfl;size:=Zc;Vu:=λb a _=>⟨heap_alloc_old a,λ_=>rfl⟩;own:=λb a=>by grind
 le:=Wy.refl m
def ZW.drew(w)(m)(bs):ZW w w.drew m m bs bs:=⟨rfl,rfl,rfl,Zc,λ_ _ _=>⟨rfl,λ_=>rfl⟩,Zp,Wy.refl m⟩
def YO.put(m:YO)(b:Nat)(cs:L Value):YO:=λa c=>if a=b then cs[c]?else m a c
def YO.pW{m}(h:∀o,m A o=none):Wy m (m.put A p):=by intro a o v e;unfold YO.put;grind
def YO.Zc4(m:YO)(b)(cs):At (m.put b cs) b 0 cs:=by intro a v e;simp[YO.put,e]
def Good.freeze{m}(a:Good m ((A,f,p)::l) D):Good (m.put A p) l D where
 mem:=λi c v b=>by
  unfold YO.put at b;split at b;·rename_i g;subst g;exact a.cells (T:=f) Zc c v b
  ·exact a.mem _ c v b
 nodup:=by have:=a.nodup;simp only[Hp.bs,Wb,Ss]at this;exact this.2
 Xb:=λd e=>a.Xb d Xk;free:=λd e c=>by have:=a.nodup;simp only[Hp.bs,Wb,Ss]at this;have h:d.1≠A:=λj=>this.1 Zp;simp only[YO.put,Ys h];exact a.free d (XY _ e) c
def Good.pW{m}(a:Good m ((A,f,p)::l) D):Wy m (m.put A p):=YO.pW (a.free (A,f,p) Zc)
def ZW.freeze{m a}{f bs}(h:ZW D d m a f (A::bs))(i:Wy a (a.put A p)):ZW D d m (a.put A p) f bs where
 os:=h.os;tape:=h.tape;output:=h.output;size:=h.size;Vu:=λe b c=>⟨(h.Vu _ b c).1,λk=>by
  have j:e≠A:=λg=>by subst g;exact(h.own _ Zc).elim c Y
  simp[YO.put,Ys j];exact(h.Vu _ b c).2 k⟩;own:=λe b=>h.own _ Zp;le:=h.le.trans i
def Vv(w:World)(b:Nat)(T:TypeId)(cs:L Value):World:={w with heap:=w.heap.setIfInBounds b (.cells cs.toArray T (0,0))}
def Zxq(h:D.heap[A]?=some (.cells p.toArray f (0,0))):Vv D A f p=D:=by
 unfold Vv;have a:A<D.heap.size:=by grind
 have:D.heap.setIfInBounds A (.cells p.toArray f (0,0))=D.heap:=by
  apply ZaZ;intro b;rw[Io];split;·grind
  ·rfl
 rw[this]
def Zxs{v}(h:D.heap[A]?=some (.cells p.toArray f (0,0))):D.setCell ⟨A,r,none⟩ v=Vv D A f (p.set r v):=by unfold World.setCell Vv;congr 1;grind
def uQ{a:L Value}(h:D.heap[A]?=some (.cells p.toArray f (0,0))):(Vv D A f a).heap[A]?=some (.cells a.toArray f (0,0)):=by
 have b:A<D.heap.size:=by grind
 simp[Vv,Io,b]
def Zxr{a}:Vv (Vv D A f p) A f a=Vv D A f a:=by unfold Vv;simp
def zC{P}{b o}{T}:∀(ds)(i)(cs:L Value)(w),(∀v∈ds,v.oneCell'=true)->w.heap[b]?=some (.cells cs.toArray T (0,0))->o+i+ds.length<=cs.length->(storeCells ⟨b,o,none⟩ ds i).run P w=.ok () (Vv w b T (cs.take (o+i)++ds++cs.drop (o+i+ds.length)))
 |[],i,cs,w,_,hb,_=>by simp only[storeCells,Xz,XX,W6,Ey,TM];rw[Zxq hb]|v::ds,i,cs,w,hv,hb,g=>by
  simp at g;have a:o+i<cs.length:=Y;have e:w.cell? ⟨b,o+i,none⟩=some cs[o+i]:=by simp[World.cell?,hb,a]
  have f:w.frozen? ⟨b,o+i,none⟩=false:=by simp[World.frozen?,hb]
  simp only[storeCells,YF,RH];rw[run_store P w _ v .plain (hv v Zc),e];simp only[f,RK,UH,Y3,Zxs hb,zC (P:=P) (b:=b) (o:=o) (T:=T) ds (i+1) (cs.set (o+i) v) _ Zp (uQ hb) XV,Zxr];congr 2;have c:(cs.set (o+i) v).take (o+(i+1))=cs.take (o+i)++[v]:=by rw[show o+(i+1)=o+i+1by omega,ML (by simpa using a),List.take_set,ZkE XV];simp
  have d:(cs.set (o+i) v).drop (o+(i+1)+ds.length)=cs.drop (o+i+(v::ds).length):=by rw[List.drop_set_of_lt Y];congr 1;simp;omega
  rw[c,d];simp
def Good.Vv{m}{hs:Hp}{w}{b}{T}{cs}(h)(c:Good m ((b,T,cs)::hs) w):Good m ((b,T,h)::hs) (Vv w b T h)where
 mem:=λd e v i=>by
  have j:d≠b:=λf=>by subst f;rw[c.free (d,T,cs) Zc e]at i;cases i
  have:=c.mem d e v i;have l:(Sl.Vv w b T h).heap[d]?=w.heap[d]?:=by have n:b≠d:=λf=>j f.symm;simp[Sl.Vv,Io,n]
  exact(Be (w:=w) (a:=⟨d,e,none⟩) l).trans this
 nodup:=c.nodup;Xb:=λg hx=>by
  obtain rfl|hx:=XL hx;·exact uQ (c.Xb (b,T,cs) Zc)
  ·have k:=c.nodup;simp only[Hp.bs,Wb,Ss]at k;have j:b≠g.1:=λf=>k.1 Zp;simp only[Sl.Vv,Io,Ys j];exact c.Xb g (XY _ hx)
 free:=λg hx e=>by
  obtain rfl|hx:=XL hx;·exact c.free (b,T,cs) Zc e
  ·exact c.free g (XY _ hx) e
def ZW.Vv{w}{m}{b}{T}{cs}{bs}(e:b∈bs):ZW w (Vv w b T cs) m m bs bs where
 os:=rfl;tape:=rfl;output:=rfl;size:=by simp[Sl.Vv]
 Vu:=λa h f=>by have g:b≠a:=λc=>f (c▸e);simp[Sl.Vv,Io,g]
 own:=λa d=>.inl d;le:=Wy.refl m
def Zw3{v}{ds:L Value}(a:NH G f A=true)(hv:v.cells=ds.toArray)(d:ds.length=A)(h1:∀v∈ds,v.oneCell'=true)(c:D.heap[r]?=some (.cells p.toArray b (0,0)))(e:j+A<=p.length):(Instr.storeAt f (.pointer (some ⟨r,j,none⟩)) v).run G D=.ok () (Vv D r b (p.take j++ds++p.drop (j+A))):=by simp[Instr.storeAt,Instr.sureAddr,storeVar,hv,NJ a D,d,zC (P:=G) (o:=j) _ 0 _ D h1 c Y]
def Ze4{l}(x:S.guard=none)(h:∀m hs a w,Good m hs w->y.G.p m->ZS F m hs->S9 B m a->a.tmps.size=y.N->RS y.P (λv w'=>∃b d,Good b d w'/\S9 l b (a.put S.dst v)/\ZS o b d/\ZW w w' m b hs.bs d.bs) ((execOp a.eval S).run y.P w))(k:QB y g c l o J):QB y g (S::c) B F J:=by refineλa w n q⟨r,j,m,hs,i,f,s,A,u⟩=>wpListIn_plain x λD p=>RS.wp (h m _ a w i f A s j) λv w'⟨b,d,z,t,C,e⟩=>p _ _ (k _ _ n q ⟨by rw[FI];exact r.step i e,by rw[NB];exact j,b,d,z,y.G.mono e.le f,t,C,u.trans e⟩)
def ZcR(R:Z1 C)(x:C)(cs:L Value):Prop:=∀a,R.rel a cs x
def MG(P:Program)(T:TypeId):Zg (L Value):=((P.info? T).bind (·.zero)).map λv=>v.cells.toList
def ZaU(h:MG G f=some p)(w):∃v,(zeroValue f).run G w=.ok v w/\v.cells=p.toArray:=by unfold MG at h;cases hi:G.info? f with|none=>grind|some b=>cases a:b.zero with|none=>grind|some v=>simp[hi,a]at h;exact⟨v,by simp[zeroValue,typeInfo,hi,a],by rw[<-h]⟩
def ZW.Zf7{m e}{hs1:Hp}{c}(p:l.Perm hs1)(h:ZW D d m e hs1.bs c):ZW D d m e l.bs c:=by have f:∀a,a∈l.bs↔a∈hs1.bs:=λa=>(p.map _).mem_iff;exact{h with Vu:=λa b g=>h.Vu a b Xk,own:=λa b=>(h.own a b).imp (f a).2 id}
def St.ZrB(T)(R:Z1 C)(a)(h:St y B F H D):St y B (own T R (.slice a 0 0) []::F) H D:=by have⟨d,i,k,b,g,c,e,j,f⟩:=h;exact⟨d,i,k,b,g,c,e,⟨[],b,rfl,.inl ⟨rfl,rfl,a,rfl⟩,j⟩,f⟩
def ZpR(T)(R:Z1 C)(d)(k:QB y g c B (own T R (.slice d 0 0) []::F) J):QB y g c B F J:=λb h a e f=>k b h a e (f.ZrB T R _)
def own.fC{v}{m}{h2}{j}{g}(w:(own f E v M).p m l)(c:Good m (l++h2) D)(i:ZW d D j m g (Hp.bs (l++h2))):∃a,Wy m a/\Good a h2 D/\((sl E).slot M).p a v/\ZW d D j a g h2.bs/\∀b,b∉l.bs->∀o,a b o=m b o:=by
 obtain⟨rfl,rfl,n,rfl⟩|⟨b,r,k,z,rfl,rfl,x,t,A⟩:=w;·exact⟨m,Wy.refl m,c,⟨n,0,rfl,Zc,.inl rfl⟩,i,Zc⟩
 ·have e:=c.pW;refine⟨m.put b _,e,c.freeze,⟨_,r,rfl,t,.inr ⟨b,0,k,rfl,x.mono e,?_⟩⟩,i.freeze e,?_⟩;·intro y v h;have:=YO.Zc4 m b (k++z) y v Zp;exact this
  ·intro q s o;have u:q≠b:=λh=>s (by simp[Hp.bs,h]);simp[YO.put,u]
def Zd7{Γ}{m}{a}{s s':Wh}:∀(c:L Nat),S9 Γ m a->(∀t∈c,s'.p m (a.tmps.getD t undef))->S9 (c.map (λt=>(t,s'))++Γ) m a
 |[],h,_=>h|t::c,h,k=>by
  intro f i b;by_cases d:t=f;·subst d;simp[Wb,Oj,JH]at b;grind
  ·simp at b;rw[He d]at b;exact Zd7 (s:=s) _ h (λg e=>k g (by simp[e])) _ _ b
def St.freeze{v}(c:L Nat)(m:Ra F (own f E v M) o)(r:∀t∈c,jV B t (ov v))(h:St y B F H D):St y (c.map (λt=>(t,(sl E).slot M))++B) o H D:=by obtain⟨g,n,u,z,k,e,b,⟨x,d,rfl,p,q⟩,i⟩:=h.pick m;have⟨w,a,l,A,j,_⟩:=own.fC p k i;refine⟨g,n,w,d,l,y.G.mono a e,Zd7 (s:=ov v) _ (b.mono a) λt h=>?_,q.mono a,j⟩;have:=(JP.1 (r t h u H b)).1;grind
def Src(c:We)(Γ:YG)(H:L YC)(x:Operand)(R:Z1 C)(xs:L C):Prop:=∀a f b j,Good a f j->ZS H a f->PH Γ a b x->∃d k,b.eval x=.slice d xs.length k/\(xs=[]\/∃e h i,d=some ⟨e,h,none⟩/\Xm R a i xs/\∀g v,i[g]?=some v->j.cell? ⟨e,h+g,none⟩=some v)
def Src.run{R:Z1 C}{P}{a}{m}{cap}(h:M=[]\/∃b o row,a=some ⟨b,o,none⟩/\Xm R m row M/\∀j v,row[j]?=some v->D.cell? ⟨b,o+j,none⟩=some v)(k)(e:k<=M.length):∃row,(Builtin.firstCells R.n k (.slice a k cap)).run P D=.ok row.toArray D/\Xm R m row (M.take k)/\(Builtin.firstCells R.n k (.slice a M.length cap)).run P D=.ok row.toArray D:=by
 obtain rfl|⟨b,o,row,rfl,g,l⟩:=h;·have:k=0:=Zp;subst this;refine⟨[],?_,rfl,?_⟩<;>(cases a<;>simp[Builtin.firstCells,loadCells,loadCellsFrom])
 ·have c:=g.take k;have f:(row.take (k*R.n)).length=k*R.n:=by rw[c.length,UF,PA e]
  have d:=by
   have:=yI (P:=P) D ⟨b,o,none⟩ (row.take (k*R.n)) λj v i=>by rw[RH];grind
   rwa[f]at this
  exact⟨_,d,c,d⟩
def J0(P:Program)(ST T n:Nat):Bool:=(match P.underlying ST with|some (.slice e)=>e==T|_=>false)&&match P.info? T with
  |some a=>a.size==n&&decide (0<a.bytes)&&decide (a.bytes<=4096)&&match a.zero with|some v=>v.cells.size==n|none=>false
  |none=>false
def uV{ST}(h:J0 G ST A r=true):G.underlying ST=some (.slice A)/\∃i v,G.info? A=some i/\i.size=r/\0<i.bytes/\i.bytes<=4096/\i.zero=some v/\v.cells.size=r:=by
 simp only[J0,YL]at h;obtain⟨a,d⟩:=h;constructor
 ·split at a
  ·rename_i c b;have:=by simpa using a
   rw[b,this]
  ·cases a
 ·grind
def nextslicecap_le(a Vu)(h:Vu<a):Builtin.nextslicecap a Vu<=4*a+4096:=by
 unfold Builtin.nextslicecap;split;·omega
 ·split;·omega
  ·have e:∀b c,c<=2*a+1000->Builtin.growBy a b c<=3*a+2000:=by intro b;induction b with|zero=>unfold Builtin.growBy;omega|succ b d=>unfold Builtin.growBy;grind
   grind
def iF{ST rt E}{n e}{base c}{new}(l:G.underlying ST=some (.slice b))(g:G.underlying f=some (.slice E))(k:(sizeOf b).run G D=.ok A D)(h:r+n<=j)(i:(Builtin.firstCells A n (.slice c n e)).run G D=.ok new D)(m:(match base with|some a=>storeCells (a.add (r*A)) new.toList|none=>pure ()).run G D=.ok () d):(Builtin.append_ #[ST,f] rt #[.slice base r j,.slice c n e]).run G D=.ok (.slice base (r+n) j) d:=by simp only[Builtin.append_,KP,KN,sk];simp only[YF,W8 l,W8 g,Y3,k,Xz,RK,UH,Builtin.lenOf,LN,Qe,h,i];cases base<;>simp_all
def Zmu{P}{ST rt E}{size e}{base d}{Vu new}{i}{z}(t:P.underlying ST=some (.slice b))(n:P.underlying f=some (.slice E))(hi:P.info? b=some i)(s:i.size=size)(u:i.zero=some z)(v:0<i.bytes)(o:¬A+j<=r)(g:¬Builtin.nextslicecap (A+j) r*i.bytes>2^48)(l:(Builtin.firstCells size A (.slice base A r)).run P D.drew=.ok Vu D.drew)(k:(Builtin.firstCells size j (.slice d j e)).run P D.drew=.ok new D.drew):∃c,A+j<=c/\(Builtin.append_ #[ST,f] rt #[.slice base A r,.slice d j e]).run P D=.ok (.slice (some ⟨D.heap.size,0,none⟩) (A+j) c) (D.drew.alloc (.cells (Vu++new++Builtin.zeroCells z.cells (c-(A+j))) b)):=by
 refine⟨(Question.appendCap _ r b).cut (D.tape D.drawn (.appendCap (A+j) r b)),Nat.le_add_right _ _,?_⟩;have p:¬((A+j:Nat)>IntKind.i64.max/\(False\/i.bytes=0)):=by grind
 have a:∀D:World,(typeInfo b).run P D=.ok i D:=λD=>by simp[typeInfo,hi]
 have m:∀D:World,(zeroValue b).run P D=.ok z D:=λD=>by simp[zeroValue,a,u]
 have q:∀D:World,(sizeOf b).run P D=.ok size D:=λD=>by simp[sizeOf,a,s]
 have h:(choose (.appendCap (A+j) r b)).run P D=.ok ((Question.appendCap (A+j) r b).cut (D.tape D.drawn (.appendCap (A+j) r b))) D.drew:=by rfl
 simp only[Builtin.append_,KP,KN,sk];simp only[YF,W8 t,W8 n,Y3,q,Xz,RK,UH,Builtin.lenOf,LN,Qe,o,a,g,h,run_askRoom,l,k,m,newRow];simp only[p,UH,YF,a,Y3,g,h,run_askRoom,l,k,m,sU,Xz,Sem.run_ite];rfl
def rJ(Γ:YG):L Operand->L Wh->Prop|[],ss=>ss=[]|x::xs,ss=>∃a b,ss=a::b/\Xe Γ x a/\rJ Γ xs b
def rJ.all{Γ:YG}{m}{a}:∀{xs}{ss},rJ Γ xs ss->(∀x∈xs,PH Γ m a x)->Q4 m ss (xs.map a.eval)|[],_,rfl,_=>by rfl|x::xs,_,⟨s,c,rfl,h,k⟩,b=>by exact⟨_,_,rfl,h m a Zp,rJ.all k Zp⟩
def Jk(P:Program)(f:FuncId):Bool:=match P.funcs[f]?with|some a=>a.name != "runtime.NumGoroutine"&&a.body.isSome|none=>false
def ZwQ{f}(h:Jk G f=true)(args)(w):(callFunc f args).run G w=.ok (.enter f args) w:=by
 unfold Jk at h;split at h;·rename_i a d;simp at h;have⟨e,g⟩:=h;have b:(a.name== "runtime.NumGoroutine")=false:=Zp;have c:a.body.isNone=false:=Xk;simp only[callFunc,YF,jA,Y3,d,b,RK,UH,c,Xz]
 ·grind
def ext(m:YO)(hs:Hp):YO:=λb c=>match hs.find? (λa=>a.1==b)with|some a=>a.2.2[c]?|none=>m b c
def Zee{m}(a:l.bs.Nodup)(h:(A,f,p)∈l)(o):ext m l A o=p[o]?:=by
 have:l.find? λh=>h.1==A=some (A,f,p):=by induction l with|nil=>cases h|cons d i c=>
   simp only[Hp.bs,Wb,Ss]at a;obtain rfl|b:=XL h;·simp
   ·have g:d.1≠A:=λe=>a.1 Zp;rw[List.find?_cons_of_neg Zp];exact c a.2 b
 simp[ext,this]
def qY{m}(h:A∉l.bs)(o):ext m l A o=m A o:=by
 have:l.find? λh=>h.1==A=none:=by rw[List.find?_eq_none];exactλc b a=>h (by
   have:=by simpa using a
   rw[<-this];exact VV b)
 simp[ext,this]
def Zed{m}(c:Good m l D):Wy m (ext m l):=by
 intro b f v e;by_cases a:b∈l.bs;·obtain⟨g,d,rfl⟩:=VR a;rw[c.free g d f]at e;cases e
 ·rw[qY a];exact e
def Good.ext{m}{hs}{w}(b:Good m hs w):Good (ext m hs) [] w where
 mem:=λc f v a=>by
  by_cases d:c∈hs.bs;·obtain⟨h,e,rfl⟩:=VR d;rw[Zee b.nodup e]at a;exact b.cells e f v a
  ·rw[qY d]at a;exact b.mem c f v a
 nodup:=List.nodup_nil;Xb:=λ_ g=>Zp;free:=λ_ g=>Zp
def Zli(c:We)(Γ:YG)(H:L YC)(x:Operand)(s:Wh):Prop:=∀a b d e,Good a b e->ZS H a b->PH Γ a d x->s.p (ext a b) (d.eval x)
def rI(c:We)(Γ:YG)(H:L YC):L Operand->L Wh->Prop|[],ss=>ss=[]|x::xs,ss=>∃a b,ss=a::b/\Zli c Γ H x a/\rI c Γ H xs b
def rI.all{c:We}{Γ:YG}{H:L YC}{m}{a}{hs}{w}(b:Good m hs w)(d:ZS H m hs):∀{xs}{ss},rI c Γ H xs ss->(∀x∈xs,PH Γ m a x)->Q4 (ext m hs) ss (xs.map a.eval)|[],_,rfl,_=>by rfl|x::xs,_,⟨s,f,rfl,h,k⟩,e=>by exact⟨_,_,rfl,h m _ a w b d Zp,rI.all b d k Zp⟩
def cut(c m:YO)(bs:L Nat):YO:=λa b=>if a∈bs then m a b else c a b
def pZ{m j}{hs h}{w w'}(g:Good m hs w)(i:Good j h w')(d:ZW w w' (ext m hs) j [] h.bs):Good (cut j m hs.bs) (h++hs) w'/\ZW w w' m (cut j m hs.bs) hs.bs (h++hs).bs:=by
 have o:∀a∈hs,w'.heap[a.1]?=w.heap[a.1]?:=λa hx=>(d.Vu a.1 (g.P6 (VV (f:=(·.1)) hx)) Zc).1;have k:∀b∈h.bs,b∉hs.bs:=λb hb n=>by exact absurd (g.P6 n) (Nat.not_lt.2 ((d.own b hb).resolve_left Zc))
 refine⟨⟨λb e v c=>?_,?_,λa hx=>?_,λa hx e=>?_⟩,?_⟩
 ·unfold cut at c;split at c;·rename_i hb;obtain⟨a,hx,rfl⟩:=VR hb;rw[g.free a hx e]at c;cases c
  ·exact i.mem b e v c
 ·rw[Hp.Wo];exact List.nodup_append.2 ⟨i.nodup,g.nodup,λa hx q p c=>k a hx (c▸p)⟩
 ·obtain hx|hx:=ZY hx;·exact i.Xb a hx
  ·rw[o a hx];exact g.Xb a hx
 ·obtain hx|hx:=ZY hx;·have:a.1∉hs.bs:=k a.1 (VV (f:=(·.1)) hx);simp only[cut,Ys this];exact i.free a hx e
  ·have:a.1∈hs.bs:=VV (f:=(·.1)) hx;simp only[cut,Y4 this];exact g.free a hx e
 ·refine⟨d.os,d.tape,d.output,d.size,λb hb l=>⟨(d.Vu b hb Zc).1,λe=>?_⟩,λb hb=>?_,λb e v c=>?_⟩;·simp only[cut,Ys l];rw[(d.Vu b hb Zc).2 e,qY l]
  ·rw[Hp.Wo,Sr]at hb;obtain hb|hb:=hb;·exact .inr ((d.own b hb).resolve_left Zc)
   ·exact .inl hb
  ·unfold cut;split;·exact c
   ·exact d.le b e v (Zed g b e v c)
inductive j5:List YC->List YC->List YC->Prop|nil{H:List YC}:j5 H [] H|cons{H H1 H2 E:List YC}{e:YC}:Ra H e H1->j5 H1 E H2->j5 H (e::E) H2
def Gk.fC{P}{G}{f}{A}{T}(h:Gk P G f A F (λv=>ov v) λv=>[own T E v M]):Gk P G f A F (λ_:Unit=>(sl E).slot M) λ_=>[]:=by refineλn p z u e b a k=>(h n p _ _ e b a k).mono ?_;rintro q B⟨v,y,w,x,rfl,g,l,⟨r,s,rfl,j,rfl⟩,c⟩;have⟨o,t,i,m,d,_⟩:=own.fC j g c;have:=(JP.1 l).1;subst this;exact⟨v,o,[],(),rfl,i,m,rfl,d⟩
def placeOf(P:Program)(T i:Nat):Zg (Nat×Nat):=match P.underlying T with|some (.struct fs)=>fs[i]?.bind λb=>(P.info? b.type).map λa=>(b.offset,a.size)|some (.array _ e)=>(P.info? e).map λa=>(i*a.size,a.size)|_=>none
inductive yM{α:Type}(P:Program)(T:TypeId)(Γ:YG)(R:Z1 α):List (Nat×Operand)->α->α->Prop|nil{x:α}:yM P T Γ R [] x x|cons{β:Type}{i off:Nat}{y:Operand}{S:Z1 β}{z:β}{get:α->β}{set:α->β->α}{ps:List (Nat×Operand)}{x r:α}:Xe Γ y (S.slot z)->Pc R off S get set->placeOf P T i=some (off,S.n)->yM P T Γ R ps (set x z) r->yM P T Γ R ((i,y)::ps) x r
def wo(off):∀(ds)(k)(cs:L Value),off+k+ds.length<=cs.length->(ds.zipIdx k).foldl (λcs p=>cs.setIfInBounds (off+p.2) p.1) cs.toArray=(cs.take (off+k)++ds++cs.drop (off+k+ds.length)).toArray
 |[],k,cs,_=>Zc|v::ds,k,cs,h=>by
  simp at h;have d:off+k<cs.length:=Y;simp only[List.zipIdx_cons,List.foldl_cons];have a:cs.toArray.setIfInBounds (off+k) v=(cs.set (off+k) v).toArray:=Zc;rw[a,wo off ds (k+1) (cs.set (off+k) v) XV];have b:(cs.set (off+k) v).take (off+(k+1))=cs.take (off+k)++[v]:=by rw[show off+(k+1)=off+k+1by omega,ML Zp,List.take_set,ZkE XV];simp
  have c:(cs.set (off+k) v).drop (off+(k+1)+ds.length)=cs.drop (off+k+(v::ds).length):=by rw[List.drop_set_of_lt Y];simp;omega
  grind
def yM.fill{m}{a}{ps}{r:C}(h:yM G f B E ps N r):∀{cs}{c},E.rel m cs N->(∀i p,placeOf G f i=some p->c i=some p)->(∀p∈ps,PH B m a p.2)->∃d,Instr.fill c cs.toArray (ps.map λp=>(p.1,a.eval p.2))=some d.toArray/\E.rel m d r:=by induction h with|nil=>intro cs c b _ _;exact⟨cs,rfl,b⟩|@cons β i off y S z get set ps N r hy g n _ o=>intro cs c b j w;have⟨k,l,e⟩:=Z1.fY (hy m a Xk);have s:=S.len e;have q:=E.len b;have v:=g.fits;have⟨d,t,x⟩:=o (g.FY b e) j Zp;simp[Wb,Instr.fill,j i _ n,l];have u:=wo off k 0 cs Y;grind
def iS(P:Program)(T:TypeId):Bool:=match P.underlying T with|some (.struct fs)=>fs.toList.all λa=>(P.info? a.type).isSome|some (.array _ e)=>(P.info? e).isSome|_=>false
def Zfq{P}{w}:∀(fs:L Field),(∀f∈fs,(P.info? f.type).isSome=true)->(fs.mapM λf=>do pure (f.offset,<-sizeOf f.type):Sem (L (Nat×Nat))).run P w=.ok (fs.map λf=>(f.offset,((P.info? f.type).map (·.size)).getD 0)) w
 |[],_=>Zc|f::fs,h=>by
  have⟨b,a⟩:=Bb (h f Zc);have c:(sizeOf f.type).run P w=.ok b.size w:=by simp[sizeOf,typeInfo,a]
  have d:=Zfq (P:=P) (w:=w) fs Zp;simp_all
inductive KS{α:Type}(Γ:YG)(R:Z1 α):Nat->List (Nat×Operand)->List α->Prop|nil{k:Nat}:KS Γ R k [] []|cons{k:Nat}{y:Operand}{z:α}{ps:List (Nat×Operand)}{zs:List α}:Xe Γ y (R.slot z)->KS Γ R (k+1) ps zs->KS Γ R k ((k,y)::ps) (z::zs)
def KS.len{ps}(h:KS B E A ps M):ps.length=M.length:=by induction h<;>simp_all
def KS.fill{m}{a}{ps}(h:KS B E A ps M):∀{pre cs},pre.length=A*E.n->cs.length=M.length*E.n->(∀p∈ps,PH B m a p.2)->∃d,Instr.fill (λi=>some (i*E.n,E.n)) (pre++cs).toArray (ps.map λp=>(p.1,a.eval p.2))=some (pre++d).toArray/\Xm E m d M:=by induction h with|nil=>intro pre cs _ f _;exact⟨cs,rfl,by simpa[Xm]using f⟩|@cons A y z ps M hy _ q=>
  intro pre cs c f j;obtain⟨b,n,g⟩:=Z1.fY (hy m a (j (A,y) Zc));have e:=E.len g;have r:cs.length=E.n+M.length*E.n:=Zp;obtain⟨d,s,o⟩:=q (pre:=pre++b) (cs:=cs.drop E.n) (by rw[YM,c,e,SE,O7]) (by rw[VF];omega) λp c=>j p (by simp[c]);refine⟨b++d,?_,⟨b,d,rfl,g,o⟩⟩;simp only[Wb,Instr.fill,n];have t:Array.foldl (λcs(p:Value×Nat)=>cs.setIfInBounds (A*E.n+p.2) p.1) (pre++cs).toArray b.toArray.zipIdx=(pre++b++cs.drop E.n).toArray:=by
   rw[<-Array.foldl_toList,Array.toList_zipIdx,wo (A*E.n) b 0 (pre++cs) (by simp[c,e];omega)];have k:(pre++cs).take (A*E.n+0)=pre:=by rw[Ey,<-c,CT];rfl
   have l:(pre++cs).drop (A*E.n+0+b.length)=cs.drop E.n:=by rw[Ey,<-c,e,jf];simp
   rw[k,l]
  grind
def ZwP{w}{ST:TypeId}{R:Z1 C}{m}{ps}(r:J0 G ST f R.n=true)(s:A=M.length)(hs:A*R.n<=16777216)(h:KS B R 0 ps M)(t:∀p∈ps,PH B m H p.2):∃cs,Xm R m cs M/\(Instr.buildSlice ST A (ps.toArray.map λp=>(p.1,H.eval p.2))).run G w=.ok (.slice (some ⟨w.heap.size,0,none⟩) A A) (w.alloc (.cells cs.toArray f)):=by
 obtain⟨j,k,n,e,u,z,D,v,F⟩:=uV r;have i:(sizeOf f).run G w=.ok R.n w:=by simp[sizeOf,typeInfo,e,u]
 have x:(zeroValue f).run G w=.ok n w:=by simp[zeroValue,typeInfo,e,v]
 have g:(ps.toArray.map λ(p:Nat×Operand)=>(p.1,H.eval p.2)).toList=ps.map λp=>(p.1,H.eval p.2):=Zc;have o:¬A*R.n>2^24:=by omega
 have l:∀a:Array Value,∃cs,Xm R m cs M/\Instr.fill (λk=>some (k*R.n,R.n)) ((Array.range (A*R.n)).map (a[·%a.size]!)) (ps.map λp=>(p.1,H.eval p.2))=some cs.toArray:=by
  intro a;obtain⟨cs,E,c⟩:=h.fill (m:=m) (a:=H) (pre:=[]) (cs:=((Array.range (A*R.n)).map (a[·%a.size]!)).toList) Zc (by simp[s]) t;have y:([]++((Array.range (A*R.n)).map (a[·%a.size]!)).toList).toArray=(Array.range (A*R.n)).map (a[·%a.size]!):=by rw[UG,Za4]
  grind
 by_cases d:A*R.n=0;·obtain⟨cs,c,b⟩:=l #[];refine⟨cs,c,?_⟩;rw[d]at b;have q:¬0>2^24:=YI;simp only[Instr.buildSlice,YF,W8 j,Y3,i,d,q,UH,Xz,Qe,g];simp only[b,newRow,YF,sU,Y3,Xz];rfl
 ·obtain⟨cs,c,b⟩:=l n.cells;refine⟨cs,c,?_⟩;simp only[Instr.buildSlice,YF,W8 j,Y3,i,o,UH,Xz,d,x,g,b,newRow,sU];rfl
def Zaq(o:Oper):L Nat:=o.op.operands.toList.filterMap λ|.tmp a=>some a|_=>none
def pt(a:L Oper)(o:Oper):L Nat:=match o.guard with|some (j,_)=>(a[j]?.bind (·.dst)).toList|none=>[]
def UL(o:Oper):L Nat:=(o.after.toList.filter (Region.binds .any)).map (·.on)
def names(a:L Oper)(o:Oper):L Nat:=o.dst.toList++Zaq o++pt a o
def marks(b:L Oper):Nat->L Nat->L Nat|0,a=>a|j+1,a=>if a.contains j then marks b j (a++(b[j]?.map UL).getD [])else marks b j a
def vn{b}{X:Nat->Bool}(c:∀j p,b[j]?=some p->X j=true->∀e∈UL p,X e=true):∀(n)(a),(∀j∈a,X j=true)->∀j∈marks b n a,X j=true
 |0,a,h=>h|n+1,a,h=>by
  unfold marks;split;·refine vn c n _ λj d=>?_;grind
  ·exact vn c n a h
def Mf(b:L Oper)(n:Nat):Bool:=(b.zipIdx.all λ(c,a)=>(UL c).all λf=>Nat.blt f a)&&(b.zipIdx.all λ(c,a)=>b.zipIdx.all λ(e,d)=>match e.dst with|some g=>Nat.beq a d||!(names b c).contains g||if Nat.blt d a then(UL c).contains d else(UL e).contains a|none=>true)&&b.zipIdx.all λ(c,a)=>Nat.blt a n||(List.range a).all λd=>(marks b a (UL c)).contains d
def push(d:Zg Tmp)(s:Wh)(Γ:YG):YG:=match d with|some d=>(d,s)::Γ|none=>Γ
def rB(f:L Oper)(o:Oper)(Γ:YG)(h:Bool):Prop:=∃b e a d c,o.guard=some (b,e)/\f[b]?.bind (·.dst)=some d/\lk Γ d=some c/\(∀g v,c.p g v->v=.bool a)/\(a==e)=h
def Zcg(c:L Oper)(o:Oper)(Γ:YG):Prop:=∃a d b,o.guard=some (a,d)/\c[a]?.bind (·.dst)=some b/\lk Γ b=some (val undef)
inductive KY(c:We)(full:List Oper)(H:List YC)(o:Oper)(Γ:YG):Wh->Prop|plain{s:Wh}:o.guard=none->PJ c o Γ H s->KY c full H o Γ s|yes{s:Wh}:rB full o Γ true->PJ c o Γ H s->KY c full H o Γ s|no:rB full o Γ false->KY c full H o Γ (val undef)|undef:Zcg full o Γ->KY c full H o Γ (val undef)
inductive RJ(c:We)(full:List Oper)(H:List YC):Nat->List Oper->YG->List Wh->Option (Nat×Nat×(Nat->YC))->Prop|nil{k:Nat}{Γ:YG}:RJ c full H k [] Γ [] none|read{k:Nat}{o:Oper}{os:List Oper}{Γ:YG}{s:Wh}{σ:List Wh}{al:Option (Nat×Nat×(Nat->YC))}:KY c full H o Γ s->RJ c full H (k+1) os (push o.dst s Γ) σ al->RJ c full H k (o::os) Γ (s::σ) al|alloc{k d:Nat}{o:Oper}{os:List Oper}{Γ:YG}{σ:List Wh}{T:TypeId}{α:Type}{R:Z1 α}{x:α}{cs:List Value}:o.guard=none->o.dst=some d->o.op=.alloc T->ZcR R x cs->MG c.P T=some cs->RJ c full H (k+1) os ((d,any)::Γ) σ none->RJ c full H k (o::os) Γ (any::σ) (some (k,d,λb=>box b T R x))
def xV(Γ:YG):L Oper->L Wh->YG|o::os,s::σ=>xV (push o.dst s Γ) os σ|_,_=>Γ
def U8(l:L Oper)(σ:L Wh)(Γ:YG)(X:Nat->Bool):Nat->Nat->Zg Wh|0,t=>lk Γ t|k+1,t=>match l[k]?,σ[k]?with|some a,some s=>if X k&&a.dst==some t then some s else U8 l σ Γ X k t|_,_=>U8 l σ Γ X k t
def Zqh(d)(s)(Γ)(t):lk (push d s Γ) t=if d==some t then some s else lk Γ t:=by cases d with|none=>simp[push]|some d=>
  by_cases a:d=t;·subst a;simp[push,JH]
  ·simp[push];rw[He a];simp[a]
def Dg(o)(os)(s)(σ)(Γ):∀k t,U8 (o::os) (s::σ) Γ (λ_=>true) (k+1) t=U8 os σ (push o.dst s Γ) (λ_=>true) k t|0,t=>by simp only[U8,KN,tZ];rw[Zqh]|k+1,t=>by rw[U8];simp only[sk];rw[Dg o _ s _ _ k t];conv=>rhs;rw[U8]
def RJ.at{c}{g}{H}{k}{l}{Γ}{σ}{al}(h:RJ c g H k l Γ σ al):∀i o,l[i]?=some o->∃s f,σ[i]?=some s/\(∀t,lk f t=U8 l σ Γ (λ_=>true) i t)/\((KY c g H o f s/\∀d e,al≠some (k+i,d,e))\/∃(d:Nat)(T:TypeId)(α:Type)(R:Z1 α)(x:α)(cs:L Value),s=any/\o.guard=none/\o.dst=some d/\o.op=.alloc T/\ZcR R x cs/\MG c.P T=some cs/\al=some (k+i,d,λb=>box b T R x)):=by
 have w:∀{k:Nat}{l:L Oper}{Γ:YG}{σ:L Wh}{al},RJ c g H k l Γ σ al->∀u d e,al=some (u,d,e)->k<=u:=by intro k l Γ σ al h;induction h<;>grind
 induction h with
 |nil=>intro i o h;simp at h|@read k o os Γ s σ al h1 h2 n=>intro i p a;cases i with|zero=>simp only[KN,Bc]at a;subst a;refine⟨s,Γ,rfl,λt=>rfl,.inl ⟨h1,λd e v=>?_⟩⟩;have:=w h2 _ d e v;omega|succ i=>obtain⟨q,f,m,j,r⟩:=n i p (by simpa using a);refine⟨q,f,by simpa using m,λt=>by rw[j t,Dg],by rw[show k+(i+1)=k+1+i by omega];exact r⟩
 |@alloc k d o os Γ σ T α R x cs hg hd y z A h2 n=>intro i p a;cases i with|zero=>simp only[KN,Bc]at a;subst a;exact⟨any,Γ,rfl,λt=>rfl,.inr ⟨d,T,α,R,x,cs,rfl,hg,hd,y,z,A,Zc⟩⟩|succ i=>obtain⟨q,f,m,j,r⟩:=n i p (by simpa using a);refine⟨q,f,by simpa using m,λt=>by rw[j t,Dg];simp[push,hd],Xk⟩
def ZnF(Γ):∀(l)(σ),l.length=σ.length->∀t,lk (xV Γ l σ) t=U8 l σ Γ (λ_=>true) l.length t:=by intro l;induction l generalizing Γ with|nil=>intro σ _ t;cases σ<;>rfl|cons c d b=>intro σ a t;cases σ with|nil=>simp at a|cons e σ=>rw[Wl,Dg,xV,b _ _ Zp t]
def RJ.len{l}{al}(h:RJ y c F A l B P al):l.length=P.length:=by induction h<;>simp_all
def qC(h:Mf c A=true)(hi:c[r]?=some S):∀e∈UL S,e<r:=by simp only[Mf,YL,MI]at h;intro e a;have:=h.1.1 (S,r) (by rw[yz];exact hi) e a;simpa[TN]using this
def qD(h:Mf c A=true){t:Nat}{p}(hi:c[r]?=some S)(f:c[j]?=some p)(g:r≠j)(i:p.dst=some t)(k:t∈names c S):(j<r->j∈UL S)/\(r<j->r∈UL p):=by
 simp only[Mf,YL,MI]at h;have:=h.1.2 (S,r) (by rw[yz];exact hi) (p,j) (by rw[yz];exact f);have d:Nat.beq r j=false:=by cases a:Nat.beq r j with|false=>rfl|true=>exact absurd (Wc a) g
 have e:(names c S).contains t=true:=by simpa using k
 simp only[i,d,e,LO,yo,ja]at this;constructor
 ·intro b;have a:=by simpa[TN]using b
  simpa[a]using this
 ·intro b;have a:Nat.blt j r=false:=by cases a:Nat.blt j r with|false=>rfl|true=>have:=(TN▸a:j<r);omega
  simpa[a]using this
def qE(h:Mf c A=true)(hi:c[r]?=some S)(g:A<=r){X:Nat->Bool}(d:∀j∈UL S,X j=true)(b:∀j p,c[j]?=some p->X j=true->∀e∈UL p,X e=true):∀j,j<r->X j=true:=by
 simp only[Mf,YL,MI]at h;have:=h.2 (S,r) (by rw[yz];exact hi);have a:Nat.blt r A=false:=by cases a:Nat.blt r A with|false=>rfl|true=>have:=TN▸a;omega
 simp[a,ja,MI]at this;exactλj f=>vn b r _ d j (by simpa using this j (by simpa using f))
def PJ.frame(E)(h:PJ y S B F s):PJ y S B (E++F) s:=by intro m r e o a f k i;obtain⟨p,q,rfl,t,j⟩:=k.split;refine(h m _ e o a.sub f j i).mono λv u⟨n,g,l,c⟩=>⟨n,⟨g.mem,a.nodup,λd b=>by rw[(c.Vu _ (a.P6 (VV b)) Zc).1];exact a.Xb d b,λd b S=>by rw[(c.Vu _ (a.P6 (VV b)) Zc).2 S];exact a.free d b S⟩,l,c⟩
def ZbA(al:Zg (Nat×Nat×(Nat->YC)))(H:L YC)(X:Nat->Bool)(m:YO)(hs:Hp)(a:Act):Prop:=∃e,ZS (e++H) m hs/\((e=[]/\∀b c d,al=some (b,c,d)->X b=false)\/∃b c d f,al=some (b,c,d)/\X b=true/\e=[d f]/\a.tmps.getD c undef=.pointer (some ⟨f,0,none⟩))
def yS(c:We)(g l:L Oper)(σ:L Wh)(al:Zg (Nat×Nat×(Nat->YC)))(Γ:YG)(H:L YC)(X:Nat->Bool)(a:Act)(w:World):Prop:=Ix c a.defers w/\a.tmps.size=c.N/\∃b d,Good b d w/\c.G.p b/\(∀f e,U8 l σ Γ X l.length f=some e->e.p b (a.tmps.getD f undef))/\ZW c.w0 w c.m0 b c.b0 d.bs/\ZbA al H X b d a
def gG:∀k,r<=k->(∀j o,r<=j->j<k->c[j]?=some o->o.dst=some A->T j=false)->U8 c P B T k A=U8 c P B T r A:=by intro k;induction k with|zero=>grind|succ k e=>
  intro d b;by_cases a:r=k+1;·rw[a]
  ·rw[U8];grind
def ZnE:∀i,(∀j o,j<i->c[j]?=some o->o.dst=some A->T j=true)->U8 c P B T i A=U8 c P B (λ_=>true) i A:=by intro i;induction i with|zero=>intro _;rfl|succ i a=>intro b;have a:=a λj o d=>b j o Y;rw[U8,U8];cases e:c[i]?with|none=>omega|some o=>cases hs:P[i]?<;>grind
def Zdw{X'}:∀k,(∀j o,j<k->c[j]?=some o->o.dst=some A->T j=X' j)->U8 c P B T k A=U8 c P B X' k A:=by intro k;induction k with|zero=>intro _;rfl|succ k a=>intro b;have a:=a λj o f=>b j o Y;rw[U8,U8];cases e:c[k]?with|none=>grind|some o=>cases hs:P[k]?with|none=>grind|some g=>
    by_cases d:o.dst=some A;·rw[b k o Zc e d,a]
    ·grind
def xQ(N:Nat)(l:L Oper):Bool:=l.all λb=>match b.dst with|some a=>Nat.blt a N|none=>true
def An(l:L Oper):Bool:=l.zipIdx.all λ(d,b)=>l.zipIdx.all λ(f,c)=>Nat.beq b c||match d.dst,f.dst with|some a,some e=>!Nat.beq a e|_,_=>true
def Zn4(h:An c=true){p}(hi:c[A]?=some S)(b:c[r]?=some p)(d:S.dst=some j)(e:p.dst=some j):A=r:=by simp only[An,MI]at h;have:=h (S,A) (by rw[yz];exact hi) (p,r) (by rw[yz];exact b);have a:Nat.beq j j=true:=Zc;simp only[d,e,a,LO,yo]at this;exact Wc this
def Uo(X:Nat->Bool)(i:Nat):Nat->Bool:=λa=>if a=i then true else X a
def Zn2{rest:L Oper}{al:Zg (Nat×Nat×(Nat->YC))}(hB:Mf (c++rest) c.length=true)(hN:xQ y.N c=true)(hU:al=none\/An c=true)(hR:RJ y (c++rest) F 0 c B P al)(hi:c[A]?=some S)(hX:T A=false)(he:∀j∈UL S,T j=true)(z2:∀j p,c[j]?=some p->T j=true->∀e∈UL p,T e=true)(hD:yS y (c++rest) c P al B F T H D)(hK:∀a' w',yS y (c++rest) c P al B F (Uo T A) a' w'->J a' w'):wpOpIn (WR y.ro) 0 y.P (c++rest).toArray x A J H D:=by
 have x5:A<c.length:=(X8 hi).1;have xh:∀{j p},c[j]?=some p->(c++rest)[j]?=some p:=λ{j p}h=>by rw[VE (X8 h).1];exact h
 have xb:=xh hi;have zs:(c++rest).toArray[A]?=some S:=by simpa using xb
 obtain⟨yf,Z,hs,z6,z1⟩:=hR.at A S hi;obtain⟨x2,V,i,t,z,R,x0,x4,x9⟩:=hD;have y3:∀a∈names (c++rest) S,∀j p,A<j->c[j]?=some p->p.dst=some a->T j=false:=by intro a I j p z5 n g;cases yy:T j with|false=>rfl|true=>have:=(qD hB xb (xh n) Y g I).2 z5;have:=z2 j p n yy A this;rw[hX]at this;cases this
 have xs:∀a∈names (c++rest) S,U8 c P B T c.length a=lk Z a:=by
  intro a I;rw[z6 a,gG c.length (by omega:A<=c.length),ZnE A];·exactλj p r n g=>he j ((qD hB xb (xh n) Y g I).1 r)
  ·intro j p h1 O n g;by_cases E:j=A;·subst E;exact hX
   ·exact y3 a I j p Y n g
 have zz:rO S Z i H:=by
  intro y1 K;cases y1 with|tmp a=>
   intro q e;have I:a∈names (c++rest) S:=by simp only[names,Sr];refine .inl (.inr ?_);simp only[Zaq,List.mem_filterMap];exact⟨.tmp a,by simpa using K,rfl⟩
   exact x0 a q (by rw[xs a I];exact e)|_=>trivial
 have y4:∀b,S.dst=some b->b<H.tmps.size:=by intro b g;simp only[xQ,MI]at hN;have:=hN S (X2 hi);rw[g]at this;rw[V];simpa[TN]using this
 have x7:∀{o:YO}{v:Value},Wy i o->yf.p o v->∀a q,U8 c P B (Uo T A) c.length a=some q->q.p o ((H.put S.dst v).tmps.getD a undef):=by
  intro o v xv l a q e;by_cases g:S.dst=some a
  ·rw[gG c.length (by omega:A+1<=c.length)]at e;·rw[U8]at e;simp only[hi,hs,Uo,Qe,g,Zbw,Bool.and_self]at e;cases e;rw[g,Lq (y4 a g)];exact l
   ·intro j p h1 O n xa;have E:j≠A:=Y;simp only[Uo,Ys E];exact y3 a (by simp[names,g]) j p Y n xa
  ·have e':U8 c P B T c.length a=some q:=by
    rw[<-e];refine Zdw c.length λj p r n xa=>?_;by_cases E:j=A;·subst E;rw[hi]at n;cases n;exact absurd xa g
    ·simp[Uo,E]
   have d:(H.put S.dst v).tmps.getD a undef=H.tmps.getD a undef:=by cases x1:S.dst with|none=>rfl|some b=>exact Ku λe=>g (by rw[x1,e])
   rw[d];exact q.mono xv (x0 a q e')
 have z0:∀f b e,al=some (f,b,e)->f≠A->S.dst≠some b:=by
  intro f b e m C xx;have y6:f<c.length:=by
   have a5:∀{y2:L Oper}{k:Nat}{c:L Oper}{B:YG}{P:L Wh}{al},RJ y y2 F k c B P al->∀j b e,al=some (j,b,e)->j<k+c.length:=by intro y2 k c B P al h;induction h with|nil=>intro j b e h;cases h|read _ _ ih=>intro j b e h;have:=ih j b e h;simp only[Wl];omega|alloc=>intro j b e h;cases h;simp only[Wl];omega
   have:=a5 hR f b e m;omega
  obtain⟨s3,a7,_,_,h3⟩:=hR.at f c[f] (Ve y6);obtain⟨_,h3⟩|⟨d3,T3,a8,R3,x3,a6,_,_,z3,_,_,_,s⟩:=h3;·exact absurd m (by simpa using h3 b e)
  ·rw[m]at s;simp only[Qc,Bc,Prod.mk.injEq,true_and]at s;exact C (Zn4 (hU.resolve_left (by rw[m];simp)) (Ve y6) hi (by rw[z3,s.1]) xx)
 have xi:(∀b e,al≠some (A,b,e))->∀{o:YO}{v:Value},Wy i o->ZbA al F (Uo T A) o t (H.put S.dst v):=by
  intro G o v xv;obtain⟨M,X,Q⟩:=x9;refine⟨M,X.mono xv,?_⟩;obtain⟨rfl,Q⟩|⟨f,b,e,N,m,K,rfl,hb⟩:=Q;·refine .inl ⟨rfl,λf b e h=>?_⟩;have C:f≠A:=λO=>G b e (by rw[h,O]);simp only[Uo,Ys C];exact Q f b e h
  ·have C:f≠A:=λO=>G b e (by rw[m,O]);refine .inr ⟨f,b,e,N,m,by simp only[Uo,Ys C];exact K,rfl,?_⟩;cases xx:S.dst with|none=>exact hb|some d'=>rw[Ku λe2=>z0 f b e m C (by rw[xx,e2])];exact hb
 unfold wpOpIn;rw[zs];simp only[];have y8:(∀b e,al≠some (A,b,e))->PJ y S Z F yf->S.wpIn (WR y.ro) 0 y.P H D J x:=by intro G W;obtain⟨M,X,_⟩:=x9;refine RS.wp ((W.frame M) i t H D z R X zz) λv w'⟨o,z4,l,U⟩=>hK _ _ ⟨by rw[FI];exact x2.step z (U.pU _),by rw[NB];exact V,o,t,z4,y.G.mono U.le R,x7 U.le l,x4.trans (U.pU _),xi G U.le⟩
 have y5:∀{yes:Bool},rB (c++rest) S Z yes->Region.wanted S (yielded (c++rest).toArray H.tmps)=yes:=by
  rintro yes⟨j,ys,N,a,q,d,r,hl,hb,hy⟩;have l:=hb i _ (x0 a q (by rw[xs a (by simp[names,pt,d,r])];exact hl));have y7:a<H.tmps.size:=by
   obtain h|h:=Rn a H.tmps.size;·exact h
   ·have:H.tmps.getD a undef=undef:=by simp[Array.getD,Nat.not_lt.2 h]
    rw[this]at l;cases l
  have y0:yielded (c++rest).toArray H.tmps j=some N:=by simp only[yielded,KP,r,jr,Za1 y7];simp only[Array.getD,y7,sS]at l;simp only[Za2]at l;rw[l]
  simp only[Region.wanted,d,y0];rw[<-hy];cases N<;>cases ys<;>rfl
 have a1:Zcg (c++rest) S Z->Region.wanted S (yielded (c++rest).toArray H.tmps)=false:=by
  rintro⟨j,ys,a,d,r,hl⟩;have l:H.tmps.getD a undef=undef:=x0 a _ (by rw[xs a (by simp[names,pt,d,r])];exact hl);have y0:yielded (c++rest).toArray H.tmps j=none:=by
   simp only[yielded,KP,r,jr];by_cases x5:a<H.tmps.size;·simp only[Za1 x5];simp only[Array.getD,x5,sS]at l;simp only[Za2]at l;rw[l];rfl
   ·simp[Array.getElem?_eq_none (Nat.not_lt.1 x5)]
  simp only[Region.wanted,d,y0];rfl
 obtain⟨z7,G⟩|⟨b,u,α,yt,y1,w,rfl,d,x1,zc,hz,a2,s⟩:=z1
 ·have x6:∀b e,al≠some (A,b,e):=λb e h=>G b e (by rw[h,Qc])
  cases z7 with|plain d W=>
   have hw:Region.wanted S (yielded (c++rest).toArray H.tmps)=true:=by simp[Region.wanted,d]
   rw[Y4 hw];exact y8 x6 W|yes d W=>rw[Y4 (y5 d)];exact y8 x6 W|no d=>rw[Ys (by rw[y5 d];simp)];exact⟨λx8 _=>wh _ x8,hK _ _ ⟨by rw[FI];exact x2,by rw[NB];exact V,i,t,z,R,x7 (Wy.refl i) rfl,x4,xi x6 (Wy.refl i)⟩⟩|undef d=>rw[Ys (by rw[a1 d];simp)];exact⟨λx8 _=>wh _ x8,hK _ _ ⟨by rw[FI];exact x2,by rw[NB];exact V,i,t,z,R,x7 (Wy.refl i) rfl,x4,xi x6 (Wy.refl i)⟩⟩
 ·rw[Y4 (by simp[Region.wanted,d])];rw[Qc]at s;obtain⟨M,X,Q⟩:=x9;have yv:M=[]:=by
   obtain⟨rfl,_⟩|⟨f,d',e',N,m,K,_⟩:=Q;·rfl
   ·rw[s]at m;simp only[Bc,Prod.mk.injEq]at m;rw[<-m.1,hX]at K;cases K
  subst yv;obtain⟨zv,a4,a3⟩:=ZaU a2 D;have a0:(execOp H.eval S).run y.P D=.ok (.value (.pointer (some ⟨D.heap.size,0,none⟩))) (D.alloc (.cells w.toArray u)):=by simp[execOp,zc,Instr.alloc,a4,newVar,newRow,a3]
  refine RS.wp (k:=λv w'=>v=.pointer (some ⟨D.heap.size,0,none⟩)/\w'=D.alloc (.cells w.toArray u)) (by rw[a0];exact⟨rfl,rfl⟩) ?_;·rintro v w'⟨rfl,rfl⟩;refine hK _ _ ⟨by rw[FI];exact x2.step z (ZW.alloc _ _ _ _),by rw[NB];exact V,i,(D.heap.size,u,w)::t,z.Zq3 u w,R,x7 (Wy.refl i) trivial,x4.trans (ZW.alloc _ _ _ _),⟨[box D.heap.size u yt y1],⟨[(D.heap.size,u,w)],t,rfl,⟨w,rfl,hz i⟩,X⟩,.inr ⟨A,b,_,D.heap.size,s,by simp[Uo],rfl,?_⟩⟩⟩;rw[x1,Lq (y4 b x1)]
def left(n:Nat)(X:Nat->Bool):Nat:=(List.range n).countP λa=>!X a
def Zfb(hi:r<A)(d:T r=false):left A (Uo T r)+1=left A T:=by unfold left;induction A with|zero=>omega|succ A f=>
  rw[yB,List.countP_append];simp;by_cases b:r=A
  ·subst b;have:(List.range r).countP (λa=>!Uo T r a)=(List.range r).countP λa=>!T a:=by apply List.countP_congr;intro a g;have:a≠r:=Zp;simp[Uo,this]
   rw[this];simp[Uo,d]
  ·have e:A≠r:=λc=>b c.symm;simp[Uo,Ys e]at f⊢;omega
def Zfc(h:left A T=0):∀i,i<A->T i=true:=by unfold left at h;simp_all
def WE(listed:Array Bool):Nat->Bool:=λa=>listed.getD a false
def ZcQ{listed}{i}(hi:i<listed.size):WE (listed.setIfInBounds i true)=Uo (WE listed) i:=by
 funext j;simp[WE,Uo,Array.getD];by_cases b:j=i;·simp_all
 ·have c:i≠j:=λa=>b a.symm;simp_all
def mem_ready{listed}(hs:listed.size=c.length):A∈Region.ready .any c.toArray listed↔∃o,c[A]?=some o/\WE listed A=false/\∀j∈UL o,WE listed j=true:=by
 unfold Region.ready;simp only[Ew,Zbl,List.mem_range,KP,YL];constructor
 ·rintro⟨e,h,b⟩;rw[Ve e]at b;simp only[Gc,jt]at b;refine⟨c[A],Ve e,?_,?_⟩;·have g:A<listed.size:=Y;simp only[WE,Array.getD,g,sS]at h⊢;simpa using h
  ·intro j k;simp only[UL,sB,Zbl]at k;obtain⟨a,⟨f,d⟩,rfl⟩:=k;rw[Zkw]at b;have:=b a (by simpa using f);simpa[d,WE]using this
 ·rintro⟨o,l,i,f⟩;obtain⟨e,rfl⟩:=X8 l;refine⟨e,?_,?_⟩;·have g:A<listed.size:=Y;simp only[WE,Array.getD,g,sS]at i⊢;simpa using i
  ·rw[l];simp only[Gc,jt];rw[Zkw];intro a m;by_cases d:Region.binds .any a=true;·have:=f a.on (by simp only[UL,sB,Zbl];exact⟨a,⟨by simpa using m,d⟩,rfl⟩);simp only[WE]at this;simp[this]
   ·simp[d]
def Zqg(a:L Oper)(n):a=a.take n++a.drop n:=(TM n a).symm
def Zoe{c:We}{Γ:YG}{H:L YC}{Q:Exit->Act->World->Prop}{l rest:L Oper}{σ:L Wh}{al:Zg (Nat×Nat×(Nat->YC))}(hm:c.P.follows .mixedOrders=true)(y:Mf (l++rest) l.length=true)(hN:xQ c.N l=true)(hU:al=none\/An l=true)(W:RJ c (l++rest) H 0 l Γ σ al)(xi:∀a w,yS c (l++rest) l σ al Γ H (λ_=>true) a w->wpListIn (WR c.ro) 0 c.P (l++rest).toArray Q rest a w):∀(q)(listed)(a)(w),listed.size=(l++rest).length->left (l++rest).length (WE listed)<=q->((∀i,l.length<=i->WE listed i=false)/\(∀j p,l[j]?=some p->WE listed j=true->∀e∈UL p,WE listed e=true)/\yS c (l++rest) l σ al Γ H (WE listed) a w\/∃p,l.length<=p/\p<=(l++rest).length/\(∀i,i<(l++rest).length->WE listed i=decide (i<p))/\wpListIn (WR c.ro) 0 c.P (l++rest).toArray Q ((l++rest).drop p) a w)->wpAnyIn (WR c.ro) 0 c.P .any (l++rest).toArray Q q listed a w:=by
 have conv:∀{listed:Array Bool}{a:Act}{w:World},(∀i,l.length<=i->WE listed i=false)->yS c (l++rest) l σ al Γ H (WE listed) a w->(∀i,i<l.length->WE listed i=true)->∃p,l.length<=p/\p<=(l++rest).length/\(∀i,i<(l++rest).length->WE listed i=decide (i<p))/\wpListIn (WR c.ro) 0 c.P (l++rest).toArray Q ((l++rest).drop p) a w:=by
  intro listed a w g k r;refine⟨l.length,YA _,Zc,λi _=>?_,?_⟩
  ·by_cases d:i<l.length;·simp[d,r i d]
   ·simp[d,g i Y]
  ·rw[kS]
   ·refine xi a w ?_;obtain⟨xb,hn,y6,hs,hg,hG,xa,xs,x6,y3,K⟩:=k;refine⟨xb,hn,y6,hs,hg,hG,λy8 y7 e=>xa y8 y7 ?_,xs,x6,y3,?_⟩;·rw[<-e];refine Zdw l.length λj I b _ _=>?_;rw[r j b]
    ·obtain⟨rfl,K⟩|⟨x,f,e,x7,x9,hx,x8,hb⟩:=K
     ·refine .inl ⟨rfl,λx f e h=>?_⟩;have y0:x<l.length:=by
       have y5:∀{U:L Oper}{S:Nat}{l:L Oper}{Γ:YG}{σ:L Wh}{al},RJ c U H S l Γ σ al->∀j f e,al=some (j,f,e)->j<S+l.length:=by intro U S l Γ σ al h;induction h with|nil=>intro j f e h;cases h|read _ _ F=>intro j f e h;have:=F j f e h;simp only[Wl];omega|alloc=>intro j f e h;cases h;simp only[Wl];omega
       have:=y5 W x f e h;omega
      have:=K x f e h;rw[r x y0]at this;cases this
     ·exact .inr ⟨x,f,e,x7,x9,rfl,x8,hb⟩
   ·rfl
 intro q;induction q with
 |zero=>
  intro listed a w B Z D;have t:=Zfc (Nat.le_zero.1 Z);have A:Region.ready .any (l++rest).toArray listed=[]:=by rw[ZkC];intro i d;obtain⟨I,o,n,_⟩:=(mem_ready B).1 d;rw[t i (X8 o).1]at n;cases n
  refine⟨A,?_⟩;obtain⟨p,x2,x3,m,v⟩:∃p,l.length<=p/\p<=(l++rest).length/\(∀i,i<(l++rest).length->WE listed i=decide (i<p))/\wpListIn (WR c.ro) 0 c.P (l++rest).toArray Q ((l++rest).drop p) a w:=by
   obtain⟨g,_,k⟩|h:=D;·exact conv g k λi d=>t i XV
   ·exact h
  have R:p=(l++rest).length:=by
   obtain h|h:=Rn p (l++rest).length;·have:=m p h;rw[t p h]at this;simp at this
   ·omega
  rwa[R,jg]at v|succ q F=>
  intro listed a w B Z D;have xh:Region.ready .any (l++rest).toArray listed=[]->∀i,i<(l++rest).length->WE listed i=true:=by intro A i;induction i using Nat.strongRecOn with|_ i y4=>intro d;cases n:WE listed i with|true=>rfl|false=>have:i∈Region.ready .any (l++rest).toArray listed:=(mem_ready B).2 ⟨(l++rest)[i],Ve d,n,λj b=>by have E:=qC y (Ve d) j b;exact y4 j E Y⟩;rw[A]at this;cases this
  refine⟨λA=>?_,λi d=>?_⟩
  ·have t:=xh A;obtain⟨p,x2,x3,m,v⟩:∃p,l.length<=p/\p<=(l++rest).length/\(∀i,i<(l++rest).length->WE listed i=decide (i<p))/\wpListIn (WR c.ro) 0 c.P (l++rest).toArray Q ((l++rest).drop p) a w:=by
    obtain⟨g,_,k⟩|h:=D;·exact conv g k λi d=>t i XV
    ·exact h
   have R:p=(l++rest).length:=by
    obtain h|h:=Rn p (l++rest).length;·have:=m p h;rw[t p h]at this;simp at this
    ·omega
   rwa[R,jg]at v
  ·obtain⟨I,o,n,C⟩:=(mem_ready B).1 d;have M:=(X8 o).1;have x4:(listed.setIfInBounds i true).size=(l++rest).length:=by simpa using B
   have z:=ZcQ (listed:=listed) (i:=i) Y;have x0:left (l++rest).length (WE (listed.setIfInBounds i true))<=q:=by rw[z];have:=Zfb M n;omega
   have V:(∃p,l.length<=p/\p<=(l++rest).length/\(∀i,i<(l++rest).length->WE listed i=decide (i<p))/\wpListIn (WR c.ro) 0 c.P (l++rest).toArray Q ((l++rest).drop p) a w)->wpOpIn (WR c.ro) 0 c.P (l++rest).toArray Q i (wpAnyIn (WR c.ro) 0 c.P .any (l++rest).toArray Q q (listed.setIfInBounds i true)) a w:=by
    rintro⟨p,x2,x3,m,v⟩;have ys:¬i<p:=by intro h;have:=m i M;rw[n]at this;simp[h]at this
    have y2:p=i:=by
     obtain h|h:=Rn p i
     ·have:=qE y o Y (X:=WE listed) C λj x5 b s e u=>by
       have N:=(X8 b).1;rw[m j N]at s;have O:j<p:=by simpa using s
       have yf:=qC y b e u;rw[m e Y];simp;omega p h;rw[m p Y]at this;simp at this
     ·omega
    subst y2;rw[KL M,(X8 o).2]at v;have y1:(l++rest).toArray[p]?=some I:=by simpa using o
    have:wpOpIn (WR c.ro) 0 c.P (l++rest).toArray Q p (wpListIn (WR c.ro) 0 c.P (l++rest).toArray Q ((l++rest).drop (p+1))) a w:=by unfold wpOpIn;rw[y1];exact v
    refine wpOpIn_mono (λJ T h'=>F _ J T x4 x0 (.inr ⟨p+1,Y,Y,λj b=>?_,h'⟩)) this;rw[z];by_cases O:j=p;·simp[Uo,O]
    ·simp only[Uo,Ys O,m j b];congr 1;rw[eq_iff_iff];omega
   obtain⟨g,k,r⟩|h:=D
   ·by_cases xv:i<l.length
    ·have x1:l[i]?=some I:=by rwa[VE xv]at o
     refine Zn2 y hN hU W x1 n C k r λJ T hD=>F _ J T x4 x0 (.inl ⟨λj b=>?_,λj p P b e u=>?_,by rw[z];exact hD⟩);·rw[z];have:j≠i:=Y;simp only[Uo,Ys this];exact g j b
     ·rw[z]at b⊢;simp only[Uo]at b⊢;split;·rfl
      ·by_cases E:j=i;·subst E;rw[x1]at P;cases P;exact C e u
       ·rw[Ys E]at b;exact k j p P b e u
    ·refine V (conv g r λj b=>qE y o Y (X:=WE listed) C (λG x5 xx s e u=>?_) j Y);have N:G<l.length:=by
      obtain h|h:=Rn G l.length;·exact h
      ·rw[g G h]at s;cases s
     exact k G x5 (by rwa[VE N]at xx) s e u
   ·exact V h
def Zwr{id}(K:St y B F H D)(o:y.P.follows .mixedOrders=true)(s:Mf c A=true)(p:Nat.ble A c.length=true)(u:xQ y.N (c.take A)=true)(n:RJ y c F 0 (c.take A) B P none)(k:QB y c.toArray (c.drop A) (xV B (c.take A) P) F (x .normal)):(Code.region id c.toArray true).wpIn (WR y.ro) 0 y.P x H D:=by
 have E:(c.take A).length=A:=Xk;have d:=Zqg c A;have q:=Zoe (c:=y) (Γ:=B) (H:=F) (Q:=x) (l:=c.take A) (rest:=c.drop A) (σ:=P) (al:=none) o (by rw[<-d,E];exact s) u (.inl rfl) (by rw[<-d];exact n) λH D⟨g,p,j,i,e,f,v,C,r,I,N⟩=>by
   rw[<-d];have t:r=[]:=by grind
   subst t;refine k H D x (λ_ _ a=>a) ⟨g,p,j,i,e,f,λb m a=>v b m ?_,I,C⟩;rw[<-ZnF B _ P n.len b];exact a
 refine wpIn_region_any o ?_;rw[<-d]at q;obtain⟨g,G,j,i,e,f,w,J,z⟩:=K;refine q _ _ H D.drew Zc (WB Zbe Zc) (.inl ⟨λO _=>by simp only[WE,Array.getD];split<;>simp,λM R _ h=>by simp only[WE,Array.getD]at h;split at h<;>simp at h,g.step e (ZW.drew _ _ _),G,j,i,e.drew,f,λb m a=>w b m ?_,z.trans (ZW.drew _ _ _),[],J,.inl ⟨rfl,λ_ _ _ a=>by cases a⟩⟩)
 ·rw[<-a];have:∀k,U8 (c.take A) P B (WE (Array.replicate c.toArray.size false)) k b=lk B b:=by
   intro k;rw[gG k (W7 k)];·rfl
   ·intro M Q _ _ _ _;simp only[WE,Array.getD];split<;>simp
  rw[this]
def tO(r:Zg Nat)(P:Program)(Q:Exit->Act->World->Prop):L Code->Act->World->Prop|[]=>Q .normal|x::k=>x.wpIn (WR r) 0 P (Exit.then (tO r P Q k) Q)
def Rt(c:We)(Q:Exit->Act->World->Prop)(k:L Code)(Γ:YG)(H:L YC):Prop:=∀a b,St c Γ H a b->tO c.ro c.P Q k a b
def FW(h:∀a w,St y B F a w->x .normal a w):Rt y x [] B F:=h
def QN{c:We}{Q:Exit->Act->World->Prop}{x y}(h:Rt c Q (x::y::i) B F):Rt c Q (.seq x y::i) B F:=by refineλa f e=>Bi (MM (h a f e) λb g j d=>?_);cases b<;>exact d
def ZiP(h:Rt y x i B F):Rt y x (.skip::i) B F:=λa c b=>wpIn_skip (h a c b)
def NE{id}(h:QB y c.toArray c B F (tO y.ro y.P x i)):Rt y x (.region id c.toArray false::i) B F:=λa d b=>Zbx (h a d _ (λ_ _ h=>h) b)
def P4(h:Rt y x i B F):QB y g [] B F (tO y.ro y.P x i):=λa b e c d=>c a b (h a b d)
def ZiL{id n}(e:y.P.follows .mixedOrders=true)(a:Mf c n=true)(f:Nat.ble n c.length=true)(b:xQ y.N (c.take n)=true)(d:RJ y c F 0 (c.take n) B P none)(h:QB y c.toArray (c.drop n) (xV B (c.take n) P) F (tO y.ro y.P x i)):Rt y x (.region id c.toArray true::i) B F:=λj k g=>Zwr g e a f b d h
def ZiJ{Γ:YG}{A B}(hx:Xe Γ K (bl.slot a))(h1:a=true->Rt y x (A::i) Γ F)(h2:a=false->Rt y x (B::i) Γ F):Rt y x (.cond K A B::i) Γ F:=by intro b e d;have⟨_,_,g,h,_,_,f,_⟩:=d;exact jB (Tv.1 (hx g b (f.Z9 K))) (λc=>h1 c b e d) λc=>h2 c b e d
def lm(h:∀a w,St y B F a w->x .ret a w):Rt y x (.ret::i) B F:=λa w b=>wpIn_ret (h a w b)
def LQ{ρ:Type}(id:Nat)(I:C->Act->World->Prop)(R:ρ->Act->World->Prop)(r:LR C ρ)(e:Exit)(a:Act)(w:World):Prop:=match r with|.next s=>e=.normal/\I s a w|.brk s=>e=.exit id/\I s a w|.ret x=>e=.ret/\R x a w
def Lu(tmps:Array Value):ResultVar->Sem Value|.tmp t=>pure (tmps.getD t undef)|.cell a t=>do loadVar t (<-asAddr (tmps.getD a undef))
def ZwG(c)(tmps):results c tmps=(do let vs<-c.results.mapM (Lu tmps);pure (if h:vs.size=1then vs[0]else .tuple vs)):=by
 have:(λb=>match b with|.tmp t=>pure (tmps.getD t undef)|.cell a t=>do loadVar t (<-asAddr (tmps.getD a undef)))=Lu tmps:=by funext b;cases b<;>rfl
 rfl
inductive BG(c:We)(Γ:YG)(H:List YC):ResultVar->Wh->Prop|tmp{t:Nat}{s:Wh}:lk Γ t=some s->BG c Γ H (.tmp t) s|cell{t b:Nat}{T T0:TypeId}{α:Type}{R:Z1 α}{x:α}{H':List YC}:lk Γ t=some (val (.pointer (some ⟨b,0,none⟩)))->Ra H (box b T0 R x) H'->S5 c.P T R.ag R.n=true->BG c Γ H (.cell t T) (R.slot x)
def BG.run{r}(h:BG y B F r s){m}(g:Good m l D)(j:ZS F m l)(a:S9 B m H):∃v,(Lu H.tmps r).run y.P D=.ok v D/\s.p m v:=by cases h with|tmp h=>exact⟨_,rfl,a _ _ h⟩|@cell t b T n α R x H' h hk f=>
  have d:H.tmps.getD t _=_:=a t _ h;have⟨o,i,c⟩:=ZS.box (w:=D) j hk;refine⟨TI _ _,?_,Z1.ZeY c⟩;have:=aj f (R.len c) R.one λk v e=>by rw[Qc];exact g.cells i k v e
  simp[Lu,d,asAddr,pure_bind];exact this
inductive BH(c:We)(Γ:YG)(H:List YC):List ResultVar->List Wh->Prop|nil:BH c Γ H [] []|cons{r:ResultVar}{s:Wh}{rs:List ResultVar}{ss:List Wh}:BG c Γ H r s->BH c Γ H rs ss->BH c Γ H (r::rs) (s::ss)
def BH.run{rs}(h:BH y B F rs P){m}(d:Good m l D)(f:ZS F m l)(c:S9 B m H):∃vs,(rs.mapM (Lu H.tmps)).run y.P D=.ok vs D/\Q4 m P vs/\vs.length=rs.length:=by induction h with|nil=>exact⟨[],Zc,rfl,rfl⟩|cons a _ g=>have⟨vs,j,b,i⟩:=g;have⟨v,k,e⟩:=a.run d f c;refine⟨v::vs,?_,⟨v,vs,rfl,e,b⟩,Zp⟩;simp_all
def Zir{c:We}{rs:L ResultVar}(a:e.results=rs.toArray)(h:(rs.mapM (Lu H.tmps)).run c.P D=.ok p D):(results e H.tmps).run c.P D=.ok (if h:p.toArray.size=1then p.toArray[0]else .tuple p.toArray) D:=by rw[ZwG,a,YF,Zky,Sem.run_map,h];rfl
def ml{d:C->L YC}{r}(u:St y B F H D)(o:e.results=#[r])(l:BG y B F r s)(i)(hs:∀m v,s.p m v->(U i).p m v)(n:Bz F (d i))(h:y.mm=false:=by rfl):bodyPost y.P e (j8 y U d) .ret H D:=by obtain⟨g,G,m,I,a,A,j,c,k⟩:=u;obtain⟨K,q,⟨v,M,rfl,w,rfl⟩,E⟩:=(BH.cons l .nil).run a c j;have:=Zir o q;have⟨J,t,b,x⟩:=c.wR n;refine⟨g.none h,v,Zp,v,m,t,i,rfl,(a.perm b).sub,hs m v w,x,(k.perm b).sub λz f=>by rw[Hp.Wo];exact Ym (.inr f)⟩
def Zdv{P}{G}{f}{d}{A}{g}(o:P.funcs[f]?=some e)(m:e.body=some d)(N)(l:e.ntmps=N)(k:Nat.ble A.length N=true)(h:∀(b)(c)(a),Rt ⟨P,N,G,b,c,a,none,false⟩ (bodyPost P e (j8 ⟨P,N,G,b,c,a,none,false⟩ U g)) [d] (GV 0 A) F):Gk P G f A F U g:=by refine ZnD o m l k ?_;rintro⟨t,s,r,b,c,a,w,v⟩rfl rfl rfl rfl rfl i q p;refine MM (h _ _ _ i q p) λj u x n=>?_;cases j<;>exact n
def Zw2{P}(h:US P A r=true){a}{len cap:Nat}{kh km}{m:Int}(c:0<=Q)(h1:Q<=m)(h2:m<=cap)(w):(Instr.sliceAt A (.slice a len cap) none (some (.int kh Q)) (some (.int km m))).run P w=.ok (.slice a Q.toNat m.toNat) w:=by
 have⟨l,k,j⟩:=FZ h;have f:∀g(b:Int)(d:Nat)e,0<=b->b<=d->(Instr.sliceBound (.int g b) d e).run P w=.ok b.toNat w:=by intro g b d e c h1;simp[Instr.sliceBound,asIntOf,c,h1]
 simp only[Instr.sliceAt,YF,W8 k,Y3,Instr.slice,Instr.sliceBounds,Qe,f km m cap .slice3Acap Y h2,f kh Q m.toNat .slice3B c Y,Xz,NJ j w];by_cases i:m.toNat=0;·grind
 ·simp[i,UH,Nat.zero_mul,jq];cases a with|none=>rfl|some a=>simp[Addr.add]
def own.at{v}{xs}{m}(h:(own f E v xs).p m l)(c:xs≠[]):∃b cap row a,v=.slice (some ⟨b,0,none⟩) xs.length cap/\l=[(b,f,row++a)]/\Xm E m row xs/\xs.length<=cap/\(row++a).length=cap*E.n:=h.resolve_left λh=>c h.1
def Oo(P:Program)(T:TypeId)(R:Z1 C)(n:Nat):Prop:=∀d,n<=d->∀e b c g h f,R.rel e b g->R.rel e c h->∃a:Bool,(Op.equalIn d T (TI R.ag b) (TI R.ag c)).run P f=.ok a f/\(a=true↔g=h)
def Zoz(h:G.underlying f=some (.int .i64)):Oo G f i64 1:=by intro k a g d e b c i rfl rfl;match k,a with|k+1,_=>exact⟨b==c,by simp[Op.equalIn,W8 h,TI,i64],Zc⟩
def ZoB(h:G.underlying f=some (.int R)):Oo G f (un R A) 1:=by intro n a g d e b c i rfl rfl;match n,a with|n+1,_=>exact⟨(b.toNat:Int)==c.toNat,by simp[Op.equalIn,W8 h,TI,un],by simp[<-Za7];omega⟩
def Zoy(h:G.underlying f=some .bool):Oo G f bl 1:=by intro n a g d e b c i rfl rfl;match n,a with|n+1,_=>exact⟨b==c,by simp[Op.equalIn,W8 h,TI,bl],Zc⟩
def ZoC{n:Nat}(h:G.underlying A=some (.array j r))(v:S5 G r E.ag E.n=true)(D:Oo G r E n):Oo G A (vec j E) (n+1):=by intro k H m q s x y b L M;match k,H with
 |k+1,H=>
  have I:n<=k:=Y;have R:∀p c,c+p=j->∃e:Bool,(∀b:World,(forIn (m:=Sem) (List.range' c p) ((none,()):Zg Bool×Unit) λd(_:Zg Bool×Unit)=>do let a<-part r q.toArray (d*E.n)let e<-part r s.toArray (d*E.n)let f<-Op.equalIn k r a e;if(!f)=true then pure (ForInStep.done (some false,()))else pure (ForInStep.yield (none,()))).run G b=.ok (if e then(none,())else(some false,())) b)/\(e=true↔∀d,(h:d<j)->c<=d->x[d]=y[d]):=by intro p;induction p with
   |zero=>
    refineλc O=>⟨true,λb=>Zc,?_⟩;constructor;·intro _ d i F;omega
    ·intro _;rfl|succ p Q=>
    intro c O;have o:c<j:=Y;obtain⟨e,u,w⟩:=Q (c+1) Y;have J:=(Pc.at j E c o).JC L;have K:=(Pc.at j E c o).JC M;have z:∀b:World,(part r q.toArray (c*E.n)).run G b=.ok (TI E.ag ((q.drop (c*E.n)).take E.n)) b:=λb=>FX v E.one (by rw[(vec j E).len L];exact(Pc.at j E c o).fits) b;have B:∀b:World,(part r s.toArray (c*E.n)).run G b=.ok (TI E.ag ((s.drop (c*E.n)).take E.n)) b:=λb=>FX v E.one (by rw[(vec j E).len M];exact(Pc.at j E c o).fits) b;have g:∃f:Bool,(∀b:World,(Op.equalIn k r (TI E.ag ((q.drop (c*E.n)).take E.n)) (TI E.ag ((s.drop (c*E.n)).take E.n))).run G b=.ok f b)/\(f=true↔x[c]=y[c]):=by
     by_cases t:x[c]=y[c];·refine⟨true,λb=>?_,by simp[t]⟩;obtain⟨f,g,l⟩:=D k I m _ _ _ _ b J K;rw[g,l.2 t]
     ·refine⟨false,λb=>?_,by simp[t]⟩;obtain⟨f,g,l⟩:=D k I m _ _ _ _ b J K;cases f with|true=>exact absurd (l.1 rfl) t|false=>exact g
    obtain⟨f,g,l⟩:=g
    cases f with|true=>
     refine⟨e,λb=>?_,?_⟩;·rw[List.range'_succ,C3];simp only[YF,z,B,g,Y3,LO,RK,UH,Xz];exact u b
     ·rw[w];constructor
      ·intro h d i F;by_cases N:d=c;·subst N;exact l.1 rfl
       ·exact h d i Y
      ·exactλh d i F=>h d i Y|false=>
     refine⟨false,λb=>?_,?_⟩;·rw[List.range'_succ,C3];simp only[YF,z,B,g,Y3,LN,Qe,Xz];rfl
     ·constructor;·intro h;cases h
      ·exactλh=>l.2 (h c o (YA _))
  obtain⟨e,u,w⟩:=R j 0 Y;refine⟨e,?_,?_⟩
  ·have S:([0:j]:Std.Legacy.Range).toList=List.range' 0 j:=by simp[Std.Legacy.Range.toList]
   simp only[Op.equalIn,YF,W8 h,Y3,TI,vec,λb=>NJ (l0 v) b];rw[Zkv];have P:([0:j]:Std.Legacy.Range).size=j:=by simp[Std.Legacy.Range.size]
   simp only[P];have:=u b;rw[this];cases e<;>rfl
  ·rw[w];constructor;·intro h;ext d i;exact h d i (W7 _)
   ·intro h d i _;rw[h]
inductive EE(P:Program):List Field->Nat->{α:Type}->Z1 α->Nat->Prop|one{α:Type}{f:Field}{off n:Nat}{R:Z1 α}:f.offset=off->(f.name== "_")=false->S5 P f.type R.ag R.n=true->Oo P f.type R n->EE P [f] off R n|cons{α β:Type}{f:Field}{fs:List Field}{off n:Nat}{R:Z1 α}{S:Z1 β}:f.offset=off->(f.name== "_")=false->S5 P f.type R.ag R.n=true->Oo P f.type R n->EE P fs (off+R.n) S n->EE P (f::fs) off (prod R S) n
def EE.run{α:Type}{P}{n k}(q:n<=k){fs}{off}{R}(h:EE P fs off R n):∀{m}{xs ys cs ds:L Value}{x y:α},xs.length=off+R.n->ys.length=off+R.n->R.rel m cs x->R.rel m ds y->xs.drop off=cs->ys.drop off=ds->∃b,(∀w,(forIn fs (none,()) λ(f:Field)_=>do if f.name≠ "_"then let a<-part f.type xs.toArray f.offset;let b<-part f.type ys.toArray f.offset;let g<-Op.equalIn k f.type a b;if(!g)=true then pure (ForInStep.done (some false,()))else pure (ForInStep.yield (none,()))else pure (ForInStep.yield (none,()))).run P w=.ok (if b then(none,())else(some false,())) w)/\(b=true↔x=y):=by
 induction h with|@one α f off n R d z p o=>
  intro m xs ys cs ds x y t v B D s u;have r:f.name≠ "_":=by simpa using z
  have j:∀w:World,(part f.type xs.toArray f.offset).run P w=.ok (TI R.ag cs) w:=λw=>by have:=FX (cs:=xs) (off:=f.offset) p R.one (by rw[t,d];exact YA _) w;rw[this,d,s,UT (sI (R.len B))]
  have l:∀w:World,(part f.type ys.toArray f.offset).run P w=.ok (TI R.ag ds) w:=λw=>by have:=FX (cs:=ys) (off:=f.offset) p R.one (by rw[v,d];exact YA _) w;rw[this,d,u,UT (sI (R.len D))]
  by_cases e:x=y;·refine⟨true,λw=>?_,by simp[e]⟩;obtain⟨g,c,i⟩:=o k q m _ _ _ _ w B D;rw[i.2 e]at c;simp only[C3,List.forIn_nil,r,ne_eq,jy,Qe,YF,j,l,c,Y3,LO,RK,UH,Xz]
  ·refine⟨false,λw=>?_,by simp[e]⟩;obtain⟨g,c,i⟩:=o k q m _ _ _ _ w B D;have A:g=false:=by cases g with|true=>exact absurd (i.1 rfl) e|false=>rfl
   rw[A]at c;simp only[C3,List.forIn_nil,r,ne_eq,jy,Qe,YF,j,l,c,Y3,LN,Xz,RK,UH]|@cons α β f fs off n R S d z p o _ T=>
  intro m xs ys cs ds x y t v⟨I,J,F,C,O⟩⟨d1,d2,hd,E,Q⟩s u;have r:f.name≠ "_":=by simpa using z
  have N:(prod R S).n=R.n+S.n:=rfl;rw[N]at t v;have G:=R.len C;have H:=R.len E;have j:∀w:World,(part f.type xs.toArray f.offset).run P w=.ok (TI R.ag I) w:=λw=>by have:=FX (cs:=xs) (off:=f.offset) p R.one (by rw[t,d];omega) w;rw[this,d,s,F,CT G]
  have l:∀w:World,(part f.type ys.toArray f.offset).run P w=.ok (TI R.ag d1) w:=λw=>by have:=FX (cs:=ys) (off:=f.offset) p R.one (by rw[v,d];omega) w;rw[this,d,u,hd,CT H]
  obtain⟨b,K,M⟩:=T q (m:=m) (xs:=xs) (ys:=ys) (cs:=J) (ds:=d2) (x:=x.2) (y:=y.2) Y Y O Q (by rw[<-TD,s,F,<-G,List.drop_left]) (by rw[<-TD,u,hd,<-H,List.drop_left]);by_cases e:x.1=y.1
  ·refine⟨b,λw=>?_,?_⟩;·obtain⟨g,c,i⟩:=o k q m _ _ _ _ w C E;rw[i.2 e]at c;rw[C3];simp only[r,ne_eq,jy,Qe,YF,j,l,c,Y3,LO,RK,UH,Xz];exact K w
   ·rw[M];refine⟨λh=>Prod.ext e h,by intro h;rw[h]⟩
  ·refine⟨false,λw=>?_,?_⟩
   ·obtain⟨g,c,i⟩:=o k q m _ _ _ _ w C E;have A:g=false:=by cases g with|true=>exact absurd (i.1 rfl) e|false=>rfl
    rw[A]at c;rw[C3];simp only[r,ne_eq,jy,Qe,YF,j,l,c,Y3,LN,Xz,RK,UH]
   ·constructor;·intro h;cases h
    ·exactλh=>absurd (by rw[h]) e
def ZoA{α:Type}{P}{T n:Nat}{fs}{R:Z1 α}(h:P.underlying T=some (.struct fs))(hs:P.stoodInHeld T=false)(i:R.ag=true)(g:EE P fs.toList 0 R n):Oo P T R (n+1):=by intro k c r p q s t m d e;match k,c with|k+1,c=>have⟨b,j,l⟩:=g.run (k:=k) Y (by simpa using R.len d) (by simpa using R.len e) d e rfl rfl;refine⟨b,?_,l⟩;simp[Op.equalIn,YF,W8 h,Y3,TI,i,jA,hs,RK,UH];have:=j m;refine Eq.trans ?_ (Eq.trans (WX (λa=>Result.andThen a λf o=>Sem.run P (match f.fst with|some a=>pure a|none=>pure true) o) this) (by cases b<;>rfl));grind
def wa(P:Program)(T:TypeId):Bool:=!P.eqGuardType P.depth T
def Zr1{c:We}{yt}{y}{q:C}[DecidableEq C](o:Oo c.P b E A)(r:A<=10000)(d:E.ag=true)(p:wa c.P b=true)(hx:Xe B K (E.slot N))(u:Xe B y (E.slot q)):PJ c ⟨k,.binOp .eql b K y yt,f,I,z,h⟩ B F (bl.slot (decide (N=q))):=Uc hx u λw D v a g i=>by
  simp[Z1.slot,Z1.is,d]at g i;obtain⟨l,rfl,s⟩:=g;obtain⟨m,rfl,t⟩:=i;have⟨j,e,x⟩:=o _ r w _ _ N q a s t;simp[TI,d]at e;refine⟨.bool j,?_,Qd Zp⟩;have n:(eqGuard .eql b K y (.agg l.toArray) (.agg m.toArray)).run c.P a=.ok () a:=by simp[eqGuard,LO,RK,UH,YF,jA,Y3,by simpa[wa]using p,LN,Qe,Xz]
  rw[YF,n];simp[binOp,Op.equal,Op.maxDepth,YF,e,Y3,Xz]
def Zsi{c:We}{yt}{y}{q:C}[DecidableEq C](o:Oo c.P b E A)(r:A<=10000)(d:E.ag=true)(p:wa c.P b=true)(hx:Xe B K (E.slot N))(u:Xe B y (E.slot q)):PJ c ⟨k,.binOp .neq b K y yt,f,I,z,h⟩ B F (bl.slot !decide (N=q)):=Uc hx u λw D v a g i=>by
  simp[Z1.slot,Z1.is,d]at g i;obtain⟨l,rfl,s⟩:=g;obtain⟨m,rfl,t⟩:=i;have⟨j,e,x⟩:=o _ r w _ _ N q a s t;simp[TI,d]at e;refine⟨.bool !j,?_,Qd Zp⟩;have n:(eqGuard .neq b K y (.agg l.toArray) (.agg m.toArray)).run c.P a=.ok () a:=by simp[eqGuard,LO,RK,UH,YF,jA,Y3,by simpa[wa]using p,LN,Qe,Xz]
  rw[YF,n];simp[binOp,Op.equal,Op.maxDepth,YF,e,Y3,Xz]
def ZiO(h:G.underlying f=some (.pointer b))(a)(w):(binOp .eql f (.pointer a) (.pointer none)).run G w=.ok (.bool a.isNone) w/\(binOp .neq f (.pointer a) (.pointer none)).run G w=.ok (.bool !a.isNone) w:=by
 have d:∀c,(Op.equalIn (c+1) f (.pointer a) (.pointer none)).run G w=.ok a.isNone w:=by intro c;cases a with|none=>simp[Op.equalIn,YF,W8 h,Y3,Xz]|some a=>simp only[Op.equalIn,YF,W8 h,Y3,Xz];rfl
 constructor<;>(simp[binOp,Op.equal,Op.maxDepth,YF,d 9999,Y3,Xz])
def Oo.mono{P}(c:A<=r)(h:Oo P f E A):Oo P f E r:=λa b=>h a Zp
def Zpw:Xe B (.const (.slice none 0 0)) (ov (.slice none 0 0)):=λ_ _ _=>Zrx
def Ze1{d:Tmp}{T}(R:Z1 C)(a:Nat.blt d y.N=true)(k:∀v,QB y g c ((d,ov v)::B) (own T R v []::F) J):QB y g (⟨some d,.assign (.const (.slice none 0 0)),f,I,z,none⟩::c) B F J:=ZpR T R _ (Vk (Hr Zpw) rfl rfl a (k _))
section
variable {c:We}{Γ Γ':YG}{H H':L YC}{Q:Exit->Act->World->Prop}{k k':L Code}{id id':Nat}{n:Act->World->Prop}
end
def QA(m:YO)(hs:Hp):Prop:=∀a∈hs,At m a.1 0 a.2.2
def om(E:L YC)(s:Wh):Wh where p:=λh v=>∀a b,Wy h a->ZS E a b->QA a b->s.p a v;mono:=λg c a b d e f=>c a b (g.trans d) e f
def Zws:Z1 Value where
 n:=1;ag:=false;rel:=λ_ c v=>c=[v]/\v.oneCell'=true;mono:=λ_ a=>a;len:=λa=>by rw[a.1];rfl
 one:=λ_=>rfl;cell:=λa v b=>by rw[a.1]at b;simp at b;subst b;exact a.2
inductive yN{α:Type}(Γ:YG)(E:List YC)(R:Z1 α):Nat->List (Nat×Operand)->List α->Prop|nil{k:Nat}:yN Γ E R k [] []|cons{k:Nat}{y:Operand}{z:α}{ps:List (Nat×Operand)}{zs:List α}:Xe Γ y (om E (R.slot z))->yN Γ E R (k+1) ps zs->yN Γ E R k ((k,y)::ps) (z::zs)
def exact(a:Act):L (Nat×Operand)->YG|[]=>[]|(_,.tmp t)::ps=>(t,val (a.tmps.getD t undef))::exact a ps|_::ps=>exact a ps
def Zec{a}{t:Nat}:∀{ps}{i},(i,Operand.tmp t)∈ps->lk (exact a ps) t=some (val (a.tmps.getD t undef))
 |(j,x)::ps,i,h=>by
  obtain d|h:=XL h;·cases d;simp[exact,JH]
  ·have c:=Zec (a:=a) h;cases x with|tmp e=>
    by_cases b:e=t;·subst b;simp[exact,JH]
    ·simp only[exact];rw[He b];exact c|_=>exact c
def yN.raw(o:E.ag=false){ps}(h:yN B F E A ps M){m c}(u:Wy m c)(k:ZS F c l)(n:QA c l)(d)(q:∀p∈ps,p∈d)(w:∀p∈ps,PH B m H p.2):KS (exact H d) Zws A ps (ps.map λp=>H.eval p.2)/\∀a b,Wy m a->ZS F a b->QA a b->Xm E a (ps.map λp=>H.eval p.2) M:=by induction h with|nil=>exact⟨.nil,λ_ _ _ _ _=>rfl⟩|@cons A y z ps M hy _ D=>
  have⟨j,I⟩:=D Zp Zp;have f:=w (A,y) Zc;have e:∀{a:YO}{v:Value},(E.slot z).p a v->E.rel a [v] z:=by intro a v hv;simpa[Z1.slot,Z1.is,o]using hv
  refine⟨.cons (λa g x=>?_) j,λa b t r s=>⟨[H.eval y],_,rfl,e (hy m H f a b t r s),Zp⟩⟩;have i:g.eval y=H.eval y:=by cases y with|tmp G=>exact x _ (Zec (q (A,.tmp G) Zc))|_=>rfl
  rw[i];exact⟨rfl,E.cell (e (hy m H f c l u k n)) (H.eval y) Zc⟩
def WJ(c:We)(o:Oper)(Γ:YG)(H:L YC)(k:C->YG)(j:C->L YC):Prop:=∀a e b g,Good a e g->c.G.p a->ZS H a e->rO o Γ a b->b.tmps.size=c.N->RS c.P (λv i=>∃h d f,Good d f i/\S9 (k h) d (b.put o.dst v)/\ZS (j h) d f/\ZW g i a d e.bs f.bs) ((execOp b.eval o).run c.P g)
def WJ.frame{n:C->YG}{m}(E)(h:WJ y S B F n m):WJ y S B (F++E) n λi=>m i++E:=by
 intro K hs r q f w I D A;obtain⟨t,d,rfl,G,H⟩:=ZS.split I;refine RS.mono (h K t r q (Good.sub (hs:=d) (f.perm Wr)) w G D A)<|λv N⟨i,L,u,g,z,J,e⟩=>?_;have l:=f.nodup;rw[Hp.Wo,T5]at l;have j:=λc a x=>l.2.2 c x c a rfl;have k:∀c∈Hp.bs d,c<q.heap.size:=λc a=>f.P6 (by rw[Hp.Wo];exact Ym (.inr a));refine⟨i,L,u++d,⟨g.mem,?_,?_,?_⟩,z,ZS.append J (H.mono e.le),by rw[Hp.Wo,Hp.Wo];exact e.wide _⟩
 ·rw[Hp.Wo,T5];refine⟨g.nodup,l.2.1,λc a M o s=>?_⟩;subst s;obtain h|h:=e.own c a;·exact j c o h
  ·have:=k c o;omega
 ·intro b hx;obtain hx|hx:=ZY hx;·exact g.Xb b hx
  ·have a:b.1∈Hp.bs d:=Ol ⟨b,hx,rfl⟩;rw[(e.Vu b.1 (k _ a) (j _ a)).1];exact f.Xb b (Ym (.inr hx))
 ·intro b hx p;obtain hx|hx:=ZY hx;·exact g.free b hx p
  ·have a:b.1∈Hp.bs d:=Ol ⟨b,hx,rfl⟩;rw[(e.Vu b.1 (k _ a) (j _ a)).2];exact f.free b (Ym (.inr hx)) p
structure SK where
 ν:Type
 E:ν->List YC
 V:ν->YG
def SK.of(E:L YC):SK:=⟨Unit,λ_=>E,λ_=>[]⟩
structure L2 where
 AL:List YC
 st:List (Nat×SK)
def iG(X:Nat->Bool)(s:SK):L (Nat×SK)->SK|[]=>s|(k,s')::r=>bif X k then iG X s' r else s
def L2.at(X:Nat->Bool)(a:L2):SK:=iG X (.of a.AL) a.st
def IC(d:SK->L YC->Prop)(X:Nat->Bool):L L2->L (L YC)->Prop|[],a=>a=[]|L::e,a=>∃b c,a=b::c/\d (L.at X) b/\IC d X e c
def IC.imp{c d}{X X'}:∀{a}{b},(∀L∈a,∀E,c (L.at X) E->d (L.at X') E)->IC c X a b->IC d X' a b|[],_,_,h=>h|L::a,b,h1,⟨E,f,e,h2,h⟩=>⟨E,f,e,Zp,IC.imp Zp h⟩
def IC.pick{n}{X}:∀{f}{k}{p:Nat}{d},IC n X f k->f[p]?=some d->∃E R,k.flatten.Perm (E++R)/\n (d.at X) E/\∀{i}{X'}(b),(∀q a,q≠p->f[q]?=some a->∀E,n (a.at X) E->i (a.at X') E)->i (d.at X') b->∃c,c.flatten.Perm (b++R)/\IC i X' f c|[],_,p,d,_,g=>by simp at g|u::f,k,p,d,⟨E,c,e,r,h⟩,g=>by subst e;cases p with|zero=>simp at g;subst g;refine⟨E,c.flatten,by rw[Iq],r,?_⟩;intro i X' b j l;refine⟨b::c,by rw[Iq],_,_,rfl,l,(h.imp λa m=>?_)⟩;obtain⟨q,s⟩:=List.getElem?_of_mem m;exact j (q+1) a Y (by simpa using s)|succ p=>
   obtain⟨t,R,z,v,w⟩:=IC.pick h (by simpa using g);refine⟨t,E++R,?_,v,?_⟩;·refine(V5 E z).trans ?_;rw[<-Yc,<-Yc];exact CY R Wr
   ·intro i X' b j l;obtain⟨o,y,x⟩:=w b (λq a s m=>j (q+1) a Y (by simpa using m)) l;refine⟨E::o,(V5 E y).trans ?_,E,o,rfl,j 0 u Y Zc E r,x⟩;rw[<-Yc,<-Yc];exact CY R Wr
def ZS.perm{m}{H H'}(p:H.Perm H'):∀{hs},ZS H m hs->∃g,hs.Perm g/\ZS H' m g:=by induction p with|nil=>intro hs c;exact⟨hs,Zc,c⟩|cons t _ j=>rintro hs⟨a,b,rfl,p,e⟩;have⟨f,h,i⟩:=j e;exact⟨a++f,V5 _ h,a,f,rfl,p,i⟩|swap t v u=>rintro hs⟨a,_,rfl,p,b,d,rfl,e,s⟩;refine⟨b++(a++d),?_,b,a++d,rfl,e,a,d,rfl,p,s⟩;rw[<-Yc,<-Yc];exact CY _ Wr|trans _ _ k l=>intro hs c;have⟨a,n,q⟩:=k c;have⟨b,o,r⟩:=l q;exact⟨b,n.trans o,r⟩
inductive ET:SK->List (Nat×SK)->Nat->SK->SK->Prop|here{s s':SK}{k:Nat}{r:List (Nat×SK)}:ET s ((k,s')::r) k s s'|next{s s1 t t':SK}{k k1:Nat}{r:List (Nat×SK)}:ET s1 r k t t'->ET s ((k1,s1)::r) k t t'
def Zcf(a:L Oper)(o:Oper)(Γ:YG):Prop:=o.guard=none\/rB a o Γ true
inductive RL(c:We)(full:List Oper)(H:List YC)(Ls:List L2):Nat->List Oper->YG->List Wh->Prop|nil{k:Nat}{Γ:YG}:RL c full H Ls k [] Γ []|read{k:Nat}{o:Oper}{os:List Oper}{Γ:YG}{s:Wh}{σ:List Wh}:(Ls.all λL=>L.st.all λx=>!Nat.beq x.1 k)=true->KY c full H o Γ s->RL c full H Ls (k+1) os (push o.dst s Γ) σ->RL c full H Ls k (o::os) Γ (s::σ)|pre(p:Nat){L:L2}{k k1:Nat}{s1:SK}{r:List (Nat×SK)}{o o1:Oper}{os:List Oper}{Γ:YG}{s:Wh}{σ:List Wh}:(Ls.all λL=>L.st.all λx=>!Nat.beq x.1 k)=true->Ls[p]?=some L->L.st=(k1,s1)::r->full[k1]?=some o1->(UL o1).any (Nat.beq k)=true->KY c full (L.AL++H) o Γ s->RL c full H Ls (k+1) os (push o.dst s Γ) σ->RL c full H Ls k (o::os) Γ (s::σ)|step(p:Nat){L:L2}{k:Nat}{t t':SK}{o:Oper}{os:List Oper}{Γ:YG}{s:Wh}{σ:List Wh}:Ls[p]?=some L->ET (.of L.AL) L.st k t t'->Zcf full o Γ->(∀ν:t.ν,∃(ι:Type)(V2:ι->YG)(up:ι->t'.ν),WJ c o (t.V ν++Γ) (t.E ν++H) V2 (λi=>t'.E (up i)++H)/\(∀i,t'.V (up i)=V2 i++t.V ν)/\(∀i m a,S9 (V2 i) m a->∀d,o.dst=some d->s.p m (a.tmps.getD d undef))/\∀i d s',lk (V2 i) d=some s'->o.dst=some d)->RL c full H Ls (k+1) os (push o.dst s Γ) σ->RL c full H Ls k (o::os) Γ (s::σ)
def RL.at{c}{j}{H}{w}{k}{l}{Γ}{σ}(h:RL c j H w k l Γ σ):∀i o,l[i]?=some o->∃s f,σ[i]?=some s/\(∀t,lk f t=U8 l σ Γ (λ_=>true) i t)/\((w.all λb=>b.st.all λx=>!Nat.beq x.1 (k+i))=true/\(KY c j H o f s\/∃(p:Nat)(b:L2)(z:Nat)(F:SK)(r:L (Nat×SK))(A:Oper),w[p]?=some b/\b.st=(z,F)::r/\j[z]?=some A/\(UL A).any (Nat.beq (k+i))=true/\KY c j (b.AL++H) o f s)\/∃(p:Nat)(b:L2)(t g:SK),w[p]?=some b/\ET (.of b.AL) b.st (k+i) t g/\Zcf j o f/\∀ν,∃(I:Type)(y:I->YG)(G:I->g.ν),WJ c o (t.V ν++f) (t.E ν++H) y (λi=>g.E (G i)++H)/\(∀i,g.V (G i)=y i++t.V ν)/\(∀i m a,S9 (y i) m a->∀d,o.dst=some d->s.p m (a.tmps.getD d undef))/\∀i d s',lk (y i) d=some s'->o.dst=some d):=by induction h with
 |nil=>intro i o h;simp at h|@read k o os Γ s σ B h1 h2 v=>intro i p e;cases i with|zero=>simp only[KN,Bc]at e;subst e;exact⟨s,Γ,rfl,λt=>rfl,.inl ⟨B,.inl h1⟩⟩|succ i=>obtain⟨s',f,u,q,n⟩:=v i p (by simpa using e);refine⟨s',f,by simpa using u,λt=>by rw[q t,Dg],?_⟩;rw[show k+(i+1)=k+1+i by omega];exact n
 |@pre p b k z F r o A os Γ s σ B C D K J h1 h2 v=>intro i E e;cases i with|zero=>simp only[KN,Bc]at e;subst e;exact⟨s,Γ,rfl,λt=>rfl,.inl ⟨B,.inr ⟨p,b,z,F,r,A,C,D,K,J,h1⟩⟩⟩|succ i=>obtain⟨s',f,u,q,n⟩:=v i E (by simpa using e);refine⟨s',f,by simpa using u,λt=>by rw[q t,Dg],?_⟩;rw[show k+(i+1)=k+1+i by omega];exact n
 |@step p b k t g o os Γ s σ C D hg M h2 v=>intro i E e;cases i with|zero=>simp only[KN,Bc]at e;subst e;exact⟨s,Γ,rfl,λt=>rfl,.inr ⟨p,b,t,g,C,D,hg,M⟩⟩|succ i=>obtain⟨s',f,u,q,n⟩:=v i E (by simpa using e);refine⟨s',f,by simpa using u,λt=>by rw[q t,Dg],?_⟩;rw[show k+(i+1)=k+1+i by omega];exact n
def RL.len{b}{l}(h:RL y c F b A l B P):l.length=P.length:=by induction h with|nil=>rfl|read _ _ _ a=>grind|pre _ _ _ _ _ _ _ _ a=>simp[a]|step _ _ _ _ _ _ a=>simp[a]
def jY(l:L Oper)(X:Nat->Bool)(V:YG):Prop:=∀c d,lk V c=some d->∃a b,l[a]?=some b/\X a=true/\b.dst=some c
def ET.mem{s}{a}{k}{t b}(h:ET s a k t b):∃x∈a,x.1=k:=by induction h with|here=>exact⟨_,XQ,rfl⟩|next _ c=>grind
def jY.mono{l:L Oper}{X'}(h:∀k,T k=true->X' k=true)(e:jY l T B):jY l X' B:=λi g a=>by have⟨k,f,b,c,d⟩:=e i g a;exact⟨k,f,b,h _ c,d⟩
def Zod{c:We}{Q:Exit->Act->World->Prop}{l rest:L Oper}{Inv:(Nat->Bool)->Act->World->Prop}(A:Mf (l++rest) l.length=true)(x6:∀(X)(i)(o)(K)(a)(w),l[i]?=some o->X i=false->(∀j∈UL o,X j=true)->(∀j p,l[j]?=some p->X j=true->∀e∈UL p,X e=true)->Inv X a w->(∀a' w',Inv (Uo X i) a' w'->K a' w')->wpOpIn (WR c.ro) 0 c.P (l++rest).toArray Q i K a w)(x1:∀X a w,(∀i,i<l.length->X i=true)->Inv X a w->wpListIn (WR c.ro) 0 c.P (l++rest).toArray Q rest a w):∀(q)(listed)(a)(w),listed.size=(l++rest).length->left (l++rest).length (WE listed)<=q->((∀i,l.length<=i->WE listed i=false)/\(∀j p,l[j]?=some p->WE listed j=true->∀e∈UL p,WE listed e=true)/\Inv (WE listed) a w\/∃p,l.length<=p/\p<=(l++rest).length/\(∀i,i<(l++rest).length->WE listed i=decide (i<p))/\wpListIn (WR c.ro) 0 c.P (l++rest).toArray Q ((l++rest).drop p) a w)->wpAnyIn (WR c.ro) 0 c.P .any (l++rest).toArray Q q listed a w:=by
 have conv:∀{listed:Array Bool}{a:Act}{w:World},(∀i,l.length<=i->WE listed i=false)->Inv (WE listed) a w->(∀i,i<l.length->WE listed i=true)->∃p,l.length<=p/\p<=(l++rest).length/\(∀i,i<(l++rest).length->WE listed i=decide (i<p))/\wpListIn (WR c.ro) 0 c.P (l++rest).toArray Q ((l++rest).drop p) a w:=by
  intro listed a w f g v;refine⟨l.length,YA _,Zc,λi _=>?_,?_⟩
  ·by_cases d:i<l.length;·simp[d,v i d]
   ·simp[d,f i Y]
  ·rw[kS];·exact x1 _ a w v g
   ·rfl
 intro q;induction q with
 |zero=>
  intro listed a w z N C;have s:=Zfc (Nat.le_zero.1 N);have y:Region.ready .any (l++rest).toArray listed=[]:=by rw[ZkC];intro i d;obtain⟨o,n,m,_⟩:=(mem_ready z).1 d;rw[s i (X8 n).1]at m;cases m
  refine⟨y,?_⟩;obtain⟨p,R,S,k,u⟩:∃p,l.length<=p/\p<=(l++rest).length/\(∀i,i<(l++rest).length->WE listed i=decide (i<p))/\wpListIn (WR c.ro) 0 c.P (l++rest).toArray Q ((l++rest).drop p) a w:=by
   obtain⟨f,_,g⟩|h:=C;·exact conv f g λi d=>s i XV
   ·exact h
  have J:p=(l++rest).length:=by
   obtain h|h:=Rn p (l++rest).length;·have:=k p h;rw[s p h]at this;simp at this
   ·omega
  rwa[J,jg]at u|succ q U=>
  intro listed a w z N C;have x0:Region.ready .any (l++rest).toArray listed=[]->∀i,i<(l++rest).length->WE listed i=true:=by intro y i;induction i using Nat.strongRecOn with|_ i x7=>intro d;cases m:WE listed i with|true=>rfl|false=>have:i∈Region.ready .any (l++rest).toArray listed:=(mem_ready z).2 ⟨(l++rest)[i],Ve d,m,λj b=>by have D:=qC A (Ve d) j b;exact x7 j D Y⟩;rw[y]at this;cases this
  refine⟨λy=>?_,λi d=>?_⟩
  ·have s:=x0 y;obtain⟨p,R,S,k,u⟩:∃p,l.length<=p/\p<=(l++rest).length/\(∀i,i<(l++rest).length->WE listed i=decide (i<p))/\wpListIn (WR c.ro) 0 c.P (l++rest).toArray Q ((l++rest).drop p) a w:=by
    obtain⟨f,_,g⟩|h:=C;·exact conv f g λi d=>s i XV
    ·exact h
   have J:p=(l++rest).length:=by
    obtain h|h:=Rn p (l++rest).length;·have:=k p h;rw[s p h]at this;simp at this
    ·omega
   rwa[J,jg]at u
  ·obtain⟨o,n,m,B⟩:=(mem_ready z).1 d;have F:=(X8 n).1;have T:(listed.setIfInBounds i true).size=(l++rest).length:=by simpa using z
   have x:=ZcQ (listed:=listed) (i:=i) Y;have O:left (l++rest).length (WE (listed.setIfInBounds i true))<=q:=by rw[x];have:=Zfb F m;omega
   have M:(∃p,l.length<=p/\p<=(l++rest).length/\(∀i,i<(l++rest).length->WE listed i=decide (i<p))/\wpListIn (WR c.ro) 0 c.P (l++rest).toArray Q ((l++rest).drop p) a w)->wpOpIn (WR c.ro) 0 c.P (l++rest).toArray Q i (wpAnyIn (WR c.ro) 0 c.P .any (l++rest).toArray Q q (listed.setIfInBounds i true)) a w:=by
    rintro⟨p,R,S,k,u⟩;have x9:¬i<p:=by intro h;have:=k i F;rw[m]at this;simp[h]at this
    have x5:p=i:=by
     obtain h|h:=Rn p i
     ·have:=qE A n Y (X:=WE listed) B λj V b r e t=>by
       have G:=(X8 b).1;rw[k j G]at r;have H:j<p:=by simpa using r
       have x8:=qC A b e t;rw[k e Y];simp;omega p h;rw[k p Y]at this;simp at this
     ·omega
    subst x5;rw[KL F,(X8 n).2]at u;have x4:(l++rest).toArray[p]?=some o:=by simpa using n
    have:wpOpIn (WR c.ro) 0 c.P (l++rest).toArray Q p (wpListIn (WR c.ro) 0 c.P (l++rest).toArray Q ((l++rest).drop (p+1))) a w:=by unfold wpOpIn;rw[x4];exact u
    refine wpOpIn_mono (λa' w' W=>U _ a' w' T O (.inr ⟨p+1,Y,Y,λj b=>?_,W⟩)) this;rw[x];by_cases H:j=p;·simp[Uo,H]
    ·simp only[Uo,Ys H,k j b];congr 1;rw[eq_iff_iff];omega
   obtain⟨f,g,v⟩|h:=C
   ·by_cases x2:i<l.length
    ·have P:l[i]?=some o:=by rwa[VE x2]at n
     refine x6 _ _ _ _ _ _ P m B g v λa' w' Z=>U _ a' w' T O (.inl ⟨λj b=>?_,λj p I b e t=>?_,by rw[x];exact Z⟩);·rw[x];have:j≠i:=Y;simp only[Uo,Ys this];exact f j b
     ·rw[x]at b⊢;simp only[Uo]at b⊢;split;·rfl
      ·by_cases D:j=i;·subst D;rw[P]at I;cases I;exact B e t
       ·rw[Ys D]at b;exact g j p I b e t
    ·refine M (conv f v λj b=>qE A n Y (X:=WE listed) B (λE V x3 r e t=>?_) j Y);have G:E<l.length:=by
      obtain h|h:=Rn E l.length;·exact h
      ·rw[f E h]at r;cases r
     exact g E V (by rwa[VE G]at x3) r e t
   ·exact M h
def L2.fin(a:L2):SK:=iG (λ_=>true) (.of a.AL) a.st
def Zsu{p}(c:R.bits=A)(hs:R.signed=false)(hx:Xe B K ((un R A).slot p)):PJ y ⟨k,.unOp .neg b K,f,I,z,h⟩ B F ((un R A).slot (-p)):=Nz λe g a i _ _ _ d=>by
  refine⟨.int R (R.wrap (0-p.toNat)),by simp[execOp,Uu (hx e a (d K Yr)),Op.unary,Op.intArith],WV.2 ?_⟩;rw[Int.zero_sub,ME c hs];have:BitVec.ofInt A (-p.toNat)=-p:=by apply BitVec.eq_of_toInt_eq;rw[BitVec.toInt_ofInt,BitVec.toInt_neg];simp[BitVec.toInt_eq_toNat_bmod]
  rw[this]
def run_freeze{v}(a:L Nat)(c:Ra F (own f E v M) o)(e:∀t∈a,jV B t (ov v))(r:Rt y x i (a.map (λt=>(t,(sl E).slot M))++B) o):Rt y x i B F:=λb g d=>r b g (d.freeze _ c e)
def Q4.append{m}:∀{ss b}{vs a},Q4 m ss vs->Q4 m b a->Q4 m (ss++b) (vs++a)|[],_,_,_,rfl,k=>by exact k|s::ss,_,_,_,⟨v,a,rfl,p,q⟩,k=>by exact⟨v,_,rfl,p,Q4.append q k⟩
def str:Z1 (L (ZO 8))where
 n:=1;ag:=false;rel:=λ_ d f=>∃a:ByteArray,d=[.string a]/\a.data.toList.map UInt8.toBitVec=f;mono:=λ_ e=>e;len:=λ⟨a,b,_⟩=>by rw[b];rfl
 cell:=λ⟨a,b,_⟩v c=>by rw[b]at c;simp at c;subst c;rfl
 one:=λ_=>rfl
def bytes_inj{a b:ByteArray}(h:a.data.toList.map UInt8.toBitVec=b.data.toList.map UInt8.toBitVec):a=b:=by
 have:=by refine List.map_inj_right (λd e c=>UInt8.toBitVec_inj.1 c)|>.1 h
 cases a;simp_all
def lK{p}{m}(hx:Xe B K (str.slot p))(a:PH B m H K):∃s,H.eval K=.string s/\s.data.toList.map UInt8.toBitVec=p:=by obtain⟨s,b,c⟩:=hx m H a;grind
def ZwW(c:G.underlying f=some .string)(a b)(w):(binOp .eql f (.string a) (.string b)).run G w=.ok (.bool (a==b)) w:=by simp[binOp,Op.equal,Op.maxDepth,YF,Op.equalIn,W8 _,Y3,Op.stringOp,Xz,beq_toListBytes]
def Zsk{c:We}{y}{p q}{ty}(g:c.P.underlying f=some .string)(hx:Xe B K (str.slot p))(i:Xe B y (str.slot q)):PJ c ⟨k,.binOp .eql f K y b,ty,I,z,h⟩ B F (bl.slot (decide (p=q))):=Nz λr o j u _ _ _ a=>by
  have⟨s,d,m⟩:=lK hx (a K Yr);have⟨t,e,n⟩:=lK i (a y Yr);refine⟨.bool _,by simp[execOp,d,e,YF,ZwW g,Y3,Xz];rfl,Qd ?_⟩;congr 1;rw[CW];simp;rw[Zbn];constructor;·grind
  ·exactλl=>bytes_inj Zp
def exr(R:Z1 C)(cs:L Value):Z1 C where n:=R.n;ag:=R.ag;rel:=λe b f=>b=cs/\R.rel e b f;mono:=λd⟨c,a⟩=>⟨c,R.mono d a⟩;len:=λ⟨_,a⟩=>R.len a;cell:=λ⟨_,a⟩=>R.cell a;one:=R.one
inductive XW:List YC->List YC->Prop|refl{H:List YC}:XW H H|ex{α:Type}{b:Nat}{T:TypeId}{R:Z1 α}{cs:List Value}{x:α}{H H':List YC}:XW H H'->XW (box b T (exr R cs) x::H) (box b T R x::H')|wR{e:YC}{H H':List YC}:XW H H'->XW (e::H) (e::H')
def XW.sat(h:XW F o):∀{m}{hs},ZS F m hs->ZS o m hs:=by induction h with|refl=>simp|ex _ d=>rintro m hs⟨b,c,a,⟨f,g,h⟩,e⟩;exact⟨b,c,a,⟨f,g,h.2⟩,d e⟩|wR _ d=>rintro m hs⟨b,c,a,i,e⟩;exact⟨b,c,a,i,d e⟩
def Zm9{a}{v}{o}(h:D.cell? a=some v)(b:D.heap[a.block]?=some o):o.isCells=true:=by unfold World.cell? at h;rw[b]at h;cases o<;>first|rfl|grind
def Zna{o o'}{a}{v}(h:D.cell? a=some v)(d:D.heap[A]?=some o)(e:o.isCells=false):(D.putObj A o').cell? a=some v:=by
 have c:a.block≠A:=λb=>by have:=Zm9 h (by rw[b];exact d);grind
 have:(D.putObj A o').heap[a.block]?=D.heap[a.block]?:=Bh c;unfold World.cell? at h⊢;rw[this];exact h
def Good.ne{m}(c:Good m l D){o}(d:D.heap[A]?=some o)(b:o.isCells=false):A∉l.bs:=by intro a;obtain⟨f,e,rfl⟩:=VR a;have:=c.Xb f e;rw[d]at this;have:=X9 this;subst this;cases b
def Good.putObj{m}(a:Good m l D){o o'}(e:D.heap[A]?=some o)(c:o.isCells=false):Good m l (D.putObj A o')where
 mem:=λf h v b=>Zna (a.mem f h v b) e c;nodup:=a.nodup;Xb:=λb d=>by rw[Bh λg=>a.ne e c (by rw[<-g];exact VV d)];exact a.Xb b d
 free:=a.free
abbrev yv(l:Nat):Value:=.func (.yield l) #[] #[]
def ZW.round{m}{i j k}{c e f}{l s}(h1:ZW D d i j c e)(h2:ZW (d.putObj A s) m j k e f)(o:D.heap[A]?=some l)(t:A∉c):ZW D (m.putObj A l) i k c f:=by
 have p:=h2.size;rw[sO]at p;have u:=h1.size;refine⟨h2.os.trans h1.os,h2.tape.trans h1.tape,h2.output.trans h1.output,by rw[sO];omega,λa n g=>?_,λa h=>?_,h1.le.trans h2.le⟩
 ·have q:=h1.Vu a n g;have r:=h2.Vu a (by rw[sO];omega) λb=>(h1.own a b).elim g Zp;refine⟨?_,Zp⟩;by_cases b:a=A;·subst b;rw[World.putObj_heap_same Y,o]
  ·rw[Bh b,r.1,Bh b];exact q.1
 ·obtain h|h:=h2.own a h;·exact h1.own a h
  ·rw[sO]at h;exact .inr Y
def ZW.behind{g}{m f}{b c}{o}(i:∀k,k<D.heap.size->d.heap[k]?=D.heap[k]?)(n:d.os=D.os)(p:d.tape=D.tape)(l:d.output=D.output)(r:D.heap.size<=d.heap.size)(hL:D.heap.size<=A)(h:ZW d g m f b c):ZW D (g.putObj A o) m f b c:=by have q:=h.size;refine⟨h.os.trans n,h.tape.trans p,h.output.trans l,by rw[sO];omega,λk a j=>?_,λk a=>(h.own k a).imp id Zp,h.le⟩;have e:=h.Vu k Y j;exact⟨by rw[Bh Y,e.1,i k a],e.2⟩
def ZwR(c:US G f A=true)(a)(n cap)(w):(Builtin.cap_ #[f] b #[.slice a n cap]).run G w=.ok (goInt cap) w:=by have⟨e,d,_⟩:=FZ c;simp[Builtin.cap_,W8 d]
section
variable {c:We}{full:Array Oper}{l:L Oper}{Γ Γ':YG}{H H':L YC}{K:Act->World->Prop}{d:Tmp}{od:Zg Tmp}{ty:TypeId}{pos:String}{aft:Array Edge}{g:Zg (Nat×Bool)}{α β:Type}
def SX{α β:Type}(R:Z1 α)(x:α)(off:Nat)(a:Z1 β)(z:β)(f:Z1 C)(i:C):Prop:=f.n=R.n/\off+a.n<=R.n/\∀e b h,R.rel e b x->a.rel e h z->f.rel e (b.take off++h++b.drop (off+a.n)) i
inductive yO(P:Program)(T:TypeId)(Γ:YG):{α α':Type}->(R:Z1 α)->α->List (Nat×Operand)->(R':Z1 α')->α'->Prop|nil{α:Type}{R:Z1 α}{x:α}:yO P T Γ R x [] R x|cons{α α' β α1:Type}{i off:Nat}{y:Operand}{S:Z1 β}{z:β}{ps:List (Nat×Operand)}{R:Z1 α}{x:α}{R1:Z1 α1}{x1:α1}{R':Z1 α'}{r:α'}:Xe Γ y (S.slot z)->SX R x off S z R1 x1->placeOf P T i=some (off,S.n)->yO P T Γ R1 x1 ps R' r->yO P T Γ R x ((i,y)::ps) R' r
def yO.fill{P}{T}{q}{R}{f}{m}{a}{ps}{x:α}{r:q}(h:yO P T Γ R x ps f r):∀{cs}{e},R.rel m cs x->(∀i p,placeOf P T i=some p->e i=some p)->(∀p∈ps,PH Γ m a p.2)->∃j,Instr.fill e cs.toArray (ps.map λp=>(p.1,a.eval p.2))=some j.toArray/\f.rel m j r:=by induction h with|nil=>intro cs e b _ _;exact⟨cs,rfl,b⟩|@cons α q β I i off y S z ps R x R1 G f r hy n u _ v=>intro cs e b o E;have⟨s,t,k⟩:=Z1.fY (hy m a Xk);have A:=S.len k;have w:=R.len b;have D:=n.2.1;have⟨j,B,F⟩:=v (n.2.2 m _ _ b k) o Zp;simp[Wb,Instr.fill,o i _ u,t];have C:=wo off s 0 cs Y;grind
end
def RW(e:YC)(c:Hp):YC:=⟨λf b=>e.p f b/\b=c,λd a=>⟨e.mono d a.1,a.2⟩⟩
inductive LU(e:YC)(Γ:YG):YG->Prop|nil:LU e Γ []|cons{t:Nat}{s s0:Wh}{U:YG}:lk Γ t=some s0->(∀m v,s0.p m v->(om [e] s).p m v)->LU e Γ U->LU e Γ ((t,s)::U)
def LU.Z9{e}{U}(h:LU e B U){m M}(b:Wy m M)(f:e.p M l)(g:QA M l)(c:∀s,lk B A=some s->s.p m (H.tmps.getD A undef)):∀s,lk (U++B) A=some s->s.p M (H.tmps.getD A undef):=by induction h with|nil=>exactλs e=>s.mono b (c s e)|@cons n s' s0 U i j _ k=>
  intro s a;by_cases d:n=A;·subst d;rw[Oj,JH]at a;cases a;exact j _ _ (c _ i) M _ b ⟨l,[],Zc,f,rfl⟩ g
  ·rw[Oj,He d]at a;exact k s a
def ZoH{m}{h2}(c:Good m (l++h2) D):Good (ext m l) h2 D/\Wy m (ext m l)/\QA (ext m l) l:=by
 have d:=c.nodup;rw[Hp.Wo,T5]at d;have e:Good m _ D:=⟨c.mem,d.1,λb a=>c.Xb b Zp,λb a=>c.free b (by simp[a])⟩;refine⟨⟨e.ext.mem,d.2.1,λb a=>c.Xb b (by simp[a]),λb a i=>?_⟩,Zed e,?_⟩;·rw[qY λg=>d.2.2 _ g _ (VV a) rfl];exact c.free b (by simp[a]) i
 ·rintro⟨k,j,n⟩h o v f;rw[Qc,Zee d.1 h];exact f
def Bk(e:YC)(b o:Nat)(row:L Value):Prop:=∀a c,e.p a c->QA a c->At a b o row
def Bk.DN{e}{row}(h:Bk e A r row)(k n):Bk e A (r+k) ((row.drop k).take n):=λc d a b=>(h c _ a b).DN k n
def Bk.cells{e}{m}{row}(h:Bk e A r row)(c:Good m l D)(n:ZS F m l)(g:Ra F e o)(j)(v)(a:row[j]?=some v):D.cell? ⟨A,r+j,none⟩=some v:=by have⟨p,q,k,b,s⟩:=n.pick g;have⟨d,i,f⟩:=ZoH (c.perm k);exact d.mem _ _ _ (h _ _ (e.mono i b) f j v a)
def slH(e:YC)(R:Z1 C):Z1 (L C)where
 n:=1;ag:=false;rel:=λo i d=>∃a b,i=[.slice a d.length b]/\d.length<=b/\(d=[]\/∃c f g,a=some ⟨c,f,none⟩/\Xm R o g d/\Bk e c f g);mono:=λm⟨a,b,e,l,k⟩=>⟨a,b,e,l,k.imp id λ⟨c,f,g,j,p,q⟩=>⟨c,f,g,j,p.mono m,q⟩⟩;len:=λ⟨a,b,e,_,_⟩=>by rw[e];rfl
 cell:=λ⟨a,b,e,_,_⟩v h=>by rw[e]at h;simp at h;subst h;rfl
 one:=λ_=>rfl
def LE(e:YC)(R b:Z1 C):Prop:=b.ag=R.ag/\∀f c g a d,Wy f a->e.p a d->QA a d->R.rel f c g->b.rel a c g
def LE.refl{e}(R:Z1 C):LE e R R:=⟨rfl,λ_ _ _ _ _ b _ _ a=>R.mono b a⟩
def LE.sl{α:Type}{e}(R:Z1 α):LE e (slH e R) (sl R):=⟨rfl,λr p t s q j h i⟨a,c,f,g,k⟩=>⟨a,c,f,g,k.imp id λ⟨b,l,o,d,m,n⟩=>⟨b,l,o,d,m.mono j,n _ _ h i⟩⟩⟩
def LE.prod{α β:Type}{e}{R a:Z1 α}{b c:Z1 β}(h:LE e R a)(k:LE e b c):LE e (prod R b) (prod a c):=⟨rfl,λq o s r p g d f⟨i,j,l,m,n⟩=>⟨i,j,l,h.2 _ _ _ _ _ g d f m,k.2 _ _ _ _ _ g d f n⟩⟩
def LE.om{e}{b}(h:LE e E b){m}{v}(hv:(E.slot N).p m v):(Go.Sl.om [e] (b.slot N)).p m v:=by
 intro o n d j a;obtain⟨k,l,rfl,c,rfl⟩:=j;rw[XX]at a;simp[Z1.slot,Z1.is,h.1]at hv⊢;split at hv;·have⟨f,g,i⟩:=hv;exact⟨f,g,h.2 _ _ _ _ _ d c a i⟩
 ·exact h.2 _ _ _ _ _ d c a hv
def zG{b:Frame}{k:L Item}{cs:L Frame}{c}:step G (lone (b.atR H (.code (.scope c)::k)) cs D)=.next (lone (b.atR H (.code c::.inScope c::k)) cs D):=step_lone_go (by simp[stepG,stepG.exec,Frame.atR])
def ZxF{b:Frame}{k:L Item}{cs:L Frame}{c}:step G (lone (b.atR H (.inScope c::k)) cs D)=.next (lone (b.atR H k) cs D):=step_lone_go (by simp[stepG,stepG.exec,Frame.atR])
def ZAJ{F}{c}(h:c.wpIn F A G (Exit.noGoto x) H D):(Code.scope c).wpIn F A G x H D:=by
 intro k j t q g i;have a:(lone (k.atR H (.code (.scope c)::j)) _ D).fenced G F:=fenced_calm g i rfl
 obtain⟨l,e,f,d,b⟩:=h k _ _ q g i;cases l with|normal=>exact⟨.normal,e,f,d,.head a zG (StepsIn.trans b (.one (fenced_calm g i rfl) ZxF))⟩|exit id=>
  have u:exitTo id (.inScope c::j)=exitTo id j:=by simp[exitTo]
  exact⟨_,e,f,d,λv o=>.head a zG (b.1 _ Zp),λp o=>let⟨r,m,n⟩:=b.2 p Zp;⟨r,m,.head a zG n⟩⟩|goto w=>exact d.elim|ret=>exact⟨_,e,f,d,.of_steps (.one a zG) b⟩|panic s=>exact⟨_,e,f,d,.of_steps (.one a zG) b⟩|outgrown=>exact⟨_,e,f,d,.of_steps (.one a zG) b⟩
def VT{α:Type}(R:Z1 α)(m:YO):L Value->L (Zg α)->Prop|cs,[]=>cs=[]|cs,z::zs=>∃a b,cs=a++b/\a.length=R.n/\(∀c,z=some c->R.rel m a c)/\VT R m b zs
def VT.mono{α:Type}{R:Z1 α}{m b}(a:Wy m b):∀{zs}{cs},VT R m cs zs->VT R b cs zs|[],_,h=>h|_::_,_,⟨c,d,e,l,p,q⟩=>⟨c,d,e,l,λg f=>R.mono a (p g f),VT.mono a q⟩
def VT.length{α:Type}{R:Z1 α}{m}:∀{zs}{cs},VT R m cs zs->cs.length=zs.length*R.n|[],_,rfl=>Zc|_::zs,_,⟨c,a,rfl,l,p,q⟩=>by rw[YM,l,VT.length q,Wl,SE,O7,yD]
def VT.append{α:Type}{R:Z1 α}{m}:∀{xs ys}{cs ds},VT R m cs xs->VT R m ds ys->VT R m (cs++ds) (xs++ys)|[],_,_,_,rfl,k=>by simpa using k|_::_,_,_,_,⟨c,a,e,l,p,q⟩,k=>⟨c,a++_,Zp,l,p,VT.append q k⟩
def VT.split{α:Type}{R:Z1 α}{m}:∀{xs ys}{cs},VT R m cs (xs++ys)->∃a b,cs=a++b/\VT R m a xs/\VT R m b ys|[],_,cs,h=>⟨[],cs,rfl,rfl,h⟩|_::_,_,_,⟨c,g,e,l,p,q⟩=>by have⟨a,b,i,d,f⟩:=VT.split q;exact⟨c++a,b,Zp,⟨c,a,rfl,l,p,d⟩,f⟩
def VT.cut{m}{zs}(k)(h:VT E m p zs):VT E m (p.take (k*E.n)) (zs.take k)/\VT E m (p.drop (k*E.n)) (zs.drop k):=by
 rw[<-TM k zs]at h;obtain⟨d,f,rfl,a,e⟩:=h.split;obtain hk|hk:=jm k zs.length;·have b:=a.length;grind
 ·have b:=a.length;have c:=e;rw[QZ hk]at c⊢;subst c;rw[UF,jp hk]at b;have:d.length<=k*E.n:=by rw[b];exact Q0 _ hk
  rw[XX,UT this,QZ this];exact⟨a,rfl⟩
def VT.of{α:Type}{R:Z1 α}{m}:∀{xs}{cs},Xm R m cs xs->VT R m cs (xs.map some)|[],_,h=>h|_::_,_,⟨c,a,e,p,q⟩=>⟨c,a,e,R.len p,Zp,VT.of q⟩
def VT.to{α:Type}{R:Z1 α}{m}:∀{xs}{cs},VT R m cs (xs.map some)->Xm R m cs xs|[],_,h=>h|_::_,_,⟨c,a,e,l,p,q⟩=>⟨c,a,e,p _ rfl,VT.to q⟩
def VT.dJ{α:Type}{R:Z1 α}{m}:∀(k){cs},cs.length=k*R.n->VT R m cs (List.replicate k none)|0,cs,h=>show cs=[]by grind|k+1,cs,h=>by rw[SE]at h;exact⟨cs.take R.n,cs.drop R.n,Zc,Zp,Zc,VT.dJ k Zp⟩
def Jg(b:Nat)(T:TypeId)(R:Z1 C)(zs:L (Zg C)):YC where p:=λg f=>∃a,f=[(b,T,a)]/\VT R g a zs;mono:=λe⟨a,c,d⟩=>⟨a,c,d.mono e⟩
def Zry{v}{m}(h:(own f E v M).p m l)(e:M≠[]):∃b k,v=.slice (some ⟨b,0,none⟩) M.length (M.length+k)/\(Jg b f E (M.map some++List.replicate k none)).p m l:=by obtain⟨b,c,n,o,j,rfl,a,g,d⟩:=own.at h e;have i:=a.length;refine⟨b,c-M.length,Zp,_,rfl,(VT.of a).append (VT.dJ _ ?_)⟩;rw[YM]at d;rw[Nat.sub_mul];omega
def Zmx{m}(h:(Jg A f E (M.map some++List.replicate r none)).p m l):(own f E (.slice (some ⟨A,0,none⟩) M.length (M.length+r)) M).p m l:=by obtain⟨e,rfl,a⟩:=h;have i:=a.length;obtain⟨b,c,rfl,d,g⟩:=a.split;refine .inr ⟨A,M.length+r,b,c,rfl,rfl,VT.to d,Zc,?_⟩;grind
def Ze3{v}(s:Ra F (own f E v M) o)(u:M≠[])(k:∀b n,v=.slice (some ⟨b,0,none⟩) M.length (M.length+n)->QB y g c B (Jg b f E (M.map some++List.replicate n none)::o) J):QB y g c B F J:=by intro d G a j z;obtain⟨m,t,D,H,r,i,p,⟨e,h,rfl,w,x⟩,q⟩:=z.pick s;have⟨b,n,A,l⟩:=Zry w u;exact k b n A d G a j ⟨m,t,D,_,r,i,p,⟨e,h,rfl,l,x⟩,q⟩
def ZwT{zs}(xs)(n)(l:Ra F (Jg A f E zs) o)(s:zs=xs.map some++List.replicate n none)(r:Rt y x i B (own f E (.slice (some ⟨A,0,none⟩) xs.length (xs.length+n)) xs::o)):Rt y x i B F:=by subst s;intro a u q;obtain⟨g,m,t,v,k,d,h,⟨b,c,rfl,e,p⟩,j⟩:=q.pick l;exact r a u ⟨g,m,t,_,k,d,h,⟨b,c,rfl,Zmx e,p⟩,j⟩
def AC{v}(h:Xe B K (ov v)):Xe B K (val v):=λc a b=>(JP.1 (h c a b)).1
def ZcI(c:We)(Γ:YG)(H:L YC)(x:Operand)(R:Z1 C)(N:Nat)(xs:L C):Prop:=∀a f b j,Good a f j->ZS H a f->PH Γ a b x->∃d k,b.eval x=.slice d N k/\(xs=[]\/∃e h i,d=some ⟨e,h,none⟩/\Xm R a i xs/\∀g v,i[g]?=some v->j.cell? ⟨e,h+g,none⟩=some v)
def Zsj{H:L YC}{od:Zg Tmp}{ty:TypeId}{pos:String}{aft:Array Edge}{g:Zg (Nat×Bool)}{o n cap}{lo hi}{p q}(hx:Xe B K (val (.slice (some ⟨j,o,none⟩) n cap)))(l:Gr B lo p)(k:Gr B hi q)(b c:Nat)(m:p.getD 0=b)(s:q.getD n=c)(h1:b<=c)(h2:c<=cap)(v:b<cap)(i:US y.P A r=true):PJ y ⟨od,.slice A K lo hi none,ty,pos,aft,g⟩ B H (val (.slice (some ⟨j,o+b*r,none⟩) (c-b) (cap-b))):=Nz λt x a u w _ _ d=>by have h:a.eval K=_:=hx t a (d K Yr);refine⟨_,by simp[execOp,h,sN,YF,am i (a:=some ⟨j,o,none⟩) (len:=n) (cap:=cap) (l.val λf e=>d f (by subst e;simp[Op.operands])) (k.val λf e=>d f (by subst e;simp[Op.operands])) Y Y Y u];rfl,?_⟩;rw[m,s,Ys Y];simp[RH,val]
def nE{sz cap}{lo hi}{p q}(hx:Xe B K (val (.slice (some ⟨r,0,none⟩) j cap)))(g:Gr B lo p)(e:Gr B hi q)(a b:Nat)(i:p.getD 0=a)(l:q.getD j=b)(h1:a<=b)(h2:b<=cap)(c:a<cap)(d:US y.P A sz=true):PJ y ⟨k,.slice A K lo hi none,f,I,z,h⟩ B F (val (.slice (some ⟨r,a*sz,none⟩) (b-a) (cap-a))):=by have:=Zsj (H:=F) (od:=k) (ty:=f) (pos:=I) (aft:=z) (g:=h) hx g e _ _ i l h1 h2 c d;rwa[Qc]at this
def ZiI{zs}(xs)(n n' a)(c:Ra F (Jg A f E zs) o)(e:zs=xs.map some++List.replicate n none)(d:n'=xs.length)(b:a=xs.length+n)(r:Rt y x i B (own f E (.slice (some ⟨A,0,none⟩) n' a) xs::o)):Rt y x i B F:=by subst d b;exact ZwT _ n c e r
section
variable {c:We}{Γ Γ':YG}{H H':L YC}{Q:Exit->Act->World->Prop}{k:L Code}
end
section
open Go.ChangeShapes Go.WideShapes Go.ChangeAt Go.RowKit
def Fu(W:World):YO:=λa b=>W.cell? ⟨a,b,none⟩
structure rf(H:Type)where
 b:DataW H->Nat
 all:List (DataW H)->Nat
 one:∀d,1<=b d
 nil:0<=all []cons:∀d r,all (d::r)=b d+all r
 slice:∀e s,all e+1<=b (.slice e s)agg:∀ps,all ps<=b (.agg ps)
section
variable {α β:Type}
def Co(f:α->Nat):List α->Nat|[]=>0|x::r=>f x+Co f r
def RR(P:Program)(T:TypeId)(R:Z1 α)(wf:α->Prop)(sz:α->Nat):Prop:=P.cellsOf T=R.n/\∀{a:Type}{h:TypeId×Value->a}{d:World}{g:Nat}{k:Nat->Bool}{j:Bool}{i:Nat}{c:List Value}{e:DataW a×List MemPlace},DataW.trod h P d g k j i T c=some e->∃b:α,R.rel (Fu d) c b/\wf b/\∀f:rf a,sz b<=f.b e.1
def CH(n:Int):Prop:=-9223372036854775808<=n/\n<9223372036854775808
def kE(_:α):Prop:=True
def tN(p:α->Prop)(l:List α):Prop:=l.length<=9223372036854775807/\∀a∈l,p a
def CI(p:α->Prop)(q:β->Prop)(x:α×β):Prop:=p x.1/\q x.2
def J2(_:α):Nat:=1
def F6(f:α->Nat)(l:List α):Nat:=Co f l+1
def F7(f:α->Nat)(g:β->Nat)(x:α×β):Nat:=f x.1+g x.2
def uJ(h:G.underlying f=some (.int .i64))(b:G.cellsOf f=1):RR G f i64 CH J2:=by refine⟨b,λ{g k o i n m l j p}d=>?_⟩;obtain⟨e,rfl,rfl,c⟩:=Zba h d;refine⟨e,rfl,?_,λa=>a.one _⟩;simp[Lit.wf,IntKind.min,IntKind.max,IntKind.bits,IntKind.signed]at c;unfold CH;omega
def bX{k}(h:G.underlying f=some (.int k))(d:G.cellsOf f=1)(e:k.bits=A)(hs:k.signed=false):RR G f (un k A) kE J2:=by
 refine⟨d,λ{j n r l q p o m s}i=>?_⟩;obtain⟨a,rfl,rfl,b⟩:=Zba h i;simp[Lit.wf,IntKind.min,IntKind.max,hs,RK,UH,YL,sP]at b;have g:(BitVec.ofInt A a).toNat=a:=by rw[<-ME e hs];unfold IntKind.wrap;simp[hs,k9,RK,UH];rw[Int.emod_eq_of_lt b.1 Y]
 exact⟨BitVec.ofInt A a,by show[Value.int k a]=[Value.int k _];rw[g],trivial,λc=>c.one _⟩
def Zix{P}{e}{R:Z1 α}{wf}{sz}(h:RR P e R wf sz){H}{enc}{w}{base}{sp}{g}{c}:∀{xs:List (DataW H×List MemPlace)}{cs},cs.length=xs.length*R.n->(∀i,i<xs.length->DataW.trod enc P w base sp g c e ((cs.drop (i*R.n)).take R.n)=xs[i]?)->∃ys,ys.length=xs.length/\Xm R (Fu w) cs ys/\(∀y∈ys,wf y)/\∀B:rf H,Co sz ys<=B.all (xs.map (·.1))
 |[],cs,a,_=>⟨[],rfl,by simpa[Xm]using a,Zc,λB=>by simp[Co]⟩|x::xs,cs,a,hx=>by
  have b:=hx 0 Zc;simp at b;obtain⟨y,j,n,f⟩:=h.2 b;simp only[Wl,SE,O7]at a;obtain⟨ys,l,k,o,d⟩:=Zix h (xs:=xs) (cs:=cs.drop R.n) Zp λi m=>by have:=hx (i+1) XV;rw[TD];simp at this;rw[<-this,SE,O7,yD R.n]
  refine⟨y::ys,by simp[l],⟨cs.take R.n,cs.drop R.n,Zc,j,k⟩,Zp,λB=>?_⟩;·rw[Wb,B.cons];have:=f B;have:=d B;simp only[Co];omega
inductive BF(P:Program):List Field->Nat->{α:Type}->Z1 α->(α->Prop)->(α->Nat)->Prop|one{α:Type}{f:Field}{off:Nat}{R:Z1 α}{wf:α->Prop}{sz:α->Nat}:f.offset=off->RR P f.type R wf sz->BF P [f] off R wf sz|cons{α β:Type}{f:Field}{fs:List Field}{off:Nat}{R:Z1 α}{S:Z1 β}{wf:α->Prop}{sz:α->Nat}{wf':β->Prop}{sz':β->Nat}:f.offset=off->RR P f.type R wf sz->BF P fs (off+R.n) S wf' sz'->BF P (f::fs) off (prod R S) (CI wf wf') (F7 sz sz')
def BF.run{P}{enc}{cs:List Value}{fs}{off}{R}{wf}{sz}(h:BF P fs off R wf sz):∀{xs:List (DataW C×List MemPlace)},cs.length=off+R.n->xs.length=fs.length->(∀(i:Nat)(f),fs[i]?=some f->DataW.trod enc P D A T a r f.type ((cs.drop f.offset).take (P.cellsOf f.type))=xs[i]?)->∃y:α,R.rel (Fu D) (cs.drop off) y/\wf y/\∀B:rf C,sz y<=B.all (xs.map (·.1)):=by induction h with
 |@one α f off R wf sz l c=>intro xs m d e;have b:=e 0 f rfl;rw[l,c.1,UT (by rw[VF];omega)]at b;match xs,d with|[x],_=>obtain⟨y,g,j,k⟩:=c.2 b;exact⟨y,g,j,λB=>by have:=k B;simp only[Wb,NR,B.cons];omega⟩
 |@cons α β f fs off R S wf sz w v l c _ p=>intro xs m d e;have b:=e 0 f rfl;rw[l,c.1]at b;match xs,d with
  |x::xs,d=>
   obtain⟨y,g,j,k⟩:=c.2 b;obtain⟨u,q,s,t⟩:=p (xs:=xs) (by rw[m];show off+(R.n+S.n)=_;omega) (by simpa using d) λi n o=>by have:=e (i+1) n (by simpa using o);simpa using this
   refine⟨(y,u),⟨_,_,by rw[<-TD,TM],g,q⟩,⟨j,s⟩,λB=>?_⟩;·have:=k B;have:=t B;simp only[Wb,B.cons,F7];omega
def ZwO{fs}{R:Z1 α}{wf}{sz}(i:G.underlying f=some (.struct fs))(e:G.cellsOf f=R.n)(h:BF G fs.toList 0 R wf sz):RR G f R wf sz:=by refine⟨e,λ{m q y o x t r p z}j=>?_⟩;obtain⟨A,n,rfl,rfl,v,w,g⟩:=DataW.trod_struct i j;have⟨l,s,c,d⟩:=h.run Y Y λk b u=>g k b Zp;exact⟨l,Zp,c,λa=>WB (d a) (a.agg _)⟩
def mY{e}{R:Z1 α}{wf}{sz}(hu:G.underlying f=some (.slice e))(P:G.cellsOf f=1)(W:0<R.n)(h:RR G e R wf sz):RR G f (sl R) (tN wf) (F6 sz):=by
 refine⟨P,λ{A C m r M E x4 cs x8}hx=>?_⟩;obtain⟨rfl,rfl⟩|⟨q,x6,B,N,L,n,rfl,rfl,rfl,hb,U,Q,rfl,o,_,_⟩:=DataW.trod_slice hu hx;·exact⟨[],⟨none,0,rfl,YA _,.inl rfl⟩,⟨Zc,λx3 y=>by cases y⟩,λg=>by have:=g.one (.nil:DataW A);simp[F6,Co];omega⟩
 ·have x5:B<=9223372036854775807:=by unfold maxLen at Q;omega
  cases N with|nil=>exact⟨[],⟨_,_,rfl,Zc,.inl rfl⟩,⟨Zc,λx3 y=>by cases y⟩,λg=>by have:=g.slice ([]:List (DataW A)) (L.map (·.1));have:=g.nil;simp only[F6,Co,NR];omega⟩|cons k j=>
   have D:∀a,a<(k::j).length->∃i,m.cells? r (q.add (a*R.n)) R.n=some i/\DataW.trod C G m r M E n e i=(k::j)[a]?:=by intro a I;have:=o a I;rw[h.1]at this;rw[Ve I]at this⊢;obtain⟨i,l,s⟩:=C8 this;exact⟨i,l,s⟩
   have J:q.spot=none:=by
    obtain⟨i,l,_⟩:=D 0 Zc;obtain⟨_,u,H⟩:=World.cells?_some l;have:=H 0 W;rw[Ve Y]at this;unfold World.cell? at this;simp only[Nat.zero_mul,Addr.add,Qe]at this;split at this
    ·split at this;·cases this
     ·rename_i Z;simpa using Z
    ·cases this
   obtain⟨b,K,x7⟩:=q;simp only at J;subst J;have x2:∀(c:Nat),c<=(k::j).length->∃d:List Value,d.length=c*R.n/\At (Fu m) b K d/\∀a,a<c->DataW.trod C G m r M E n e ((d.drop (a*R.n)).take R.n)=(k::j)[a]?:=by intro c;induction c with|zero=>exactλ_=>⟨[],Zc,λp v e=>by simp at e,λa h=>Y⟩|succ c ih=>
     intro H;obtain⟨d,x,t,w⟩:=ih Y;obtain⟨i,l,s⟩:=D c Y;obtain⟨_,u,T⟩:=World.cells?_some l;refine⟨d++i,by rw[YM,x,u,SE,O7],?_,?_⟩
     ·intro p v e;by_cases S:p<d.length;·rw[VE S]at e;exact t p v e
      ·rw[MK Y]at e;have:=T (p-d.length) (by rw[<-u];exact(X8 e).1);rw[e,RH,RH]at this;show m.cell? _=_;rw[<-this];congr 2;omega
     ·intro a o;by_cases F:a<c;·rw[<-w a F];have V:(a+1)*R.n<=c*R.n:=Q0 _ F;rw[SE,O7]at V;rw[KJ Y,KQ (by rw[VF];omega)]
      ·have:a=c:=Y;subst this;rw[KJ Y,QZ Y,UG,UT Y];exact s
   obtain⟨d,x,t,w⟩:=x2 _ (YA _);obtain⟨ys,z,X,x1,O⟩:=Zix h (xs:=k::j) (cs:=d) x λa o=>w a o;refine⟨ys,⟨_,B,by rw[z],by rw[z];exact U,.inr ⟨b,K,d,rfl,X,t⟩⟩,⟨by rw[z];omega,x1⟩,λg=>?_⟩;have:=O g;have:=g.slice ((k::j).map (·.1)) (L.map (·.1));simp only[F6];show _<=g.b (.slice _ _);omega
def ZcY{R}{wf}{sz}(h:RR G f R wf sz)(b:∀{D}{A}{v},Value.okWide G D .any A f v->(R.ag=true->∃cs,v=.agg cs)/\(R.ag=false->v.oneCell'=true)){enc}{v}{d}{ps}(hv:Value.okWide G D .any r f v)(e:DataW.Trod enc G D A T a f v d ps):∃y:α,(R.slot y).p (Fu D) v/\wf y/\∀B:rf C,sz y<=B.b d:=by have⟨k,g⟩:=e;have⟨y,i,j,c⟩:=h.2 g;refine⟨y,?_,j,c⟩;show R.is _ v y;unfold Z1.is;cases hb:R.ag with|true=>obtain⟨cs,rfl⟩:=(b hv).1 hb;exact⟨cs.toList,rfl,i⟩|false=>have:=Zdj ((b hv).2 hb);grind
def Zmf{k:IntKind}{R:Z1 α}(h:G.underlying f=some (.int k))(b:R.ag=false){v:Value}(hv:Value.okWide G D .any A f v):(R.ag=true->∃cs,v=.agg cs)/\(R.ag=false->v.oneCell'=true):=by obtain⟨c,rfl⟩:=okWide_int h hv;exact⟨(λa=>by rw[b]at a;cases a),λ_=>rfl⟩
def Zmh{e}{R:Z1 α}(h:G.underlying f=some (.slice e))(a:R.ag=false){v}(hv:Value.okWide G D .any A f v):(R.ag=true->∃cs,v=.agg cs)/\(R.ag=false->v.oneCell'=true):=by obtain⟨_,_,_,rfl⟩:=okWide_slice h hv;exact⟨Zp,λ_=>rfl⟩
mutual
def Jm{H:Type}:DataW H->List Value|.lit (.int k n)=>[.int k n]|.agg ps=>GL ps|_=>[]
def GL{H:Type}:List (DataW H)->List Value|[]=>[]|d::r=>Jm d++GL r
end
def FL(P:Program)(T n:Nat):Prop:=P.cellsOf T=n/\∀{a:Type}{e:TypeId×Value->a}{i:World}{d:Nat}{h:Nat->Bool}{g:Bool}{f:Nat}{b:List Value}{c:DataW a×List MemPlace},DataW.trod e P i d h g f T b=some c->b=Jm c.1
def Dz{k}(h:G.underlying f=some (.int k))(a:G.cellsOf f=1):FL G f 1:=by refine⟨a,λ{c g o d n j i e p}b=>?_⟩;obtain⟨m,rfl,rfl,l⟩:=Zba h b;rfl
def Zer{P}{e n}(h:FL P e n){H}{enc}{w}{base}{sp}{f}{c}:∀{xs:List (DataW H×List MemPlace)}{cs},cs.length=xs.length*n->(∀i,i<xs.length->DataW.trod enc P w base sp f c e ((cs.drop (i*n)).take n)=xs[i]?)->cs=GL (xs.map (·.1))
 |[],cs,a,_=>by simpa[GL]using a|x::xs,cs,a,hx=>by
  have b:=hx 0 Zc;simp at b;simp[Wl,SE,O7]at a;have d:=Zer h (xs:=xs) (cs:=cs.drop n) Zp λi g=>by have:=hx (i+1) Zp;rw[TD];simp at this;rw[<-this,SE,O7,yD n]
  rw[Wb,GL,<-h.2 b,<-d,TM]
def wm{e n k}(l:G.underlying A=some (.array n e))(c:G.cellsOf A=n*k)(h:FL G e k):FL G A (n*k):=by refine⟨c,λ{m r w p v s b q x}a=>?_⟩;cases b with|zero=>simp[DataW.trod]at a|succ b=>
  simp only[DataW.trod,l]at a;split at a
  ·rename_i j;obtain⟨y,f,rfl⟩:=Option.map_eq_some_iff.1 a;have u:=by simpa using Go.Lib.mapM_length f
   rw[c]at j;exact Zer h Zp λg t=>by have⟨o,i,d⟩:=Go.Lib.mapM_at f g g Zp;rw[h.1]at d;rw[d,i]
  ·grind
inductive Bt(P:Program):List Field->Nat->Nat->Prop|nil{off:Nat}:Bt P [] off off|cons{f:Field}{fs:List Field}{off n top:Nat}:f.offset=off->FL P f.type n->Bt P fs (off+n) top->Bt P (f::fs) off top
def Bt.run{P}{enc}{cs:List Value}{fs}{off}(h:Bt P fs off j):∀{xs:List (DataW C×List MemPlace)},cs.length=j->xs.length=fs.length->(∀(i:Nat)(f),fs[i]?=some f->DataW.trod enc P D A T a r f.type ((cs.drop f.offset).take (P.cellsOf f.type))=xs[i]?)->cs.drop off=GL (xs.map (·.1)):=by induction h with
 |nil=>intro xs c b _;cases xs with|nil=>simp[GL,QZ (sI c)]|cons=>grind
 |@cons f fs off n j m e _ o=>intro xs c b g;have d:=g 0 f rfl;rw[m,e.1]at d;match xs,b with
  |x::xs,b=>
   have l:=o c (by simpa using b) λi k p=>by have:=g (i+1) k Zp;simpa using this
   rw[Wb,GL,<-e.2 d,<-l,<-TD,TM]
def Zo3{fs}(e:G.underlying A=some (.struct fs))(a:G.cellsOf A=r)(h:Bt G fs.toList 0 r):FL G A r:=by refine⟨a,λ{i l t j s n m k u}f=>?_⟩;obtain⟨v,q,rfl,rfl,d,p,c⟩:=DataW.trod_struct e f;have:=h.run (by rw[d,a]) Zp λg b o=>c g b Zp;simpa[Jm]using this
def wx{d}{r}{ps}(h:DataW.LaidVars G D ((I,d)::r) ps){g T:Nat}(n:G.globalNamed I=some g)(l:G.globals[g]?.map (·.type)=some T)(j:FL G T A){R}{x:α}(k:∀m,R.rel m (Jm d) x):GAt g R x (Fu D)/\∃q,DataW.LaidVars G D r q:=by have⟨t,w,p,s,u,q,b,c,e,f,i,_⟩:=h;obtain rfl:=X9 (n.symm.trans b);obtain rfl:=X9 (l.symm.trans c);refine⟨⟨Jm d,k _,λo v a=>?_⟩,q,i⟩;rw[<-j.2 f]at a;show D.cell? _=some v;rw[Qc,World.var?_cell b e o,<-a];simp
def ZmM{m e}{a}(h:ZW D d m e [] a):Below D.heap.size D d:=⟨h.os,h.tape,h.output,h.size,λc b=>(h.Vu c b Zc).1⟩
def ZsI{enc}{s:ChangeSpec}{S W P}{args}{v}{ds}{H}(y:DataW.Whole enc G e.params.toList s.vars a D args.toList ds [] H)(B:s.vars=[])(p:Below D.heap.size D d)(M:laidOutB G=true)(x3:(e.params.toList.all λt=>G.readableRec t&&Nat.blt t G.types.size)=true)(N:∀(b)(sp)(X),DataW.TrodAll enc G d b sp X e.resultTypes.toList (v.resultList e.resultTypes.size) (s.fn C (ds++[])).results [])(L:(s.fn C (ds++[])).args=ds)(O:(s.fn C (ds++[])).vars=[])(x1:∀(j:Nat)(t)(r),e.resultTypes[j]?=some t->(v.resultList e.resultTypes.size)[j]?=some r->Value.okWide G d .any 0 t r):s.post enc G e a S W P D args v d:=by
 have U:=y;have z:∀c∈H,c.block<D.heap.size:=λc g=>y.lt c g;obtain⟨q,pv,I,J,rfl,hz,hn⟩:=y;rw[B]at J;obtain rfl:pv=[]:=J;have x4:∀(h:List TypeId)(n:List Value)(k:List (DataW C))(c:List MemPlace),(∀t∈h,G.readableRec t=true/\t<G.types.size)->(∀f∈c,f.block<D.heap.size)->DataW.TrodAll enc G D 0 (λ_=>true) true h n k c->DataW.TrodAll enc G d 0 (λb=>decide (b<D.heap.size)) true h n k c:=by intro h;induction h with|nil=>intro n k c _ _ l;obtain⟨rfl,rfl,rfl⟩:=trodAll_nil l;rfl|cons t h E=>intro n k c m g l;obtain⟨v,x7,Q,R,u,b,rfl,rfl,rfl,w,x⟩:=trodAll_cons l;exact⟨u,b,Below.trod M (m t Zc).1 (m t Zc).2 w p λf i=>g f (by simp[i]),E _ _ _ (λF A=>m F (by simp[A])) (λf i=>g f (by simp[i])) x,rfl⟩
 have K:∀t∈e.params.toList,G.readableRec t=true/\t<G.types.size:=by intro t m;have:=CZ x3 t m;simpa[TN]using this
 have Z:∀b o,b<D.heap.size->d.frozen? ⟨b,o,none⟩=D.frozen? ⟨b,o,none⟩:=by intro b o l;unfold World.frozen?;simp only[p.block b l]
 have x0:D.keptBut d λ_=>False:=by refine⟨p.os,p.output,λx6 hi=>?_⟩;rw[p.block x6 hi];split<;>simp_all
 refine⟨ds,[],q++[],[],q,[],U,N _ _ _,by rw[L];exact x4 _ _ _ _ K (λf i=>z f (by simp[i])) I,by rw[B,O];rfl,World.keptBut_mono (λc g=>g.elim) x0,λ_=>?_⟩;have T:DataW.TrodAll enc G d 0 (λ_=>true) true e.params.toList args.toList ds q:=by
  have x5:∀(h:List TypeId)(n:List Value)(k:List (DataW C))(c:List MemPlace),(∀t∈h,G.readableRec t=true/\t<G.types.size)->(∀f∈c,f.block<D.heap.size)->DataW.TrodAll enc G D 0 (λ_=>true) true h n k c->DataW.TrodAll enc G d 0 (λ_=>true) true h n k c:=by intro h;induction h with|nil=>intro n k c _ _ l;obtain⟨rfl,rfl,rfl⟩:=trodAll_nil l;rfl|cons t h E=>intro n k c m g l;obtain⟨v,x7,Q,R,u,b,rfl,rfl,rfl,w,x⟩:=trodAll_cons l;exact⟨u,b,WideElems.Trod_stays M (m t Zc).1 (m t Zc).2 w (λf i=>p.same (g f (by simp[i]))) λf i=>rfl,E _ _ _ (λF A=>m F (by simp[A])) (λf i=>g f (by simp[i])) x,rfl⟩
  exact x5 _ _ _ _ K (λf i=>z f (by simp[i])) I
 refine⟨x1,(s.fn C (ds++[])).results++(s.fn C (ds++[])).args,(s.fn C (ds++[])).vars,[]++q++[],⟨[]++q,[],trodAll_append (by rw[L];exact T) (N _ _ _),by rw[B,O];rfl,rfl,?_,?_⟩,?_⟩
 ·intro b o g;have x2:MemPlace.cell b o∈q++[]:=by simpa using g
  rw[Z b o (z _ x2)];exact hz b o (by simpa using g)
 ·intro V;have:=hn V;simpa using this
 ·intro c g _;simpa using g
end
end
end Go.Sl
namespace Go.R
open Go.Sl
variable {a c:Type}{b:Nat}{d f:a}{e:Zg a}
noncomputable section
def Ik:∃w:(∀α β:Type,Zg α->(α->Zg β)->Zg β)×(∀σ ρ,(σ->Zg (LR σ ρ))->σ->Zg (σ⊕ρ))×(∀σ,(σ->Zg (LR σ Empty))->σ->Zg σ)×(∀α β:Type,Zg α->Zg β->(α->Zg β)->Zg β)×∀α:Type,Bool->α->α->α,w=(λ_ _ o f=>Option.bind o f,λ_ _ f s=>P5 f FU s,λ_ f s=>AR f FU s,λ_ _ o n s=>match o with|none=>n|some x=>s x,λ_ b x y=>if b=true then x else y):=⟨_,rfl⟩
def O(o:Zg a)(f:a->Zg c):Zg c:=Ik.choose.1 a c o f
def BS(o)(f:a->Zg c):O o f=Option.bind o f:=by unfold O;rw[Ik.choose_spec]
def X3(f:a->Zg (LR a c))(s:a):Zg (a⊕c):=Ik.choose.2.1 a c f s
def eM(f:a->Zg (LR a c))(s):X3 f s=P5 f FU s:=by unfold X3;rw[Ik.choose_spec]
def YE(f:a->Zg (LR a Empty))(s:a):Zg a:=Ik.choose.2.2.1 a f s
def eN(f)(s:a):YE f s=AR f FU s:=by unfold YE;rw[Ik.choose_spec]
def Yv{α:Type}(o:Zg α)(n:Zg a)(s:α->Zg a):Zg a:=Ik.choose.2.2.2.1 α a o n s
def Zf(b:Bool)(x y:a):a:=Ik.choose.2.2.2.2 a b x y
def DE(b)(x y:a):Zf b x y=if b=true then x else y:=by unfold Zf;rw[Ik.choose_spec]
def Mq(o:Zg a)(n:Zg c)(s):Yv o n s=match o with|none=>n|some b=>s b:=by unfold Yv;rw[Ik.choose_spec]
def X4(o:Zg (a⊕c))(f:a->Zg c):Zg c:=O o λo=>match o with|.inl y=>f y|.inr r=>some r
def TQ:∃w:(Int->Int)×(Int->Int->Int)×(Int->Int->Int)×(Int->Int->Int)×(Int->Int->Int)×(Int->Int->Int)×(Int->Int->Int)×(Int->Int->Int)×(Int->Int->Int)×(Int->Int->Int)×(Int->Int->Int)×(Int->Int->Int)×(Int->Int->Int),w=(λp=>QS p,λp q=>p+q,λp q=>p-q,λp q=>p*q,λp q=>p.tdiv q,λp q=>p.tmod q,λp q=>Fl p q,λp q=>fX p q,λp q=>pT p q,λp q=>wM p q,λp q=>pS p q,λp q=>max p q,λp q=>min p q):=⟨_,rfl⟩
def Zm(p:Int):Int:=TQ.choose.1 p
def NL(p):Zm p=QS p:=by unfold Zm;rw[TQ.choose_spec]
def Zv(p q:Int):Int:=TQ.choose.2.1 p q
def ZcT(p q):Zv p q=p+q:=by unfold Zv;rw[TQ.choose_spec]
def ZX(p q:Int):Int:=TQ.choose.2.2.1 p q
def Cn(p q):ZX p q=p-q:=by unfold ZX;rw[TQ.choose_spec]
def VI(p q:Int):Int:=TQ.choose.2.2.2.1 p q
def ZfO(p q):VI p q=p*q:=by unfold VI;rw[TQ.choose_spec]
def Sf(p q:Int):Int:=TQ.choose.2.2.2.2.1 p q
def gT(p q):Sf p q=p.tdiv q:=by unfold Sf;rw[TQ.choose_spec]
def P9(p q:Int):Int:=TQ.choose.2.2.2.2.2.1 p q
def ZfE(p q):P9 p q=p.tmod q:=by unfold P9;rw[TQ.choose_spec]
def SO(p q:Int):Int:=TQ.choose.2.2.2.2.2.2.1 p q
def rW(p q):SO p q=Fl p q:=by unfold SO;rw[TQ.choose_spec]
def FE(p q:Int):Int:=TQ.choose.2.2.2.2.2.2.2.1 p q
def nq(p q):FE p q=fX p q:=by unfold FE;rw[TQ.choose_spec]
def tR(p q:Int):Int:=TQ.choose.2.2.2.2.2.2.2.2.1 p q
def Zkr(p q):tR p q=pT p q:=by unfold tR;rw[TQ.choose_spec]
def SB(p q:Int):Int:=TQ.choose.2.2.2.2.2.2.2.2.2.1 p q
def uU(p q):SB p q=wM p q:=by unfold SB;rw[TQ.choose_spec]
def QO(p q:Int):Int:=TQ.choose.2.2.2.2.2.2.2.2.2.2.1 p q
def Zi2(p q):QO p q=pS p q:=by unfold QO;rw[TQ.choose_spec]
def V3(p q:Int):Int:=TQ.choose.2.2.2.2.2.2.2.2.2.2.2.1 p q
def ow(p q):V3 p q=max p q:=by unfold V3;rw[TQ.choose_spec]
def Tx(p q:Int):Int:=TQ.choose.2.2.2.2.2.2.2.2.2.2.2.2 p q
def Zfz(p q):Tx p q=min p q:=by unfold Tx;rw[TQ.choose_spec]
def XD:Zf true d f=d:=by rw[DE];rfl
def Xp:Zf false d f=f:=by rw[DE];rfl
def gE{c}[Decidable c](h:Zf (decide c) e none=some d):c/\e=some d:=by rw[DE]at h;grind
def Ti{f}{r:c}(h:O e f=some r):∃x,e=some x/\f x=some r:=C8 (BS e f▸h)
def P8{α β:Type}(eq:α->α->Bool)(x:α):L (α×β)->Zg β|[]=>none|(a,y)::l=>if eq x a=true then some y else P8 eq x l
def Ny{α β:Type}(eq:α->α->Bool)(x:α)(y:β):L (α×β)->L (α×β)|[]=>[(x,y)]|(a,z)::l=>if eq x a=true then(x,y)::l else(a,z)::Ny eq x y l
def X7(i:Int)(x:Zg a):Zg a:=Zf (decide (0<=i)) x none
def Z4(i n:Int)(x:Zg a):Zg a:=Zf (decide (0<=i/\i<n)) x none
def WA(l h m:Int)(x:Zg a):Zg a:=Zf (decide (0<=l/\l<=h/\h<=m/\l<m)) x none
def JE(h m:Int)(x:Zg a):Zg a:=Zf (decide (0<=h/\h<=m)) x none
def AJ(h m n:Int)(x:Zg a):Zg a:=Zf (decide (h<=m/\m<=n)) x none
def Yt(m n:Nat)(x:Zg a):Zg a:=Zf (decide (m+n<=AP)) x none
def P0(l c:Int)(x:Zg a):Zg a:=Zf (decide (0<=l/\l<=c/\c<=(4294967296:Int))) x none
def Rz(q:Int)(x:Zg a):Zg a:=Zf (decide (q≠0)) x none
def Le(q:Nat)(x:Zg a):Zg a:=Zf (decide (q≠0)) x none
def fR(l h:Int)(x:Zg a):Zg a:=Zf (decide (l=0/\h=0)) x none
@[reducible] def AK(l:L a)(x:Zg c):Zg c:=match l with|[]=>none|_::_=>x
@[reducible] def Fz(l:L a):Bool:=match l with|[]=>true|_::_=>false
@[reducible] def ZF(l:L a)(i:Int):Zg a:=Mj l i
@[reducible] def Y1(v:Vector a b)(i:Int):Zg a:=ya v i
@[reducible] def Rh(l:L a)(i j:Int):Zg (L a):=Zfl l i j
@[reducible] def KC(n:Nat)(l:L a):Zg (Vector a n):=Zar n l
@[reducible] def ZC(p q:Int):Bool:=decide (p<q)
@[reducible] def YP(p q:Int):Bool:=decide (p<=q)
@[reducible] def WO(p q:ZO b):ZO b:=p+q
@[reducible] def Hz(p q:ZO b):ZO b:=p-q
@[reducible] def Fw(p q:ZO b):ZO b:=p*q
@[reducible] def qB(p q:ZO b):ZO b:=p/q
@[reducible] def Nx(p q:ZO b):ZO b:=p%q
@[reducible] def Re(p q:ZO b):ZO b:=p&&&q
@[reducible] def OS(p q:ZO b):ZO b:=p|||q
@[reducible] def Tq(p q:ZO b):ZO b:=p^^^q
@[reducible] def ZfX(p:ZO b):ZO b:= ~~~p
@[reducible] def oQ(p:ZO b):ZO b:=-p
@[reducible] def Cm(p:ZO b)(q:Nat):ZO b:=p<<<q
@[reducible] def VD(p:ZO b)(q:Nat):ZO b:=p>>>q
@[reducible] def OO(p q:ZO b):Bool:=decide (p<q)
@[reducible] def OM(p q:ZO b):Bool:=decide (p<=q)
@[reducible] def Yl(w:Nat)(p:Int):ZO w:=BitVec.ofInt w p
@[reducible] def Vl{v:Nat}(w:Nat)(p:ZO v):ZO w:=p.setWidth w
@[reducible] def Z7(p:ZO b):Nat:=p.toNat
@[reducible] def Zi(n:Nat):Int:=(n:Int)
@[reducible] def Yo(i:Int):Nat:=i.toNat
@[reducible] def Jz(h:DecidableEq a)(p q:a):Bool:=@decide (p=q) (h p q)
@[reducible] def ZA(b:Bool):Bool:=!b
@[reducible] def GZ(p q:Bool):Bool:=p==q
@[reducible] def Zdo(c:Bool)(x y:a):a:=bif c then x else y
@[reducible] def Ta(o:Zg a):Bool:=o.isSome
@[reducible] def wJ(o:Zg a):Bool:=o.isNone
@[reducible] def UN(o:Zg a)(x:a):a:=o.getD x
@[reducible] def Zj(l:L a):Nat:=l.length
@[reducible] def Ye(l m:L a):L a:=l++m
@[reducible] def YK(n:Nat)(l:L a):L a:=l.take n
@[reducible] def Xo(n:Nat)(l:L a):L a:=l.drop n
@[reducible] def Xc(l:L a)(i:Nat)(x:a):L a:=l.set i x
@[reducible] def RB(n:Nat)(x:a):L a:=List.replicate n x
@[reducible] def YJ(v:Vector a b)(i:Nat)(x:a):Vector a b:=v.setIfInBounds i x
@[reducible] def Rk(n:Nat)(x:a):Vector a n:=Vector.replicate n x
@[reducible] def XK(v:Vector a b):L a:=v.toList
@[reducible] def Ie(v:Vector a b)(lo:Nat)(l:L a):Vector a b:=yb v lo l
@[reducible] def Zkt(w:Nat):ZO w:=0#w
@[reducible] def oG(m n:Nat):Nat:=min m n
@[reducible] def Mz(p q:Int):Nat:=(p-q).toNat
@[reducible] def JJ(h:DecidableEq a)(x:a)(l:L (a×c)):Zg c:=P8 (λb d=>@decide (b=d) (h b d)) x l
@[reducible] def dD(h:DecidableEq a)(x:a)(y:c)(l:L (a×c)):L (a×c):=Ny (λb d=>@decide (b=d) (h b d)) x y l
end
inductive Ty where|int|un(k:IntKind)(w:Nat)|bool|str|vec(n:Nat)(t:Ty)|pair(a b:Ty)|only(t:Ty)|sl(t:Ty)|nz(t:Ty)|ptr(t:Ty)|YT(f:Nat)(t:Ty)|hole(j:Nat)|Um(j:Nat)(p:List Nat)|fn(f:FuncId)(a c:Ty)|Tz|Ub|Hg|vG|bit(b:Bool)|own(t:Ty)|opt(t:Ty)|full(t:Ty)|YU(t:Ty)|map(k v:Ty)|YS(f:Nat)(t:Ty)|nl|cons(a b:Ty)deriving DecidableEq
namespace Ty
@[reducible] def den:Ty->Type|int=>Int|un _ w=>ZO w|bool=>Bool|str=>L (ZO 8)|vec f a=>Vector a.den f|pair b d=>b.den×d.den|only a=>a.den|sl a=>L a.den|nz a=>L a.den|ptr a=>Zg a.den|YT _ _=>Zg Nat|hole _=>Unit|Um _ _=>Unit|fn _ b c=>b.den×c.den|Tz=>Unit|Ub=>Unit|Hg=>Unit|vG=>Unit|bit _=>Unit|own a=>a.den|opt a=>Zg a.den|full a=>L a.den|YU a=>L a.den|map e v=>L (e.den×v.den)|YS _ a=>L a.den|nl=>Unit|cons b d=>b.den×d.den
def n:Ty->Nat|vec d c=>d*c.n|pair a b=>a.n+b.n|only c=>c.n|YS _ _=>0|nl=>0|cons a b=>a.n+b.n|_=>1
def ag:Ty->Bool|vec _ _=>true|pair _ _=>true|only _=>true|_=>false
def plain:Ty->Bool|own _=>false|opt _=>false|full _=>false|YU _=>false|map _ _=>false|YS _ _=>false|vec _ a=>a.plain|pair b d=>b.plain&&d.plain|only a=>a.plain|sl a=>a.plain|nz a=>a.plain|ptr a=>a.plain|fn _ b c=>b.plain&&c.plain|cons b d=>b.plain&&d.plain|_=>true
def nh:Ty->Bool|hole _=>false|Um _ _=>false|vec _ a=>a.nh|pair b d=>b.nh&&d.nh|only a=>a.nh|sl a=>a.nh|nz a=>a.nh|ptr a=>a.nh|YT _ a=>a.nh|fn _ b c=>b.nh&&c.nh|own a=>a.nh|opt a=>a.nh|full a=>a.nh|YU a=>a.nh|map b d=>b.nh&&d.nh|YS _ a=>a.nh|cons b d=>b.nh&&d.nh|_=>true
def beq:Ty->Ty->Bool|int,int=>true|un j n,un k' w'=>decide (j=k')&&Nat.beq n w'|bool,bool=>true|str,str=>true|vec k a,vec n' b=>Nat.beq k n'&&beq a b|pair c d,pair a' b'=>beq c a'&&beq d b'|only a,only b=>beq a b|sl a,sl b=>beq a b|nz a,nz b=>beq a b|ptr a,ptr b=>beq a b|YT e a,YT f b=>Nat.beq e f&&beq a b|hole g,hole h=>Nat.beq g h|Um g l,Um h m=>Nat.beq g h&&decide (l=m)|fn e c i,fn f a' c'=>Nat.beq e f&&(beq c a'&&beq i c')|Tz,Tz=>true|Ub,Ub=>true|Hg,Hg=>true|vG,vG=>true|bit d,bit b'=>d==b'|own a,own b=>beq a b|opt a,opt b=>beq a b|full a,full b=>beq a b|YU a,YU b=>beq a b|map c d,map a' b'=>beq c a'&&beq d b'|YS e a,YS f b=>Nat.beq e f&&beq a b|nl,nl=>true|cons c d,cons a' b'=>beq c a'&&beq d b'|_,_=>false
def eq_of_beq{a b}(h:beq a b=true):a=b:=by induction a generalizing b<;>cases b<;>simp[beq,YL,sP,RK,beq_iff_eq,It]at h<;>first|rfl|(rfl)|grind|simp|simp|grind|grind
end Ty
noncomputable section
structure TV where
 t:Ty
 x:t.den
inductive PS where|ix(i:Int)(sz m:Nat)|a|b(o:Nat)|o|m(i:Nat)
def JR:L Nat->L PS|[]=>[]|0::l=>.a::JR l|(k+1)::l=>.b k::JR l
def DV:L PS->Zg (L Nat)
 |[]=>some []|.a::p=>match DV p with|some c=>some (0::c)|none=>none
 |.b k::p=>match DV p with|some c=>some ((k+1)::c)|none=>none
 |_=>none
def Yd:L PS->Nat|[]=>0|.ix i sz _::p=>i.toNat*sz+Yd p|.a::p=>Yd p|.b o::p=>o+Yd p|.o::p=>Yd p|.m _::p=>Yd p
def I9:L PS->Bool|[]=>true|.a::p=>I9 p|.b _::p=>I9 p|.o::p=>I9 p|_=>false
inductive SV where|v(tv:TV)|SP(j:Nat)(p:List PS)|sub(j:Nat)(p:List PS)(sz m:Nat)(lo hi:Int)|Sq(tv:TV)|gl(n:Nat)|bv(js:List Nat)(tv:TV)|un|tn|tc(a b:SV)|any
abbrev En:=L (Nat×SV)
abbrev Bx:=L (Nat×TV)
def Yw:En->Nat->SV|[],_=>.any|(t,s)::e,u=>bif Nat.beq t u then s else Yw e u
def ZJ:Bx->Nat->Zg TV|[],_=>none|(t,s)::e,u=>bif Nat.beq t u then some s else ZJ e u
def VA:Bx->Nat->Bx|[],_=>[]|(t,s)::e,u=>bif Nat.beq t u then VA e u else(t,s)::VA e u
def Wm(r:Bx)(b:Bx):Bx:=r.foldr (λa b=>VA b a.1) b
structure CS where
 g:Bx
 l:Bx:=[]r:Bx:=[]s:List (Nat×Nat):=[]f:List (Nat×Nat×Nat×TV):=[]n:Nat:=0q:Bx:=[]p:Bool:=false
def Td:L (Nat×Nat)->Nat->Zg Nat|[],_=>none|(t,s)::e,u=>bif Nat.beq t u then some s else Td e u
def Yp(f:Nat):Nat:=1000+f
abbrev Zm6{a b:Ty}(h:a=b)(x:a.den):b.den:=h▸x
def Sd(t:Ty)(v:TV)(k:t.den->Zg a):Zg a:=if h:v.t.beq t=true then k (Zm6 (Ty.eq_of_beq h) v.x)else none
def U6(t:Ty)(v:TV)(k:t.den->Zg a):Zg a:=bif t.nh then Sd t v k else none
def Mh{R:Type}:TV->L PS->(TV->Zg R)->Zg R|v,[],k=>k v|⟨.pair a b,x⟩,.a::p,k=>Mh ⟨a,x.1⟩ p k|⟨.pair a b,x⟩,.b o::p,k=>bif Nat.beq o a.n then Mh ⟨b,x.2⟩ p k else none|⟨.only t,x⟩,.o::p,k=>Mh ⟨t,x⟩ p k|⟨.vec n t,x⟩,.ix i sz m::p,k=>bif Nat.beq sz t.n&&Nat.beq m n then O (Y1 x i) λc=>Mh ⟨t,c⟩ p k else none|_,_::_,_=>none
def Ps{R:Type}:TV->L PS->TV->(TV->Zg R)->Zg R|v,[],y,k=>bif Nat.beq v.t.n y.t.n then k y else none|⟨.pair a b,x⟩,.a::p,y,k=>Ps ⟨a,x.1⟩ p y λc=>k ⟨.pair c.t b,(c.x,x.2)⟩|⟨.pair a b,x⟩,.b o::p,y,k=>bif Nat.beq o a.n then Ps ⟨b,x.2⟩ p y λc=>k ⟨.pair a c.t,(x.1,c.x)⟩else none|⟨.only t,x⟩,.o::p,y,k=>Ps ⟨t,x⟩ p y λc=>k ⟨.only c.t,c.x⟩|⟨.vec n t,x⟩,[.ix i sz m],y,k=>bif Nat.beq sz t.n&&Nat.beq m n then Sd t y λd=>k ⟨.vec n t,YJ x (Yo i) d⟩else none|⟨.vec n t,x⟩,.ix i sz m::p,y,k=>bif Nat.beq sz t.n&&Nat.beq m n then O (Y1 x i) λe=>Ps ⟨t,e⟩ p y λc=>Sd t c λd=>k ⟨.vec n t,YJ x (Yo i) d⟩else none|_,_::_,_,_=>none
def pu:TV->L PS->(TV->Zg a)->Zg a|⟨.own t,x⟩,p,k=>Mh ⟨t,x⟩ p k|⟨.full t,x⟩,.ix i sz m::p,k=>bif Nat.beq sz t.n then O (ZF x i) λb=>Mh ⟨t,b⟩ p k else none|⟨.YU t,x⟩,.ix i sz m::p,k=>bif Nat.beq sz t.n then O (ZF x i) λb=>Mh ⟨t,b⟩ p k else none|_,_,_=>none
def ly:TV->L PS->TV->(TV->Zg a)->Zg a|⟨.own t,x⟩,p,y,k=>Ps ⟨t,x⟩ p y λb=>k ⟨.own b.t,b.x⟩|⟨.full t,x⟩,[.ix i sz m],y,k=>bif Nat.beq sz t.n then Sd t y λc=>k ⟨.full t,Xc x (Yo i) c⟩else none|⟨.full t,x⟩,.ix i sz m::p,y,k=>bif Nat.beq sz t.n then O (ZF x i) λd=>Ps ⟨t,d⟩ p y λb=>Sd t b λc=>k ⟨.full t,Xc x (Yo i) c⟩else none|_,_,_,_=>none
def Az:TV->L PS->(TV->Zg a)->Zg a|⟨.YS _ t,x⟩,.m i::p,k=>O (ZF x (Zi i)) λb=>pu ⟨t,b⟩ p k|v,p,k=>pu v p k
def Kw:TV->L PS->TV->(TV->Zg a)->Zg a|⟨.YS f t,x⟩,.m i::p,y,k=>O (ZF x (Zi i)) λc=>ly ⟨t,c⟩ p y λb=>Sd t b λd=>k ⟨.YS f t,Xc x i d⟩|v,p,y,k=>ly v p y k
def CC:Ty->L PS->Zg Ty|t,[]=>some t|.pair a b,.a::p=>CC a p|.pair a b,.b _::p=>CC b p|.only t,.o::p=>CC t p|.vec _ t,.ix _ _ _::p=>CC t p|_,_=>none
def Zj6:Ty->L PS->Zg Ty|.own t,p=>CC t p|.full t,.ix _ _ _::p=>CC t p|.YU t,.ix _ _ _::p=>CC t p|_,_=>none
def S5:Ty->L PS->Zg Ty|.YS _ t,.m _::p=>Zj6 t p|t,p=>Zj6 t p
def fK:L PS->Bool|[]=>false|.ix _ _ _::_=>true|.m _::_=>true|_::p=>fK p
def QQ(c:CS)(j:Nat)(k:TV->CS->Zg a):Zg a:=match ZJ c.l j with|some v=>k v {c with l:=VA c.l j}|none=>match ZJ c.g j with|some v=>k v {c with g:=VA c.g j,r:=(j,v)::c.r}|none=>none
def CS.put(c:CS)(j:Nat)(v:TV):CS:={c with l:=(j,v)::c.l}
def CS.nG(c:CS)(j:Nat)(v:TV):CS:={c with l:=(j,v)::c.l,p:=true}
def lE(t:Ty)(j:Nat)(c:CS)(k:L t.den->CS->Zg a):Zg a:=match ZJ c.l j with
   |none=>match ZJ c.g j with|some ⟨.YU b,l⟩=>U6 (.YU t) ⟨.YU b,l⟩ λl=>k l {c with q:=(j,⟨.YU t,l⟩)::c.q}|_=>QQ c j λd c=>match d with|⟨.full b,l⟩=>bif t.plain then U6 (.full t) ⟨.full b,l⟩ λl=>k l (c.nG j ⟨.YU t,l⟩)else none|_=>none
   |some _=>QQ c j λd c=>match d with|⟨.full b,l⟩=>bif t.plain then U6 (.full t) ⟨.full b,l⟩ λl=>k l (c.nG j ⟨.YU t,l⟩)else none|⟨.YU b,l⟩=>U6 (.YU t) ⟨.YU b,l⟩ λl=>k l (c.put j ⟨.YU t,l⟩)|_=>none
def Zek(f:Nat)(t:Ty)(y:t.den)(c:CS)(k:Zg Nat->CS->Zg a):Zg a:=QQ c (Yp f) λd c=>U6 (.YS f t) d λb=>k (some (Zj b)) (c.nG (Yp f) ⟨.YS f t,Ye b [y]⟩)
def VK{R:Type}:(t:Ty)->TV->CS->(t.den->CS->Zg R)->Zg R
 |.bool,v,c,k=>match v with|⟨.bit b,_⟩=>k b c|v=>U6 .bool v λe=>k e c
 |.pair a b,⟨.pair a' b',e⟩,c,k=>bif a.plain&&b.plain&&a.beq a'&&b.beq b'&&a.nh&&b.nh then U6 (.pair a b) ⟨.pair a' b',e⟩ λl=>k l c else VK a ⟨a',e.1⟩ c λl c=>VK b ⟨b',e.2⟩ c λm c=>k (l,m) c|.cons a b,⟨.cons a' b',e⟩,c,k=>VK a ⟨a',e.1⟩ c λl c=>VK b ⟨b',e.2⟩ c λm c=>k (l,m) c|.nl,⟨.nl,_⟩,c,k=>k () c|.only t,⟨.only h,e⟩,c,k=>VK t ⟨h,e⟩ c k|.sl t,v,c,k=>match v with|⟨.Tz,_⟩=>k [] c|⟨.hole j,_⟩=>lE t j c k|⟨.nz h,g⟩=>U6 (.nz t) ⟨.nz h,g⟩ λe=>k e c|v=>U6 (.sl t) v λe=>k e c
 |.nz t,v,c,k=>match v with|⟨.Tz,_⟩=>k [] c|⟨.hole j,_⟩=>lE t j c λg c=>AK g (k g c)|v=>U6 (.nz t) v λe=>k e c
 |.ptr t,v,c,k=>match v with
  |⟨.Ub,_⟩=>k none c|⟨.hole j,_⟩=>QQ c j λw c=>match w with|⟨.own h,e⟩=>bif t.plain then VK t ⟨h,e⟩ c λl c=>k (some l) {c with p:=true}else none|_=>none
  |v=>U6 (.ptr t) v λe=>k e c
 |.own t,⟨.hole j,_⟩,c,k=>QQ c j λw c=>match w with|⟨.own h,e⟩=>VK t ⟨h,e⟩ c k|⟨.opt h,e⟩=>Yv e none λl=>VK t ⟨h,l⟩ c k|_=>none
 |.own t,⟨.own h,e⟩,c,k=>VK t ⟨h,e⟩ c k|.own t,⟨.opt h,e⟩,c,k=>Yv e none λl=>VK t ⟨h,l⟩ c k|.opt t,v,c,k=>match v with
  |⟨.Ub,_⟩=>k none c|⟨.hole j,_⟩=>QQ c j λw c=>match w with|⟨.own h,e⟩=>VK t ⟨h,e⟩ c λl c=>k (some l) c|⟨.opt h,e⟩=>U6 (.opt t) ⟨.opt h,e⟩ λe=>k e c|_=>none
  |v=>U6 (.opt t) v λe=>k e c
 |.full t,v,c,k=>match v with|⟨.Tz,_⟩=>k [] c|⟨.hole j,_⟩=>QQ c j λw c=>U6 (.full t) w λg=>k g c|v=>U6 (.full t) v λg=>k g c
 |.YU t,v,c,k=>match v with
  |⟨.Tz,_⟩=>k [] c|⟨.hole j,_⟩=>QQ c j λw c=>match w with|⟨.full h,g⟩=>bif t.plain then U6 (.full t) ⟨.full h,g⟩ λg=>k g {c with p:=true}else none|w=>U6 (.YU t) w λg=>k g c
  |v=>U6 (.YU t) v λg=>k g c
 |.map a b,v,c,k=>match v with|⟨.hole j,_⟩=>QQ c j λw c=>U6 (.map a b) w λg=>k g c|v=>U6 (.map a b) v λg=>k g c
 |.YT f t,v,c,k=>match v with|⟨.Ub,_⟩=>k none c|⟨.hole j,_⟩=>VK t ⟨.hole j,()⟩ c λl c=>Zek f t l c k|v=>U6 (.YT f t) v λe=>k e c
 |.YS f t,v,c,k=>U6 (.YS f t) v λg=>k g c|.hole i,⟨.hole j,_⟩,c,k=>bif Nat.blt i 1000then match Td c.s i with|some n=>bif Nat.beq j n then k () c else none|none=>k () {c with s:=(i,j)::c.s}else bif Nat.beq i j then k () c else none|.Um i q,⟨.Um j r,_⟩,c,k=>bif decide (q=r)then(bif Nat.blt i 1000then match Td c.s i with|some n=>bif Nat.beq j n then k () c else none|none=>k () {c with s:=(i,j)::c.s}else bif Nat.beq i j then k () c else none)else none|.fn f a d,⟨.fn o a' d',e⟩,c,k=>bif Nat.beq f o&&(a.plain&&d.plain)then VK a ⟨a',e.1⟩ c λl c=>VK d ⟨d',e.2⟩ c λm c=>k (l,m) c else none|t,v,c,k=>bif t.plain then U6 t v λe=>k e c else none
def Mi(s:L (Nat×Nat)):Bool:=s.all λa=>Nat.beq a.1 a.2
def Ni(t:Ty)(v:TV)(c:CS)(k:t.den->CS->Zg a):Zg a:=VK t v c λb c=>bif Mi c.s then k b c else none
def Tb:(t:Ty)->t.den->Nat->Bx->TV×Nat×Bx
 |.pair a b,x,n,l=>match Tb a x.1 n l with|(u,n,l)=>match Tb b x.2 n l with|(w,n,l)=>(⟨.pair u.t w.t,(u.x,w.x)⟩,n,l)
 |.only t,x,n,l=>match Tb t x n l with|(u,n,l)=>(⟨.only u.t,u.x⟩,n,l)
 |.own t,x,n,l=>match Tb t x (n+1) l with|(u,m,l)=>(⟨.hole n,()⟩,m,(n,⟨.own u.t,u.x⟩)::l)
 |.full t,x,n,l=>(⟨.hole n,()⟩,n+1,(n,⟨.full t,x⟩)::l)|.YU t,x,n,l=>(⟨.hole n,()⟩,n+1,(n,⟨.YU t,x⟩)::l)|.map a b,x,n,l=>(⟨.hole n,()⟩,n+1,(n,⟨.map a b,x⟩)::l)|t,x,n,l=>(⟨t,x⟩,n,l)
def Ln(t:Ty)(x:t.den)(n:Nat)(l:Bx):SV×Nat×Bx:=match t,x with|.opt t,x=>(.v ⟨.hole n,()⟩,n+1,(n,⟨.opt t,x⟩)::l)|.Um j q,_=>(.SP j (JR q),n,l)|t,x=>match Tb t x n l with|(u,n,l)=>(bif u.t.plain then .v u else .any,n,l)
def OT(s:L (Nat×Nat)):(t:Ty)->t.den->TV|.hole i,_=>⟨.hole ((bif Nat.blt i 1000then Td s i else some i).getD 0),()⟩|.pair a b,x=>⟨.pair (OT s a x.1).t (OT s b x.2).t,((OT s a x.1).x,(OT s b x.2).x)⟩|.only t,x=>⟨.only (OT s t x).t,(OT s t x).x⟩|.own t,x=>⟨.own (OT s t x).t,(OT s t x).x⟩|t,x=>⟨t,x⟩
def JO(j:Nat):TV->Nat->Bx->Nat×Bx
 |⟨.own t,x⟩,n,l=>match Tb t x n l with|(u,m,l)=>(m,(j,⟨.own u.t,u.x⟩)::l)
 |v,n,l=>(n,(j,v)::l)
end
noncomputable section
structure HI where
 t:Nat--atemporary,orabox
 b:Bool--abox?
 ty:Ty
structure jU where
 key:Nat
 it:List HI
def TJ(l:L (Nat×Ty)):Ty:=l.foldr (λa b=>Ty.cons a.2 b) Ty.nl
structure FC where
 f:FuncId
 A:Ty
 B:List (Nat×Ty)C:Ty
 D:List (Nat×Ty)ρ:Type
 u:Bool:=false
 m:A.den->(TJ B).den->Option ρ
 dec:ρ->C.den×(TJ D).den
structure XF where
 P:Program
 ov:List (Nat×Ty)gl:List (Nat×TV)tb:List FC
 hs:List jU
 sp:List Nat:=[]fz:List Nat:=[]cl:List Nat:=[]
def Zap:L (Nat×Ty)->Nat->Zg Ty|[],_=>none|(t,s)::e,u=>bif Nat.beq t u then some s else Zap e u
def Qa:L (Nat×TV)->Nat->Zg TV|[],_=>none|(t,s)::e,u=>bif Nat.beq t u then some s else Qa e u
def fM:L jU->Nat->Zg (L HI)|[],_=>none|h::e,u=>bif Nat.beq h.key u then some h.it else fM e u
def Zgi:L Ty->Zg Ty|[]=>none|[t]=>some t|t::ts=>match Zgi ts with|some a=>some (.pair t a)|none=>none
def ZcW:L (Zg Ty)->Zg (L Ty)
 |[]=>some []|some b::l=>match ZcW l with|some a=>some (b::a)|none=>none
 |none::_=>none
def CE:IntKind->Bool|.u8=>true|.u16=>true|.u32=>true|.u64=>true|_=>false
def l7(P:Program)(ov:L (Nat×Ty)):Nat->TypeId->Zg Ty|0,_=>none|n+1,T=>match Zap ov T with|some a=>some a|none=>match P.underlying T with
   |some .bool=>some .bool|some (.int .i64)=>some .int|some (.int k)=>bif CE k then some (.un k k.bits)else none|some .string=>some .str|some (.slice e)=>match l7 P ov n e with|some a=>some (.sl a)|none=>none
   |some (.array k e)=>match l7 P ov n e with|some a=>some (.vec k a)|none=>none
   |some (.struct fs)=>match ZcW (fs.toList.map λb=>l7 P ov n b.type)with|some [a]=>some (bif a.ag then a else .only a)|some c=>Zgi c|none=>none
   |_=>none
def Oi:(t:Ty)->Zg t.den
 |.int=>some 0|.un _ w=>some (Zkt w)|.bool=>some false|.str=>some []|.vec n t=>match Oi t with|some v=>some (Rk n v)|none=>none
 |.pair a b=>match Oi a,Oi b with|some v,some w=>some (v,w)|_,_=>none
 |.only t=>Oi t|.sl _=>some []|.ptr _=>some none|.YT _ t=>match t with|.full _=>none|_=>some none
 |_=>none
def HX:Ty->Zg TV
 |.int=>some ⟨.int,0⟩|.un k w=>some ⟨.un k w,Zkt w⟩|.bool=>some ⟨.bool,false⟩|.str=>some ⟨.str,[]⟩|.vec n t=>match Oi t with|some v=>some ⟨.vec n t,Rk n v⟩|none=>none
 |.pair a b=>match HX a,HX b with|some v,some w=>some ⟨.pair v.t w.t,(v.x,w.x)⟩|_,_=>none
 |.only t=>match HX t with|some v=>some ⟨.only v.t,v.x⟩|none=>none
 |.sl t=>some ⟨.Tz,()⟩|.ptr t=>some ⟨.ptr t,none⟩|.YT f t=>match t with|.full _=>some ⟨.Tz,()⟩|t=>some ⟨.YT f t,none⟩
 |.full _=>some ⟨.Tz,()⟩|.YU _=>some ⟨.Tz,()⟩|.opt _=>some ⟨.Ub,()⟩|.own _=>some ⟨.Ub,()⟩|.map _ _=>some ⟨.Hg,()⟩|_=>none
def UZ:Ty->L Value->Zg (L Value)
 |.int,.int .i64 (.ofNat 0)::c=>some c|.un k _,.int k' (.ofNat 0)::c=>bif decide (k=k')then some c else none|.bool,.bool false::c=>some c|.sl _,.slice none 0 0::c=>some c|.Tz,.slice none 0 0::c=>some c|.ptr _,.pointer none::c=>some c|.YT _ _,.pointer none::c=>some c|.Ub,.pointer none::c=>some c|.Hg,.map none::c=>some c|.pair a b,c=>match UZ a c with|some c=>UZ b c|none=>none
 |.only t,c=>UZ t c|.vec n t,c=>n.rec (some c) λ_ d=>match d with|some c=>UZ t c|none=>none
 |_,_=>none
def Zeu:Ty->Nat->Nat->Zg (L PS×Nat)
 |.pair a b,m,0=>some ([.a],0)|.pair a b,m,f+1=>bif Nat.beq m 2then(bif Nat.beq f 0then some ([.b a.n],a.n)else none)else match Zeu b (m-1) f with|some (p,o)=>some (.b a.n::p,a.n+o)|none=>none
 |.only t,_,0=>some ([.o],0)|_,_,_=>none
def ZfS(P:Program)(a:TypeId):Nat:=match P.underlying a with|some (.struct fs)=>fs.size|_=>0
def Aw(P:Program)(a:TypeId)(t:Ty)(f:Nat):Zg (L PS×Nat):=bif Nat.beq (ZfS P a) 1&&!(match t with|.only _=>true|_=>false)then(bif Nat.beq f 0then some ([],0)else none)else Zeu t (ZfS P a) f
structure Ww where
 v:SV
 rd:Bx
 r:Bx
 w:Bx
 n:Nat
section
variable {R:Type}(Z:XF)(e:En)(b:Bx)(n:Nat)(k:Ww->Zg R)
def gw:Value->SV|.int .i64 x=>.v ⟨.int,x⟩|.int q (.ofNat x)=>bif CE q&&Nat.blt x (Nat.pow 2 q.bits)then .v ⟨.un q q.bits,Yl q.bits (.ofNat x)⟩else .any|.bool x=>.v ⟨.bit x,()⟩|.string s=>.v ⟨.str,s.data.toList.map UInt8.toBitVec⟩|.pointer none=>.v ⟨.Ub,()⟩|.slice none 0 0=>.v ⟨.Tz,()⟩|.map none=>.v ⟨.Hg,()⟩|.nilFunc=>.v ⟨.vG,()⟩|_=>.any
def Z9:Operand->SV|.tmp t=>Yw e t|.const v=>gw v|.global g=>.gl g|.func f=>.v ⟨.fn f .nl .nl,((),())⟩
def Tn(s:SV):Zg R:=k ⟨s,[],[],[],n⟩
def Ws(t:Ty)(x:t.den):Zg R:=k ⟨.v ⟨t,x⟩,[],[],[],n⟩
def IR(b:Bx):L Nat->Zg Bx|[]=>some []|j::l=>match ZJ b j,IR b l with|some v,some r=>some ((j,v)::r)|_,_=>none
def Uy:Ty->Bool|.int=>true|.un _ _=>true|.bool=>true|.str=>true|.YT _ _=>true|.vec _ t=>Uy t|.pair a b=>Uy a&&Uy b|.only t=>Uy t|.cons a b=>Uy a&&Uy b|.nl=>true|.full t=>Uy t|.YU t=>Uy t|.own t=>Uy t|.opt t=>Uy t|.map a b=>Uy a&&Uy b|.YS _ t=>Uy t|_=>false
def I8(j:Nat):Ty->Bool|.YS f _=>Nat.beq j (Yp f)|_=>true
def GC(b:Bx)(j:Nat):Zg TV:=match ZJ b j with|some v=>bif I8 j v.t then some v else none|none=>none
def M8(t:Ty)(s:SV)(k:L t.den->Bx->Zg R):Zg R:=match s with
 |.v ⟨.Tz,_⟩=>k [] []|.v ⟨.sl c,a⟩=>Sd (.sl t) ⟨.sl c,a⟩ λa=>k a []|.v ⟨.nz c,a⟩=>Sd (.nz t) ⟨.nz c,a⟩ λa=>k a []|.v ⟨.hole j,_⟩=>match ZJ b j with|some ⟨.full c,a⟩=>bif t.plain then Sd (.full t) ⟨.full c,a⟩ λa=>k a [(j,⟨.full t,a⟩)]else none|some ⟨.YU c,a⟩=>Sd (.YU t) ⟨.YU c,a⟩ λa=>k a [(j,⟨.YU t,a⟩)]|_=>none
 |.v ⟨.YT f (.full _),d⟩=>Yv d none λi=>match ZJ b (Yp f)with|some ⟨.YS g (.full c),h⟩=>bif Nat.beq f g&&t.plain then Sd (.YS g (.full t)) ⟨.YS g (.full c),h⟩ λh=>O (ZF h (Zi i)) λa=>k a [(Yp f,⟨.YS g (.full t),h⟩)]else none|_=>none
 |.bv l ⟨.sl c,a⟩=>bif Uy t&&t.plain then Sd (.sl t) ⟨.sl c,a⟩ λa=>match IR b l with|some o=>k a o|none=>none else none|.sub j p sz m lo hi=>match GC b j with
  |some v=>Az v p λq=>match q with|⟨.vec m' c,d⟩=>bif Nat.beq sz c.n&&Nat.beq m m'&&t.plain then Sd (.vec m' t) ⟨.vec m' c,d⟩ λd=>k (Xo (Yo lo) (YK (Yo hi) (XK d))) [(j,v)]else none|_=>none
  |none=>none
 |_=>none
def pX(s:SV)(k:Int->Bx->Zg R):Zg R:=match s with
 |.v ⟨.Tz,_⟩=>k 0 []|.v ⟨.sl _,a⟩=>k (Zi (Zj a)) []|.v ⟨.nz _,a⟩=>k (Zi (Zj a)) []|.v ⟨.YT f (.full _),x⟩=>Yv x none λd=>match ZJ b (Yp f)with|some ⟨.YS c (.full t),xs⟩=>bif Nat.beq f c then O (ZF xs (Zi d)) λa=>k (Zi (Zj a)) [(Yp f,⟨.YS c (.full t),xs⟩)]else none|_=>none
 |.v ⟨.hole j,_⟩=>match ZJ b j with|some ⟨.full t,a⟩=>k (Zi (Zj a)) [(j,⟨.full t,a⟩)]|some ⟨.YU t,a⟩=>k (Zi (Zj a)) [(j,⟨.YU t,a⟩)]|_=>none
 |.sub j p sz m lo hi=>k (ZX hi lo) []|.bv g ⟨.sl _,a⟩=>match IR b g with|some h=>k (Zi (Zj a)) h|none=>none
 |_=>none
def Lp(t:Ty)(s:SV)(k:t.den->Zg R):Zg R:=match s with|.v v=>Ni t v {g:=[]} λx a=>bif a.r.isEmpty then k x else none|.Sq v=>Ni t ⟨.ptr v.t,some v.x⟩ {g:=[]} λx a=>bif a.r.isEmpty then k x else none|_=>none
def QP:SV->Zg TV|.v v=>some v|.Sq v=>some ⟨.ptr v.t,some v.x⟩|_=>none
def Lf(s:SV)(k:Int->Zg R):Zg R:=match s with|.v ⟨.int,x⟩=>k x|.v ⟨.un _ _,x⟩=>k (Zi (Z7 x))|_=>none
end
@[reducible] def Ty.Dk:(t:Ty)->Zg (DecidableEq t.den)
 |.int=>some inferInstanceAs(DecidableEq Int)|.un _ w=>some inferInstanceAs(DecidableEq (ZO w))|.bool=>some inferInstanceAs(DecidableEq Bool)|.str=>some inferInstanceAs(DecidableEq (L (ZO 8)))|.vec n t=>match t.Dk with|some c=>some (have:=c;inferInstanceAs(DecidableEq (Vector t.den n)))|none=>none
 |.pair a b=>match a.Dk,b.Dk with|some c,some j=>some (have:=c;have:=j;inferInstanceAs(DecidableEq (a.den×b.den)))|_,_=>none
 |.only t=>t.Dk|_=>none
section
variable {R:Type}(Z:XF)(e:En)(b:Bx)(n:Nat)(k:Ww->Zg R)
def qf(neg v:Bool):Zg R:=Tn n k (.v ⟨.bit (bif neg then !v else v),()⟩)
def OK(P:Program)(T:TypeId):Bool:=match P.underlying T with|some (.slice e)=>(P.info? e).isSome|_=>false
def vT:Ty->Bool|.YS _ _=>false|.nl=>false|.cons _ _=>false|_=>true
def xZ(P:Program)(q:TypeId->Ty->Bool):L Field->Nat->Ty->Bool|[f],off,t=>Nat.beq f.offset off&&(!f.name== "_"&&(vT t&&(Go.Sl.S5 P f.type t.ag t.n&&q f.type t)))|f::c::fs,off,.pair a b=>Nat.beq f.offset off&&(!f.name== "_"&&(vT a&&(Go.Sl.S5 P f.type a.ag a.n&&(q f.type a&&xZ P q (c::fs) (off+a.n) b))))|_,_,_=>false
def I6(P:Program):Nat->TypeId->Ty->Bool|0,_,_=>false|n+1,T,t=>match t,P.underlying T with|.int,some (.int .i64)=>true|.un k _,some (.int k')=>decide (k=k')|.bool,some .bool=>true|.vec m t,some (.array m' e)=>Nat.beq m m'&&(vT t&&(Go.Sl.S5 P e t.ag t.n&&I6 P n e t))|.pair a b,some (.struct fs)=>!P.stoodInHeld T&&xZ P (I6 P n) fs.toList 0 (.pair a b)|_,_=>false
def fg(P:Program)(T:TypeId):Ty->Bool
 |.int=>true|.un a w=>CE a&&Nat.beq w a.bits|.str=>match P.underlying T with|some .string=>true|_=>false
 |t=>t.ag&&(I6 P 8 T t&&Go.Sl.wa P T)
def Fm(P:Program)(T:TypeId):Bool:=match P.underlying T with|some (.pointer _)=>true|_=>false
def pP(P:Program)(T:TypeId):Bool:=match P.underlying T with|some .bool=>true|_=>false
def fh(T:TypeId)(neg:Bool)(v w:TV):Zg R:=match v.t with|.bit c=>bif pP Z.P T then(match w with|⟨.bit a,_⟩=>qf n k neg (c==a)|⟨.bool,a⟩=>Ws n k .bool (bif neg then ZA (GZ c a)else GZ c a)|_=>none)else none|.bool=>bif pP Z.P T then Sd .bool v λc=>Lp .bool (.v w) λa=>Ws n k .bool (bif neg then ZA (GZ c a)else GZ c a)else none|t=>bif fg Z.P T t then(match t.Dk with|some d=>Sd t v λc=>Sd t w λa=>Ws n k .bool (bif neg then ZA (Jz d c a)else Jz d c a)|none=>none)else none
def wc(T:TypeId)(neg:Bool)(x y:SV):Zg R:=match x,y with|.v ⟨.hole j,_⟩,.v ⟨.Ub,_⟩=>bif Fm Z.P T then(match ZJ b j with|some ⟨.own t,x⟩=>k ⟨.v ⟨.bit neg,()⟩,[(j,⟨.own t,x⟩)],[],[],n⟩|some ⟨.opt t,x⟩=>k ⟨.v ⟨.bool,bif neg then Ta x else wJ x⟩,[(j,⟨.opt t,x⟩)],[],[],n⟩|_=>none)else none|.v ⟨.Ub,_⟩,.v ⟨.Ub,_⟩=>bif Fm Z.P T then qf n k neg true else none|.Sq _,.v ⟨.Ub,_⟩=>bif Fm Z.P T then qf n k neg false else none|.SP _ _,.v ⟨.Ub,_⟩=>bif Fm Z.P T then qf n k neg false else none|.v ⟨.ptr t,x⟩,.v ⟨.Ub,_⟩=>bif Fm Z.P T then Ws n k .bool (bif neg then Ta x else wJ x)else none|.v ⟨.nz t,l⟩,.v ⟨.Tz,_⟩=>bif OK Z.P T then Ws n k .bool (bif neg then ZA (Fz l)else Fz l)else none|.v ⟨.YT f (.own t),x⟩,.v ⟨.Ub,_⟩=>bif Fm Z.P T then(match ZJ b (Yp f)with|some ⟨.YS a (.own t),xs⟩=>bif Nat.beq f a then Yv x (k ⟨.v ⟨.bit !neg,()⟩,[],[],[],n⟩) λc=>O (ZF xs (Zi c)) λ_=>k ⟨.v ⟨.bit neg,()⟩,[(Yp f,⟨.YS a (.own t),xs⟩)],[],[],n⟩else none|_=>none)else none|.v v,.v w=>fh Z n k T neg v w|_,_=>none
def CD(a:IntKind)(w:Nat):Bool:=CE a&&Nat.beq w a.bits
def iK(T:TypeId)(op:BinOp)(x y:SV):Zg R:=match op,x,y with|.eql,x,y=>wc Z b n k T false x y|.neq,x,y=>wc Z b n k T true x y|.shl,.v ⟨.int,p⟩,y=>Lf y λc=>X7 c (Ws n k .int (SB p c))|.shr,.v ⟨.int,p⟩,y=>Lf y λc=>X7 c (Ws n k .int (QO p c))|.shl,.v ⟨.un a w,p⟩,y=>bif CD a w then Lf y λc=>X7 c (Ws n k (.un a w) (Cm p (Yo c)))else none|.shr,.v ⟨.un a w,p⟩,y=>bif CD a w then Lf y λc=>X7 c (Ws n k (.un a w) (VD p (Yo c)))else none|.add,.v ⟨.int,p⟩,.v ⟨.int,c⟩=>Ws n k .int (Zm (Zv p c))|.sub,.v ⟨.int,p⟩,.v ⟨.int,c⟩=>Ws n k .int (Zm (ZX p c))|.mul,.v ⟨.int,p⟩,.v ⟨.int,c⟩=>Ws n k .int (Zm (VI p c))|.quo,.v ⟨.int,p⟩,.v ⟨.int,c⟩=>Rz c (Ws n k .int (Zm (Sf p c)))|.rem,.v ⟨.int,p⟩,.v ⟨.int,c⟩=>Rz c (Ws n k .int (P9 p c))|.and,.v ⟨.int,p⟩,.v ⟨.int,c⟩=>Ws n k .int (SO p c)|.or,.v ⟨.int,p⟩,.v ⟨.int,c⟩=>Ws n k .int (FE p c)|.xor,.v ⟨.int,p⟩,.v ⟨.int,c⟩=>Ws n k .int (tR p c)|.lss,.v ⟨.int,p⟩,.v ⟨.int,c⟩=>Ws n k .bool (ZC p c)|.leq,.v ⟨.int,p⟩,.v ⟨.int,c⟩=>Ws n k .bool (YP p c)|.gtr,.v ⟨.int,p⟩,.v ⟨.int,c⟩=>Ws n k .bool (ZC c p)|.geq,.v ⟨.int,p⟩,.v ⟨.int,c⟩=>Ws n k .bool (YP c p)|op,.v ⟨.un a w,p⟩,.v v=>bif CD a w then Sd (.un a w) v λc=>match op with|.add=>Ws n k (.un a w) (WO p c)|.sub=>Ws n k (.un a w) (Hz p c)|.mul=>Ws n k (.un a w) (Fw p c)|.quo=>Le (Z7 c) (Ws n k (.un a w) (qB p c))|.rem=>Le (Z7 c) (Ws n k (.un a w) (Nx p c))|.and=>Ws n k (.un a w) (Re p c)|.or=>Ws n k (.un a w) (OS p c)|.xor=>Ws n k (.un a w) (Tq p c)|.lss=>Ws n k .bool (OO p c)|.leq=>Ws n k .bool (OM p c)|.gtr=>Ws n k .bool (OO c p)|.geq=>Ws n k .bool (OM c p)|_=>none else none|_,_,_=>none
def unX(c:UnOp)(x:SV):Zg R:=match c,x with|.not,.v ⟨.bit p,_⟩=>Tn n k (.v ⟨.bit !p,()⟩)|.not,.v ⟨.bool,p⟩=>Ws n k .bool (ZA p)|.neg,.v ⟨.int,p⟩=>Ws n k .int (Zm (ZX 0 p))|.neg,.v ⟨.un a w,p⟩=>bif CD a w then Ws n k (.un a w) (oQ p)else none|.xor,.v ⟨.un a w,p⟩=>bif CD a w then Ws n k (.un a w) (ZfX p)else none|_,_=>none
def HN(P:Program)(T:TypeId):Bool:=match P.underlying T with|some (.slice e)=>(match P.underlying e with|some (.int .u8)=>true|_=>false)|_=>false
def qs(x:SV):Zg R:=match x with
 |.v ⟨.hole j,_⟩=>match ZJ b j with|some ⟨.full (.un .u8 8),l⟩=>AK l (k ⟨.v ⟨.sl (.un .u8 8),l⟩,[],[(j,⟨.full (.un .u8 8),l⟩)],[],n⟩)|_=>none
 |_=>none
def gx(a c:TypeId)(x:SV):Zg R:=bif(Z.P.underlying a).isNone then none else match Z.P.underlying c with
 |some (.int .i64)=>match x with|.v ⟨.int,p⟩=>Ws n k .int (Zm p)|.v ⟨.un _ w,p⟩=>bif Nat.blt w 64then Ws n k .int (Zi (Z7 p))else Ws n k .int (Zm (Zi (Z7 p)))|_=>none
 |some (.int q)=>bif CE q then match x with|.v ⟨.int,p⟩=>Ws n k (.un q q.bits) (Yl q.bits p)|.v ⟨.un _ w,p⟩=>Ws n k (.un q q.bits) (Vl q.bits p)|_=>none else none|some (.slice _)=>bif Nat.beq a c&&HN Z.P a then qs b n k x else none|some .string=>bif HN Z.P a then M8 b (.un .u8 8) x λd f=>k ⟨.v ⟨.str,d⟩,f,[],[],n⟩else none|_=>none
def tC(T:TypeId):Zg Ty:=l7 Z.P Z.ov 12 T
def zW(T:TypeId)(t:Ty):Bool:=vT t&&Go.Sl.S5 Z.P T t.ag t.n
def placeOf:SV->Zg (Nat×L PS)|.SP j p=>some (j,p)|.v ⟨.hole j,_⟩=>some (j,[])|_=>none
def eF(T:TypeId)(x:SV):Zg R:=match x with
 |.Sq v=>bif zW Z T v.t then Tn n k (.v v)else none|.gl g=>match Qa Z.gl g with|some v=>bif zW Z T v.t then Tn n k (.v v)else none|none=>none
 |x=>match placeOf x with|none=>none|some (j,p)=>match GC b j with|none=>none|some v=>Az v p λw=>bif zW Z T w.t then(match w with
    |⟨.opt t,a⟩=>Yv a (k ⟨.v ⟨.Ub,()⟩,[(j,v)],[],[],n⟩) λa=>match Tb (.own t) a n []with|(u,n',l)=>Kw v p u λc=>k ⟨.v u,[],[(j,v)],(j,c)::l,n'⟩
    |w=>bif w.t.plain then k ⟨.v w,[(j,v)],[],[],n⟩else none)else none
def aN(T:TypeId)(x y:SV):Zg R:=match placeOf x,QP y with
 |some (j,p),some y=>match GC b j with|none=>none|some v=>bif Go.Sl.NH Z.P T y.t.n&&vT y.t then bif fK p then match S5 v.t p with|some t=>Ni t y {g:=VA b j} λy a=>Kw v p ⟨t,y⟩ λc=>k ⟨.any,a.q,(j,v)::a.r,(j,c)::a.l,n⟩|none=>none else Kw v p y λc=>k ⟨.any,[],[(j,v)],[(j,c)],n⟩else none
 |_,_=>none
def dH(x:SV):Zg R:=match x with
 |.v ⟨.hole j,_⟩=>match ZJ b j with
  |some ⟨.own t,x⟩=>k ⟨.v ⟨.hole j,()⟩,[(j,⟨.own t,x⟩)],[],[],n⟩|some ⟨.opt t,x⟩=>Yv x none λa=>match Tb t a n []with|(u,n',l)=>k ⟨.v ⟨.hole j,()⟩,[],[(j,⟨.opt t,x⟩)],(j,⟨.own u.t,u.x⟩)::l,n'⟩
  |_=>none
 |.SP j p=>Tn n k (.SP j p)|.Sq v=>Tn n k (.Sq v)|.gl g=>Tn n k (.gl g)|.v ⟨.ptr t,x⟩=>Yv x none λa=>Tn n k (.Sq ⟨t,a⟩)|.v ⟨.YT f (.own t),x⟩=>Yv x none λd=>match ZJ b (Yp f)with|some ⟨.YS c (.own t),xs⟩=>bif Nat.beq f c then O (ZF xs (Zi d)) λ_=>k ⟨.SP (Yp f) [.m d],[(Yp f,⟨.YS c (.own t),xs⟩)],[],[],n⟩else none|_=>none
 |_=>none
def ft(a:TypeId)(x:SV)(f:Nat):Zg R:=match x with
 |.Sq v=>match Aw Z.P a v.t f with|some (p,_)=>bif Go.Sl.DA Z.P a f (Yd p)then Mh v p λc=>Tn n k (.Sq c)else none|none=>none
 |.gl g=>match Qa Z.gl g with|some v=>(match Aw Z.P a v.t f with|some (p,_)=>bif Go.Sl.DA Z.P a f (Yd p)then Mh v p λc=>Tn n k (.Sq c)else none|none=>none)|none=>none
 |.v ⟨.hole j,_⟩=>match ZJ b j with
   |some ⟨.own t,y⟩=>match Aw Z.P a t f with|some (q,_)=>bif Go.Sl.DA Z.P a f (Yd q)&&I9 q then k ⟨.SP j q,[(j,⟨.own t,y⟩)],[],[],n⟩else none|none=>none
   |_=>none
 |.SP j p=>match ZJ b j with
   |some v=>match S5 v.t p with
    |some t=>match Aw Z.P a t f with|some (q,_)=>bif Go.Sl.DA Z.P a f (Yd q)&&I9 q then Tn n k (.SP j (p++q))else none|none=>none
    |none=>none
   |none=>none
 |_=>none
def fT(T:TypeId)(x y:SV):Zg R:=Lf y λc=>match x with
 |.v ⟨.sl t,a⟩=>bif Go.Sl.US Z.P T t.n then O (ZF a c) λy=>Tn n k (.Sq ⟨t,y⟩)else none|.v ⟨.nz t,a⟩=>bif Go.Sl.US Z.P T t.n then O (ZF a c) λy=>Tn n k (.Sq ⟨t,y⟩)else none|.v ⟨.YT f (.full _),x⟩=>Yv x none λm=>match ZJ b (Yp f)with|some ⟨.YS d (.full t),xs⟩=>bif Nat.beq f d&&Go.Sl.US Z.P T t.n then O (ZF xs (Zi m)) λa=>Z4 c (Zi (Zj a)) (k ⟨.SP (Yp f) [.m m,.ix c t.n 0],[(Yp f,⟨.YS d (.full t),xs⟩)],[],[],n⟩)else none|_=>none
 |.Sq ⟨.vec m t,a⟩=>bif Go.Sl.Mb Z.P T m t.n then O (Y1 a c) λy=>Tn n k (.Sq ⟨t,y⟩)else none|.gl g=>match Qa Z.gl g with|some ⟨.vec m t,a⟩=>bif Go.Sl.Mb Z.P T m t.n then O (Y1 a c) λy=>Tn n k (.Sq ⟨t,y⟩)else none|_=>none
 |.v ⟨.hole j,_⟩=>match ZJ b j with|some ⟨.full t,a⟩=>bif Go.Sl.US Z.P T t.n then Z4 c (Zi (Zj a)) (k ⟨.SP j [.ix c t.n 0],[(j,⟨.full t,a⟩)],[],[],n⟩)else none|some ⟨.YU t,a⟩=>bif Go.Sl.US Z.P T t.n then Z4 c (Zi (Zj a)) (k ⟨.SP j [.ix c t.n 0],[(j,⟨.YU t,a⟩)],[],[],n⟩)else none|some ⟨.own (.vec m t),a⟩=>bif Go.Sl.Mb Z.P T m t.n then Z4 c (Zi m) (k ⟨.SP j [.ix c t.n m],[(j,⟨.own (.vec m t),a⟩)],[],[],n⟩)else none|_=>none
 |.SP j p=>match ZJ b j with
  |some v=>match S5 v.t p with|some (.vec m t)=>bif Go.Sl.Mb Z.P T m t.n then Z4 c (Zi m) (Tn n k (.SP j (p++[.ix c t.n m])))else none|_=>none
  |none=>none
 |_=>none
def OR(x:Zg Operand)(d:Int)(k:Int->Zg R):Zg R:=match x with|none=>k d|some a=>Lf (Z9 e a) k
def lC(t:Ty)(xs:L t.den)(lo hi mx:Zg Operand)(k:L t.den->Zg R):Zg R:=match mx with|none=>OR e lo 0 λd=>OR e hi (Zi (Zj xs)) λa=>O (Rh xs d a) k|some c=>match lo,hi with|none,some a=>Lf (Z9 e a) λa=>Lf (Z9 e c) λc=>X7 a (AJ a c (Zi (Zj xs)) (k (YK (Yo a) xs)))|_,_=>none
def aD(fz:Bool)(T:TypeId)(x:SV)(lo hi mx:Zg Operand):Zg R:=bif fz then(match x,mx with
 |.v ⟨.hole j,_⟩,none=>match ZJ b j with|some ⟨.own (.vec m t),v⟩=>bif t.plain&&Go.Sl.Mb Z.P T m t.n then OR e lo 0 λc=>OR e hi (Zi m) λa=>WA c a (Zi m) (k ⟨.v ⟨.sl t,Xo (Yo c) (YK (Yo a) (XK v))⟩,[],[(j,⟨.own (.vec m t),v⟩)],[],n⟩)else none|_=>none
 |_,_=>none)else match x with
 |.v ⟨.Tz,_⟩=>bif OK Z.P T&&mx.isNone then OR e lo 0 λc=>OR e hi 0 λa=>fR c a (Tn n k (.v ⟨.Tz,()⟩))else none|.v ⟨.sl t,xs⟩=>bif Go.Sl.US Z.P T t.n then lC e t xs lo hi mx λd=>Ws n k (.sl t) d else none|.v ⟨.hole j,_⟩=>match ZJ b j with
  |some ⟨.full t,xs⟩=>match lo,mx with|none,none=>bif t.plain&&Go.Sl.US Z.P T t.n then OR e hi (Zi (Zj xs)) λa=>JE a (Zi (Zj xs)) (k ⟨.v ⟨.hole n,()⟩,[],[(j,⟨.full t,xs⟩)],[(n,⟨.full t,YK (Yo a) xs⟩)],n+1⟩)else none|_,_=>none
  |some ⟨.YU t,xs⟩=>bif Go.Sl.US Z.P T t.n then lC e t xs lo hi mx λd=>k ⟨.v ⟨.sl t,d⟩,[(j,⟨.YU t,xs⟩)],[],[],n⟩else none|some ⟨.own (.vec m t),v⟩=>bif mx.isNone&&Go.Sl.Mb Z.P T m t.n then OR e lo 0 λc=>OR e hi (Zi m) λa=>WA c a (Zi m) (k ⟨.sub j [] t.n m c a,[(j,⟨.own (.vec m t),v⟩)],[],[],n⟩)else none|_=>none
 |.SP j p=>match ZJ b j with
  |some v=>match S5 v.t p with|some (.vec m t)=>bif mx.isNone&&Go.Sl.Mb Z.P T m t.n then OR e lo 0 λc=>OR e hi (Zi m) λa=>WA c a (Zi m) (Tn n k (.sub j p t.n m c a))else none|_=>none
  |none=>none
 |.Sq ⟨.vec m t,v⟩=>bif mx.isNone&&Go.Sl.Mb Z.P T m t.n then OR e lo 0 λc=>OR e hi (Zi m) λa=>WA c a (Zi m) (Ws n k (.sl t) (Xo (Yo c) (YK (Yo a) (XK v))))else none|_=>none
def Zes(P:Program)(c f off:Nat)(t:Ty):Bool:=match P.underlying c with
 |some (.struct fs)=>match fs[f]?with|some a=>Nat.beq a.offset off&&(vT t&&Go.Sl.S5 P a.type t.ag t.n)|none=>false
 |_=>false
def fq(a:TypeId)(x:SV)(f:Nat):Zg R:=match x with
 |.v v=>match Aw Z.P a v.t f with|some (p,_)=>bif v.t.ag then Mh v p λc=>bif Zes Z.P a f (Yd p) c.t then Tn n k (.v c)else none else none|none=>none
 |_=>none
def Zc1(P:Program)(T m:Nat)(t:Ty):Bool:=match P.underlying T with|some (.array m' e)=>Nat.beq m m'&&(vT t&&Go.Sl.S5 P e t.ag t.n)|_=>false
def fS(T:TypeId)(x y:SV):Zg R:=match x with|.v ⟨.vec m t,l⟩=>bif Zc1 Z.P T m t then Lf y λa=>O (Y1 l a) λy=>Ws n k t y else none|.v ⟨.str,l⟩=>bif(match Z.P.underlying T with|some .string=>true|_=>false)then Lf y λa=>O (ZF l a) λy=>Ws n k (.un .u8 8) y else none|_=>none
def an(T:TypeId)(x:SV):Zg R:=match Z.P.underlying T with
 |some (.array m _)=>match x with|.v ⟨.sl t,l⟩=>bif Nat.blt 0 m then O (KC m l) λv=>Tn n k (.Sq ⟨.vec m t,v⟩)else none|_=>none
 |_=>none
def A9(mx:Bool):Int->L Operand->Zg R|a,[]=>Ws n k .int a|a,o::l=>match Z9 e o with|.v ⟨.int,x⟩=>A9 mx (bif mx then V3 a x else Tx a x) l|_=>none
end
end
noncomputable section
section
variable {R:Type}(Z:XF)(e:En)(b:Bx)(n:Nat)(k:Ww->Zg R)
def J1(P:Program)(ST n:Nat):Bool:=match P.underlying ST with|some (.slice e)=>Go.Sl.J0 P ST e n|_=>false
def iE(ST XT:TypeId)(x y:SV):Zg R:=bif OK Z.P XT then(match x with
 |.v ⟨.hole j,_⟩=>match ZJ b j with|some ⟨.full t,l⟩=>bif J1 Z.P ST t.n then M8 b t y λa c=>Yt (Zj l) (Zj a) (k ⟨.v ⟨.hole n,()⟩,c,[(j,⟨.full t,l⟩)],[(n,⟨.full t,Ye l a⟩)],n+1⟩)else none|some ⟨.YU t,l⟩=>bif J1 Z.P ST t.n then M8 b t y λa c=>Yt (Zj l) (Zj a) (k ⟨.v ⟨.hole n,()⟩,c,[(j,⟨.YU t,l⟩)],[(n,⟨.YU t,Ye l a⟩)],n+1⟩)else none|_=>none
 |.v ⟨.Tz,_⟩=>match tC Z ST with|some (.sl t)=>bif J1 Z.P ST t.n then M8 b t y λa c=>Yt (Zj ([]:L t.den)) (Zj a) (k ⟨.v ⟨.hole n,()⟩,c,[],[(n,⟨.full t,Ye [] a⟩)],n+1⟩)else none|_=>none
 |_=>none)else none
def kQ(T:TypeId):Zg TV:=match tC Z T with
 |some t=>match HX t with
  |some a=>match Go.Sl.MG Z.P T with
   |some c=>match UZ a.t c with|some []=>some a|_=>none
   |none=>none
  |none=>none
 |none=>none
def dV(t:Ty):Nat->L (Nat×Operand)->CS->(L t.den->CS->Zg R)->Zg R|_,[],a,k=>k [] a|i,(i',o)::ps,a,k=>bif Nat.beq i i' then(match QP (Z9 e o)with|some v=>bif vT v.t then Ni t v a λd a=>dV t (i+1) ps a λc a=>k (d::c) a else none|none=>none)else none
def pY(s:SV)(k:TV->L Nat->Zg R):Zg R:=match s with
 |.sub j p sz m lo hi=>match GC b j with
  |some v=>Az v p λh=>match h with|⟨.vec m' t,x⟩=>bif Nat.beq sz t.n&&Nat.beq m m'&&t.plain then k ⟨.sl t,Xo (Yo lo) (YK (Yo hi) (XK x))⟩ [j]else none|_=>none
  |none=>none
 |.bv g v=>bif vT v.t then k v g else none|.SP j []=>k ⟨.hole j,()⟩ []|.SP j p=>match DV p with|some a=>k ⟨.Um j a,()⟩ []|none=>none
 |.v ⟨.YT f (.full t0),x⟩=>Yv x none λd=>match GC b (Yp f)with|some ⟨.YS c (.full t),xs⟩=>bif Nat.beq f c&&t.plain then O (ZF xs (Zi d)) λa=>k ⟨.sl t,a⟩ [Yp f]else none|_=>none
 |s=>match QP s with|some v=>k v []|none=>none
def vP(t:Ty):Nat->L (Nat×Operand)->CS->L Nat->(L t.den->CS->L Nat->Zg R)->Zg R|_,[],a,c,k=>k [] a c|i,(i',o)::ps,a,c,k=>bif Nat.beq i i' then pY b (Z9 e o) λv d=>bif vT v.t then(match d with|[]=>Ni t v a λg a=>vP t (i+1) ps a c λf a c=>k (g::f) a c|h::d=>U6 t v λg=>vP t (i+1) ps a (h::d++c) λf a c=>k (g::f) a c)else none else none
def iT(ST:TypeId)(len:Nat)(ps:L (Nat×Operand)):Zg R:=match tC Z ST with|some (.sl t)=>bif Nat.beq ps.length len&&(vT t&&(J1 Z.P ST t.n&&Nat.ble (len*t.n) 16777216))then(bif ps.all λf=>(QP (Z9 e f.2)).isSome then dV e t 0 ps {g:=b} λl a=>k ⟨.v ⟨.hole n,()⟩,a.q,a.r,(n,⟨.full t,l⟩)::a.l,n+1⟩else vP e b t 0 ps {g:=b} [] λl a c=>bif t.plain&&c.all λd=>(ZJ a.r d).isNone then(match IR b c with|some r=>k ⟨.bv c ⟨.sl t,l⟩,r++a.q,a.r,a.l,n⟩|none=>none)else none)else none|_=>none
def dT(T:TypeId)(v:TV)(i:Nat):Zg (L PS×Nat):=match v.t with|.vec m t=>bif Nat.blt i m then some ([.ix (Zi i) t.n m],i*t.n)else none|t=>match Aw Z.P T t i with|some (p,_)=>bif I9 p then some (p,Yd p)else none|none=>none
def uR(T:TypeId):TV->L (Nat×Operand)->(TV->Zg R)->Zg R|v,[],k=>k v|v,(i,o)::ps,k=>match QP (Z9 e o),dT Z T v i with|some a,some (p,o)=>bif vT a.t&&(match Go.Sl.placeOf Z.P T i with|some (off,m)=>Nat.beq off o&&Nat.beq m a.t.n|none=>false)then(match v.t with|.vec m t=>Ni t a {g:=[]} λf d=>bif d.p then none else Ps v p ⟨t,f⟩ λc=>uR T c ps k|_=>Ps v p a λc=>uR T c ps k)else none|_,_=>none
def iU(T:TypeId)(ps:L (Nat×Operand)):Zg R:=match kQ Z T with|some a=>bif Go.Sl.iS Z.P T then uR Z e T a ps λv=>bif v.t.ag then Tn n k (.v v)else none else none|none=>none
def iB(T:TypeId):Zg R:=match kQ Z T with|some a=>k ⟨.v ⟨.hole n,()⟩,[],[],[(n,⟨.own a.t,a.x⟩)],n+1⟩|none=>none
def iO(y:SV):Zg R:=match QP y with|some v=>bif vT v.t then k ⟨.v ⟨.hole n,()⟩,[],[],[(n,⟨.own v.t,v.x⟩)],n+1⟩else none|none=>none
def eV(ST:TypeId)(x y:SV):Zg R:=match tC Z ST with
 |some (.sl t)=>match Oi t,Z.P.underlying ST with|some f,some (.slice a)=>bif Go.Sl.J0 Z.P ST a t.n&&(match Go.Sl.MG Z.P a with|some d=>(match UZ t d with|some []=>true|_=>false)|none=>false)then(match x,y with|.v ⟨.int,l⟩,.v ⟨.int,c⟩=>P0 l c (k ⟨.v ⟨.hole n,()⟩,[],[],[(n,⟨.full t,RB (Yo l) f⟩)],n+1⟩)|_,_=>none)else none|_,_=>none
 |_=>none
def gA(T:TypeId)(x y:SV):Zg R:=match x with
 |.sub j p sz m lo hi=>match GC b j with
  |some v=>Az v p λf=>match f with|⟨.vec m' t,x⟩=>bif Nat.beq sz t.n&&Nat.beq m m'&&(t.plain&&Go.Sl.US Z.P T t.n)then M8 b t y λa c=>Kw v p ⟨.vec m' t,Ie x (Yo lo) (YK (Mz hi lo) a)⟩ λd=>k ⟨.v ⟨.int,Zi (oG (Zj a) (Mz hi lo))⟩,c,[(j,v)],[(j,d)],n⟩else none|_=>none
  |none=>none
 |.v ⟨.hole j,_⟩=>match ZJ b j with|some ⟨.full t,x⟩=>bif t.plain&&Go.Sl.US Z.P T t.n then M8 b t y λa c=>k ⟨.v ⟨.int,Zi (oG (Zj a) (Zj x))⟩,c,[(j,⟨.full t,x⟩)],[(j,⟨.full t,Ye (YK (Zj x) a) (Xo (Zj a) x)⟩)],n⟩else none|_=>none
 |_=>none
def fV(P:Program)(e:TypeId)(t:Ty):Bool:=match t,P.underlying e with|.un k _,some (.int k')=>decide (k=k')|_,_=>false
def E3(P:Program)(a m:Nat)(t:Ty):Bool:=match P.underlying a with|some (.array m' e)=>Nat.beq m m'&&(P.plainKey e&&(Go.Sl.NH P e 1&&fV P e t))|_=>false
def wT(P:Program)(a:TypeId):Ty->Bool
 |.int=>match P.underlying a with|some (.int .i64)=>true|_=>false
 |.str=>match P.underlying a with|some .string=>true|_=>false
 |.vec m t=>E3 P a m t&&I6 P 8 a (.vec m t)|_=>false
def zvB(P:Program)(a:TypeId)(t:Ty):Bool:=match(P.info? a).bind (·.zero)with
 |some v=>match t.ag,v with
  |true,.agg cs=>match UZ t cs.toList with|some []=>true|_=>false
  |true,_=>false|false,v=>match UZ t [v]with|some []=>true|_=>false
 |none=>false
def AV(P:Program)(T:TypeId)(a:Ty):Bool:=match P.underlying T with|some (.map c _)=>wT P c a|_=>false
def eY(P:Program)(T:TypeId)(t:Ty):Bool:=match P.underlying T with|some (.map _ a)=>zvB P a t|_=>false
def eI(T:TypeId)(x y:SV)(f:Bool):Zg R:=match x,y with
 |.v ⟨.hole j,_⟩,.v yv=>match ZJ b j with
  |some ⟨.map a t,l⟩=>bif AV Z.P T a&&(eY Z.P T t&&t.plain)then(match a.Dk,Oi t with
   |some c,some z=>Sd a yv λd=>match f with|true=>k ⟨.tc (.v ⟨t,UN (JJ c d l) z⟩) (.tc (.v ⟨.bool,Ta (JJ c d l)⟩) .tn),[(j,⟨.map a t,l⟩)],[],[],n⟩|false=>k ⟨.v ⟨t,UN (JJ c d l) z⟩,[(j,⟨.map a t,l⟩)],[],[],n⟩
   |_,_=>none)else none|_=>none
 |_,_=>none
def eW(T:TypeId)(x y z:SV):Zg R:=match x,y,QP z with
 |.v ⟨.hole j,_⟩,.v yv,some f=>match ZJ b j with|some ⟨.map a t,l⟩=>bif AV Z.P T a&&t.plain then(match a.Dk with|some d=>Sd a yv λq=>Ni t f {g:=VA b j} λz c=>k ⟨.any,c.q,(j,⟨.map a t,l⟩)::c.r,(j,⟨.map a t,dD d q z l⟩)::c.l,n⟩|none=>none)else none|_=>none
 |_,_,_=>none
def qn:L Oper->Zg TypeId
 |[⟨some 2,.assign (.const (.slice none 0 0)),_,_,_,none⟩,⟨some 3,.move (.tmp 0),_,_,_,none⟩,⟨some 4,.binOp .eql T (.tmp 3) (.const (.slice none 0 0)) _,_,_,_,none⟩,⟨some 2,.assign (.const (.slice none 0 0)),_,_,_,none⟩,⟨some 5,.buildSlice a 0 ps,_,_,_,none⟩,⟨some 6,.move (.tmp 0),_,_,_,none⟩,⟨some 7,.call c,_,_,_,none⟩,⟨some 2,.assign (.tmp 7),_,_,_,none⟩]=>match c.callee,c.args.toList,c.argTypes.toList with|.builtin .append,[.tmp 5,.tmp 6],[d,f]=>bif Nat.beq T a&&(Nat.beq T d&&(Nat.beq T f&&ps.isEmpty))then some T else none|_,_,_=>none
 |_=>none
def qo(P:Program)(f:FuncId):Zg TypeId:=match P.funcs[f]?with
 |some g=>match g.body,g.results.toList,g.ntmps with|some (.seq (.region _ a false) (.seq (.seq (.region _ b false) (.cond (.tmp 4) (.seq (.region _ c false) .ret) .skip)) (.seq (.region _ d false) .ret))),[.tmp 2],8=>bif Nat.beq a.size 1&&(Nat.beq b.size 2&&Nat.beq c.size 1)then qn (a.toList++(b.toList++(c.toList++d.toList)))else none|_,_,_=>none
 |none=>none
def i8(f:FuncId)(T':TypeId)(x:SV):Zg R:=match tC Z T',qo Z.P f with|some (.sl t),some T=>bif t.plain&&(J1 Z.P T t.n&&(OK Z.P T&&Go.Sl.Jk Z.P f))then M8 b t x λa c=>Yt 0 (Zj a) (k ⟨.v ⟨.hole n,()⟩,c,[],[(n,⟨.full t,a⟩)],n+1⟩)else none|_,_=>none
def tA:L SV->Zg TV|[]=>some ⟨.nl,()⟩|s::l=>match QP s,tA l with|some v,some w=>some ⟨.cons v.t w.t,(v.x,w.x)⟩|_,_=>none
def qh:(l:L (Nat×Ty))->CS->((TJ l).den->CS->Zg R)->Zg R|[],a,k=>k () a|(i,t)::l,a,k=>match(bif Nat.blt i 1000then Td a.s i else some i)with|some c=>QQ a c λd a=>VK t d a λf a=>qh l a λg a=>k (f,g) a|none=>none
def Lm:(t:Ty)->t.den->Nat->Bx->SV×Nat×Bx
 |.cons a c,x,n,b=>match Ln a x.1 n b with|(u,n,b)=>match Lm c x.2 n b with|(w,n,b)=>(.tc u w,n,b)
 |_,_,n,b=>(.tn,n,b)
def one:SV->SV|.tc a .tn=>a|s=>s
def Dy:Ty->Ty->Bool|.cons a b,.cons c d=>Dy a c&&Dy b d|.hole _,.hole _=>true|.hole _,.YT _ _=>true|.Um _ _,.Um _ _=>true|.Um _ _,_=>false|.Ub,.Ub=>true|.Ub,_=>false|.fn f a b,.fn g c d=>Nat.beq f g&&(Dy a c&&Dy b d)|.fn _ _ _,_=>false|.nl,.nl=>true|.Tz,.Tz=>true|.hole _,_=>false|_,_=>true
def Kk:L (L Nat)->Bool|(_::_)::_=>true|_=>false
def E6:Ty->TV->L (L Nat)->CS->(TV->CS->Zg R)->Zg R
 |.cons (.hole _) A,⟨.cons b B,x⟩,d,a,k=>match b,x with|.YT f (.own u),x=>bif Kk d then none else Yv x.1 none λg=>QQ a (Yp f) λj a=>Sd (.YS f (.own u)) j λh=>O (ZF h (Zi g)) λm=>bif(ZJ a.g a.n).isNone&&Nat.blt a.n 1000then E6 A ⟨B,x.2⟩ d.tail {a with n:=a.n+1,l:=(a.n,⟨.own u,m⟩)::a.l,f:=(a.n,f,g,⟨.YS f (.own u),h⟩)::a.f} λc i=>k ⟨.cons (.hole a.n) c.t,((),c.x)⟩ i else none|b,x=>E6 A ⟨B,x.2⟩ d.tail a λc a=>k ⟨.cons b c.t,(x.1,c.x)⟩ a
 |.cons _ A,⟨.cons b B,x⟩,d,a,k=>E6 A ⟨B,x.2⟩ d.tail a λc a=>k ⟨.cons b c.t,(x.1,c.x)⟩ a|_,v,d,a,k=>k v a
def I0:(A:Ty)->TV->L (L Nat)->CS->(A.den->CS->Zg R)->Zg R
 |.cons t A,⟨.cons h g,x⟩,c,a,k=>match Kk c with|true=>U6 t ⟨h,x.1⟩ λd=>I0 A ⟨g,x.2⟩ c.tail a λf a=>k (d,f) a|false=>VK t ⟨h,x.1⟩ a λd a=>I0 A ⟨g,x.2⟩ c.tail a λf a=>k (d,f) a
 |.nl,⟨.nl,_⟩,_,a,k=>k () a|_,_,_,_,_=>none
def xq:L (Nat×Nat×Nat×TV)->Bx->(Bx->Zg R)->Zg R|[],l,k=>k l|(i,f,m,w)::fs,l,k=>match ZJ l i,w with|some a,⟨.YS c (.own u),xs⟩=>bif Nat.beq f c then Sd (.own u) a λa=>xq fs ((Yp f,⟨.YS f (.own u),Xc xs m a⟩)::VA l i) k else none|_,_=>none
def pZ(i:Nat):L (Nat×Nat×Nat×TV)->Bool|[]=>false|(j,_)::l=>Nat.beq i j||pZ i l
def Hw(s:L (Nat×Nat))(fs:L (Nat×Nat×Nat×TV)):(l:L (Nat×Ty))->(TJ l).den->Nat->Bx->Nat×Bx|[],_,n,b=>(n,b)|(i,t)::l,x,n,b=>match(bif Nat.blt i 1000then Td s i else some i).getD 0,OT s t x.1with|j,v=>bif pZ j fs then Hw s fs l x.2 n ((j,v)::b)else match JO j v n b with|(n,b)=>Hw s fs l x.2 n b
def Rw(s:L (Nat×Nat)):Ty->Bool|.hole i=>!Nat.blt i 1000||(Td s i).isSome|.Um i _=>!Nat.blt i 1000||(Td s i).isSome|.vec _ t=>Rw s t|.pair a b=>Rw s a&&Rw s b|.only t=>Rw s t|.sl t=>Rw s t|.ptr t=>Rw s t|.YT _ t=>Rw s t|.fn _ a c=>Rw s a&&Rw s c|.own t=>Rw s t|.opt t=>Rw s t|.full t=>Rw s t|.YU t=>Rw s t|.map a b=>Rw s a&&Rw s b|.YS _ t=>Rw s t|.cons a b=>Rw s a&&Rw s b|_=>true
def Ci:Ty->Bool|.hole _=>true|.pair a b=>Ci a&&Ci b|.only t=>Ci t|.own t=>Ci t|t=>t.nh
def DX(s:L (Nat×Nat))(D:L (Nat×Ty)):Bool:=D.all λa=>Rw s a.2&&(Ci a.2&&(I8 a.1 a.2&&(!Nat.blt a.1 1000||(Td s a.1).isSome)))
def FA(c:CS)(B:L (Nat×Ty)):Bool:=B.all λa=>Nat.blt a.1 1000||(c.r.any λd=>Nat.beq d.1 a.1)&&(!(c.f.any λf=>Nat.beq (Yp f.2.1) a.1)&&!c.l.any λd=>Nat.beq d.1 a.1)
def iV(c:FC)(v:TV)(d:L (L Nat)):Zg R:=E6 c.A v d {g:=b,n:=n} λv a=>I0 c.A v d a λi a=>qh c.B a λh a=>bif c.C.nh&&(DX a.s c.D&&(DX a.s c.B&&FA a c.B))then O (c.m i h) λr=>match IR b d.flatten with|none=>none|some q=>bif d.flatten.isEmpty||(Uy c.C&&Uy (TJ (bif c.u&&a.p then c.B else c.D))&&d.flatten.all λf=>(ZJ a.r f).isNone&&(ZJ a.q f).isNone)then bif c.u then bif a.p then match Hw a.s a.f c.B h a.n a.l with|(n,l)=>match Lm c.C (c.dec r).1 n l with|(u,n',l)=>xq a.f l λl=>k ⟨one u,q++a.q,a.r,l,n'⟩else match Lm c.C (c.dec r).1 a.n []with|(u,n',l)=>k ⟨one u,q++(a.q++a.r),[],l,n'⟩else match Hw a.s a.f c.D (c.dec r).2 a.n a.l with|(n,l)=>match Lm c.C (c.dec r).1 n l with|(u,n',l)=>xq a.f l λl=>k ⟨one u,q++a.q,a.r,l,n'⟩else none else none
def Jl(f:FuncId)(v:TV)(c:L (L Nat)):L FC->Zg R|[]=>none|a::l=>bif Nat.beq a.f f&&Dy a.A v.t then iV b n k a v c else Jl f v c l
def ph(f:FuncId)(A:Ty)(l:L FC):Bool:=l.any λa=>Nat.beq a.f f&&(Dy a.A A&&match a.A with|.cons .Ub _=>true|.cons _ (.cons .Ub _)=>true|_=>false)
def qj(f:FuncId)(v:TV)(c:L (L Nat))(l:L FC):Zg R:=match v with|⟨.cons (.YT g u) B,x⟩=>bif ph f (.cons .Ub B) l then Yv x.1 (Jl b n k f ⟨.cons .Ub B,((),x.2)⟩ c l) λ_=>Jl b n k f ⟨.cons (.YT g u) B,x⟩ c l else Jl b n k f ⟨.cons (.YT g u) B,x⟩ c l|⟨.cons a (.cons (.YT g u) B),x⟩=>bif ph f (.cons a (.cons .Ub B)) l then Yv x.2.1 (Jl b n k f ⟨.cons a (.cons .Ub B),(x.1,((),x.2.2))⟩ c l) λ_=>Jl b n k f ⟨.cons a (.cons (.YT g u) B),x⟩ c l else Jl b n k f ⟨.cons a (.cons (.YT g u) B),x⟩ c l|v=>Jl b n k f v c l
def rZ:L SV->(TV->L (L Nat)->Zg R)->Zg R|[],k=>k ⟨.nl,()⟩ []|s::l,k=>pY b s λv c=>rZ l λa d=>k ⟨.cons v.t a.t,(v.x,a.x)⟩ (c::d)
def Kl:Ty->Nat|.cons _ b=>Kl b+1|_=>0
def Gz:(a:Ty)->a.den->TV->TV
 |.cons a c,x,v=>match Gz c x.2 v with|w=>⟨.cons a w.t,(x.1,w.x)⟩
 |_,_,v=>v
def dK:SV->Nat->SV|.tc a _,0=>a|.tc _ b,i+1=>dK b i|_,_=>.any
def lV:SV->Nat|.tc _ s=>lV s+1|_=>0
def fj(x:SV)(i:Nat):Zg R:=match x with|.tc a s=>bif Nat.blt i (lV (.tc a s))then Tn n k (dK (.tc a s) i)else none|_=>none
def fzB(Z:XF):Operand->Bool|.tmp t=>Z.fz.any (Nat.beq t)|_=>false
def Mo(o:Op):Zg R:=match o with
 |.move x=>Tn n k (Z9 e x)|.assign x=>Tn n k (Z9 e x)|.pick c x h=>match Z9 e c with|.v ⟨.bit true,_⟩=>Tn n k (Z9 e x)|.v ⟨.bit false,_⟩=>Tn n k (Z9 e h)|.v ⟨.bool,c⟩=>Lp .bool (Z9 e x) λx=>Lp .bool (Z9 e h) λh=>Ws n k .bool (Zdo c x h)|_=>none
 |.binOp op T x h _=>iK Z b n k T op (Z9 e x) (Z9 e h)|.unOp op _ x=>unX n k op (Z9 e x)|.convert s d x=>gx Z b n k s d (Z9 e x)|.alloc T=>iB Z n k T|.box _ h=>iO n k (Z9 e h)|.build T ps=>iU Z e n k T ps.toList|.buildSlice T j ps=>iT Z e b n k T j ps.toList|.load T x=>eF Z b n k T (Z9 e x)|.store T x h=>aN Z b n k T (Z9 e x) (Z9 e h)|.nilCheck x=>dH b n k (Z9 e x)|.fieldAddr S x f=>ft Z b n k S (Z9 e x) f|.field S x f=>fq Z n k S (Z9 e x) f|.indexAddr T x h=>fT Z b n k T (Z9 e x) (Z9 e h)|.index T x h=>fS Z n k T (Z9 e x) (Z9 e h)|.slice T x lo hi mx=>aD Z e b n k (fzB Z x) T (Z9 e x) lo hi mx|.sliceToArrayPointer T x=>an Z n k T (Z9 e x)|.makeSlice T x h=>eV Z n k T (Z9 e x) (Z9 e h)|.makeMap T none=>match Zap Z.ov T with|some (.map a t)=>k ⟨.v ⟨.hole n,()⟩,[],[],[(n,⟨.map a t,[]⟩)],n+1⟩|_=>none
 |.makeFunc (.func f) first cs=>match tA (first.toList.map (Z9 e)),tA (cs.toList.map (Z9 e))with|some l,some v=>Tn n k (.v ⟨.fn f l.t v.t,(l.x,v.x)⟩)|_,_=>none
 |.lookup T x h ok=>eI Z b n k T (Z9 e x) (Z9 e h) ok|.mapUpdate T x h z=>eW Z b n k T (Z9 e x) (Z9 e h) (Z9 e z)|.extract x i=>fj n k (Z9 e x) i|.call c=>match c.callee with
  |.builtin .len=>match c.args.toList,c.argTypes.toList with|[x],[T]=>bif OK Z.P T then pX b (Z9 e x) λj p=>k ⟨.v ⟨.int,j⟩,p,[],[],n⟩else none|_,_=>none
  |.builtin .cap=>match c.args.toList,c.argTypes.toList with|[x],[T]=>(match Z9 e x with|.v ⟨.Tz,_⟩=>bif OK Z.P T then Ws n k .int 0 else none|_=>none)|_,_=>none
  |.builtin .append=>match c.args.toList,c.argTypes.toList with|[x,h],[T,U]=>iE Z b n k T U (Z9 e x) (Z9 e h)|_,_=>none
  |.builtin .copy=>match c.args.toList,c.argTypes.toList with|[x,h],[T,_]=>gA Z b n k T (Z9 e x) (Z9 e h)|_,_=>none
  |.builtin .max=>match c.args.toList with|x::j=>(match Z9 e x with|.v ⟨.int,x⟩=>A9 e n k true x j|_=>none)|_=>none
  |.builtin .min=>match c.args.toList with|x::j=>(match Z9 e x with|.v ⟨.int,x⟩=>A9 e n k false x j|_=>none)|_=>none
  |.value g=>match Z9 e g with|.v ⟨.fn f a d,x⟩=>bif Z.cl.any (Nat.beq f)then(match a,d,c.args.toList,c.argTypes.toList with|.nl,.nl,[h],[T]=>i8 Z b n k f T (Z9 e h)|_,_,_,_=>none)else rZ b (c.args.toList.map (Z9 e)) λv m=>qj b n k f (rX ⟨a,x.1⟩ (rX v ⟨d,x.2⟩)) (List.replicate (Kl a) []++m) Z.tb|_=>none
  |_=>none
 |_=>none
where rX(v w:TV):TV:=Gz v.t v.x w
end
def OQ:L Nat->Nat->Bool|[],_=>false|a::l,x=>Nat.beq a x||OQ l x
def Kr(r:Bx):En->En|[]=>[]|(t,s)::e=>match s with|.bv a v=>bif r.any λb=>OQ a b.1then(t,.any)::Kr r e else(t,.bv a v)::Kr r e|s=>(t,s)::Kr r e
def meets(a b:L Nat):Bool:=a.any (OQ b)
def Us:SV->L Nat|.bv a _=>a|_=>[]
structure xg where
 i:Nat
 rd:List Nat
 wr:List Nat
structure XS where
 e:En
 b:Bx
 n:Nat
 d:List Nat:=[]tr:List xg:=[]al:Option (List Nat×Nat):=none
def XS.app(s:XS)(d:Zg Tmp)(f:Ww):XS:={s with e:=(bif f.r.isEmpty&&f.w.isEmpty thenλe=>e else Kr (f.r++f.w)) ((match d with|some d=>λe=>(d,f.v)::e|none=>λe=>e) s.e),b:=f.w++Wm f.r s.b,n:=f.n,d:=f.r.map (·.1)++s.d}
section
variable {R:Type}(Z:XF)
def Fe(a:L Oper)(j:Nat):Nat:=(a[j]?.bind (·.dst)).getD 0
def zE(j:Nat):L (Nat×Oper)->Zg (L (Nat×Oper)×L (Nat×Oper))|[]=>none|(i,o)::l=>match o.op,o.guard with|.pick ..,some (a,_)=>bif Nat.beq j a then(match zE j l with|some (g,r)=>some ((i,o)::g,r)|none=>none)else some ([(i,o)],l)|.pick ..,none=>some ([(i,o)],l)|_,_=>match zE j l with|some (g,r)=>some ((i,o)::g,r)|none=>none
def Hd:L (Nat×Oper)->Nat|[]=>0|[(_,o)]=>o.dst.getD 0|_::l=>Hd l
def Hb:L (Nat×Oper)->En->En|[],e=>e|(_,o)::l,e=>Hb l (match o.dst with|some a=>(a,.any)::e|none=>e)
def Cl(t:Nat)(v:Bool)(s:XS):XS:={s with e:=(t,.v ⟨.bit v,()⟩)::s.e}
def qF(a:L Oper)(i:Nat)(o:Oper)(rd wr:L Nat):L xg->Bool|[]=>true|x::l=>(!(meets wr (x.rd++x.wr)||meets rd x.wr)||(Go.Sl.marks a i (Go.Sl.UL o)).contains x.i)&&qF a i o rd wr l
def zw(e:En)(o:Op)(f:Ww):L Nat:=f.rd.map (·.1)++(Us f.v++o.operands.toList.flatMap λa=>Us (Z9 e a))
def SS:Ty->L Nat|.hole j=>[j]|.Um j _=>[j]|.vec _ t=>SS t|.pair a b=>SS a++SS b|.only t=>SS t|.sl t=>SS t|.nz t=>SS t|.ptr t=>SS t|.YT f t=>Yp f::SS t|.fn _ a c=>SS a++SS c|.own t=>SS t|.opt t=>SS t|.full t=>SS t|.YU t=>SS t|.map a b=>SS a++SS b|.YS f t=>SS t|.cons a b=>SS a++SS b|_=>[]
def fQ:SV->L Nat|.v c=>SS c.t|.SP j _=>[j]|.sub j _ _ _ _ _=>[j]|.Sq c=>SS c.t|.bv d c=>d++SS c.t|.tc a b=>fQ a++fQ b|_=>[]
def mD(b:Bx):Nat->L Nat->L Nat|0,l=>l|n+1,l=>mD b n (l++l.flatMap λc=>match ZJ b c with|some v=>(SS v.t).filter λa=>!OQ l a|none=>[])
def Zpo(s:XS)(g:L (Nat×Oper)):L Nat:=mD s.b 5 (g.flatMap λb=>b.2.op.operands.toList.flatMap λa=>fQ (Z9 s.e a))
def ng(n:Nat)(f:Ww):Bx->Bool|[]=>true|p::l=>((f.r.any λa=>Nat.beq a.1 p.1)||Nat.ble n p.1&&Nat.blt p.1 f.n)&&(!(l.any λa=>Nat.beq a.1 p.1)&&ng n f l)
def vJ(n:Nat)(f:Ww):Bool:=Nat.blt f.n 500&&(ng n f f.w&&(Us f.v).all λa=>(Nat.blt a f.n||!Nat.blt a 500)&&!(f.r++f.w).any λb=>Nat.beq b.1 a)
def dP(dr:Bool)(f:Ww)(b:L Nat):Zg (L Nat×Nat)->Bool|none=>true|some a=>f.r.isEmpty&&(Nat.ble f.n a.2&&(!dr||f.w.isEmpty&&b.all (OQ a.1)))
def lJ(a:L Oper)(dr:Bool)(i:Nat)(o:Oper)(s:XS)(f:Ww)(k:XS->Zg R):Zg R:=bif vJ s.n f&&dP dr f (zw s.e o.op f) s.al then(bif dr then(bif qF a i o (zw s.e o.op f) (f.r.map (·.1)++f.w.map (·.1)) s.tr then k {s.app o.dst f with tr:=⟨i,zw s.e o.op f,f.r.map (·.1)++f.w.map (·.1)⟩::s.tr}else none)else k (s.app o.dst f))else none
def ZaP(A:L Nat)(l:L (Nat×Oper))(tr:L xg):L xg:=l.map (λa=>⟨a.1,A,[]⟩)++tr
def gN:Nat:=12
def gM:Nat:=2
def N9(dr:Bool)(g:L (Nat×Oper))(s:XS):L Nat×Nat:=match s.al with|some a=>(a.1,s.n+gM)|none=>(bif dr then Zpo s g else[],s.n+gN)
def iA(s:XS):Bool:=match s.al with|some a=>Nat.ble (s.n+gM) a.2|none=>true
def Pn(c:L Oper)(dr:Bool):Nat->(R:Type)->L (Nat×Oper)->XS->(XS->Zg R)->Zg R|0,_,_,_,_=>none|_+1,_,[],a,k=>k a|m+1,R,(i,o)::l,a,k=>match o.guard with|none=>Mo Z a.e a.b a.n (λf=>lJ c dr i o a f λa=>Pn c dr m R l a k) o.op|some (j,p)=>bif(c[j]?.bind (·.dst)).isSome then match Yw a.e (Fe c j)with
   |.v ⟨.bit b,_⟩=>bif b==p then Mo Z a.e a.b a.n (λf=>lJ c dr i o a f λa=>Pn c dr m R l a k) o.op else Pn c dr m R l {a with e:=match o.dst with|some d=>(d,.un)::a.e|none=>a.e} k|.un=>Pn c dr m R l {a with e:=match o.dst with|some d=>(d,.un)::a.e|none=>a.e} k|.v ⟨.bool,b⟩=>bif OQ Z.sp (Fe c j)then Zf b (Pn c dr m R ((i,o)::l) (Cl (Fe c j) true a) k) (Pn c dr m R ((i,o)::l) (Cl (Fe c j) false a) k)else match zE j ((i,o)::l)with|none=>none|some (g,r)=>bif iA a then O (Zf b (Pn c dr m Bool g {Cl (Fe c j) true a with al:=some (N9 dr g a)} λh=>Lp .bool (Yw h.e (Hd g)) some) (Pn c dr m Bool g {Cl (Fe c j) false a with al:=some (N9 dr g a)} λh=>Lp .bool (Yw h.e (Hd g)) some)) λq=>Pn c dr m R r {a with e:=(Hd g,.v ⟨.bool,q⟩)::Hb g a.e,n:=(N9 dr g a).2,tr:=bif dr then ZaP (N9 dr g a).1 g a.tr else a.tr} k else none
   |_=>none else none
def TH:Nat->L Oper->L (Nat×Oper)|_,[]=>[]|i,o::l=>(i,o)::TH (i+1) l
def qL(l:L Oper):Bool:=Go.Sl.Mf l l.length&&Go.Sl.An l
end
inductive Ex where|Vt|exit(id:Nat)|ret
def TG:L HI->Ty|[]=>.nl|[h]=>h.ty|h::h'::l=>.pair h.ty (TG (h'::l))
def hiV(s:XS)(h:HI):Zg TV:=QP (Yw s.e h.t)
section
variable {R:Type}(Z:XF)
def TU(n:Nat):Ty->Bool|.hole i=>Nat.blt i n|.Um i _=>Nat.blt i n|.vec _ t=>TU n t|.pair a b=>TU n a&&TU n b|.only t=>TU n t|.sl t=>TU n t|.nz t=>TU n t|.ptr t=>TU n t|.YT _ t=>TU n t|.fn _ a c=>TU n a&&TU n c|.own t=>TU n t|.opt t=>TU n t|.full t=>TU n t|.YU t=>TU n t|.map a b=>TU n a&&TU n b|.YS _ t=>TU n t|.cons a b=>TU n a&&TU n b|_=>true
def Ua(h:HI):Bool:=h.b&&!Nat.blt h.t 1000
def pH(a:Nat)(s:XS)(h:HI)(c:CS)(k:h.ty.den->CS->Zg R):Zg R:=bif Ua h then QQ c h.t λb c=>U6 h.ty b λd=>k d c else match hiV s h with|some v=>bif TU a h.ty&&(!h.b||Nat.beq h.ty.n 1&&!h.ty.ag)then Ni h.ty v c k else none|none=>none
def Hq(b:Nat)(s:XS):(l:L HI)->CS->((TG l).den->CS->Zg R)->Zg R|[],a,k=>k () a|[h],a,k=>pH b s h a k|h::h'::l,a,k=>pH b s h a λc a=>Hq b s (h'::l) a λd a=>k (c,d) a
def Dp(s:XS):L HI->Bx->L Nat->(Bx->L Nat->Zg R)->Zg R|[],b,d,k=>k b d|h::l,b,d,k=>match h.b,Yw s.e h.t with|false,.v ⟨.hole j,_⟩=>bif Nat.blt j 1000then Dp s l (VA b j) (j::d) k else Dp s l b d k|_,_=>Dp s l b d k
def Wu(h:HI)(x:h.ty.den)(s:XS):XS:=match h.b with
 |true=>bif Ua h then{s with b:=(h.t,⟨h.ty,x⟩)::s.b,d:=h.t::s.d}else match Yw s.e h.t with|.v ⟨.hole j,_⟩=>bif Nat.blt j 1000then match JO j ⟨h.ty,x⟩ s.n s.b with|(n,b)=>{s with n:=n,b:=b,d:=j::s.d}else s|_=>s
 |false=>match Ln h.ty x s.n s.b with|(v,n,b)=>{s with e:=(h.t,v)::s.e,n:=n,b:=b}
def unpack:(l:L HI)->(TG l).den->XS->XS|[],_,s=>s|[h],x,s=>Wu h x s|h::h'::l,x,s=>unpack (h'::l) x.2 (Wu h x.1 s)
def oP:Bx->Bool|[]=>true|p::l=>!(l.any λa=>Nat.beq a.1 p.1)&&oP l
def Ob(s:XS)(k:XS->Zg R):Zg R:=bif oP s.b&&(Nat.ble s.n 500&&s.b.all λa=>Nat.blt a.1 s.n||!Nat.blt a.1 500)then k s else none
def Fb:Code->Bool|.ret=>false|.exit _=>false|.seq a b=>Fb a&&Fb b|.cond _ a b=>Fb a||Fb b|_=>true
def I7(id:Nat):Code->Bool|.ret=>true|.exit i=>!Nat.beq i id|.seq a b=>I7 id a||I7 id b|.cond _ a b=>I7 id a||I7 id b|.block i a=>G0 id i a|.loop a=>I7 id a|.scope a=>I7 id a|_=>false
where G0(id i:Nat):Code->Bool|.ret=>true|.exit j=>!Nat.beq j id&&!Nat.beq j i|.seq a b=>G0 id i a||G0 id i b|.cond _ a b=>G0 id i a||G0 id i b|.block j a=>G0 id i a|.loop a=>G0 id i a|.scope a=>G0 id i a|_=>false
def XH:Code->L Nat->L Nat|.region _ ops _,c=>ops.toList.foldl (λc e=>match e.dst with|some d=>d::c|none=>c) c|.seq a b,c=>XH a (XH b c)|.cond _ a b,c=>XH a (XH b c)|.block _ a,c=>XH a c|.loop a,c=>XH a c|.scope a,c=>XH a c|_,c=>c
def Rg(l:L Nat):En->En|[]=>[]|(t,s)::e=>bif OQ l t then Rg l e else match s with|.bv _ _=>(t,.any)::Rg l e|s=>(t,s)::Rg l e
def Fo(b:Bx)(d:L Nat):Bool:=b.all λa=>!OQ d a.1
def keyOf:Operand->Nat|.tmp t=>t|_=>0
def Ry(c:Nat)(a:Bx)(l:L HI)(s:XS)(k:(TG l).den->Zg R):Zg R:=bif Fo a s.d then Hq c s l {g:=s.b} λd b=>bif Fo a (b.r.map (·.1))then k d else none else none
def exec:Code->(R:Type)->XS->(Ex->XS->Zg R)->Zg R
 |.skip,_,c,K=>K .Vt c|.region _ ops dr,R,c,K=>bif !dr||qL ops.toList then Pn Z ops.toList dr (ops.size+60) R (TH 0 ops.toList) {c with tr:=[],al:=none} (K .Vt)else none|.seq a b,R,c,K=>exec a R c λx c=>match x with|.Vt=>exec b R c K|x=>K x c
 |.cond k A B,R,c,K=>match Z9 c.e k with
  |.v ⟨.bit b,_⟩=>bif b then exec A R c K else exec B R c K|.v ⟨.bool,b⟩=>match fM Z.hs (10000+keyOf k)with|some l=>bif Fb A&&Fb B then Hq c.n c (l.filter (·.b)) {g:=c.b} λ_ k=>Dp c l k.g (k.r.map (·.1)++c.d) λo q=>O (Zf b (exec A (TG l).den {c with d:=[]} λx h=>match x with|.Vt=>Ry c.n o l h some|_=>none) (exec B (TG l).den {c with d:=[]} λx h=>match x with|.Vt=>Ry c.n o l h some|_=>none)) λf=>Ob (unpack l f {e:=Rg (XH A (XH B [])) c.e,b:=o,n:=c.n,d:=q}) (K .Vt)else Zf b (exec A R c K) (exec B R c K)|none=>Zf b (exec A R c K) (exec B R c K)
  |_=>none
 |.block id a,R,c,K=>match a with
  |.loop body=>match fM Z.hs id with
   |none=>none|some l=>Hq c.n c l {g:=c.b} λf k=>let j:XS:={e:=Rg (XH body []) c.e,b:=k.l++k.g,n:=c.n,d:=[]}
    let m:XS:={j with d:=k.r.map (·.1)++c.d}
    bif I7 id body then X4 (X3 (λf=>Ob (unpack l f j) λp=>exec body (LR (TG l).den R) p λx h=>match x with|.Vt=>Ry j.n j.b l h λf=>some (.next f)|.exit i=>bif Nat.beq i id then Ry j.n j.b l h λf=>some (.brk f)else O (K (.exit i) {h with d:=h.d++m.d}) λr=>some (.ret r)|.ret=>O (K .ret {h with d:=h.d++m.d}) λr=>some (.ret r)) f) λf=>Ob (unpack l f m) (K .Vt)else O (YE (λf=>Ob (unpack l f j) λp=>exec body (LR (TG l).den Empty) p λx h=>match x with|.Vt=>Ry j.n j.b l h λf=>some (.next f)|.exit i=>bif Nat.beq i id then Ry j.n j.b l h λf=>some (.brk f)else none|.ret=>none) f) λf=>Ob (unpack l f m) (K .Vt)
  |a=>exec a R c λx c=>match x with|.exit i=>bif Nat.beq i id then K .Vt c else K (.exit i) c|x=>K x c
 |.exit i,_,c,K=>K (.exit i) c|.ret,_,c,K=>K .ret c|.scope a,R,c,K=>exec a R c K|.label _,_,c,K=>K .Vt c|_,_,_,_=>none
def qK(N:Nat)(l:L Oper):Bool:=l.all λb=>match b.dst with|some a=>Nat.blt a N|none=>true
def Nh(N:Nat):Code->Bool|.region _ ops _=>qK N ops.toList|.seq a b=>Nh N a&&Nh N b|.cond _ a b=>Nh N a&&Nh N b|.block _ a=>Nh N a|.loop a=>Nh N a|.scope a=>Nh N a|_=>true
def nP(i:Nat):Bool:=Nat.blt i 100||!Nat.blt i 500
def TB:Ty->Bool|.hole i=>nP i|.Um i _=>nP i|.vec _ t=>TB t|.pair a b=>TB a&&TB b|.only t=>TB t|.sl t=>TB t|.nz t=>TB t|.ptr t=>TB t|.YT _ t=>TB t|.fn _ a c=>TB a&&TB c|.own t=>TB t|.opt t=>TB t|.full t=>TB t|.YU t=>TB t|.map a b=>TB a&&TB b|.YS _ t=>TB t|.cons a b=>TB a&&TB b|_=>true
def Hl(l:L (Nat×Ty)):Bool:=l.all λa=>nP a.1&&TB a.2
def ZeN(f:Func)(a:Code)(A:Ty)(B:L (Nat×Ty))(C:Ty)(D:L (Nat×Ty)):Bool:=TB A&&(Hl B&&(TB C&&(Hl D&&(Nat.ble (Kl A) f.ntmps&&Nh f.ntmps a))))
def Ph:(A:Ty)->A.den->Nat->Nat->Bx->En->XS
 |.cons a c,x,i,n,b,e=>match Ln a x.1 n b with|(v,n,b)=>Ph c x.2 (i+1) n b ((i,v)::e)
 |_,_,_,n,b,e=>{e:=e,b:=b,n:=n}
def xT:(l:L (Nat×Ty))->(TJ l).den->Nat->Bx->Nat×Bx|[],_,n,b=>(n,b)|(i,t)::l,x,n,b=>match JO i ⟨t,x.1⟩ n b with|(n,b)=>xT l x.2 n b
def Mu(s:XS):(C:Ty)->L ResultVar->CS->(C.den->CS->Zg R)->Zg R
 |.cons t C,r::rs,a,k=>match r with
  |.tmp u=>match QP (Yw s.e u)with|some v=>Ni t v a λc a=>Mu s C rs a λd a=>k (c,d) a|none=>none
  |.cell u T=>match Yw s.e u with
   |.v ⟨.hole j,_⟩=>QQ a j λb a=>match b with|⟨.own u,b⟩=>bif zW Z T u then Ni t ⟨u,b⟩ a λc a=>Mu s C rs a λd a=>k (c,d) a else none|_=>none
   |_=>none
 |.nl,[],a,k=>k () a|_,_,_,_=>none
def E8:(l:L (Nat×Ty))->CS->((TJ l).den->CS->Zg R)->Zg R|[],a,k=>k () a|(i,t)::l,a,k=>QQ a i λb a=>Ni t b a λc a=>E8 l a λd a=>k (c,d) a
def dx(f:Func)(u:Bool)(A:Ty)(B:L (Nat×Ty))(C:Ty)(D:L (Nat×Ty))(j:C.den->(TJ D).den->R)(a:A.den)(x:(TJ B).den):Zg R:=match f.body with|none=>none|some i=>bif ZeN f i A B C D then(match xT B x 100 []with|(n,b)=>Ob (Ph A a 0 n b []) λl=>exec Z i R l λk c=>match k with|.exit _=>none|_=>bif u then(bif A.plain&&(D.isEmpty&&Fo b c.d)then Mu Z c C f.results.toList {g:=c.b} λe d=>bif Fo b (d.r.map (·.1))then E8 D {g:=[]} λh _=>some (j e h)else none else none)else Mu Z c C f.results.toList {g:=c.b} λe d=>E8 D d λh _=>some (j e h))else none
end
end
end Go.R
