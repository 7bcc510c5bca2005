import Derived.WalkKit
import Derived.RangeFuncKeeps
import Derived.OrdersIn
import Derived.LoopNIn
import Derived.DefersIn
import Derived.Orders
import Derived.Laws.BytesArg
import Derived.Laws.StructEq
import Derived.MapKept
import Derived.RangeFuncLeaves
import Derived.Lib.AppendZerosOnto
import Derived.Lib.Overlaps
import Derived.Laws.Externs
set_option linter.all false
namespace Go.Sl
def Z1:=λ{a b c d}=>(@List.mem_append a b c d).1
def Z5:=@List.append_assoc
def Yd:=λ{a b c d}=>(@List.mem_append a b c d).2
def Yg:=@if_neg
def Ym:=@Go.Sem.run_bind
def Yv:=@Bool.and_eq_true
def Yw:=@List.length_append
def YG:=@Nat.le_refl
def YJ:=@Go.Result.andThen_ok
def YW:=@if_pos
def Y5:=@Go.Sem.run_pure
def Xp:=@List.append_nil
def Xu:=@Nat.eq_of_beq_eq_true
def XB:=λ{a b c d}=>(@List.mem_cons a b c d).1
def XD:=@Option.some.inj
def XF:=@List.map_cons
def XG:=@List.mem_cons_of_mem
def XJ:=@List.perm_append_comm
def XP:=@List.mem_cons_self
def X6:=@List.mem_of_getElem?
def X7:=@congrArg
def Wm:=λ{a b c d}=>(@List.getElem?_eq_some_iff a b c d).1
def Wn:=@List.length_drop
def WA:=@List.length_cons
def WB:=@Go.run_underlying
def WX:=@Nat.le_trans
def Vf:=@List.length_nil
def Vg:=@List.map_append
def VA:=@List.Perm.append_left
def VB:=@List.getElem?_eq_getElem
def VC:=@List.mem_map_of_mem
def VD:=@Nat.zero_le
def VT:=@List.take_of_length_le
def VZ:=@if_false
def Uj:=λ{a b c d e}=>(@List.mem_map a b c d e).1
def Uk:=@Nat.blt_eq
def Uy:=@List.getElem?_append_left
def UF:=@List.length_take
def UV:=@List.drop_drop
def UW:=@List.nil_append
def Ta:=@Nat.add_mul
def TL:=@List.mem_append
def TM:=@List.nodup_append
def TN:=@Nat.zero_add
def TO:=@cond_false
def TP:=@cond_true
def T9:=@List.nodup_cons
def Sb:=@List.take_append_drop
def Sc:=@if_true
def SE:=@Go.Addr.add_lit
def SW:=@Bool.false_eq_true
def Re:=@List.drop_of_length_le
def Rt:=@List.getElem?_drop
def Ru:=@Nat.lt_or_ge
def RK:=@List.all_eq_true
def RM:=@Nat.mul_le_mul_right
def RO:=@Go.wpIn_mono
def Ps:=@List.getElem?_take
def Pt:=λ{a b c d e}=>(@List.mem_map a b c d e).2
def Pu:=@Nat.min_eq_left
def Om:=@Nat.one_mul
def OY:=@List.Perm.cons
def O0:=@List.drop_eq_getElem_cons
def O1:=@List.map_nil
def NL:=@List.getElem?_toArray
def NM:=@List.take_length
def MK:=λ{a b c d}=>(@Array.getElem?_eq_some_iff a b c d).1
def ML:=@Bool.not_false
def MM:=@Bool.not_true
def MN:=@List.cons_append
def MQ:=@List.drop_take
def MU:=@List.take_succ_eq_append_getElem
def LB:=@BitVec.ofInt_natCast
def LC:=@List.flatten_cons
def LD:=@List.getElem?_cons_zero
def LH:=@Nat.mod_eq_of_lt
def Jg:=@Bool.not_eq_true'
def Jh:=@Array.getElem?_setIfInBounds
def Ji:=@List.Perm.append_right
def Jk:=@List.take_take
def Jm:=@Option.map_some
def Iv:=@List.map_toArray
def Iw:=@Nat.add_zero
def Ix:=@Nat.pow_le_pow_right
def Iz:=@Go.eqGuard_at_int
def Gv:=@List.take_left'
def Gw:=@BitVec.toNat_ofNat
def Gy:=@Vector.length_toList
def Gz:=@Go.World.putObj_heap_other
def E4:=@Bool.eq_iff_iff
def E5:=@Bool.or_false
def E6:=@List.all_cons
def E8:=@List.forIn_cons
def Db:=@List.singleton_append
def Dc:=@List.take_add
def Dd:=@Nat.ble_eq
def Dg:=λ{a b c d e}=>(@Option.bind_eq_some_iff a b c d e).1
def Dh:=@Option.map_none
def Di:=@Option.some.injEq
def Dj:=@dite_true
def Dk:=@Go.run_newObj
def Dl:=@Go.wpIn_seq
def BA:=@BitVec.eq_of_toNat_eq
def BC:=@List.ext_getElem?
def BE:=@List.mem_zipIdx_iff_getElem?
def BF:=@Nat.add_assoc
def BG:=@Nat.lt_of_lt_of_le
def BJ:=@Option.bind_some
def BK:=@Go.Value.slice.injEq
def BL:=@Go.World.cell?_of_block
def BM:=@Go.World.putObj_size
def BN:=@decide_eq_true_eq
def BO:=@Go.run_loadCells_list
def wn:=@Array.getElem?_eq_getElem
def wo:=@Array.getElem?_toList
def wq:=@Array.getInternal_eq_getElem
def ws:=@Array.toArray_toList
def ww:=@BitVec.ofNat_toNat
def wx:=@BitVec.setWidth_eq
def wy:=@Bool.true_and
def wB:=@List.flatten_nil
def wD:=@List.getElem?_cons_succ
def wG:=@List.mem_map
def wK:=@Nat.add_comm
def wO:=@Nat.le_of_eq
def wT:=@Nat.shiftLeft_eq
def wX:=@Go.wpListIn_plain
def oT:=@List.drop_left'
def oU:=@List.replicate_succ'
def oW:=@BitVec.le_def
def oY:=@Bool.false_and
def oZ:=@Bool.false_or
def na:=@Go.IntWalk.i64_in
def nf:=@List.Perm.trans
def ng:=@List.any_eq_true
def nk:=@List.countP_le_length
def np:=@List.drop_append
def nq:=@List.drop_length
def nu:=@List.getElem?_eq_none
def nw:=@List.range_succ
def nA:=@Nat.le_total
def nC:=@Nat.min_eq_right
def nD:=@Nat.mul_le_mul
def nE:=@Nat.sub_zero
def nF:=@Option.getD_some
def nG:=λ{a b}=>(@Option.isSome_iff_exists a b).1
def nI:=@Go.World.cell?_alloc_lt
def nJ:=@beq_self_eq_true
def nK:=@Go.calls_of_wp
def nL:=@not_false_iff
def nO:=@Go.run_askRoom
def nQ:=@Go.run_program
def nR:=@Go.wpIn_cond_split
def dC:=@Array.ext_getElem?
def dG:=@BitVec.toNat_inj
def dI:=@BitVec.toNat_ushiftRight
def dR:=@List.mem_filter
def dS:=@List.mem_filterMap
def dT:=@List.nodup_nil
def dW:=@Go.MapKept.bytes_beq
def dY:=@Nat.shiftRight_eq_div_pow
def dZ:=@Option.getD_none
def cf:=@Go.World.block_lt_of_cell?
def cg:=@Go.wpIn_region_any
def cj:=@Go.wpIn_region_lit
def Zge:=@Std.Legacy.Range.forIn_eq_forIn_range'
def Zgf:=@Array.all_eq_true_iff_forall_mem
def Zgh:=@Array.getElem?_eq_none
def Zgi:=@Array.mapM_eq_mapM_toList
def Zgj:=@BitVec.toNat_shiftLeft
def Zgn:=@List.eq_nil_iff_forall_not_mem
def Zgq:=@List.set_eq_of_length_le
def Zgr:=@List.set_eq_take_append_cons_drop
def Zgt:=@Nat.mul_add_mod_self_right
end Go.Sl
namespace Go.Sl
theorem Y{p:Prop}(h:p:=by omega):p:=h
theorem Zb{p:Prop}(h:p:=by simp):p:=h
theorem Zm{p:Prop}(h:p:=by grind):p:=h
theorem Zw{p:Prop}(h:p:=by dsimp only;omega):p:=h
theorem ZD{p:Prop}(h:p:=by kernel_rfl):p:=h
theorem Ye{p:Prop}(h:p:=by simp[Op.operands]):p:=h
theorem YP{p:Prop}(h:p:=by decide):p:=h
theorem XA{p:Prop}(h:p:=by simp_all):p:=h
theorem WI{p:Prop}(h:p:=by simp;omega):p:=h
theorem MA{p:Prop}(h:p:=by rintro p rfl;simp[Op.operands]):p:=h
end Go.Sl
namespace Go.Sl
def VY(n:Int):Int:=(n+9223372036854775808)%18446744073709551616-9223372036854775808
theorem Ip{n}(h:-9223372036854775808<=n/\n<9223372036854775808):VY n=n:=by unfold VY;omega
def JS(p q:Int):Int:=VY ((BitVec.ofInt 64 p&&&BitVec.ofInt 64 q).toNat:Int)
def ja(p q:Int):Int:=VY ((BitVec.ofInt 64 p|||BitVec.ofInt 64 q).toNat:Int)
def tZ(p q:Int):Int:=VY ((BitVec.ofInt 64 p^^^BitVec.ofInt 64 q).toNat:Int)
def JU(p:Int)(n:Int):Int:=VY (p*2^min n.toNat 64)
def FP(p:Int)(n:Int):Int:=p.fdiv (2^min n.toNat 64)
def QD{α:Type}(l:List α)(i:Int):Option α:=if 0<=i then l[i.toNat]?else none
def Bs{α:Type}{n:Nat}(v:Vector α n)(i:Int):Option α:=if 0<=i then v[i.toNat]?else none
def sM{α:Type}(l:List α)(lo hi:Int):Option (List α):=if 0<=lo/\lo<=hi/\hi<=l.length then some ((l.take hi.toNat).drop lo.toNat)else none
def Bi{α:Type}(n:Nat)(l:List α)(h:n<=l.length):Vector α n:=⟨(l.take n).toArray,by simp[Pu h]⟩
def eI{α:Type}(n:Nat)(l:List α):Option (Vector α n):=if h:n<=l.length then some (Bi n l h)else none
def Bt{α:Type}{n:Nat}(v:Vector α n)(lo:Nat)(l:List α):Vector α n:=if h:lo+l.length<=n then⟨(v.toList.take lo++l++v.toList.drop (lo+l.length)).toArray,WI⟩else v
theorem ZfZ{α}{n}(v:Vector α n)(lo)(l)(h:lo+l.length<=n):(Bt v lo l).toList=v.toList.take lo++l++v.toList.drop (lo+l.length):=by unfold Bt;grind
inductive LR(σ ρ:Type)where|next(s:σ)|brk(s:σ)|ret(r:ρ)
def Pg{σ ρ:Type}(f:σ->Option (LR σ ρ)):Nat->σ->Option (σ⊕ρ)|0,_=>none|n+1,s=>match f s with|none=>none|some (.next s')=>Pg f n s'|some (.brk s')=>some (.inl s')|some (.ret r)=>some (.inr r)
def Ll{σ:Type}(f:σ->Option (LR σ Empty))(n:Nat)(s:σ):Option σ:=match Pg f n s with|none=>none|some (.inl s')=>some s'|some (.inr e)=>e.elim
theorem ZbE{σ}{f}{n}{s s':σ}(h:Ll f n s=some s'):∃o,Pg f n s=some o/\o=.inl s':=by unfold Ll at h;grind
def FU:Nat:=4611686018427387904
def AP:Nat:=4294967296
theorem bind_some{α β:Type}{o:Option α}{f}{r:β}(h:Option.bind o f=some r):∃x,o=some x/\f x=some r:=Dg h
theorem FG{α:Type}{c}[Decidable c]{x}{r:α}(h:(if c then x else none)=some r):c/\x=some r:=by grind
theorem bt{α:Type}{b}{x y r:α}(a:b=true)(h:(if b=true then x else y)=r):x=r:=Zm
theorem bf{α:Type}{b}{x y r:α}(a:b=false)(h:(if b=true then x else y)=r):y=r:=Zm
theorem JX{α}{l}{i}{x:α}(h:QD l i=some x):0<=i/\∃hi,l[i.toNat]=x:=by
 unfold QD at h;split at h;·rename_i a;have⟨b,c⟩:=Wm h;exact⟨a,b,c⟩
 ·grind
theorem oy{α}{n}{v:Vector α n}{i}{x}(h:Bs v i=some x):0<=i/\∃hi,v[i.toNat]=x:=by
 unfold Bs at h;split at h;·rename_i a;have⟨b,c⟩:=Vector.getElem?_eq_some_iff.1 h;exact⟨a,b,c⟩
 ·grind
theorem ZbI{α}{l r:List α}{lo hi}(h:sM l lo hi=some r):0<=lo/\lo<=hi/\hi<=l.length/\(l.take hi.toNat).drop lo.toNat=r:=by obtain⟨⟨a,b,c⟩,d⟩:=FG h;exact⟨a,b,c,Zm⟩
theorem Zsu{α}{n}{l}{v:Vector α n}(h:eI n l=some v):∃a,Bi n l a=v:=by unfold eI at h;grind
abbrev YD:=Nat->Nat->Option Value
def XI(m c:YD):Prop:=∀a b v,m a b=some v->c a b=some v
theorem XI.refl(m):XI m m:=λ_ _ _ a=>a
theorem XI.trans{a b c}(h:XI a b)(k:XI b c):XI a c:=λ_ _ _ d=>k _ _ _ (h _ _ _ d)
structure Xi where
 p:YD->Value->Prop
 mono:∀{m m':YD}{v:Value},XI m m'->p m v->p m' v
abbrev Yr:=List (Nat×Xi)
def lk:Yr->Nat->Option Xi|[],_=>none|(a,s)::Γ,t=>bif Nat.beq a t then some s else lk Γ t
def Uq(Γ:Yr)(m:YD)(a:Act):Prop:=∀c b,lk Γ c=some b->b.p m (a.tmps.getD c undef)
abbrev Hp:=List (Nat×TypeId×List Value)
def Hp.bs(hs:Hp):List Nat:=hs.map (·.1)
structure Yl where
 p:YD->Hp->Prop
 mono:∀{m m':YD}{h:Hp},XI m m'->p m h->p m' h
def ZH:List Yl->YD->Hp->Prop|[],_,hs=>hs=[]|e::c,m,hs=>∃a b,hs=a++b/\e.p m a/\ZH c m b
theorem ZH.mono{m b}(a:XI m b):∀{H}{hs},ZH H m hs->ZH H b hs|[],_,h=>h|_::_,_,⟨h1,h2,e,p,q⟩=>⟨h1,h2,e,Yl.mono _ a p,ZH.mono a q⟩
theorem ZH.append{m}:∀{c H2}{h1 h2},ZH c m h1->ZH H2 m h2->ZH (c++H2) m (h1++h2)|[],_,_,_,rfl,k=>by simpa using k|e::_,_,_,_,⟨a,b,d,p,q⟩,k=>⟨a,b++_,Zm,p,ZH.append q k⟩
theorem ZH.split{m}:∀{c H2}{hs},ZH (c++H2) m hs->∃h1 h2,hs=h1++h2/\ZH c m h1/\ZH H2 m h2|[],_,hs,h=>⟨[],hs,rfl,rfl,h⟩|e::_,_,_,⟨a,b,k,p,q⟩=>by have⟨d,f,j,g,i⟩:=ZH.split q;exact⟨a++d,f,Zm,⟨a,d,rfl,p,g⟩,i⟩
structure Good(m:YD)(hs:Hp)(w:World):Prop where
 mem:∀b o v,m b o=some v->w.cell? ⟨b,o,none⟩=some v
 nodup:hs.bs.Nodup
 YY:∀h∈hs,w.heap[h.1]?=some (.cells h.2.2.toArray h.2.1 (0,0))free:∀h∈hs,∀o,m h.1 o=none
structure ZG(w w':World)(m m':YD)(bs bs':List Nat):Prop where
 os:w'.os=w.os
 tape:w'.tape=w.tape
 output:w'.output=w.output
 size:w.heap.size<=w'.heap.size
 Wa:∀b,b<w.heap.size->b∉bs->w'.heap[b]?=w.heap[b]?/\∀o,m' b o=m b o
 own:∀b∈bs',b∈bs\/w.heap.size<=b
 le:XI m m'
theorem ZG.refl(w)(m)(bs):ZG w w m m bs bs:=⟨rfl,rfl,rfl,Zb,Zb,λ_ a=>.inl a,XI.refl _⟩
theorem ZG.trans{w n o}{m i j}{d e f}(h:ZG w n m i d e)(k:ZG n o i j e f):ZG w o m j d f where
 os:=k.os.trans h.os;tape:=k.tape.trans h.tape;output:=k.output.trans h.output;size:=WX h.size k.size;Wa:=λa b g=>by have p:=h.Wa a b g;have q:=k.Wa a (BG b h.size) λc=>(h.own a c).elim g Y;exact⟨Zm,λl=>(q.2 l).trans (p.2 l)⟩
 own:=λa b=>(k.own a b).elim (h.own a) λc=>.inr (WX h.size c);le:=h.le.trans k.le
theorem ZG.sub{w f}{m e}{a c d}(h:ZG w f m e a c)(k:∀b∈d,b∈c):ZG w f m e a d:={h with own:=λb g=>h.own b (k b g)}
theorem ZG.wide{w g}{m f}{d e}(r)(h:ZG w g m f d e):ZG w g m f (d++r) (e++r):={h with
  Wa:=λa c i=>h.Wa a c Zm
  own:=λa c=>(Z1 c).elim (λb=>(h.own a b).imp (λb=>Yd (.inl b)) id) XA}
structure GP where
 p:YD->Prop
 mono:∀{m m':YD},XI m m'->p m->p m'
structure XK where
 P:Program
 N:Nat
 G:GP
 m0:YD
 w0:World
 b0:List Nat
 ro:Option Nat:=none
 mm:Bool:=false
def XX(r:Option Nat):Fence:={Fence.wide with round:=r}
theorem FD(r)(f):(XX r).fn f:=trivial
theorem ZaJ(r):(XX r).depth.isSome=true->1<=0:=λa=>by cases a
theorem aD{r}{n}{P}{f}{args}{w}{R}:CallsIn (XX r) n P f args w R↔Calls P f args w R:=callsIn_wide
abbrev uD(D:Nat):Deferred:=⟨.collected D,#[]⟩
def MX(c:XK)(ds:List Deferred)(w:World):Prop:=match c.mm with|false=>ds=[]|true=>∃a:List Nat,ds=a.map uD/\a.Nodup/\∀b∈a,c.w0.heap.size<=b/\w.heap[b]?=some (.deferred (some []))
theorem Good.neD{m}{hs}{w}(c:Good m hs w){l}{o}(d:w.heap[l]?=some o)(b:o.isCells=false):l∉hs.bs:=by intro a;obtain⟨f,e,rfl⟩:=Uj a;have:=c.YY f e;rw[d]at this;have:=XD this;subst this;cases b
theorem MX.step{c}{ds}{w w'}{m n}{hs}{bs}(h:MX c ds w)(j:Good m hs w)(i:ZG w w' m n hs.bs bs):MX c ds w':=by unfold MX at*;cases k:c.mm with|false=>grind|true=>rw[k]at h;have⟨f,g,l,d⟩:=h;refine⟨f,g,l,λa e=>⟨(d a e).1,?_⟩⟩;have b:=(d a e).2;exact(i.Wa a (MK b).1 (j.neD b rfl)).1.trans b
theorem MX.none{c}{ds}{w}(h:MX c ds w)(a:c.mm=false):ds=[]:=by unfold MX at h;grind
def St(c:XK)(Γ:Yr)(H:List Yl)(a:Act)(w:World):Prop:=MX c a.defers w/\a.tmps.size=c.N/\∃b d,Good b d w/\c.G.p b/\Uq Γ b a/\ZH H b d/\ZG c.w0 w c.m0 b c.b0 d.bs
theorem Uq.mono{Γ}{m b}{a}(e:XI m b)(h:Uq Γ m a):Uq Γ b a:=λf c d=>c.mono e (h f c d)
theorem PW(d)(s)(Γ:Yr):lk ((d,s)::Γ) d=some s:=by simp[lk]
theorem PU{d t}(h:d≠t)(s)(Γ:Yr):lk ((d,s)::Γ) t=lk Γ t:=by
 show(bif Nat.beq d t then some s else lk _ t)=lk _ t;cases hb:Nat.beq d t;·rfl
 ·simp_all
theorem P6{a:Act}{d}{v}(h:d<a.tmps.size):(a.put (some d) v).tmps.getD d undef=v:=by simp[Act.put,Array.getD,h]
theorem Nv{a:Act}{d t:Nat}{v}(h:d≠t):(a.put (some d) v).tmps.getD t undef=a.tmps.getD t undef:=by simp only[Act.put,Array.getD];simp_all
theorem Uq.put{Γ}{m}{a}{d}{s}{v}(h:Uq Γ m a)(f:d<a.tmps.size)(hv:s.p m v):Uq ((d,s)::Γ) m (a.put (some d) v):=by
 intro e g b;by_cases c:d=e;·subst c;rw[PW]at b;cases b;rw[P6 f];exact hv
 ·rw[PU c]at b;rw[Nv c];exact h e _ b
theorem Rc(a:Act)(d:Option Nat)(v):(a.put d v).tmps.size=a.tmps.size:=by cases d<;>simp[Act.put]
theorem Nu(a:Act)(d:Option Nat)(v):(a.put d v).defers=a.defers:=by cases d<;>simp[Act.put]
inductive Uz{α:Type}:List α->α->List α->Prop|here{e:α}{t:List α}:Uz (e::t) e t|next{x e:α}{t t':List α}:Uz t e t'->Uz (x::t) e (x::t')
theorem Uz.perm{α}{l}{e:α}{r}(h:Uz l e r):l.Perm (e::r):=by induction h with|here=>simp|next _ a=>exact(OY _ a).trans (List.Perm.swap _ _ _)
theorem ZH.pick{m}{H}{e}{H'}(k:Uz H e H'):∀{hs},ZH H m hs->∃h1 h2,hs.Perm (h1++h2)/\e.p m h1/\ZH H' m h2:=by induction k with|here=>intro hs⟨h1,h2,b,p,q⟩;exact⟨h1,h2,XA,p,q⟩|next _ f=>intro hs⟨h1,h2,b,p,q⟩;have⟨c,a,d,g,h⟩:=f q;refine⟨c,h1++a,?_,g,h1,a,rfl,p,h⟩;rw[b];exact(VA _ d).trans (by rw[<-Z5,<-Z5];exact Ji _ XJ)
theorem Good.perm{m}{hs b:Hp}{w}(h:Good m hs w)(p:hs.Perm b):Good m b w where mem:=h.mem;nodup:=(p.map _).nodup_iff.1 h.nodup;YY:=λa c=>h.YY a Zm;free:=λa c=>h.free a (p.mem_iff.2 c)
theorem Good.sub{m}{hs b}{w}(h:Good m (hs++b) w):Good m b w where
 mem:=h.mem;nodup:=by have:=h.nodup;simp[Hp.bs,Vg]at this;exact(List.nodup_append.1 this).2.1
 YY:=λa c=>h.YY a Zm;free:=λa c=>h.free a Zm
theorem Hp.XL(a b):Hp.bs (a++b)=a.bs++b.bs:=Vg
theorem ZG.perm{w d}{m c}{a}{hs b:Hp}(h:ZG w d m c a hs.bs)(p:hs.Perm b):ZG w d m c a b.bs:=h.sub λf e=>(p.map _).mem_iff.2 e
section
variable{c:XK}{Γ Γ':Yr}{H H':List Yl}{a:Act}{w:World}
theorem St.pick{e}(h:St c Γ H a w)(k:Uz H e H'):St c Γ (e::H') a w:=by have⟨i,n,p,s,m,g,j,o,l⟩:=h;have⟨b,d,f,q,r⟩:=o.pick k;exact⟨i,n,p,b++d,m.perm f,g,j,⟨b,d,rfl,q,r⟩,l.perm f⟩
theorem St.drop{e}(h:St c Γ (e::H) a w):St c Γ H a w:=by obtain⟨g,l,m,q,k,d,i,⟨p,b,rfl,_,n⟩,j⟩:=h;exact⟨g,l,m,b,k.sub,d,i,n,j.sub λo f=>by rw[Hp.XL];exact Yd (.inr f)⟩
inductive QX:List Yl->List Yl->Prop|nil{H:List Yl}:QX H []|cons{H H1 H2:List Yl}{e:Yl}:Uz H e H1->QX H1 H2->QX H (e::H2)
theorem ZH.Ry{H H'}(k:QX H H'):∀{m}{hs},ZH H m hs->∃r e,hs.Perm (r++e)/\ZH H' m e:=by induction k with|nil=>intro m hs _;exact⟨hs,[],Zb,rfl⟩|cons k _ i=>intro m hs f;have⟨b,o,g,j,l⟩:=f.pick k;have⟨r,d,h,n⟩:=i l;refine⟨r,b++d,g.trans ((VA _ h).trans ?_),b,d,rfl,j,n⟩;rw[<-Z5,<-Z5];exact Ji _ XJ
theorem St.Ry(h:St c Γ H a w)(k:QX H H'):St c Γ H' a w:=by have⟨f,l,o,r,j,d,g,n,i⟩:=h;have⟨s,m,b,p⟩:=n.Ry k;exact⟨f,l,o,m,(j.perm b).sub,d,g,p,(i.perm b).sub λq e=>by rw[Hp.XL];exact Yd (.inr e)⟩
def NR(Γ:Yr)(t:Nat)(s:Xi):Prop:=∀b a,Uq Γ b a->s.p b (a.tmps.getD t undef)
inductive NY:Yr->Yr->Prop|nil{Γ:Yr}:NY Γ []|cons{Γ Γ':Yr}{t:Nat}{s:Xi}:NR Γ t s->NY Γ Γ'->NY Γ ((t,s)::Γ')
theorem NR.Xb{Γ}{t}{s}(h:lk Γ t=some s):NR Γ t s:=λ_ _ b=>b t s h
theorem NY.ok{Γ Γ'}(h:NY Γ Γ'):∀{m}{a},Uq Γ m a->Uq Γ' m a:=by induction h with|nil=>intro m a _ t s b;simp[lk]at b|@cons Γ' t s h1 _ f=>
  intro m a d g i b;by_cases e:t=g;·subst e;rw[PW]at b;cases b;exact h1 m a d
  ·rw[PU e]at b;exact f d _ _ b
theorem St.sub(h:St c Γ H a w)(k:NY Γ Γ'):St c Γ' H a w:=by have⟨d,i,m,j,g,b,e,l,f⟩:=h;exact⟨d,i,m,j,g,b,k.ok e,l,f⟩
end
def TE(P:Program)(k:Value->World->Prop):Result Next->Prop|.ok (.value v) w=>k v w|.ok .skip w=>k undef w|.ok (.enter f args) w=>Calls P f args w λa b=>∃v,a=.returned v/\k v b|.ok (.round l f tmps c d) w=>RoundIn Fence.wide 0 P l f tmps c d w λa b=>∃v,a=.returned v/\k v b|_=>False
theorem TE.ZlG{P}{o}{ρ}{w}{k}(h:TE P k ((execOp ρ o).run P w)):∀c,o.op≠.defer c:=by intro c a;unfold execOp at h;rw[a]at h;simp at h;generalize(resolve _ c _).run P w=r at h;cases r with|halt e b=>exact h.elim|ok d b=>exact h.elim
theorem TE.wp{P}{r}{o}{a}{w}{k}{K}{Q}(h:TE P k ((execOp a.eval o).run P w))(c:∀v w',k v w'->K (a.put o.dst v) w'):o.wpIn (XX r) 0 P a w K Q:=by refine⟨λb _=>FD r b,?_⟩;rw[Oper.semAt_eq _ _ _ h.ZlG];generalize(execOp _ o).run P w=r at h;cases r with|halt j w'=>exact h.elim|ok d w'=>cases d with|value v=>exact c _ _ h|skip=>exact c _ _ h|enter b args=>refine⟨ZaJ _,aD.2 (Calls.mono h ?_)⟩;grind|round g b i e f=>refine⟨ZaJ _,RoundIn.mono h ?_⟩;grind|_=>exact h.elim
theorem TE.mono{P}{k k'}{r}(h:TE P k r)(a:∀v w,k v w->k' v w):TE P k' r:=by cases r with|halt j d=>exact h.elim|ok c d=>cases c with|value v=>exact a _ _ h|skip=>exact a _ _ h|enter b args=>refine Calls.mono h ?_;grind|round g b i e f=>refine RoundIn.mono h ?_;grind|_=>exact h.elim
def Rv(Γ:Yr)(m:YD)(a:Act):Operand->Prop|.tmp t=>∀b,lk Γ t=some b->b.p m (a.tmps.getD t undef)|_=>True
def Am(o:Oper)(Γ:Yr)(m:YD)(a:Act):Prop:=∀b∈o.op.operands,Rv Γ m a b
theorem Uq.ZW{Γ}{m}{a}(h:Uq Γ m a)(x):Rv Γ m a x:=by cases x<;>simp only[Rv];exactλc b=>h _ c b
def Yo(Γ:Yr)(x:Operand)(s:Xi):Prop:=∀b a,Rv Γ b a x->s.p b (a.eval x)
theorem ZJ{Γ}{t}{s}(h:lk Γ t=some s):Yo Γ (.tmp t) s:=λ_ _ a=>a s h
def PJ(c:XK)(o:Oper)(Γ:Yr)(H:List Yl)(s:Xi):Prop:=∀a b f e,Good a b e->c.G.p a->ZH H a b->Am o Γ a f->TE c.P (λv g=>∃d,Good d b g/\s.p d v/\ZG e g a d [] []) ((execOp f.eval o).run c.P e)
def Wh(c:XK)(g:Array Oper)(l:List Oper)(Γ:Yr)(H:List Yl)(K:Act->World->Prop):Prop:=∀b e a,(∀d f,K d f->a .normal d f)->St c Γ H b e->wpListIn (XX c.ro) 0 c.P g a l b e
theorem ZH.Kj{H}{m a}{hs}{w w'}(h:ZH H m hs)(f:ZG w w' m a [] []):ZH H a hs:=h.mono f.le
theorem ZG.Cr{w w'}{m a}(f:ZG w w' m a [] [])(bs):ZG w w' m a bs bs:=by simpa using f.wide _
section
variable{c:XK}{Z:Array Oper}{l:List Oper}{Γ Γ':Yr}{H H':List Yl}{K:Act->World->Prop}
theorem Yz{o}{d:Nat}{s}(h:PJ c o Γ H s)(t:o.guard=none)(p:o.dst=some d)(E:Nat.blt d c.N=true)(k:Wh c Z l ((d,s)::Γ) H K):Wh c Z (o::l) Γ H K:=by refineλj B i n⟨q,w,z,x,f,b,e,g,r⟩=>wX t λD m=>TE.wp (h z _ j B f b g λC _=>e.ZW C) λv F⟨A,u,y,a⟩=>m _ _ (k _ _ i n ⟨by rw[Nu];exact q.step f (a.Cr _),by rw[Rc];exact w,A,x,u,c.G.mono a.le b,?_,g.Kj a,r.trans (a.Cr _)⟩);rw[p];exact(e.mono a.le).put XA y
theorem ZkF(h:QX H H')(k:Wh c Z l Γ H' K):Wh c Z l Γ H K:=λb f a d e=>k b f a d (e.Ry h)
theorem ZkJ(h:NY Γ Γ')(k:Wh c Z l Γ' H K):Wh c Z l Γ H K:=λb f a d e=>k b f a d (e.sub h)
end
section
variable{c:XK}{Γ Γ':Yr}{H H':List Yl}{a:Act}{w:World}{Q:Exit->Act->World->Prop}
end
def Sq(m:YD):List Xi->List Value->Prop|[],vs=>vs=[]|s::ss,vs=>∃v a,vs=v::a/\s.p m v/\Sq m ss a
theorem Sq.mono{m b}(a:XI m b):∀{ss}{vs},Sq m ss vs->Sq b ss vs|[],_,h=>h|s::_,_,⟨v,c,e,p,q⟩=>⟨v,c,e,s.mono a p,Sq.mono a q⟩
def QU(P:Program)(G:GP)(f:FuncId)(A:List Xi)(E:List Yl){j:Type}(ρ:j->Xi)(ε:j->List Yl):Prop:=∀a e h c,Good a c e->G.p a->Sq a A h->ZH E a c->Calls P f h.toArray e λk i=>∃v b d g,k=.returned v/\Good b d i/\(ρ g).p b v/\ZH (ε g) b d/\ZG e i a b c.bs d.bs
def LW(c:XK){f:Type}(ρ:f->Xi)(ε:f->List Yl)(e:Ending)(w':World):Prop:=∃v a b d,e=.returned v/\Good a b w'/\(ρ d).p a v/\ZH (ε d) a b/\ZG c.w0 w' c.m0 a c.b0 b.bs
def Mh:Nat->List Xi->Yr|_,[]=>[]|k,s::ss=>(k,s)::Mh (k+1) ss
theorem sq{m}:∀(ss)(k)(vs pre a),Sq m ss vs->pre.length=k->∀t s,lk (Mh k ss) t=some s->s.p m ((pre++vs++a).toArray.getD t undef)
 |[],_,_,_,_,_,_,_,_,e=>by simp[Mh,lk]at e|s0::ss,k,vs,pre,a,⟨v,d,c,p,q⟩,hk,t,s,e=>by
  subst c;by_cases b:k=t;·subst b;simp[Mh,PW]at e;simp_all
  ·simp[Mh]at e;rw[PU b]at e;have:=sq _ _ d (pre++[v]) a q Zm t s e;simpa using this
theorem Sq.length{m}:∀{ss}{vs},Sq m ss vs->vs.length=ss.length|[],_,rfl=>by rfl|_::_,_,⟨_,_,rfl,_,q⟩=>by simp[q.length]
theorem ZiS{P}{G}{f}{b:Func}{e}{N}{A}{E}{v}{ρ:v->Xi}{ε}(o:P.funcs[f]?=some b)(n:b.body=some e)(y:b.ntmps=N)(x:Nat.ble A.length N=true)(h:∀c,c.P=P->c.N=N->c.G=G->c.ro=none->c.mm=false->∀a w,St c (Mh 0 A) E a w->e.wpIn (XX none) 0 P (bodyPost P b (LW c ρ ε)) a w):QU P G f A E ρ ε:=by
 intro k w d i p m j r;have s:St ⟨P,N,G,k,w,i.bs,none,false⟩ (Mh 0 A) E {tmps:=d.toArray++Array.replicate (b.ntmps-d.toArray.size) undef,defers:=[]} w:=by
  refine⟨rfl,?_,k,i,p,m,?_,r,ZG.refl _ _ _⟩;·have:=j.length;simp_all
  ·intro u t g;have:=sq A 0 _ [] (List.replicate (b.ntmps-d.toArray.size) undef) j rfl u t g;have l:([]++d++List.replicate (b.ntmps-d.toArray.size) undef).toArray=d.toArray++Array.replicate (b.ntmps-d.toArray.size) undef:=Zb;rwa[l]at this
 refine(nK o n (wpIn_wide.1 (h _ rfl rfl rfl rfl rfl _ w s))).mono<|λg z q=>q
structure ZM(α:Type)where
 n:Nat
 ag:Bool
 rel:YD->List Value->α->Prop
 mono:∀{m m':YD}{cs:List Value}{x:α},XI m m'->rel m cs x->rel m' cs x
 len:∀{m:YD}{cs:List Value}{x:α},rel m cs x->cs.length=n
 cell:∀{m:YD}{cs:List Value}{x:α},rel m cs x->∀v∈cs,v.oneCell'=true
 one:ag=false->n=1
section
variable{α β:Type}
def ZM.is(R:ZM α)(m:YD)(v:Value)(x:α):Prop:=match R.ag with|true=>∃a:List Value,v=.agg a.toArray/\R.rel m a x|false=>R.rel m [v] x
theorem ZM.Zkz(R:ZM α){m b}{v}{x}(a:XI m b)(h:R.is m v x):R.is b v x:=by unfold ZM.is at*;cases hb:R.ag with|true=>simp[hb]at h⊢;have⟨c,d,e⟩:=h;exact⟨c,d,R.mono a e⟩|false=>simp[hb]at h⊢;exact R.mono a h
def ZM.slot(R:ZM α)(x:α):Xi:=⟨λc v=>R.is c v x,λb a=>R.Zkz b a⟩
theorem lD{v:Value}(h:v.oneCell'=true):v.cells=#[v]:=by cases v<;>first|rfl|(simp[Value.oneCell']at h)
theorem ZM.Cq{R:ZM α}{m}{v}{x}(h:R.is m v x):∃cs,v.cells=cs.toArray/\R.rel m cs x:=by unfold ZM.is at h;cases hb:R.ag with|true=>simp[hb]at h;obtain⟨cs,rfl,a⟩:=h;exact⟨cs,rfl,a⟩|false=>simp[hb]at h;exact⟨[v],lD (R.cell h v Zb),h⟩
def U6(ag:Bool)(cs:List Value):Value:=match ag with|true=>.agg cs.toArray|false=>cs.headD undef
theorem ZM.zH{R:ZM α}{m}{cs}{x}(h:R.rel m cs x):R.is m (U6 R.ag cs) x:=by unfold ZM.is U6;cases hb:R.ag with|true=>grind|false=>have:=R.len h;rw[R.one hb]at this;match cs,this with|[v],_=>grind
def YT(R:ZM α)(m:YD):List Value->List α->Prop|cs,[]=>cs=[]|cs,x::xs=>∃a b,cs=a++b/\R.rel m a x/\YT R m b xs
theorem YT.mono{R:ZM α}{m b}(a:XI m b):∀{xs}{cs},YT R m cs xs->YT R b cs xs|[],_,h=>h|_::_,_,⟨c,d,e,p,q⟩=>⟨c,d,e,R.mono a p,YT.mono a q⟩
theorem YT.length{R:ZM α}{m}:∀{xs}{cs},YT R m cs xs->cs.length=xs.length*R.n|[],_,h=>by simp[YT]at h;simp[h]|_::xs,_,⟨c,a,e,p,q⟩=>by rw[e,Yw,R.len p,YT.length q,WA,Ta,Om,wK]
theorem YT.cell{R:ZM α}{m}:∀{xs}{cs},YT R m cs xs->∀v∈cs,v.oneCell'=true|[],_,h,v,hv=>by simp[YT]at h;simp[h]at hv|_::xs,_,⟨c,a,e,p,q⟩,v,hv=>by rw[e,TL]at hv;exact hv.elim (R.cell p v) (YT.cell q v)
theorem YT.append{R:ZM α}{m}:∀{xs ys}{cs ds},YT R m cs xs->YT R m ds ys->YT R m (cs++ds) (xs++ys)|[],_,_,_,h,k=>by simp[YT]at h;simpa[h]using k|_::_,_,_,_,⟨c,a,e,p,q⟩,k=>⟨c,a++_,Zm,p,YT.append q k⟩
theorem YT.split{R:ZM α}{m}:∀{xs ys}{cs},YT R m cs (xs++ys)->YT R m (cs.take (xs.length*R.n)) xs/\YT R m (cs.drop (xs.length*R.n)) ys|[],ys,cs,h=>by simpa[YT]using h|x::xs,ys,cs,⟨c,a,e,p,q⟩=>by have⟨d,f⟩:=YT.split q;have g:=R.len p;have b:(x::xs).length*R.n=c.length+xs.length*R.n:=Zm;rw[b,e];refine⟨⟨c,a.take _,Zm,p,d⟩,by simpa[Re]using f⟩
theorem YT.single{R}{m}{x:α}{cs}(h:R.rel m cs x):YT R m cs [x]:=⟨cs,[],Zb,h,rfl⟩
theorem YT.j5{R}{m}{x:α}{cs}(h:YT R m cs [x]):R.rel m cs x:=by have⟨b,c,d,e,a⟩:=h;simp[YT]at a;grind
theorem jf{xs:List α}{i}(h):xs=xs.take i++([xs[i]]++xs.drop (i+1)):=by simp
theorem YT.get{R:ZM α}{m}{xs}{cs}{i}(h:YT R m cs xs)(hi):R.rel m ((cs.drop (i*R.n)).take R.n) xs[i]:=by rw[jf hi]at h;have⟨_,a⟩:=YT.split h;have⟨b,_⟩:=YT.split a;have:=b.j5;simpa[Pu (Nat.le_of_lt hi)]using this
theorem YT.set{R}{m}{xs}{cs ds}{i}{y:α}(h:YT R m cs xs)(hi:i<xs.length)(f:R.rel m ds y):YT R m (cs.take (i*R.n)++ds++cs.drop (i*R.n+R.n)) (xs.set i y):=by
 have c:xs.set i y=xs.take i++([y]++xs.drop (i+1)):=by rw[Zgr,YW hi,Db]
 rw[c,Z5];rw[jf hi]at h;have⟨a,e⟩:=YT.split h;have⟨_,b⟩:=YT.split e;have d:(List.take i xs).length=i:=Zm;rw[d]at a b;refine a.append (YT.append (YT.single f) ?_);simpa[UV]using b
theorem YT.take{R:ZM α}{m}{xs}{cs}(k)(h:YT R m cs xs):YT R m (cs.take (k*R.n)) (xs.take k):=by
 by_cases b:k<=xs.length;·have a:=h;rw[<-Sb k xs]at a;have:=(YT.split a).1;simpa[Pu b]using this
 ·have c:xs.take k=xs:=VT Y;have:cs.take (k*R.n)=cs:=VT (by rw[h.length];exact RM _ Y);grind
theorem YT.drop{R:ZM α}{m}{xs}{cs}(k)(h:YT R m cs xs):YT R m (cs.drop (k*R.n)) (xs.drop k):=by
 by_cases b:k<=xs.length;·have a:=h;rw[<-Sb k xs]at a;have:=(YT.split a).2;simpa[Pu b]using this
 ·have c:xs.drop k=[]:=Re Y;have:cs.drop (k*R.n)=[]:=Re (by rw[h.length];exact RM _ Y);rw[c,this];rfl
def At(m:YD)(b o:Nat)(cs:List Value):Prop:=∀a v,cs[a]?=some v->m b (o+a)=some v
theorem At.mono{m a}{b o}{cs}(d:XI m a)(h:At m b o cs):At a b o cs:=λe v c=>d _ _ _ (h e v c)
theorem At.Ky{m}{b o}{cs}(k n)(h:At m b o cs):At m b (o+k) ((cs.drop k).take n):=by
 intro a v e;rw[Ps]at e;split at e;·rw[Rt]at e;have:=h _ v e;rwa[<-BF]at this
 ·grind
def i64:ZM Int where
 n:=1;ag:=false;rel:=λ_ c d=>c=[.int .i64 d];mono:=λ_ a=>a;len:=λa=>by subst a;rfl
 cell:=λa v b=>by subst a;simp at b;subst b;rfl
 one:=λ_=>rfl
def un(k:IntKind)(w:Nat):ZM (BitVec w)where
 n:=1;ag:=false;rel:=λ_ c d=>c=[.int k (d.toNat:Int)];mono:=λ_ a=>a;len:=λa=>by subst a;rfl
 cell:=λa v b=>by subst a;simp at b;subst b;rfl
 one:=λ_=>rfl
abbrev u8:ZM (BitVec 8):=un .u8 8
abbrev u16:ZM (BitVec 16):=un .u16 16
abbrev u32:ZM (BitVec 32):=un .u32 32
abbrev u64:ZM (BitVec 64):=un .u64 64
def bl:ZM Bool where
 n:=1;ag:=false;rel:=λ_ c d=>c=[.bool d];mono:=λ_ a=>a;len:=λa=>by subst a;rfl
 cell:=λa v b=>by subst a;simp at b;subst b;rfl
 one:=λ_=>rfl
def Pc(v:Value):ZM Unit where
 n:=1;ag:=false;rel:=λ_ d _=>d=[v]/\v.oneCell'=true;mono:=λ_ a=>a;len:=λa=>by rw[a.1];rfl
 cell:=λc e b=>by rw[c.1]at b;simp at b;subst b;exact c.2
 one:=λ_=>rfl
def vec(n:Nat)(R:ZM α):ZM (Vector α n)where
 n:=n*R.n;ag:=true;rel:=λd b e=>YT R d b e.toList;mono:=λc a=>a.mono c;len:=λa=>by rw[a.length,Gy]
 cell:=λa=>a.cell;one:=λa=>by cases a
def prod(R:ZM α)(c:ZM β):ZM (α×β)where
 n:=R.n+c.n;ag:=true;rel:=λi k j=>∃a b,k=a++b/\R.rel i a j.1/\c.rel i b j.2;mono:=λg⟨a,b,d,e,f⟩=>⟨a,b,d,R.mono g e,c.mono g f⟩;len:=λ⟨a,b,d,e,f⟩=>by rw[d,Yw,R.len e,c.len f]
 cell:=λ⟨a,b,d,e,f⟩v h=>by rw[d,TL]at h;exact h.elim (R.cell e v) (c.cell f v)
 one:=λl=>by cases l
def only(R:ZM α):ZM α:={R with ag:=true,one:=λa=>by cases a}
def sl(R:ZM α):ZM (List α)where
 n:=1;ag:=false;rel:=λj k e=>∃a b,k=[.slice a e.length b]/\e.length<=b/\(e=[]\/∃d f g,a=some ⟨d,f,none⟩/\YT R j g e/\At j d f g);mono:=λi⟨a,b,c,o,m⟩=>⟨a,b,c,o,m.imp id λ⟨d,f,g,l,p,q⟩=>⟨d,f,g,l,p.mono i,q.mono i⟩⟩;len:=λ⟨a,b,c,_,_⟩=>by rw[c];rfl
 cell:=λ⟨a,b,c,_,_⟩v h=>by rw[c]at h;simp at h;subst h;rfl
 one:=λ_=>rfl
def ptr(R:ZM α):ZM (Option α)where
 n:=1;ag:=false;rel:=λi g b=>match b with|none=>g=[.pointer none]|some j=>∃c f d,g=[.pointer (some ⟨c,f,none⟩)]/\R.rel i d j/\At i c f d;mono:=λ{i o g b}m a=>by cases b with|none=>exact a|some j=>obtain⟨c,f,d,h,k,l⟩:=a;exact⟨c,f,d,h,R.mono m k,l.mono m⟩
 len:=λ{i g b}a=>by cases b with|none=>rw[a];rfl|some j=>obtain⟨c,f,d,h,k,l⟩:=a;rw[h];rfl
 cell:=λ{i g b}a v e=>by cases b with|none=>rw[a]at e;simp at e;subst e;rfl|some j=>obtain⟨c,f,d,h,k,l⟩:=a;rw[h]at e;simp at e;subst e;rfl
 one:=λ_=>rfl
def val(v:Value):Xi:=⟨λ_ b=>b=v,λ_ a=>a⟩
def any:Xi:=⟨λ_ _=>True,λ_ _=>trivial⟩
def WF(R:ZM α)(x:α):Xi where p:=λe v=>∃a c b,v=.pointer (some ⟨a,c,none⟩)/\R.rel e b x/\At e a c b;mono:=λd⟨a,c,b,f,p,g⟩=>⟨a,c,b,f,R.mono d p,g.mono d⟩
def xO(ss:List Xi):Xi where p:=λe v=>∃a:List Value,v=.tuple a.toArray/\Sq e ss a;mono:=λd⟨a,b,c⟩=>⟨a,b,c.mono d⟩
abbrev ov(v:Value):Xi:=(Pc v).slot ()
theorem OR{v u}{m}:(ov v).p m u↔u=v/\v.oneCell'=true:=by simp[ZM.slot,ZM.is,Pc]
theorem j7{a}{n cap}{m}:(ov (.slice a n cap)).p m (.slice a n cap):=OR.2 ⟨rfl,rfl⟩
structure W5(R:ZM α)(off:Nat)(S:ZM β)(get:α->β)(set:α->β->α):Prop where
 fits:off+S.n<=R.n
 Mk:∀{m:YD}{cs:List Value}{x:α},R.rel m cs x->S.rel m ((cs.drop off).take S.n) (get x)Ib:∀{m:YD}{cs ds:List Value}{x:α}{y:β},R.rel m cs x->S.rel m ds y->R.rel m (cs.take off++ds++cs.drop (off+S.n)) (set x y)
theorem W5.all(R:ZM α):W5 R 0 R (λx=>x) (λ_ y=>y)where
 fits:=Zb;Mk:=λ{d b x}a=>by have:=R.len a;simpa[VT (wO this)]using a
 Ib:=λ{d b e x y}a c=>by have:=R.len a;simpa[Re (wO this)]using c
theorem W5.fst(R:ZM α)(e:ZM β):W5 (prod R e) 0 R (λx=>x.1) λx y=>(y,x.2)where
 fits:=by simp[prod]
 Mk:=λ{j g x}⟨f,b,c,a,d⟩=>by have:=R.len a;grind
 Ib:=λ{j g h x y}⟨f,b,c,a,d⟩i=>by have:=R.len a;subst c;refine⟨h,b,?_,i,d⟩;simp[np,<-this]
theorem W5.snd(R:ZM α)(a:ZM β):W5 (prod R a) R.n a (λx=>x.2) λx y=>(x.1,y)where
 fits:=by simp[prod]
 Mk:=λ{l e x}⟨d,f,h,b,c⟩=>by have i:=R.len b;have j:=a.len c;grind
 Ib:=λ{l e g x y}⟨d,f,h,b,c⟩k=>by have i:=R.len b;have j:=a.len c;refine⟨d,g,?_,b,k⟩;grind
theorem W5.at(n)(R:ZM α)(i)(hi):W5 (vec n R) (i*R.n) R (λx=>x[i]) (λx y=>x.set i y)where
 fits:=by calc i*R.n+R.n=(i+1)*R.n:=Zm
   _<=n*R.n:=RM _ hi
 Mk:=λ{b c x}a=>by have:=YT.get a (i:=i) Zm;simpa using this
 Ib:=λ{b c e x y}a d=>by have:=YT.set (i:=i) a Zm d;show YT R b _ _;simpa[Vector.toList_set]using this
theorem W5.then{o}{R:ZM α}{d:ZM β}{T:ZM o}{a c}{f}{j}{i}{l}(h:W5 R a d f j)(k:W5 d c T i l):W5 R (a+c) T (λx=>i (f x)) λx z=>j x (l (f x) z)where
 fits:=by have:=h.fits;have:=k.fits;omega
 Mk:=λ{n b x}e=>by have:=k.Mk (h.Mk e);rw[MQ,UV,Jk]at this;have s:=k.fits;rwa[Pu Y]at this
 Ib:=λ{n b g x z}e m=>by
  have r:=h.Ib e (k.Ib (h.Mk e) m);have t:=k.fits;have p:b.take a++(((b.drop a).take d.n).take c++g++((b.drop a).take d.n).drop (c+T.n))++b.drop (a+d.n)=b.take (a+c)++g++b.drop (a+c+T.n):=by
   rw[Jk,Dc];have q:((b.drop a).take d.n).drop (c+T.n)++b.drop (a+d.n)=b.drop (a+c+T.n):=by
    rw[MQ,UV];have:b.drop (a+d.n)=(b.drop (a+(c+T.n))).drop (d.n-(c+T.n)):=by rw[UV];congr 1;omega
    rw[this,Sb];congr 1;omega
   grind
  grind
def box(b:Nat)(T:TypeId)(R:ZM α)(x:α):Yl where p:=λg f=>∃a,f=[(b,T,a)]/\R.rel g a x;mono:=λe⟨a,c,d⟩=>⟨a,c,R.mono e d⟩
def own(T:TypeId)(R:ZM α)(v:Value)(l:List α):Yl where p:=λk e=>(l=[]/\e=[]/\∃f,v=.slice f 0 0)\/∃c a b d,v=.slice (some ⟨c,0,none⟩) l.length a/\e=[(c,T,b++d)]/\YT R k b l/\l.length<=a/\(b++d).length=a*R.n;mono:=λj i=>i.imp id λ⟨c,a,b,d,g,h,p,m⟩=>⟨c,a,b,d,g,h,p.mono j,m⟩
theorem own.one{T}{R:ZM α}{v}{l}{m}{hs}(h:(own T R v l).p m hs):v.oneCell'=true:=by rcases h with⟨rfl,_,a,rfl⟩|⟨b,c,d,e,rfl,_⟩<;>rfl
theorem own.shape{T}{R:ZM α}{v}{l}{m}{hs}(h:(own T R v l).p m hs):∃a cap,v=.slice a l.length cap/\l.length<=cap:=by
 rcases h with⟨rfl,_,a,rfl⟩|⟨c,cap,d,e,rfl,_,_,b,_⟩;·simp
 ·exact⟨_,cap,rfl,b⟩
end
theorem Zf0(n):IntKind.i64.wrap n=VY n:=IntKind.wrap_i64 n
theorem NH{k:IntKind}{w}(a:k.bits=w)(hs:k.signed=false)(n):k.wrap n=(BitVec.ofInt w n).toNat:=by simp only[IntKind.wrap,hs,oY,SW,VZ,BitVec.toNat_ofInt,a];rw[Int.toNat_of_nonneg Y];norm_cast
theorem WN{x}{m}{v}:(i64.slot x).p m v↔v=.int .i64 x:=by simp[ZM.slot,ZM.is,i64]
def VJ:=λ{a b c}=>(@WN a b c).1
theorem Km{n}{m}:(i64.slot (VY n)).p m (.int .i64 (IntKind.i64.wrap n)):=WN.2 (by rw[Zf0])
theorem Wy{k}{w}{x}{m}{v}:((un k w).slot x).p m v↔v=.int k x.toNat:=by simp[ZM.slot,ZM.is,un]
def Up:=λ{a b c d e}=>(@Wy a b c d e).1
theorem U4{x}{m}{v}:(bl.slot x).p m v↔v=.bool x:=by simp[ZM.slot,ZM.is,bl]
def Rg:=λ{a b c}=>(@U4 a b c).2
section
variable{c:XK}{Γ:Yr}{H H':List Yl}{d:Option Tmp}{ty:TypeId}{pos:String}{aft:Array Edge}{g:Option (Nat×Bool)}
theorem JR{n}:Yo Γ (.const (.int .i64 n)) (i64.slot n):=λ_ _ _=>WN.2 rfl
theorem Zkh{k}{w}{n}{x}(h:n=x.toNat):Yo Γ (.const (.int k n)) ((un k w).slot x):=λ_ _ _=>Wy.2 (by rw[<-h];rfl)
theorem Za5{f}:Yo Γ (.func f) (val (.func (.func f) #[] #[])):=λ_ _ _=>rfl
theorem Ch{x}{s s'}(h:Yo Γ x s)(k:∀m v,s.p m v->s'.p m v):Yo Γ x s':=λm a b=>k m _ (h m a b)
theorem S9{o}{s}(h:∀m hs a w,Good m hs w->c.G.p m->ZH H m hs->Am o Γ m a->∃v,(execOp a.eval o).run c.P w=.ok (.value v) w/\s.p m v):PJ c o Γ H s:=by intro m hs a w b f j i;have⟨v,e,k⟩:=h m _ a w b f j i;rw[e];exact⟨m,b,k,ZG.refl _ _ _⟩
theorem PJ.imp{o}{s s'}(h:PJ c o Γ H s)(k:∀m v,s.p m v->s'.p m v):PJ c o Γ H s':=by exactλm r a q f b l j=>(h m _ a q f b l j).mono λv t⟨p,i,n,e⟩=>⟨p,i,k _ _ n,e⟩
theorem Va{x}{s}(hx:Yo Γ x s):PJ c ⟨d,.move x,ty,pos,aft,g⟩ Γ H s:=S9 λe f a h _ _ _ b=>⟨_,rfl,hx e a (b x Ye)⟩
theorem Qe{x}{s}(hx:Yo Γ x s):PJ c ⟨d,.assign x,ty,pos,aft,g⟩ Γ H s:=S9 λe f a h _ _ _ b=>⟨_,rfl,hx e a (b x Ye)⟩
theorem V5{a}{t yt}{x y}{f i s}(hx:Yo Γ x f)(l:Yo Γ y i)(h:∀m u v w,f.p m u->i.p m v->∃r,(do eqGuard a t x y u v;binOp a t u v:Sem Value).run c.P w=.ok r w/\s.p m r):PJ c ⟨d,.binOp a t x y yt,ty,pos,aft,g⟩ Γ H s:=by refine S9 λm n b w _ _ _ e=>?_;have⟨r,j,k⟩:=h m _ _ w (hx m b (e x Ye)) (l m b (e y Ye));refine⟨r,?_,k⟩;simp only[execOp];rw[Ym,j];rfl
section
variable{t yt:TypeId}{x y:Operand}{p q:Int}(hx:Yo Γ x (i64.slot p))(Z:Yo Γ y (i64.slot q))
include hx Z
theorem iq:PJ c ⟨d,.binOp .add t x y yt,ty,pos,aft,g⟩ Γ H (i64.slot (VY (p+q))):=V5 hx Z λe f v h a b=>by cases VJ a;cases VJ b;exact⟨_,by simp[eqGuard_add,binOp_add,Op.intArith],Km⟩
theorem yE:PJ c ⟨d,.binOp .sub t x y yt,ty,pos,aft,g⟩ Γ H (i64.slot (VY (p-q))):=V5 hx Z λe f v h a b=>by cases VJ a;cases VJ b;exact⟨_,by simp[eqGuard_sub,binOp_sub,Op.intArith],Km⟩
theorem ZmC:PJ c ⟨d,.binOp .mul t x y yt,ty,pos,aft,g⟩ Γ H (i64.slot (VY (p*q))):=V5 hx Z λe f v h a b=>by cases VJ a;cases VJ b;exact⟨_,by simp[eqGuard_mul,binOp_mul,Op.intArith],Km⟩
theorem ZmI(a:q≠0):PJ c ⟨d,.binOp .quo t x y yt,ty,pos,aft,g⟩ Γ H (i64.slot (VY (p.tdiv q))):=V5 hx Z λf h v i b e=>by cases VJ b;cases VJ e;exact⟨_,by simp[eqGuard_quo,binOp_quo,Op.intDiv,a],Km⟩
theorem ZmJ(a:q≠0):PJ c ⟨d,.binOp .rem t x y yt,ty,pos,aft,g⟩ Γ H (i64.slot (p.tmod q)):=V5 hx Z λf h v i b e=>by cases VJ b;cases VJ e;exact⟨_,by simp[eqGuard_rem,binOp_rem,Op.intDiv,a],WN.2 rfl⟩
theorem iu:PJ c ⟨d,.binOp .lss t x y yt,ty,pos,aft,g⟩ Γ H (bl.slot (decide (p<q))):=V5 hx Z λe f v h a b=>by cases VJ a;cases VJ b;exact⟨_,by simp[eqGuard_lss,binOp_lss],Rg rfl⟩
theorem ZmB:PJ c ⟨d,.binOp .leq t x y yt,ty,pos,aft,g⟩ Γ H (bl.slot (decide (p<=q))):=V5 hx Z λe f v h a b=>by cases VJ a;cases VJ b;exact⟨_,by simp[eqGuard_leq,binOp_leq],Rg rfl⟩
theorem ZmA:PJ c ⟨d,.binOp .gtr t x y yt,ty,pos,aft,g⟩ Γ H (bl.slot (decide (q<p))):=V5 hx Z λe f v h a b=>by cases VJ a;cases VJ b;exact⟨_,by simp[eqGuard_gtr,binOp_gtr],Rg rfl⟩
theorem ZcI:PJ c ⟨d,.binOp .geq t x y yt,ty,pos,aft,g⟩ Γ H (bl.slot (decide (q<=p))):=V5 hx Z λe f v h a b=>by cases VJ a;cases VJ b;exact⟨_,by simp[eqGuard_geq,binOp_geq],Rg rfl⟩
theorem ir:PJ c ⟨d,.binOp .eql t x y yt,ty,pos,aft,g⟩ Γ H (bl.slot (decide (p=q))):=V5 hx Z λe f v h a b=>by cases VJ a;cases VJ b;exact⟨_,by rfl,Rg Zm⟩
theorem ZmG:PJ c ⟨d,.binOp .neq t x y yt,ty,pos,aft,g⟩ Γ H (bl.slot !decide (p=q)):=V5 hx Z λe f v h a b=>by cases VJ a;cases VJ b;exact⟨_,by rfl,Rg Zm⟩
theorem ZcH:PJ c ⟨d,.binOp .and t x y yt,ty,pos,aft,g⟩ Γ H (i64.slot (JS p q)):=V5 hx Z λe f v h a b=>by cases VJ a;cases VJ b;exact⟨_,by rfl,Km⟩
theorem ZmH:PJ c ⟨d,.binOp .or t x y yt,ty,pos,aft,g⟩ Γ H (i64.slot (ja p q)):=V5 hx Z λe f v h a b=>by cases VJ a;cases VJ b;exact⟨_,by rfl,Km⟩
theorem ZmK:PJ c ⟨d,.binOp .xor t x y yt,ty,pos,aft,g⟩ Γ H (i64.slot (tZ p q)):=V5 hx Z λe f v h a b=>by cases VJ a;cases VJ b;exact⟨_,by rfl,Km⟩
end
def O8(s:Xi)(n:Int):Prop:=∀b v,s.p b v->∃a,v=.int a n
theorem PP{n}:O8 (i64.slot n) n:=λ_ _ a=>⟨_,VJ a⟩
theorem zE{k}{w}{n}:O8 ((un k w).slot n) n.toNat:=λ_ _ a=>⟨_,Up a⟩
theorem iv{t yt}{x y}{p q}{s}(hx:Yo Γ x (i64.slot p))(e:Yo Γ y s)(hs:O8 s q)(h:0<=q):PJ c ⟨d,.binOp .shl t x y yt,ty,pos,aft,g⟩ Γ H (i64.slot (JU p q)):=V5 hx e λf j v k a b=>by cases VJ a;obtain⟨i,rfl⟩:=hs f v b;have:¬q<0:=Y;exact⟨_,by simp[Ym,Iz,Y5,YJ,binOp_shl,Op.shift,this,VZ];rfl,Km⟩
theorem iw{t yt}{x y}{p q}{s}(hx:Yo Γ x (i64.slot p))(e:Yo Γ y s)(hs:O8 s q)(h:0<=q):PJ c ⟨d,.binOp .shr t x y yt,ty,pos,aft,g⟩ Γ H (i64.slot (FP p q)):=V5 hx e λf j v k a b=>by cases VJ a;obtain⟨i,rfl⟩:=hs f v b;have:¬q<0:=Y;exact⟨_,by simp[Ym,Iz,Y5,YJ,binOp_shr,Op.shift,this,VZ];rfl,WN.2 rfl⟩
section
variable{k:IntKind}{b:Nat}{t yt:TypeId}{x y:Operand}{p q:BitVec b}(X:k.bits=b)(hs:k.signed=false)(hx:Yo Γ x ((un k b).slot p))(Z:Yo Γ y ((un k b).slot q))
include X hs hx Z
theorem ZmU:PJ c ⟨d,.binOp .add t x y yt,ty,pos,aft,g⟩ Γ H ((un k b).slot (p+q)):=V5 hx Z λf h v i a e=>by cases Up a;cases Up e;refine⟨_,by simp[eqGuard_add,binOp_add,Op.intArith];rfl,Wy.2 ?_⟩;rw[NH X hs,<-Int.natCast_add,LB,Gw,BitVec.toNat_add]
theorem Zna:PJ c ⟨d,.binOp .sub t x y yt,ty,pos,aft,g⟩ Γ H ((un k b).slot (p-q)):=V5 hx Z λh i v j e f=>by cases Up e;cases Up f;refine⟨_,by simp[eqGuard_sub,binOp_sub,Op.intArith];rfl,Wy.2 ?_⟩;rw[NH X hs];have a:(p.toNat:Int)-q.toNat=p.toNat+-q.toNat:=Y;rw[a,BitVec.ofInt_add,BitVec.ofInt_neg,LB,LB,ww,ww,wx,wx,BitVec.sub_eq_add_neg]
theorem Zm1:PJ c ⟨d,.binOp .mul t x y yt,ty,pos,aft,g⟩ Γ H ((un k b).slot (p*q)):=V5 hx Z λf h v i a e=>by cases Up a;cases Up e;refine⟨_,by simp[eqGuard_mul,binOp_mul,Op.intArith];rfl,Wy.2 ?_⟩;rw[NH X hs,<-Int.natCast_mul,LB,Gw,BitVec.toNat_mul]
theorem Zm6(f:q.toNat≠0):PJ c ⟨d,.binOp .quo t x y yt,ty,pos,aft,g⟩ Γ H ((un k b).slot (p/q)):=V5 hx Z λh i v j a e=>by cases Up a;cases Up e;have:(q.toNat:Int)≠0:=Y;refine⟨_,by simp only[Ym,eqGuard_quo,Y5,YJ,binOp_quo,Op.intDiv,this,VZ];rfl,Wy.2 ?_⟩;have:p.toNat/q.toNat<2^b:=Nat.lt_of_le_of_lt (Nat.div_le_self _ _) p.isLt;rw[NH X hs,<-Int.ofNat_tdiv,LB,Gw,LH this,BitVec.toNat_udiv]
omit X hs in
theorem Zm7(f:q.toNat≠0):PJ c ⟨d,.binOp .rem t x y yt,ty,pos,aft,g⟩ Γ H ((un k b).slot (p%q)):=V5 hx Z λh i v j a e=>by cases Up a;cases Up e;have:(q.toNat:Int)≠0:=Y;refine⟨_,by simp only[Ym,eqGuard_rem,Y5,YJ,binOp_rem,Op.intDiv,this,VZ];rfl,Wy.2 ?_⟩;rw[<-Int.ofNat_tmod];simp
theorem ZmV:PJ c ⟨d,.binOp .and t x y yt,ty,pos,aft,g⟩ Γ H ((un k b).slot (p&&&q)):=V5 hx Z λf h v i a e=>by cases Up a;cases Up e;subst X;refine⟨_,by simp[Ym,Iz,Y5,YJ,binOp_and,Op.intBits];rfl,Wy.2 ?_⟩;rw[NH rfl hs];simp
theorem Zm5:PJ c ⟨d,.binOp .or t x y yt,ty,pos,aft,g⟩ Γ H ((un k b).slot (p|||q)):=V5 hx Z λf h v i a e=>by cases Up a;cases Up e;subst X;refine⟨_,by simp[Ym,Iz,Y5,YJ,binOp_or,Op.intBits];rfl,Wy.2 ?_⟩;rw[NH rfl hs];simp
theorem Znb:PJ c ⟨d,.binOp .xor t x y yt,ty,pos,aft,g⟩ Γ H ((un k b).slot (p^^^q)):=V5 hx Z λf h v i a e=>by cases Up a;cases Up e;subst X;refine⟨_,by simp[Ym,Iz,Y5,YJ,binOp_xor,Op.intBits];rfl,Wy.2 ?_⟩;rw[NH rfl hs];simp
omit X hs
theorem Zm0:PJ c ⟨d,.binOp .lss t x y yt,ty,pos,aft,g⟩ Γ H (bl.slot (decide (p<q))):=V5 hx Z λf h v i a e=>by cases Up a;cases Up e;exact⟨_,by simp[eqGuard_lss,binOp_lss];rfl,Rg (by simp[BitVec.lt_def])⟩
theorem ZmZ:PJ c ⟨d,.binOp .leq t x y yt,ty,pos,aft,g⟩ Γ H (bl.slot (decide (p<=q))):=V5 hx Z λf h v i a e=>by cases Up a;cases Up e;exact⟨_,by simp[eqGuard_leq,binOp_leq];rfl,Rg (by simp[oW])⟩
theorem ZmY:PJ c ⟨d,.binOp .gtr t x y yt,ty,pos,aft,g⟩ Γ H (bl.slot (decide (q<p))):=V5 hx Z λf h v i a e=>by cases Up a;cases Up e;exact⟨_,by simp[eqGuard_gtr,binOp_gtr];rfl,Rg (by simp[BitVec.lt_def])⟩
theorem ZmX:PJ c ⟨d,.binOp .geq t x y yt,ty,pos,aft,g⟩ Γ H (bl.slot (decide (q<=p))):=V5 hx Z λf h v i a e=>by cases Up a;cases Up e;exact⟨_,by simp[eqGuard_geq,binOp_geq];rfl,Rg (by simp[oW])⟩
theorem ZmW:PJ c ⟨d,.binOp .eql t x y yt,ty,pos,aft,g⟩ Γ H (bl.slot (decide (p=q))):=V5 hx Z λf h v i a e=>by cases Up a;cases Up e;exact⟨_,by simp[Iz,binOp_eql];rfl,Rg (by congr 1;rw[E4];simp[<-dG];omega)⟩
theorem Zm3:PJ c ⟨d,.binOp .neq t x y yt,ty,pos,aft,g⟩ Γ H (bl.slot !decide (p=q)):=V5 hx Z λf h v i a e=>by cases Up a;cases Up e;exact⟨_,by simp[Iz,binOp_neq];rfl,Rg (by congr 1;rw[E4];simp[<-dG];omega)⟩
end
theorem Zm8{k}{b}{t yt}{x y}{p}{q}{s}(a:k.bits=b)(e:k.signed=false)(hx:Yo Γ x ((un k b).slot p))(j:Yo Γ y s)(hs:O8 s q)(m:0<=q):PJ c ⟨d,.binOp .shl t x y yt,ty,pos,aft,g⟩ Γ H ((un k b).slot (p<<<q.toNat)):=V5 hx j λl o v r f i=>by
  cases Up f;obtain⟨n,rfl⟩:=hs l v i;have:¬q<0:=Y;refine⟨_,by simp[Ym,Iz,Y5,YJ,binOp_shl,Op.shift,this,VZ];rfl,Wy.2 ?_⟩;rw[NH a e,a];congr 3;apply BA;rw[show 2^min _ b=((2^min q.toNat b:Nat):Int)by simp,<-Int.natCast_mul,LB,Gw,Zgj,wT];rcases nA q.toNat b with h|h;·grind
  ·rw[nC h,Nat.mul_mod_left];have:2^b∣p.toNat*2^q.toNat:=Nat.dvd_mul_left_of_dvd (Nat.pow_dvd_pow 2 h) _;exact(Nat.mod_eq_zero_of_dvd this).symm
theorem Zm9{k}{b}{t yt}{x y}{p}{q}{s}(a:k.bits=b)(hx:Yo Γ x ((un k b).slot p))(i:Yo Γ y s)(hs:O8 s q)(l:0<=q):PJ c ⟨d,.binOp .shr t x y yt,ty,pos,aft,g⟩ Γ H ((un k b).slot (p>>>q.toNat)):=V5 hx i λj n v o e f=>by
  cases Up e;obtain⟨m,rfl⟩:=hs j v f;have:¬q<0:=Y;refine⟨_,by simp[Ym,Iz,Y5,YJ,binOp_shr,Op.shift,this,VZ];rfl,Wy.2 ?_⟩;rw[a,show(2:Int)^min _ b=(2^min q.toNat b:Nat)by simp,dI,dY,Int.fdiv_eq_ediv_of_nonneg _ Zm,<-Int.natCast_ediv];rcases nA q.toNat b with h|h;·grind
  ·rw[nC h,Nat.div_eq_of_lt p.isLt,Nat.div_eq_of_lt (BG p.isLt (Ix Zb h))]
theorem iA{x}{b}{t}(hx:Yo Γ x (bl.slot b)):PJ c ⟨d,.unOp .not t x,ty,pos,aft,g⟩ Γ H (bl.slot !b):=S9 λf h a i _ _ _ e=>by exact⟨.bool _,by simp[execOp,U4.1 (hx f a (e x Ye)),Op.unary],Rg rfl⟩
theorem ZmF{x}{p}{t}(hx:Yo Γ x (i64.slot p)):PJ c ⟨d,.unOp .neg t x,ty,pos,aft,g⟩ Γ H (i64.slot (VY (0-p))):=S9 λe f a h _ _ _ b=>by exact⟨_,by simp[execOp,VJ (hx e a (b x Ye)),Op.unary,Op.intArith],Km⟩
theorem run_equalIn_bool{P}{t}(e:P.underlying t=some .bool)(n)(a b)(w):(Op.equalIn (n+1) t (.bool a) (.bool b)).run P w=.ok (a==b) w:=by simp only[Op.equalIn,Ym,WB e,YJ];rfl
theorem run_eql_bool{P}{t}(e:P.underlying t=some .bool)(a b)(w):(binOp .eql t (.bool a) (.bool b)).run P w=.ok (.bool (a==b)) w:=by simp only[binOp,Op.equal,Op.maxDepth,Ym,run_equalIn_bool e 9999 a b w];rfl
theorem run_neq_bool{P}{t}(e:P.underlying t=some .bool)(a b)(w):(binOp .neq t (.bool a) (.bool b)).run P w=.ok (.bool !a==b) w:=by simp only[binOp,Op.equal,Op.maxDepth,Ym,run_equalIn_bool e 9999 a b w];rfl
theorem il{x y}{p q}{t yt}(a:c.P.underlying t=some .bool)(hx:Yo Γ x (bl.slot p))(f:Yo Γ y (bl.slot q)):PJ c ⟨d,.binOp .eql t x y yt,ty,pos,aft,g⟩ Γ H (bl.slot (p==q)):=V5 hx f λh i v j b e=>by cases U4.1 b;cases U4.1 e;exact⟨_,by simp[eqGuard_at_bool,run_eql_bool a],Rg rfl⟩
theorem im{x y}{p q}{t yt}(a:c.P.underlying t=some .bool)(hx:Yo Γ x (bl.slot p))(f:Yo Γ y (bl.slot q)):PJ c ⟨d,.binOp .neq t x y yt,ty,pos,aft,g⟩ Γ H (bl.slot !p==q):=V5 hx f λh i v j b e=>by cases U4.1 b;cases U4.1 e;exact⟨_,by simp[eqGuard_at_bool,run_neq_bool a],Rg rfl⟩
def Ko(P:Program)(b a:TypeId)(k:IntKind):Bool:=(P.underlying b).isSome&&match P.underlying a with|some (.int k')=>k'==k|_=>false
theorem Zkv{P}{b a}{k}(h:Ko P b a k=true):P.underlying a=some (.int k)/\(P.underlying b).isSome=true:=by simp[Ko,Yv]at h;grind
theorem Zro{P}{b a}{k k'}(h:Ko P b a k=true)(n)(w):(convert b a (.int k' n)).run P w=.ok (.int k (k.wrap n)) w:=by have⟨e,f⟩:=Zkv h;have⟨j,i⟩:=nG f;simp[convert,WB i,WB e,Conv.intToInt]
theorem qd{b a}{x}{s s'}{k}{n}(h:Ko c.P b a k=true)(hx:Yo Γ x s)(hs:O8 s n)(j:∀m,s'.p m (.int k (k.wrap n))):PJ c ⟨d,.convert b a x,ty,pos,aft,g⟩ Γ H s':=S9 λm l e p _ _ _ i=>by have⟨o,f⟩:=hs m _ (hx m e (i x Ye));exact⟨_,by simp only[execOp,f,Ym,Zro h];rfl,j m⟩
theorem ZcF{b a}{x}{s}{n}(h:Ko c.P b a .i64=true)(hx:Yo Γ x s)(hs:O8 s n):PJ c ⟨d,.convert b a x,ty,pos,aft,g⟩ Γ H (i64.slot (VY n)):=qd h hx hs λe=>Km
theorem ip{e a}{x}{s}{n}{k}{b}(f:k.bits=b)(i:k.signed=false)(h:Ko c.P e a k=true)(hx:Yo Γ x s)(hs:O8 s n):PJ c ⟨d,.convert e a x,ty,pos,aft,g⟩ Γ H ((un k b).slot (BitVec.ofInt b n)):=qd h hx hs λj=>Wy.2 (by rw[NH f i])
theorem Zmy{e a}{x}{k k'}{b b'}{n}(f:k.bits=b)(i:k.signed=false)(h:Ko c.P e a k=true)(hx:Yo Γ x ((un k' b').slot n)):PJ c ⟨d,.convert e a x,ty,pos,aft,g⟩ Γ H ((un k b).slot (n.setWidth b)):=qd h hx zE λj=>Wy.2 (by rw[NH f i];grind)
theorem ZcG{e a}{x}{k}{b}{n}(i:b<64)(h:Ko c.P e a .i64=true)(hx:Yo Γ x ((un k b).slot n)):PJ c ⟨d,.convert e a x,ty,pos,aft,g⟩ Γ H (i64.slot n.toNat):=qd h hx zE λj=>WN.2 (by have f:2^b<=2^63:=Ix Zb Y;congr 1;rw[Zf0];exact Ip Y)
end
def T7(P:Program)(T:TypeId)(ag:Bool)(n:Nat):Bool:=(match P.underlying T with|some (.struct _)|some (.array _ _)=>ag|some _=>!ag|none=>false)&&match P.info? T with|some a=>a.size==n|none=>false
def QL(P:Program)(T:TypeId)(n:Nat):Bool:=match P.info? T with|some a=>a.size==n|none=>false
def Hg(P:Program)(b f off:Nat):Bool:=match P.underlying b with
 |some (.struct fs)=>match fs[f]?with
  |some a=>a.offset==off&&match P.info? a.type with|some c=>c.size !=0|none=>false
  |none=>false
 |_=>false
def Qz(P:Program)(T n sz:Nat):Bool:=match P.underlying T with|some (.array n' e)=>n'==n&&QL P e sz|_=>false
def Uh(P:Program)(T sz:Nat):Bool:=match P.underlying T with|some (.slice e)=>QL P e sz|_=>false
theorem Po{P}{T n:Nat}(h:QL P T n=true)(w):(sizeOf T).run P w=.ok n w:=by unfold QL at h;cases hi:P.info? T with|none=>grind|some a=>
  rw[hi]at h;have:=by simpa using h
  simp[sizeOf,typeInfo,hi,this]
theorem oi{P}{T n:Nat}{ag}(h:T7 P T ag n=true):QL P T n=true:=by simp[T7,Yv]at h;exact h.2
theorem ZfM{P}{T n:Nat}{ag}(h:T7 P T ag n=true)(w):(isAgg T).run P w=.ok ag w:=by simp[T7,Yv]at h;have⟨a,_⟩:=h;unfold isAgg;cases b:P.underlying T with|none=>grind|some c=>rw[b]at a;rw[Ym,WB b];cases c<;>simp at a<;>simp[a]
theorem vU{P}{T n sz}(h:Qz P T n sz=true):∃e,P.underlying T=some (.array n e)/\QL P e sz=true:=by unfold Qz at h;grind
theorem HY{P}{T sz}(h:Uh P T sz=true):∃e,P.underlying T=some (.slice e)/\QL P e sz=true:=by
 unfold Uh at h;split at h;·grind
 ·grind
theorem ZaO{P}{a f off}(h:Hg P a f off=true)(b o)(w):(Instr.fieldAt a (.pointer (some ⟨b,o,none⟩)) f).run P w=.ok (.pointer (some ⟨b,o+off,none⟩)) w:=by
 unfold Hg at h;split at h
 ·rename_i i g;split at h;·rename_i d e;simp at h;obtain⟨j,c⟩:=h;cases hi:P.info? d.type with|none=>grind|some k=>rw[hi]at c;simp[Instr.fieldAt,WB g,e,Instr.sureAddr,fieldPlace,sizeOf,typeInfo,hi,by simpa using c,SE,Y]
  ·grind
 ·grind
theorem xw{P}{w}{T}{ag}{n b o}{cs}(c:T7 P T ag n=true)(a:cs.length=n)(h1:ag=false->n=1)(h:∀j v,cs[j]?=some v->w.cell? ⟨b,o+j,none⟩=some v):(Instr.loadAt T (.pointer (some ⟨b,o,none⟩))).run P w=.ok (U6 ag cs) w:=by
 simp[Instr.loadAt,Instr.sureAddr,pure_bind,loadVar,Ym,ZfM c w,YJ]
 cases ag with|true=>
  subst a;have:=BO (P:=P) w _ _ λj v d=>by rw[SE];exact h j v d
  simp[Po (oi c) w,this,U6]|false=>rw[h1 rfl]at a;match cs,a with|[v],_=>have:=h 0 v rfl;rw[Iw]at this;simp[run_load,this,U6]
section
variable{c:XK}{Γ:Yr}{H H':List Yl}{d:Option Tmp}{ty:TypeId}{pos:String}{aft:Array Edge}{g:Option (Nat×Bool)}{α β:Type}
theorem Nt{T}{x}{R}{y:α}(hx:Yo Γ x (WF R y))(f:T7 c.P T R.ag R.n=true):PJ c ⟨d,.load T x,ty,pos,aft,g⟩ Γ H (R.slot y):=S9 λl o e q i _ _ j=>by have⟨m,p,n,a,b,h⟩:=hx l e (j x Ye);refine⟨U6 _ _,?_,ZM.zH b⟩;simp only[execOp,a,Ym,xw f (R.len b) R.one λk v a=>i.mem _ _ _ (h k v a)];rfl
theorem ZH.box{m}{hs}{w:World}{b}{a}{R}{x:α}(h:ZH H m hs)(e:Uz H (box b a R x) H'):∃cs,(b,a,cs)∈hs/\R.rel m cs x:=by obtain⟨j,k,l,⟨cs,i,f⟩,_⟩:=h.pick e;exact⟨cs,Zm,f⟩
theorem Good.cells{m}{hs}{w}(a:Good m hs w){b}{T}{cs}(h:(b,T,cs)∈hs)(j)(v)(e:cs[j]?=some v):w.cell? ⟨b,j,none⟩=some v:=by have:=a.YY _ h;simp[World.cell?,this];simpa using e
theorem HL{T i}{x}{b off}{R}{a:ZM β}{y:α}{f}{t}(hx:Yo Γ x (val (.pointer (some ⟨b,off,none⟩))))(m:Uz H (box b i R y) H')(p:W5 R off a f t)(k:T7 c.P T a.ag a.n=true):PJ c ⟨d,.load T x,ty,pos,aft,g⟩ Γ H (a.slot (f y)):=S9 λs z e w l _ r o=>by
  have j:e.eval x=_:=hx s e (o x Ye);have⟨u,n,q⟩:=ZH.box (w:=w) r m;have h:=p.Mk q;refine⟨U6 _ _,?_,ZM.zH h⟩;simp[execOp,j,Ym];rw[xw k (a.len h) a.one];·rfl
  ·intro A v ev;rw[Ps]at ev;split at ev;·rw[Rt]at ev;exact l.cells n _ _ ev
   ·grind
def bg(n:Nat)(R:ZM α)(x:α)(m:YD):Prop:=∃a,R.rel m a x/\At m n 0 a
theorem CU{a f off}{x}{R}{Q:ZM β}{y:α}{b}{q}(hx:Yo Γ x (WF R y))(m:W5 R off Q b q)(k:Hg c.P a f off=true):PJ c ⟨d,.fieldAddr a x f,ty,pos,aft,g⟩ Γ H (WF Q (b y)):=S9 λo t e u s _ _ l=>by have⟨h,p,r,i,n,j⟩:=hx o e (l x Ye);exact⟨_,by simp only[execOp,i,Ym,ZaO k];rfl,h,p+off,_,rfl,m.Mk n,j.Ky _ _⟩
theorem Zrt{P}{T n sz}(e:Qz P T n sz=true)(b o)(k){i:Int}(a:0<=i)(h1:i<n)(w):(Instr.indexAt T (.pointer (some ⟨b,o,none⟩)) (.int k i)).run P w=.ok (.pointer (some ⟨b,o+i.toNat*sz,none⟩)) w:=by have⟨j,h,f⟩:=vU e;have:0<=i/\i<n:=⟨a,h1⟩;simp[Instr.indexAt,asIntOf,WB h,Instr.sureAddr,this,Po f w,SE]
theorem Ze8{P}{T sz}(e:Uh P T sz=true)(b o n cap:Nat)(k){i:Int}(a:0<=i)(h1:i<n)(w):(Instr.indexAt T (.slice (some ⟨b,o,none⟩) n cap) (.int k i)).run P w=.ok (.pointer (some ⟨b,o+i.toNat*sz,none⟩)) w:=by have⟨j,h,f⟩:=HY e;have:0<=i/\i<n:=⟨a,h1⟩;simp[Instr.indexAt,asIntOf,WB h,this,Po f w,SE]
theorem ZmD{T:TypeId}{x y}{R:ZM α}{l}{i}{s}(hx:Yo Γ x ((sl R).slot l))(r:Yo Γ y s)(hs:O8 s i)(m:0<=i)(h1)(n:Uh c.P T R.n=true):PJ c ⟨d,.indexAddr T x y,ty,pos,aft,g⟩ Γ H (WF R l[i.toNat]):=S9 λa A b C z _ _ h=>by
  have⟨v,j,f,w,q⟩:=hx a b (h x Ye);have⟨t,k⟩:=hs a _ (r a b (h y Ye));simp at f;rcases q with rfl|⟨e,u,B,rfl,p,o⟩;·grind
  ·refine⟨_,by simp only[execOp,f,k,Ym,Ze8 n e u l.length j t m Y];rfl,e,_,_,rfl,YT.get p _,o.Ky _ _⟩
theorem HV{P}{T n off:Nat}{ag}{cs:List Value}(a:T7 P T ag n=true)(h1:ag=false->n=1)(b:off+n<=cs.length)(w):(part T cs.toArray off).run P w=.ok (U6 ag ((cs.drop off).take n)) w:=by simp only[part,Ym,ZfM a w,YJ];cases ag with|true=>simp[Po (oi a) w,U6]|false=>have:=h1 rfl;subst this;rw[show cs.toArray[off]?=some cs[off]by simp,O0 Y];rfl
theorem Zfa{P}{T ty:TypeId}{sz}(b:Uh P T sz=true)(a)(n cap)(w):(Builtin.len_ #[T] ty #[.slice a n cap]).run P w=.ok (goInt n) w:=by have⟨f,e,_⟩:=HY b;simp[Builtin.len_,WB e]
theorem iy{T:TypeId}{x}{n}{s}{sz}(hx:Yo Γ x s)(hs:∀m hs v,ZH H m hs->s.p m v->∃a cap,v=.slice a n cap)(f:Uh c.P T sz=true):PJ c ⟨d,.call {callee:=.builtin .len,args:=#[x],argTypes:=#[T]},ty,pos,aft,g⟩ Γ H (i64.slot n):=S9 λm i a k l _ j h=>by have⟨b,cap,e⟩:=hs m i _ j (hx m a (h x (by simp[Op.operands,Call.operands])));refine⟨goInt n,?_,WN.2 rfl⟩;simp[execOp,resolve,Ym,Y5,YJ,invoke,builtin];simp[Iv,XF,O1,e,Zfa (ty:=ty) f b n cap k,YJ]
theorem ZmL{T:TypeId}{x}{R:ZM α}{l}{sz}(hx:Yo Γ x ((sl R).slot l))(a:Uh c.P T sz=true:=by kernel_rfl):PJ c ⟨d,.call {callee:=.builtin .len,args:=#[x],argTypes:=#[T]},ty,pos,aft,g⟩ Γ H (i64.slot l.length):=iy hx (λi h v _⟨b,e,f,_⟩=>Zm) a
theorem iz{T a:TypeId}{x}{v}{R:ZM α}{l}{sz}(hx:Yo Γ x (ov v))(i:Uz H (own a R v l) H')(h:Uh c.P T sz=true:=by kernel_rfl):PJ c ⟨d,.call {callee:=.builtin .len,args:=#[x],argTypes:=#[T]},ty,pos,aft,g⟩ Γ H (i64.slot l.length):=iy hx (λq p r k m=>by have⟨n,o,_,j,_⟩:=k.pick i;have⟨b,e,f,_⟩:=own.shape j;exact⟨b,e,(OR.1 m).1.trans f⟩) h
theorem qe{T:TypeId}{x}{a0}{n cap}{sz}(hx:Yo Γ x (val (.slice a0 n cap)))(a:Uh c.P T sz=true):PJ c ⟨d,.call {callee:=.builtin .len,args:=#[x],argTypes:=#[T]},ty,pos,aft,g⟩ Γ H (i64.slot n):=iy hx (λf e h _ b=>⟨a0,cap,b⟩) a
inductive Ou(Γ:Yr):Option Operand->Option Int->Prop|no:Ou Γ none none|yes{x:Operand}{s:Xi}{i:Int}:Yo Γ x s->O8 s i->Ou Γ (some x) (some i)
theorem Ou.val{x}{i}(h:Ou Γ x i){m}{a}(b:∀y,x=some y->Rv Γ m a y):x.map a.eval=none/\i=none\/∃k n,x.map a.eval=some (.int k n)/\i=some n:=by cases h with|no=>simp|yes h k=>have⟨e,f⟩:=k _ _ (h m a (b _ rfl));exact .inr ⟨e,_,Zm,rfl⟩
theorem pB{P}{UE}{len cap:Nat}{lo hi}{l h:Option Int}(j:lo=none/\l=none\/∃k n,lo=some (.int k n)/\l=some n)(i:hi=none/\h=none\/∃k n,hi=some (.int k n)/\h=some n)(a:0<=l.getD 0)(h1:l.getD 0<=h.getD len)(h2:h.getD len<=cap)(w):(Instr.sliceBounds UE len cap lo hi none).run P w=.ok ((l.getD 0).toNat,(h.getD len).toNat,cap) w:=by
 have f:∀k(n:Int)(b:Nat)e,0<=n->n<=b->(Instr.sliceBound (.int k n) b e).run P w=.ok n.toNat w:=by intro k n b e a h1;simp[Instr.sliceBound,asIntOf,a,h1]
 unfold Instr.sliceBounds;rcases i with⟨rfl,rfl⟩|⟨k,n,rfl,rfl⟩<;>rcases j with⟨rfl,rfl⟩|⟨m,o,rfl,rfl⟩;·simp
 ·simp_all
 ·simp_all
 ·simp at a h1 h2⊢;simp[f k n cap (if UE=true then .sliceAcap else .sliceAlen) Y h2,f m _ n.toNat .sliceB a Y]
theorem fK{P}{T sz}(e:Uh P T sz=true){a}{len cap:Nat}{lo hi}{l h:Option Int}(i:lo=none/\l=none\/∃k n,lo=some (.int k n)/\l=some n)(f:hi=none/\h=none\/∃k n,hi=some (.int k n)/\h=some n)(b:0<=l.getD 0)(h1:l.getD 0<=h.getD len)(h2:h.getD len<=cap)(w):(Instr.sliceAt T (.slice a len cap) lo hi none).run P w=.ok (.slice (if cap=(l.getD 0).toNat then a else a.map (·.add ((l.getD 0).toNat*sz))) ((h.getD len).toNat-(l.getD 0).toNat) (cap-(l.getD 0).toNat)) w:=by have⟨o,m,j⟩:=HY e;simp only[Instr.sliceAt,Ym,WB m,YJ,Instr.slice,pB (P:=P) (UE:=true) i f b h1 h2 w,Po j w,Y5]
theorem ZmN{T n sz b o:Nat}{x}{lo hi}{l h}(hx:Yo Γ x (val (.pointer (some ⟨b,o,none⟩))))(r:Ou Γ lo l)(q:Ou Γ hi h)(m:0<=l.getD 0)(h1:l.getD 0<=h.getD n)(h2:h.getD n<=n)(w:l.getD 0<n)(p:Qz c.P T n sz=true):PJ c ⟨d,.slice T x lo hi none,ty,pos,aft,g⟩ Γ H (val (.slice (some ⟨b,o+(l.getD 0).toNat*sz,none⟩) ((h.getD n).toNat-(l.getD 0).toNat) (n-(l.getD 0).toNat))):=S9 λu z i j y _ _ a=>by have k:i.eval x=_:=hx u i (a x Ye);have⟨v,t,s⟩:=vU p;refine⟨_,by simp[execOp,k,Dh,Ym,Instr.sliceAt,WB t,YJ,Instr.sureAddr,Y5,pB (P:=c.P) (UE:=false) (r.val λf e=>a f (by subst e;simp[Op.operands])) (q.val λf e=>a f (by subst e;simp[Op.operands])) m h1 h2 j,Po s j];rw[Yg Y],?_⟩;simp[val,SE]
end
theorem Good.lt{m}{hs}{w}(a:Good m hs w){b o}{v}(h:m b o=some v):b<w.heap.size:=cf w _ (a.mem b o v h)
theorem Good.QF{m}{hs}{w}(a:Good m hs w){b}(h:b∈hs.bs):b<w.heap.size:=by obtain⟨d,c,rfl⟩:=Uj h;have:=a.YY d c;grind
theorem heap_alloc_old{w:World}{o}{b}(h:b<w.heap.size):(w.alloc o).heap[b]?=w.heap[b]?:=by show(w.heap.push o)[b]?=_;rw[Array.getElem?_push,Yg Y]
theorem heap_alloc_new{w:World}{o}:(w.alloc o).heap[w.heap.size]?=some o:=by show(w.heap.push o)[w.heap.size]?=_;rw[Array.getElem?_push,YW rfl]
theorem Good.drew{m}{hs}{w}(a:Good m hs w):Good m hs w.drew:=⟨a.mem,a.nodup,a.YY,a.free⟩
theorem Good.KE{m}{hs}{w}(a:Good m hs w)(T)(cs):Good m ((w.heap.size,T,cs)::hs) (w.alloc (.cells cs.toArray T))where
 mem:=λe c v b=>(nI w _ _ (a.lt b)).trans (a.mem e c v b);nodup:=by simp only[Hp.bs,XF,T9];exact⟨λb=>Nat.lt_irrefl _ (a.QF b),a.nodup⟩
 YY:=λd hx=>by
  rcases XB hx with rfl|hx;·exact heap_alloc_new
  ·rw[heap_alloc_old (a.QF (VC hx))];exact a.YY d hx
 free:=λd hx c=>by
  rcases XB hx with rfl|hx;·cases b:m _ c with|none=>rfl|some v=>exact absurd (a.lt b) Zb
  ·exact a.free d hx c
theorem ZG.alloc(w)(m)(bs)(o):ZG w (w.alloc o) m m bs (w.heap.size::bs)where
 os:=rfl;tape:=rfl;output:=rfl;size:=Zb;Wa:=λb a _=>⟨heap_alloc_old a,λ_=>rfl⟩;own:=λb a=>by grind
 le:=XI.refl m
theorem ZG.drew(w)(m)(bs):ZG w w.drew m m bs bs:=⟨rfl,rfl,rfl,Zb,λ_ _ _=>⟨rfl,λ_=>rfl⟩,Zm,XI.refl m⟩
def YD.put(m:YD)(b:Nat)(cs:List Value):YD:=λa c=>if a=b then cs[c]?else m a c
theorem YD.FQ{m}{b}{cs}(h:∀o,m b o=none):XI m (m.put b cs):=by intro a o v e;unfold YD.put;grind
theorem YD.AE(m:YD)(b)(cs):At (m.put b cs) b 0 cs:=by intro a v e;simp[YD.put,e]
theorem Good.freeze{m}{hs:Hp}{w}{b}{T}{cs}(a:Good m ((b,T,cs)::hs) w):Good (m.put b cs) hs w where
 mem:=λi d v c=>by
  unfold YD.put at c;split at c;·rename_i g;subst g;exact a.cells (T:=T) Zb d v c
  ·exact a.mem _ d v c
 nodup:=by have:=a.nodup;simp only[Hp.bs,XF,T9]at this;exact this.2
 YY:=λe f=>a.YY e XA;free:=λe f d=>by have:=a.nodup;simp only[Hp.bs,XF,T9]at this;have h:e.1≠b:=λj=>this.1 Zm;simp only[YD.put,Yg h];exact a.free e (XG _ f) d
theorem Good.FQ{m}{hs:Hp}{w}{b}{T}{cs}(a:Good m ((b,T,cs)::hs) w):XI m (m.put b cs):=YD.FQ (a.free (b,T,cs) Zb)
theorem ZG.freeze{w g}{m a}{f bs}{b}{cs}(h:ZG w g m a f (b::bs))(j:XI a (a.put b cs)):ZG w g m (a.put b cs) f bs where
 os:=h.os;tape:=h.tape;output:=h.output;size:=h.size;Wa:=λe c d=>⟨(h.Wa _ c d).1,λl=>by
  have k:e≠b:=λi=>by subst i;exact(h.own _ Zb).elim d Y
  simp[YD.put,Yg k];exact(h.Wa _ c d).2 l⟩;own:=λe c=>h.own _ Zm;le:=h.le.trans j
def Wr(w:World)(b:Nat)(T:TypeId)(cs:List Value):World:={w with heap:=w.heap.setIfInBounds b (.cells cs.toArray T (0,0))}
theorem ZrR{w}{b}{T}{cs}(h:w.heap[b]?=some (.cells cs.toArray T (0,0))):Wr w b T cs=w:=by
 unfold Wr;have a:b<w.heap.size:=by grind
 have:w.heap.setIfInBounds b (.cells cs.toArray T (0,0))=w.heap:=by
  apply dC;intro c;rw[Jh];split;·grind
  ·rfl
 rw[this]
theorem ZrT{w}{b k}{T}{cs:List Value}{v}(h:w.heap[b]?=some (.cells cs.toArray T (0,0))):w.setCell ⟨b,k,none⟩ v=Wr w b T (cs.set k v):=by unfold World.setCell Wr;congr 1;grind
theorem xA{w}{b}{T}{cs a:List Value}(h:w.heap[b]?=some (.cells cs.toArray T (0,0))):(Wr w b T a).heap[b]?=some (.cells a.toArray T (0,0)):=by
 have c:b<w.heap.size:=by grind
 simp[Wr,Jh,c]
theorem ZrS{w}{b}{T}{cs a}:Wr (Wr w b T cs) b T a=Wr w b T a:=by unfold Wr;simp
theorem EB{P}{b o}{T}:∀(ds)(i)(cs:List Value)(w),(∀v∈ds,v.oneCell'=true)->w.heap[b]?=some (.cells cs.toArray T (0,0))->o+i+ds.length<=cs.length->(storeCells ⟨b,o,none⟩ ds i).run P w=.ok () (Wr w b T (cs.take (o+i)++ds++cs.drop (o+i+ds.length)))
 |[],i,cs,w,_,hb,_=>by simp only[storeCells,Y5,Xp,Vf,Iw,Sb];rw[ZrR hb]|v::ds,i,cs,w,hv,hb,g=>by
  simp at g;have a:o+i<cs.length:=Y;have e:w.cell? ⟨b,o+i,none⟩=some cs[o+i]:=by simp[World.cell?,hb,a]
  have f:w.frozen? ⟨b,o+i,none⟩=false:=by simp[World.frozen?,hb]
  simp only[storeCells,Ym,SE];rw[run_store P w _ v .plain (hv v Zb),e];simp only[f,SW,VZ,YJ,ZrT hb,EB (P:=P) (b:=b) (o:=o) (T:=T) ds (i+1) (cs.set (o+i) v) _ Zm (xA hb) WI,ZrS];congr 2;have c:(cs.set (o+i) v).take (o+(i+1))=cs.take (o+i)++[v]:=by rw[show o+(i+1)=o+i+1by omega,MU (by simpa using a),List.take_set,Zgq WI];simp
  have d:(cs.set (o+i) v).drop (o+(i+1)+ds.length)=cs.drop (o+i+(v::ds).length):=by rw[List.drop_set_of_lt Y];congr 1;simp;omega
  rw[c,d];simp
theorem Good.Wr{m}{hs:Hp}{w}{b}{T}{cs}(h)(c:Good m ((b,T,cs)::hs) w):Good m ((b,T,h)::hs) (Wr w b T h)where
 mem:=λd e v i=>by
  have j:d≠b:=λf=>by subst f;rw[c.free (d,T,cs) Zb e]at i;cases i
  have:=c.mem d e v i;have l:(Sl.Wr w b T h).heap[d]?=w.heap[d]?:=by have n:b≠d:=λf=>j f.symm;simp[Sl.Wr,Jh,n]
  exact(BL (w:=w) (a:=⟨d,e,none⟩) l).trans this
 nodup:=c.nodup;YY:=λg hx=>by
  rcases XB hx with rfl|hx;·exact xA (c.YY (b,T,cs) Zb)
  ·have k:=c.nodup;simp only[Hp.bs,XF,T9]at k;have j:b≠g.1:=λf=>k.1 Zm;simp only[Sl.Wr,Jh,Yg j];exact c.YY g (XG _ hx)
 free:=λg hx e=>by
  rcases XB hx with rfl|hx;·exact c.free (b,T,cs) Zb e
  ·exact c.free g (XG _ hx) e
theorem ZG.Wr{w}{m}{b}{T}{cs}{bs}(e:b∈bs):ZG w (Wr w b T cs) m m bs bs where
 os:=rfl;tape:=rfl;output:=rfl;size:=by simp[Sl.Wr]
 Wa:=λa h f=>by have g:b≠a:=λc=>f (c▸e);simp[Sl.Wr,Jh,g]
 own:=λa d=>.inl d;le:=XI.refl m
theorem fL{P}{w}{T a}{n b o}{v}{ds cs:List Value}(c:QL P T n=true)(hv:v.cells=ds.toArray)(e:ds.length=n)(h1:∀v∈ds,v.oneCell'=true)(d:w.heap[b]?=some (.cells cs.toArray a (0,0)))(f:o+n<=cs.length):(Instr.storeAt T (.pointer (some ⟨b,o,none⟩)) v).run P w=.ok () (Wr w b a (cs.take o++ds++cs.drop (o+n))):=by simp[Instr.storeAt,Instr.sureAddr,storeVar,hv,Po c w,e,EB (P:=P) (o:=o) _ 0 _ w h1 d Y]
section
variable{c:XK}{Z:Array Oper}{l:List Oper}{Γ Γ':Yr}{H H':List Yl}{K:Act->World->Prop}{d:Tmp}{od:Option Tmp}{ty:TypeId}{pos:String}{aft:Array Edge}{α β:Type}
theorem se{o}{Γ2}{H2}(x:o.guard=none)(h:∀m hs a w,Good m hs w->c.G.p m->ZH H m hs->Uq Γ m a->a.tmps.size=c.N->TE c.P (λv w'=>∃b e,Good b e w'/\Uq Γ2 b (a.put o.dst v)/\ZH H2 b e/\ZG w w' m b hs.bs e.bs) ((execOp a.eval o).run c.P w))(k:Wh c Z l Γ2 H2 K):Wh c Z (o::l) Γ H K:=by refineλa w n q⟨r,j,m,hs,i,g,s,z,u⟩=>wX x λB p=>TE.wp (h m _ a w i g z s j) λv w'⟨b,e,y,t,A,f⟩=>p _ _ (k _ _ n q ⟨by rw[Nu];exact r.step i f,by rw[Rc];exact j,b,e,y,c.G.mono f.le g,t,A,u.trans f⟩)
theorem zJ{p:Type}{o}{Γ2:p->Yr}{H2:p->List Yl}(z:o.guard=none)(h:∀m hs a w,Good m hs w->c.G.p m->ZH H m hs->Uq Γ m a->a.tmps.size=c.N->TE c.P (λv w'=>∃i b e,Good b e w'/\Uq (Γ2 i) b (a.put o.dst v)/\ZH (H2 i) b e/\ZG w w' m b hs.bs e.bs) ((execOp a.eval o).run c.P w))(k:∀i,Wh c Z l (Γ2 i) (H2 i) K):Wh c Z (o::l) Γ H K:=by refineλa w q s⟨t,n,m,hs,j,g,u,B,y⟩=>wX z λD r=>TE.wp (h m _ a w j g B u n) λv w'⟨i,b,e,A,x,C,f⟩=>r _ _ (k i _ _ q s ⟨by rw[Nu];exact t.step j f,by rw[Rc];exact n,b,e,A,c.G.mono f.le g,x,C,y.trans f⟩)
def GZ(R:ZM α)(x:α)(cs:List Value):Prop:=∀a,R.rel a cs x
def QT(P:Program)(T:TypeId):Option (List Value):=((P.info? T).bind (·.zero)).map λv=>v.cells.toList
theorem Zgc:GZ i64 0 [.int .i64 0]:=λ_=>rfl
theorem Zgd{R:ZM α}:GZ (sl R) [] [.slice none 0 0]:=λ_=>⟨none,0,rfl,Zb,.inl rfl⟩
theorem wm{P}{T}{cs}(h:QT P T=some cs)(w):∃v,(zeroValue T).run P w=.ok v w/\v.cells=cs.toArray:=by unfold QT at h;cases hi:P.info? T with|none=>grind|some b=>cases a:b.zero with|none=>grind|some v=>simp[hi,a]at h;exact⟨v,by simp[zeroValue,typeInfo,hi,a],by rw[<-h]⟩
theorem Zbi{T}{R}{x:α}{cs}(q:GZ R x cs)(g:QT c.P T=some cs)(r:Nat.blt d c.N=true)(k:∀b,Wh c Z l ((d,val (.pointer (some ⟨b,0,none⟩)))::Γ) (box b T R x::H) K):Wh c Z (⟨some d,.alloc T,ty,pos,aft,none⟩::l) Γ H K:=by
 refine zJ rfl (λe n f a j _ o i s=>?_) k;have⟨v,p,h⟩:=wm g a;have m:(execOp f.eval ⟨some d,.alloc T,ty,pos,aft,none⟩).run c.P a=.ok (.value (.pointer (some ⟨a.heap.size,0,none⟩))) (a.alloc (.cells cs.toArray T)):=by simp[execOp,Instr.alloc,p,newVar,newRow,h]
 rw[m];exact⟨a.heap.size,e,_,j.KE T _,i.put XA rfl,⟨[(a.heap.size,T,cs)],n,rfl,⟨cs,rfl,q e⟩,o⟩,ZG.alloc _ _ _ _⟩
theorem ZkB{T}{R}{x:α}{y}(q:Yo Γ y (R.slot x))(r:Nat.blt d c.N=true)(k:∀b,Wh c Z l ((d,val (.pointer (some ⟨b,0,none⟩)))::Γ) (box b T R x::H) K):Wh c Z (⟨some d,.box T y,ty,pos,aft,none⟩::l) Γ H K:=by
 refine zJ rfl (λh o f a j _ p g s=>?_) k;have⟨e,i,m⟩:=ZM.Cq (q h f (g.ZW y));have n:(execOp f.eval ⟨some d,.box T y,ty,pos,aft,none⟩).run c.P a=.ok (.value (.pointer (some ⟨a.heap.size,0,none⟩))) (a.alloc (.cells e.toArray T)):=by simp[execOp,Instr.box,newVar,newRow,i]
 rw[n];exact⟨a.heap.size,h,_,j.KE T _,g.put XA rfl,⟨[(a.heap.size,T,e)],o,rfl,⟨e,rfl,m⟩,p⟩,ZG.alloc _ _ _ _⟩
theorem ZG.F4{w w'}{m f}{hs hs1:Hp}{e}(p:hs.Perm hs1)(h:ZG w w' m f hs1.bs e):ZG w w' m f hs.bs e:=by have g:∀a,a∈hs.bs↔a∈hs1.bs:=λa=>(p.map _).mem_iff;exact{h with Wa:=λa b i=>h.Wa a b XA,own:=λa b=>(h.own a b).imp (g a).2 id}
theorem ZkI{T e}{x y}{b off}{R}{a}{r:α}{z:β}{w}{t}(hx:Yo Γ x (val (.pointer (some ⟨b,off,none⟩))))(I:Yo Γ y (a.slot z))(D:Uz H (box b e R r) H')(p:W5 R off a w t)(A:QL c.P T a.n=true)(k:Wh c Z l Γ (box b e R (t r z)::H') K):Wh c Z (⟨none,.store T x y,ty,pos,aft,none⟩::l) Γ H K:=by
 refine se rfl (λj M g u C _ G i L=>?_) k;have v:g.eval x=_:=hx j g (i.ZW x);have⟨m,B,h⟩:=ZM.Cq (I j g (i.ZW y));obtain⟨J,n,q,⟨f,rfl,s⟩,F⟩:=G.pick D;have o:=C.perm q;have E:(execOp g.eval ⟨none,.store T x y,ty,pos,aft,none⟩).run c.P u=.ok .skip (Wr u b e (f.take off++m++f.drop (off+a.n))):=by simp only[execOp,v,Ym,fL A B (a.len h) (a.cell h) (o.YY (b,e,f) Zb) (by rw[R.len s];exact p.fits)];rfl
 rw[E];refine⟨j,(b,e,f.take off++m++f.drop _)::n,o.Wr _,i,⟨[_],n,rfl,⟨_,rfl,p.Ib s h⟩,F⟩,ZG.F4 q (ZG.Wr (by simp[Hp.bs]))⟩
end
section
variable{c:XK}{Z:Array Oper}{l:List Oper}{Γ Γ':Yr}{H H':List Yl}{K:Act->World->Prop}{d:Tmp}{od:Option Tmp}{ty:TypeId}{pos:String}{aft:Array Edge}{g:Option (Nat×Bool)}{α β:Type}
theorem St.Zl7{a}{w}(T)(R:ZM α)(b)(h:St c Γ H a w):St c Γ (own T R (.slice b 0 0) []::H) a w:=by have⟨i,n,p,e,m,f,j,o,k⟩:=h;exact⟨i,n,p,e,m,f,j,⟨[],e,rfl,.inl ⟨rfl,rfl,b,rfl⟩,o⟩,k⟩
theorem ZkH{Γ}(T)(R:ZM α)(e)(k:Wh c Z l Γ (own T R (.slice e 0 0) []::H) K):Wh c Z l Γ H K:=λb i a f h=>k b i a f (h.Zl7 T R _)
theorem own.tH{T}{R:ZM α}{v}{xs}{m}{h1 h2}{w}{w0}{k}{h}(y:(own T R v xs).p m h1)(e:Good m (h1++h2) w)(j:ZG w0 w k m h (Hp.bs (h1++h2))):∃a,XI m a/\Good a h2 w/\((sl R).slot xs).p a v/\ZG w0 w k a h h2.bs/\∀b,b∉h1.bs->∀o,a b o=m b o:=by
 rcases y with⟨rfl,rfl,q,rfl⟩|⟨b,s,n,B,rfl,rfl,z,u,C⟩;·exact⟨m,XI.refl m,e,⟨q,0,rfl,Zb,.inl rfl⟩,j,Zb⟩
 ·have f:=e.FQ;refine⟨m.put b _,f,e.freeze,⟨_,s,rfl,u,.inr ⟨b,0,n,rfl,z.mono f,?_⟩⟩,j.freeze f,?_⟩;·intro A v i;have:=YD.AE m b (n++B) A v Zm;exact this
  ·intro r t o;have x:r≠b:=λi=>t (by simp[Hp.bs,i]);simp[YD.put,x]
theorem ks{Γ}{m}{a}{s s':Xi}:∀(e:List Nat),Uq Γ m a->(∀t∈e,s'.p m (a.tmps.getD t undef))->Uq (e.map (λt=>(t,s'))++Γ) m a
 |[],h,_=>h|t::e,h,k=>by
  intro j o b;by_cases f:t=j;·subst f;simp[XF,MN,PW]at b;grind
  ·simp at b;rw[PU f]at b;exact ks (s:=s) _ h (λn i=>k n (by simp[i])) _ _ b
theorem St.freeze{a}{w}{T}{R:ZM α}{v}{xs}(f:List Nat)(q:Uz H (own T R v xs) H')(y:∀t∈f,NR Γ t (ov v))(h:St c Γ H a w):St c (f.map (λt=>(t,(sl R).slot xs))++Γ) H' a w:=by obtain⟨k,r,z,C,o,j,e,⟨B,i,rfl,u,x⟩,m⟩:=h.pick q;have⟨A,b,p,D,n,_⟩:=own.tH u o m;refine⟨k,r,A,i,p,c.G.mono b j,ks (s:=ov v) _ (e.mono b) λt h=>?_,x.mono b,n⟩;have:=(OR.1 (y t h z a e)).1;grind
theorem ZkD{T}{R:ZM α}{v}{xs}(a:List Nat)(h:Uz H (own T R v xs) H')(j:∀t∈a,NR Γ t (ov v))(k:Wh c Z l (a.map (λt=>(t,(sl R).slot xs))++Γ) H' K):Wh c Z l Γ H K:=λe m b f i=>k e m b f (i.freeze _ h j)
theorem St.ZjU{a}{w}{T}{R}{b}{x:α}(k:List Nat)(r:Uz H (box b T R x) H')(z:∀t∈k,NR Γ t (val (.pointer (some ⟨b,0,none⟩))))(h:St c Γ H a w):St c (k.map (λt=>(t,(ptr R).slot (some x)))++Γ) H' a w:=by obtain⟨p,u,f,B,j,o,i,⟨A,n,rfl,⟨m,rfl,v⟩,y⟩,q⟩:=h.pick r;have e:=j.FQ;refine⟨p,u,f.put b _,n,j.freeze,c.G.mono e o,ks (s:=val (.pointer (some ⟨b,0,none⟩))) _ (i.mono e) λt h=>?_,y.mono e,q.freeze e⟩;have:=z t h f a i;rw[this];exact⟨b,0,m,rfl,R.mono e v,YD.AE f b _⟩
def Src(c:XK)(Γ:Yr)(H:List Yl)(x:Operand)(R:ZM α)(xs:List α):Prop:=∀a h b m,Good a h m->ZH H a h->Rv Γ a b x->∃e n,b.eval x=.slice e xs.length n/\(xs=[]\/∃f j k,e=some ⟨f,j,none⟩/\YT R a k xs/\∀i v,k[i]?=some v->m.cell? ⟨f,j+i,none⟩=some v)
theorem Zfx{x}{R:ZM α}{xs}(hx:Yo Γ x ((sl R).slot xs)):Src c Γ H x R xs:=by intro p w b y n _ m;have⟨e,h,a,u,k⟩:=hx p b m;simp at a;exact⟨e,h,a,k.imp id λ⟨f,q,t,i,r,s⟩=>⟨f,q,t,i,r,λo v j=>n.mem _ _ _ (s o v j)⟩⟩
theorem Zsa{x}{T b lo n cap N:Nat}{R:ZM α}{v}(hx:Yo Γ x (val (.slice (some ⟨b,lo*R.n,none⟩) n cap)))(j:Uz H (box b T (vec N R) v) H')(r:lo+n<=N):Src c Γ H x R ((v.toList.drop lo).take n):=by
 intro q s e w i p h;have⟨f,m,o⟩:=ZH.box (w:=w) p j;have k:((v.toList.drop lo).take n).length=n:=Zm;refine⟨_,cap,by rw[hx q e h,k],.inr ⟨b,lo*R.n,(f.drop _).take _,rfl,(YT.drop _ o).take n,λt u a=>?_⟩⟩;rw[Ps]at a;split at a;·rw[Rt]at a;exact i.cells m _ _ a
 ·grind
theorem Src.run{R:ZM α}{xs}{P}{a0}{m}{w}{cap}(h:xs=[]\/∃b o row,a0=some ⟨b,o,none⟩/\YT R m row xs/\∀j v,row[j]?=some v->w.cell? ⟨b,o+j,none⟩=some v)(k)(f:k<=xs.length):∃row,(Builtin.firstCells R.n k (.slice a0 k cap)).run P w=.ok row.toArray w/\YT R m row (xs.take k)/\(Builtin.firstCells R.n k (.slice a0 xs.length cap)).run P w=.ok row.toArray w:=by
 rcases h with rfl|⟨b,o,row,rfl,n,q⟩;·have:k=0:=Zm;subst this;refine⟨[],?_,rfl,?_⟩<;>(cases a0<;>simp[Builtin.firstCells,loadCells,loadCellsFrom])
 ·have a:=n.take k;have i:(row.take (k*R.n)).length=k*R.n:=by rw[a.length,UF,Pu f]
  have e:=by
   have:=BO (P:=P) w ⟨b,o,none⟩ (row.take (k*R.n)) λj v p=>by rw[SE];grind
   rwa[i]at this
  exact⟨_,e,a,e⟩
def Qi(P:Program)(ST T n:Nat):Bool:=(match P.underlying ST with|some (.slice e)=>e==T|_=>false)&&match P.info? T with
  |some a=>a.size==n&&decide (0<a.bytes)&&decide (a.bytes<=4096)&&match a.zero with|some v=>v.cells.size==n|none=>false
  |none=>false
theorem HZ{P}{ST T n}(h:Qi P ST T n=true):P.underlying ST=some (.slice T)/\∃i v,P.info? T=some i/\i.size=n/\0<i.bytes/\i.bytes<=4096/\i.zero=some v/\v.cells.size=n:=by
 simp only[Qi,Yv]at h;obtain⟨a,f⟩:=h;constructor
 ·split at a
  ·rename_i e b;have:=by simpa using a
   rw[b,this]
  ·cases a
 ·grind
theorem nextslicecap_le(a Wa)(h:Wa<a):Builtin.nextslicecap a Wa<=4*a+4096:=by
 unfold Builtin.nextslicecap;split;·omega
 ·split;·omega
  ·have f:∀b c,c<=2*a+1000->Builtin.growBy a b c<=3*a+2000:=by intro b;induction b with|zero=>unfold Builtin.growBy;omega|succ b e=>unfold Builtin.growBy;grind
   grind
theorem AC{P}{w w'}{ST XT T rt E}{size b e n f}{base a0}{new}(m:P.underlying ST=some (.slice T))(h:P.underlying XT=some (.slice E))(k:(sizeOf T).run P w=.ok size w)(i:b+n<=e)(j:(Builtin.firstCells size n (.slice a0 n f)).run P w=.ok new w)(o:(match base with|some a=>storeCells (a.add (b*size)) new.toList|none=>pure ()).run P w=.ok () w'):(Builtin.append_ #[ST,XT] rt #[.slice base b e,.slice a0 n f]).run P w=.ok (.slice base (b+n) e) w':=by simp only[Builtin.append_,NL,LD,wD];simp only[Ym,WB m,WB h,YJ,k,Y5,SW,VZ,Builtin.lenOf,ML,Sc,i,j];cases base<;>simp_all
theorem mV{P}{w}{ST XT T rt E}{size a b n h}{base a0}{Wa new}{i}{z}(v:P.underlying ST=some (.slice T))(q:P.underlying XT=some (.slice E))(hi:P.info? T=some i)(u:i.size=size)(x:i.zero=some z)(y:0<i.bytes)(r:¬a+n<=b)(j:¬Builtin.nextslicecap (a+n) b*i.bytes>2^48)(o:(Builtin.firstCells size a (.slice base a b)).run P w.drew=.ok Wa w.drew)(m:(Builtin.firstCells size n (.slice a0 n h)).run P w.drew=.ok new w.drew):∃f,a+n<=f/\(Builtin.append_ #[ST,XT] rt #[.slice base a b,.slice a0 n h]).run P w=.ok (.slice (some ⟨w.heap.size,0,none⟩) (a+n) f) (w.drew.alloc (.cells (Wa++new++Builtin.zeroCells z.cells (f-(a+n))) T)):=by
 refine⟨(Question.appendCap _ b T).cut (w.tape w.drawn (.appendCap (a+n) b T)),Nat.le_add_right _ _,?_⟩;have s:¬((a+n:Nat)>IntKind.i64.max/\(False\/i.bytes=0)):=by grind
 have e:∀w:World,(typeInfo T).run P w=.ok i w:=λw=>by simp[typeInfo,hi]
 have p:∀w:World,(zeroValue T).run P w=.ok z w:=λw=>by simp[zeroValue,e,x]
 have t:∀w:World,(sizeOf T).run P w=.ok size w:=λw=>by simp[sizeOf,e,u]
 have k:(choose (.appendCap (a+n) b T)).run P w=.ok ((Question.appendCap (a+n) b T).cut (w.tape w.drawn (.appendCap (a+n) b T))) w.drew:=by rfl
 simp only[Builtin.append_,NL,LD,wD];simp only[Ym,WB v,WB q,YJ,t,Y5,SW,VZ,Builtin.lenOf,ML,Sc,r,e,j,k,nO,o,m,p,newRow];simp only[s,VZ,Ym,e,YJ,j,k,nO,o,m,p,Dk,Y5,Sem.run_ite];rfl
theorem Zrh{P}{w}{m}{h1 h2}{ST XT T rt E:TypeId}{R:ZM α}{v}{ys xs}{a0}{cap0}(hT:Qi P ST T R.n=true)(C:P.underlying XT=some (.slice E))(q:Good m (h1++h2) w)(D:(own T R v ys).p m h1)(X:xs=[]\/∃b o row,a0=some ⟨b,o,none⟩/\YT R m row xs/\∀j v,row[j]?=some v->w.cell? ⟨b,o+j,none⟩=some v)(N:ys.length+xs.length<=4294967296):∃v' h1' w',(Builtin.append_ #[ST,XT] rt #[v,.slice a0 xs.length cap0]).run P w=.ok v' w'/\(own T R v' (ys++xs)).p m h1'/\Good m (h1'++h2) w'/\ZG w w' m m (Hp.bs (h1++h2)) (Hp.bs (h1'++h2)):=by
 obtain⟨I,x1,z,Q,x0,x3,x4,hz,y0⟩:=HZ hT;obtain⟨t,y4,s,V⟩:=Src.run (P:=P) (R:=R) (cap:=cap0) X xs.length (YG _);rw[NM]at s;obtain⟨J,k,a,y3⟩:=own.shape D;have W:(sizeOf T).run P w=.ok R.n w:=by simp[sizeOf,typeInfo,Q,x0]
 by_cases n:ys.length+xs.length<=k
 ·rcases D with⟨rfl,rfl,x,i⟩|⟨b,cap,row,f,i,rfl,r,hc,y⟩
  ·rw[i]at a⊢;simp only[Vf,BK]at a;obtain⟨_,_,rfl⟩:=a;have xv:xs=[]:=by simpa using n
   subst xv(by simpa[YT]using s);refine⟨.slice x 0 0,[],w,AC I C W Zb V (by cases x<;>simp[storeCells]),.inl ⟨rfl,rfl,x,rfl⟩,by simpa using q,by simpa using ZG.refl w m h2.bs⟩
  ·rw[i]at a⊢;simp only[BK]at a;obtain⟨_,_,rfl⟩:=a;have S:=r.length;have U:=s.length;have O:(ys.length+xs.length)*R.n<=(row++f).length:=by rw[y];exact RM _ n
   rw[Ta]at O;have G:=EB (P:=P) (b:=b) (o:=ys.length*R.n) (T:=T) t 0 (row++f) w s.cell (q.YY (b,T,row++f) Zb) (by rw[U];omega);simp only[Iw]at G;have x2:(row++f).take (ys.length*R.n)=row:=by rw[<-S,Gv];rfl
   rw[x2,Z5]at G;refine⟨.slice (some ⟨b,0,none⟩) (ys.length+xs.length) cap,[(b,T,row++(t++(row++f).drop (ys.length*R.n+t.length)))],_,AC I C W n V (by simpa[SE]using G),?_,q.Wr _,ZG.Wr (by simp[Hp.bs])⟩;·refine .inr ⟨b,cap,row++t,(row++f).drop (ys.length*R.n+t.length),Zb,Zb,r.append s,by simpa using n,?_⟩;rw[Yw,Yw,Wn,U,S,y];rw[y]at O;omega
 ·have A:∃e,YT R m e ys/\(Builtin.firstCells R.n ys.length (.slice J ys.length k)).run P w.drew=.ok e.toArray w.drew:=by
   rcases D with⟨rfl,rfl,x,i⟩|⟨b,cap,row,f,i,rfl,r,hc,y⟩;·refine⟨[],rfl,?_⟩;cases J<;>simp[Builtin.firstCells,loadCells,loadCellsFrom]
   ·rw[i]at a;simp only[BK]at a;obtain⟨rfl,_,rfl⟩:=a;refine⟨row,r,?_⟩;have:=BO (P:=P) w.drew ⟨b,0,none⟩ row λj y1 L=>by rw[SE,TN];exact q.drew.cells (T:=T) (cs:=row++f) Zb j y1 (by rw[Uy];exact L;exact(Wm L).1)
    rwa[r.length]at this
  obtain⟨e,A,xk⟩:=A;obtain⟨u,_,F,x9⟩:=Src.run (P:=P) (R:=R) (w:=w.drew) (cap:=cap0) (m:=m) (a0:=a0) (xs:=xs) X xs.length (YG _);rw[NM]at F;have y2:=nextslicecap_le (ys.length+xs.length) k Y;have x6:¬Builtin.nextslicecap (ys.length+xs.length) k*x1.bytes>2^48:=by have h2:Builtin.nextslicecap (ys.length+xs.length) k*x1.bytes<=(4*4294967296+4096)*4096:=nD Y x4;have h3:(4*4294967296+4096)*4096<=2^48:=YP;omega
  obtain⟨B,x7,M⟩:=mV (P:=P) (rt:=rt) (z:=z) I C Q x0 hz x3 n x6 xk x9;rw[a];let h:=(Builtin.zeroCells z.cells (B-(ys.length+xs.length))).toList;have x8:h.length=(B-(ys.length+xs.length))*R.n:=by simp[h,Builtin.zeroCells,y0]
  have x5:e.toArray++u.toArray++Builtin.zeroCells z.cells (B-(ys.length+xs.length))=(e++u++h).toArray:=by simp[h]
  rw[x5]at M;refine⟨_,[(w.heap.size,T,e++u++h)],_,M,.inr ⟨w.heap.size,B,e++u,h,Zb,rfl,A.append F,by simpa using x7,?_⟩,(Good.sub q).drew.KE T _,(((ZG.drew w m _).sub λb N=>by rw[Hp.XL];exact Yd (.inr N)).trans (ZG.alloc w.drew m h2.bs (.cells (e++u++h).toArray T)))⟩;·rw[Yw,Yw,A.length,F.length,x8,<-Ta,<-Ta];congr 1;omega
theorem ZkA{ST XT T E:TypeId}{x y}{R:ZM α}{v}{ys xs}(hx:Yo Γ x (ov v))(z:Uz H (own T R v ys) H')(G:Src c Γ H y R xs)(r:Qi c.P ST T R.n=true)(s:c.P.underlying XT=some (.slice E))(t:ys.length+xs.length<=4294967296)(M:Nat.blt d c.N=true)(k:∀a,Wh c Z l ((d,ov a)::Γ) (own T R a (ys++xs)::H') K):Wh c Z (⟨some d,.call {callee:=.builtin .append,args:=#[x,y],argTypes:=#[ST,XT]},ty,pos,aft,none⟩::l) Γ H K:=by
 refine zJ rfl (λf O b p j _ o e N=>?_) k;have⟨J,cap0,q,F⟩:=G f _ b p j o (e.ZW y);have⟨L,i,n,A,D⟩:=o.pick z;have⟨a,h,I,C,m,w,u⟩:=Zrh (rt:=ty) (cap0:=cap0) r s (j.perm n) A F t;have B:(execOp b.eval ⟨some d,.call {callee:=.builtin .append,args:=#[x,y],argTypes:=#[ST,XT]},ty,pos,aft,none⟩).run c.P p=.ok (.value a) I:=by simp[execOp,resolve,Ym,Y5,YJ,invoke,builtin];simp[Iv,XF,O1,(OR.1 (hx f b (e.ZW x))).1,q,C,YJ]
 rw[B];exact⟨a,f,h++i,w,e.put XA (OR.2 ⟨rfl,own.one m⟩),⟨h,i,rfl,m,D⟩,ZG.F4 n u⟩
end
section
variable{c:XK}{full:Array Oper}{l:List Oper}{Γ Γ':Yr}{H H':List Yl}{K:Act->World->Prop}{d:Tmp}{od:Option Tmp}{ty:TypeId}{pos:String}{aft:Array Edge}{g:Option (Nat×Bool)}{α β:Type}
def MZ(Γ:Yr):List Operand->List Xi->Prop|[],ss=>ss=[]|x::xs,ss=>∃a b,ss=a::b/\Yo Γ x a/\MZ Γ xs b
theorem FH:MZ Γ [] []:=rfl
theorem OH{x}{xs}{s}{ss}(h:Yo Γ x s)(k:MZ Γ xs ss):MZ Γ (x::xs) (s::ss):=⟨s,ss,rfl,h,k⟩
theorem MZ.all{m}{a}:∀{xs}{ss},MZ Γ xs ss->(∀x∈xs,Rv Γ m a x)->Sq m ss (xs.map a.eval)|[],_,rfl,_=>by rfl|x::xs,_,⟨s,e,rfl,h,k⟩,b=>by exact⟨_,_,rfl,h m a Zm,MZ.all k Zm⟩
def Q7(P:Program)(f:FuncId):Bool:=match P.funcs[f]?with|some a=>a.name != "runtime.NumGoroutine"&&a.body.isSome|none=>false
theorem fH{P}{f}(h:Q7 P f=true)(args)(w):(callFunc f args).run P w=.ok (.enter f args) w:=by
 unfold Q7 at h;split at h;·rename_i a i;simp at h;have⟨j,k⟩:=h;have b:(a.name== "runtime.NumGoroutine")=false:=Zm;have e:a.body.isNone=false:=XA;simp only[callFunc,Ym,nQ,YJ,i,b,SW,VZ,e,Y5]
 ·grind
theorem Ze3{P}{f}(h:Q7 P f=true)(ρ)(x)(hx:ρ x=.func (.func f) #[] #[])(args:List Operand)(a)(w)(od)(g):(execOp ρ ⟨od,.call {callee:=.value x,args:=args.toArray,argTypes:=a},ty,pos,aft,g⟩).run P w=.ok (.enter f (args.map ρ).toArray) w:=by simp only[execOp,resolve,Ym,hx,Deferred.ofValue,Y5,YJ,invoke];rw[fH h];simp
theorem Zg1{x}{f}{args}{m}{A}{j}{s}{ε:j->List Yl}(hx:Yo Γ x (val (.func (.func f) #[] #[])))(n:MZ Γ args A)(p:Q7 c.P f=true)(hC:QU c.P c.G f A [] (λ_:j=>s) λ_=>[]):PJ c ⟨od,.call {callee:=.value x,args:=args.toArray,argTypes:=m},ty,pos,aft,g⟩ Γ H s:=by
 intro h B k w a o D e;rw[Ze3 p _ x (hx h k (e x (by simp[Op.operands,Call.operands])))];refine(hC h w _ [] ⟨a.mem,dT,Zb,Zb⟩ o (n.all λy t=>e y (by simp[Op.operands,Call.operands,t])) rfl).mono ?_;rintro z F⟨v,u,C,E,rfl,q,r,rfl,b⟩;refine⟨v,rfl,u,⟨q.mem,a.nodup,λx hx=>?_,λx hx i=>?_⟩,r,b⟩;·rw[(b.Wa x.1 (a.QF (VC hx)) (by simp[Hp.bs])).1];exact a.YY x hx
 ·rw[(b.Wa x.1 (a.QF (VC hx)) (by simp[Hp.bs])).2 i];exact a.free x hx i
theorem io{f}{args}{a}{A}{s}(b:MZ Γ args A)(e:Q7 c.P f=true)(hC:QU c.P c.G f A [] (λ_:Unit=>s) λ_=>[]):PJ c ⟨od,.call {callee:=.value (.func f),args:=args.toArray,argTypes:=a},ty,pos,aft,g⟩ Γ H s:=Zg1 (ε:=λ_:Unit=>[]) Za5 b e hC
def ext(m:YD)(hs:Hp):YD:=λb e=>match hs.find? (λa=>a.1==b)with|some a=>a.2.2[e]?|none=>m b e
theorem ZaD{m}{hs}{b}{T}{cs}(a:hs.bs.Nodup)(h:(b,T,cs)∈hs)(o):ext m hs b o=cs[o]?:=by
 have:hs.find? λh=>h.1==b=some (b,T,cs):=by induction hs with|nil=>cases h|cons i n f=>
   simp only[Hp.bs,XF,T9]at a;rcases XB h with rfl|e;·simp
   ·have k:i.1≠b:=λj=>a.1 Zm;rw[List.find?_cons_of_neg Zm];exact f a.2 e
 simp[ext,this]
theorem tq{m}{hs}{b}(h:b∉hs.bs)(o):ext m hs b o=m b o:=by
 have:hs.find? λh=>h.1==b=none:=by rw[List.find?_eq_none];exactλf e a=>h (by
   have:=by simpa using a
   rw[<-this];exact VC e)
 simp[ext,this]
theorem ZaC{m}{hs}{w}(f:Good m hs w):XI m (ext m hs):=by
 intro b i v e;by_cases a:b∈hs.bs;·obtain⟨j,h,rfl⟩:=Uj a;rw[f.free j h i]at e;cases e
 ·rw[tq a];exact e
theorem Good.ext{m}{hs}{w}(b:Good m hs w):Good (ext m hs) [] w where
 mem:=λe i v a=>by
  by_cases f:e∈hs.bs;·obtain⟨k,h,rfl⟩:=Uj f;rw[ZaD b.nodup h]at a;exact b.cells h i v a
  ·rw[tq f]at a;exact b.mem e i v a
 nodup:=dT;YY:=λ_ j=>Zm;free:=λ_ j=>Zm
def ZgR(c:XK)(Γ:Yr)(H:List Yl)(x:Operand)(s:Xi):Prop:=∀a b e f,Good a b f->ZH H a b->Rv Γ a e x->s.p (ext a b) (e.eval x)
def vz(c:XK)(Γ:Yr)(H:List Yl):List Operand->List Xi->Prop|[],ss=>ss=[]|x::xs,ss=>∃a b,ss=a::b/\ZgR c Γ H x a/\vz c Γ H xs b
theorem vz.all{m}{a}{hs}{w}(b:Good m hs w)(e:ZH H m hs):∀{xs}{ss},vz c Γ H xs ss->(∀x∈xs,Rv Γ m a x)->Sq (ext m hs) ss (xs.map a.eval)|[],_,rfl,_=>by rfl|x::xs,_,⟨s,i,rfl,h,k⟩,f=>by exact⟨_,_,rfl,h m _ a w b e Zm,vz.all b e k Zm⟩
def cut(e m:YD)(bs:List Nat):YD:=λa b=>if a∈bs then m a b else e a b
theorem so{m o}{hs k}{w w'}(j:Good m hs w)(n:Good o k w')(h:ZG w w' (ext m hs) o [] k.bs):Good (cut o m hs.bs) (k++hs) w'/\ZG w w' m (cut o m hs.bs) hs.bs (k++hs).bs:=by
 have s:∀a∈hs,w'.heap[a.1]?=w.heap[a.1]?:=λa hx=>(h.Wa a.1 (j.QF (VC (f:=(·.1)) hx)) Zb).1;have p:∀b∈k.bs,b∉hs.bs:=λb hb r=>by exact absurd (j.QF r) (Nat.not_lt.2 ((h.own b hb).resolve_left Zb))
 refine⟨⟨λb i v e=>?_,?_,λa hx=>?_,λa hx i=>?_⟩,?_⟩
 ·unfold cut at e;split at e;·rename_i hb;obtain⟨a,hx,rfl⟩:=Uj hb;rw[j.free a hx i]at e;cases e
  ·exact n.mem b i v e
 ·rw[Hp.XL];exact List.nodup_append.2 ⟨n.nodup,j.nodup,λa hx u t e=>p a hx (e▸t)⟩
 ·rcases Z1 hx with hx|hx;·exact n.YY a hx
  ·rw[s a hx];exact j.YY a hx
 ·rcases Z1 hx with hx|hx;·have:a.1∉hs.bs:=p a.1 (VC (f:=(·.1)) hx);simp only[cut,Yg this];exact n.free a hx i
  ·have:a.1∈hs.bs:=VC (f:=(·.1)) hx;simp only[cut,YW this];exact j.free a hx i
 ·refine⟨h.os,h.tape,h.output,h.size,λb hb q=>⟨(h.Wa b hb Zb).1,λi=>?_⟩,λb hb=>?_,λb i v e=>?_⟩;·simp only[cut,Yg q];rw[(h.Wa b hb Zb).2 i,tq q]
  ·rw[Hp.XL,TL]at hb;rcases hb with hb|hb;·exact .inr ((h.own b hb).resolve_left Zb)
   ·exact .inl hb
  ·unfold cut;split;·exact e
   ·exact h.le b i v (ZaC j b i v e)
inductive mD:List Yl->List Yl->List Yl->Prop|nil{H:List Yl}:mD H [] H|cons{H H1 H2 E:List Yl}{e:Yl}:Uz H e H1->mD H1 E H2->mD H (e::E) H2
theorem QU.tH{P}{G}{f}{A}{E}{T}{R:ZM α}{xs}(h:QU P G f A E (λv=>ov v) λv=>[own T R v xs]):QU P G f A E (λ_:Unit=>(sl R).slot xs) λ_=>[]:=by refineλr t F z j b a o=>(h r t _ _ j b a o).mono ?_;rintro u I⟨v,D,B,C,rfl,k,p,⟨w,x,rfl,n,rfl⟩,e⟩;have⟨s,y,m,q,i,_⟩:=own.tH n k e;have:=(OR.1 p).1;subst this;exact⟨v,s,[],(),rfl,m,q,rfl,i⟩
end
section
variable{c:XK}{Z:Array Oper}{l:List Oper}{Γ Γ':Yr}{H H':List Yl}{K:Act->World->Prop}{d:Tmp}{od:Option Tmp}{ty:TypeId}{pos:String}{aft:Array Edge}{g:Option (Nat×Bool)}{α β:Type}
def placeOf(P:Program)(T i:Nat):Option (Nat×Nat):=match P.underlying T with|some (.struct fs)=>fs[i]?.bind λb=>(P.info? b.type).map λa=>(b.offset,a.size)|some (.array _ e)=>(P.info? e).map λa=>(i*a.size,a.size)|_=>none
inductive BU(P:Program)(T:TypeId)(Γ:Yr)(R:ZM α):List (Nat×Operand)->α->α->Prop|nil{x:α}:BU P T Γ R [] x x|cons{β:Type}{i off:Nat}{y:Operand}{S:ZM β}{z:β}{get:α->β}{set:α->β->α}{ps:List (Nat×Operand)}{x r:α}:Yo Γ y (S.slot z)->W5 R off S get set->placeOf P T i=some (off,S.n)->BU P T Γ R ps (set x z) r->BU P T Γ R ((i,y)::ps) x r
theorem zl(off):∀(ds)(k)(cs:List Value),off+k+ds.length<=cs.length->(ds.zipIdx k).foldl (λcs p=>cs.setIfInBounds (off+p.2) p.1) cs.toArray=(cs.take (off+k)++ds++cs.drop (off+k+ds.length)).toArray
 |[],k,cs,_=>Zb|v::ds,k,cs,h=>by
  simp at h;have f:off+k<cs.length:=Y;simp only[List.zipIdx_cons,List.foldl_cons];have a:cs.toArray.setIfInBounds (off+k) v=(cs.set (off+k) v).toArray:=Zb;rw[a,zl off ds (k+1) (cs.set (off+k) v) WI];have b:(cs.set (off+k) v).take (off+(k+1))=cs.take (off+k)++[v]:=by rw[show off+(k+1)=off+k+1by omega,MU Zm,List.take_set,Zgq WI];simp
  have e:(cs.set (off+k) v).drop (off+(k+1)+ds.length)=cs.drop (off+k+(v::ds).length):=by rw[List.drop_set_of_lt Y];simp;omega
  grind
theorem BU.fill{P}{T}{R}{m}{a}{ps}{x r:α}(h:BU P T Γ R ps x r):∀{cs}{e},R.rel m cs x->(∀i p,placeOf P T i=some p->e i=some p)->(∀p∈ps,Rv Γ m a p.2)->∃f,Instr.fill e cs.toArray (ps.map λp=>(p.1,a.eval p.2))=some f.toArray/\R.rel m f r:=by induction h with|nil=>intro cs e b _ _;exact⟨cs,rfl,b⟩|@cons β i off y S z get set ps x r hy k s _ t=>intro cs e b n C;have⟨o,q,j⟩:=ZM.Cq (hy m a XA);have v:=S.len j;have u:=R.len b;have B:=k.fits;have⟨f,w,D⟩:=t (k.Ib b j) n Zm;simp[XF,Instr.fill,n i _ s,q];have A:=zl off o 0 cs Y;grind
def ly(P:Program)(T:TypeId):Bool:=match P.underlying T with|some (.struct fs)=>fs.toList.all λa=>(P.info? a.type).isSome|some (.array _ e)=>(P.info? e).isSome|_=>false
theorem ZbL{P}{w}:∀(fs:List Field),(∀f∈fs,(P.info? f.type).isSome=true)->(fs.mapM λf=>do pure (f.offset,<-sizeOf f.type):Sem (List (Nat×Nat))).run P w=.ok (fs.map λf=>(f.offset,((P.info? f.type).map (·.size)).getD 0)) w
 |[],_=>Zb|f::fs,h=>by
  have⟨b,a⟩:=nG (h f Zb);have e:(sizeOf f.type).run P w=.ok b.size w:=by simp[sizeOf,typeInfo,a]
  have i:=ZbL (P:=P) (w:=w) fs Zm;simp_all
inductive NO(Γ:Yr)(R:ZM α):Nat->List (Nat×Operand)->List α->Prop|nil{k:Nat}:NO Γ R k [] []|cons{k:Nat}{y:Operand}{z:α}{ps:List (Nat×Operand)}{zs:List α}:Yo Γ y (R.slot z)->NO Γ R (k+1) ps zs->NO Γ R k ((k,y)::ps) (z::zs)
theorem NO.len{R:ZM α}{k}{ps}{a}(h:NO Γ R k ps a):ps.length=a.length:=by induction h<;>simp_all
theorem NO.fill{R:ZM α}{m}{a}{k}{ps}{j}(h:NO Γ R k ps j):∀{pre cs},pre.length=k*R.n->cs.length=j.length*R.n->(∀p∈ps,Rv Γ m a p.2)->∃f,Instr.fill (λi=>some (i*R.n,R.n)) (pre++cs).toArray (ps.map λp=>(p.1,a.eval p.2))=some (pre++f).toArray/\YT R m f j:=by induction h with|nil=>intro pre cs _ o _;exact⟨cs,rfl,by simpa[YT]using o⟩|@cons k y z ps j hy _ w=>
  intro pre cs e o r;obtain⟨b,u,q⟩:=ZM.Cq (hy m a (r (k,y) Zb));have n:=R.len q;have x:cs.length=R.n+j.length*R.n:=Zm;obtain⟨f,A,v⟩:=w (pre:=pre++b) (cs:=cs.drop R.n) (by rw[Yw,e,n,Ta,Om]) (by rw[Wn];omega) λp e=>r p (by simp[e]);refine⟨b++f,?_,⟨b,f,rfl,q,v⟩⟩;simp only[XF,Instr.fill,u];have B:Array.foldl (λcs(p:Value×Nat)=>cs.setIfInBounds (k*R.n+p.2) p.1) (pre++cs).toArray b.toArray.zipIdx=(pre++b++cs.drop R.n).toArray:=by
   rw[<-Array.foldl_toList,Array.toList_zipIdx,zl (k*R.n) b 0 (pre++cs) (by simp[e,n];omega)];have s:(pre++cs).take (k*R.n+0)=pre:=by rw[Iw,<-e,Gv];rfl
   have t:(pre++cs).drop (k*R.n+0+b.length)=cs.drop R.n:=by rw[Iw,<-e,n,np];simp
   rw[s,t]
  grind
theorem fG{P}{w}{ST T:TypeId}{R:ZM α}{m}{a}{n}{ps}{i}(y:Qi P ST T R.n=true)(z:n=i.length)(hs:n*R.n<=16777216)(h:NO Γ R 0 ps i)(A:∀p∈ps,Rv Γ m a p.2):∃cs,YT R m cs i/\(Instr.buildSlice ST n (ps.toArray.map λp=>(p.1,a.eval p.2))).run P w=.ok (.slice (some ⟨w.heap.size,0,none⟩) n n) (w.alloc (.cells cs.toArray T)):=by
 obtain⟨r,s,u,k,B,F,G,C,J⟩:=HZ y;have q:(sizeOf T).run P w=.ok R.n w:=by simp[sizeOf,typeInfo,k,B]
 have D:(zeroValue T).run P w=.ok u w:=by simp[zeroValue,typeInfo,k,C]
 have o:(ps.toArray.map λ(p:Nat×Operand)=>(p.1,a.eval p.2)).toList=ps.map λp=>(p.1,a.eval p.2):=Zb;have v:¬n*R.n>2^24:=by omega
 have t:∀b:Array Value,∃cs,YT R m cs i/\Instr.fill (λs=>some (s*R.n,R.n)) ((Array.range (n*R.n)).map (b[·%b.size]!)) (ps.map λp=>(p.1,a.eval p.2))=some cs.toArray:=by
  intro b;obtain⟨cs,I,f⟩:=h.fill (m:=m) (a:=a) (pre:=[]) (cs:=((Array.range (n*R.n)).map (b[·%b.size]!)).toList) Zb (by simp[z]) A;have E:([]++((Array.range (n*R.n)).map (b[·%b.size]!)).toList).toArray=(Array.range (n*R.n)).map (b[·%b.size]!):=by rw[UW,ws]
  grind
 by_cases j:n*R.n=0;·obtain⟨cs,f,e⟩:=t #[];refine⟨cs,f,?_⟩;rw[j]at e;have x:¬0>2^24:=YP;simp only[Instr.buildSlice,Ym,WB r,YJ,q,j,x,VZ,Y5,Sc,o];simp only[e,newRow,Ym,Dk,YJ,Y5];rfl
 ·obtain⟨cs,f,e⟩:=t u.cells;refine⟨cs,f,?_⟩;simp only[Instr.buildSlice,Ym,WB r,YJ,q,v,VZ,Y5,j,D,o,e,newRow,Dk];rfl
theorem Zmx{ST T n}{R:ZM α}{ps}{i}(h:NO Γ R 0 ps i)(o:n=i.length)(hs:Nat.ble (n*R.n) 16777216=true)(q:Qi c.P ST T R.n=true):PJ c ⟨od,.buildSlice ST n ps.toArray,ty,pos,aft,g⟩ Γ H ((sl R).slot i):=by
 intro e y j a r _ _ s;have t:∀f∈ps,Rv Γ e j f.2:=λf x=>s f.2 (by simp only[Op.operands];grind);obtain⟨b,u,w⟩:=fG q o XA h t;have p:(execOp j.eval ⟨od,.buildSlice ST n ps.toArray,ty,pos,aft,g⟩).run c.P a=.ok (.value (.slice (some ⟨a.heap.size,0,none⟩) n n)) (a.alloc (.cells b.toArray T)):=by show(do let v<-Instr.buildSlice ST n _;pure _:Sem Next).run c.P a=_;rw[Ym,w];rfl
 rw[p];have k:=r.KE T b;have m:=k.FQ;refine⟨e.put _ b,k.freeze,⟨_,n,by rw[o],Y,.inr ⟨a.heap.size,0,b,rfl,u.mono m,YD.AE e _ b⟩⟩,(ZG.alloc a e [] _).freeze m⟩
theorem ZkC{ST T n}{R:ZM α}{ps}{f}(h:NO Γ R 0 ps f)(e:n=f.length)(hs:Nat.ble (n*R.n) 16777216=true)(p:Qi c.P ST T R.n=true)(x:Nat.blt d c.N=true)(k:∀v,Wh c Z l ((d,ov v)::Γ) (own T R v f::H) K):Wh c Z (⟨some d,.buildSlice ST n ps.toArray,ty,pos,aft,none⟩::l) Γ H K:=by
 refine zJ rfl (λu s m a q _ t i y=>?_) k;obtain⟨b,j,r⟩:=fG p e XA h λw _=>i.ZW w.2;have o:(execOp m.eval ⟨some d,.buildSlice ST n ps.toArray,ty,pos,aft,none⟩).run c.P a=.ok (.value (.slice (some ⟨a.heap.size,0,none⟩) n n)) (a.alloc (.cells b.toArray T)):=by show(do let v<-Instr.buildSlice ST n _;pure _:Sem Next).run _ a=_;rw[Ym,r];rfl
 rw[o];refine⟨_,u,_,q.KE T b,i.put XA j7,⟨[(a.heap.size,T,b)],s,rfl,.inr ⟨a.heap.size,n,b,[],by rw[e],Zb,j,Y,?_⟩,t⟩,ZG.alloc _ _ _ _⟩;rw[Xp,j.length,e]
theorem ZkG{ST T:TypeId}{x y}{R}{z:α}{i}{n a}(hx:Yo Γ x (i64.slot n))(hy:Yo Γ y (i64.slot a))(h0:0<=n)(h1:n<=a)(h2:a<=4294967296)(J:Qi c.P ST T R.n=true)(hz:GZ R z i)(A:QT c.P T=some i)(G:Nat.blt d c.N=true)(k:∀v,Wh c Z l ((d,ov v)::Γ) (own T R v (List.replicate n.toNat z)::H) K):Wh c Z (⟨some d,.makeSlice ST x y,ty,pos,aft,none⟩::l) Γ H K:=by
 refine zJ (Γ2:=λv=>(d,ov v)::Γ) (H2:=λv=>own T R v (List.replicate n.toNat z)::H) rfl (λh hs p b O _ x0 q I=>?_) k;obtain⟨hu,s,o,t,x2,x5,x6,C,B⟩:=HZ J;have r:∀b:World,(typeInfo T).run c.P b=.ok s b:=λb=>by simp[typeInfo,t]
 have x1:∀b:World,(sizeOf T).run c.P b=.ok R.n b:=λb=>by simp[sizeOf,r,x2]
 have x4:∀b:World,(zeroValue T).run c.P b=.ok o b:=λb=>by simp[zeroValue,r,C]
 have D:o.cells.toList=i:=by unfold QT at A;simpa[t,C]using A
 have L:¬(s.bytes:Int)*a>2^48:=by have F:(2:Int)^48=281474976710656:=YP;have:(s.bytes:Int)*a<=4096*4294967296:=Int.mul_le_mul Y h2 Y YP;rw[F];omega
 have U:¬a<0:=Y;have V:¬n<0:=Y;have P:¬n>a:=Y;let j:=if a.toNat*R.n=0then#[]else o.cells;let cells:=((Array.range (a.toNat*R.n)).map (j[·%j.size]!)).toList;have X:(Instr.makeSlice ST (.int .i64 n) (.int .i64 a)).run c.P b=.ok (.slice (some ⟨b.heap.size,0,none⟩) n.toNat a.toNat) (b.alloc (.cells cells.toArray T)):=by
  simp only[Instr.makeSlice,Ym,WB hu,YJ,asInt,asIntOf,Y5,r,na n Y,na a Y,U,V,L,P,decide_false,E5,SW,VZ,nO,x1];by_cases f:a.toNat*R.n=0;·simp only[f,Sc,Y5,YJ,newRow,Ym,Dk];simp only[cells,j,f,Sc,ws];rfl
  ·simp only[f,VZ,Ym,x4,YJ,Y5,newRow,Dk];simp only[cells,j,f,VZ,ws];rfl
 have E:(execOp p.eval ⟨some d,.makeSlice ST x y,ty,pos,aft,none⟩).run c.P b=.ok (.value (.slice (some ⟨b.heap.size,0,none⟩) n.toNat a.toNat)) (b.alloc (.cells cells.toArray T)):=by simp only[execOp,VJ (hx h p (q.ZW x)),VJ (hy h p (q.ZW y)),Ym,X];rfl
 rw[E];have N:cells.length=a.toNat*R.n:=by simp[cells]
 have W:∀e,e<=a.toNat->YT R h (cells.take (e*R.n)) (List.replicate e z):=by intro e Q;induction e with|zero=>simp[YT]|succ e ih=>
   rw[oU,Ta,Om,Dc];refine(ih Y).append (YT.single ?_);have:(cells.drop (e*R.n)).take R.n=i:=by
    apply BC;intro m;rw[Ps];split
    ·rename_i w;rw[Rt];have M:e*R.n+m<a.toNat*R.n:=by have:(e+1)*R.n<=a.toNat*R.n:=RM _ Q;rw[Ta,Om]at this;omega
     have f:a.toNat*R.n≠0:=Y;simp only[cells,j,f,VZ];rw[wo,Array.getElem?_map,Array.getElem?_range,YW M];simp only[Jm,B];have S:(e*R.n+m)%R.n=m:=by rw[Zgt];exact LH w
     rw[S,<-D];have x3:m<o.cells.size:=Y;simp[x3]
    ·rename_i w;have:i.length=R.n:=by rw[<-D];simpa using B
     rw[nu Y]
   rw[this];exact hz h
 have u:cells=cells.take (n.toNat*R.n)++cells.drop (n.toNat*R.n):=(Sb _ _).symm;refine⟨_,h,_,O.KE T cells,q.put (by rw[I];simpa[Uk]using G) j7,⟨[(b.heap.size,T,cells)],hs,rfl,.inr ⟨b.heap.size,a.toNat,cells.take (n.toNat*R.n),cells.drop (n.toNat*R.n),Zb,by rw[<-u],W _ Y,WI,by rw[<-u,N]⟩,x0⟩,ZG.alloc _ _ _ _⟩
end
def pZ(o:Oper):List Nat:=o.op.operands.toList.filterMap λ|.tmp a=>some a|_=>none
def Ce(a:List Oper)(o:Oper):List Nat:=match o.guard with|some (j,_)=>(a[j]?.bind (·.dst)).toList|none=>[]
def Vv(o:Oper):List Nat:=(o.after.toList.filter (Region.binds .any)).map (·.on)
def names(a:List Oper)(o:Oper):List Nat:=o.dst.toList++pZ o++Ce a o
def marks(b:List Oper):Nat->List Nat->List Nat|0,a=>a|j+1,a=>if a.contains j then marks b j (a++(b[j]?.map Vv).getD [])else marks b j a
theorem zZ{b}{X:Nat->Bool}(c:∀j p,b[j]?=some p->X j=true->∀e∈Vv p,X e=true):∀(n)(a),(∀j∈a,X j=true)->∀j∈marks b n a,X j=true
 |0,a,h=>h|n+1,a,h=>by
  unfold marks;split;·refine zZ c n _ λj d=>?_;grind
  ·exact zZ c n a h
def Pa(b:List Oper)(n:Nat):Bool:=(b.zipIdx.all λ(c,a)=>(Vv c).all λf=>Nat.blt f a)&&(b.zipIdx.all λ(c,a)=>b.zipIdx.all λ(e,d)=>match e.dst with|some g=>Nat.beq a d||!(names b c).contains g||if Nat.blt d a then(Vv c).contains d else(Vv e).contains a|none=>true)&&b.zipIdx.all λ(c,a)=>Nat.blt a n||(List.range a).all λd=>(marks b a (Vv c)).contains d
def push(d:Option Tmp)(s:Xi)(Γ:Yr):Yr:=match d with|some d=>(d,s)::Γ|none=>Γ
def Ag(f:List Oper)(o:Oper)(Γ:Yr)(h:Bool):Prop:=∃b e a d c,o.guard=some (b,e)/\f[b]?.bind (·.dst)=some d/\lk Γ d=some c/\(∀g v,c.p g v->v=.bool a)/\(a==e)=h
def me(c:List Oper)(o:Oper)(Γ:Yr):Prop:=∃a d b,o.guard=some (a,d)/\c[a]?.bind (·.dst)=some b/\lk Γ b=some (val undef)
inductive M0(c:XK)(full:List Oper)(H:List Yl)(o:Oper)(Γ:Yr):Xi->Prop|plain{s:Xi}:o.guard=none->PJ c o Γ H s->M0 c full H o Γ s|yes{s:Xi}:Ag full o Γ true->PJ c o Γ H s->M0 c full H o Γ s|no:Ag full o Γ false->M0 c full H o Γ (val undef)|undef:me full o Γ->M0 c full H o Γ (val undef)
inductive RJ(c:XK)(full:List Oper)(H:List Yl):Nat->List Oper->Yr->List Xi->Option (Nat×Nat×(Nat->Yl))->Prop|nil{k:Nat}{Γ:Yr}:RJ c full H k [] Γ [] none|read{k:Nat}{o:Oper}{os:List Oper}{Γ:Yr}{s:Xi}{σ:List Xi}{al:Option (Nat×Nat×(Nat->Yl))}:M0 c full H o Γ s->RJ c full H (k+1) os (push o.dst s Γ) σ al->RJ c full H k (o::os) Γ (s::σ) al|alloc{k d:Nat}{o:Oper}{os:List Oper}{Γ:Yr}{σ:List Xi}{T:TypeId}{α:Type}{R:ZM α}{x:α}{cs:List Value}:o.guard=none->o.dst=some d->o.op=.alloc T->GZ R x cs->QT c.P T=some cs->RJ c full H (k+1) os ((d,any)::Γ) σ none->RJ c full H k (o::os) Γ (any::σ) (some (k,d,λb=>box b T R x))
def Fu(Γ:Yr):List Oper->List Xi->Yr|o::os,s::σ=>Fu (push o.dst s Γ) os σ|_,_=>Γ
def UA(l:List Oper)(σ:List Xi)(Γ:Yr)(X:Nat->Bool):Nat->Nat->Option Xi|0,t=>lk Γ t|k+1,t=>match l[k]?,σ[k]?with|some a,some s=>if X k&&a.dst==some t then some s else UA l σ Γ X k t|_,_=>UA l σ Γ X k t
theorem Zk2(d)(s)(Γ)(t):lk (push d s Γ) t=if d==some t then some s else lk Γ t:=by cases d with|none=>simp[push]|some d=>
  by_cases a:d=t;·subst a;simp[push,PW]
  ·simp[push];rw[PU a];simp[a]
theorem Fk(o)(os)(s)(σ)(Γ):∀k t,UA (o::os) (s::σ) Γ (λ_=>true) (k+1) t=UA os σ (push o.dst s Γ) (λ_=>true) k t|0,t=>by simp only[UA,LD,wy];rw[Zk2]|k+1,t=>by rw[UA];simp only[wD];rw[Fk o _ s _ _ k t];conv=>rhs;rw[UA]
theorem RJ.at{c}{f}{H}{k}{l}{Γ}{σ}{al}(h:RJ c f H k l Γ σ al):∀i o,l[i]?=some o->∃s Γi,σ[i]?=some s/\(∀t,lk Γi t=UA l σ Γ (λ_=>true) i t)/\((M0 c f H o Γi s/\∀d e,al≠some (k+i,d,e))\/∃(d:Nat)(T:TypeId)(α:Type)(R:ZM α)(x:α)(cs:List Value),s=any/\o.guard=none/\o.dst=some d/\o.op=.alloc T/\GZ R x cs/\QT c.P T=some cs/\al=some (k+i,d,λb=>box b T R x)):=by
 have v:∀{k:Nat}{l:List Oper}{Γ:Yr}{σ:List Xi}{al},RJ c f H k l Γ σ al->∀r d e,al=some (r,d,e)->k<=r:=by intro k l Γ σ al h;induction h<;>grind
 induction h with
 |nil=>intro i o h;simp at h|@read k o os Γ s σ al h1 h2 m=>intro i n a;cases i with|zero=>simp only[LD,Di]at a;subst a;refine⟨s,Γ,rfl,λt=>rfl,.inl ⟨h1,λd e u=>?_⟩⟩;have:=v h2 _ d e u;omega|succ i=>obtain⟨p,Γi,j,g,q⟩:=m i n (by simpa using a);refine⟨p,Γi,by simpa using j,λt=>by rw[g t,Fk],by rw[show k+(i+1)=k+1+i by omega];exact q⟩
 |@alloc k d o os Γ σ T α R x cs hg hd w y z h2 m=>intro i n a;cases i with|zero=>simp only[LD,Di]at a;subst a;exact⟨any,Γ,rfl,λt=>rfl,.inr ⟨d,T,α,R,x,cs,rfl,hg,hd,w,y,z,Zb⟩⟩|succ i=>obtain⟨p,Γi,j,g,q⟩:=m i n (by simpa using a);refine⟨p,Γi,by simpa using j,λt=>by rw[g t,Fk];simp[push,hd],XA⟩
theorem aT(Γ):∀(l)(σ),l.length=σ.length->∀t,lk (Fu Γ l σ) t=UA l σ Γ (λ_=>true) l.length t:=by intro l;induction l generalizing Γ with|nil=>intro σ _ t;cases σ<;>rfl|cons c d b=>intro σ a t;cases σ with|nil=>simp at a|cons e σ=>rw[WA,Fk,Fu,b _ _ Zm t]
theorem RJ.len{c}{a}{H}{k}{l}{Γ}{σ}{al}(h:RJ c a H k l Γ σ al):l.length=σ.length:=by induction h<;>simp_all
section
variable{c:XK}{Γ:Yr}{H:List Yl}{a:Act}{w:World}{Q:Exit->Act->World->Prop}
theorem uU{b}{n}(h:Pa b n=true){i}{o}(hi:b[i]?=some o):∀e∈Vv o,e<i:=by simp only[Pa,Yv,RK]at h;intro e d;have:=h.1.1 (o,i) (by rw[BE];exact hi) e d;simpa[Uk]using this
theorem D0{d}{n}(h:Pa d n=true){i j t:Nat}{o p}(hi:d[i]?=some o)(k:d[j]?=some p)(l:i≠j)(m:p.dst=some t)(q:t∈names d o):(j<i->j∈Vv o)/\(i<j->i∈Vv p):=by
 simp only[Pa,Yv,RK]at h;have:=h.1.2 (o,i) (by rw[BE];exact hi) (p,j) (by rw[BE];exact k);have f:Nat.beq i j=false:=by cases b:Nat.beq i j with|false=>rfl|true=>exact absurd (Xu b) l
 have g:(names d o).contains t=true:=by simpa using q
 simp only[m,f,g,MM,E5,oZ]at this;constructor
 ·intro e;have b:=by simpa[Uk]using e
  simpa[b]using this
 ·intro e;have b:Nat.blt j i=false:=by cases b:Nat.blt j i with|false=>rfl|true=>have:=(Uk▸b:j<i);omega
  simpa[b]using this
theorem uV{b}{n}(h:Pa b n=true){i}{o}(hi:b[i]?=some o)(l:n<=i){X:Nat->Bool}(g:∀j∈Vv o,X j=true)(f:∀j p,b[j]?=some p->X j=true->∀e∈Vv p,X e=true):∀j,j<i->X j=true:=by
 simp only[Pa,Yv,RK]at h;have:=h.2 (o,i) (by rw[BE];exact hi);have d:Nat.blt i n=false:=by cases d:Nat.blt i n with|false=>rfl|true=>have:=Uk▸d;omega
 simp[d,oZ,RK]at this;exactλj k=>zZ f i _ g j (by simpa using this j (by simpa using k))
theorem PJ.frame{o}{s}(E)(h:PJ c o Γ H s):PJ c o Γ (E++H) s:=by intro n t a w b g l j;obtain⟨q,r,rfl,u,k⟩:=l.split;refine(h n _ a w b.sub g k j).mono λv x⟨p,i,m,e⟩=>⟨p,⟨i.mem,b.nodup,λf d=>by rw[(e.Wa _ (b.QF (VC d)) Zb).1];exact b.YY f d,λf d o=>by rw[(e.Wa _ (b.QF (VC d)) Zb).2 o];exact b.free f d o⟩,m,e⟩
def ct(al:Option (Nat×Nat×(Nat->Yl)))(H:List Yl)(X:Nat->Bool)(m:YD)(hs:Hp)(a:Act):Prop:=∃f,ZH (f++H) m hs/\((f=[]/\∀b d e,al=some (b,d,e)->X b=false)\/∃b d e g,al=some (b,d,e)/\X b=true/\f=[e g]/\a.tmps.getD d undef=.pointer (some ⟨g,0,none⟩))
def BZ(c:XK)(g l:List Oper)(σ:List Xi)(al:Option (Nat×Nat×(Nat->Yl)))(Γ:Yr)(H:List Yl)(X:Nat->Bool)(a:Act)(w:World):Prop:=MX c a.defers w/\a.tmps.size=c.N/\∃b d,Good b d w/\c.G.p b/\(∀f e,UA l σ Γ X l.length f=some e->e.p b (a.tmps.getD f undef))/\ZG c.w0 w c.m0 b c.b0 d.bs/\ct al H X b d a
theorem DU{l:List Oper}{σ}{Γ}{X}{t i:Nat}:∀k,i<=k->(∀j o,i<=j->j<k->l[j]?=some o->o.dst=some t->X j=false)->UA l σ Γ X k t=UA l σ Γ X i t:=by intro k;induction k with|zero=>grind|succ k f=>
  intro e d;by_cases b:i=k+1;·rw[b]
  ·rw[UA];grind
theorem aS{l}{σ}{Γ}{X}{t}:∀i,(∀j o,j<i->l[j]?=some o->o.dst=some t->X j=true)->UA l σ Γ X i t=UA l σ Γ (λ_=>true) i t:=by intro i;induction i with|zero=>intro _;rfl|succ i b=>intro d;have b:=b λj o e=>d j o Y;rw[UA,UA];cases f:l[i]?with|none=>omega|some o=>cases hs:σ[i]?<;>grind
theorem uG{l}{σ}{Γ}{X X'}{t}:∀k,(∀j o,j<k->l[j]?=some o->o.dst=some t->X j=X' j)->UA l σ Γ X k t=UA l σ Γ X' k t:=by intro k;induction k with|zero=>intro _;rfl|succ k b=>intro d;have b:=b λj o g=>d j o Y;rw[UA,UA];cases f:l[k]?with|none=>grind|some o=>cases hs:σ[k]?with|none=>grind|some h=>
    by_cases e:o.dst=some t;·rw[d k o Zb f e,b]
    ·grind
end
def JL(N:Nat)(l:List Oper):Bool:=l.all λb=>match b.dst with|some a=>Nat.blt a N|none=>true
def JJ(l:List Oper):Bool:=l.zipIdx.all λ(d,b)=>l.zipIdx.all λ(f,c)=>Nat.beq b c||match d.dst,f.dst with|some a,some e=>!Nat.beq a e|_,_=>true
theorem Zah{l}(h:JJ l=true){i j d:Nat}{o p}(hi:l[i]?=some o)(b:l[j]?=some p)(c:o.dst=some d)(e:p.dst=some d):i=j:=by simp only[JJ,RK]at h;have:=h (o,i) (by rw[BE];exact hi) (p,j) (by rw[BE];exact b);have a:Nat.beq d d=true:=Zb;simp only[c,e,a,MM,E5]at this;exact Xu this
section
variable{c:XK}{Γ:Yr}{H:List Yl}{a:Act}{w:World}{Q:Exit->Act->World->Prop}{l rest:List Oper}{σ:List Xi}{al:Option (Nat×Nat×(Nat->Yl))}{X:Nat->Bool}
def XV(X:Nat->Bool)(i:Nat):Nat->Bool:=λb=>if b=i then true else X b
theorem Zi6{i}{o}{K}(hB:Pa (l++rest) l.length=true)(hN:JL c.N l=true)(hU:al=none\/JJ l=true)(hR:RJ c (l++rest) H 0 l Γ σ al)(hi:l[i]?=some o)(hX:X i=false)(he:∀j∈Vv o,X j=true)(z2:∀j p,l[j]?=some p->X j=true->∀e∈Vv p,X e=true)(hD:BZ c (l++rest) l σ al Γ H X a w)(V:∀a' w',BZ c (l++rest) l σ al Γ H (XV X i) a' w'->K a' w'):wpOpIn (XX c.ro) 0 c.P (l++rest).toArray Q i K a w:=by
 have x4:i<l.length:=(Wm hi).1;have xs:∀{j p},l[j]?=some p->(l++rest)[j]?=some p:=λ{j p}h=>by rw[Uy (Wm h).1];exact h
 have xk:=xs hi;have zz:(l++rest).toArray[i]?=some o:=by simpa using xk
 obtain⟨ys,U,hs,z6,z1⟩:=hR.at i o hi;obtain⟨x1,R,n,z,C,O,Z,x2,x8⟩:=hD;have y6:∀b∈names (l++rest) o,∀j p,i<j->l[j]?=some p->p.dst=some b->X j=false:=by intro b G j p z5 s m;cases yy:X j with|false=>rfl|true=>have:=(D0 hB xk (xs s) Y m G).2 z5;have:=z2 j p s yy i this;rw[hX]at this;cases this
 have y0:∀b∈names (l++rest) o,UA l σ Γ X l.length b=lk U b:=by
  intro b G;rw[z6 b,DU l.length (by omega:i<=l.length),aS i];·exactλj p x s m=>he j ((D0 hB xk (xs s) Y m G).1 x)
  ·intro j p h1 M s m;by_cases E:j=i;·subst E;exact hX
   ·exact y6 b G j p Y s m
 have a0:Am o U n a:=by
  intro y4 I;cases y4 with|tmp b=>
   intro u e;have G:b∈names (l++rest) o:=by simp only[names,TL];refine .inl (.inr ?_);simp only[pZ,dS];exact⟨.tmp b,by simpa using I,rfl⟩
   exact Z b u (by rw[y0 b G];exact e)|_=>trivial
 have y7:∀d,o.dst=some d->d<a.tmps.size:=by intro d m;simp only[JL,RK]at hN;have:=hN o (X6 hi);rw[m]at this;rw[R];simpa[Uk]using this
 have x6:∀{t:YD}{v:Value},XI n t->ys.p t v->∀b u,UA l σ Γ (XV X i) l.length b=some u->u.p t ((a.put o.dst v).tmps.getD b undef):=by
  intro t v y1 q b u e;by_cases m:o.dst=some b
  ·rw[DU l.length (by omega:i+1<=l.length)]at e;·rw[UA]at e;simp only[hi,hs,XV,Sc,m,nJ,Bool.and_self]at e;cases e;rw[m,P6 (y7 b m)];exact q
   ·intro j p h1 M s x9;have E:j≠i:=Y;simp only[XV,Yg E];exact y6 b (by simp[names,m]) j p Y s x9
  ·have e':UA l σ Γ X l.length b=some u:=by
    rw[<-e];refine uG l.length λj p x s x9=>?_;by_cases E:j=i;·subst E;rw[hi]at s;cases s;exact absurd x9 m
    ·simp[XV,E]
   have f:(a.put o.dst v).tmps.getD b undef=a.tmps.getD b undef:=by cases x0:o.dst with|none=>rfl|some d=>exact Nv λe=>m (by rw[x0,e])
   rw[f];exact u.mono y1 (Z b u e')
 have z0:∀g d e,al=some (g,d,e)->g≠i->o.dst≠some d:=by
  intro g d e r D y2;have y9:g<l.length:=by
   have a6:∀{y5:List Oper}{k:Nat}{l:List Oper}{Γ:Yr}{σ:List Xi}{al},RJ c y5 H k l Γ σ al->∀j d e,al=some (j,d,e)->j<k+l.length:=by intro y5 k l Γ σ al h;induction h with|nil=>intro j d e h;cases h|read _ _ ih=>intro j d e h;have:=ih j d e h;simp only[WA];omega|alloc=>intro j d e h;cases h;simp only[WA];omega
   have:=a6 hR g d e r;omega
  obtain⟨s3,a8,_,_,h3⟩:=hR.at g l[g] (VB y9);rcases h3 with⟨_,h3⟩|⟨d3,T3,a9,R3,x3,a7,_,_,z3,_,_,_,y⟩;·exact absurd r (by simpa using h3 d e)
  ·rw[r]at y;simp only[TN,Di,Prod.mk.injEq,true_and]at y;exact D (Zah (hU.resolve_left (by rw[r];simp)) (VB y9) hi (by rw[z3,y.1]) y2)
 have xv:(∀d e,al≠some (i,d,e))->∀{t:YD}{v:Value},XI n t->ct al H (XV X i) t z (a.put o.dst v):=by
  intro F t v y1;obtain⟨J,T,N⟩:=x8;refine⟨J,T.mono y1,?_⟩;rcases N with⟨rfl,N⟩|⟨g,d,e,L,r,I,rfl,W⟩;·refine .inl ⟨rfl,λg d e h=>?_⟩;have D:g≠i:=λM=>F d e (by rw[h,M]);simp only[XV,Yg D];exact N g d e h
  ·have D:g≠i:=λM=>F d e (by rw[r,M]);refine .inr ⟨g,d,e,L,r,by simp only[XV,Yg D];exact I,rfl,?_⟩;cases y2:o.dst with|none=>exact W|some d'=>rw[Nv λe2=>z0 g d e r D (by rw[y2,e2])];exact W
 unfold wpOpIn;rw[zz];simp only[];have yl:(∀d e,al≠some (i,d,e))->PJ c o U H ys->o.wpIn (XX c.ro) 0 c.P a w K Q:=by intro F S;obtain⟨J,T,_⟩:=x8;refine TE.wp ((S.frame J) n z a w C O T a0) λv w'⟨t,z4,q,P⟩=>V _ _ ⟨by rw[Nu];exact x1.step C (P.Cr _),by rw[Rc];exact R,t,z,z4,c.G.mono P.le O,x6 P.le q,x2.trans (P.Cr _),xv F P.le⟩
 have y8:∀{yes:Bool},Ag (l++rest) o U yes->Region.wanted o (yielded (l++rest).toArray a.tmps)=yes:=by
  rintro yes⟨j,yt,L,b,u,f,x,hl,W,hy⟩;have q:=W n _ (Z b u (by rw[y0 b (by simp[names,Ce,f,x])];exact hl));have yf:b<a.tmps.size:=by
   rcases Ru b a.tmps.size with h|h;·exact h
   ·have:a.tmps.getD b undef=undef:=by simp[Array.getD,Nat.not_lt.2 h]
    rw[this]at q;cases q
  have y3:yielded (l++rest).toArray a.tmps j=some L:=by simp only[yielded,NL,x,BJ,wn yf];simp only[Array.getD,yf,Dj]at q;simp only[wq]at q;rw[q]
  simp only[Region.wanted,f,y3];rw[<-hy];cases L<;>cases yt<;>rfl
 have a2:me (l++rest) o U->Region.wanted o (yielded (l++rest).toArray a.tmps)=false:=by
  rintro⟨j,yt,b,f,x,hl⟩;have q:a.tmps.getD b undef=undef:=Z b _ (by rw[y0 b (by simp[names,Ce,f,x])];exact hl);have y3:yielded (l++rest).toArray a.tmps j=none:=by
   simp only[yielded,NL,x,BJ];by_cases x4:b<a.tmps.size;·simp only[wn x4];simp only[Array.getD,x4,Dj]at q;simp only[wq]at q;rw[q];rfl
   ·simp[Zgh (Nat.not_lt.1 x4)]
  simp only[Region.wanted,f,y3];rfl
 rcases z1 with⟨zc,F⟩|⟨d,A,α,yv,y4,B,rfl,f,x0,zs,hz,a3,y⟩
 ·have x5:∀d e,al≠some (i,d,e):=λd e h=>F d e (by rw[h,TN])
  cases zc with|plain f S=>
   have hw:Region.wanted o (yielded (l++rest).toArray a.tmps)=true:=by simp[Region.wanted,f]
   rw[YW hw];exact yl x5 S|yes f S=>rw[YW (y8 f)];exact yl x5 S|no f=>rw[Yg (by rw[y8 f];simp)];exact⟨λx7 _=>FD _ x7,V _ _ ⟨by rw[Nu];exact x1,by rw[Rc];exact R,n,z,C,O,x6 (XI.refl n) rfl,x2,xv x5 (XI.refl n)⟩⟩|undef f=>rw[Yg (by rw[a2 f];simp)];exact⟨λx7 _=>FD _ x7,V _ _ ⟨by rw[Nu];exact x1,by rw[Rc];exact R,n,z,C,O,x6 (XI.refl n) rfl,x2,xv x5 (XI.refl n)⟩⟩
 ·rw[YW (by simp[Region.wanted,f])];rw[TN]at y;obtain⟨J,T,N⟩:=x8;have yx:J=[]:=by
   rcases N with⟨rfl,_⟩|⟨g,d',e',L,r,I,_⟩;·rfl
   ·rw[y]at r;simp only[Di,Prod.mk.injEq]at r;rw[<-r.1,hX]at I;cases I
  subst yx;obtain⟨zv,a5,a4⟩:=wm a3 w;have a1:(execOp a.eval o).run c.P w=.ok (.value (.pointer (some ⟨w.heap.size,0,none⟩))) (w.alloc (.cells B.toArray A)):=by simp[execOp,zs,Instr.alloc,a5,newVar,newRow,a4]
  refine TE.wp (k:=λv w'=>v=.pointer (some ⟨w.heap.size,0,none⟩)/\w'=w.alloc (.cells B.toArray A)) (by rw[a1];exact⟨rfl,rfl⟩) ?_;·rintro v w'⟨rfl,rfl⟩;refine V _ _ ⟨by rw[Nu];exact x1.step C (ZG.alloc _ _ _ _),by rw[Rc];exact R,n,(w.heap.size,A,B)::z,C.KE A B,O,x6 (XI.refl n) trivial,x2.trans (ZG.alloc _ _ _ _),⟨[box w.heap.size A yv y4],⟨[(w.heap.size,A,B)],z,rfl,⟨B,rfl,hz n⟩,T⟩,.inr ⟨i,d,_,w.heap.size,y,by simp[XV],rfl,?_⟩⟩⟩;rw[x0,P6 (y7 d x0)]
def left(n:Nat)(X:Nat->Bool):Nat:=(List.range n).countP λb=>!X b
theorem Zbu{n i}{X}(hi:i<n)(f:X i=false):left n (XV X i)+1=left n X:=by unfold left;induction n with|zero=>omega|succ n h=>
  rw[nw,List.countP_append];simp;by_cases d:i=n
  ·subst d;have:(List.range i).countP (λb=>!XV X i b)=(List.range i).countP λb=>!X b:=by apply List.countP_congr;intro b j;have:b≠i:=Zm;simp[XV,this]
   rw[this];simp[XV,f]
  ·have g:n≠i:=λe=>d e.symm;simp[XV,Yg g]at h⊢;omega
theorem Zbv{n}{X}(h:left n X=0):∀i,i<n->X i=true:=by unfold left at h;simp_all
def X8(listed:Array Bool):Nat->Bool:=λb=>listed.getD b false
theorem bY{listed}{i}(hi:i<listed.size):X8 (listed.setIfInBounds i true)=XV (X8 listed) i:=by
 funext j;simp[X8,XV,Array.getD];by_cases d:j=i;·simp_all
 ·have e:i≠j:=λb=>d b.symm;simp_all
theorem mem_ready{d:List Oper}{listed}{i}(hs:listed.size=d.length):i∈Region.ready .any d.toArray listed↔∃o,d[i]?=some o/\X8 listed i=false/\∀j∈Vv o,X8 listed j=true:=by
 unfold Region.ready;simp only[List.size_toArray,dR,List.mem_range,NL,Yv];constructor
 ·rintro⟨g,m,e⟩;rw[VB g]at e;simp only[Jm,nF]at e;refine⟨d[i],VB g,?_,?_⟩;·have k:i<listed.size:=Y;simp only[X8,Array.getD,k,Dj]at m⊢;simpa using m
  ·intro j p;simp only[Vv,wG,dR]at p;obtain⟨b,⟨h,f⟩,rfl⟩:=p;rw[Zgf]at e;have:=e b (by simpa using h);simpa[f,X8]using this
 ·rintro⟨o,q,n,h⟩;obtain⟨g,rfl⟩:=Wm q;refine⟨g,?_,?_⟩;·have k:i<listed.size:=Y;simp only[X8,Array.getD,k,Dj]at n⊢;simpa using n
  ·rw[q];simp only[Jm,nF];rw[Zgf];intro b r;by_cases f:Region.binds .any b=true;·have:=h b.on (by simp only[Vv,wG,dR];exact⟨b,⟨by simpa using r,f⟩,rfl⟩);simp only[X8]at this;simp[this]
   ·simp[f]
theorem ZbB(b:List Oper)(n):b=b.take n++b.drop n:=(Sb n b).symm
theorem Zjc(hm:c.P.follows .mixedOrders=true)(y:Pa (l++rest) l.length=true)(hN:JL c.N l=true)(hU:al=none\/JJ l=true)(V:RJ c (l++rest) H 0 l Γ σ al)(xv:∀a w,BZ c (l++rest) l σ al Γ H (λ_=>true) a w->wpListIn (XX c.ro) 0 c.P (l++rest).toArray Q rest a w):∀(q)(listed)(a)(w),listed.size=(l++rest).length->left (l++rest).length (X8 listed)<=q->((∀i,l.length<=i->X8 listed i=false)/\(∀j p,l[j]?=some p->X8 listed j=true->∀e∈Vv p,X8 listed e=true)/\BZ c (l++rest) l σ al Γ H (X8 listed) a w\/∃p,l.length<=p/\p<=(l++rest).length/\(∀i,i<(l++rest).length->X8 listed i=decide (i<p))/\wpListIn (XX c.ro) 0 c.P (l++rest).toArray Q ((l++rest).drop p) a w)->wpAnyIn (XX c.ro) 0 c.P .any (l++rest).toArray Q q listed a w:=by
 have conv:∀{listed:Array Bool}{a:Act}{w:World},(∀i,l.length<=i->X8 listed i=false)->BZ c (l++rest) l σ al Γ H (X8 listed) a w->(∀i,i<l.length->X8 listed i=true)->∃p,l.length<=p/\p<=(l++rest).length/\(∀i,i<(l++rest).length->X8 listed i=decide (i<p))/\wpListIn (XX c.ro) 0 c.P (l++rest).toArray Q ((l++rest).drop p) a w:=by
  intro listed a w g k r;refine⟨l.length,YG _,Zb,λi _=>?_,?_⟩
  ·by_cases d:i<l.length;·simp[d,r i d]
   ·simp[d,g i Y]
  ·rw[oT]
   ·refine xv a w ?_;obtain⟨xk,hn,y9,hs,hg,hG,x9,y0,x5,y6,K⟩:=k;refine⟨xk,hn,y9,hs,hg,hG,λyl yf e=>x9 yl yf ?_,y0,x5,y6,?_⟩;·rw[<-e];refine uG l.length λj I b _ _=>?_;rw[r j b]
    ·rcases K with⟨rfl,K⟩|⟨x,f,e,x6,x8,hx,x7,hb⟩
     ·refine .inl ⟨rfl,λx f e h=>?_⟩;have y3:x<l.length:=by
       have y8:∀{T:List Oper}{R:Nat}{l:List Oper}{Γ:Yr}{σ:List Xi}{al},RJ c T H R l Γ σ al->∀j f e,al=some (j,f,e)->j<R+l.length:=by intro T R l Γ σ al h;induction h with|nil=>intro j f e h;cases h|read _ _ F=>intro j f e h;have:=F j f e h;simp only[WA];omega|alloc=>intro j f e h;cases h;simp only[WA];omega
       have:=y8 V x f e h;omega
      have:=K x f e h;rw[r x y3]at this;cases this
     ·exact .inr ⟨x,f,e,x6,x8,rfl,x7,hb⟩
   ·rfl
 intro q;induction q with
 |zero=>
  intro listed a w B W D;have t:=Zbv (Nat.le_zero.1 W);have A:Region.ready .any (l++rest).toArray listed=[]:=by rw[Zgn];intro i d;obtain⟨I,o,n,_⟩:=(mem_ready B).1 d;rw[t i (Wm o).1]at n;cases n
  refine⟨A,?_⟩;obtain⟨p,x1,x2,m,v⟩:∃p,l.length<=p/\p<=(l++rest).length/\(∀i,i<(l++rest).length->X8 listed i=decide (i<p))/\wpListIn (XX c.ro) 0 c.P (l++rest).toArray Q ((l++rest).drop p) a w:=by
   rcases D with⟨g,_,k⟩|h;·exact conv g k λi d=>t i WI
   ·exact h
  have P:p=(l++rest).length:=by
   rcases Ru p (l++rest).length with h|h;·have:=m p h;rw[t p h]at this;simp at this
   ·omega
  rwa[P,nq]at v|succ q F=>
  intro listed a w B W D;have xs:Region.ready .any (l++rest).toArray listed=[]->∀i,i<(l++rest).length->X8 listed i=true:=by intro A i;induction i using Nat.strongRecOn with|_ i y7=>intro d;cases n:X8 listed i with|true=>rfl|false=>have:i∈Region.ready .any (l++rest).toArray listed:=(mem_ready B).2 ⟨(l++rest)[i],VB d,n,λj b=>by have E:=uU y (VB d) j b;exact y7 j E Y⟩;rw[A]at this;cases this
  refine⟨λA=>?_,λi d=>?_⟩
  ·have t:=xs A;obtain⟨p,x1,x2,m,v⟩:∃p,l.length<=p/\p<=(l++rest).length/\(∀i,i<(l++rest).length->X8 listed i=decide (i<p))/\wpListIn (XX c.ro) 0 c.P (l++rest).toArray Q ((l++rest).drop p) a w:=by
    rcases D with⟨g,_,k⟩|h;·exact conv g k λi d=>t i WI
    ·exact h
   have P:p=(l++rest).length:=by
    rcases Ru p (l++rest).length with h|h;·have:=m p h;rw[t p h]at this;simp at this
    ·omega
   rwa[P,nq]at v
  ·obtain⟨I,o,n,C⟩:=(mem_ready B).1 d;have L:=(Wm o).1;have x3:(listed.setIfInBounds i true).size=(l++rest).length:=by simpa using B
   have z:=bY (listed:=listed) (i:=i) Y;have Z:left (l++rest).length (X8 (listed.setIfInBounds i true))<=q:=by rw[z];have:=Zbu L n;omega
   have U:(∃p,l.length<=p/\p<=(l++rest).length/\(∀i,i<(l++rest).length->X8 listed i=decide (i<p))/\wpListIn (XX c.ro) 0 c.P (l++rest).toArray Q ((l++rest).drop p) a w)->wpOpIn (XX c.ro) 0 c.P (l++rest).toArray Q i (wpAnyIn (XX c.ro) 0 c.P .any (l++rest).toArray Q q (listed.setIfInBounds i true)) a w:=by
    rintro⟨p,x1,x2,m,v⟩;have yt:¬i<p:=by intro h;have:=m i L;rw[n]at this;simp[h]at this
    have y5:p=i:=by
     rcases Ru p i with h|h
     ·have:=uV y o Y (X:=X8 listed) C λj x4 b s e u=>by
       have M:=(Wm b).1;rw[m j M]at s;have N:j<p:=by simpa using s
       have ys:=uU y b e u;rw[m e Y];simp;omega p h;rw[m p Y]at this;simp at this
     ·omega
    subst y5;rw[O0 L,(Wm o).2]at v;have y4:(l++rest).toArray[p]?=some I:=by simpa using o
    have:wpOpIn (XX c.ro) 0 c.P (l++rest).toArray Q p (wpListIn (XX c.ro) 0 c.P (l++rest).toArray Q ((l++rest).drop (p+1))) a w:=by unfold wpOpIn;rw[y4];exact v
    refine wpOpIn_mono (λJ S h'=>F _ J S x3 Z (.inr ⟨p+1,Y,Y,λj b=>?_,h'⟩)) this;rw[z];by_cases N:j=p;·simp[XV,N]
    ·simp only[XV,Yg N,m j b];congr 1;rw[eq_iff_iff];omega
   rcases D with⟨g,k,r⟩|h
   ·by_cases y1:i<l.length
    ·have x0:l[i]?=some I:=by rwa[Uy y1]at o
     refine Zi6 y hN hU V x0 n C k r λJ S hD=>F _ J S x3 Z (.inl ⟨λj b=>?_,λj p O b e u=>?_,by rw[z];exact hD⟩);·rw[z];have:j≠i:=Y;simp only[XV,Yg this];exact g j b
     ·rw[z]at b⊢;simp only[XV]at b⊢;split;·rfl
      ·by_cases E:j=i;·subst E;rw[x0]at O;cases O;exact C e u
       ·rw[Yg E]at b;exact k j p O b e u
    ·refine U (conv g r λj b=>uV y o Y (X:=X8 listed) C (λG x4 y2 s e u=>?_) j Y);have M:G<l.length:=by
      rcases Ru G l.length with h|h;·exact h
      ·rw[g G h]at s;cases s
     exact k G x4 (by rwa[Uy M]at y2) s e u
   ·exact U h
theorem ZqS{id n}{b}(I:St c Γ H a w)(r:c.P.follows .mixedOrders=true)(v:Pa b n=true)(s:Nat.ble n b.length=true)(y:JL c.N (b.take n)=true)(q:RJ c b H 0 (b.take n) Γ σ none)(k:Wh c b.toArray (b.drop n) (Fu Γ (b.take n) σ) H (Q .normal)):(Code.region id b.toArray true).wpIn (XX c.ro) 0 c.P Q a w:=by
 have D:(b.take n).length=n:=XA;have f:=ZbB b n;have t:=Zjc (c:=c) (Γ:=Γ) (H:=H) (Q:=Q) (l:=b.take n) (rest:=b.drop n) (σ:=σ) (al:=none) r (by rw[<-f,D];exact v) y (.inl rfl) (by rw[<-f];exact q) λa w⟨i,s,o,m,g,h,z,C,u,F,K⟩=>by
   rw[<-f];have x:u=[]:=by grind
   subst x;refine k a w Q (λ_ _ d=>d) ⟨i,s,o,m,g,h,λe p d=>z e p ?_,F,C⟩;rw[<-aT Γ _ σ q.len e];exact d
 refine cg r ?_;rw[<-f]at t;obtain⟨i,E,o,m,g,h,A,G,B⟩:=I;refine t _ _ a w.drew Zb (WX nk Zb) (.inl ⟨λL _=>by simp only[X8,Array.getD];split<;>simp,λJ N _ j=>by simp only[X8,Array.getD]at j;split at j<;>simp at j,i.step g (ZG.drew _ _ _),E,o,m,g.drew,h,λe p d=>A e p ?_,B.trans (ZG.drew _ _ _),[],G,.inl ⟨rfl,λ_ _ _ d=>by cases d⟩⟩)
 ·rw[<-d];have:∀k,UA (b.take n) σ Γ (X8 (Array.replicate b.toArray.size false)) k e=lk Γ e:=by
   intro k;rw[DU k (VD k)];·rfl
   ·intro J M _ _ _ _;simp only[X8,Array.getD];split<;>simp
  rw[this]
end
def Gr(r:Option Nat)(P:Program)(Q:Exit->Act->World->Prop):List Code->Act->World->Prop|[]=>Q .normal|x::k=>x.wpIn (XX r) 0 P (Exit.then (Gr r P Q k) Q)
def Xy(c:XK)(Q:Exit->Act->World->Prop)(k:List Code)(Γ:Yr)(H:List Yl):Prop:=∀a b,St c Γ H a b->Gr c.ro c.P Q k a b
section
variable{c:XK}{Γ Γ':Yr}{H H':List Yl}{Q:Exit->Act->World->Prop}{k:List Code}
theorem Qg(h:∀a w,St c Γ H a w->Q .normal a w):Xy c Q [] Γ H:=h
theorem Vb{x y}(h:Xy c Q (x::y::k) Γ H):Xy c Q (.seq x y::k) Γ H:=by refineλa f e=>Dl (RO (h a f e) λb g i d=>?_);cases b<;>exact d
theorem Bc(h:Xy c Q k Γ H):Xy c Q (.skip::k) Γ H:=λa d b=>wpIn_skip (h a d b)
theorem ZrA(h:NY Γ Γ')(r:Xy c Q k Γ' H):Xy c Q k Γ H:=λa d b=>r a d (b.sub h)
theorem Ze9(h:QX H H')(r:Xy c Q k Γ H'):Xy c Q k Γ H:=λa d b=>r a d (b.Ry h)
theorem VQ{id}{l}(h:Wh c l.toArray l Γ H (Gr c.ro c.P Q k)):Xy c Q (.region id l.toArray false::k) Γ H:=λa d b=>cj (h a d _ (λ_ _ h=>h) b)
theorem W9{d}(h:Xy c Q k Γ H):Wh c d [] Γ H (Gr c.ro c.P Q k):=λa b g e f=>e a b (h a b f)
theorem xt{id n}{a}{σ}(f:c.P.follows .mixedOrders=true)(b:Pa a n=true)(g:Nat.ble n a.length=true)(d:JL c.N (a.take n)=true)(e:RJ c a H 0 (a.take n) Γ σ none)(h:Wh c a.toArray (a.drop n) (Fu Γ (a.take n) σ) H (Gr c.ro c.P Q k)):Xy c Q (.region id a.toArray true::k) Γ H:=λj l i=>ZqS i f b g d e h
theorem Bb{x}{A B}{b}(hx:Yo Γ x (bl.slot b))(h1:b=true->Xy c Q (A::k) Γ H)(h2:b=false->Xy c Q (B::k) Γ H):Xy c Q (.cond x A B::k) Γ H:=by intro a f e;have⟨_,_,h,i,_,_,g,_⟩:=e;exact nR (U4.1 (hx h a (g.ZW x))) (λd=>h1 d a f e) λd=>h2 d a f e
def BQ(id:Nat)(n:Act->World->Prop)(Q:Exit->Act->World->Prop):Exit->Act->World->Prop|.normal,a,w=>n a w|.exit b,a,w=>if b=id then n a w else Q (.exit b) a w|e,a,w=>Q e a w
theorem Ey{id}{x}(h:Xy c (BQ id (Gr c.ro c.P Q k) Q) [x] Γ H):Xy c Q (.block id x::k) Γ H:=by refineλb f e=>wpIn_block (RO (h b f e) λd g j a=>?_);cases d with|normal=>exact a|exit i=>simp[Exit.then,BQ,Exit.inBlock]at a⊢;split<;>simp_all|_=>exact a
theorem Zrs{id}(h:∀a w,St c Γ H a w->Q (.exit id) a w):Xy c Q (.exit id::k) Γ H:=λa w b=>wpIn_exit (h a w b)
theorem EA(h:∀a w,St c Γ H a w->Q .ret a w):Xy c Q (.ret::k) Γ H:=λa w b=>wpIn_ret (h a w b)
theorem Zib{id}{n}{a}{w}(h:n a w):BQ id n Q (.exit id) a w:=by simp[BQ,Sc];exact h
end
def LQ{σ ρ:Type}(id:Nat)(I:σ->Act->World->Prop)(R:ρ->Act->World->Prop)(r:LR σ ρ)(e:Exit)(a:Act)(w:World):Prop:=match r with|.next s=>e=.normal/\I s a w|.brk s=>e=.exit id/\I s a w|.ret x=>e=.ret/\R x a w
theorem Zrc{P}{k}{Q}{σ ρ}{f}{I}{R}{id}{g}(p:∀s r a w,f s=some r->I s a w->g.wpIn (XX k) 0 P (LQ id I R r) a w):∀(n)(s)(c:σ⊕ρ)(a)(w),Pg f n s=some c->I s a w->(∀s' a w,c=.inl s'->I s' a w->Q (.exit id) a w)->(∀x a w,c=.inr x->R x a w->Q .ret a w)->Code.roundsIn (XX k) 0 P g Q n a w:=by intro n;induction n with|zero=>intro s c a w b;cases b|succ n o=>intro s c a w b l h i;unfold Pg at b;cases j:f s with|none=>grind|some r=>rw[j]at b;refine RO (p s r a w j l) λt q u e=>?_;cases r with|next s'=>obtain⟨rfl,d⟩:=e;exact o _ c _ _ b d h i|brk s'=>obtain⟨rfl,d⟩:=e;simp at b;exact h _ _ _ b.symm d|ret x=>obtain⟨rfl,m⟩:=e;simp at b;exact i x _ _ b.symm m
section
variable{c:XK}{Γ Γ':Yr}{H H':List Yl}{Q:Exit->Act->World->Prop}{k:List Code}
theorem Zrw{σ ρ l:Type}{f}{Γi:l->σ->Yr}{Hi:l->σ->List Yl}{R}{id n}{j}{h}{b:σ⊕ρ}(t:Pg f n h=some b)(g)(o:∀a w,St c Γ H a w->St c (Γi g h) (Hi g h) a w)(y:∀i s r,f s=some r->Xy c (LQ id (λs a w=>∃i,St c (Γi i s) (Hi i s) a w) R r) [j] (Γi i s) (Hi i s))(h1:∀i s,b=.inl s->Xy c Q k (Γi i s) (Hi i s))(h2:∀x a w,b=.inr x->R x a w->Q .ret a w):Xy c Q (.block id (.loop j)::k) Γ H:=by refine Ey λa w v=>wpIn_loop_rounds n (Zrc (I:=λs a w=>∃i,St c (Γi i s) (Hi i s) a w) (R:=R) (id:=id) ?_ n _ b a w t ⟨g,o a w v⟩ (λA a w e⟨i,d⟩=>Zib (h1 i _ e a w d)) λx a w e p=>h2 x a w e p);·refineλs r a w q⟨i,d⟩=>RO (y i s r q a w d) λm z B u=>?_;cases m<;>exact u
end
section
variable{c:XK}{Γ Γ':Yr}{H H':List Yl}{a:Act}{w:World}{ι:Type}{ρ:ι->Xi}{ε:ι->List Yl}{Z:Func}
def Mz(tmps:Array Value):ResultVar->Sem Value|.tmp t=>pure (tmps.getD t undef)|.cell b t=>do loadVar t (<-asAddr (tmps.getD b undef))
theorem Zq8(Z)(tmps):results Z tmps=(do let vs<-Z.results.mapM (Mz tmps);pure (if h:vs.size=1then vs[0]else .tuple vs)):=by
 have:(λb=>match b with|.tmp t=>pure (tmps.getD t undef)|.cell a t=>do loadVar t (<-asAddr (tmps.getD a undef)))=Mz tmps:=by funext b;cases b<;>rfl
 rfl
inductive GO(c:XK)(Γ:Yr)(H:List Yl):ResultVar->Xi->Prop|tmp{t:Nat}{s:Xi}:lk Γ t=some s->GO c Γ H (.tmp t) s|cell{t b:Nat}{T T0:TypeId}{α:Type}{R:ZM α}{x:α}{H':List Yl}:lk Γ t=some (val (.pointer (some ⟨b,0,none⟩)))->Uz H (box b T0 R x) H'->T7 c.P T R.ag R.n=true->GO c Γ H (.cell t T) (R.slot x)
theorem GO.run{r}{s}(h:GO c Γ H r s){m}{hs}(j:Good m hs w)(l:ZH H m hs)(d:Uq Γ m a):∃v,(Mz a.tmps r).run c.P w=.ok v w/\s.p m v:=by cases h with|tmp h=>exact⟨_,rfl,d _ _ h⟩|@cell t b T o α R x H' h hk i=>
  have f:a.tmps.getD t _=_:=d t _ h;have⟨p,k,e⟩:=ZH.box (w:=w) l hk;refine⟨U6 _ _,?_,ZM.zH e⟩;have:=xw i (R.len e) R.one λn v g=>by rw[TN];exact j.cells k n v g
  simp[Mz,f,asAddr,pure_bind];exact this
inductive Jw(c:XK)(Γ:Yr)(H:List Yl):List ResultVar->List Xi->Prop|nil:Jw c Γ H [] []|cons{r:ResultVar}{s:Xi}{rs:List ResultVar}{ss:List Xi}:GO c Γ H r s->Jw c Γ H rs ss->Jw c Γ H (r::rs) (s::ss)
theorem Jw.run{rs}{ss}(h:Jw c Γ H rs ss){m}{hs}(f:Good m hs w)(i:ZH H m hs)(e:Uq Γ m a):∃vs,(rs.mapM (Mz a.tmps)).run c.P w=.ok vs w/\Sq m ss vs/\vs.length=rs.length:=by induction h with|nil=>exact⟨[],Zb,rfl,rfl⟩|cons b _ j=>have⟨vs,l,d,k⟩:=j;have⟨v,n,g⟩:=b.run f i e;refine⟨v::vs,?_,⟨v,vs,rfl,g,d⟩,Zm⟩;simp_all
theorem ph{rs:List ResultVar}{vs}(b:Z.results=rs.toArray)(h:(rs.mapM (Mz a.tmps)).run c.P w=.ok vs w):(results Z a.tmps).run c.P w=.ok (if h:vs.toArray.size=1then vs.toArray[0]else .tuple vs.toArray) w:=by rw[Zq8,b,Ym,Zgi,Sem.run_map,h];rfl
theorem yU{r}{s}(u:St c Γ H a w)(o:Z.results=#[r])(l:GO c Γ H r s)(i)(hs:∀m v,s.p m v->(ρ i).p m v)(n:QX H (ε i))(h:c.mm=false:=by rfl):bodyPost c.P Z (LW c ρ ε) .ret a w:=by obtain⟨g,C,m,D,b,A,j,e,k⟩:=u;obtain⟨F,q,⟨v,G,rfl,x,rfl⟩,B⟩:=(Jw.cons l .nil).run b e j;have:=ph o q;have⟨E,t,d,y⟩:=e.Ry n;refine⟨g.none h,v,Zm,v,m,t,i,rfl,(b.perm d).sub,hs m v x,y,(k.perm d).sub λz f=>by rw[Hp.XL];exact Yd (.inr f)⟩
theorem ZpM{rs}{ss}(x:St c Γ H a w)(s:Z.results=rs.toArray)(o:Jw c Γ H rs ss)(h1:Nat.beq rs.length 1=false)(i)(hs:∀m v,(xO ss).p m v->(ρ i).p m v)(q:QX H (ε i))(k:c.mm=false:=by rfl):bodyPost c.P Z (LW c ρ ε) .ret a w:=by
 have⟨j,D,m,E,b,B,l,e,n⟩:=x;have⟨f,t,g,C⟩:=o.run b e l;have:=ph s t;have r:¬f.toArray.size=1:=by intro A;simp_all
 rw[dif_neg r]at this;have⟨F,u,d,y⟩:=e.Ry q;exact⟨j.none k,_,this,_,m,u,i,rfl,(b.perm d).sub,hs m _ ⟨f,rfl,g⟩,y,(n.perm d).sub λz h=>by rw[Hp.XL];exact Yd (.inr h)⟩
theorem gF{rs}{ss}(g:St c Γ H a w)(f:Z.results=rs.toArray)(d:Jw c Γ H rs ss)(h1:Nat.beq rs.length 1=false)(i)(hs:∀m v,(xO ss).p m v->(ρ i).p m v)(e:QX H (ε i))(b:c.mm=false:=by rfl):bodyPost c.P Z (LW c ρ ε) .normal a w:=ZpM g f d h1 i hs e b
end
theorem lX{P}{G}{f}{a:Func}{d}{A}{E}{p}{ρ:p->Xi}{ε}(m:P.funcs[f]?=some a)(k:a.body=some d)(N)(j:a.ntmps=N)(i:Nat.ble A.length N=true)(h:∀(c)(w0)(b),Xy ⟨P,N,G,c,w0,b,none,false⟩ (bodyPost P a (LW ⟨P,N,G,c,w0,b,none,false⟩ ρ ε)) [d] (Mh 0 A) E):QU P G f A E ρ ε:=by refine ZiS m k j i ?_;rintro⟨s,r,q,c,w0,b,v,u⟩rfl rfl rfl rfl rfl e o n;refine RO (h _ _ _ e o n) λg t w l=>?_;cases g<;>exact l
section
variable{c:XK}{full:Array Oper}{l:List Oper}{Γ Γ':Yr}{H H':List Yl}{K:Act->World->Prop}{d:Tmp}{od:Option Tmp}{ty:TypeId}{pos:String}{aft:Array Edge}{g:Option (Nat×Bool)}{α β:Type}
theorem ZmE{T:TypeId}{x y}{R}{xs}{i}{s}{z:α}(hx:Yo Γ x ((sl R).slot xs))(e:Yo Γ y s)(hs:O8 s i)(h:QD xs i=some z)(b:Uh c.P T R.n=true):PJ c ⟨od,.indexAddr T x y,ty,pos,aft,g⟩ Γ H (WF R z):=by obtain⟨a,f,rfl⟩:=JX h;exact ZmD hx e hs a _ b
theorem Zry{P}{T sz}(n:Uh P T sz=true){a}{len cap:Nat}{kh km}{h m:Int}(e:0<=h)(h1:h<=m)(h2:m<=cap)(w):(Instr.sliceAt T (.slice a len cap) none (some (.int kh h)) (some (.int km m))).run P w=.ok (.slice a h.toNat m.toNat) w:=by
 have⟨r,q,p⟩:=HY n;have j:∀k(b:Int)(f:Nat)i,0<=b->b<=f->(Instr.sliceBound (.int k b) f i).run P w=.ok b.toNat w:=by intro k b f i e h1;simp[Instr.sliceBound,asIntOf,e,h1]
 simp only[Instr.sliceAt,Ym,WB q,YJ,Instr.slice,Instr.sliceBounds,Sc,j km m cap .slice3Acap Y h2,j kh h m.toNat .slice3B e Y,Y5,Po p w];by_cases o:m.toNat=0;·grind
 ·simp[o,VZ,Nat.zero_mul,nE];cases a with|none=>rfl|some a=>simp[Addr.add]
theorem own.at{T}{R:ZM α}{v}{xs}{m}{hs}(h:(own T R v xs).p m hs)(e:xs≠[]):∃b cap row a,v=.slice (some ⟨b,0,none⟩) xs.length cap/\hs=[(b,T,row++a)]/\YT R m row xs/\xs.length<=cap/\(row++a).length=cap*R.n:=h.resolve_left λh=>e h.1
end
section
variable{c:XK}{full:Array Oper}{l:List Oper}{Γ Γ':Yr}{H H':List Yl}{K:Act->World->Prop}{d:Tmp}{od:Option Tmp}{ty:TypeId}{pos:String}{aft:Array Edge}{g:Option (Nat×Bool)}{α β:Type}
def Px(P:Program)(T:TypeId)(R:ZM α)(n:Nat):Prop:=∀f,n<=f->∀h b e j k i,R.rel h b j->R.rel h e k->∃a:Bool,(Op.equalIn f T (U6 R.ag b) (U6 R.ag e)).run P i=.ok a i/\(a=true↔j=k)
theorem Zjq{P}{T}(h:P.underlying T=some (.int .i64)):Px P T i64 1:=by intro k a j f i b e m rfl rfl;match k,a with|k+1,_=>exact⟨b==e,by simp[Op.equalIn,WB h,U6,i64],Zb⟩
theorem Zjs{P}{T}{k}{b}(h:P.underlying T=some (.int k)):Px P T (un k b) 1:=by intro n a m i j e f o rfl rfl;match n,a with|n+1,_=>exact⟨(e.toNat:Int)==f.toNat,by simp[Op.equalIn,WB h,U6,un],by simp[<-dG];omega⟩
theorem Zjp{P}{T}(h:P.underlying T=some .bool):Px P T bl 1:=by intro n a j f i b e k rfl rfl;match n,a with|n+1,_=>exact⟨b==e,by simp[Op.equalIn,WB h,U6,bl],Zb⟩
theorem Zjt{P}{T e N n:Nat}{R:ZM α}(h:P.underlying T=some (.array N e))(y:T7 P e R.ag R.n=true)(E:Px P e R n):Px P T (vec N R) (n+1):=by intro k G m u v A B b M O;match k,G with
 |k+1,G=>
  have I:n<=k:=Y;have W:∀t f,f+t=N->∃j:Bool,(∀b:World,(forIn (m:=Sem) (List.range' f t) ((none,()):Option Bool×Unit) λi(_:Option Bool×Unit)=>do let a<-part e u.toArray (i*R.n)let j<-part e v.toArray (i*R.n)let o<-Op.equalIn k e a j;if(!o)=true then pure (ForInStep.done (some false,()))else pure (ForInStep.yield (none,()))).run P b=.ok (if j then(none,())else(some false,())) b)/\(j=true↔∀i,(h:i<N)->f<=i->A[i]=B[i]):=by intro t;induction t with
   |zero=>
    refineλf S=>⟨true,λb=>Zb,?_⟩;constructor;·intro _ i q F;omega
    ·intro _;rfl|succ t V=>
    intro f S;have s:f<N:=Y;obtain⟨j,x,z⟩:=V (f+1) Y;have J:=(W5.at N R f s).Mk M;have L:=(W5.at N R f s).Mk O;have C:∀b:World,(part e u.toArray (f*R.n)).run P b=.ok (U6 R.ag ((u.drop (f*R.n)).take R.n)) b:=λb=>HV y R.one (by rw[(vec N R).len M];exact(W5.at N R f s).fits) b;have D:∀b:World,(part e v.toArray (f*R.n)).run P b=.ok (U6 R.ag ((v.drop (f*R.n)).take R.n)) b:=λb=>HV y R.one (by rw[(vec N R).len O];exact(W5.at N R f s).fits) b;have p:∃o:Bool,(∀b:World,(Op.equalIn k e (U6 R.ag ((u.drop (f*R.n)).take R.n)) (U6 R.ag ((v.drop (f*R.n)).take R.n))).run P b=.ok o b)/\(o=true↔A[f]=B[f]):=by
     by_cases w:A[f]=B[f];·refine⟨true,λb=>?_,by simp[w]⟩;obtain⟨o,p,r⟩:=E k I m _ _ _ _ b J L;rw[p,r.2 w]
     ·refine⟨false,λb=>?_,by simp[w]⟩;obtain⟨o,p,r⟩:=E k I m _ _ _ _ b J L;cases o with|true=>exact absurd (r.1 rfl) w|false=>exact p
    obtain⟨o,p,r⟩:=p
    cases o with|true=>
     refine⟨j,λb=>?_,?_⟩;·rw[List.range'_succ,E8];simp only[Ym,C,D,p,YJ,MM,SW,VZ,Y5];exact x b
     ·rw[z];constructor
      ·intro h i q F;by_cases Q:i=f;·subst Q;exact r.1 rfl
       ·exact h i q Y
      ·exactλh i q F=>h i q Y|false=>
     refine⟨false,λb=>?_,?_⟩;·rw[List.range'_succ,E8];simp only[Ym,C,D,p,YJ,ML,Sc,Y5];rfl
     ·constructor;·intro h;cases h
      ·exactλh=>r.2 (h f s (YG _))
  obtain⟨j,x,z⟩:=W N 0 Y;refine⟨j,?_,?_⟩
  ·have X:([0:N]:Std.Legacy.Range).toList=List.range' 0 N:=by simp[Std.Legacy.Range.toList]
   simp only[Op.equalIn,Ym,WB h,YJ,U6,vec,λb=>Po (oi y) b];rw[Zge];have U:([0:N]:Std.Legacy.Range).size=N:=by simp[Std.Legacy.Range.size]
   simp only[U];have:=x b;rw[this];cases j<;>rfl
  ·rw[z];constructor;·intro h;ext i q;exact h i q (VD _)
   ·intro h i q _;rw[h]
inductive GC(P:Program):List Field->Nat->{α:Type}->ZM α->Nat->Prop|one{α:Type}{f:Field}{off n:Nat}{R:ZM α}:f.offset=off->(f.name== "_")=false->T7 P f.type R.ag R.n=true->Px P f.type R n->GC P [f] off R n|cons{α β:Type}{f:Field}{fs:List Field}{off n:Nat}{R:ZM α}{S:ZM β}:f.offset=off->(f.name== "_")=false->T7 P f.type R.ag R.n=true->Px P f.type R n->GC P fs (off+R.n) S n->GC P (f::fs) off (prod R S) n
theorem GC.run{P}{n k}(u:n<=k){fs}{off}{R}(h:GC P fs off R n):∀{m}{xs ys cs ds:List Value}{x y:α},xs.length=off+R.n->ys.length=off+R.n->R.rel m cs x->R.rel m ds y->xs.drop off=cs->ys.drop off=ds->∃b,(∀w,(forIn fs (none,()) λ(f:Field)_=>do if f.name≠ "_"then let a<-part f.type xs.toArray f.offset;let b<-part f.type ys.toArray f.offset;let o<-Op.equalIn k f.type a b;if(!o)=true then pure (ForInStep.done (some false,()))else pure (ForInStep.yield (none,()))else pure (ForInStep.yield (none,()))).run P w=.ok (if b then(none,())else(some false,())) w)/\(b=true↔x=y):=by
 induction h with|@one α f off n R i D t s=>
  intro m xs ys cs ds x y A C F I z B;have v:f.name≠ "_":=by simpa using D
  have q:∀w:World,(part f.type xs.toArray f.offset).run P w=.ok (U6 R.ag cs) w:=λw=>by have:=HV (cs:=xs) (off:=f.offset) t R.one (by rw[A,i];exact YG _) w;rw[this,i,z,VT (wO (R.len F))]
  have r:∀w:World,(part f.type ys.toArray f.offset).run P w=.ok (U6 R.ag ds) w:=λw=>by have:=HV (cs:=ys) (off:=f.offset) t R.one (by rw[C,i];exact YG _) w;rw[this,i,B,VT (wO (R.len I))]
  by_cases j:x=y;·refine⟨true,λw=>?_,by simp[j]⟩;obtain⟨o,e,p⟩:=s k u m _ _ _ _ w F I;rw[p.2 j]at e;simp only[E8,List.forIn_nil,v,ne_eq,nL,Sc,Ym,q,r,e,YJ,MM,SW,VZ,Y5]
  ·refine⟨false,λw=>?_,by simp[j]⟩;obtain⟨o,e,p⟩:=s k u m _ _ _ _ w F I;have E:o=false:=by cases o with|true=>exact absurd (p.1 rfl) j|false=>rfl
   rw[E]at e;simp only[E8,List.forIn_nil,v,ne_eq,nL,Sc,Ym,q,r,e,YJ,ML,Y5,SW,VZ]|@cons α β f fs off n R S i D t s _ Z=>
  intro m xs ys cs ds x y A C⟨O,Q,L,G,W⟩⟨d1,d2,hd,J,X⟩z B;have v:f.name≠ "_":=by simpa using D
  have V:(prod R S).n=R.n+S.n:=rfl;rw[V]at A C;have M:=R.len G;have N:=R.len J;have q:∀w:World,(part f.type xs.toArray f.offset).run P w=.ok (U6 R.ag O) w:=λw=>by have:=HV (cs:=xs) (off:=f.offset) t R.one (by rw[A,i];omega) w;rw[this,i,z,L,Gv M]
  have r:∀w:World,(part f.type ys.toArray f.offset).run P w=.ok (U6 R.ag d1) w:=λw=>by have:=HV (cs:=ys) (off:=f.offset) t R.one (by rw[C,i];omega) w;rw[this,i,B,hd,Gv N]
  obtain⟨b,T,U⟩:=Z u (m:=m) (xs:=xs) (ys:=ys) (cs:=Q) (ds:=d2) (x:=x.2) (y:=y.2) Y Y W X (by rw[<-UV,z,L,<-M,List.drop_left]) (by rw[<-UV,B,hd,<-N,List.drop_left]);by_cases j:x.1=y.1
  ·refine⟨b,λw=>?_,?_⟩;·obtain⟨o,e,p⟩:=s k u m _ _ _ _ w G J;rw[p.2 j]at e;rw[E8];simp only[v,ne_eq,nL,Sc,Ym,q,r,e,YJ,MM,SW,VZ,Y5];exact T w
   ·rw[U];refine⟨λh=>Prod.ext j h,by intro h;rw[h]⟩
  ·refine⟨false,λw=>?_,?_⟩
   ·obtain⟨o,e,p⟩:=s k u m _ _ _ _ w G J;have E:o=false:=by cases o with|true=>exact absurd (p.1 rfl) j|false=>rfl
    rw[E]at e;rw[E8];simp only[v,ne_eq,nL,Sc,Ym,q,r,e,YJ,ML,Y5,SW,VZ]
   ·constructor;·intro h;cases h
    ·exactλh=>absurd (by rw[h]) j
theorem Zjr{P}{T n:Nat}{fs}{R:ZM α}(h:P.underlying T=some (.struct fs))(hs:P.stoodInHeld T=false)(o:R.ag=true)(m:GC P fs.toList 0 R n):Px P T R (n+1):=by intro k e v t u w x r f i;match k,e with|k+1,e=>have⟨b,p,q⟩:=m.run (k:=k) Y (by simpa using R.len f) (by simpa using R.len i) f i rfl rfl;refine⟨b,?_,q⟩;simp[Op.equalIn,Ym,WB h,YJ,U6,o,nQ,hs,SW,VZ];have:=p r;refine Eq.trans ?_ (Eq.trans (X7 (λa=>Result.andThen a λj s=>Sem.run P (match j.fst with|some a=>pure a|none=>pure true) s) this) (by cases b<;>rfl));grind
def za(P:Program)(T:TypeId):Bool:=!P.eqGuardType P.depth T
theorem Zmz{T yt}{x y}{R}{p q:α}[DecidableEq α]{n}(o:Px c.P T R n)(s:n<=10000)(b:R.ag=true)(r:za c.P T=true)(hx:Yo Γ x (R.slot p))(w:Yo Γ y (R.slot q)):PJ c ⟨od,.binOp .eql T x y yt,ty,pos,aft,g⟩ Γ H (bl.slot (decide (p=q))):=V5 hx w λz B v a f h=>by
  simp[ZM.slot,ZM.is,b]at f h;obtain⟨j,rfl,t⟩:=f;obtain⟨k,rfl,u⟩:=h;have⟨i,e,A⟩:=o _ s z _ _ p q a t u;simp[U6,b]at e;refine⟨.bool i,?_,Rg Zm⟩;have m:(eqGuard .eql T x y (.agg j.toArray) (.agg k.toArray)).run c.P a=.ok () a:=by simp[eqGuard,MM,SW,VZ,Ym,nQ,YJ,by simpa[za]using r,ML,Sc,Y5]
  rw[Ym,m];simp[binOp,Op.equal,Op.maxDepth,Ym,e,YJ,Y5]
theorem ZmM{T yt}{x y}{R}{p q:α}[DecidableEq α]{n}(o:Px c.P T R n)(s:n<=10000)(b:R.ag=true)(r:za c.P T=true)(hx:Yo Γ x (R.slot p))(w:Yo Γ y (R.slot q)):PJ c ⟨od,.binOp .neq T x y yt,ty,pos,aft,g⟩ Γ H (bl.slot !decide (p=q)):=V5 hx w λz B v a f h=>by
  simp[ZM.slot,ZM.is,b]at f h;obtain⟨j,rfl,t⟩:=f;obtain⟨k,rfl,u⟩:=h;have⟨i,e,A⟩:=o _ s z _ _ p q a t u;simp[U6,b]at e;refine⟨.bool !i,?_,Rg Zm⟩;have m:(eqGuard .neq T x y (.agg j.toArray) (.agg k.toArray)).run c.P a=.ok () a:=by simp[eqGuard,MM,SW,VZ,Ym,nQ,YJ,by simpa[za]using r,ML,Sc,Y5]
  rw[Ym,m];simp[binOp,Op.equal,Op.maxDepth,Ym,e,YJ,Y5]
theorem Zfd{P}{T E}(h:P.underlying T=some (.pointer E))(a)(w):(binOp .eql T (.pointer a) (.pointer none)).run P w=.ok (.bool a.isNone) w/\(binOp .neq T (.pointer a) (.pointer none)).run P w=.ok (.bool !a.isNone) w:=by
 have e:∀b,(Op.equalIn (b+1) T (.pointer a) (.pointer none)).run P w=.ok a.isNone w:=by intro b;cases a with|none=>simp[Op.equalIn,Ym,WB h,YJ,Y5]|some a=>simp only[Op.equalIn,Ym,WB h,YJ,Y5];rfl
 constructor<;>(simp[binOp,Op.equal,Op.maxDepth,Ym,e 9999,YJ,Y5])
end
section
variable{α β:Type}
theorem Px.mono{P}{T}{R:ZM α}{n n'}(c:n<=n')(h:Px P T R n):Px P T R n':=λa b=>h a Zm
variable{c:XK}{Z:Array Oper}{l:List Oper}{Γ Γ':Yr}{H H':List Yl}{K:Act->World->Prop}{d:Tmp}{od:Option Tmp}{ty:TypeId}{pos:String}{aft:Array Edge}{g:Option (Nat×Bool)}
theorem Zkg:Yo Γ (.const (.slice none 0 0)) (ov (.slice none 0 0)):=λ_ _ _=>j7
theorem sh(h1:NY Γ Γ')(h2:QX H H')(k:Wh c Z l Γ' H' K):Wh c Z l Γ H K:=ZkJ h1 (ZkF h2 k)
theorem sc{T}(R:ZM α)(a:Nat.blt d c.N=true)(k:∀v,Wh c Z l ((d,ov v)::Γ) (own T R v []::H) K):Wh c Z (⟨some d,.assign (.const (.slice none 0 0)),ty,pos,aft,none⟩::l) Γ H K:=ZkH T R _ (Yz (Qe Zkg) rfl rfl a (k _))
theorem sf{T f}{x y}{b off}{R}{a}{r r':α}{z:β}{i}{h}(hx:Yo Γ x (val (.pointer (some ⟨b,off,none⟩))))(o:Yo Γ y (a.slot z))(m:Uz H (box b f R r) H')(n:W5 R off a i h)(j:QL c.P T a.n=true)(e:h r z=r')(k:Wh c Z l Γ (box b f R r'::H') K):Wh c Z (⟨none,.store T x y,ty,pos,aft,none⟩::l) Γ H K:=ZkI hx o m n j (e▸k)
theorem ZmO{T n sz b lo:Nat}{x}{j i}{p q}(hx:Yo Γ x (val (.pointer (some ⟨b,0,none⟩))))(u:Ou Γ j p)(t:Ou Γ i q)(len cap:Nat)(h:(decide (0<=p.getD 0)&&decide (p.getD 0<=q.getD n)&&decide (q.getD n<=n)&&decide (p.getD 0<n)&&Nat.beq (p.getD 0).toNat lo&&Nat.beq ((q.getD n).toNat-lo) len&&Nat.beq (n-lo) cap)=true)(s:Qz c.P T n sz=true):PJ c ⟨od,.slice T x j i none,ty,pos,aft,g⟩ Γ H (val (.slice (some ⟨b,lo*sz,none⟩) len cap)):=by simp only[Yv,BN]at h;have⟨⟨⟨⟨⟨⟨k,m⟩,o⟩,r⟩,a⟩,e⟩,f⟩:=h;have a:=Xu a;have e:=Xu e;have f:=Xu f;have:=ZmN (H:=H) (d:=od) (ty:=ty) (pos:=pos) (aft:=aft) (g:=g) hx u t k m o r s;grind
end
section
variable{c:XK}{Γ Γ':Yr}{H H':List Yl}{Q:Exit->Act->World->Prop}{k k':List Code}{id id':Nat}{n:Act->World->Prop}
theorem Bd(h1:NY Γ Γ')(h2:QX H H')(r:Xy c Q k Γ' H'):Xy c Q k Γ H:=ZrA h1 (Ze9 h2 r)
theorem Ez(h:Xy c Q k Γ H):Xy c (BQ id (Gr c.ro c.P Q k) Q) [] Γ H:=Qg λa d b=>h a d b
section
variable{σ ρ ι:Type}{Γi:ι->σ->Yr}{Hi:ι->σ->List Yl}{R:ρ->Act->World->Prop}
theorem Zfc{s}(i)(h1:NY Γ (Γi i s))(h2:QX H (Hi i s)):Xy c (LQ id (λs a w=>∃i,St c (Γi i s) (Hi i s) a w) R (.next s)) [] Γ H:=Qg λa w b=>⟨rfl,i,(b.sub h1).Ry h2⟩
theorem Ze2{s}(i)(h1:NY Γ (Γi i s))(h2:QX H (Hi i s)):Xy c (LQ id (λs a w=>∃i,St c (Γi i s) (Hi i s) a w) R (.brk s)) (.exit id::k) Γ H:=Zrs λa w b=>⟨rfl,i,(b.sub h1).Ry h2⟩
theorem Zfb{f}{m}{e}{b d}(j:Ll f m b=some d)(g)(h:∀a w,St c Γ H a w->St c (Γi g b) (Hi g b) a w)(o:∀i s r,f s=some r->Xy c (LQ id (λs a w=>∃i,St c (Γi i s) (Hi i s) a w) (λ_ _ _=>True) r) [e] (Γi i s) (Hi i s))(h1:∀i,Xy c Q k (Γi i d) (Hi i d)):Xy c Q (.block id (.loop e)::k) Γ H:=by have⟨t,l,q⟩:=ZbE j;refine Zrw l _ h o ?_ λp=>p.elim;grind
end
end
def RX(m:YD)(hs:Hp):Prop:=∀a∈hs,At m a.1 0 a.2.2
def sL(E:List Yl)(s:Xi):Xi where p:=λh v=>∀a b,XI h a->ZH E a b->RX a b->s.p a v;mono:=λg c a b d e f=>c a b (g.trans d) e f
section
variable{α β:Type}{c:XK}{Γ:Yr}{H H':List Yl}{E E':List Yl}{od:Option Tmp}{ty:TypeId}{pos:String}{aft:Array Edge}{g:Option (Nat×Bool)}
def ZqU:ZM Value where
 n:=1;ag:=false;rel:=λ_ d v=>d=[v]/\v.oneCell'=true;mono:=λ_ a=>a;len:=λa=>by rw[a.1];rfl
 one:=λ_=>rfl;cell:=λa v b=>by rw[a.1]at b;simp at b;subst b;exact a.2
inductive BV(Γ:Yr)(E:List Yl)(R:ZM α):Nat->List (Nat×Operand)->List α->Prop|nil{k:Nat}:BV Γ E R k [] []|cons{k:Nat}{y:Operand}{z:α}{ps:List (Nat×Operand)}{zs:List α}:Yo Γ y (sL E (R.slot z))->BV Γ E R (k+1) ps zs->BV Γ E R k ((k,y)::ps) (z::zs)
def exact(a:Act):List (Nat×Operand)->Yr|[]=>[]|(_,.tmp t)::ps=>(t,val (a.tmps.getD t undef))::exact a ps|_::ps=>exact a ps
theorem ZaB{a}{t:Nat}:∀{ps}{i},(i,Operand.tmp t)∈ps->lk (exact a ps) t=some (val (a.tmps.getD t undef))
 |(j,x)::ps,i,h=>by
  rcases XB h with e|h;·cases e;simp[exact,PW]
  ·have d:=ZaB (a:=a) h;cases x with|tmp f=>
    by_cases b:f=t;·subst b;simp[exact,PW]
    ·simp only[exact];rw[PU b];exact d|_=>exact d
theorem BV.raw{R:ZM α}(t:R.ag=false){k}{ps}{f}(h:BV Γ E R k ps f){a}{m e}{hs}(B:XI m e)(r:ZH E e hs)(s:RX e hs)(i)(u:∀p∈ps,p∈i)(C:∀p∈ps,Rv Γ m a p.2):NO (exact a i) ZqU k ps (ps.map λp=>a.eval p.2)/\∀b d,XI m b->ZH E b d->RX b d->YT R b (ps.map λp=>a.eval p.2) f:=by induction h with|nil=>exact⟨.nil,λ_ _ _ _ _=>rfl⟩|@cons k y z ps f hy _ F=>
  have⟨q,I⟩:=F Zm Zm;have l:=C (k,y) Zb;have j:∀{b:YD}{v:Value},(R.slot z).p b v->R.rel b [v] z:=by intro b v hv;simpa[ZM.slot,ZM.is,t]using hv
  refine⟨.cons (λb n D=>?_) q,λb d A w x=>⟨[a.eval y],_,rfl,j (hy m a l b d A w x),Zm⟩⟩;have o:n.eval y=a.eval y:=by cases y with|tmp G=>exact D _ (ZaB (u (k,.tmp G) Zb))|_=>rfl
  rw[o];exact⟨rfl,R.cell (j (hy m a l e hs B r s)) (a.eval y) Zb⟩
theorem Zsb{x}{T b n cap:Nat}{R:ZM α}{v}(hx:Yo Γ x (val (.slice (some ⟨b,0*R.n,none⟩) n cap)))(a:Uz H (box b T (vec n R) v) H'):Src c Γ H x R v.toList:=by have:=Zsa (c:=c) hx a Zb;rwa[VT Zb]at this
theorem ZjW{s}:∀t∈[],NR Γ t s:=λt a=>Zm
theorem ZjV{s}{t}{a}(h:NR Γ t s)(k:∀t∈a,NR Γ t s):∀u∈t::a,NR Γ u s:=λu b=>(XB b).elim Zm (k u)
theorem Zrn{Q}{k}{x}{A B}{b}(hx:Yo Γ x (bl.slot b))(a:b=false)(h:Xy c Q (B::k) Γ H):Xy c Q (.cond x A B::k) Γ H:=Bb hx Zm λ_=>h
end
def WJ(c:XK)(o:Oper)(Γ:Yr)(H:List Yl){j:Type}(k:j->Yr)(H2:j->List Yl):Prop:=∀a e b g,Good a e g->c.G.p a->ZH H a e->Am o Γ a b->b.tmps.size=c.N->TE c.P (λv i=>∃h d f,Good d f i/\Uq (k h) d (b.put o.dst v)/\ZH (H2 h) d f/\ZG g i a d e.bs f.bs) ((execOp b.eval o).run c.P g)
theorem WJ.frame{c}{o}{Γ}{H}{K}{n:K->Yr}{H2}(E)(h:WJ c o Γ H n H2):WJ c o Γ (H++E) n λi=>H2 i++E:=by
 intro I hs s r g x F B A;obtain⟨u,e,rfl,C,D⟩:=ZH.split F;refine TE.mono (h I u s r (Good.sub (hs:=e) (g.perm XJ)) x C B A)<|λv M⟨i,J,w,j,z,G,f⟩=>?_;have m:=g.nodup;rw[Hp.XL,TM]at m;have k:=λd a y=>m.2.2 d y d a rfl;have l:∀d∈Hp.bs e,d<r.heap.size:=λd a=>g.QF (by rw[Hp.XL];exact Yd (.inr a));refine⟨i,J,w++e,⟨j.mem,?_,?_,?_⟩,z,ZH.append G (D.mono f.le),by rw[Hp.XL,Hp.XL];exact f.wide _⟩
 ·rw[Hp.XL,TM];refine⟨j.nodup,m.2.1,λd a L p t=>?_⟩;subst t;rcases f.own d a with h|h;·exact k d p h
  ·have:=l d p;omega
 ·intro b hx;rcases Z1 hx with hx|hx;·exact j.YY b hx
  ·have a:b.1∈Hp.bs e:=Pt ⟨b,hx,rfl⟩;rw[(f.Wa b.1 (l _ a) (k _ a)).1];exact g.YY b (Yd (.inr hx))
 ·intro b hx q;rcases Z1 hx with hx|hx;·exact j.free b hx q
  ·have a:b.1∈Hp.bs e:=Pt ⟨b,hx,rfl⟩;rw[(f.Wa b.1 (l _ a) (k _ a)).2];exact g.free b (Yd (.inr hx)) q
structure Sf where
 ν:Type
 E:ν->List Yl
 V:ν->Yr
def Sf.of(E:List Yl):Sf:=⟨Unit,λ_=>E,λ_=>[]⟩
structure Qv where
 OI:List Yl
 st:List (Nat×Sf)
def Rw(X:Nat->Bool)(s:Sf):List (Nat×Sf)->Sf|[]=>s|(k,s')::r=>bif X k then Rw X s' r else s
def Qv.at(X:Nat->Bool)(a:Qv):Sf:=Rw X (.of a.OI) a.st
def Oq(c:Sf->List Yl->Prop)(X:Nat->Bool):List Qv->List (List Yl)->Prop|[],Es=>Es=[]|L::Ls,Es=>∃a b,Es=a::b/\c (L.at X) a/\Oq c X Ls b
theorem Oq.imp{a ok'}{X X'}:∀{Ls}{Es},(∀L∈Ls,∀E,a (L.at X) E->ok' (L.at X') E)->Oq a X Ls Es->Oq ok' X' Ls Es|[],_,_,h=>h|L::Ls,Es,h1,⟨E,b,e,h2,h⟩=>⟨E,b,e,Zm,Oq.imp Zm h⟩
theorem Oq.pick{k}{X}:∀{Ls}{Es}{p:Nat}{d},Oq k X Ls Es->Ls[p]?=some d->∃E R,Es.flatten.Perm (E++R)/\k (d.at X) E/\∀{ok'}{X'}(b),(∀q a,q≠p->Ls[q]?=some a->∀E,k (a.at X) E->ok' (a.at X') E)->ok' (d.at X') b->∃c,c.flatten.Perm (b++R)/\Oq ok' X' Ls c|[],_,p,d,_,f=>by simp at f|r::Ls,Es,p,d,⟨E,c,e,m,h⟩,f=>by subst e;cases p with|zero=>simp at f;subst f;refine⟨E,c.flatten,by rw[LC],m,?_⟩;intro ok' X' b g i;refine⟨b::c,by rw[LC],_,_,rfl,i,(h.imp λa j=>?_)⟩;obtain⟨q,n⟩:=List.getElem?_of_mem j;exact g (q+1) a Y (by simpa using n)|succ p=>
   obtain⟨o,R,w,s,t⟩:=Oq.pick h (by simpa using f);refine⟨o,E++R,?_,s,?_⟩;·refine(VA E w).trans ?_;rw[<-Z5,<-Z5];exact Ji R XJ
   ·intro ok' X' b g i;obtain⟨l,v,u⟩:=t b (λq a n j=>g (q+1) a Y (by simpa using j)) i;refine⟨E::l,(VA E v).trans ?_,E,l,rfl,g 0 r Y Zb E m,u⟩;rw[<-Z5,<-Z5];exact Ji R XJ
theorem ZH.perm{m}{H H'}(p:H.Perm H'):∀{hs},ZH H m hs->∃g,hs.Perm g/\ZH H' m g:=by induction p with|nil=>intro hs c;exact⟨hs,Zb,c⟩|cons t _ j=>rintro hs⟨a,b,rfl,p,e⟩;have⟨f,h,i⟩:=j e;exact⟨a++f,VA _ h,a,f,rfl,p,i⟩|swap t v u=>rintro hs⟨a,_,rfl,p,b,d,rfl,e,s⟩;refine⟨b++(a++d),?_,b,a++d,rfl,e,a,d,rfl,p,s⟩;rw[<-Z5,<-Z5];exact Ji _ XJ|trans _ _ k l=>intro hs c;have⟨a,n,q⟩:=k c;have⟨b,o,r⟩:=l q;exact⟨b,n.trans o,r⟩
inductive IM:Sf->List (Nat×Sf)->Nat->Sf->Sf->Prop|here{s s':Sf}{k:Nat}{r:List (Nat×Sf)}:IM s ((k,s')::r) k s s'|next{s s1 t t':Sf}{k k1:Nat}{r:List (Nat×Sf)}:IM s1 r k t t'->IM s ((k1,s1)::r) k t t'
def I0(a:List Oper):List Nat->Bool|[]=>true|[_]=>true|k::k'::r=>(match a[k']?with|some b=>(Vv b).any (Nat.beq k)|none=>false)&&Nat.blt k k'&&I0 a (k'::r)
def bj(a:List Oper)(o:Oper)(Γ:Yr):Prop:=o.guard=none\/Ag a o Γ true
inductive RL(c:XK)(full:List Oper)(H:List Yl)(Ls:List Qv):Nat->List Oper->Yr->List Xi->Prop|nil{k:Nat}{Γ:Yr}:RL c full H Ls k [] Γ []|read{k:Nat}{o:Oper}{os:List Oper}{Γ:Yr}{s:Xi}{σ:List Xi}:(Ls.all λL=>L.st.all λx=>!Nat.beq x.1 k)=true->M0 c full H o Γ s->RL c full H Ls (k+1) os (push o.dst s Γ) σ->RL c full H Ls k (o::os) Γ (s::σ)|pre(p:Nat){L:Qv}{k k1:Nat}{s1:Sf}{r:List (Nat×Sf)}{o o1:Oper}{os:List Oper}{Γ:Yr}{s:Xi}{σ:List Xi}:(Ls.all λL=>L.st.all λx=>!Nat.beq x.1 k)=true->Ls[p]?=some L->L.st=(k1,s1)::r->full[k1]?=some o1->(Vv o1).any (Nat.beq k)=true->M0 c full (L.OI++H) o Γ s->RL c full H Ls (k+1) os (push o.dst s Γ) σ->RL c full H Ls k (o::os) Γ (s::σ)|step(p:Nat){L:Qv}{k:Nat}{t t':Sf}{o:Oper}{os:List Oper}{Γ:Yr}{s:Xi}{σ:List Xi}:Ls[p]?=some L->IM (.of L.OI) L.st k t t'->bj full o Γ->(∀ν:t.ν,∃(ι:Type)(V2:ι->Yr)(up:ι->t'.ν),WJ c o (t.V ν++Γ) (t.E ν++H) V2 (λi=>t'.E (up i)++H)/\(∀i,t'.V (up i)=V2 i++t.V ν)/\(∀i m a,Uq (V2 i) m a->∀d,o.dst=some d->s.p m (a.tmps.getD d undef))/\∀i d s',lk (V2 i) d=some s'->o.dst=some d)->RL c full H Ls (k+1) os (push o.dst s Γ) σ->RL c full H Ls k (o::os) Γ (s::σ)
theorem zO(A B)(t):lk (A++B) t=(lk A t).or (lk B t):=by induction A with|nil=>rfl|cons c A b=>
  have⟨d,e⟩:=c;by_cases a:d=t;·subst a;rw[MN,PW,PW];rfl
  ·rw[MN,PU a,PU a,b]
theorem RL.at{c}{g}{H}{Ls}{k}{l}{Γ}{σ}(h:RL c g H Ls k l Γ σ):∀i o,l[i]?=some o->∃s Γi,σ[i]?=some s/\(∀t,lk Γi t=UA l σ Γ (λ_=>true) i t)/\((Ls.all λb=>b.st.all λx=>!Nat.beq x.1 (k+i))=true/\(M0 c g H o Γi s\/∃(p:Nat)(b:Qv)(w:Nat)(D:Sf)(r:List (Nat×Sf))(y:Oper),Ls[p]?=some b/\b.st=(w,D)::r/\g[w]?=some y/\(Vv y).any (Nat.beq (k+i))=true/\M0 c g (b.OI++H) o Γi s)\/∃(p:Nat)(b:Qv)(t f:Sf),Ls[p]?=some b/\IM (.of b.OI) b.st (k+i) t f/\bj g o Γi/\∀ν,∃(F:Type)(v:F->Yr)(E:F->f.ν),WJ c o (t.V ν++Γi) (t.E ν++H) v (λi=>f.E (E i)++H)/\(∀i,f.V (E i)=v i++t.V ν)/\(∀i m a,Uq (v i) m a->∀d,o.dst=some d->s.p m (a.tmps.getD d undef))/\∀i d s',lk (v i) d=some s'->o.dst=some d):=by induction h with
 |nil=>intro i o h;simp at h|@read k o os Γ s σ z h1 h2 u=>intro i p e;cases i with|zero=>simp only[LD,Di]at e;subst e;exact⟨s,Γ,rfl,λt=>rfl,.inl ⟨z,.inl h1⟩⟩|succ i=>obtain⟨s',Γi,q,n,j⟩:=u i p (by simpa using e);refine⟨s',Γi,by simpa using q,λt=>by rw[n t,Fk],?_⟩;rw[show k+(i+1)=k+1+i by omega];exact j
 |@pre p b k w D r o y os Γ s σ z A B I G h1 h2 u=>intro i C e;cases i with|zero=>simp only[LD,Di]at e;subst e;exact⟨s,Γ,rfl,λt=>rfl,.inl ⟨z,.inr ⟨p,b,w,D,r,y,A,B,I,G,h1⟩⟩⟩|succ i=>obtain⟨s',Γi,q,n,j⟩:=u i C (by simpa using e);refine⟨s',Γi,by simpa using q,λt=>by rw[n t,Fk],?_⟩;rw[show k+(i+1)=k+1+i by omega];exact j
 |@step p b k t f o os Γ s σ A B hg J h2 u=>intro i C e;cases i with|zero=>simp only[LD,Di]at e;subst e;exact⟨s,Γ,rfl,λt=>rfl,.inr ⟨p,b,t,f,A,B,hg,J⟩⟩|succ i=>obtain⟨s',Γi,q,n,j⟩:=u i C (by simpa using e);refine⟨s',Γi,by simpa using q,λt=>by rw[n t,Fk],?_⟩;rw[show k+(i+1)=k+1+i by omega];exact j
theorem RL.len{c}{b}{H}{Ls}{k}{l}{Γ}{σ}(h:RL c b H Ls k l Γ σ):l.length=σ.length:=by induction h with|nil=>rfl|read _ _ _ a=>grind|pre _ _ _ _ _ _ _ _ a=>simp[a]|step _ _ _ _ _ _ a=>simp[a]
def Aj(l:List Oper)(X:Nat->Bool)(V:Yr):Prop:=∀c d,lk V c=some d->∃a b,l[a]?=some b/\X a=true/\b.dst=some c
def II(l:List Oper)(X:Nat->Bool)(m:YD)(a:Act)(b:Sf)(E:List Yl):Prop:=∃c,E=b.E c/\Uq (b.V c) m a/\Aj l X (b.V c)
section
variable{c:XK}{Γ:Yr}{H:List Yl}{a:Act}{w:World}{Q:Exit->Act->World->Prop}{l rest:List Oper}{σ:List Xi}{Ls:List Qv}{X:Nat->Bool}
def mB(c:XK)(l:List Oper)(σ:List Xi)(Ls:List Qv)(Γ:Yr)(H:List Yl)(X:Nat->Bool)(a:Act)(w:World):Prop:=MX c a.defers w/\a.tmps.size=c.N/\∃b d,Good b d w/\c.G.p b/\(∀g f,UA l σ Γ X l.length g=some f->f.p b (a.tmps.getD g undef))/\ZG c.w0 w c.m0 b c.b0 d.bs/\∃e,ZH (e.flatten++H) b d/\Oq (II l X b a) X Ls e
theorem mW{X}{i}:∀(b)(s),(b.all λx=>!Nat.beq x.1 i)=true->Rw (XV X i) s b=Rw X s b
 |[],_,_=>rfl|(k,s')::r,s,h=>by
  simp only[E6,Yv,Jg,beq_eq_false_iff_ne]at h;have d:k≠i:=by intro e;simp_all
  simp[Rw,XV,Yg d];rw[mW r _ h.2]
theorem IM.mem{s}{b}{k}{t d}(h:IM s b k t d):∃x∈b,x.1=k:=by induction h with|here=>exact⟨_,XP,rfl⟩|next _ e=>grind
theorem Zix{g}{X}{i}{o}(K:∀j p,g[j]?=some p->X j=true->∀e∈Vv p,X e=true)(hi:g[i]?=some o)(u:X i=false)(L:∀j∈Vv o,X j=true){s}{r}{t A}(h:IM s r i t A)(m:I0 g (r.map (·.1))=true):(∀x,r.head?=some x->X x.1=true\/x.1=i)/\Rw X s r=t/\Rw (XV X i) s r=A:=by
 induction h with|@here s s' k d=>
  refine⟨λx q=>.inr (by simp at q;rw[<-q]),by simp[Rw,u],?_⟩;have:Rw (XV X k) s' d=s':=by cases d with|nil=>rfl|cons f d=>
    simp only[XF,I0,Yv]at m;obtain⟨⟨b,B⟩,_⟩:=m;have M:k<f.1:=by simpa[Uk]using B
    cases hy:g[f.1]?with|none=>rw[hy]at b;cases b|some p=>
     rw[hy]at b;have E:k∈Vv p:=by simp only[ng]at b;obtain⟨J,y,e⟩:=b;rw[Xu e];exact y
     have C:X f.1=false:=by grind
     have v:f.1≠k:=Y;simp only[Rw,XV,Yg v,C,TO]
  simp only[Rw,XV,Sc,TP];exact this|@next s O t A k z d h F=>
  have D:I0 g (d.map (·.1))=true:=by cases d with|nil=>rfl|cons f d=>simp only[XF,I0,Yv]at m;exact m.2
  obtain⟨N,G,I⟩:=F hi u D;have n:X z=true:=by cases d with|nil=>cases h|cons f d=>simp only[XF,I0,Yv]at m;obtain⟨⟨b,B⟩,_⟩:=m;cases hy:g[f.1]?with|none=>rw[hy]at b;cases b|some p=>
     rw[hy]at b;have E:z∈Vv p:=by simp only[ng]at b;obtain⟨J,y,e⟩:=b;rw[Xu e];exact y
     grind
  have v:z≠k:=λe=>by rw[e,u]at n;cases n
  refine⟨λx q=>.inl (by simp at q;rw[<-q];exact n),by simp only[Rw,n,TP];exact G,?_⟩;simp only[Rw,XV,Yg v,n,TP];exact I
def uS:List Qv->Bool|[]=>true|L::r=>(r.all λb=>b.st.all λe=>L.st.all λd=>!Nat.beq d.1 e.1)&&uS r
theorem Zag:∀{Ls}{p q:Nat}{b d},uS Ls=true->Ls[p]?=some b->Ls[q]?=some d->p≠q->∀x∈b.st,∀y∈d.st,x.1≠y.1|[],p,q,b,d,_,e,_,_=>by simp at e|k::r,p,q,b,d,h,e,g,m=>by simp only[uS,Yv,RK,Jg]at h;cases p with
  |zero=>simp at e;subst e;cases q with|zero=>omega|succ q=>intro x i y j f;have:=h.1 d Zm y j x i;rw[f]at this;simp at this
  |succ p=>cases q with|zero=>simp at g;subst g;intro x i y j f;have:=h.1 b Zm x i y j;rw[f]at this;simp at this|succ q=>exact Zag h.2 (by simpa using e) (by simpa using g) Y
def Cv(l:List Oper)(Ls:List Qv):Bool:=(Ls.all λb=>I0 l (b.st.map (·.1))&&b.st.all λd=>Nat.blt d.1 l.length)&&uS Ls
theorem Aj.mono{X X'}{V}(h:∀k,X k=true->X' k=true)(g:Aj l X V):Aj l X' V:=λm j b=>by have⟨k,i,d,e,f⟩:=g m j b;exact⟨k,i,d,h _ e,f⟩
theorem Zk1{i}{o}{K}(hB:Pa (l++rest) l.length=true)(hN:JL c.N l=true)(hU:JJ l=true)(hL:Cv l Ls=true)(hR:RL c (l++rest) H Ls 0 l Γ σ)(hi:l[i]?=some o)(N:X i=false)(he:∀j∈Vv o,X j=true)(xv:∀j p,l[j]?=some p->X j=true->∀e∈Vv p,X e=true)(hD:mB c l σ Ls Γ H X a w)(hK:∀a' w',mB c l σ Ls Γ H (XV X i) a' w'->K a' w'):wpOpIn (XX c.ro) 0 c.P (l++rest).toArray Q i K a w:=by
 have x6:i<l.length:=(Wm hi).1;have y3:∀{j p},l[j]?=some p->(l++rest)[j]?=some p:=λ{j p}h=>by rw[Uy (Wm h).1];exact h
 have y2:=y3 hi;have b8:(l++rest).toArray[i]?=some o:=by simpa using y2
 obtain⟨x9,W,hs,b5,b2⟩:=hR.at i o hi;obtain⟨x4,R,q,yt,O,M,x3,x5,z,x2,y8⟩:=hD;have z4:∀b∈names (l++rest) o,∀j p,i<j->l[j]?=some p->p.dst=some b->X j=false:=by intro b F j p b4 n k;cases ad:X j with|false=>rfl|true=>have:=(D0 hB y2 (y3 n) Y k F).2 b4;have:=xv j p n ad i this;rw[N]at this;cases this
 have y7:∀b∈names (l++rest) o,UA l σ Γ X l.length b=lk W b:=by
  intro b F;rw[b5 b,DU l.length (by omega:i<=l.length),aS i];·exactλj p C n k=>he j ((D0 hB y2 (y3 n) Y k F).1 C)
  ·intro j p h1 h2 n k;by_cases P:j=i;·subst P;exact N
   ·exact z4 b F j p Y n k
 have a3:∀(A:Yr),Uq A q a->Am o (A++W) q a:=by intro A B y hx;cases y with
  |tmp b=>
   intro r e;have F:b∈names (l++rest) o:=by simp only[names,TL];refine .inl (.inr ?_);simp only[pZ,dS];exact⟨.tmp b,by simpa using hx,rfl⟩
   rw[zO]at e;cases d:lk A b with|some V=>rw[d]at e;cases e;exact B b _ d|none=>rw[d]at e;exact x3 b r (by rw[y7 b F];exact e)
  |_=>trivial
 have z5:∀u,o.dst=some u->u<a.tmps.size:=by intro u k;simp only[JL,RK]at hN;have:=hN o (X6 hi);rw[k]at this;rw[R];simpa[Uk]using this
 have x7:∀{m:YD}{v:Value},XI q m->(∀u,o.dst=some u->x9.p m v)->∀b r,UA l σ Γ (XV X i) l.length b=some r->r.p m ((a.put o.dst v).tmps.getD b undef):=by
  intro m v x0 d b r e;by_cases k:o.dst=some b
  ·have F:b∈names (l++rest) o:=by simp[names,k]
   rw[DU l.length (by omega:i+1<=l.length)]at e;·rw[UA]at e;simp only[hi,hs,XV,Sc,k,nJ,Bool.and_self]at e;cases e;rw[k,P6 (z5 b k)];exact d b k
   ·intro j p h1 h2 n y1;have P:j≠i:=Y;simp only[XV,Yg P];exact z4 b F j p Y n y1
  ·have e':UA l σ Γ X l.length b=some r:=by
    rw[<-e];refine uG l.length λj p C n y1=>?_;by_cases P:j=i;·subst P;rw[hi]at n;cases n;exact absurd y1 k
    ·simp[XV,P]
   have f:(a.put o.dst v).tmps.getD b undef=a.tmps.getD b undef:=by cases y0:o.dst with|none=>rfl|some u=>exact Nv λe=>k (by rw[y0,e])
   rw[f];exact r.mono x0 (x3 b r e')
 have xs:∀x8,X x8=true->XV X i x8=true:=λx8 D=>by simp only[XV];split<;>simp[D]
 have y6:∀{A:Yr}{m:YD}{v:Value},XI q m->Uq A q a->Aj l X A->Uq A m (a.put o.dst v):=by
  intro A m v x0 B D b r e;have yf:o.dst≠some b:=by intro k;obtain⟨x8,p,h1,h2,h3⟩:=D b r e;have:=Zah hU hi h1 k h3;rw[this,h2]at N;cases N
  have f:(a.put o.dst v).tmps.getD b undef=a.tmps.getD b undef:=by cases y0:o.dst with|none=>rfl|some u=>exact Nv λe=>yf (by rw[y0,e])
  rw[f];exact r.mono x0 (B b r e)
 unfold wpOpIn;rw[b8];simp only[];have z3:∀g∈Ls,I0 l (g.st.map (·.1))=true/\∀y∈g.st,y.1<l.length:=by intro g Z;simp only[Cv,Yv,RK]at hL;have:=hL.1 g Z;exact⟨this.1,λy hx=>by simpa[Uk]using this.2 y hx⟩
 have y5:∀{yes:Bool},Ag (l++rest) o W yes->Region.wanted o (yielded (l++rest).toArray a.tmps)=yes:=by
  rintro yes⟨j,a7,z2,b,r,f,C,hl,hb,hy⟩;have d:=hb q _ (x3 b r (by rw[y7 b (by simp[names,Ce,f,C])];exact hl));have a1:b<a.tmps.size:=by
   rcases Ru b a.tmps.size with h|h;·exact h
   ·have:a.tmps.getD b undef=undef:=by simp[Array.getD,Nat.not_lt.2 h]
    rw[this]at d;cases d
  have yy:yielded (l++rest).toArray a.tmps j=some z2:=by simp only[yielded,NL,C,BJ,wn a1];simp only[Array.getD,a1,Dj]at d;simp only[wq]at d;rw[d]
  simp only[Region.wanted,f,yy];rw[<-hy];cases z2<;>cases a7<;>rfl
 rcases b2 with⟨yl,x⟩|⟨p,g,b,t',n,U,f,bo⟩
 ·rw[TN]at yl;have ag:∀g∈Ls,g.at (XV X i)=g.at X:=λg Z=>mW _ _ (by rw[RK]at yl;exact yl g Z);have y9:∀{m:YD}{v:Value},XI q m->Oq (II l (XV X i) m (a.put o.dst v)) (XV X i) Ls z:=by intro m v x0;refine y8.imp λg Z E⟨ν,e,B,D⟩=>?_;rw[ag g Z];exact⟨ν,e,y6 x0 B D,D.mono xs⟩
  have a5:∀{H0:List Yl},(∃t,(z.flatten++H).Perm (H0++t))->PJ c o W H0 x9->o.wpIn (XX c.ro) 0 c.P a w K Q:=by rintro H0⟨t,T⟩x1;obtain⟨yv,S,yx⟩:=ZH.perm (T.trans XJ) x2;refine TE.wp ((x1.frame t) q yv a w (O.perm S) M yx (a3 [] λb x9 e=>by cases e)) ?_;refineλv w'⟨m,y4,d,s⟩=>hK _ _ ⟨by rw[Nu];exact x4.step O (s.Cr _),by rw[Rc];exact R,m,yt,y4.perm S.symm,c.G.mono s.le M,x7 s.le λ_ _=>d,x5.trans (s.Cr _),z,x2.Kj s,y9 s.le⟩
  have bs:me (l++rest) o W->Region.wanted o (yielded (l++rest).toArray a.tmps)=false:=by
   rintro⟨j,a7,b,f,C,hl⟩;have d:a.tmps.getD b undef=undef:=x3 b _ (by rw[y7 b (by simp[names,Ce,f,C])];exact hl);have yy:yielded (l++rest).toArray a.tmps j=none:=by
    simp only[yielded,NL,C,BJ];by_cases x6:b<a.tmps.size;·simp only[wn x6];simp only[Array.getD,x6,Dj]at d;simp only[wq]at d;rw[d];rfl
    ·simp[Zgh (Nat.not_lt.1 x6)]
   simp only[Region.wanted,f,yy];rfl
  have zs:∀{H0:List Yl},(∃t,(z.flatten++H).Perm (H0++t))->M0 c (l++rest) H0 o W x9->if Region.wanted o (yielded (l++rest).toArray a.tmps)=true then o.wpIn (XX c.ro) 0 c.P a w K Q else(∀L,o.about c.P w a.eval=some L->(XX c.ro).fn L)/\K (a.put o.dst undef) w:=by
   intro H0 T x
   cases x with|plain f x1=>
    have I:Region.wanted o (yielded (l++rest).toArray a.tmps)=true:=by simp[Region.wanted,f]
    rw[YW I];exact a5 T x1|yes f x1=>rw[YW (y5 f)];exact a5 T x1|no f=>have I:=y5 f;rw[Yg (by rw[I];simp)];exact⟨λL _=>FD _ L,hK _ _ ⟨by rw[Nu];exact x4,by rw[Rc];exact R,q,yt,O,M,x7 (XI.refl q) λ_ _=>rfl,x5,z,x2,y9 (XI.refl q)⟩⟩|undef f=>have I:=bs f;rw[Yg (by rw[I];simp)];exact⟨λL _=>FD _ L,hK _ _ ⟨by rw[Nu];exact x4,by rw[Rc];exact R,q,yt,O,M,x7 (XI.refl q) λ_ _=>rfl,x5,z,x2,y9 (XI.refl q)⟩⟩
  rcases x with x|⟨p,g,k1,V,c0,o1,n,U,zz,zc,x⟩;·exact zs ⟨z.flatten,XJ⟩ x
  ·--thelinehasnotbegun
   rw[Uy ((z3 g (X6 n)).2 (k1,V) (by rw[U];simp))]at zz;have xk:X k1=false:=by cases xk:X k1 with|false=>rfl|true=>
     have b7:i∈Vv o1:=by simp only[ng,TN]at zc;obtain⟨c1,hz,e⟩:=zc;rw[Xu e];exact hz
     have:=xv k1 o1 zz xk i b7;rw[N]at this;cases this
   have a9:g.at X=.of g.OI:=by simp[Qv.at,U,Rw,xk]
   obtain⟨E,t,ys,a2,_⟩:=y8.pick n;rw[a9]at a2;obtain⟨ν,rfl,_,_⟩:=a2;refine zs (H0:=g.OI++H) ⟨t,?_⟩ x;have:z.flatten.Perm (g.OI++t):=ys;refine(Ji H this).trans ?_;rw[Z5,Z5];exact VA _ XJ
 ·have I:Region.wanted o (yielded (l++rest).toArray a.tmps)=true:=by
   rcases f with f|f;·simp[Region.wanted,f]
   ·exact y5 f
  rw[YW I];rw[TN]at U;obtain⟨_,al,b0⟩:=Zix xv hi N he U (z3 g (X6 n)).1;obtain⟨E,t,ys,x,D⟩:=y8.pick n;have av:g.at X=b:=al;have b1:g.at (XV X i)=t':=b0;rw[av]at x;obtain⟨ν,rfl,B,a0⟩:=x;obtain⟨ι,V2,up,bt,a6,bf,b3⟩:=bo ν;have T:(z.flatten++H).Perm (b.E ν++H++t):=by refine(Ji H ys).trans ?_;rw[Z5,Z5];exact VA _ XJ
  obtain⟨yv,S,yx⟩:=ZH.perm T x2;refine TE.wp ((bt.frame t) q yv a w (O.perm S) M yx (a3 _ B) R)<|λv w'⟨j,m,bz,y4,z6,bi,s⟩=>?_;have bb:∀z0 G,z0≠p->Ls[z0]?=some G->∀E,II l X q a (G.at X) E->II l (XV X i) m (a.put o.dst v) (G.at (XV X i)) E:=by
   intro z0 G hq a8 E⟨bx,e,ab,zv⟩;have yf:(G.st.all λy=>!Nat.beq y.1 i)=true:=by rw[RK];intro y hx;obtain⟨bv,hy,e⟩:=U.mem;have:=Zag (by simp only[Cv,Yv]at hL;exact hL.2) n a8 (λe=>hq e.symm) bv hy y hx;rw[e]at this;simp only[Jg,beq_eq_false_iff_ne];cases hb:Nat.beq y.1 i with|false=>rfl|true=>exact absurd (Xu hb).symm this
   rw[show G.at (XV X i)=G.at X from mW _ _ yf];exact⟨bx,e,y6 s.le ab zv,zv.mono xs⟩
  obtain⟨z1,bd,b6⟩:=D (ok':=II l (XV X i) m (a.put o.dst v)) (X':=XV X i) (t'.E (up j)) bb (by
   rw[b1];refine⟨up j,rfl,?_,?_⟩;·rw[a6];intro J V e;rw[zO]at e;cases d:lk (V2 j) J with|some s2=>rw[d]at e;cases e;exact z6 J _ d|none=>rw[d]at e;exact y6 s.le B a0 J V e
   ·rw[a6];intro J V e;rw[zO]at e;cases d:lk (V2 j) J with|some s2=>exact⟨i,o,hi,by simp[XV],b3 j J s2 d⟩|none=>rw[d]at e;exact a0.mono xs J V e);have be:(t'.E (up j)++H++t).Perm (z1.flatten++H):=by refine nf ?_ (Ji H bd.symm);rw[Z5,Z5];exact VA _ XJ
  obtain⟨bh,a4,bl⟩:=ZH.perm be bi;refine hK _ _ ⟨by rw[Nu];exact x4.step O (ZG.F4 S s),by rw[Rc];exact R,m,bh,y4.perm a4,c.G.mono s.le M,x7 s.le λu k=>?_,x5.trans ((ZG.F4 S s).perm a4),z1,bl,b6⟩;have:=bf j m (a.put o.dst v) z6 u k;rwa[k,P6 (z5 u k)]at this
theorem Zak{Inv:(Nat->Bool)->Act->World->Prop}(A:Pa (l++rest) l.length=true)(x6:∀(X)(i)(o)(K)(a)(w),l[i]?=some o->X i=false->(∀j∈Vv o,X j=true)->(∀j p,l[j]?=some p->X j=true->∀e∈Vv p,X e=true)->Inv X a w->(∀a' w',Inv (XV X i) a' w'->K a' w')->wpOpIn (XX c.ro) 0 c.P (l++rest).toArray Q i K a w)(x1:∀X a w,(∀i,i<l.length->X i=true)->Inv X a w->wpListIn (XX c.ro) 0 c.P (l++rest).toArray Q rest a w):∀(q)(listed)(a)(w),listed.size=(l++rest).length->left (l++rest).length (X8 listed)<=q->((∀i,l.length<=i->X8 listed i=false)/\(∀j p,l[j]?=some p->X8 listed j=true->∀e∈Vv p,X8 listed e=true)/\Inv (X8 listed) a w\/∃p,l.length<=p/\p<=(l++rest).length/\(∀i,i<(l++rest).length->X8 listed i=decide (i<p))/\wpListIn (XX c.ro) 0 c.P (l++rest).toArray Q ((l++rest).drop p) a w)->wpAnyIn (XX c.ro) 0 c.P .any (l++rest).toArray Q q listed a w:=by
 have conv:∀{listed:Array Bool}{a:Act}{w:World},(∀i,l.length<=i->X8 listed i=false)->Inv (X8 listed) a w->(∀i,i<l.length->X8 listed i=true)->∃p,l.length<=p/\p<=(l++rest).length/\(∀i,i<(l++rest).length->X8 listed i=decide (i<p))/\wpListIn (XX c.ro) 0 c.P (l++rest).toArray Q ((l++rest).drop p) a w:=by
  intro listed a w f g v;refine⟨l.length,YG _,Zb,λi _=>?_,?_⟩
  ·by_cases d:i<l.length;·simp[d,v i d]
   ·simp[d,f i Y]
  ·rw[oT];·exact x1 _ a w v g
   ·rfl
 intro q;induction q with
 |zero=>
  intro listed a w z N C;have s:=Zbv (Nat.le_zero.1 N);have y:Region.ready .any (l++rest).toArray listed=[]:=by rw[Zgn];intro i d;obtain⟨o,n,m,_⟩:=(mem_ready z).1 d;rw[s i (Wm n).1]at m;cases m
  refine⟨y,?_⟩;obtain⟨p,R,S,k,u⟩:∃p,l.length<=p/\p<=(l++rest).length/\(∀i,i<(l++rest).length->X8 listed i=decide (i<p))/\wpListIn (XX c.ro) 0 c.P (l++rest).toArray Q ((l++rest).drop p) a w:=by
   rcases C with⟨f,_,g⟩|h;·exact conv f g λi d=>s i WI
   ·exact h
  have L:p=(l++rest).length:=by
   rcases Ru p (l++rest).length with h|h;·have:=k p h;rw[s p h]at this;simp at this
   ·omega
  rwa[L,nq]at u|succ q U=>
  intro listed a w z N C;have x0:Region.ready .any (l++rest).toArray listed=[]->∀i,i<(l++rest).length->X8 listed i=true:=by intro y i;induction i using Nat.strongRecOn with|_ i x7=>intro d;cases m:X8 listed i with|true=>rfl|false=>have:i∈Region.ready .any (l++rest).toArray listed:=(mem_ready z).2 ⟨(l++rest)[i],VB d,m,λj b=>by have D:=uU A (VB d) j b;exact x7 j D Y⟩;rw[y]at this;cases this
  refine⟨λy=>?_,λi d=>?_⟩
  ·have s:=x0 y;obtain⟨p,R,S,k,u⟩:∃p,l.length<=p/\p<=(l++rest).length/\(∀i,i<(l++rest).length->X8 listed i=decide (i<p))/\wpListIn (XX c.ro) 0 c.P (l++rest).toArray Q ((l++rest).drop p) a w:=by
    rcases C with⟨f,_,g⟩|h;·exact conv f g λi d=>s i WI
    ·exact h
   have L:p=(l++rest).length:=by
    rcases Ru p (l++rest).length with h|h;·have:=k p h;rw[s p h]at this;simp at this
    ·omega
   rwa[L,nq]at u
  ·obtain⟨o,n,m,B⟩:=(mem_ready z).1 d;have F:=(Wm n).1;have T:(listed.setIfInBounds i true).size=(l++rest).length:=by simpa using z
   have x:=bY (listed:=listed) (i:=i) Y;have O:left (l++rest).length (X8 (listed.setIfInBounds i true))<=q:=by rw[x];have:=Zbu F m;omega
   have M:(∃p,l.length<=p/\p<=(l++rest).length/\(∀i,i<(l++rest).length->X8 listed i=decide (i<p))/\wpListIn (XX c.ro) 0 c.P (l++rest).toArray Q ((l++rest).drop p) a w)->wpOpIn (XX c.ro) 0 c.P (l++rest).toArray Q i (wpAnyIn (XX c.ro) 0 c.P .any (l++rest).toArray Q q (listed.setIfInBounds i true)) a w:=by
    rintro⟨p,R,S,k,u⟩;have x9:¬i<p:=by intro h;have:=k i F;rw[m]at this;simp[h]at this
    have x5:p=i:=by
     rcases Ru p i with h|h
     ·have:=uV A n Y (X:=X8 listed) B λj V b r e t=>by
       have G:=(Wm b).1;rw[k j G]at r;have I:j<p:=by simpa using r
       have x8:=uU A b e t;rw[k e Y];simp;omega p h;rw[k p Y]at this;simp at this
     ·omega
    subst x5;rw[O0 F,(Wm n).2]at u;have x4:(l++rest).toArray[p]?=some o:=by simpa using n
    have:wpOpIn (XX c.ro) 0 c.P (l++rest).toArray Q p (wpListIn (XX c.ro) 0 c.P (l++rest).toArray Q ((l++rest).drop (p+1))) a w:=by unfold wpOpIn;rw[x4];exact u
    refine wpOpIn_mono (λa' w' W=>U _ a' w' T O (.inr ⟨p+1,Y,Y,λj b=>?_,W⟩)) this;rw[x];by_cases I:j=p;·simp[XV,I]
    ·simp only[XV,Yg I,k j b];congr 1;rw[eq_iff_iff];omega
   rcases C with⟨f,g,v⟩|h
   ·by_cases x2:i<l.length
    ·have P:l[i]?=some o:=by rwa[Uy x2]at n
     refine x6 _ _ _ _ _ _ P m B g v λa' w' Z=>U _ a' w' T O (.inl ⟨λj b=>?_,λj p J b e t=>?_,by rw[x];exact Z⟩);·rw[x];have:j≠i:=Y;simp only[XV,Yg this];exact f j b
     ·rw[x]at b⊢;simp only[XV]at b⊢;split;·rfl
      ·by_cases D:j=i;·subst D;rw[P]at J;cases J;exact B e t
       ·rw[Yg D]at b;exact g j p J b e t
    ·refine M (conv f v λj b=>uV A n Y (X:=X8 listed) B (λE V x3 r e t=>?_) j Y);have G:E<l.length:=by
      rcases Ru E l.length with h|h;·exact h
      ·rw[f E h]at r;cases r
     exact g E V (by rwa[Uy G]at x3) r e t
   ·exact M h
def Qv.fin(b:Qv):Sf:=Rw (λ_=>true) (.of b.OI) b.st
def GG(K:Yr->List Yl->Prop):List Qv->Yr->List Yl->Prop|[],V,E=>K V E|L::Ls,V,E=>∀ν:(L.fin).ν,GG K Ls ((L.fin).V ν++V) (E++(L.fin).E ν)
theorem GG.use{K}{l}{X}{m}{a}:∀{Ls}{V}{E}{Es},GG K Ls V E->Oq (II l X m a) (λ_=>true) Ls Es->Uq V m a->∃e,K e (E++Es.flatten)/\Uq e m a
 |[],V,E,Es,h,g,f=>by cases g;exact⟨V,by rw[wB,Xp];exact h,f⟩|L::Ls,V,E,Es,h,⟨j,p,b,⟨ν,k,n,_⟩,g⟩,f=>by
  have⟨e,r,d⟩:=GG.use (h ν) g λi o b=>by rw[zO]at b;cases d:lk _ i with|some s=>rw[d]at b;cases b;exact n i _ d|none=>rw[d]at b;exact f i o b
  have q:j=(L.fin).E _:=k;grind
theorem ZbD{l}{m}{a}{X}(d:∀i,X i=false):∀(Ls),Oq (II l X m a) X Ls (Ls.map (·.OI))
 |[]=>rfl|L::Ls=>by
  refine⟨L.OI,Ls.map _,rfl,?_,ZbD d _⟩;have:L.at X=.of L.OI:=by unfold Qv.at;cases hs:L.st with|nil=>rfl|cons h g=>simp[Rw,d]
  rw[this];exact⟨(),rfl,(λf e b=>by cases b),λf e b=>by cases b⟩
theorem ak{X X'}:∀(b)(s),(∀x∈b,X x.1=X' x.1)->Rw X s b=Rw X' s b|[],_,_=>rfl|(k,s')::r,s,h=>by simp[Rw,h (k,s') Zb];rw[ak r _ λx d=>h x Zm]
theorem ZqT{id n}{b}{Ls}(x3:St c Γ ((Ls.map (·.OI)).flatten++H) a w)(hm:c.P.follows .mixedOrders=true)(B:Pa b n=true)(x:Nat.ble n b.length=true)(O:JL c.N (b.take n)=true)(P:JJ (b.take n)=true)(hL:Cv (b.take n) Ls=true)(C:RL c b H Ls 0 (b.take n) Γ σ)(k:GG (λV E=>Wh c b.toArray (b.drop n) (V++Fu Γ (b.take n) σ) (E++H) (Q .normal)) Ls [] []):(Code.region id b.toArray true).wpIn (XX c.ro) 0 c.P Q a w:=by
 have F:(b.take n).length=n:=by rw[UF];have:=Dd▸x;omega
 have g:=ZbB b n;have N:∀f∈Ls,∀i∈f.st,i.1<(b.take n).length:=by intro f t i A;simp only[Cv,Yv,RK]at hL;simpa[Uk]using(hL.1 f t).2 i A
 have G:=Zak (c:=c) (Q:=Q) (l:=b.take n) (rest:=b.drop n) (Inv:=mB c (b.take n) σ Ls Γ H) (by rw[<-g,F];exact B) (λX h I x4 a w hi S v T K M=>Zk1 (by rw[<-g,F];exact B) O P hL (by rw[<-g];exact C) hi S v T K M) λX a w D⟨u,x,q,y,m,s,U,Z,J,z,x0⟩=>by
   rw[<-g];have x1:Oq (II (b.take n) X q a) (λ_=>true) Ls J:=by refine x0.imp λf t E L=>?_;rw[show f.at (λ_=>true)=f.at X from ak _ _ λi A=>(D _ (N f t i A)).symm];exact L
   obtain⟨V,hk,R⟩:=GG.use k x1 λe r g=>by cases g
   refine hk a w Q (λ_ _ d=>d) ⟨u,x,q,y,m,s,λe r d=>?_,by simpa using z,Z⟩;rw[zO]at d;cases hv:lk V e with|some s1=>rw[hv]at d;cases d;exact R e _ hv|none=>rw[hv]at d;refine U e r ?_;rw[<-d];show _=lk _ e;rw[aT Γ _ σ C.len e];exact uG _ λp I o _ _=>D p o
 refine cg hm ?_;rw[<-g]at G;obtain⟨u,x2,q,y,m,s,v,z,W⟩:=x3;have j:∀h,X8 (Array.replicate b.toArray.size false) h=false:=by intro h;simp only[X8,Array.getD];split<;>simp
 refine G _ _ a w.drew Zb (WX nk Zb) (.inl ⟨λh _=>j h,(λp x5 _ o=>by rw[j]at o;cases o),u.step m (ZG.drew _ _ _),x2,q,y,m.drew,s,λe r d=>v e r ?_,W.trans (ZG.drew _ _ _),_,z,ZbD j Ls⟩);rw[<-d,DU _ (VD _) λp I _ _ _ _=>j p];rfl
end
theorem Zay{d}{s}{m}{v}{a:Act}(e:d<a.tmps.size)(hv:s.p m v):Uq [(d,s)] m (a.put (some d) v):=by
 intro f g b;by_cases c:d=f;·subst c;rw[PW]at b;cases b;rw[P6 e];exact hv
 ·rw[PU c]at b;cases b
section
variable{c:XK}{Γ:Yr}{H H':List Yl}{d:Tmp}{od:Option Tmp}{ty:TypeId}{pos:String}{aft:Array Edge}{g:Option (Nat×Bool)}{α β:Type}
theorem ar{n N k}(h:Nat.blt n N=true)(e:k=N):n<k:=XA
theorem ZsQ{T}{R}{x:α}{cs}(q:GZ R x cs)(i:QT c.P T=some cs)(h:Nat.blt d c.N=true):WJ c ⟨some d,.alloc T,ty,pos,aft,g⟩ Γ H (λb=>[(d,val (.pointer (some ⟨b,0,none⟩)))]) λb=>box b T R x::H:=by
 intro e n f a k _ o r l;have⟨v,p,j⟩:=wm i a;have m:(execOp f.eval ⟨some d,.alloc T,ty,pos,aft,g⟩).run c.P a=.ok (.value (.pointer (some ⟨a.heap.size,0,none⟩))) (a.alloc (.cells cs.toArray T)):=by simp[execOp,Instr.alloc,p,newVar,newRow,j]
 rw[m];exact⟨a.heap.size,e,_,k.KE T _,Zay (ar h l) rfl,⟨[(a.heap.size,T,cs)],n,rfl,⟨cs,rfl,q e⟩,o⟩,ZG.alloc _ _ _ _⟩
end
section
variable{c:XK}{full:Array Oper}{l:List Oper}{Γ Γ':Yr}{H H':List Yl}{K:Act->World->Prop}{d:Tmp}{od:Option Tmp}{ty:TypeId}{pos:String}{aft:Array Edge}{g:Option (Nat×Bool)}{α β:Type}
theorem Zm2{k}{b}{t}{x}{p}(e:k.bits=b)(hs:k.signed=false)(hx:Yo Γ x ((un k b).slot p)):PJ c ⟨od,.unOp .neg t x,ty,pos,aft,g⟩ Γ H ((un k b).slot (-p)):=S9 λh i a j _ _ _ f=>by
  refine⟨.int k (k.wrap (0-p.toNat)),by simp[execOp,Up (hx h a (f x Ye)),Op.unary,Op.intArith],Wy.2 ?_⟩;rw[Int.zero_sub,NH e hs];have:BitVec.ofInt b (-p.toNat)=-p:=by apply BitVec.eq_of_toInt_eq;rw[BitVec.toInt_ofInt,BitVec.toInt_neg];simp[BitVec.toInt_eq_toNat_bmod]
  rw[this]
theorem yD{T}{R}{x:α}{y}(p:Yo Γ y (R.slot x)):PJ c ⟨od,.box T y,ty,pos,aft,g⟩ Γ H (WF R x):=by
 intro a q f b k _ r m;have⟨e,j,n⟩:=ZM.Cq (p a f (m y Ye));have o:(execOp f.eval ⟨od,.box T y,ty,pos,aft,g⟩).run c.P b=.ok (.value (.pointer (some ⟨b.heap.size,0,none⟩))) (b.alloc (.cells e.toArray T)):=by simp[execOp,Instr.box,newVar,newRow,j]
 rw[o];have h:=k.KE T e;have i:=h.FQ;refine⟨a.put _ _,h.freeze,⟨_,0,e,rfl,R.mono i n,YD.AE a _ _⟩,(ZG.alloc b a _ _).freeze i⟩
theorem ZmP{T n}{x}{lo hi}{R:ZM α}{v}{p q}{r}(hx:Yo Γ x (WF (vec n R) v))(D:Ou Γ lo p)(C:Ou Γ hi q)(h:sM v.toList (p.getD 0) (q.getD n)=some r)(M:p.getD 0<n)(A:Qz c.P T n R.n=true):PJ c ⟨od,.slice T x lo hi none,ty,pos,aft,g⟩ Γ H ((sl R).slot r):=S9 λm N a o L _ _ b=>by
  obtain⟨u,w,y,j⟩:=ZbI h;have z:q.getD n<=(n:Int):=by simpa using y
  obtain⟨i,I,s,t,E,B⟩:=hx m a (b x Ye);obtain⟨J,G,F⟩:=vU A;refine⟨.slice (some ⟨i,I+(p.getD 0).toNat*R.n,none⟩) ((q.getD n).toNat-(p.getD 0).toNat) (n-(p.getD 0).toNat),by simp only[execOp,t,Dh,Ym,Instr.sliceAt,WB G,YJ,Instr.sureAddr,Y5,pB (P:=c.P) (UE:=false) (D.val (m:=m) (a:=a) λf e=>b f (by subst e;simp[Op.operands])) (C.val (m:=m) (a:=a) λf e=>b f (by subst e;simp[Op.operands])) u w z o,Po F o];rw[Yg Y];simp[SE],?_⟩;have k:r.length=(q.getD n).toNat-(p.getD 0).toNat:=by rw[<-j];simp;omega
  refine⟨_,n-(p.getD 0).toNat,by rw[k],by rw[k];omega,.inr ⟨i,_,(s.drop _).take (((q.getD n).toNat-(p.getD 0).toNat)*R.n),rfl,?_,B.Ky _ _⟩⟩;have:=(E.drop (p.getD 0).toNat).take ((q.getD n).toNat-(p.getD 0).toNat);rw[<-j,MQ];exact this
theorem ZmQ{T n}{x}{R:ZM α}{v}(hx:Yo Γ x (WF (vec n R) v))(b:0<n)(a:Qz c.P T n R.n=true:=by kernel_rfl):PJ c ⟨od,.slice T x none none none,ty,pos,aft,g⟩ Γ H ((sl R).slot v.toList):=ZmP hx .no .no (by simp[sM,dZ];simp[VT]) Zm a
theorem run_freeze{Q}{k}{T}{R:ZM α}{v}{xs}(a:List Nat)(e:Uz H (own T R v xs) H')(h:∀t∈a,NR Γ t (ov v))(r:Xy c Q k (a.map (λt=>(t,(sl R).slot xs))++Γ) H'):Xy c Q k Γ H:=λb i f=>r b i (f.freeze _ e h)
def Hh(f:FuncId)(ss:List Xi):Xi where p:=λi v=>∃a:List Value,v=.func (.func f) #[] a.toArray/\Sq i ss a;mono:=λh⟨a,b,e⟩=>⟨a,b,e.mono h⟩
theorem ZcJ{f}{xs}{ss}(h:MZ Γ xs ss):PJ c ⟨od,.makeFunc (.func f) #[] xs.toArray,ty,pos,aft,g⟩ Γ H (Hh f ss):=S9 λk j i m _ _ _ a=>by refine⟨.func _ _ _,?_,xs.map _,rfl,h.all λe b=>a e (by simp[Op.operands,b])⟩;simp[execOp,Instr.makeFunc,Ym]
theorem Sq.append{m}:∀{ss b}{vs a},Sq m ss vs->Sq m b a->Sq m (ss++b) (vs++a)|[],_,_,_,rfl,k=>by exact k|s::ss,_,_,_,⟨v,a,rfl,p,q⟩,k=>by exact⟨v,_,rfl,p,Sq.append q k⟩
end
section
variable{c:XK}{full:Array Oper}{l:List Oper}{Γ Γ':Yr}{H H':List Yl}{K:Act->World->Prop}{Q:Exit->Act->World->Prop}{k:List Code}{α β:Type}
theorem Zrq{id n}{a}{Ls}{σ}(g:c.P.follows .mixedOrders=true)(b:Pa a n=true)(i:Nat.ble n a.length=true)(d:JL c.N (a.take n)=true)(f:JJ (a.take n)=true)(hL:Cv (a.take n) Ls=true)(e:RL c a H Ls 0 (a.take n) Γ σ)(h:GG (λV E=>Wh c a.toArray (a.drop n) (V++Fu Γ (a.take n) σ) (E++H) (Gr c.ro c.P Q k)) Ls [] []):Xy c Q (.region id a.toArray true::k) Γ ((Ls.map (·.OI)).flatten++H):=λm o j=>ZqT j g b i d f hL e h
theorem Zam{κ:Type}{d}{s:κ->Xi}:∀(i)(d')(s'),lk [(d,s i)] d'=some s'->some d=some d':=by
 intro i d' s' a;by_cases b:d=d';·rw[b]
 ·rw[PU b]at a;cases a
theorem Zft{κ:Type}{b:κ->Yr}{o}:∀(i)(m)(a),Uq (b i) m a->∀d,o=some d->any.p m (a.tmps.getD d undef):=λ_ _ _ _ _ _=>trivial
theorem ZkE{T}{R}{b t}{x:α}(v:Uz H (box b T R x) H')(F:NR Γ t (val (.pointer (some ⟨b,0,none⟩))))(k:Wh c full l ((t,WF R x)::Γ) H' K):Wh c full l Γ H K:=by
 intro e E Q o B;have⟨q,w,h,z,u,n,r,A,s⟩:=B.ZjU [t] v Zm;refine k e E Q o ⟨q,w,h,z,u,n,?_,A,s⟩;have g:Uq ((t,(ptr R).slot _)::Γ) h e:=r;intro i D a;by_cases d:t=i;·subst d;rw[PW]at a;cases a;have⟨j,C,m,f,y,p⟩:=g t _ (PW _ _ _);simp only[List.cons.injEq,and_true]at f;exact⟨j,C,m,f,y,p⟩
 ·rw[PU d]at a;exact g i D (by rw[PU d];exact a)
def str:ZM (List (BitVec 8))where
 n:=1;ag:=false;rel:=λ_ e g=>∃a:ByteArray,e=[.string a]/\a.data.toList.map UInt8.toBitVec=g;mono:=λ_ f=>f;len:=λ⟨a,b,_⟩=>by rw[b];rfl
 cell:=λ⟨a,b,_⟩v d=>by rw[b]at d;simp at d;subst d;rfl
 one:=λ_=>rfl
theorem bytes_inj{a b:ByteArray}(h:a.data.toList.map UInt8.toBitVec=b.data.toList.map UInt8.toBitVec):a=b:=by
 have:=by refine List.map_inj_right (λe f d=>UInt8.toBitVec_inj.1 d)|>.1 h
 cases a;simp_all
theorem pT{x}{p}{m}{a}(hx:Yo Γ x (str.slot p))(b:Rv Γ m a x):∃s,a.eval x=.string s/\s.data.toList.map UInt8.toBitVec=p:=by obtain⟨s,d,e⟩:=hx m a b;grind
theorem Zrr{P}{t}(d:P.underlying t=some .string)(a b)(w):(binOp .eql t (.string a) (.string b)).run P w=.ok (.bool (a==b)) w:=by simp[binOp,Op.equal,Op.maxDepth,Ym,Op.equalIn,WB _,YJ,Op.stringOp,Y5,beq_toListBytes]
theorem ZmS{t yt}{x y}{H}{p q}{od}{ty}{pos}{aft}{g}(e:c.P.underlying t=some .string)(hx:Yo Γ x (str.slot p))(f:Yo Γ y (str.slot q)):PJ c ⟨od,.binOp .eql t x y yt,ty,pos,aft,g⟩ Γ H (bl.slot (decide (p=q))):=S9 λo n h u _ _ _ a=>by
  have⟨r,b,j⟩:=pT hx (a x Ye);have⟨s,d,m⟩:=pT f (a y Ye);refine⟨.bool _,by simp[execOp,b,d,Ym,Zrr e,YJ,Y5];rfl,Rg ?_⟩;congr 1;rw[E4];simp;rw[dW];constructor;·grind
  ·exactλi=>bytes_inj Zm
end
section
variable{c:XK}{Γ:Yr}{H:List Yl}{od:Option Tmp}{ty:TypeId}{pos:String}{aft:Array Edge}{g:Option (Nat×Bool)}{α:Type}{Q:Exit->Act->World->Prop}{k:List Code}
end
def exr{α:Type}(R:ZM α)(cs:List Value):ZM α where n:=R.n;ag:=R.ag;rel:=λe b f=>b=cs/\R.rel e b f;mono:=λd⟨c,a⟩=>⟨c,R.mono d a⟩;len:=λ⟨_,a⟩=>R.len a;cell:=λ⟨_,a⟩=>R.cell a;one:=R.one
inductive XW:List Yl->List Yl->Prop|refl{H:List Yl}:XW H H|ex{α:Type}{b:Nat}{T:TypeId}{R:ZM α}{cs:List Value}{x:α}{H H':List Yl}:XW H H'->XW (box b T (exr R cs) x::H) (box b T R x::H')|Ry{e:Yl}{H H':List Yl}:XW H H'->XW (e::H) (e::H')
theorem XW.sat{H H'}(h:XW H H'):∀{m}{hs},ZH H m hs->ZH H' m hs:=by induction h with|refl=>simp|ex _ d=>rintro m hs⟨b,c,a,⟨f,g,h⟩,e⟩;exact⟨b,c,a,⟨f,g,h.2⟩,d e⟩|Ry _ d=>rintro m hs⟨b,c,a,i,e⟩;exact⟨b,c,a,i,d e⟩
section
variable{c:XK}{Γ:Yr}{H H':List Yl}{od:Option Tmp}{ty:TypeId}{pos:String}{aft:Array Edge}{g:Option (Nat×Bool)}{α β:Type}
end
def HK{κ:Type}(H:κ->List Yl):Yl:=⟨λe d=>∃a,ZH (H a) e d,λc⟨a,b⟩=>⟨a,b.mono c⟩⟩
theorem pD{E}{m}{hs}:ZH [E] m hs↔E.p m hs:=by
 constructor;·rintro⟨b,c,rfl,a,rfl⟩;grind
 ·exactλa=>⟨hs,[],Zb,a,rfl⟩
theorem Zit{w:World}{a}{v}{o}(h:w.cell? a=some v)(b:w.heap[a.block]?=some o):o.isCells=true:=by unfold World.cell? at h;rw[b]at h;cases o<;>first|rfl|grind
theorem Ziu{w:World}{l}{o o'}{a}{v}(h:w.cell? a=some v)(d:w.heap[l]?=some o)(e:o.isCells=false):(w.putObj l o').cell? a=some v:=by
 have c:a.block≠l:=λb=>by have:=Zit h (by rw[b];exact d);grind
 have:(w.putObj l o').heap[a.block]?=w.heap[a.block]?:=Gz c;unfold World.cell? at h⊢;rw[this];exact h
theorem Good.ne{m}{hs}{w}(c:Good m hs w){l}{o}(d:w.heap[l]?=some o)(b:o.isCells=false):l∉hs.bs:=by intro a;obtain⟨f,e,rfl⟩:=Uj a;have:=c.YY f e;rw[d]at this;have:=XD this;subst this;cases b
theorem Good.putObj{m}{hs}{w}(a:Good m hs w){l}{o o'}(e:w.heap[l]?=some o)(c:o.isCells=false):Good m hs (w.putObj l o')where
 mem:=λf h v b=>Ziu (a.mem f h v b) e c;nodup:=a.nodup;YY:=λb d=>by rw[Gz λg=>a.ne e c (by rw[<-g];exact VC d)];exact a.YY b d
 free:=a.free
theorem Good.af{m}{hs}{w}(a:Good m hs w)(o):Good m hs (w.alloc o)where mem:=λd e v b=>(nI w _ _ (a.lt b)).trans (a.mem d e v b);nodup:=a.nodup;YY:=λb c=>(heap_alloc_old (a.QF (VC c))).trans (a.YY b c);free:=a.free
def DF(P:Program)(G:GP)(l:Nat)(r:Loop)(s:Xi)(E h:Yl):Prop:=∀b a c v,a.heap[l]?=some (.loop r)->Good b c a->G.p b->s.p b v->E.p b c->∃f,(Instr.yield l #[v]).run P a=.ok (.round l r.fn f r.assign r.body) a/\RoundIn Fence.wide 0 P l r.fn f r.assign r.body a λi g=>i=.returned (.bool true)/\∃e d,Good e d g/\h.p e d/\ZG a g b e c.bs d.bs
abbrev yv(l:Nat):Value:=.func (.yield l) #[] #[]
def Dt(P:Program)(G:GP)(l:Nat)(r:Loop)(f:FuncId)(A:List Xi)(E:List Yl){j:Type}(ρ:j->Xi)(ε:j->List Yl):Prop:=∀a c h d,c.heap[l]?=some (.loop r)->Good a d c->G.p a->Sq a A h->ZH E a d->Calls P f h.toArray c λk i=>∃v b e g,k=.returned v/\Good b e i/\(ρ g).p b v/\ZH (ε g) b e/\ZG c i a b d.bs e.bs
theorem lW{P}{G}{l}{r}{f}{a:Func}{i}{A}{E}{D}{ρ:D->Xi}{ε}(u:P.funcs[f]?=some a)(s:a.body=some i)(N)(I:a.ntmps=N)(H:Nat.ble A.length N=true)(h:∀(o)(w0)(g),w0.heap[l]?=some (.loop r)->l∉g->Xy ⟨P,N,G,o,w0,g,none,false⟩ (bodyPost P a (LW ⟨P,N,G,o,w0,g,none,false⟩ ρ ε)) [i] (Mh 0 A) E):Dt P G l r f A E ρ ε:=by
 intro e c b j m k q n w;have x:St ⟨P,N,G,e,c,j.bs,none,false⟩ (Mh 0 A) E {tmps:=b.toArray++Array.replicate (a.ntmps-b.toArray.size) undef,defers:=[]} c:=by
  refine⟨rfl,?_,e,j,k,q,?_,w,ZG.refl _ _ _⟩;·have:=n.length;simp_all
  ·intro B z d;have:=sq A 0 _ [] (List.replicate (a.ntmps-b.toArray.size) undef) n rfl B z d;have p:([]++b++List.replicate (a.ntmps-b.toArray.size) undef).toArray=b.toArray++Array.replicate (a.ntmps-b.toArray.size) undef:=Zb;rwa[p]at this
 have y:i.wpIn (XX none) 0 P (bodyPost P a (LW ⟨P,N,G,e,c,j.bs,none,false⟩ ρ ε)) {tmps:=b.toArray++Array.replicate (a.ntmps-b.toArray.size) undef,defers:=[]} c:=by refine RO (h e c _ m (k.ne m rfl) _ c x) λd F C t=>?_;cases d<;>exact t
 exact(nK u s (wpIn_wide.1 y)).mono λd C v=>v
section
variable{c:XK}{Z:Array Oper}{l:List Oper}{Γ Γ':Yr}{H H':List Yl}{K:Act->World->Prop}{d:Tmp}{od:Option Tmp}{ty:TypeId}{pos:String}{aft:Array Edge}{g:Option (Nat×Bool)}{α β:Type}
theorem Zrj{P}{ρ}{x}{a}(hx:ρ x=yv a)(args:List Operand)(b)(w)(od)(g)(n)(w')(h:(Instr.yield a (args.map ρ).toArray).run P w=.ok n w'):(execOp ρ ⟨od,.call {callee:=.value x,args:=args.toArray,argTypes:=b},ty,pos,aft,g⟩).run P w=.ok n w':=by simp[execOp,resolve,Ym,hx,Deferred.ofValue,Y5,YJ,invoke];grind
theorem ZkK{a}{r}{x y}{p}{s}{E j}(hx:Yo Γ x (val (yv a)))(Q:Yo Γ y s)(w:c.w0.heap[a]?=some (.loop r))(J:a∉c.b0)(I:DF c.P c.G a r s E j)(F:Nat.blt d c.N=true)(k:Wh c Z l ((d,bl.slot true)::Γ) [j] K):Wh c Z (⟨some d,.call {callee:=.value x,args:=[y].toArray,argTypes:=p},ty,pos,aft,none⟩::l) Γ [E] K:=by
 refineλm o B G⟨L,z,h,A,u,q,n,P,t⟩=>wX rfl λR D=>?_;obtain⟨S,O,N⟩:=I h o A (m.eval y) ((t.Wa a (MK w).1 J).1.trans w) u q (Q h m (n.ZW y)) (pD.1 P);refine TE.wp (k:=λv i=>v=.bool true/\∃e b,Good e b i/\j.p e b/\ZG o i h e A.bs b.bs) ?_ ?_;·rw[Zrj (hx h m (n.ZW x)) [y] p o (some d) none _ _ O];refine N.mono ?_;grind
 ·rintro v i⟨rfl,e,b,M,C,f⟩;refine D _ _ (k _ i B G ⟨by exact L.step u f,by rw[Rc];exact z,e,b,M,c.G.mono f.le q,(n.mono f.le).put (by rw[z];simpa[Uk]using F) (Rg rfl),pD.2 C,t.trans f⟩)
theorem Zbk{e}{r}{f}{args}{B}{A}{E j}{R}{s}(C:MZ Γ args A)(L:Q7 c.P f=true)(u:c.w0.heap[e]?=some (.loop r))(I:e∉c.b0)(hC:Dt c.P c.G e r f A E (λ_:R=>s) λ_=>j)(F:Nat.blt d c.N=true)(k:Wh c Z l ((d,s)::Γ) j K):Wh c Z (⟨some d,.call {callee:=.value (.func f),args:=args.toArray,argTypes:=B},ty,pos,aft,none⟩::l) Γ E K:=by refineλn y z G⟨J,w,m,x,t,o,p,N,q⟩=>wX rfl λS D=>TE.wp (k:=λv i=>∃a b,Good a b i/\s.p a v/\ZH j a b/\ZG y i m a x.bs b.bs) ?_ (by refineλv i⟨a,b,M,P,O,h⟩=>D _ _ (k _ i z G ⟨by exact J.step t h,by rw[Rc];exact w,a,b,M,c.G.mono h.le o,(p.mono h.le).put (by rw[w];simpa[Uk]using F) P,O,q.trans h⟩));·rw[Ze3 L n.eval (.func f) (Za5 (Γ:=Γ) m n trivial)];refine(hC m y _ x ((q.Wa e (MK u).1 I).1.trans u) t o (C.all λQ T=>p.ZW Q) N).mono ?_;grind
theorem ZG.round{i r s}{n o p}{f j k}{b}{q y}(h1:ZG i r n o f j)(h2:ZG (r.putObj b y) s o p j k)(u:i.heap[b]?=some q)(z:b∉f):ZG i (s.putObj b q) n p f k:=by
 have v:=h2.size;rw[BM]at v;have A:=h1.size;refine⟨h2.os.trans h1.os,h2.tape.trans h1.tape,h2.output.trans h1.output,by rw[BM];omega,λa t m=>?_,λa h=>?_,h1.le.trans h2.le⟩
 ·have w:=h1.Wa a t m;have x:=h2.Wa a (by rw[BM];omega) λe=>(h1.own a e).elim m Zm;refine⟨?_,Zm⟩;by_cases e:a=b;·subst e;rw[World.putObj_heap_same Y,u]
  ·rw[Gz e,x.1,Gz e];exact w.1
 ·rcases h2.own a h with h|h;·exact h1.own a h
  ·rw[BM]at h;exact .inr Y
theorem ZG.behind{w a p}{m n}{b i}{f}{o}(q:∀k,k<w.heap.size->a.heap[k]?=w.heap[k]?)(t:a.os=w.os)(u:a.tape=w.tape)(s:a.output=w.output)(x:w.heap.size<=a.heap.size)(hL:w.heap.size<=f)(h:ZG a p m n b i):ZG w (p.putObj f o) m n b i:=by have v:=h.size;refine⟨h.os.trans t,h.tape.trans u,h.output.trans s,by rw[BM];omega,λk e r=>?_,λk e=>(h.own k e).imp id Zm,h.le⟩;have j:=h.Wa k Y r;exact⟨by rw[Gz Y,j.1,q k e],j.2⟩
theorem Zbn{T a}{x y}{b}{f}{R}{z:α}(hx:Yo Γ x (val (.pointer (some ⟨b,0,none⟩))))(J:Yo Γ y (ov f))(B:Uz H (box b a R z) H')(D:Nat.beq R.n 1=true)(u:QL c.P T 1=true)(k:Wh c Z l Γ (box b a (Pc f) ()::H') K):Wh c Z (⟨none,.store T x y,ty,pos,aft,none⟩::l) Γ H K:=by
 refine se rfl (λj N e r A _ I i M=>?_) k;have s:e.eval x=_:=hx j e (i.ZW x);obtain⟨t,m⟩:=OR.1 (J j e (i.ZW y));obtain⟨L,n,q,⟨h,rfl,E⟩,G⟩:=I.pick B;have p:=A.perm q;have C:h.length=1:=by rw[R.len E];exact Xu D
 obtain⟨v,rfl⟩:∃v,h=[v]:=by match h,C with|[v],_=>simp
 have w:(e.eval y).cells=[f].toArray:=by rw[t];exact lD m
 have F:(execOp e.eval ⟨none,.store T x y,ty,pos,aft,none⟩).run c.P r=.ok .skip (Wr r b a ([v].take 0++[f]++[v].drop (0+1))):=by simp only[execOp,s,Ym,fL (o:=0) u w rfl Zm (p.YY (b,a,[v]) Zb) Zb];rfl
 rw[F];refine⟨j,(b,a,_)::n,p.Wr _,i,⟨[_],n,rfl,⟨_,rfl,Zb,m⟩,G⟩,ZG.F4 q (ZG.Wr (by simp[Hp.bs]))⟩
def GP.upon(G:GP)(f:YD):GP:=⟨λe=>G.p e/\XI f e,λb a=>⟨G.mono b a.1,a.2.trans b⟩⟩
theorem Zfe{c}{Q}{k}{x}{z}{ss}{p:Tmp}{assign body}{σ α κ:Type}{Es:κ->σ->List Yl}{s0 r}(i0){sd:α->Xi}{y:σ->α->Option σ}{ι}{ρ:ι->Xi}{Γ1:α->Yr}(hx:Yo Γ x (Hh z ss))(hf:Q7 c.P z=true)(hp:Nat.blt p c.N=true)(hH:QX H (Es i0 s0))(hC:∀(l)(f)(O),(∀m,O.p m->c.G.p m)->(∀s d s',y s d=some s'->DF c.P O l f (sd d) (HK λi=>Es i s) (HK λi=>Es i s'))->Dt c.P O l f z (val (yv l)::ss) [HK λi=>Es i s0] ρ λ_=>[HK λi=>Es i r])(hA:∀(l)(E)(h)(u)i s d s',y s d=some s'->Xy ⟨c.P,c.N,c.G,E,h,u,some l,false⟩ (λe a w=>e=.normal/\St ⟨c.P,c.N,c.G,E,h,u,some l,false⟩ (Γ1 d) (Es i s) a w) [assign] ((p,sd d)::Γ) (Es i s))(hB:∀(l)(E)(h)(u)i s d s',y s d=some s'->Xy ⟨c.P,c.N,c.G,E,h,u,some l,false⟩ (λe a w=>e=.normal/\∃i',St ⟨c.P,c.N,c.G,E,h,u,some l,false⟩ [] (Es i' s') a w) [body] (Γ1 d) (Es i s))(hK:∀i,Xy c Q k Γ (Es i r))(y2:c.ro=none:=by rfl)(xv:c.mm=true:=by rfl):Xy c Q (.rangeFunc x #[p] assign body::k) Γ H:=by
 obtain⟨P,N,G,m0,w0,b0,ro,mm⟩:=c;simp only at y2 xv;subst y2 xv;intro a w z1;obtain⟨hd,J,m,hs,hg,V,he,yy,x0⟩:=z1.Ry hH;simp only at J V x0 hf hp;obtain⟨t,y4,y3,x5⟩:=show∃t:List Nat,a.defers=t.map uD/\t.Nodup/\∀j∈t,w0.heap.size<=j/\w.heap[j]?=some (.deferred (some []))from hd;refine wpIn_rangeFunc<|λfn _=>?_;obtain⟨R,z4,y7⟩:=hx m a (he.ZW x);let j:=w.heap.size;let b:=w.heap.size+1;let f:Loop:={state:=.ready,pending:=none,fn,tmps:=a.tmps,params:=#[p],assign,body,defers:=j};let h:=(w.alloc (.deferred (some []))).alloc (.loop f);have x4:h.heap[j]?=some (.deferred (some [])):=(heap_alloc_old (by simp[j])).trans (World.alloc_heap_new w _);have W:h.heap[b]?=some (.loop f):=by have:=World.alloc_heap_new (w.alloc (.deferred (some []))) (.loop f);rwa[World.size_alloc]at this
 have x1:Good m hs h:=(hg.af _).af _;have x3:h.heap.size=w.heap.size+2:=by simp[h]
 refine⟨b,[⟨.collected j,#[]⟩],h,⟨.fn (.func z) R.toArray,#[yv b]⟩,h,z,(yv b::R).toArray,h,run_enterLoop_outer fn a.tmps #[p] assign body,?_,λ_ _=>trivial,?_,(λA=>by cases A),?_⟩;·simp only[resolve,z4];simp[go_sem]
 ·simp only[invoke];simp only[List.append_toArray,Array.empty_append];rw[fH hf];rfl
 ·refine aD.2 ?_;have hY:∀s d s',y s d=some s'->DF P (G.upon m) b f (sd d) (HK λi=>Es i s) (HK λi=>Es i s'):=by
   intro s d s' hy m2 M x2 v C x9⟨y6,ys⟩hv U;obtain⟨L,U⟩:=U;refine⟨a.tmps.setIfInBounds p v,by rw[run_yield C (by simp[f])];simp[f],roundIn_of_wpIn trivial ?_⟩;have y0:=x9.ne C rfl;have z2:St ⟨P,N,G,m2,M,x2.bs,some b,false⟩ ((p,sd d)::Γ) (Es L s) ⟨a.tmps.setIfInBounds p v,[]⟩ M:=by refine⟨rfl,by simpa using J,m2,x2,x9,y6,?_,U,ZG.refl _ _ _⟩;have:=(he.mono ys).put (d:=p) (s:=sd d) (v:=v) (by rw[J];simpa[Uk]using hp) hv;exact this
   refine RO (hA b m2 M x2.bs L s d s' hy _ M z2) λe a3 n hq=>?_;cases e with
   |normal=>obtain⟨_,y8,yt,q,o,F,y5,y9,D,x7⟩:=hq;have I:n.heap[b]?=some (.loop f):=(x7.Wa b (MK C).1 y0).1.trans C;have xs:b<n.heap.size:=(MK I).1;have yl:(n.putObj b (.loop {f with state:=.busy})).heap[b]?=some (.loop {f with state:=.busy}):=World.putObj_heap_same xs;refine⟨_,run_beginRound I rfl,?_⟩;have z3:St ⟨P,N,G,q,n.putObj b (.loop {f with state:=.busy}),o.bs,some b,false⟩ (Γ1 d) (Es L s) a3 (n.putObj b (.loop {f with state:=.busy})):=⟨y8,yt,q,o,F.putObj I rfl,y5,y9,D,ZG.refl _ _ _⟩;refine RO (hB b q _ o.bs L s d s' hy a3 _ z3)<|λe a5 w5 y1=>?_;cases e with|normal=>obtain⟨_,i5,zc,zv,m5,yx,yf,z5,zs,z0,x8⟩:=y1;have xk:w5.heap[b]?=some (.loop {f with state:=.busy}):=(x8.Wa b (by simpa using xs) (F.ne I rfl)).1.trans yl;refine⟨_,_,run_endRound (P:=P) none xk,rfl,m5,yx,yf.putObj xk rfl,⟨i5,z0⟩,ZG.round x7 x8 C y0⟩|_=>exact absurd y1.1 Zb
   |_=>exact absurd hq.1 Zb
  refine(hC b f (G.upon m) (λm A=>A.1) hY m h (yv b::R) hs W x1 ⟨V,XI.refl m⟩ ⟨_,_,rfl,rfl,y7⟩ (pD.2 ⟨i0,yy⟩)).mono ?_;rintro e n⟨v,q,o,i,rfl,F,hv,D,B⟩;have X:n.heap[b]?=some (.loop f):=(B.Wa b (by rw[x3];simp[b]) (x1.ne W rfl)).1.trans W;have z6:b<n.heap.size:=(MK X).1;refine⟨none,_,run_endLoop X (by simp[f]),?_⟩;have x6:ZG w (n.putObj b (.loop {f with state:=.exhausted})) m q hs.bs o.bs:=ZG.behind (λk hk=>(heap_alloc_old WI).trans (heap_alloc_old hk)) rfl rfl rfl (by rw[x3];omega) (by simp[b]) B;obtain⟨i3,D⟩:=pD.1 D;refine hK i3 _ _ ⟨⟨j::t,by simp[y4],?_,?_⟩,J,q,o,F.putObj X rfl,G.mono B.le V,he.mono B.le,D,x0.trans x6⟩;·refine List.nodup_cons.2 ⟨λA=>?_,y3⟩;have:=(MK (x5 j A).2).1;simp[j]at this
  ·intro D' T;rcases XB T with rfl|T;·refine⟨x0.size,?_⟩;rw[Gz (by simp[j,b])];exact(B.Wa j (by rw[x3];simp[j]) (x1.ne x4 rfl)).1.trans x4
   ·obtain⟨h1,S⟩:=x5 D' T;exact⟨h1,(x6.Wa D' (MK S).1 (hg.ne S rfl)).1.trans S⟩
end
theorem aR{P}{G}{f}{a:Func}{g}{A}{E}{z}{ρ:z->Xi}{ε}(q:P.funcs[f]?=some a)(o:a.body=some g)(N)(D:a.ntmps=N)(C:Nat.ble A.length N=true)(h:∀(l)(w0)(j),Xy ⟨P,N,G,l,w0,j,none,true⟩ (bodyPostM Fence.wide 0 P a (LW ⟨P,N,G,l,w0,j,none,true⟩ ρ ε)) [g] (Mh 0 A) E):QU P G f A E ρ ε:=by
 intro e c b i r n k t;have u:St ⟨P,N,G,e,c,i.bs,none,true⟩ (Mh 0 A) E {tmps:=b.toArray++Array.replicate (a.ntmps-b.toArray.size) undef,defers:=[]} c:=by
  refine⟨⟨[],rfl,Zb,Zb⟩,?_,e,i,r,n,?_,t,ZG.refl _ _ _⟩;·have:=k.length;simp_all
  ·intro x w d;have:=sq A 0 b [] (List.replicate (a.ntmps-b.toArray.size) undef) k rfl x w d;have m:([]++b++List.replicate (a.ntmps-b.toArray.size) undef).toArray=b.toArray++Array.replicate (a.ntmps-b.toArray.size) undef:=Zb;rwa[m]at this
 have v:g.wpIn Fence.wide 0 P (bodyPostM Fence.wide 0 P a (LW ⟨P,N,G,e,c,i.bs,none,true⟩ ρ ε)) {tmps:=b.toArray++Array.replicate (a.ntmps-b.toArray.size) undef,defers:=[]} c:=by refine RO (h e c _ _ c u) λd B y p=>?_;cases d<;>exact p
 exact(callsIn_wide.1 (callsIn_of_wp_marks q o trivial v)).mono λd y s=>s
theorem Zbt{P}{f}{tmps}{R}{w0:World}{m}{hs}:∀(a:List Nat)(w),a.Nodup->(∀D∈a,w0.heap.size<=D/\w.heap[D]?=some (.deferred (some [])))->Good m hs w->(∀w',Good m hs w'->w0.heap.size<=w'.heap.size->w'.os=w.os->w'.tape=w.tape->w'.output=w.output->w'.heap.size=w.heap.size->(∀b,b<w0.heap.size->w'.heap[b]?=w.heap[b]?)->∃v,(results f tmps).run P w'=.ok v w'/\R (.returned v) w')->w0.heap.size<=w.heap.size->LeavesInM Fence.wide 0 P f tmps R (a.map uD) .returning w
 |[],w,_,_,hg,h,l=>h w hg l rfl rfl rfl rfl λ_ _=>rfl|D::a,w,k,g,hg,h,l=>by
  have⟨x,j⟩:=g D Zb;refine⟨Zb,.inl ⟨D,_,rfl,run_takeDeferred j,Zbt (w0:=w0) a _ (List.nodup_cons.1 k).2 (λe i=>?_) (hg.putObj j rfl) (λw' s u c d o p q=>?_) XA⟩⟩;·have t:e≠D:=λn=>(List.nodup_cons.1 k).1 (n▸i);have⟨c,d⟩:=g e (by simp[i]);exact⟨c,by rw[Gz t];exact d⟩
  ·refine h w' s u c d o (by rw[p,BM]) λb r=>?_;rw[q b r,Gz Y]
section
variable{c:XK}{Γ:Yr}{H:List Yl}{a:Act}{w:World}{ι:Type}{ρ:ι->Xi}{ε:ι->List Yl}{fn:Func}
theorem ZdY{r}{s}(L:St c Γ H a w)(I:fn.results=#[r])(E:GO c Γ H r s)(i)(hs:∀m v,s.p m v->(ρ i).p m v)(F:QX H (ε i))(G:c.mm=true:=by rfl):bodyPostM Fence.wide 0 c.P fn (LW c ρ ε) .ret a w:=by
 obtain⟨j,g,m,S,D,P,C,o,k⟩:=L;obtain⟨d,A,z,y⟩:∃d:List _,a.defers=d.map uD/\d.Nodup/\∀h∈d,c.w0.heap.size<=h/\w.heap[h]?=some _:=by unfold MX at j;rwa[G]at j
 show LeavesInM _ 0 _ _ _ _ _ _ w;rw[A];refine Zbt d w z y D (λW l _ q t u O x=>?_) k.size;have⟨U,J,B,Q⟩:=(Jw.cons E .nil).run l o C;have R:=ph I J;obtain⟨v,V,rfl,M,rfl⟩:=B;obtain⟨T,K,n,N⟩:=o.Ry F;refine⟨v,XA,v,m,K,i,rfl,(l.perm n).sub,hs m v M,N,?_⟩;have b:=(k.perm n).sub λf e=>by rw[Hp.XL];exact Yd (.inr e)
 exact⟨q.trans b.os,t.trans b.tape,u.trans b.output,Y,λf e g=>⟨(x f e).trans (b.Wa f e g).1,(b.Wa f e g).2⟩,b.own,b.le⟩
end
section
variable{c:XK}{full:Array Oper}{l:List Oper}{Γ Γ':Yr}{H H':List Yl}{K:Act->World->Prop}{d:Tmp}{od:Option Tmp}{ty:TypeId}{pos:String}{aft:Array Edge}{g:Option (Nat×Bool)}{α β:Type}
theorem Zri{P}{w}{m}{hs}{ST XT T rt E:TypeId}{R:ZM α}{ys xs}{i a0}{cap0}(s:Qi P ST T R.n=true)(t:P.underlying XT=some (.slice E))(A:Good m hs w)(N:ys=[]\/∃b o row,i=some ⟨b,o,none⟩/\YT R m row ys/\∀j v,row[j]?=some v->w.cell? ⟨b,o+j,none⟩=some v)(J:xs=[]\/∃b o row,a0=some ⟨b,o,none⟩/\YT R m row xs/\∀j v,row[j]?=some v->w.cell? ⟨b,o+j,none⟩=some v)(V:0<xs.length/\ys.length+xs.length<=4294967296):∃r h1' w',(Builtin.append_ #[ST,XT] rt #[.slice i ys.length ys.length,.slice a0 xs.length cap0]).run P w=.ok r w'/\(own T R r (ys++xs)).p m h1'/\Good m (h1'++hs) w'/\ZG w w' m m hs.bs (Hp.bs (h1'++hs)):=by
 obtain⟨M,S,z,B,L,u,x,O,Q⟩:=HZ s;obtain⟨f,_,k,I⟩:=Src.run (P:=P) (R:=R) (w:=w.drew) (cap:=ys.length) (m:=m) (a0:=i) (xs:=ys) N ys.length (YG _);rw[NM]at k;obtain⟨h,_,n,G⟩:=Src.run (P:=P) (R:=R) (w:=w.drew) (cap:=cap0) (m:=m) (a0:=a0) (xs:=xs) J xs.length (YG _);rw[NM]at n;have W:=nextslicecap_le (ys.length+xs.length) ys.length Y;have C:¬Builtin.nextslicecap (ys.length+xs.length) ys.length*S.bytes>2^48:=by have U:=nD Y x;omega
 obtain⟨e,D,q⟩:=mV (P:=P) (rt:=rt) (z:=z) M t B L O u Y C I G;let a:=(Builtin.zeroCells z.cells (e-(ys.length+xs.length))).toList;have F:a.length=(e-(ys.length+xs.length))*R.n:=by simp[a,Builtin.zeroCells,Q]
 have y:f.toArray++h.toArray++Builtin.zeroCells z.cells (e-(ys.length+xs.length))=(f++h++a).toArray:=by simp[a]
 rw[y]at q;refine⟨_,[(w.heap.size,T,f++h++a)],_,q,.inr ⟨w.heap.size,e,f++h,a,Zb,rfl,k.append n,by simpa using D,?_⟩,A.drew.KE T _,(ZG.drew w m _).trans (ZG.alloc w.drew m hs.bs _)⟩;·rw[Yw,Yw,k.length,n.length,F,<-Ta,<-Ta];congr 1;omega
theorem ZhO{ST XT T E:TypeId}{x y}{R:ZM α}{f}{n}{ys xs}(hx:Yo Γ x (val (.slice f n n)))(D:Src c Γ H x R ys)(F:Src c Γ H y R xs)(r:Qi c.P ST T R.n=true)(s:c.P.underlying XT=some (.slice E))(t:0<xs.length/\ys.length+xs.length<=4294967296){m}{hs}{a}{w}(e:Good m hs w)(i:ZH H m hs)(h:Rv Γ m a x)(A:Rv Γ m a y):∃b h1' w',(execOp a.eval ⟨some d,.call {callee:=.builtin .append,args:=#[x,y],argTypes:=#[ST,XT]},ty,pos,aft,g⟩).run c.P w=.ok (.value b) w'/\(own T R b (ys++xs)).p m h1'/\Good m (h1'++hs) w'/\ZG w w' m m hs.bs (Hp.bs (h1'++hs)):=by
 have⟨j,k,o,G⟩:=D m _ a w e i h;have J:a.eval x=_:=hx m a h;obtain⟨rfl,rfl,rfl⟩:j=f/\ys.length=n/\k=ys.length:=by grind
 have⟨I,cap0,q,C⟩:=F m _ a w e i A;have⟨b,h1',w',B,z,v,u⟩:=Zri (rt:=ty) (cap0:=cap0) r s e G C t;refine⟨b,h1',w',?_,z,v,u⟩;simp[execOp,resolve,Ym,Y5,YJ,invoke,builtin];simp[Iv,XF,O1,o,q,B,YJ]
theorem ZsR{ST XT T E:TypeId}{x y}{R:ZM α}{j}{n}{ys xs}(hx:Yo Γ x (val (.slice j n n)))(v:Src c Γ H x R ys)(w:Src c Γ H y R xs)(m:Qi c.P ST T R.n=true)(o:c.P.underlying XT=some (.slice E))(p:0<xs.length/\ys.length+xs.length<=4294967296)(k:Nat.blt d c.N=true):WJ c ⟨some d,.call {callee:=.builtin .append,args:=#[x,y],argTypes:=#[ST,XT]},ty,pos,aft,g⟩ Γ H (λa=>[(d,ov a)]) λa=>own T R a (ys++xs)::H:=by intro z h A B r _ i e t;obtain⟨a,b,C,u,f,s,q⟩:=ZhO hx v w m o p r i (e x (by simp[Op.operands,Call.operands])) (e y (by simp[Op.operands,Call.operands]));rw[u];exact⟨a,z,b++h,s,Zay (ar k t) (OR.2 ⟨rfl,own.one f⟩),⟨b,h,rfl,f,i⟩,q⟩
theorem Zrk{P}{T ty:TypeId}{sz}(b:Uh P T sz=true)(a)(n cap)(w):(Builtin.cap_ #[T] ty #[.slice a n cap]).run P w=.ok (goInt cap) w:=by have⟨f,e,_⟩:=HY b;simp[Builtin.cap_,WB e]
end
section
variable{c:XK}{full:Array Oper}{l:List Oper}{Γ Γ':Yr}{H H':List Yl}{K:Act->World->Prop}{d:Tmp}{od:Option Tmp}{ty:TypeId}{pos:String}{aft:Array Edge}{g:Option (Nat×Bool)}{α β:Type}
section
variable{γ β':Type}{R:ZM γ}{v:Value}{xs:List γ}{S:ZM β}{y:β}{S':ZM β'}{y':β'}
end
def SX{α i β:Type}(R:ZM α)(x:α)(off:Nat)(a:ZM β)(z:β)(f:ZM i)(j:i):Prop:=f.n=R.n/\off+a.n<=R.n/\∀e b h,R.rel e b x->a.rel e h z->f.rel e (b.take off++h++b.drop (off+a.n)) j
inductive BW(P:Program)(T:TypeId)(Γ:Yr):{α α':Type}->(R:ZM α)->α->List (Nat×Operand)->(R':ZM α')->α'->Prop|nil{α:Type}{R:ZM α}{x:α}:BW P T Γ R x [] R x|cons{α α' β α1:Type}{i off:Nat}{y:Operand}{S:ZM β}{z:β}{ps:List (Nat×Operand)}{R:ZM α}{x:α}{R1:ZM α1}{x1:α1}{R':ZM α'}{r:α'}:Yo Γ y (S.slot z)->SX R x off S z R1 x1->placeOf P T i=some (off,S.n)->BW P T Γ R1 x1 ps R' r->BW P T Γ R x ((i,y)::ps) R' r
theorem BW.fill{P}{T}{q}{R}{f}{m}{a}{ps}{x:α}{r:q}(h:BW P T Γ R x ps f r):∀{cs}{e},R.rel m cs x->(∀i p,placeOf P T i=some p->e i=some p)->(∀p∈ps,Rv Γ m a p.2)->∃j,Instr.fill e cs.toArray (ps.map λp=>(p.1,a.eval p.2))=some j.toArray/\f.rel m j r:=by induction h with|nil=>intro cs e b _ _;exact⟨cs,rfl,b⟩|@cons α q β I i off y S z ps R x R1 G f r hy n u _ v=>intro cs e b o E;have⟨s,t,k⟩:=ZM.Cq (hy m a XA);have A:=S.len k;have w:=R.len b;have D:=n.2.1;have⟨j,B,F⟩:=v (n.2.2 m _ _ b k) o Zm;simp[XF,Instr.fill,o i _ u,t];have C:=zl off s 0 cs Y;grind
end
def Rj(e:Yl)(c:Hp):Yl:=⟨λf b=>e.p f b/\b=c,λd a=>⟨e.mono d a.1,a.2⟩⟩
inductive LU(e:Yl)(Γ:Yr):Yr->Prop|nil:LU e Γ []|cons{t:Nat}{s s0:Xi}{U:Yr}:lk Γ t=some s0->(∀m v,s0.p m v->(sL [e] s).p m v)->LU e Γ U->LU e Γ ((t,s)::U)
theorem LU.ZW{e}{Γ U}(h:LU e Γ U){m M}{a:Act}{h1}(c:XI m M)(g:e.p M h1)(i:RX M h1){t}(d:∀s,lk Γ t=some s->s.p m (a.tmps.getD t undef)):∀s,lk (U++Γ) t=some s->s.p M (a.tmps.getD t undef):=by induction h with|nil=>exactλs e=>s.mono c (d s e)|@cons n s' s0 U j k _ l=>
  intro s b;by_cases f:n=t;·subst f;rw[MN,PW]at b;cases b;exact k _ _ (d _ j) M _ c ⟨h1,[],Zb,g,rfl⟩ i
  ·rw[MN,PU f]at b;exact l s b
theorem Zjx{m}{h1 h2}{w}(c:Good m (h1++h2) w):Good (ext m h1) h2 w/\XI m (ext m h1)/\RX (ext m h1) h1:=by
 have d:=c.nodup;rw[Hp.XL,TM]at d;have e:Good m _ w:=⟨c.mem,d.1,λb a=>c.YY b Zm,λb a=>c.free b (by simp[a])⟩;refine⟨⟨e.ext.mem,d.2.1,λb a=>c.YY b (by simp[a]),λb a i=>?_⟩,ZaC e,?_⟩;·rw[tq λg=>d.2.2 _ g _ (VC a) rfl];exact c.free b (by simp[a]) i
 ·rintro⟨k,j,l⟩h n v f;rw[TN,ZaD d.1 h];exact f
section
variable{c:XK}{full:Array Oper}{l:List Oper}{Γ Γ':Yr}{H H':List Yl}{K:Act->World->Prop}{d:Tmp}{od:Option Tmp}{ty:TypeId}{pos:String}{aft:Array Edge}{g:Option (Nat×Bool)}{α β:Type}
end
def Dn(e:Yl)(b o:Nat)(row:List Value):Prop:=∀a c,e.p a c->RX a c->At a b o row
theorem Dn.Ky{e}{b o}{row}(h:Dn e b o row)(k n):Dn e b (o+k) ((row.drop k).take n):=λd f a c=>(h d _ a c).Ky k n
theorem Dn.cells{e}{H H'}{m}{hs}{w}{b o}{row}(h:Dn e b o row)(d:Good m hs w)(n:ZH H m hs)(i:Uz H e H')(j)(v)(a:row[j]?=some v):w.cell? ⟨b,o+j,none⟩=some v:=by have⟨p,q,l,c,r⟩:=n.pick i;have⟨f,k,g⟩:=Zjx (d.perm l);exact f.mem _ _ _ (h _ _ (e.mono k c) g j v a)
section
variable{α β γ:Type}
def slH(e:Yl)(R:ZM α):ZM (List α)where
 n:=1;ag:=false;rel:=λo i d=>∃a b,i=[.slice a d.length b]/\d.length<=b/\(d=[]\/∃c f g,a=some ⟨c,f,none⟩/\YT R o g d/\Dn e c f g);mono:=λm⟨a,b,e,l,k⟩=>⟨a,b,e,l,k.imp id λ⟨c,f,g,j,p,q⟩=>⟨c,f,g,j,p.mono m,q⟩⟩;len:=λ⟨a,b,e,_,_⟩=>by rw[e];rfl
 cell:=λ⟨a,b,e,_,_⟩v h=>by rw[e]at h;simp at h;subst h;rfl
 one:=λ_=>rfl
def LE(e:Yl)(R b:ZM α):Prop:=b.ag=R.ag/\∀f c g a d,XI f a->e.p a d->RX a d->R.rel f c g->b.rel a c g
theorem LE.refl{e}(R:ZM α):LE e R R:=⟨rfl,λ_ _ _ _ _ b _ _ a=>R.mono b a⟩
theorem LE.sl{e}(R:ZM α):LE e (slH e R) (sl R):=⟨rfl,λr p t s q j h i⟨a,c,f,g,k⟩=>⟨a,c,f,g,k.imp id λ⟨b,l,o,d,m,n⟩=>⟨b,l,o,d,m.mono j,n _ _ h i⟩⟩⟩
theorem LE.prod{e}{R a:ZM α}{b c:ZM β}(h:LE e R a)(k:LE e b c):LE e (prod R b) (prod a c):=⟨rfl,λq o s r p g d f⟨i,j,l,m,n⟩=>⟨i,j,l,h.2 _ _ _ _ _ g d f m,k.2 _ _ _ _ _ g d f n⟩⟩
theorem LE.sL{e}{R b}(h:LE e R b){x:α}{m}{v}(hv:(R.slot x).p m v):(Go.Sl.sL [e] (b.slot x)).p m v:=by
 intro o n d j a;obtain⟨k,l,rfl,c,rfl⟩:=j;rw[Xp]at a;simp[ZM.slot,ZM.is,h.1]at hv⊢;split at hv;·have⟨f,g,i⟩:=hv;exact⟨f,g,h.2 _ _ _ _ _ d c a i⟩
 ·exact h.2 _ _ _ _ _ d c a hv
variable{c:XK}{full:Array Oper}{l:List Oper}{Γ Γ':Yr}{H H':List Yl}{K:Act->World->Prop}{d:Tmp}{od:Option Tmp}{ty:TypeId}{pos:String}{aft:Array Edge}{g:Option (Nat×Bool)}{e:Yl}
end
section
variable{α β:Type}{c:XK}{full:Array Oper}{l:List Oper}{Γ:Yr}{H H':List Yl}{K:Act->World->Prop}{d:Tmp}{ty:TypeId}{pos:String}{aft:Array Edge}
end
section
variable{P:Program}{b:Frame}{a:Act}{k:List Item}{cs:List Frame}{w:World}
theorem Bg{c}:step P (lone (b.atR a (.code (.scope c)::k)) cs w)=.next (lone (b.atR a (.code c::.inScope c::k)) cs w):=step_lone_go (by simp[stepG,stepG.exec,Frame.atR])
theorem Zsc{c}:step P (lone (b.atR a (.inScope c::k)) cs w)=.next (lone (b.atR a k) cs w):=step_lone_go (by simp[stepG,stepG.exec,Frame.atR])
end
theorem ZsT{i}{n}{P}{Q}{a}{w}{c}(h:c.wpIn i n P (Exit.noGoto Q) a w):(Code.scope c).wpIn i n P Q a w:=by
 intro m l x t j k;have b:(lone (m.atR a (.code (.scope c)::l)) _ w).fenced P i:=fenced_calm j k rfl
 obtain⟨o,f,g,e,d⟩:=h m _ _ t j k;cases o with|normal=>exact⟨.normal,f,g,e,.head b Bg (StepsIn.trans d (.one (fenced_calm j k rfl) Zsc))⟩|exit id=>
  have y:exitTo id (.inScope c::l)=exitTo id l:=by simp[exitTo]
  exact⟨_,f,g,e,λz r=>.head b Bg (d.1 _ Zm),λs r=>let⟨u,p,q⟩:=d.2 s Zm;⟨u,p,.head b Bg q⟩⟩|goto A=>exact e.elim|ret=>exact⟨_,f,g,e,.of_steps (.one b Bg) d⟩|panic v=>exact⟨_,f,g,e,.of_steps (.one b Bg) d⟩|outgrown=>exact⟨_,f,g,e,.of_steps (.one b Bg) d⟩
section
variable{c:XK}{Γ:Yr}{H:List Yl}{Q:Exit->Act->World->Prop}{k:List Code}
end
section
variable{c:XK}{Γ:Yr}{H:List Yl}{Q:Exit->Act->World->Prop}{k:List Code}
end
section
variable{α β β' β1:Type}{c:XK}{Γ:Yr}{H H':List Yl}
end
section
variable{c:XK}{Γ:Yr}{H H':List Yl}{od:Option Tmp}{ty:TypeId}{pos:String}{aft:Array Edge}{g:Option (Nat×Bool)}
end
section
variable{α:Type}
def VO(R:ZM α)(m:YD):List Value->List (Option α)->Prop|cs,[]=>cs=[]|cs,z::d=>∃a b,cs=a++b/\a.length=R.n/\(∀c,z=some c->R.rel m a c)/\VO R m b d
theorem VO.mono{R:ZM α}{m b}(a:XI m b):∀{d}{cs},VO R m cs d->VO R b cs d|[],_,h=>h|_::_,_,⟨c,f,e,l,p,q⟩=>⟨c,f,e,l,λi g=>R.mono a (p i g),VO.mono a q⟩
theorem VO.length{R:ZM α}{m}:∀{a}{cs},VO R m cs a->cs.length=a.length*R.n|[],_,rfl=>Zb|_::a,_,⟨c,b,rfl,l,p,q⟩=>by rw[Yw,l,VO.length q,WA,Ta,Om,wK]
theorem VO.append{R:ZM α}{m}:∀{xs ys}{cs ds},VO R m cs xs->VO R m ds ys->VO R m (cs++ds) (xs++ys)|[],_,_,_,rfl,k=>by simpa using k|_::_,_,_,_,⟨c,a,e,l,p,q⟩,k=>⟨c,a++_,Zm,l,p,VO.append q k⟩
theorem VO.split{R:ZM α}{m}:∀{xs ys}{cs},VO R m cs (xs++ys)->∃a b,cs=a++b/\VO R m a xs/\VO R m b ys|[],_,cs,h=>⟨[],cs,rfl,rfl,h⟩|_::_,_,_,⟨c,g,e,l,p,q⟩=>by have⟨a,b,i,d,f⟩:=VO.split q;exact⟨c++a,b,Zm,⟨c,a,rfl,l,p,d⟩,f⟩
theorem VO.cut{R:ZM α}{m}{a}{cs}(k)(h:VO R m cs a):VO R m (cs.take (k*R.n)) (a.take k)/\VO R m (cs.drop (k*R.n)) (a.drop k):=by
 rw[<-Sb k a]at h;obtain⟨e,g,rfl,b,f⟩:=h.split;rcases nA k a.length with hk|hk;·have c:=b.length;grind
 ·have c:=b.length;have d:=f;rw[Re hk]at d⊢;subst d;rw[UF,nC hk]at c;have:e.length<=k*R.n:=by rw[c];exact RM _ hk
  rw[Xp,VT this,Re this];exact⟨b,rfl⟩
theorem VO.of{R:ZM α}{m}:∀{xs}{cs},YT R m cs xs->VO R m cs (xs.map some)|[],_,h=>h|_::_,_,⟨c,a,e,p,q⟩=>⟨c,a,e,R.len p,Zm,VO.of q⟩
theorem VO.to{R:ZM α}{m}:∀{xs}{cs},VO R m cs (xs.map some)->YT R m cs xs|[],_,h=>h|_::_,_,⟨c,a,e,l,p,q⟩=>⟨c,a,e,p _ rfl,VO.to q⟩
theorem VO.jY{R:ZM α}{m}:∀(k){cs},cs.length=k*R.n->VO R m cs (List.replicate k none)|0,cs,h=>show cs=[]by grind|k+1,cs,h=>by rw[Ta]at h;exact⟨cs.take R.n,cs.drop R.n,Zb,Zm,Zb,VO.jY k Zm⟩
def L5(b:Nat)(T:TypeId)(R:ZM α)(h:List (Option α)):Yl where p:=λg f=>∃a,f=[(b,T,a)]/\VO R g a h;mono:=λe⟨a,c,d⟩=>⟨a,c,d.mono e⟩
theorem Zl5{T}{R:ZM α}{v}{xs}{m}{hs}(h:(own T R v xs).p m hs)(e:xs≠[]):∃b k,v=.slice (some ⟨b,0,none⟩) xs.length (xs.length+k)/\(L5 b T R (xs.map some++List.replicate k none)).p m hs:=by obtain⟨b,c,j,l,i,rfl,a,f,d⟩:=own.at h e;have g:=a.length;refine⟨b,c-xs.length,Zm,_,rfl,(VO.of a).append (VO.jY _ ?_)⟩;rw[Yw]at d;rw[Nat.sub_mul];omega
theorem ZhS{b}{T}{R:ZM α}{xs}{k}{m}{hs}(h:(L5 b T R (xs.map some++List.replicate k none)).p m hs):(own T R (.slice (some ⟨b,0,none⟩) xs.length (xs.length+k)) xs).p m hs:=by obtain⟨f,rfl,a⟩:=h;have i:=a.length;obtain⟨c,d,rfl,e,g⟩:=a.split;refine .inr ⟨b,xs.length+k,c,d,rfl,rfl,VO.to e,Zb,?_⟩;grind
variable{c:XK}{full:Array Oper}{l:List Oper}{Γ Γ':Yr}{H H':List Yl}{K:Act->World->Prop}{d:Tmp}{od:Option Tmp}{ty:TypeId}{pos:String}{aft:Array Edge}{g:Option (Nat×Bool)}
theorem Zbm{T}{R:ZM α}{v}{xs}(s:Uz H (own T R v xs) H')(u:xs≠[])(k:∀b n,v=.slice (some ⟨b,0,none⟩) xs.length (xs.length+n)->Wh c full l Γ (L5 b T R (xs.map some++List.replicate n none)::H') K):Wh c full l Γ H K:=by intro e B a j y;obtain⟨o,t,A,C,r,i,p,⟨f,h,rfl,w,x⟩,q⟩:=y.pick s;have⟨b,n,z,m⟩:=Zl5 w u;exact k b n z e B a j ⟨o,t,A,_,r,i,p,⟨f,h,rfl,m,x⟩,q⟩
theorem Zrm{Q}{a}{b}{T}{R:ZM α}{e}(xs)(n)(s:Uz H (L5 b T R e) H')(w:e=xs.map some++List.replicate n none)(r:Xy c Q a Γ (own T R (.slice (some ⟨b,0,none⟩) xs.length (xs.length+n)) xs::H')):Xy c Q a Γ H:=by subst w;intro f y v;obtain⟨m,t,x,z,q,j,o,⟨h,i,rfl,k,u⟩,p⟩:=v.pick s;exact r f y ⟨m,t,x,_,q,j,o,⟨h,i,rfl,ZhS k,u⟩,p⟩
theorem Ci{x}{v}(h:Yo Γ x (ov v)):Yo Γ x (val v):=λe a b=>(OR.1 (h e a b)).1
def bR(c:XK)(Γ:Yr)(H:List Yl)(x:Operand)(R:ZM α)(N:Nat)(xs:List α):Prop:=∀a h b m,Good a h m->ZH H a h->Rv Γ a b x->∃e n,b.eval x=.slice e N n/\(xs=[]\/∃f j k,e=some ⟨f,j,none⟩/\YT R a k xs/\∀i v,k[i]?=some v->m.cell? ⟨f,j+i,none⟩=some v)
theorem ZmR{T sz b o n cap}{x}{lo hi}{p q}(hx:Yo Γ x (val (.slice (some ⟨b,o,none⟩) n cap)))(s:Ou Γ lo p)(r:Ou Γ hi q)(e f:Nat)(t:p.getD 0=e)(u:q.getD n=f)(h1:e<=f)(h2:f<=cap)(y:e<cap)(m:Uh c.P T sz=true):PJ c ⟨od,.slice T x lo hi none,ty,pos,aft,g⟩ Γ H (val (.slice (some ⟨b,o+e*sz,none⟩) (f-e) (cap-e))):=S9 λv A a w z _ _ h=>by have k:a.eval x=_:=hx v a (h x Ye);refine⟨_,by simp[execOp,k,Dh,Ym,fK m (a:=some ⟨b,o,none⟩) (len:=n) (cap:=cap) (s.val λj i=>h j (by subst i;simp[Op.operands])) (r.val λj i=>h j (by subst i;simp[Op.operands])) Y Y Y w];rfl,?_⟩;rw[t,u,Yg Y];simp[SE,val]
end
section
variable{α β:Type}{c:XK}{full:Array Oper}{l:List Oper}{Γ Γ':Yr}{H H' H1:List Yl}{K:Act->World->Prop}{d:Tmp}{od:Option Tmp}{ty:TypeId}{pos:String}{aft:Array Edge}{g:Option (Nat×Bool)}
end
end Go.Sl
namespace Go.Sl
section
variable{α β:Type}{c:XK}{full:Array Oper}{l:List Oper}{Γ Γ':Yr}{H H' H1:List Yl}{K:Act->World->Prop}{d:Tmp}{od:Option Tmp}{ty:TypeId}{pos:String}{aft:Array Edge}{g:Option (Nat×Bool)}
theorem qf{T sz b n cap}{x}{lo hi}{p q}(hx:Yo Γ x (val (.slice (some ⟨b,0,none⟩) n cap)))(j:Ou Γ lo p)(i:Ou Γ hi q)(a e:Nat)(k:p.getD 0=a)(m:q.getD n=e)(h1:a<=e)(h2:e<=cap)(f:a<cap)(h:Uh c.P T sz=true):PJ c ⟨od,.slice T x lo hi none,ty,pos,aft,g⟩ Γ H (val (.slice (some ⟨b,a*sz,none⟩) (e-a) (cap-a))):=by have:=ZmR (H:=H) (od:=od) (ty:=ty) (pos:=pos) (aft:=aft) (g:=g) hx j i _ _ k m h1 h2 f h;rwa[TN]at this
theorem Ze5{Q}{e}{b}{T}{R:ZM α}{f}(xs)(n n' a)(i:Uz H (L5 b T R f) H')(k:f=xs.map some++List.replicate n none)(j:n'=xs.length)(h:a=xs.length+n)(r:Xy c Q e Γ (own T R (.slice (some ⟨b,0,none⟩) n' a) xs::H')):Xy c Q e Γ H:=by subst j h;exact Zrm _ n i k r
end
section
variable{c:XK}{Γ Γ':Yr}{H H':List Yl}{Q:Exit->Act->World->Prop}{k:List Code}
section
variable{σ ι:Type}{id id2:Nat}{Γi:ι->σ->Yr}{Hi:ι->σ->List Yl}
end
end
end Go.Sl
