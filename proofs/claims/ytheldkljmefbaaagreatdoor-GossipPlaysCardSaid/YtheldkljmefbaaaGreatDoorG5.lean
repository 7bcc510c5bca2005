import Derived.Test.YtheldkljmefbaaaGreatDoorG4
import Derived.RangeFuncLeaves
import Derived.Lib.AppendZerosOnto
import Derived.Lib.Overlaps
import Derived.Laws.Externs
import Derived.WalkKit
import Derived.ProofKit
import Derived.OpenShut
import Derived.Carry
import Derived.SevenTiedAt
import Derived.Deep.DeepHandedRow
import Derived.Lib.LaidTab
set_option linter.unusedSimpArgs false
set_option linter.unusedVariables false
set_option linter.unusedSectionVars false
namespace Go.Sl
def Qc0 {κ:Type} (H:κ→List Ent):Ent:=⟨fun m hs=>∃i,Sat (H i) m hs,fun hm ⟨i,h⟩=>⟨i,h.mono hm⟩⟩
theorem QeT {E:Ent}{m:Mem}{hs:Hp}:Sat [E] m hs↔E.p m hs:=by
 constructor
 ·rintro ⟨h1,h2,rfl,h,rfl⟩; rw [List.append_nil]; exact h
 ·intro h; exact ⟨hs, [],by simp,h,rfl⟩
theorem QgL {w:World}{a:Addr}{v:Value}{o:Obj} (h:w.cell? a=some v) (ho:w.heap[a.block]? = some o):o.isCells=true:=by
 unfold World.cell? at h;rw [ho] at h
 cases o<;>first | rfl | (simp at h)
theorem Qix {w:World}{l:Nat}{o o':Obj}{a:Addr}{v:Value} (h:w.cell? a=some v) (ho:w.heap[l]? = some o) (hc:o.isCells=false):(w.putObj l o').cell? a=some v:=by
 have hne:a.block≠l:=fun e=>by
  have:=QgL h (by rw [e]; exact ho);rw [hc] at this; cases this
 have:(w.putObj l o').heap[a.block]? = w.heap[a.block]?:=World.putObj_heap_other hne;unfold World.cell? at h ⊢;rw [this]; exact h
theorem Zk.ne {m:Mem}{hs:Hp}{w:World} (hg:Zk m hs w){l:Nat}{o:Obj} (ho:w.heap[l]? = some o) (hc:o.isCells=false):l∉hs.bs:=by
 intro h;obtain ⟨x,hx,rfl⟩:=List.mem_map.1 h;have:=hg.blk x hx;rw [ho] at this;have:=Option.some.inj this;subst this
 cases hc
theorem Zk.putObj {m:Mem}{hs:Hp}{w:World} (hg:Zk m hs w){l:Nat}{o o':Obj} (ho:w.heap[l]? = some o) (hc:o.isCells=false):Zk m hs (w.putObj l o') where
 mem:=fun b k v h=>Qix (hg.mem b k v h) ho hc
 nodup:=hg.nodup
 blk:=fun h hh=>by
  have hne:h.1≠l:=fun e=>hg.ne ho hc (by rw [←e]; exact List.mem_map_of_mem (f:=(·.1)) hh);rw [World.putObj_heap_other hne]; exact hg.blk h hh
 free:=hg.free
theorem Zk.allocObj {m:Mem}{hs:Hp}{w:World} (hg:Zk m hs w) (o:Obj):Zk m hs (w.alloc o) where
 mem:=fun b k v h=>(World.cell?_alloc_lt w _ ⟨b,k,none⟩ (hg.lt h)).trans (hg.mem b k v h)
 nodup:=hg.nodup
 blk:=fun h hh=>(KY (hg.ltb (List.mem_map_of_mem (f:=(·.1)) hh))).trans (hg.blk h hh)
 free:=hg.free
def Qcw (P:Program) (G:GP) (l:Nat) (r:Loop) (s:Slot) (E E':Ent):Prop:=
 ∀m w hs v,w.heap[l]? = some (.loop r)→Zk m hs w→G.p m→s.p m v→E.p m hs→
  ∃tmps,(Instr.yield l #[v]).run P w = .ok (.round l r.fn tmps r.assign r.body) w∧
   RoundIn Fence.wide 0 P l r.fn tmps r.assign r.body w fun e w'=>e = .returned (.bool true)∧∃m' hs',Zk m' hs' w'∧E'.p m' hs'∧Frm w w' m m' hs.bs hs'.bs
abbrev yv (l:Nat):Value:= .func (.yield l) #[] #[]
def QiS (P:Program) (G:GP) (l:Nat) (r:Loop) (f:FuncId) (A:List Slot) (E:List Ent){ι:Type} (ρ:ι→Slot) (ε:ι→List Ent):Prop:=
 ∀m w vs hs,w.heap[l]? = some (.loop r)→Zk m hs w→G.p m→BI m A vs→Sat E m hs→
  Calls P f vs.toArray w fun e w'=>∃v m' hs' i,e = .returned v∧Zk m' hs' w'∧(ρ i).p m' v∧Sat (ε i) m' hs'∧Frm w w' m m' hs.bs hs'.bs
theorem qS {P:Program}{G:GP}{l:Nat}{r:Loop}{f:FuncId}{fn:Func}{code:Code}{A:List Slot}{E:List Ent}{ι:Type}{ρ:ι→Slot}{ε:ι→List Ent}
  (hf:P.funcs[f]? = some fn) (hb:fn.body=some code) (N:Nat) (hN:fn.ntmps=N) (hA:Nat.ble A.length N=true)
  (h:∀(m0:Mem) (w0:World) (b0:List Nat),w0.heap[l]? = some (.loop r)→l∉b0→Run ⟨P,N,G,m0,w0,b0,none,false⟩ (bodyPost P fn (QbL ⟨P,N,G,m0,w0,b0,none,false⟩ ρ ε)) [code] (QaW 0 A) E):QiS P G l r f A E ρ ε:=by
 intro m w vs hs hl hg hG hvs hsat;have hst:St ⟨P,N,G,m,w,hs.bs,none,false⟩ (QaW 0 A) E {tmps:=vs.toArray++Array.replicate (fn.ntmps - vs.toArray.size) undef,defers:= []} w:=by
  refine ⟨rfl,?_,m,hs,hg,hG,?_,hsat,Frm.refl _ _ _⟩
  ·have:=hvs.length
   simp only [Array.size_append,List.size_toArray,Array.size_replicate,hN,this]
   have:=Nat.ble_eq▸hA
   omega
  ·intro t s e;have:=Qdu A 0 vs [] (List.replicate (fn.ntmps - vs.toArray.size) undef) hvs rfl t s e;have e2:(([]:List Value)++vs++List.replicate (fn.ntmps - vs.toArray.size) undef).toArray=vs.toArray++Array.replicate (fn.ntmps - vs.toArray.size) undef:=by simp
   rw [e2] at this;exact this
 have hw:code.wpIn (fen none) 0 P (bodyPost P fn (QbL ⟨P,N,G,m,w,hs.bs,none,false⟩ ρ ε)) {tmps:=vs.toArray++Array.replicate (fn.ntmps - vs.toArray.size) undef,defers:= []} w:=by
  refine wpIn_mono (h m w hs.bs hl (hg.ne hl rfl) _ w hst) fun e a' w' he=>?_
  cases e<;>exact he
 exact (calls_of_wp (R:=QbL ⟨P,N,G,m,w,hs.bs,none,false⟩ ρ ε) hf hb (wpIn_wide.1 hw)).mono fun e w' hp=>hp
section
variable {c : Ctx} {full : Array Oper} {l : List Oper} {Γ Γ' : Env} {H H' : List Ent} {K : Act → World → Prop} {d : Tmp} {od : Option Tmp} {ty : TypeId} {pos : String} {aft : Array Edge} {g : Option (Nat × Bool)} {α β : Type}
theorem QfO {P:Program}{ρ:Operand→Value}{x:Operand}{L:Nat} (hx:ρ x=yv L) (args:List Operand) (ats:Array TypeId) (w:World) (od:Option Tmp) (g:Option (Nat×Bool)) (n:Next) (w':World)
  (h:(Instr.yield L (args.map ρ).toArray).run P w = .ok n w') :
  (execOp ρ ⟨od, .call {callee:= .value x,args:=args.toArray,argTypes:=ats},ty,pos,aft,g⟩).run P w = .ok n w':=by
 simp only [execOp,resolve,Sem.run_bind,hx,Deferred.ofValue,Sem.run_pure,Result.andThen_ok,invoke]
 simp only [List.map_toArray,Array.empty_append,List.append_toArray,Array.append_empty]
 exact h
theorem Qks {L:Nat}{r:Loop}{x y:Operand}{ats:Array TypeId}{s:Slot}{E E':Ent} (hx:Has Γ x (val (yv L))) (hy:Has Γ y s) (hl:c.w0.heap[L]? = some (.loop r)) (hb:L∉c.b0)
  (hY:Qcw c.P c.G L r s E E') (hN:Nat.blt d c.N=true) (k:J9 c full l ((d,bl.slot true)::Γ) [E'] K) :
  J9 c full (⟨some d, .call {callee:= .value x,args:= [y].toArray,argTypes:=ats},ty,pos,aft,none⟩::l) Γ [E] K:=by
 intro a w Q hQ ⟨hdf,hn,m,hs,hgd,hG,he,hsat,hf⟩;refine wpListIn_plain rfl fun K' hK'=>?_;have hlt:L < c.w0.heap.size:=(Array.getElem?_eq_some_iff.1 hl).1;have hlw:w.heap[L]? = some (.loop r):=(hf.old L hlt hb).1.trans hl;obtain ⟨tmps,hrun,hround⟩:=hY m w hs (a.eval y) hlw hgd hG (hy m a (he.opd y)) (QeT.1 hsat);refine q7.wp (k:=fun v w'=>v = .bool true∧∃m' hs',Zk m' hs' w'∧E'.p m' hs'∧Frm w w' m m' hs.bs hs'.bs) ?_ ?_
 ·rw [QfO (hx m a (he.opd x)) [y] ats w (some d) none _ _ hrun];refine hround.mono ?_;rintro e w' ⟨rfl,h⟩;exact ⟨_,rfl,rfl,h⟩
 ·rintro v w' ⟨rfl,m',hs',hg',hE',hfr⟩;refine hK' _ _ (k _ w' Q hQ ⟨by rw [XG]; exact hdf.step hgd hfr,by rw [Ku]; exact hn,m',hs',hg',c.G.mono hfr.le hG,?_,QeT.2 hE',hf.trans hfr⟩);exact (he.mono hfr.le).put (by rw [hn]; simpa [Nat.blt_eq] using hN) (U7.2 rfl)
theorem Qj2 {L:Nat}{r:Loop}{f:FuncId}{args:List Operand}{ats:Array TypeId}{A:List Slot}{E E':List Ent}{ι:Type}{s:Slot} (hA:BH Γ args A) (hf:WE c.P f=true) (hl:c.w0.heap[L]? = some (.loop r)) (hb:L∉c.b0)
  (hC:QiS c.P c.G L r f A E (fun _:ι=>s) (fun _=>E')) (hN:Nat.blt d c.N=true) (k:J9 c full l ((d,s)::Γ) E' K) :
  J9 c full (⟨some d, .call {callee:= .value (.func f),args:=args.toArray,argTypes:=ats},ty,pos,aft,none⟩::l) Γ E K:=by
 intro a w Q hQ ⟨hdf,hn,m,hs,hgd,hG,he,hsat,hfr0⟩;refine wpListIn_plain rfl fun K' hK'=>?_;have hlt:L < c.w0.heap.size:=(Array.getElem?_eq_some_iff.1 hl).1;have hlw:w.heap[L]? = some (.loop r):=(hfr0.old L hlt hb).1.trans hl;refine q7.wp (k:=fun v w'=>∃m' hs',Zk m' hs' w'∧s.p m' v∧Sat E' m' hs'∧Frm w w' m m' hs.bs hs'.bs) ?_ ?_
 ·rw [WU hf a.eval (.func f) (Qdg (Γ:=Γ) m a trivial)];have hall:=hA.all (m:=m) (a:=a) (fun y hy=>he.opd y);refine (hC m w (args.map a.eval) hs hlw hgd hG hall hsat).mono ?_;rintro e w' ⟨v,m',hs',i,rfl,hg',hv,hsat',hfr⟩;exact ⟨v,rfl,m',hs',hg',hv,hsat',hfr⟩
 ·rintro v w' ⟨m',hs',hg',hv,hsat',hfr⟩;refine hK' _ _ (k _ w' Q hQ ⟨by rw [XG]; exact hdf.step hgd hfr,by rw [Ku]; exact hn,m',hs',hg',c.G.mono hfr.le hG,?_,hsat',hfr0.trans hfr⟩);exact (he.mono hfr.le).put (by rw [hn]; simpa [Nat.blt_eq] using hN) hv
theorem Frm.round {w2 w3 w5:World}{m2 m3 m5:Mem}{b2 b3 b5:List Nat}{L:Nat}{o0 o1:Obj} (h1:Frm w2 w3 m2 m3 b2 b3) (h2:Frm (w3.putObj L o1) w5 m3 m5 b3 b5) (hl:w2.heap[L]? = some o0) (hb:L∉b2) :
  Frm w2 (w5.putObj L o0) m2 m5 b2 b5:=by
 have hlt:L < w2.heap.size:=(Array.getElem?_eq_some_iff.1 hl).1;have hs2:=h2.size;rw [World.putObj_size] at hs2;have hs1:=h1.size;refine ⟨h2.os.trans h1.os,h2.tape.trans h1.tape,h2.output.trans h1.output,by rw [World.putObj_size]; omega,fun b hbl hn=>?_,fun b h=>?_,h1.le.trans h2.le⟩
 ·have k1:=h1.old b hbl hn;have hn3:b∉b3:=fun e=>(h1.own b e).elim hn (fun e'=>absurd hbl (Nat.not_lt.2 e'))
  have k2:=h2.old b (by rw [World.putObj_size]; omega) hn3;refine ⟨?_,fun o=>(k2.2 o).trans (k1.2 o)⟩
  by_cases e:b=L
  ·subst e;rw [World.putObj_heap_same (by omega),hl]
  ·rw [World.putObj_heap_other e,k2.1,World.putObj_heap_other e]; exact k1.1
 ·rcases h2.own b h with h | h
  ·exact h1.own b h
  ·rw [World.putObj_size] at h; exact .inr (by omega)
theorem Frm.behind {w w1 w3:World}{m m3:Mem}{b b3:List Nat}{L:Nat}{o:Obj} (h0:∀k,k < w.heap.size→w1.heap[k]? = w.heap[k]?) (hos:w1.os=w.os) (ht:w1.tape=w.tape) (ho:w1.output=w.output) (hsz:w.heap.size≤w1.heap.size) (hL:w.heap.size≤L) (h:Frm w1 w3 m m3 b b3) :
  Frm w (w3.putObj L o) m m3 b b3:=by
 have hs:=h.size;refine ⟨h.os.trans hos,h.tape.trans ht,h.output.trans ho,by rw [World.putObj_size]; omega,fun k hk hn=>?_,fun k hk=>(h.own k hk).imp id (fun e=>by omega),h.le⟩;have k1:=h.old k (by omega) hn;exact ⟨by rw [World.putObj_heap_other (by omega),k1.1,h0 k hk],k1.2⟩
theorem Qaz {T T0:TypeId}{x y:Operand}{b:Nat}{v':Value}{R:Rep α}{z:α} (hx:Has Γ x (val (.pointer (some ⟨b,0,none⟩))))
  (hy:Has Γ y (ov v')) (hk:Pick H (box b T0 R z) H') (hn1:Nat.beq R.n 1=true) (hT:szB c.P T 1=true)
  (k:J9 c full l Γ (box b T0 (exv v') ()::H') K):J9 c full (⟨none, .store T x y,ty,pos,aft,none⟩::l) Γ H K:=by
 refine Qbd rfl ?_ k;intro m hs a w hg _ hsat he hn;have e:a.eval x=_:=hx m a (he.opd x);obtain ⟨ey,h1'⟩:=Bv.1 (hy m a (he.opd y));obtain ⟨h1,h2,hpm,⟨cs,rfl,hr⟩,hs2⟩:=hsat.pick hk;have hg':=hg.perm hpm;have hl1:cs.length=1:=by rw [R.len hr]; exact Nat.eq_of_beq_eq_true hn1
 obtain ⟨v,rfl⟩:∃v,cs = [v]:=by
  match cs,hl1 with
  | [v],_=>exact ⟨v,rfl⟩
 have hc:(a.eval y).cells = [v'].toArray:=by rw [ey]; exact WN h1'
 have hrun:(execOp a.eval ⟨none, .store T x y,ty,pos,aft,none⟩).run c.P w = .ok .skip (setBlk w b T0 (([v]:List Value).take 0++ [v']++([v]:List Value).drop (0+1))):=by
  simp only [execOp,e,Sem.run_bind,UT (o:=0) (cs:= [v]) (ds:= [v']) hT hc rfl (by simpa using h1') (hg'.blk (b,T0, [v]) (by simp)) (by simp)]
  rfl
 rw [hrun];refine ⟨m,(b,T0,_)::h2,hg'.setBlk _,he,⟨[_],h2,rfl,⟨_,rfl,by simp,h1'⟩,hs2⟩,?_⟩;exact Frm.ofPerm hpm (Frm.setBlk (by simp [Hp.bs]))
def GP.upon (G:GP) (m1:Mem):GP:=⟨fun m=>G.p m∧Mle m1 m,fun hm h=>⟨G.mono hm h.1,h.2.trans hm⟩⟩
theorem Qab {c:Ctx}{Q:Exit→Act→World→Prop}{k:List Code}{x:Operand}{gf:FuncId}{ss:List Slot}{p:Tmp}{assign body:Code}
  {σ α κ:Type}{Es:κ→σ→List Ent}{s0 r:σ} (i0:κ){sd:α→Slot}{y:σ→α→Option σ}{ι:Type}{ρ:ι→Slot}{Γ1:α→Env}
  (hx:Has Γ x (fnS gf ss)) (hf:WE c.P gf=true) (hp:Nat.blt p c.N=true)
  (hH:Keep H (Es i0 s0))
  (hC:∀(l:Nat) (rc:Loop) (G':GP),(∀m,G'.p m→c.G.p m)→(∀s d s',y s d=some s'→Qcw c.P G' l rc (sd d) (Qc0 fun i=>Es i s) (Qc0 fun i=>Es i s'))→QiS c.P G' l rc gf (val (yv l)::ss) [Qc0 fun i=>Es i s0] ρ (fun _=> [Qc0 fun i=>Es i r]))
  (hA:∀(l:Nat) (m1:Mem) (w1:World) (b1:List Nat) i s d s',y s d=some s'→Run ⟨c.P,c.N,c.G,m1,w1,b1,some l,false⟩ (fun e a w=>e = .normal∧St ⟨c.P,c.N,c.G,m1,w1,b1,some l,false⟩ (Γ1 d) (Es i s) a w) [assign] ((p,sd d)::Γ) (Es i s))
  (hB:∀(l:Nat) (m1:Mem) (w1:World) (b1:List Nat) i s d s',y s d=some s'→Run ⟨c.P,c.N,c.G,m1,w1,b1,some l,false⟩ (fun e a w=>e = .normal∧∃i',St ⟨c.P,c.N,c.G,m1,w1,b1,some l,false⟩ [] (Es i' s') a w) [body] (Γ1 d) (Es i s))
  (hK:∀i,Run c Q k Γ (Es i r)) (hro:c.ro=none:=by rfl) (hmm:c.mm=true:=by rfl) :
  Run c Q (.rangeFunc x #[p] assign body::k) Γ H:=by
 obtain ⟨P,N,G,m0,w0,b0,ro,mm⟩:=c
 simp only at hro hmm
 subst hro hmm;intro a w hst;obtain ⟨hd,hn,m,hs,hg,hG,he,hsat,hfr⟩:=hst.keep hH
 simp only at hn hG hfr hf hp
 obtain ⟨Ds,hDs,hDn,hDm⟩:=(show ∃Ds:List Nat,a.defers=Ds.map QnS∧Ds.Nodup∧∀D∈Ds,w0.heap.size≤D∧w.heap[D]? = some (.deferred (some [])) from hd);refine wpIn_rangeFunc ?_;intro fn _;obtain ⟨caps,hxe,hcaps⟩:=hx m a (he.opd x)
 let D:=w.heap.size
 let L:=w.heap.size+1
 let rc:Loop:={state:= .ready,pending:=none,fn,tmps:=a.tmps,params:=#[p],assign,body,defers:=D}
 let w1:=(w.alloc (.deferred (some []))).alloc (.loop rc)
 have hD1:w1.heap[D]? = some (.deferred (some [])):=(KY (by simp [D])).trans (World.alloc_heap_new w _);have hL1:w1.heap[L]? = some (.loop rc):=by
  have:=World.alloc_heap_new (w.alloc (.deferred (some []))) (.loop rc); rwa [World.size_alloc] at this
 have hg1:Zk m hs w1:=(hg.allocObj _).allocObj _;have hsz1:w1.heap.size=w.heap.size+2:=by simp [w1]
 refine ⟨L, [⟨.collected D,#[]⟩],w1,⟨.fn (.func gf) caps.toArray,#[yv L]⟩,w1,gf,(yv L::caps).toArray,w1,run_enterLoop_outer fn a.tmps #[p] assign body,?_,fun _ _=>trivial,?_,(fun h=>by cases h),?_⟩
 ·simp only [resolve,hxe]
  simp [go_sem]
 ·simp only [invoke]
  simp only [List.append_toArray,Array.empty_append]
  rw [QaI hf]; rfl
 ·refine Qej.2 ?_;have hY:∀s d s',y s d=some s'→Qcw P (G.upon m) L rc (sd d) (Qc0 fun i=>Es i s) (Qc0 fun i=>Es i s'):=by
   intro s d s' hy m2 w2 hs2 v hl2 hg2 hG2 hv hE2;obtain ⟨hGa,hle⟩:=hG2;obtain ⟨i2,hE2⟩:=hE2;refine ⟨a.tmps.setIfInBounds p v,by rw [run_yield hl2 (by simp [rc])]; simp [rc],?_⟩;refine roundIn_of_wpIn trivial ?_;have hlt2:L < w2.heap.size:=(Array.getElem?_eq_some_iff.1 hl2).1;have hnb:=hg2.ne hl2 rfl;have hpn:p < a.tmps.size:=by rw [hn]; simpa [Nat.blt_eq] using hp
   have hst2:St ⟨P,N,G,m2,w2,hs2.bs,some L,false⟩ ((p,sd d)::Γ) (Es i2 s) ⟨a.tmps.setIfInBounds p v, []⟩ w2:=by
    refine ⟨rfl,by simpa using hn,m2,hs2,hg2,hGa,?_,hE2,Frm.refl _ _ _⟩;have:=(he.mono hle).put (d:=p) (s:=sd d) (v:=v) hpn hv;exact this
   refine wpIn_mono (hA L m2 w2 hs2.bs i2 s d s' hy _ w2 hst2) ?_;intro e a3 w3 hq
   cases e with
   | normal=>
    obtain ⟨_,hd3,hn3,m3,hs3,hg3,hG3,he3,hsat3,hfr3⟩:=hq;have hd3:a3.defers = []:=hd3;have hl3:w3.heap[L]? = some (.loop rc):=(hfr3.old L hlt2 hnb).1.trans hl2;have hlt3:L < w3.heap.size:=(Array.getElem?_eq_some_iff.1 hl3).1;have hnb3:=hg3.ne hl3 rfl;have hl4:(w3.putObj L (.loop {rc with state:= .busy})).heap[L]? = some (.loop {rc with state:= .busy}):=World.putObj_heap_same hlt3;refine ⟨_,run_beginRound hl3 rfl,?_⟩;have hst4:St ⟨P,N,G,m3,w3.putObj L (.loop {rc with state:= .busy}),hs3.bs,some L,false⟩ (Γ1 d) (Es i2 s) a3 (w3.putObj L (.loop {rc with state:= .busy})):=
     ⟨hd3,hn3,m3,hs3,hg3.putObj hl3 rfl,hG3,he3,hsat3,Frm.refl _ _ _⟩
    refine wpIn_mono (hB L m3 _ hs3.bs i2 s d s' hy a3 _ hst4) ?_;intro e a5 w5 hq5
    cases e with
    | normal=>
     obtain ⟨_,i5,hd5,hn5,m5,hs5,hg5,hG5,he5,hsat5,hfr5⟩:=hq5;have hl5:w5.heap[L]? = some (.loop {rc with state:= .busy}):=(hfr5.old L (by simpa using hlt3) hnb3).1.trans hl4;have hre:=run_endRound (P:=P) none hl5;refine ⟨_,_,hre,rfl,m5,hs5,hg5.putObj hl5 rfl,⟨i5,hsat5⟩,?_⟩;exact Frm.round hfr3 hfr5 hl2 hnb
    | _=>exact absurd hq5.1 (by simp)
   | _=>exact absurd hq.1 (by simp)
  have hc:=hC L rc (G.upon m) (fun m h=>h.1) hY m w1 (yv L::caps) hs hL1 hg1 ⟨hG,Mle.refl m⟩ ⟨_,_,rfl,rfl,hcaps⟩ (QeT.2 ⟨i0,hsat⟩);refine hc.mono ?_;rintro e w3 ⟨v,m3,hs3,i,rfl,hg3,hv,hsat3,hf3⟩;have hL3:w3.heap[L]? = some (.loop rc):=(hf3.old L (by rw [hsz1]; simp [L]) (hg1.ne hL1 rfl)).1.trans hL1;have hD3:w3.heap[D]? = some (.deferred (some [])):=(hf3.old D (by rw [hsz1]; simp [D]) (hg1.ne hD1 rfl)).1.trans hD1;have hLs:L < w3.heap.size:=(Array.getElem?_eq_some_iff.1 hL3).1;refine ⟨none,_,run_endLoop hL3 (by simp [rc]),?_⟩;have hfb:Frm w (w3.putObj L (.loop {rc with state:= .exhausted})) m m3 hs.bs hs3.bs:=
   Frm.behind (fun k hk=>(KY (by simp; omega)).trans (KY hk)) rfl rfl rfl (by rw [hsz1]; omega) (by simp [L]) hf3
  obtain ⟨i3,hsat3⟩:=QeT.1 hsat3;refine hK i3 _ _ ⟨?_,hn,m3,hs3,hg3.putObj hL3 rfl,G.mono hf3.le hG,he.mono hf3.le,hsat3,hfr.trans hfb⟩;refine ⟨D::Ds,by simp [hDs],?_,?_⟩
  ·refine List.nodup_cons.2 ⟨fun h=>?_,hDn⟩;have:=(Array.getElem?_eq_some_iff.1 (hDm D h).2).1
   simp [D] at this
  ·intro D' hD'
   rcases List.mem_cons.1 hD' with rfl | hD'
   ·refine ⟨hfr.size,?_⟩;rw [World.putObj_heap_other (by simp [D,L])]; exact hD3
   ·obtain ⟨h1,h2⟩:=hDm D' hD';have hlt:=(Array.getElem?_eq_some_iff.1 h2).1;exact ⟨h1,(hfb.old D' hlt (hg.ne h2 rfl)).1.trans h2⟩
end
theorem QbE {P:Program}{G:GP}{f:FuncId}{fn:Func}{code:Code}{A:List Slot}{E:List Ent}{ι:Type}{ρ:ι→Slot}{ε:ι→List Ent}
  (hf:P.funcs[f]? = some fn) (hb:fn.body=some code) (N:Nat) (hN:fn.ntmps=N) (hA:Nat.ble A.length N=true)
  (h:∀(m0:Mem) (w0:World) (b0:List Nat),Run ⟨P,N,G,m0,w0,b0,none,true⟩ (bodyPostM Fence.wide 0 P fn (QbL ⟨P,N,G,m0,w0,b0,none,true⟩ ρ ε)) [code] (QaW 0 A) E):Ctr P G f A E ρ ε:=by
 intro m w vs hs hg hG hvs hsat;have hst:St ⟨P,N,G,m,w,hs.bs,none,true⟩ (QaW 0 A) E {tmps:=vs.toArray++Array.replicate (fn.ntmps - vs.toArray.size) undef,defers:= []} w:=by
  refine ⟨⟨[],rfl,List.nodup_nil,fun _ h=>by cases h⟩,?_,m,hs,hg,hG,?_,hsat,Frm.refl _ _ _⟩
  ·have:=hvs.length
   simp only [Array.size_append,List.size_toArray,Array.size_replicate,hN,this]
   have:=Nat.ble_eq▸hA
   omega
  ·intro t s e;have:=Qdu A 0 vs [] (List.replicate (fn.ntmps - vs.toArray.size) undef) hvs rfl t s e;have e2:(([]:List Value)++vs++List.replicate (fn.ntmps - vs.toArray.size) undef).toArray=vs.toArray++Array.replicate (fn.ntmps - vs.toArray.size) undef:=by simp
   rw [e2] at this;exact this
 have hw:code.wpIn Fence.wide 0 P (bodyPostM Fence.wide 0 P fn (QbL ⟨P,N,G,m,w,hs.bs,none,true⟩ ρ ε)) {tmps:=vs.toArray++Array.replicate (fn.ntmps - vs.toArray.size) undef,defers:= []} w:=by
  refine wpIn_mono (h m w hs.bs _ w hst) fun e a' w' he=>?_
  cases e<;>exact he
 exact (callsIn_wide.1 (callsIn_of_wp_marks (R:=QbL ⟨P,N,G,m,w,hs.bs,none,true⟩ ρ ε) hf hb trivial hw)).mono fun e w' hp=>hp
theorem Qds {P:Program}{fn:Func}{tmps:Array Value}{R:Ending→World→Prop}{w0:World}{m:Mem}{hs:Hp}:∀(Ds:List Nat) (w:World),Ds.Nodup→(∀D∈Ds,w0.heap.size≤D∧w.heap[D]? = some (.deferred (some [])))→Zk m hs w→
  (∀w',Zk m hs w'→w0.heap.size≤w'.heap.size→w'.os=w.os→w'.tape=w.tape→w'.output=w.output→w'.heap.size=w.heap.size→(∀b,b < w0.heap.size→w'.heap[b]? = w.heap[b]?)→∃v,(results fn tmps).run P w' = .ok v w'∧R (.returned v) w')→w0.heap.size≤w.heap.size→
  LeavesInM Fence.wide 0 P fn tmps R (Ds.map QnS) .returning w
 | [],w,_,_,hg,h,hw=>h w hg hw rfl rfl rfl rfl fun _ _=>rfl
 | D::Ds,w,hn,hD,hg,h,hw=>by
  obtain ⟨hDs,hD0⟩:=hD D (by simp);have hlt:=(Array.getElem?_eq_some_iff.1 hD0).1;refine ⟨by simp, .inl ⟨D,_,rfl,run_takeDeferred hD0,Qds (w0:=w0) Ds (w.putObj D (.deferred none)) (List.nodup_cons.1 hn).2 (fun D' hD'=>?_) (hg.putObj hD0 rfl) (fun w' hg' hs' h1 h2 h3 h4 h5=>?_) (by rw [World.putObj_size]; exact hw)⟩⟩
  ·have hne:D'≠D:=fun e=>(List.nodup_cons.1 hn).1 (e▸hD');obtain ⟨h1,h2⟩:=hD D' (by simp [hD']);exact ⟨h1,by rw [World.putObj_heap_other hne]; exact h2⟩
  ·refine h w' hg' hs' h1 h2 h3 (by rw [h4,World.putObj_size]) fun b hb=>?_;rw [h5 b hb,World.putObj_heap_other (by omega)]
section
variable {c : Ctx} {Γ : Env} {H : List Ent} {a : Act} {w : World} {ι : Type} {ρ : ι → Slot} {ε : ι → List Ent} {fn : Func}
theorem Qj9 {r:ResultVar}{s:Slot} (hst:St c Γ H a w) (hr:fn.results = #[r]) (hj:ResJ c Γ H r s) (i:ι) (hs:∀m v,s.p m v→(ρ i).p m v) (hk:Keep H (ε i)) (hmm:c.mm=true:=by rfl) :
  bodyPostM Fence.wide 0 c.P fn (QbL c ρ ε) .ret a w:=by
 obtain ⟨hd,hn,m,hsh,hg,hG,he,hsat,hf⟩:=hst;obtain ⟨Ds,hDs,hDn,hDm⟩:∃Ds:List Nat,a.defers=Ds.map QnS∧Ds.Nodup∧∀D∈Ds,c.w0.heap.size≤D∧w.heap[D]? = some (.deferred (some [])):=by
  unfold Dfr at hd; rw [hmm] at hd; exact hd
 show LeavesInM Fence.wide 0 c.P fn a.tmps _ a.defers .returning w;rw [hDs];refine Qds (w0:=c.w0) (m:=m) (hs:=hsh) Ds w hDn hDm hg (fun w' hg2 _ h1 h2 h3 h4 h5=>?_) hf.size;obtain ⟨vs,hrun,hall,hlen⟩:=(ResL.cons hj .nil).run hg2 hsat he;have hres:=QbN (fn:=fn) (rs:= [r]) hr hrun;obtain ⟨v,vs',rfl,hv,hnil⟩:=hall
 cases hnil
 obtain ⟨rr,hs',hp,q⟩:=hsat.keep hk;have hg':=hg2.perm hp;refine ⟨v,by simpa using hres,v,m,hs',i,rfl,hg'.sub,hs m v hv,q,?_⟩;have hF:Frm c.w0 w c.m0 m c.b0 (Hp.bs hs'):=(hf.perm hp).sub fun b hb=>by rw [Hp.bs_append]; exact List.mem_append.2 (.inr hb)
 exact ⟨h1.trans hF.os,h2.trans hF.tape,h3.trans hF.output,by rw [h4]; exact hF.size,fun b hb hn=>⟨(h5 b hb).trans (hF.old b hb hn).1,(hF.old b hb hn).2⟩,hF.own,hF.le⟩
end
end Go.Sl
namespace Go.Sl
section
variable {c : Ctx} {full : Array Oper} {l : List Oper} {Γ Γ' : Env} {H H' : List Ent} {K : Act → World → Prop} {d : Tmp} {od : Option Tmp} {ty : TypeId} {pos : String} {aft : Array Edge} {g : Option (Nat × Bool)} {α β : Type}
theorem Qh9 {P:Program}{w:World}{m:Mem}{hs:Hp}{ST XT T rt E:TypeId}{R:Rep α}{ys xs:List α}{av a0:Option Addr}{cap0:Nat}
  (hT:slE P ST T R.n=true) (hX:P.underlying XT=some (.slice E)) (hg:Zk m hs w)
  (hys:ys = []∨∃b o row,av=some ⟨b,o,none⟩∧Zm R m row ys∧∀j v,row[j]? = some v→w.cell? ⟨b,o+j,none⟩=some v)
  (hsrc:xs = []∨∃b o row,a0=some ⟨b,o,none⟩∧Zm R m row xs∧∀j v,row[j]? = some v→w.cell? ⟨b,o+j,none⟩=some v) (hb:0 < xs.length∧ys.length+xs.length≤4294967296) :
  ∃v' h1' w',(Builtin.append_ #[ST,XT] rt #[.slice av ys.length ys.length, .slice a0 xs.length cap0]).run P w = .ok v' w'∧(own T R v' (ys++xs)).p m h1'∧Zk m (h1'++hs) w'∧Frm w w' m m hs.bs (Hp.bs (h1'++hs)):=by
 obtain ⟨hu,i,z,hi,hsz,hb0,hb1,hz,hzc⟩:=Qcv hT;obtain ⟨rowo,_,hro,hrunO⟩:=Src.run (P:=P) (R:=R) (w:=w.drew) (cap:=ys.length) (m:=m) (a0:=av) (xs:=ys) hys ys.length (Nat.le_refl _);rw [List.take_length] at hro;obtain ⟨rx',_,hrx',hrun'⟩:=Src.run (P:=P) (R:=R) (w:=w.drew) (cap:=cap0) (m:=m) (a0:=a0) (xs:=xs) hsrc xs.length (Nat.le_refl _);rw [List.take_length] at hrx';have hfit:¬ys.length+xs.length≤ys.length:=by omega
 have hcap:=Wl (ys.length+xs.length) ys.length (by omega);have hnb:¬(Builtin.nextslicecap (ys.length+xs.length) ys.length*i.bytes > 2^48):=by
  have h1:Builtin.nextslicecap (ys.length+xs.length) ys.length≤4*4294967296+4096:=by omega
  have h2:Builtin.nextslicecap (ys.length+xs.length) ys.length*i.bytes≤(4*4294967296+4096)*4096:=Nat.mul_le_mul h1 hb1;have h3:(4*4294967296+4096)*4096≤2^48:=by decide
  omega
 obtain ⟨newCap,hnc,happ⟩:=Qde (P:=P) (rt:=rt) (z:=z) hu hX hi hsz hz hb0 hfit hnb hrunO hrun';have hzc':z.cells.size=R.n:=hzc
 let rest:=(Builtin.zeroCells z.cells (newCap - (ys.length+xs.length))).toList
 have hrl:rest.length=(newCap - (ys.length+xs.length))*R.n:=by simp [rest,Builtin.zeroCells,hzc']
 have hcs:rowo.toArray++rx'.toArray++Builtin.zeroCells z.cells (newCap - (ys.length+xs.length))=((rowo++rx')++rest).toArray:=by
  simp [rest]
 rw [hcs] at happ;refine ⟨_, [(w.heap.size,T,(rowo++rx')++rest)],_,happ, .inr ⟨w.heap.size,newCap,rowo++rx',rest,by simp,rfl,hro.append hrx',by simpa using hnc,?_⟩,?_,?_⟩
 ·rw [List.length_append,List.length_append,hro.length,hrx'.length,hrl,←Nat.add_mul,←Nat.add_mul]
  congr 1; omega
 ·exact hg.drew.newOwn T _
 ·exact (Frm.drew w m _).trans (Frm.alloc w.drew m hs.bs (.cells ((rowo++rx')++rest).toArray T))
theorem QgO {ST XT T E:TypeId}{x y:Operand}{R:Rep α}{ad:Option Addr}{n:Nat}{ys xs:List α} (hx:Has Γ x (val (.slice ad n n))) (hxs:Src c Γ H x R ys) (hy:Src c Γ H y R xs)
  (hT:slE c.P ST T R.n=true) (hX:c.P.underlying XT=some (.slice E)) (hb:0 < xs.length∧ys.length+xs.length≤4294967296){m:Mem}{hs:Hp}{a:Act}{w:World} (hg:Zk m hs w) (hsat:Sat H m hs) (hox:Opd Γ m a x) (hoy:Opd Γ m a y) :
  ∃v' h1' w',(execOp a.eval ⟨some d, .call {callee:= .builtin .append,args:=#[x,y],argTypes:=#[ST,XT]},ty,pos,aft,g⟩).run c.P w = .ok (.value v') w'∧(own T R v' (ys++xs)).p m h1'∧Zk m (h1'++hs) w'∧Frm w w' m m hs.bs (Hp.bs (h1'++hs)):=by
 obtain ⟨av,cap,ex,hys⟩:=hxs m hs a w hg hsat hox;have ex2:a.eval x=_:=hx m a hox;rw [ex] at ex2;obtain ⟨rfl,rfl,rfl⟩:av=ad∧ys.length=n∧cap=ys.length:=by
  injection ex2 with h1 h2 h3; exact ⟨h1,h2,by omega⟩
 obtain ⟨a0,cap0,ey,hsrc⟩:=hy m hs a w hg hsat hoy;obtain ⟨v',h1',w',hrun,ho',hg',hf'⟩:=Qh9 (rt:=ty) (cap0:=cap0) hT hX hg hys hsrc hb;refine ⟨v',h1',w',?_,ho',hg',hf'⟩
 simp only [execOp,resolve,Sem.run_bind,Sem.run_pure,Result.andThen_ok,invoke,builtin]
 simp only [List.map_toArray,List.map_cons,List.map_nil,ex,ey,hrun,Result.andThen_ok]
theorem Qlf {ST XT T E:TypeId}{x y:Operand}{R:Rep α}{ad:Option Addr}{n:Nat}{ys xs:List α} (hx:Has Γ x (val (.slice ad n n))) (hxs:Src c Γ H x R ys) (hy:Src c Γ H y R xs)
  (hT:slE c.P ST T R.n=true) (hX:c.P.underlying XT=some (.slice E)) (hb:0 < xs.length∧ys.length+xs.length≤4294967296) (hN:Nat.blt d c.N=true) :
  WJ c ⟨some d, .call {callee:= .builtin .append,args:=#[x,y],argTypes:=#[ST,XT]},ty,pos,aft,g⟩ Γ H (fun v'=> [(d,ov v')]) (fun v'=>own T R v' (ys++xs)::H):=by
 intro m hs a w hg _ hsat ho hn;obtain ⟨v',h1',w',hr,ho',hg',hf'⟩:=QgO (d:=d) (ty:=ty) (pos:=pos) (aft:=aft) hx hxs hy hT hX hb hg hsat (ho x (by simp [Op.operands,Call.operands])) (ho y (by simp [Op.operands,Call.operands]));rw [hr];exact ⟨v',m,h1'++hs,hg',QlG (QdN hN hn) (Bv.2 ⟨rfl,own.one ho'⟩),⟨h1',hs,rfl,ho',hsat⟩,hf'⟩
theorem QmK : Has Γ (.const (.slice none 0 0)) (val (.slice none 0 0)):=fun _ _ _=>rfl
theorem Qfh : Has Γ (.const (.pointer none)) (val (.pointer none)):=fun _ _ _=>rfl
theorem QiX {x:Operand} (h:Has Γ x (val (.slice none 0 0))):Has Γ x (ov (.slice none 0 0)):=fun m a ho=>Bv.2 ⟨h m a ho,rfl⟩
theorem Qnc {P:Program}{T ty:TypeId}{sz:Nat} (hT:slB P T sz=true) (a:Option Addr) (n cap:Nat) (w:World) :
  (Builtin.cap_ #[T] ty #[.slice a n cap]).run P w = .ok (goInt cap) w:=by
 obtain ⟨e,hu,_⟩:=Qbk hT
 simp [Builtin.cap_,run_underlying hu]
theorem Qcy {T:TypeId}{x:Operand}{a0:Option Addr}{n cap sz:Nat} (hx:Has Γ x (val (.slice a0 n cap))) (hT:slB c.P T sz=true) :
  PJ c ⟨some d, .call {callee:= .builtin .cap,args:=#[x],argTypes:=#[T]},ty,pos,aft,g⟩ Γ H (i64.slot (cap:Int)):=
 XC fun m hs a w _ _ _ ho=>by
  have e:a.eval x=_:=hx m a (ho x (by simp [Op.operands,Call.operands]));refine ⟨goInt cap,?_,Yu.2 rfl⟩;have hl:=Qnc (ty:=ty) hT a0 n cap w
  simp only [execOp,resolve,Sem.run_bind,Sem.run_pure,Result.andThen_ok,invoke,builtin]
  simp only [List.map_toArray,List.map_cons,List.map_nil,e,hl,Result.andThen_ok]
theorem Qhq {T sz:Nat}{x y:Operand}{s:Slot} (hx:Has Γ x (val (.slice none 0 0))) (hy:Has Γ y s) (hs:Um s 0) (hT:slB c.P T sz=true) :
  PJ c ⟨od, .slice T x none (some y) none,ty,pos,aft,g⟩ Γ H (val (.slice none 0 0)):=
 XC fun m hs2 a w _ _ _ ho=>by
  have e:a.eval x=_:=hx m a (ho x (by simp [Op.operands]));obtain ⟨kk,ek⟩:=hs m _ (hy m a (ho y (by simp [Op.operands])));have hr:=UY (P:=c.P) hT (a:=none) (len:=0) (cap:=0) (lo:=none) (hi:=some (.int kk 0)) (l:=none) (h:=some 0) (.inl ⟨rfl,rfl⟩) (.inr ⟨kk,0,rfl,rfl⟩) (by simp) (by simp) (by simp) w
  simp only [Option.getD_none,Option.getD_some,Int.toNat_zero,if_true,Nat.sub_self] at hr
  refine ⟨.slice none 0 0,?_,rfl⟩
  simp only [execOp,e,Option.map_none,Option.map_some,ek,Sem.run_bind,hr,Result.andThen_ok,Sem.run_pure]
theorem Qno {S:ByteArray}{xs:List (BitVec 8)} (h:S.data.toList.map UInt8.toBitVec=xs):Has Γ (.const (.string S)) (str.slot xs):=fun _ _ _=>⟨S,rfl,h⟩
theorem Qhr {T:TypeId}{x y:Operand}{s:Slot}{xs:List (BitVec 8)}{i:Int}{z:BitVec 8} (hx:Has Γ x (str.slot xs)) (hy:Has Γ y s) (hs:Um s i) (h:JU xs i=some z) (hT:c.P.underlying T=some .string) :
  PJ c ⟨od, .index T x y,ty,pos,aft,g⟩ Γ H (u8.slot z):=
 XC fun m hs2 a w _ _ _ ho=>by
  obtain ⟨S,eS,hS⟩:=hx m a (ho x (by simp [Op.operands]))
  simp only [List.cons.injEq,and_true] at eS
  obtain ⟨kk,ek⟩:=hs m _ (hy m a (ho y (by simp [Op.operands])));obtain ⟨h0,hi,hz⟩:=Q0 h;subst hS
  simp only [List.length_map,Array.length_toList] at hi
  have hb:S[i.toNat]? = some (S.data[i.toNat]):=by
   have:i.toNat < S.size:=hi
   simp [getElem?_pos,this]; rfl
  refine ⟨.int .u8 (S.data[i.toNat]).toNat,?_,Kh.2 ?_⟩
  ·simp only [execOp,eS,ek,Instr.index,Sem.run_bind,asIntOf,Sem.run_pure,Result.andThen_ok,run_underlying hT,h0,if_true,hb]
  ·rw [←hz]; simp
theorem QeX (cs:Array Value) (n:Nat):(Builtin.zeroCells cs (n+1)).toList=(Builtin.zeroCells cs n).toList++cs.toList:=by
 unfold Builtin.zeroCells
 simp only [Array.toList_map,Array.toList_range,Nat.add_mul,Nat.one_mul,List.range_add,List.map_append,List.map_map]
 congr 1
 apply List.ext_getElem?
 intro t
 by_cases ht:t < cs.size
 ·simp [ht,Nat.mul_add_mod_self_right,Nat.mod_eq_of_lt ht]
 ·simp [ht]
theorem Bo {R:Rep α}{z:α}{cs:Array Value} (hz:KH R z cs.toList) (m:Mem):∀n,Zm R m (Builtin.zeroCells cs n).toList (List.replicate n z)
 | 0=>by simp [Builtin.zeroCells,Zm]
 | n+1=>by
  rw [QeX,List.replicate_succ'];exact (Bo hz m n).append (Zm.single (hz m))
theorem Qfo {P:Program}{w:World}{m:Mem}{hs:Hp}{ST XT T rt:TypeId}{R:Rep α}{z:α}{zc:List Value}{n:Int}
  (hT:slE P ST T R.n=true) (hX:P.underlying XT=some (.int .i64)) (hz:KH R z zc) (hzB:Wx P T=some zc) (hR:Nat.blt 0 R.n=true) (hg:Zk m hs w) (h0:0 < n) (h1:n≤4294967296) :
  ∃v' h1' w',(Builtin.append_ #[ST,XT] rt #[.slice none 0 0, .int .i64 n]).run P w = .ok v' w'∧(own T R v' (List.replicate n.toNat z)).p m h1'∧Zk m (h1'++hs) w'∧Frm w w' m m hs.bs (Hp.bs (h1'++hs)):=by
 obtain ⟨hu,i,zv,hi,hsz,hb0,hb1,hzi,hzc⟩:=Qcv hT;have hzl:zv.cells.toList=zc:=by
  unfold Wx at hzB
  simp [hi,hzi] at hzB
  exact hzB
 have hti:∀w:World,(typeInfo T).run P w = .ok i w:=fun w=>by simp [typeInfo,hi]
 have hsize:∀w:World,(sizeOf T).run P w = .ok R.n w:=fun w=>by simp [sizeOf,hti,hsz]
 have hzv:∀w:World,(zeroValue T).run P w = .ok zv w:=fun w=>by simp [zeroValue,hti,hzi]
 have hn:IntKind.i64.wrap n=n:=IntWalk.i64_in n (by omega);have hbig:¬n*(i.bytes:Int) > 2^48:=by
  have h48:(2:Int)^48=281474976710656:=by decide
  have:n*(i.bytes:Int)≤4294967296*4096:=Int.mul_le_mul h1 (by omega) (by omega) (by decide);rw [h48]; omega
 have hneg:¬n < 0:=by omega
 have hfit:¬(0+n.toNat≤0):=by omega
 have hcap:=Wl (0+n.toNat) 0 (by omega);have hnb:¬(Builtin.nextslicecap (0+n.toNat) 0*i.bytes > 2^48):=by
  have h1:Builtin.nextslicecap (0+n.toNat) 0≤4*4294967296+4096:=by omega
  have h2:Builtin.nextslicecap (0+n.toNat) 0*i.bytes≤(4*4294967296+4096)*4096:=Nat.mul_le_mul h1 hb1;have h3:(4*4294967296+4096)*4096≤2^48:=by decide
  omega
 have hmax:¬(((0+n.toNat:Nat):Int) > IntKind.i64.max):=by
  have:IntKind.i64.max=9223372036854775807:=by decide
  rw [this]; omega
 have hpos:¬n.toNat*R.n=0:=by
  have:0 < R.n:=by simpa [Nat.blt_eq] using hR
  intro h; rcases Nat.mul_eq_zero.1 h with h | h<;>omega
 have hch:(choose (.appendCap (0+n.toNat) 0 T)).run P w = .ok ((Question.appendCap (0+n.toNat) 0 T).cut (w.tape w.drawn (.appendCap (0+n.toNat) 0 T))) w.drew:=by
  rw [run_choose]; rfl
 let newCap:=(Question.appendCap (0+n.toNat) 0 T).cut (w.tape w.drawn (.appendCap (0+n.toNat) 0 T))
 have hnc:n.toNat≤newCap:=by
  have:0+n.toNat≤newCap:=Nat.le_add_right _ _
  omega
 let cs:=(Builtin.zeroCells zv.cells n.toNat).toList++(Builtin.zeroCells zv.cells (newCap - (0+n.toNat))).toList
 have hrun:(Builtin.append_ #[ST,XT] rt #[.slice none 0 0, .int .i64 n]).run P w = .ok (.slice (some ⟨w.heap.size,0,none⟩) (0+n.toNat) newCap) (w.drew.alloc (.cells cs.toArray T)):=by
  simp only [Builtin.append_,List.getElem?_toArray,List.getElem?_cons_zero,List.getElem?_cons_succ]
  simp only [Sem.run_bind,run_underlying hu,run_underlying hX,Result.andThen_ok,hsize,Sem.run_pure,Bool.not_true,if_true,asInt,asIntOf,hn,hneg,if_false,hti,hbig,hfit,hmax,false_and,hnb,hch,run_askRoom,Builtin.firstCells,hpos,hzv,newRow,run_newObj,Bool.false_eq_true]
  have:cs.toArray = #[]++Builtin.zeroCells zv.cells n.toNat++Builtin.zeroCells zv.cells (newCap - (0+n.toNat)):=by simp [cs]
  rw [this]
  rfl
 have hz':KH R z zv.cells.toList:=by rw [hzl]; exact hz
 refine ⟨_, [(w.heap.size,T,cs)],_,hrun, .inr ⟨w.heap.size,newCap,(Builtin.zeroCells zv.cells n.toNat).toList,(Builtin.zeroCells zv.cells (newCap - (0+n.toNat))).toList,by simp,rfl,Bo hz' m _,by simpa using hnc,?_⟩,hg.drew.newOwn T _,(Frm.drew w m _).trans (Frm.alloc w.drew m hs.bs _)⟩;rw [List.length_append,(Bo hz' m n.toNat).length,(Bo hz' m (newCap - (0+n.toNat))).length,List.length_replicate,List.length_replicate,←Nat.add_mul]
 congr 1; omega
theorem Qg5 {ST XT T:TypeId}{x y:Operand}{R:Rep α}{z:α}{zc:List Value}{n:Int} (hx:Has Γ x (val (.slice none 0 0))) (hy:Has Γ y (i64.slot n)) (h0:0 < n∧n≤4294967296)
  (hT:slE c.P ST T R.n=true) (hX:c.P.underlying XT=some (.int .i64)) (hz:KH R z zc) (hzB:Wx c.P T=some zc) (hR:Nat.blt 0 R.n=true) (hN:Nat.blt d c.N=true)
  (k:∀v',J9 c full l ((d,ov v')::Γ) (own T R v' (List.replicate n.toNat z)::H) K) :
  J9 c full (⟨some d, .call {callee:= .builtin .append,args:=#[x,y],argTypes:=#[ST,XT]},ty,pos,aft,none⟩::l) Γ H K:=by
 refine Ur (Γ2:=fun v'=>(d,ov v')::Γ) (H2:=fun v'=>own T R v' (List.replicate n.toNat z)::H) rfl ?_ k;intro m hs a w hg _ hsat he hn;have ex:a.eval x=_:=hx m a (he.opd x);have ey:=Yu.1 (hy m a (he.opd y));obtain ⟨v',h1',w',hrun,ho',hg',hf'⟩:=Qfo (rt:=ty) hT hX hz hzB hR hg h0.1 h0.2;have hr:(execOp a.eval ⟨some d, .call {callee:= .builtin .append,args:=#[x,y],argTypes:=#[ST,XT]},ty,pos,aft,none⟩).run c.P w = .ok (.value v') w':=by
  simp only [execOp,resolve,Sem.run_bind,Sem.run_pure,Result.andThen_ok,invoke,builtin]
  simp only [List.map_toArray,List.map_cons,List.map_nil,ex,ey,hrun,Result.andThen_ok]
 rw [hr];exact ⟨v',m,h1'++hs,hg',he.put (by rw [hn]; simpa [Nat.blt_eq] using hN) (Bv.2 ⟨rfl,own.one ho'⟩),⟨h1',hs,rfl,ho',hsat⟩,hf'⟩
theorem St.freezeIn {a:Act}{w:World}{T Tb b:Nat}{R:Rep α}{v:Value}{xs:List α}{β':Type}{S:Rep β}{S':Rep β'}{y:β}{y':β'}{H1 H2:List Ent} (hk:Pick H (own T R v xs) H1) (hk2:Pick H1 (box b Tb S y) H2)
  (hc:∀m cs,((sl R).slot xs).p m v→S.rel m cs y→S'.rel m cs y') (h:St c Γ H a w):St c Γ (box b Tb S' y'::H2) a w:=by
 obtain ⟨hd,hn,m,hs,hg,hG,he,⟨h1,h2,rfl,ho,hsat⟩,hf⟩:=h.pick hk;obtain ⟨m',hle,hg',hv,hf',_⟩:=own.froze ho hg hf;have hd':Dfr c a.defers w:=hd;obtain ⟨g1,g2,hp,⟨cs,rfl,hr⟩,q⟩:=(hsat.mono hle).pick hk2;exact ⟨hd',hn,m',_,hg'.perm hp,c.G.mono hle hG,he.mono hle,⟨_,g2,rfl,⟨cs,rfl,hc m' cs hv hr⟩,q⟩,hf'.perm hp⟩
theorem QaL {T Tb b:Nat}{R:Rep α}{v:Value}{xs:List α}{β':Type}{S:Rep β}{S':Rep β'}{y:β} (y':β'){H1 H2:List Ent} (hk:Pick H (own T R v xs) H1) (hk2:Pick H1 (box b Tb S y) H2)
  (hc:∀m cs,((sl R).slot xs).p m v→S.rel m cs y→S'.rel m cs y') (k:J9 c full l Γ (box b Tb S' y'::H2) K):J9 c full l Γ H K:=fun a w Q hQ hst=>k a w Q hQ (hst.freezeIn hk hk2 hc)
theorem Qc1 {Q:Exit→Act→World→Prop}{k:List Code}{T Tb b:Nat}{R:Rep α}{v:Value}{xs:List α}{β':Type}{S:Rep β}{S':Rep β'}{y:β} (y':β'){H1 H2:List Ent} (hk:Pick H (own T R v xs) H1) (hk2:Pick H1 (box b Tb S y) H2)
  (hc:∀m cs,((sl R).slot xs).p m v→S.rel m cs y→S'.rel m cs y') (r:Run c Q k Γ (box b Tb S' y'::H2)):Run c Q k Γ H:=fun a w hst=>r a w (hst.freezeIn hk hk2 hc)
theorem Qnk {v:Value}{R:Rep α}{xs:List α}{m:Mem}{cs:List Value} (h:((sl R).slot xs).p m v) (k:(exv v).rel m cs ()):(sl R).rel m cs xs:=by
 rw [k.1]; exact h
theorem Qgf {Q:Exit→Act→World→Prop}{k:List Code}{T:TypeId}{R:Rep α}{b:Nat}{x:α} (ts:List Nat) (hk:Pick H (box b T R x) H') (ht:∀t∈ts,Imp Γ t (val (.pointer (some ⟨b,0,none⟩))))
  (r:Run c Q k (ts.map (fun t=>(t,(ptr R).slot (some x)))++Γ) H'):Run c Q k Γ H:=fun a w hst=>r a w (hst.freezeBox ts hk ht)
def QpA (b:Nat):Option α→Slot
 | none=>val (.pointer none)
 | some _=>val (.pointer (some ⟨b,0,none⟩))
def QpD (b T:Nat) (R:Rep α):Option α→List Ent
 | none=> []
 | some x=> [box b T R x]
end
end Go.Sl
namespace Go.Sl
section
variable {c : Ctx} {full : Array Oper} {l : List Oper} {Γ Γ' : Env} {H H' : List Ent} {K : Act → World → Prop} {d : Tmp} {od : Option Tmp} {ty : TypeId} {pos : String} {aft : Array Edge} {g : Option (Nat × Bool)} {α β : Type}
theorem QiH {ST T:TypeId}{x y:Operand}{R:Rep α}{z:α}{zc:List Value}{n cp:Int} (hx:Has Γ x (i64.slot n)) (hy:Has Γ y (i64.slot cp)) (h0:0≤n) (h1:n≤cp) (h2:cp≤4294967296)
  (hT:slE c.P ST T R.n=true) (hz:KH R z zc) (hzB:Wx c.P T=some zc) (hN:Nat.blt d c.N=true) :
  WJ c ⟨some d, .makeSlice ST x y,ty,pos,aft,g⟩ Γ H (fun v=> [(d,ov v)]) (fun v=>own T R v (List.replicate n.toNat z)::H):=by
 intro m hs a w hg _ hsat ho hN';have ex:=Yu.1 (hx m a (ho x (by simp [Op.operands])));have ey:=Yu.1 (hy m a (ho y (by simp [Op.operands])));obtain ⟨hu,i,zv,hi,hsz,hb0,hb1,hzi,hzc⟩:=Qcv hT;have hti:∀w:World,(typeInfo T).run c.P w = .ok i w:=fun w=>by simp [typeInfo,hi]
 have hsize:∀w:World,(sizeOf T).run c.P w = .ok R.n w:=fun w=>by simp [sizeOf,hti,hsz]
 have hzv:∀w:World,(zeroValue T).run c.P w = .ok zv w:=fun w=>by simp [zeroValue,hti,hzi]
 have hzl:zv.cells.toList=zc:=by
  unfold Wx at hzB
  simp [hi,hzi] at hzB
  exact hzB
 have hn:IntKind.i64.wrap n=n:=IntWalk.i64_in n (by omega);have hc:IntKind.i64.wrap cp=cp:=IntWalk.i64_in cp (by omega);have hbig:¬(i.bytes:Int)*cp > 2^48:=by
  have h48:(2:Int)^48=281474976710656:=by decide
  have:(i.bytes:Int)*cp≤4096*4294967296:=Int.mul_le_mul (by omega) h2 (by omega) (by decide);rw [h48]; omega
 have hneg:¬cp < 0:=by omega
 have hneg2:¬n < 0:=by omega
 have hgt:¬n > cp:=by omega
 let zz:=if cp.toNat*R.n=0 then #[] else zv.cells
 let cells:=((Array.range (cp.toNat*R.n)).map (zz[· % zz.size]!)).toList
 have hrun:(Instr.makeSlice ST (.int .i64 n) (.int .i64 cp)).run c.P w = .ok (.slice (some ⟨w.heap.size,0,none⟩) n.toNat cp.toNat) (w.alloc (.cells cells.toArray T)):=by
  simp only [Instr.makeSlice,Sem.run_bind,run_underlying hu,Result.andThen_ok,asInt,asIntOf,Sem.run_pure,hti,hn,hc,hneg,hneg2,hbig,hgt,decide_false,Bool.or_false,Bool.false_eq_true,if_false,run_askRoom,hsize]
  by_cases hE:cp.toNat*R.n=0
  ·simp only [hE,if_true,Sem.run_pure,Result.andThen_ok,newRow,Sem.run_bind,run_newObj]
   simp only [cells,zz,hE,if_true,Array.toArray_toList]
   rfl
  ·simp only [hE,if_false,Sem.run_bind,hzv,Result.andThen_ok,Sem.run_pure,newRow,run_newObj]
   simp only [cells,zz,hE,if_false,Array.toArray_toList]
   rfl
 have e:(execOp a.eval ⟨some d, .makeSlice ST x y,ty,pos,aft,g⟩).run c.P w = .ok (.value (.slice (some ⟨w.heap.size,0,none⟩) n.toNat cp.toNat)) (w.alloc (.cells cells.toArray T)):=by
  simp only [execOp,ex,ey,Sem.run_bind,hrun]; rfl
 rw [e];have hcl:cells.length=cp.toNat*R.n:=by simp [cells]
 have hrow:∀j,j≤cp.toNat→Zm R m (cells.take (j*R.n)) (List.replicate j z):=by
  intro j hj
  induction j with
  | zero=>simp [Zm]
  | succ j ih=>
   have ih:=ih (by omega);rw [List.replicate_succ',Nat.add_mul,Nat.one_mul,List.take_add];refine ih.append (Zm.single ?_);have:(cells.drop (j*R.n)).take R.n=zc:=by
    apply List.ext_getElem?
    intro t;rw [List.getElem?_take]
    split
    ·rename_i ht
     rw [List.getElem?_drop];have hbnd:j*R.n+t < cp.toNat*R.n:=by
      have:(j+1)*R.n≤cp.toNat*R.n:=Nat.mul_le_mul_right _ hj;rw [Nat.add_mul,Nat.one_mul] at this
      omega
     have hE:cp.toNat*R.n≠0:=by omega
     have hRn:zv.cells.size=R.n:=hzc
     simp only [cells,zz,hE,if_false]
     rw [Array.getElem?_toList,Array.getElem?_map,Array.getElem?_range,if_pos hbnd]
     simp only [Option.map_some,hRn]
     have hmod:(j*R.n+t) % R.n=t:=by rw [Nat.mul_add_mod_self_right]; exact Nat.mod_eq_of_lt ht
     rw [hmod,←hzl];have htl:t < zv.cells.size:=by omega
     simp [htl]
    ·rename_i ht
     have:zc.length=R.n:=by rw [←hzl]; simpa using hzc
     rw [List.getElem?_eq_none (by omega)]
   rw [this]; exact hz m
 have hsplit:cells=cells.take (n.toNat*R.n)++cells.drop (n.toNat*R.n):=(List.take_append_drop _ _).symm;refine ⟨_,m,_,hg.newOwn T cells,QlG (QdN hN hN') qo,⟨[(w.heap.size,T,cells)],hs,rfl, .inr ⟨w.heap.size,cp.toNat,cells.take (n.toNat*R.n),cells.drop (n.toNat*R.n),by simp,by rw [←hsplit],hrow _ (by omega),by simp; omega,by rw [←hsplit,hcl]⟩,hsat⟩,Frm.alloc _ _ _ _⟩
def SE {α α':Type} (R:Rep α) (r:α) (off:Nat) (v':Value) (R':Rep α') (r':α'):Prop:=
 R'.n=R.n∧off+1≤R.n∧∀m cs,v'.oneCell'=true→R.rel m cs r→R'.rel m (cs.take off++ [v']++cs.drop (off+1)) r'
theorem Bm {v v':Value}:SE (exv v) () 0 v' (exv v') ():=⟨rfl,Nat.le_refl _,fun m cs hv h=>by
 rw [h.1]; exact ⟨rfl,hv⟩⟩
theorem Qhi {α':Type}{R:Rep α}{r:α}{off:Nat}{v':Value}{R':Rep α'}{r':α'} (S:Rep β) (y:β) (h:SE R r off v' R' r'):SE (prod R S) (r,y) off v' (prod R' S) (r',y):=by
 obtain ⟨h1,h2,h3⟩:=h;refine ⟨by simp [prod,h1],by simp [prod]; omega,?_⟩;rintro m cs hv ⟨e1,e2,rfl,p,q⟩;have hl:=R.len p;refine ⟨e1.take off++ [v']++e1.drop (off+1),e2,?_,h3 m e1 hv p,q⟩;rw [List.take_append_of_le_length (by omega),List.drop_append_of_le_length (by omega)]
 simp
theorem KC {α':Type}{S:Rep α}{r:α}{off:Nat}{v':Value}{S':Rep α'}{r':α'} (R:Rep β) (x:β) (h:SE S r off v' S' r'):SE (prod R S) (x,r) (R.n+off) v' (prod R S') (x,r'):=by
 obtain ⟨h1,h2,h3⟩:=h;refine ⟨by simp [prod,h1],by simp [prod]; omega,?_⟩;rintro m cs hv ⟨e1,e2,rfl,p,q⟩;have hl:=R.len p;refine ⟨e1,e2.take off++ [v']++e2.drop (off+1),?_,p,h3 m e2 hv q⟩;rw [List.take_append,List.drop_append];have a1:e1.take (R.n+off)=e1:=List.take_of_length_le (by omega);have a2:e1.drop (R.n+off+1) = []:=List.drop_of_length_le (by omega);rw [a1,a2,hl,show R.n+off - R.n=off by omega,show R.n+off+1 - R.n=off+1 by omega]
 simp
theorem UN {α':Type}{T T0:TypeId}{x y:Operand}{b off:Nat}{v':Value}{R:Rep α}{r:α}{R':Rep α'} (r':α') (hx:Has Γ x (val (.pointer (some ⟨b,off,none⟩))))
  (hy:Has Γ y (ov v')) (hk:Pick H (box b T0 R r) H') (hs:SE R r off v' R' r') (hT:szB c.P T 1=true)
  (k:J9 c full l Γ (box b T0 R' r'::H') K):J9 c full (⟨none, .store T x y,ty,pos,aft,none⟩::l) Γ H K:=by
 refine Qbd rfl ?_ k;intro m hs' a w hg _ hsat he hn;have e:a.eval x=_:=hx m a (he.opd x);obtain ⟨ey,h1'⟩:=Bv.1 (hy m a (he.opd y));obtain ⟨h1,h2,hpm,⟨cs,rfl,hr⟩,hs2⟩:=hsat.pick hk;have hg':=hg.perm hpm;obtain ⟨s1,s2,s3⟩:=hs;have hl1:off + [v'].length≤cs.length:=by rw [R.len hr]; exact s2
 have hc:(a.eval y).cells = [v'].toArray:=by rw [ey]; exact WN h1'
 have hrun:(execOp a.eval ⟨none, .store T x y,ty,pos,aft,none⟩).run c.P w = .ok .skip (setBlk w b T0 (cs.take off++ [v']++cs.drop (off+1))):=by
  simp only [execOp,e,Sem.run_bind,UT (o:=off) (cs:=cs) (ds:= [v']) hT hc rfl (by simpa using h1') (hg'.blk (b,T0,cs) (by simp)) hl1]
  rfl
 rw [hrun];refine ⟨m,(b,T0,_)::h2,hg'.setBlk _,he,⟨[_],h2,rfl,⟨_,rfl,s3 m cs h1' hr⟩,hs2⟩,?_⟩;exact Frm.ofPerm hpm (Frm.setBlk (by simp [Hp.bs]))
theorem Ww {α':Type}{T T0:TypeId}{x y:Operand}{b:Nat}{R:Rep α}{r:α}{S:Rep α'}{z:α'} (hx:Has Γ x (val (.pointer (some ⟨b,0,none⟩))))
  (hy:Has Γ y (S.slot z)) (hk:Pick H (box b T0 R r) H') (hn1:Nat.beq R.n S.n=true) (hT:szB c.P T S.n=true)
  (k:J9 c full l Γ (box b T0 S z::H') K):J9 c full (⟨none, .store T x y,ty,pos,aft,none⟩::l) Γ H K:=by
 refine Qbd rfl ?_ k;intro m hs' a w hg _ hsat he hn;have e:a.eval x=_:=hx m a (he.opd x);obtain ⟨ds,hc,hd⟩:=Rep.is_cells (hy m a (he.opd y));obtain ⟨h1,h2,hpm,⟨cs,rfl,hr⟩,hs2⟩:=hsat.pick hk;have hg':=hg.perm hpm;have hRS:R.n=S.n:=Nat.eq_of_beq_eq_true hn1;have hlc:cs.length=S.n:=by rw [R.len hr,hRS]
 have hrun:(execOp a.eval ⟨none, .store T x y,ty,pos,aft,none⟩).run c.P w = .ok .skip (setBlk w b T0 (cs.take 0++ds++cs.drop (0+S.n))):=by
  simp only [execOp,e,Sem.run_bind,UT (o:=0) (cs:=cs) (ds:=ds) hT hc (S.len hd) (S.cell hd) (hg'.blk (b,T0,cs) (by simp)) (by rw [hlc]; omega)]
  rfl
 rw [hrun];have e0:cs.take 0++ds++cs.drop (0+S.n)=ds:=by simp [List.drop_of_length_le (Nat.le_of_eq hlc)]
 rw [e0];refine ⟨m,(b,T0,_)::h2,hg'.setBlk _,he,⟨[_],h2,rfl,⟨_,rfl,hd⟩,hs2⟩,?_⟩;exact Frm.ofPerm hpm (Frm.setBlk (by simp [Hp.bs]))
def CV {γ β β':Type} (R:Rep γ) (v:Value) (xs:List γ) (S:Rep β) (y:β) (S':Rep β') (y':β'):Prop:=∀m cs,((sl R).slot xs).p m v→S.rel m cs y→S'.rel m cs y'
section
variable {γ β' : Type} {R : Rep γ} {v : Value} {xs : List γ} {S : Rep β} {y : β} {S' : Rep β'} {y' : β'}
theorem JI : CV R v xs (exv v) () (sl R) xs:=fun m cs h k=>Qnk h k
theorem JV {δ:Type} (T:Rep δ) (z:δ) (h:CV R v xs S y S' y'):CV R v xs (prod S T) (y,z) (prod S' T) (y',z):=fun m cs hv ⟨e1,e2,e,p,q⟩=>⟨e1,e2,e,h m e1 hv p,q⟩
theorem Qz {δ:Type} (T:Rep δ) (z:δ) (h:CV R v xs S y S' y'):CV R v xs (prod T S) (z,y) (prod T S') (z,y'):=fun m cs hv ⟨e1,e2,e,p,q⟩=>⟨e1,e2,e,p,h m e2 hv q⟩
end
def SX {α α1 β:Type} (R:Rep α) (x:α) (off:Nat) (S:Rep β) (z:β) (R1:Rep α1) (x1:α1):Prop:=
 R1.n=R.n∧off+S.n≤R.n∧∀m cs ds,R.rel m cs x→S.rel m ds z→R1.rel m (cs.take off++ds++cs.drop (off+S.n)) x1
theorem QnP {R:Rep α}{x:α}{off:Nat}{S:Rep β}{z:β}{get:α→β}{set:α→β→α} (h:Path R off S get set):SX R x off S z R (set x z):=⟨rfl,h.fits,fun _ _ _ p q=>h.set_ok p q⟩
theorem UM {R:Rep α}{x x1:α}{off:Nat}{S:Rep β}{z:β}{get:α→β}{set:α→β→α} (h:Path R off S get set) (e:set x z=x1):SX R x off S z R x1:=by
 subst e; exact QnP h
theorem Qoq {α':Type}{R:Rep α}{r:α}{off:Nat}{v':Value}{R':Rep α'}{r':α'} (h:SE R r off v' R' r'):SX R r off (exv v') () R' r':=⟨h.1,h.2.1,fun m cs ds p q=>by
 obtain ⟨rfl,hv⟩:=q;exact h.2.2 m cs hv p⟩
inductive BuildX (P:Program) (T:TypeId) (Γ:Env):{α α':Type}→(R:Rep α)→α→List (Nat×Operand)→(R':Rep α')→α'→Prop
 | nil {α:Type}{R:Rep α}{x:α}:BuildX P T Γ R x [] R x
 | cons {α α' β α1:Type}{i off:Nat}{y:Operand}{S:Rep β}{z:β}{ps:List (Nat×Operand)}{R:Rep α}{x:α}{R1:Rep α1}{x1:α1}{R':Rep α'}{r:α'} :
  Has Γ y (S.slot z)→SX R x off S z R1 x1→U1 P T i=some (off,S.n)→BuildX P T Γ R1 x1 ps R' r→BuildX P T Γ R x ((i,y)::ps) R' r
theorem BuildX.fill {P:Program}{T:TypeId}{α':Type}{R:Rep α}{R':Rep α'}{m:Mem}{a:Act}{ps:List (Nat×Operand)}{x:α}{r:α'} (h:BuildX P T Γ R x ps R' r) :
  ∀ {cs:List Value}{place:Nat→Option (Nat×Nat)},R.rel m cs x→(∀i p,U1 P T i=some p→place i=some p)→(∀p∈ps,Opd Γ m a p.2)→
  ∃cs',Instr.fill place cs.toArray (ps.map fun p=>(p.1,a.eval p.2))=some cs'.toArray∧R'.rel m cs' r:=by
 induction h with
 | nil=>intro cs place hr _ _; exact ⟨cs,rfl,hr⟩
 | @cons α α' β α1 i off y S z ps R x R1 x1 R' r hy hp hpl _ ih=>
  intro cs place hr QdQ ho;obtain ⟨ds,hc,hd⟩:=Rep.is_cells (hy m a (ho (i,y) (by simp)));have hdl:=S.len hd;have hcl:=R.len hr;have hfit:=hp.2.1;obtain ⟨cs',he,hr'⟩:=ih (cs:=cs.take off++ds++cs.drop (off+S.n)) (hp.2.2 m cs ds hr hd) QdQ (fun p hp=>ho p (by simp [hp]));refine ⟨cs',?_,hr'⟩
  simp only [List.map_cons,Instr.fill,QdQ i _ hpl,hc]
  have hsz:ds.toArray.size=S.n:=by simp [hdl]
  have hcond:¬(ds.toArray.size≠S.n∨off+ds.toArray.size > cs.toArray.size):=by
   rintro (h | h)
   ·exact h hsz
   ·simp at h; omega
  have hbool:(decide (ds.toArray.size≠S.n)||decide (off+ds.toArray.size > cs.toArray.size))=false:=by
   simp only [Bool.or_eq_false_iff,decide_eq_false_iff_not]
   exact ⟨fun h=>h hsz,by simp; omega⟩
  have hf:=B8 off ds 0 cs (by omega);have hz:Array.foldl (fun cs (p:Value×Nat)=>cs.setIfInBounds (off+p.2) p.1) cs.toArray ds.toArray.zipIdx=(cs.take off++ds++cs.drop (off+S.n)).toArray:=by
   rw [←Array.foldl_toList,Array.toList_zipIdx];rw [hf]; simp [hdl]
  rw [if_neg (by simpa using hcond)]
  first
   | (rw [hz]; exact he)
   | (simp only [] at hz ⊢; rw [hz]; exact he)
theorem qd {α':Type}{T:TypeId}{R:Rep α}{R':Rep α'}{x:α}{r:α'}{ps:List (Nat×Operand)}{zc:List Value} (hz:KH R x zc) (hT:Wx c.P T=some zc) (hB:Qcq c.P T=true) (ha:R'.ag=true) (h:BuildX c.P T Γ R x ps R' r) :
  PJ c ⟨od, .build T ps.toArray,ty,pos,aft,g⟩ Γ H (R'.slot r):=
 XC fun m hs a w _ _ _ ho=>by
  obtain ⟨zv,hzv,hzc⟩:=Qad hT w;have hop:∀p∈ps,Opd Γ m a p.2:=fun p hp=>ho p.2 (by
   simp only [Op.operands]
   simp only [List.mem_toArray,List.mem_map]
   exact ⟨p,hp,rfl⟩)
  have hpl:∀(place:Nat→Option (Nat×Nat)),(∀i p,U1 c.P T i=some p→place i=some p)→∃cs',Instr.fill place zc.toArray (ps.map fun p=>(p.1,a.eval p.2))=some cs'.toArray∧R'.rel m cs' r:=
   fun place hp=>h.fill (hz m) hp hop
  have BJ:((ps.toArray.map fun (p:Nat×Operand)=>(p.1,a.eval p.2))).toList=ps.map fun p=>(p.1,a.eval p.2):=by simp
  unfold Qcq at hB
  split at hB
  ·rename_i fs hu
   have hall:∀f∈fs.toList,(c.P.info? f.type).isSome=true:=List.all_eq_true.1 hB;obtain ⟨cs',hfill,hr⟩:=hpl ((fs.toList.map fun f=>(f.offset,((c.P.info? f.type).map (·.size)).getD 0)).toArray[·]?) (by
    intro i p hp
    simp only [U1,hu] at hp
    simp only [List.getElem?_toArray,List.getElem?_map,Array.getElem?_toList]
    cases hf:fs[i]? with
    | none=>rw [hf] at hp; simp at hp
    | some f=>
     rw [hf] at hp
     simp only [Option.bind_some] at hp
     cases hi:c.P.info? f.type with
     | none=>rw [hi] at hp; simp at hp
     | some t=>rw [hi] at hp; simp only [Option.map_some] at hp ⊢; simpa [hi] using hp)
   have hmm:(fs.mapM fun f=>do pure (f.offset,←sizeOf f.type):Sem (Array (Nat×Nat))).run c.P w = .ok (fs.toList.map fun f=>(f.offset,((c.P.info? f.type).map (·.size)).getD 0)).toArray w:=by
    have:=Qbg (P:=c.P) (w:=w) fs.toList hall;rw [Array.mapM_eq_mapM_toList,Sem.run_map,this]
    rfl
   have hrun:(Instr.build T (ps.toArray.map fun (p:Nat×Operand)=>(p.1,a.eval p.2))).run c.P w = .ok (.agg cs'.toArray) w:=by
    simp only [Instr.build,Sem.run_bind,hzv,Result.andThen_ok,run_underlying hu,hzc,BJ,hmm,hfill,Sem.run_pure]
   refine ⟨.agg cs'.toArray,?_,?_⟩
   ·show (do let v ←Instr.build T (ps.toArray.map fun (p:Nat×Operand)=>(p.1,a.eval p.2)); pure (Next.value v):Sem Next).run c.P w=_;rw [Sem.run_bind,hrun]; rfl
   ·simp only [Rep.slot,Rep.is,ha]; exact ⟨cs',rfl,hr⟩
  ·rename_i n e hu
   obtain ⟨t,ht⟩:=Option.isSome_iff_exists.1 hB;obtain ⟨cs',hfill,hr⟩:=hpl (fun i=>some (i*t.size,t.size)) (by
    intro i p hp
    simp only [U1,hu,ht,Option.map_some] at hp
    exact hp)
   have hs:(sizeOf e).run c.P w = .ok t.size w:=by simp [sizeOf,typeInfo,ht]
   have hrun:(Instr.build T (ps.toArray.map fun (p:Nat×Operand)=>(p.1,a.eval p.2))).run c.P w = .ok (.agg cs'.toArray) w:=by
    simp only [Instr.build,Sem.run_bind,hzv,Result.andThen_ok,run_underlying hu,hzc,BJ,hs,hfill,Sem.run_pure]
   refine ⟨.agg cs'.toArray,?_,?_⟩
   ·show (do let v ←Instr.build T (ps.toArray.map fun (p:Nat×Operand)=>(p.1,a.eval p.2)); pure (Next.value v):Sem Next).run c.P w=_;rw [Sem.run_bind,hrun]; rfl
   ·simp only [Rep.slot,Rep.is,ha]; exact ⟨cs',rfl,hr⟩
  ·cases hB
theorem Qnu {x y:Operand}{ts:Array TypeId}{p q:Int} (hx:Has Γ x (i64.slot p)) (hy:Has Γ y (i64.slot q)) :
  PJ c ⟨od, .call {callee:= .builtin .min,args:=#[x,y],argTypes:=ts},ty,pos,aft,g⟩ Γ H (i64.slot (if q < p then q else p)):=
 XC fun m hs a w _ _ _ ho=>by
  have ex:=Yu.1 (hx m a (ho x (by simp [Op.operands,Call.operands])));have ey:=Yu.1 (hy m a (ho y (by simp [Op.operands,Call.operands])));refine ⟨.int .i64 (if q < p then q else p),?_,Yu.2 rfl⟩
  simp only [execOp,resolve,Sem.run_bind,Sem.run_pure,Result.andThen_ok,invoke,builtin]
  simp only [List.map_toArray,List.map_cons,List.map_nil,ex,ey,run_min_int2,Result.andThen_ok]
theorem Qme {E1 E2 e:Ent}{P:Ent→Prop} (he:e∈ [E1,E2]) (h1:P E1) (h2:P E2):P e:=by
 simp only [List.mem_cons,List.not_mem_nil,or_false] at he
 rcases he with rfl | rfl
 ·exact h1
 ·exact h2
theorem Qdy {ST T:TypeId}{x y:Operand}{R:Rep α}{z:α}{zc:List Value}{n cp:Int}{zs:List α} (hx:Has Γ x (i64.slot n)) (hy:Has Γ y (i64.slot cp)) (h0:0≤n) (h1:n≤cp) (h2:cp≤4294967296)
  (hT:slE c.P ST T R.n=true) (hz:KH R z zc) (hzB:Wx c.P T=some zc) (e:List.replicate n.toNat z=zs) (hN:Nat.blt d c.N=true)
  (k:∀v,J9 c full l ((d,ov v)::Γ) (own T R v zs::H) K):J9 c full (⟨some d, .makeSlice ST x y,ty,pos,aft,none⟩::l) Γ H K:=by
 subst e; exact BA hx hy h0 h1 h2 hT hz hzB hN k
theorem QgP {ST T:TypeId}{x y:Operand}{R:Rep α}{z:α}{zc:List Value}{n cp:Int}{zs:List α} (hx:Has Γ x (i64.slot n)) (hy:Has Γ y (i64.slot cp)) (h0:0≤n) (h1:n≤cp) (h2:cp≤4294967296)
  (hT:slE c.P ST T R.n=true) (hz:KH R z zc) (hzB:Wx c.P T=some zc) (e:List.replicate n.toNat z=zs) (hN:Nat.blt d c.N=true) :
  WJ c ⟨some d, .makeSlice ST x y,ty,pos,aft,g⟩ Γ H (fun v=> [(d,ov v)]) (fun v=>own T R v zs::H):=by
 subst e; exact QiH hx hy h0 h1 h2 hT hz hzB hN
theorem WS {T T0:TypeId}{x y:Operand}{v:Value} (R:Rep α) (i:Nat){xs:List α}{z:α} (hx:Has Γ x (QaV v (i*R.n))) (hy:Has Γ y (R.slot z)) (hk:Pick H (own T0 R v xs) H') (h1:i < xs.length) (hT:szB c.P T R.n=true)
  (k:J9 c full l Γ (own T0 R v (xs.set i z)::H') K):J9 c full (⟨none, .store T x y,ty,pos,aft,none⟩::l) Γ H K:=
 QhM (off:=0) (by simpa using hx) hy hk h1 (Path.all R) hT k
theorem YS {T T0:TypeId}{x:Operand}{v:Value} (R:Rep α) (i:Nat){xs:List α} (hx:Has Γ x (QaV v (i*R.n))) (hk:Pick H (own T0 R v xs) H') (h1:i < xs.length)
  (hT:tyB c.P T R.ag R.n=true:=by kernel_rfl):PJ c ⟨od, .load T x,ty,pos,aft,g⟩ Γ H (R.slot xs[i]):=
 Qek (off:=0) (by simpa using hx) hk h1 (Path.all R) hT
end
end Go.Sl
namespace Go.Sl
def exE (e:Ent) (h0:Hp):Ent:=⟨fun m hs=>e.p m hs∧hs=h0,fun hm h=>⟨e.mono hm h.1,h.2⟩⟩
inductive LU (e:Ent) (Γ:Env):Env→Prop
 | nil:LU e Γ []
 | cons {t:Nat}{s s0:Slot}{U:Env}:lk Γ t=some s0→(∀m v,s0.p m v→(lnt [e] s).p m v)→LU e Γ U→LU e Γ ((t,s)::U)
theorem LU.opd {e:Ent}{Γ U:Env} (h:LU e Γ U){m M:Mem}{a:Act}{h1:Hp} (hle:Mle m M) (he:e.p M h1) (hh:QjO M h1){t:Nat} (ho:∀s,lk Γ t=some s→s.p m (a.tmps.getD t undef)) :
  ∀s,lk (U++Γ) t=some s→s.p M (a.tmps.getD t undef):=by
 induction h with
 | nil=>exact fun s e=>s.mono hle (ho s e)
 | @cons t' s' s0 U hl hs0 _ ih=>
  intro s e'
  by_cases ht:t'=t
  ·subst ht;rw [List.cons_append,Yc] at e'
   cases e'
   exact hs0 _ _ (ho _ hl) M h1 hle ⟨h1, [],by simp,he,rfl⟩ hh
  ·rw [List.cons_append,XF ht] at e';exact ih s e'
theorem QpC {m:Mem}{h1 h2:Hp}{w:World} (hg:Zk m (h1++h2) w):Zk (ext m h1) h2 w∧Mle m (ext m h1)∧QjO (ext m h1) h1:=by
 have hn:=hg.nodup;rw [Hp.bs_append,List.nodup_append] at hn;have hg1:Zk m h1 w:=⟨hg.mem,hn.1,fun x hx=>hg.blk x (by simp [hx]),fun x hx=>hg.free x (by simp [hx])⟩;refine ⟨⟨hg1.ext.mem,hn.2.1,fun x hx=>hg.blk x (by simp [hx]),fun x hx o=>?_⟩,WW hg1,?_⟩
 ·rw [QeI (fun h=>hn.2.2 _ h _ (List.mem_map_of_mem (f:=(·.1)) hx) rfl)];exact hg.free x (by simp [hx]) o
 ·rintro ⟨b,T,cs⟩ hb j v e;rw [Nat.zero_add,qT hn.1 hb]; exact e
section
variable {c : Ctx} {full : Array Oper} {l : List Oper} {Γ Γ' : Env} {H H' : List Ent} {K : Act → World → Prop} {d : Tmp} {od : Option Tmp} {ty : TypeId} {pos : String} {aft : Array Edge} {g : Option (Nat × Bool)} {α β : Type}
theorem ZC {S f off k n:Nat}{x:Operand}{v:Value} (hx:Has Γ x (QaV v (k*n))) (hf:Qg0 c.P S f off=true:=by kernel_rfl):PJ c ⟨od, .fieldAddr S x f,ty,pos,aft,g⟩ Γ H (QaV v (k*n+(0+off))):=by
 rw [Nat.zero_add]; exact QcW hx hf
theorem YM {S f off k n o1:Nat}{x:Operand}{v:Value} (hx:Has Γ x (QaV v (k*n+o1))) (hf:Qg0 c.P S f off=true:=by kernel_rfl):PJ c ⟨od, .fieldAddr S x f,ty,pos,aft,g⟩ Γ H (QaV v (k*n+(o1+off))):=by
 rw [←Nat.add_assoc]; exact QcW hx hf
theorem ZU {T T0 off:Nat}{x:Operand}{v:Value} (R:Rep α){S:Rep β}{xs:List α}{y:α}{z:β}{get:α→β}{set:α→β→α} (i:Int) (hx:Has Γ x (QaV v (i.toNat*R.n+off))) (hk:Pick H (own T0 R v xs) H') (h:JU xs i=some y) (hp:Path R off S get set)
  (hT:tyB c.P T S.ag S.n=true) (e:get y=z):PJ c ⟨od, .load T x,ty,pos,aft,g⟩ Γ H (S.slot z):=by
 obtain ⟨h0,h1,rfl⟩:=Q0 h;subst e;exact Qek hx hk h1 hp hT
end
end Go.Sl
namespace Go.Sl
def AtE (e:Ent) (b o:Nat) (row:List Value):Prop:=∀m h,e.p m h→QjO m h→At m b o row
theorem AtE.mid {e:Ent}{b o:Nat}{row:List Value} (h:AtE e b o row) (k n:Nat):AtE e b (o+k) ((row.drop k).take n):=fun m hs he hh=>(h m hs he hh).mid k n
theorem AtE.cells {e:Ent}{H H':List Ent}{m:Mem}{hs:Hp}{w:World}{b o:Nat}{row:List Value} (h:AtE e b o row) (hg:Zk m hs w) (hsat:Sat H m hs) (hk:Pick H e H') (j:Nat) (v:Value) (ev:row[j]? = some v):w.cell? ⟨b,o+j,none⟩=some v:=by
 obtain ⟨h1,h2,hp,he,hsat2⟩:=hsat.pick hk;obtain ⟨hgM,hle,hh⟩:=QpC (hg.perm hp);exact hgM.mem _ _ _ (h _ _ (e.mono hle he) hh j v ev)
section
variable {α β γ : Type}
def slH (e:Ent) (R:Rep α):Rep (List α) where
 n:=1
 ag:=false
 rel:=fun m cs l=>∃a cap,cs = [.slice a l.length cap]∧l.length≤cap∧(l = []∨∃b o row,a=some ⟨b,o,none⟩∧Zm R m row l∧AtE e b o row)
 mono:=fun hm ⟨a,cap,e,hc,h⟩=>⟨a,cap,e,hc,h.imp id fun ⟨b,o,row,e',p,q⟩=>⟨b,o,row,e',p.mono hm,q⟩⟩
 len:=fun ⟨a,cap,e,_,_⟩=>by rw [e]; rfl
 cell:=fun ⟨a,cap,e,_,_⟩ v hv=>by rw [e] at hv; simp at hv; subst hv; rfl
 one:=fun _=>rfl
def LE (e:Ent) (R R':Rep α):Prop:=R'.ag=R.ag∧∀m cs x m' h,Mle m m'→e.p m' h→QjO m' h→R.rel m cs x→R'.rel m' cs x
theorem LE.refl {e:Ent} (R:Rep α):LE e R R:=⟨rfl,fun _ _ _ _ _ hm _ _ h=>R.mono hm h⟩
theorem LE.sl {e:Ent} (R:Rep α):LE e (slH e R) (sl R):=⟨rfl,fun m cs x m' h hm he hh ⟨a,cap,e1,hc,k⟩=>⟨a,cap,e1,hc,k.imp id fun ⟨b,o,row,e',p,q⟩=>⟨b,o,row,e',p.mono hm,q _ _ he hh⟩⟩⟩
theorem LE.prod {e:Ent}{R R':Rep α}{S S':Rep β} (h:LE e R R') (k:LE e S S'):LE e (prod R S) (prod R' S'):=⟨rfl,fun m cs x m' hs hm he hh ⟨c1,c2,e1,p,q⟩=>⟨c1,c2,e1,h.2 _ _ _ _ _ hm he hh p,k.2 _ _ _ _ _ hm he hh q⟩⟩
theorem LE.lnt {e:Ent}{R R':Rep α} (h:LE e R R'){x:α}{m:Mem}{v:Value} (hv:(R.slot x).p m v):(Go.Sl.lnt [e] (R'.slot x)).p m v:=by
 intro m' hs hle hsat hh;obtain ⟨g1,g2,rfl,hg1,rfl⟩:=hsat;rw [List.append_nil] at hh
 simp only [Rep.slot,Rep.is,h.1] at hv ⊢
 split at hv
 ·rename_i ha
  obtain ⟨cs,e1,hr⟩:=hv;exact ⟨cs,e1,h.2 _ _ _ _ _ hle hg1 hh hr⟩
 ·exact h.2 _ _ _ _ _ hle hg1 hh hv
variable {c : Ctx} {full : Array Oper} {l : List Oper} {Γ Γ' : Env} {H H' : List Ent} {K : Act → World → Prop} {d : Tmp} {od : Option Tmp} {ty : TypeId} {pos : String} {aft : Array Edge} {g : Option (Nat × Bool)} {e : Ent}
end
section
variable {α β : Type} {c : Ctx} {full : Array Oper} {l : List Oper} {Γ : Env} {H H' : List Ent} {K : Act → World → Prop} {d : Tmp} {ty : TypeId} {pos : String} {aft : Array Edge}
end
end Go.Sl
namespace Go.Sl
section
variable {P : Program} {b : Frame} {a : Act} {k : List Item} {cs : List Frame} {w : World}
theorem Wy {c:Code}:step P (lone (b.atR a (.code (.scope c)::k)) cs w) = .next (lone (b.atR a (.code c:: .inScope c::k)) cs w):=
 step_lone_go (by simp [stepG,stepG.exec,Frame.atR])
theorem Qga {c:Code}:step P (lone (b.atR a (.inScope c::k)) cs w) = .next (lone (b.atR a k) cs w):=
 step_lone_go (by simp [stepG,stepG.exec,Frame.atR])
end
theorem Qji {F:Fence}{n:Nat}{P:Program}{Q:Exit→Act→World→Prop}{a:Act}{w:World}{c:Code} (h:c.wpIn F n P (Exit.noGoto Q) a w):(Code.scope c).wpIn F n P Q a w:=by
 intro b k cs hro hb hr;have h0:(lone (b.atR a (.code (.scope c)::k)) cs w).fenced P F:=fenced_calm hb hr rfl;obtain ⟨e,a₁,w₁,hq,harr⟩:=h b (.inScope c::k) cs hro hb hr
 cases e with
 | normal=>exact ⟨.normal,a₁,w₁,hq, .head h0 Wy (StepsIn.trans harr (.one (fenced_calm hb hr rfl) Qga))⟩
 | exit id=>
  have hx:exitTo id (.inScope c::k)=exitTo id k:=by simp [exitTo]
  exact ⟨_,a₁,w₁,hq,fun k' hk=> .head h0 Wy (harr.1 k' (by rw [hx]; exact hk)),
   fun hr' hk=>let ⟨k₁,h1,h2⟩:=harr.2 hr' (by rw [hx]; exact hk); ⟨k₁,h1, .head h0 Wy h2⟩⟩
 | goto l=>exact hq.elim
 | ret=>exact ⟨_,a₁,w₁,hq, .of_steps (.one h0 Wy) harr⟩
 | panic ch=>exact ⟨_,a₁,w₁,hq, .of_steps (.one h0 Wy) harr⟩
 | outgrown=>exact ⟨_,a₁,w₁,hq, .of_steps (.one h0 Wy) harr⟩
section
variable {c : Ctx} {Γ : Env} {H : List Ent} {Q : Exit → Act → World → Prop} {k : List Code}
theorem QkU {l:Nat} (h:Run c Q k Γ H):Run c Q (.label l::k) Γ H:=fun a w hst=>wpIn_label (h a w hst)
end
def NG (Q:Exit→Act→World→Prop):Prop:=∀l a w,¬Q (.goto l) a w
theorem Qpq {σ ρ:Type}{id:Nat}{I:σ→Act→World→Prop}{R:ρ→Act→World→Prop}{r:LR σ ρ}:NG (LQ id I R r):=by
 intro l a w h
 cases r with
 | next s=>exact absurd h.1 (by simp)
 | brk s=>exact absurd h.1 (by simp)
 | ret x=>exact absurd h.1 (by simp)
theorem Qpu {id:Nat}{n:Act→World→Prop}{Q:Exit→Act→World→Prop} (h:NG Q):NG (BQ id n Q):=fun l a w hq=>h l a w hq
section
variable {c : Ctx} {Γ : Env} {H : List Ent} {Q : Exit → Act → World → Prop} {k : List Code}
theorem Qk5 {x:Code} (hn:NG Q) (h:Run c Q (x::k) Γ H):Run c Q (.scope x::k) Γ H:=fun a w hst=>
 Qji (wpIn_mono (h a w hst) fun e a' w' he=>by
  cases e with
  | goto l=>exact absurd he (hn l a' w')
  | _=>exact he)
end
def Ocv {β β':Type} (H:List Ent) (S:Rep β) (y:β) (S':Rep β') (y':β'):Prop:=∀m hs w,Zk m hs w→Sat H m hs→∀cs,S.rel (ext m hs) cs y→S'.rel (ext m hs) cs y'
section
variable {α β β' β1 : Type} {c : Ctx} {Γ : Env} {H H' : List Ent}
theorem Zn {S:Rep β}{y:β}:Ocv H S y S y:=fun _ _ _ _ _ _ h=>h
theorem QnR {T:TypeId}{v:Value}{R:Rep α}{xs:List α} (hk:Pick H (own T R v xs) H'){m:Mem}{hs:Hp}{w:World} (hg:Zk m hs w) (hsat:Sat H m hs):((sl R).slot xs).p (ext m hs) v:=by
 obtain ⟨h1,h2,hp,ho,_⟩:=hsat.pick hk
 rcases ho with ⟨rfl,_,ad,rfl⟩ | ⟨b,cap,row,spare,rfl,rfl,hr,hc,hl⟩
 ·exact ⟨ad,0,rfl,Nat.le_refl _, .inl rfl⟩
 ·refine ⟨_,cap,rfl,hc, .inr ⟨b,0,row,rfl,hr.mono (WW hg),fun j u ev=>?_⟩⟩;rw [qT (T:=T) (cs:=row++spare) hg.nodup (hp.mem_iff.2 (by simp)),Nat.zero_add,List.getElem?_append_left]
  ·exact ev
  ·exact (List.getElem?_eq_some_iff.1 ev).1
theorem QY {T:TypeId}{v:Value}{R:Rep α}{xs:List α}{S:Rep β}{y:β}{S1:Rep β1}{y1:β1}{S':Rep β'}{y':β'} (hk:Pick H (own T R v xs) H') (hc:CV R v xs S y S1 y1) (h:Ocv H S1 y1 S' y'):Ocv H S y S' y':=
 fun m hs w hg hsat cs hr=>h m hs w hg hsat cs (hc _ _ (QnR hk hg hsat) hr)
theorem Zo {x:Operand}{b:Nat}{T:TypeId}{S:Rep β}{y:β}{R:Rep β'}{r:β'} (hx:Has Γ x (val (.pointer (some ⟨b,0,none⟩)))) (hk:Pick H (box b T S y) H') (ho:Ocv H S y R r):Qhz c Γ H x ((ptr R).slot (some r)):=by
 intro m hs a w hg hsat hop;have e:a.eval x=_:=hx m a hop;rw [e];obtain ⟨cs,hmem,hr⟩:=Sat.box (w:=w) hsat hk;exact ⟨b,0,cs,rfl,ho m hs w hg hsat cs (S.mono (WW hg) hr),fun j u ev=>by rw [qT (T:=T) (cs:=cs) hg.nodup hmem,Nat.zero_add]; exact ev⟩
end
def XE (H H':List Ent):Prop:=∀m hs,Sat H m hs→Sat H' m hs
theorem QG {H:List Ent}:XE H H:=fun _ _ h=>h
theorem Qj {e:Ent}{h0:Hp}{H H':List Ent} (h:XE H H'):XE (exE e h0::H) (e::H'):=fun m hs ⟨h1,h2,e1,p,q⟩=>⟨h1,h2,e1,p.1,h m h2 q⟩
theorem QB {e:Ent}{H H':List Ent} (h:XE H H'):XE (e::H) (e::H'):=fun m hs ⟨h1,h2,e1,p,q⟩=>⟨h1,h2,e1,p,h m h2 q⟩
def QfB (E:List Ent):Prop:=∃h0,∀m hs,Sat E m hs→hs=h0
theorem QjK : QfB []:=⟨[],fun _ _ h=>h⟩
theorem qD {e:Ent}{h0:Hp}{E:List Ent} (h:QfB E):QfB (exE e h0::E):=by
 obtain ⟨g0,hg⟩:=h;refine ⟨h0++g0,fun m hs hs'=>?_⟩;obtain ⟨h1,h2,rfl,⟨_,rfl⟩,q⟩:=hs';rw [hg m h2 q]
section
variable {c : Ctx} {Γ : Env} {H H' : List Ent} {od : Option Tmp} {ty : TypeId} {pos : String} {aft : Array Edge} {g : Option (Nat × Bool)}
theorem PJ.xe {o:Oper}{s:Slot} (h:XE H H') (k:PJ c o Γ H' s):PJ c o Γ H s:=fun m hs a w hg hG hsat ho=>k m hs a w hg hG (h m hs hsat) ho
theorem Qap {κ ι:Type}{f:FuncId}{args:List Operand}{ats:Array TypeId}{A:List Slot}{s:Slot}{E0:List Ent} (E:κ→List Ent) (hA:BH Γ args A) (hk:Parts H E0 H') (hX:∀m hs,Sat E0 m hs→∃i,Sat (E i) m hs) (hE:∀i,QfB (E i)) (hf:WE c.P f=true)
  (hC:∀i,Ctr c.P c.G f A (E i) (fun _:ι=>s) (fun _=>E i)):PJ c ⟨od, .call {callee:= .value (.func f),args:=args.toArray,argTypes:=ats},ty,pos,aft,g⟩ Γ H s:=by
 intro m hs a w hg hG hsat ho;rw [WU hf a.eval (.func f) (Qdg (Γ:=Γ) m a trivial)];have hall:=hA.all (m:=m) (a:=a) (fun y hy=>ho y (by simp [Op.operands,Call.operands,hy]));obtain ⟨h1,h2,hp,he0,hsat2⟩:=hsat.parts hk;obtain ⟨i,he⟩:=hX _ _ he0;have hg1:=hg.perm hp;have hn:=hg1.nodup;rw [Hp.bs_append,List.nodup_append] at hn;have hg0:Zk m h1 w:=⟨hg.mem,hn.1,fun x hx=>hg1.blk x (by simp [hx]),fun x hx=>hg1.free x (by simp [hx])⟩;refine (hC i m w (args.map a.eval) h1 hg0 hG hall he).mono ?_;rintro en w' ⟨v,m',hs',i',rfl,hg',hv,he',hf'⟩;obtain ⟨h0,h0e⟩:=hE i;have e1:=h0e _ _ he;have e2:=h0e _ _ he';subst e1; subst e2;have hold:∀b',b' < w.heap.size→w'.heap[b']? = w.heap[b']?∧∀o,m' b' o=m b' o:=by
  intro b' hlt
  by_cases hb:b'∈Hp.bs hs'
  ·obtain ⟨x,hx,rfl⟩:=List.mem_map.1 hb;exact ⟨by rw [hg'.blk x hx,hg0.blk x hx],fun o=>by rw [hg'.free x hx,hg0.free x hx]⟩
  ·exact hf'.old b' hlt hb
 refine ⟨v,rfl,m',?_,hv,⟨hf'.os,hf'.tape,hf'.output,hf'.size,fun b' hlt _=>hold b' hlt,(fun b hb=>by cases hb),hf'.le⟩⟩;refine ⟨hg'.mem,hg.nodup,fun x hx=>?_,fun x hx o=>?_⟩
 ·have hlt:=hg.ltb (List.mem_map_of_mem (f:=(·.1)) hx);rw [(hold x.1 hlt).1];exact hg.blk x hx
 ·have hlt:=hg.ltb (List.mem_map_of_mem (f:=(·.1)) hx);rw [(hold x.1 hlt).2 o];exact hg.free x hx o
end
theorem Qfm {e1 e2 e3 e4:Ent} (m:Mem) (hs:Hp) (h:Sat [e1,e2,e3,e4] m hs):∃i:Hp×Hp×Hp×Hp,Sat [exE e1 i.1,exE e2 i.2.1,exE e3 i.2.2.1,exE e4 i.2.2.2] m hs:=by
 obtain ⟨h1,r1,rfl,p1,h2,r2,rfl,p2,h3,r3,rfl,p3,h4,r4,rfl,p4,rfl⟩:=h;exact ⟨(h1,h2,h3,h4),h1,_,rfl,⟨p1,rfl⟩,h2,_,rfl,⟨p2,rfl⟩,h3,_,rfl,⟨p3,rfl⟩,h4,_,rfl,⟨p4,rfl⟩,rfl⟩
theorem QbJ {e1 e2 e3 e4:Ent} (i:Hp×Hp×Hp×Hp):QfB [exE e1 i.1,exE e2 i.2.1,exE e3 i.2.2.1,exE e4 i.2.2.2]:=qD (qD (qD (qD QjK)))
theorem Ctr.frozeL {β:Type}{P:Program}{G:GP}{f:FuncId}{A:List Slot}{E:List Ent}{T':TypeId}{R':Rep β}{xs:List β} (h:Ctr P G f A E (fun v:Value=>ov v) (fun v=>E++ [own T' R' v xs])) :
  Ctr P G f A E (fun _:Unit=>(sl R').slot xs) (fun _=>E):=by
 intro m w vs hs hg hG hA hsat;refine (h m w vs hs hg hG hA hsat).mono ?_;rintro en w' ⟨v,m',hs',i,rfl,hg',hv,hsat',hf'⟩;obtain ⟨h1,h2,rfl,hb,h3,h4,rfl,ho,h4e⟩:=hsat'.split
 cases h4e
 rw [List.append_nil] at hg' hf';have hp:(h1++h3).Perm (h3++h1):=List.perm_append_comm;obtain ⟨m2,hle,hg2,hv2,hf2,_⟩:=own.froze ho (hg'.perm hp) (hf'.perm hp);have:v=i:=(Bv.1 hv).1;subst this;exact ⟨v,m2,h1,(),rfl,hg2,hv2,hb.mono hle,hf2⟩
end Go.Sl
namespace Go.Sl
section
variable {α : Type}
def Ug (R:Rep α) (m:Mem):List Value→List (Option α)→Prop
 | cs, []=>cs = []
 | cs,z::zs=>∃c cs',cs=c++cs'∧c.length=R.n∧(∀x,z=some x→R.rel m c x)∧Ug R m cs' zs
theorem Ug.mono {R:Rep α}{m m':Mem} (hm:Mle m m'):∀ {zs:List (Option α)}{cs:List Value},Ug R m cs zs→Ug R m' cs zs
 | [],_,h=>h
 | _::_,_,⟨c,cs',e,l,p,q⟩=>⟨c,cs',e,l,fun x hx=>R.mono hm (p x hx),Ug.mono hm q⟩
theorem Ug.length {R:Rep α}{m:Mem}:∀ {zs:List (Option α)}{cs:List Value},Ug R m cs zs→cs.length=zs.length*R.n
 | [],_,h=>by cases h; simp
 | _::zs,_,⟨c,cs',e,l,p,q⟩=>by
  subst e;rw [List.length_append,l,Ug.length q,List.length_cons,Nat.add_mul,Nat.one_mul,Nat.add_comm]
theorem Ug.append {R:Rep α}{m:Mem}:∀ {xs ys:List (Option α)}{cs ds:List Value},Ug R m cs xs→Ug R m ds ys→Ug R m (cs++ds) (xs++ys)
 | [],_,_,_,h,k=>by cases h; simpa using k
 | _::_,_,_,_,⟨c,cs',e,l,p,q⟩,k=>⟨c,cs'++_,by subst e; simp,l,p,Ug.append q k⟩
theorem Ug.split {R:Rep α}{m:Mem}:∀ {xs ys:List (Option α)}{cs:List Value},Ug R m cs (xs++ys)→∃c1 c2,cs=c1++c2∧Ug R m c1 xs∧Ug R m c2 ys
 | [],_,cs,h=>⟨[],cs,rfl,rfl,h⟩
 | _::_,_,_,⟨c,cs',e,l,p,q⟩=>by
  obtain ⟨c1,c2,e2,h1,h2⟩:=Ug.split q;exact ⟨c++c1,c2,by subst e; subst e2; simp,⟨c,c1,rfl,l,p,h1⟩,h2⟩
theorem Ug.cut {R:Rep α}{m:Mem}{zs:List (Option α)}{cs:List Value} (k:Nat) (h:Ug R m cs zs):Ug R m (cs.take (k*R.n)) (zs.take k)∧Ug R m (cs.drop (k*R.n)) (zs.drop k):=by
 rw [←List.take_append_drop k zs] at h;obtain ⟨c1,c2,rfl,h1,h2⟩:=h.split
 rcases Nat.le_total k zs.length with hk | hk
 ·have hl:=h1.length;rw [List.length_take,Nat.min_eq_left hk] at hl;rw [List.take_left' hl,List.drop_left' hl];exact ⟨h1,h2⟩
 ·have hl:=h1.length;have h2':=h2;rw [List.drop_of_length_le hk] at h2' ⊢;have e:c2 = []:=h2';subst e;rw [List.length_take,Nat.min_eq_right hk] at hl;have:c1.length≤k*R.n:=by rw [hl]; exact Nat.mul_le_mul_right _ hk
  rw [List.append_nil,List.take_of_length_le this,List.drop_of_length_le this];exact ⟨h1,rfl⟩
theorem Ug.of {R:Rep α}{m:Mem}:∀ {xs:List α}{cs:List Value},Zm R m cs xs→Ug R m cs (xs.map some)
 | [],_,h=>h
 | _::_,_,⟨c,cs',e,p,q⟩=>⟨c,cs',e,R.len p,fun x hx=>by cases hx; exact p,Ug.of q⟩
theorem Ug.to {R:Rep α}{m:Mem}:∀ {xs:List α}{cs:List Value},Ug R m cs (xs.map some)→Zm R m cs xs
 | [],_,h=>h
 | _::_,_,⟨c,cs',e,l,p,q⟩=>⟨c,cs',e,p _ rfl,Ug.to q⟩
theorem Ug.nones {R:Rep α}{m:Mem}:∀(k:Nat){cs:List Value},cs.length=k*R.n→Ug R m cs (List.replicate k none)
 | 0,cs,h=>show cs = [] by simpa using h
 | k+1,cs,h=>by
  rw [Nat.add_mul,Nat.one_mul] at h;exact ⟨cs.take R.n,cs.drop R.n,(List.take_append_drop _ _).symm,by rw [List.length_take]; omega,fun x hx=>by simp at hx,Ug.nones k (by rw [List.length_drop]; omega)⟩
def arr (b:Nat) (T:TypeId) (R:Rep α) (zs:List (Option α)):Ent where
 p:=fun m hs=>∃cs,hs = [(b,T,cs)]∧Ug R m cs zs
 mono:=fun hm ⟨cs,e,h⟩=>⟨cs,e,h.mono hm⟩
theorem Qm8 {T:TypeId}{R:Rep α}{v:Value}{xs:List α}{m:Mem}{hs:Hp} (h:(own T R v xs).p m hs) (hne:xs≠ []) :
  ∃b k,v = .slice (some ⟨b,0,none⟩) xs.length (xs.length+k)∧(arr b T R (xs.map some++List.replicate k none)).p m hs:=by
 obtain ⟨b,cap,row,spare,hv,rfl,hr,hc,hl⟩:=own.at h hne;have hrl:=hr.length;refine ⟨b,cap - xs.length,by rw [hv]; congr 1; omega,_,rfl,(Ug.of hr).append (Ug.nones _ ?_)⟩;rw [List.length_append,hrl] at hl;rw [Nat.sub_mul]; omega
theorem QnX {b:Nat}{T:TypeId}{R:Rep α}{xs:List α}{k:Nat}{m:Mem}{hs:Hp} (h:(arr b T R (xs.map some++List.replicate k none)).p m hs) :
  (own T R (.slice (some ⟨b,0,none⟩) xs.length (xs.length+k)) xs).p m hs:=by
 obtain ⟨cs,rfl,hr⟩:=h;have hl:=hr.length;obtain ⟨c1,c2,rfl,h1,h2⟩:=hr.split;refine .inr ⟨b,xs.length+k,c1,c2,rfl,rfl,Ug.to h1,by omega,?_⟩;rw [hl]; simp
variable {c : Ctx} {full : Array Oper} {l : List Oper} {Γ Γ' : Env} {H H' : List Ent} {K : Act → World → Prop} {d : Tmp} {od : Option Tmp} {ty : TypeId} {pos : String} {aft : Array Edge} {g : Option (Nat × Bool)}
theorem Qgv {T:TypeId}{R:Rep α}{v:Value}{xs:List α} (hk:Pick H (own T R v xs) H') (hne:xs≠ [])
  (k:∀b n,v = .slice (some ⟨b,0,none⟩) xs.length (xs.length+n)→J9 c full l Γ (arr b T R (xs.map some++List.replicate n none)::H') K):J9 c full l Γ H K:=by
 intro a w Q hQ hst;obtain ⟨hd,hn,m,hs,hg,hG,he,⟨h1,h2,rfl,hown,hsat2⟩,hf⟩:=hst.pick hk;obtain ⟨b,n,hv,ha⟩:=Qm8 hown hne;exact k b n hv a w Q hQ ⟨hd,hn,m,_,hg,hG,he,⟨h1,h2,rfl,ha,hsat2⟩,hf⟩
theorem Qg8 {Q:Exit→Act→World→Prop}{kk:List Code}{b:Nat}{T:TypeId}{R:Rep α}{zs:List (Option α)} (xs:List α) (n:Nat) (hk:Pick H (arr b T R zs) H') (hz:zs=xs.map some++List.replicate n none)
  (r:Run c Q kk Γ (own T R (.slice (some ⟨b,0,none⟩) xs.length (xs.length+n)) xs::H')):Run c Q kk Γ H:=by
 subst hz;intro a w hst;obtain ⟨hd,hn,m,hs,hg,hG,he,⟨h1,h2,rfl,ha,hsat2⟩,hf⟩:=hst.pick hk;exact r a w ⟨hd,hn,m,_,hg,hG,he,⟨h1,h2,rfl,QnX ha,hsat2⟩,hf⟩
theorem Wt {x:Operand}{v:Value} (h:Has Γ x (ov v)):Has Γ x (val v):=fun m a ho=>(Bv.1 (h m a ho)).1
def Qpp (c:Ctx) (Γ:Env) (H:List Ent) (x:Operand) (R:Rep α) (N:Nat) (xs:List α):Prop:=
 ∀m hs a w,Zk m hs w→Sat H m hs→Opd Γ m a x→∃a0 cap,a.eval x = .slice a0 N cap∧(xs = []∨∃b o row,a0=some ⟨b,o,none⟩∧Zm R m row xs∧∀j v,row[j]? = some v→w.cell? ⟨b,o+j,none⟩=some v)
theorem Qdb {x:Operand}{b lo N cap:Nat}{T:TypeId}{R:Rep α}{zs:List (Option α)}{xs:List α} (hx:Has Γ x (val (.slice (some ⟨b,lo*R.n,none⟩) N cap))) (hk:Pick H (arr b T R zs) H') (h:(zs.drop lo).take xs.length=xs.map some):Qpp c Γ H x R N xs:=by
 intro m hs a w hg hsat he;have e:a.eval x=_:=hx m a he;obtain ⟨h1,h2,hp,⟨cs,rfl,hr⟩,_⟩:=hsat.pick hk;have hmem:(b,T,cs)∈hs:=hp.mem_iff.2 (by simp);have h3:=((hr.cut lo).2.cut xs.length).1;rw [h] at h3;refine ⟨_,cap,e, .inr ⟨b,lo*R.n,_,rfl,Ug.to h3,fun j u ev=>?_⟩⟩;rw [List.getElem?_take] at ev
 split at ev
 ·rw [List.getElem?_drop] at ev; exact hg.cells hmem _ _ ev
 ·cases ev
theorem QeK {DT ST T:TypeId}{b lo n cap N:Nat}{x y:Operand}{R:Rep α}{zs:List (Option α)}{xs:List α} (hx:Has Γ x (val (.slice (some ⟨b,lo*R.n,none⟩) n cap))) (hk:Pick H (arr b T R zs) H') (hy:Qpp c Γ H y R N xs) (hmin:min N n=xs.length) (hlo:lo+xs.length≤zs.length)
  (hT:slB c.P DT R.n=true) (hN:Nat.blt d c.N=true)
  (k:J9 c full l ((d,i64.slot ((xs.length:Nat):Int))::Γ) (arr b T R (zs.take lo++xs.map some++zs.drop (lo+xs.length))::H') K) :
  J9 c full (⟨some d, .call {callee:= .builtin .copy,args:=#[x,y],argTypes:=#[DT,ST]},ty,pos,aft,none⟩::l) Γ H K:=by
 refine Qbd rfl ?_ k;intro m hs a w hg _ hsat he hn;have ex:a.eval x=_:=hx m a (he.opd x);obtain ⟨a0,cap0,ey,hsrc⟩:=hy m hs a w hg hsat (he.opd y);obtain ⟨g1,g2,hpm,⟨cs,hcs,hr⟩,hs2⟩:=hsat.pick hk;subst hcs;have hg':=hg.perm hpm;obtain ⟨e,hu,hsz⟩:=Qbk hT;have hsize:=UC hsz w;obtain ⟨row,hrun1,hrow,_⟩:=Src.run (P:=c.P) (R:=R) (cap:=cap0) hsrc xs.length (Nat.le_refl _);rw [List.take_length] at hrow;have hrl:=hrow.length;have hcl:=hr.length;have hlen:lo*R.n+row.length≤cs.length:=by
  rw [hrl,hcl,←Nat.add_mul];exact Nat.mul_le_mul_right _ hlo
 have hst:=UJ (P:=c.P) (b:=b) (o:=lo*R.n) (T:=T) row 0 cs w hrow.cell (hg'.blk (b,T,cs) (by simp)) (by simpa using hlen)
 simp only [Nat.add_zero] at hst
 have hfc:(Builtin.firstCells R.n xs.length (.slice a0 N cap0)).run c.P w = .ok row.toArray w:=by
  rw [←hrun1]; cases a0<;>rfl
 have hcopy:(Builtin.copy_ #[DT,ST] ty #[.slice (some ⟨b,lo*R.n,none⟩) n cap, .slice a0 N cap0]).run c.P w = .ok (goInt ((xs.length:Nat):Int)) (setBlk w b T (cs.take (lo*R.n)++row++cs.drop (lo*R.n+row.length))):=by
  simp only [Builtin.copy_,List.getElem?_toArray,List.getElem?_cons_zero,List.getElem?_cons_succ]
  simp only [Sem.run_bind,run_underlying hu,Result.andThen_ok,Builtin.lenOf,Sem.run_pure,hsize]
  have e3:Nat.min N n=xs.length:=hmin;rw [e3]
  simp only [hfc,Result.andThen_ok,Sem.run_bind,hst,Sem.run_pure]
 have hrun:(execOp a.eval ⟨some d, .call {callee:= .builtin .copy,args:=#[x,y],argTypes:=#[DT,ST]},ty,pos,aft,none⟩).run c.P w = .ok (.value (goInt ((xs.length:Nat):Int))) (setBlk w b T (cs.take (lo*R.n)++row++cs.drop (lo*R.n+row.length))):=by
  simp only [execOp,resolve,Sem.run_bind,Sem.run_pure,Result.andThen_ok,invoke,builtin]
  simp only [List.map_toArray,List.map_cons,List.map_nil,ex,ey,hcopy,Result.andThen_ok]
 rw [hrun];refine ⟨m,(b,T,cs.take (lo*R.n)++row++cs.drop (lo*R.n+row.length))::g2,hg'.setBlk _,he.put (by rw [hn]; simpa [Nat.blt_eq] using hN) (Yu.2 rfl),⟨[_],g2,rfl,⟨_,rfl,?_⟩,hs2⟩,Frm.ofPerm hpm (Frm.setBlk (by simp [Hp.bs]))⟩;have e4:lo*R.n+row.length=(lo+xs.length)*R.n:=by rw [hrl,Nat.add_mul]
 rw [e4];exact (((hr.cut lo).1.append (Ug.of hrow)).append (hr.cut _).2)
theorem Qhd {T sz b o n cap:Nat}{x:Operand}{lo hi:Option Operand}{p q:Option Int} (hx:Has Γ x (val (.slice (some ⟨b,o,none⟩) n cap))) (hlo:OptI Γ lo p) (hhi:OptI Γ hi q) (p' q':Nat)
  (hp:p.getD 0=(p':Int)) (hq:q.getD n=(q':Int)) (h1:p'≤q') (h2:q'≤cap) (h3:p' < cap) (hT:slB c.P T sz=true) :
  PJ c ⟨od, .slice T x lo hi none,ty,pos,aft,g⟩ Γ H (val (.slice (some ⟨b,o+p'*sz,none⟩) (q' - p') (cap - p'))):=
 XC fun m hs2 a w hg _ _ ho=>by
  have e:a.eval x=_:=hx m a (ho x (by simp [Op.operands]));have hlo':=hlo.val (m:=m) (a:=a) (fun y hy=>ho y (by subst hy; simp [Op.operands]));have hhi':=hhi.val (m:=m) (a:=a) (fun y hy=>ho y (by subst hy; simp [Op.operands]));have hr:=UY (P:=c.P) hT (a:=some ⟨b,o,none⟩) (len:=n) (cap:=cap) hlo' hhi' (by omega) (by omega) (by omega) w;refine ⟨_,by simp only [execOp,e,Option.map_none,Sem.run_bind,hr]; rfl,?_⟩;rw [hp,hq,Int.toNat_natCast,Int.toNat_natCast,if_neg (by omega)]
  simp [Addr.add_lit,val]
end
end Go.Sl
namespace Go.Sl
section
variable {α β : Type} {c : Ctx} {full : Array Oper} {l : List Oper} {Γ Γ' : Env} {H H' H1 : List Ent} {K : Act → World → Prop} {d : Tmp} {od : Option Tmp} {ty : TypeId} {pos : String} {aft : Array Edge} {g : Option (Nat × Bool)}
theorem Qio {f:FuncId}{fn:Func}{tS tR:TypeId}{b1 o1 n1 c1 b2 o2 n2 c2 sz:Nat}{T1 T2:TypeId}{x y:Operand}{ats:Array TypeId}{R1:Rep α}{R2:Rep β}{z1:List (Option α)}{z2:List (Option β)}
  (hfn : c.P.funcs[f]? = some fn) (hname : (fn.name == "runtime.NumGoroutine") = false) (hb : fn.body.isNone = true) (hn : Extern.findNext fn = none) (he : Extern.find fn = some (Extern.SlicesOverlaps.overlaps #[tS, tS] #[tR])) (hT : slB c.P tS sz = true)
  (hx:Has Γ x (val (.slice (some ⟨b1,o1,none⟩) n1 c1))) (hy:Has Γ y (val (.slice (some ⟨b2,o2,none⟩) n2 c2))) (hk1:Pick H (arr b1 T1 R1 z1) H1) (hk2:Pick H1 (arr b2 T2 R2 z2) H') (hz:0 < z2.length*R2.n) :
  PJ c ⟨od, .call {callee:= .value (.func f),args:=#[x,y],argTypes:=ats},ty,pos,aft,g⟩ Γ H (bl.slot false):=
 XC fun m hs2 a w hg _ hsat ho=>by
  have ex:a.eval x=_:=hx m a (ho x (by simp [Op.operands,Call.operands]));have ey:a.eval y=_:=hy m a (ho y (by simp [Op.operands,Call.operands]));obtain ⟨g1,g2,hp,⟨cs1,rfl,hr1⟩,hsat1⟩:=hsat.pick hk1;obtain ⟨g3,g4,hp2,⟨cs2,rfl,hr2⟩,_⟩:=hsat1.pick hk2;have hp3:hs2.Perm ((b1,T1,cs1)::(b2,T2,cs2)::g4):=hp.trans (List.Perm.cons _ hp2);have hg':=hg.perm hp3;have hne:b1≠b2:=by
   have:=hg'.nodup
   simp only [Hp.bs,List.map_cons,List.nodup_cons,List.mem_cons,not_or] at this
   exact this.1.1
  have hb1:=hg'.blk (b1,T1,cs1) (by simp);have hb2:=hg'.blk (b2,T2,cs2) (by simp);have hl2:cs2.length≠0:=by rw [hr2.length]; omega
  obtain ⟨e,hu,hsz⟩:=Qbk hT;have hov:(Extern.SlicesOverlaps.overlaps #[tS,tS] #[tR] #[.slice (some ⟨b1,o1,none⟩) n1 c1, .slice (some ⟨b2,o2,none⟩) n2 c2]).run c.P w = .ok (.bool false) w:=
   Lib.run_overlaps_apart w tS tR e hu sz (fun w=>UC hsz w) ⟨b1,o1,none⟩ ⟨b2,o2,none⟩ n1 c1 n2 c2 hne T1 T2 cs1.length cs2.length (by simp [World.shape?,hb1]) (by simp [World.shape?,hb2]) hl2 (by simp [World.frozen?,hb1]) (by simp [World.frozen?,hb1])
  have hcf:=run_callFunc_extern hfn hname hb hn he #[.slice (some ⟨b1,o1,none⟩) n1 c1, .slice (some ⟨b2,o2,none⟩) n2 c2] w;rw [hov] at hcf;refine ⟨.bool false,?_,U7.2 rfl⟩;have ef:a.eval (.func f) = .func (.func f) #[] #[]:=rfl
  simp only [execOp,resolve,Sem.run_bind,ef,Deferred.ofValue,Sem.run_pure,Result.andThen_ok,invoke]
  simp only [List.map_toArray,List.map_cons,List.map_nil,ex,ey]
  exact hcf
theorem Qlm {ST NT T:TypeId}{kn:IntKind}{x y:Operand}{b i cap k:Nat}{R:Rep α}{zs:List (Option α)} (hx:Has Γ x (val (.slice (some ⟨b,0,none⟩) i cap))) (hk:Pick H (arr b T R zs) H') (hy:Has Γ y (i64.slot (k:Int)))
  (hi:i≤zs.length) (h0:0 < k) (hcap:cap < i+k) (hbig:i+k≤4294967296) (hT:slE c.P ST T R.n=true) (hR:Nat.blt 0 R.n=true) (hNT:c.P.underlying NT=some (.int kn)) (hN:Nat.blt d c.N=true)
  (kk:∀b' e,J9 c full l ((d,val (.slice (some ⟨b',0,none⟩) (i+k) (i+k+e)))::Γ) (arr b' T R (zs.take i++List.replicate (k+e) none)::arr b T R zs::H') K) :
  J9 c full (⟨some d, .call {callee:= .builtin .append,args:=#[x,y],argTypes:=#[ST,NT]},ty,pos,aft,none⟩::l) Γ H K:=by
 refine Ur (ι:=Nat×Nat) (Γ2:=fun p=>(d,val (.slice (some ⟨p.1,0,none⟩) (i+k) (i+k+p.2)))::Γ) (H2:=fun p=>arr p.1 T R (zs.take i++List.replicate (k+p.2) none)::arr b T R zs::H') rfl ?_ (fun p=>kk p.1 p.2);intro m hs a w hg _ hsat he hn;have ex:a.eval x=_:=hx m a (he.opd x);have ey:a.eval y = .int .i64 (k:Int):=Yu.1 (hy m a (he.opd y));obtain ⟨h1,h2,hpm,⟨cs,rfl,hr⟩,hs2⟩:=hsat.pick hk;have hg':=hg.perm hpm;obtain ⟨hu,inf,z,hinf,hsz,hb0,hb1,hz,hzc⟩:=Qcv hT;have hRn:0 < R.n:=by simpa [Nat.blt_eq] using hR
 have hcut:=(hr.cut i).1;have hcl:(cs.take (i*R.n)).length=i*R.n:=by rw [hcut.length,List.length_take,Nat.min_eq_left hi]
 have hold:(Builtin.firstCells inf.size i (.slice (some ⟨b,0,none⟩) i cap)).run c.P w.drew = .ok (cs.take (i*R.n)).toArray w.drew:=by
  rw [hsz];have:=run_loadCells_list (P:=c.P) w.drew ⟨b,0,none⟩ (cs.take (i*R.n)) (fun j u e=>by
   rw [Addr.add_lit,Nat.zero_add];rw [List.getElem?_take] at e
   split at e
   ·exact hg'.drew.cells (T:=T) (cs:=cs) (by simp) j u e
   ·cases e)
  rw [hcl] at this;exact this
 have hnc:=Wl (i+k) cap hcap;have hfit:Builtin.nextslicecap (i+k) cap*inf.bytes≤281474976710656:=by
  have h1:Builtin.nextslicecap (i+k) cap≤4*4294967296+4096:=by omega
  have h2:Builtin.nextslicecap (i+k) cap*inf.bytes≤(4*4294967296+4096)*4096:=Nat.mul_le_mul h1 hb1;have h3:(4*4294967296+4096)*4096≤281474976710656:=by decide
  omega
 have h48:k*inf.bytes≤281474976710656:=by
  have h2:k*inf.bytes≤4294967296*4096:=Nat.mul_le_mul (by omega) hb1
  omega
 have happ:=Lib.run_append_grow_zeros (P:=c.P) w ST NT ty T inf z .i64 kn hu hNT hinf hz (some ⟨b,0,none⟩) i cap (cs.take (i*R.n)) hold k h0 (by omega) hcap (by omega) h48 hfit;obtain ⟨G,hG⟩:∃G,G=grownCap w (i+k) cap T:=⟨_,rfl⟩;have hGe:i+k≤G:=by rw [hG]; exact grownCap_ge w _ _ _
 rw [←hG] at happ
 let rest:=(Builtin.zeroCells z.cells k).toList++(Builtin.zeroCells z.cells (G - (i+k))).toList
 have hzc':z.cells.size=R.n:=hzc;have hrl:rest.length=(k+(G - (i+k)))*R.n:=by simp [rest,Builtin.zeroCells,hzc',Nat.add_mul]
 have hcs:(cs.take (i*R.n)).toArray++Builtin.zeroCells z.cells k++Builtin.zeroCells z.cells (G - (i+k))=(cs.take (i*R.n)++rest).toArray:=by
  simp [rest]
 rw [hcs] at happ;have hrun:(execOp a.eval ⟨some d, .call {callee:= .builtin .append,args:=#[x,y],argTypes:=#[ST,NT]},ty,pos,aft,none⟩).run c.P w = .ok (.value (.slice (some ⟨w.heap.size,0,none⟩) (i+k) G)) (w.drew.alloc (.cells (cs.take (i*R.n)++rest).toArray T)):=by
  simp only [execOp,resolve,Sem.run_bind,Sem.run_pure,Result.andThen_ok,invoke,builtin]
  simp only [List.map_toArray,List.map_cons,List.map_nil,ex,ey,happ,Result.andThen_ok]
 rw [hrun];have hGG:i+k+(G - (i+k))=G:=by omega
 refine ⟨(w.heap.size,G - (i+k)),m,(w.heap.size,T,cs.take (i*R.n)++rest)::(b,T,cs)::h2,?_,?_,⟨[_],_,rfl,⟨_,rfl,hcut.append (Ug.nones _ hrl)⟩, [_],h2,rfl,⟨cs,rfl,hr⟩,hs2⟩,?_⟩
 ·exact hg'.drew.newOwn T _
 ·refine he.put (by rw [hn]; simpa [Nat.blt_eq] using hN) ?_;show _=_;rw [hGG]
 ·have h3:=Frm.alloc w.drew m (Hp.bs ((b,T,cs)::h2)) (.cells (cs.take (i*R.n)++rest).toArray T);have h4:Frm w w.drew m m hs.bs (Hp.bs ((b,T,cs)::h2)):=(Frm.drew w m _).sub fun b hb=>by
   exact ((hpm.map _).mem_iff).2 hb
  exact h4.trans h3
end
end Go.Sl
namespace Go.Sl
section
variable {α β : Type} {c : Ctx} {full : Array Oper} {l : List Oper} {Γ Γ' : Env} {H H' H1 : List Ent} {K : Act → World → Prop} {d : Tmp} {od : Option Tmp} {ty : TypeId} {pos : String} {aft : Array Edge} {g : Option (Nat × Bool)}
theorem Qd7 {T T0 sz:Nat}{x y:Operand}{R:Rep α}{v:Value}{xs:List α}{s:Slot}{i:Int} (hx:Has Γ x (ov v)) (hk:Pick H (own T0 R v xs) H') (hy:Has Γ y s) (hs:Um s i) (h0:0≤i) (h1:i≤(xs.length:Int)) (hT:slB c.P T sz=true) :
  PJ c ⟨od, .slice T x (some y) none none,ty,pos,aft,g⟩ Γ H any:=
 XC fun m hs2 a w hg _ hsat ho=>by
  have e:a.eval x=v:=(Bv.1 (hx m a (ho x (by simp [Op.operands])))).1;obtain ⟨k,ek⟩:=hs m _ (hy m a (ho y (by simp [Op.operands])));obtain ⟨g1,g2,_,hown,_⟩:=hsat.pick hk;obtain ⟨a0,cap,hv,hc⟩:=own.shape hown;subst hv;have hr:=UY (P:=c.P) hT (a:=a0) (len:=xs.length) (cap:=cap) (lo:=some (.int k i)) (hi:=none) (l:=some i) (h:=none) (.inr ⟨k,i,rfl,rfl⟩) (.inl ⟨rfl,rfl⟩) h0 h1 (by simp; omega) w;exact ⟨_,by simp only [execOp,e,ek,Option.map_none,Option.map_some,Sem.run_bind,hr]; rfl,trivial⟩
theorem Vb {T sz b n cap:Nat}{x:Operand}{lo hi:Option Operand}{p q:Option Int} (hx:Has Γ x (val (.slice (some ⟨b,0,none⟩) n cap))) (hlo:OptI Γ lo p) (hhi:OptI Γ hi q) (p' q':Nat)
  (hp:p.getD 0=(p':Int)) (hq:q.getD n=(q':Int)) (h1:p'≤q') (h2:q'≤cap) (h3:p' < cap) (hT:slB c.P T sz=true) :
  PJ c ⟨od, .slice T x lo hi none,ty,pos,aft,g⟩ Γ H (val (.slice (some ⟨b,p'*sz,none⟩) (q' - p') (cap - p'))):=by
 have:=Qhd (c:=c) (H:=H) (od:=od) (ty:=ty) (pos:=pos) (aft:=aft) (g:=g) hx hlo hhi p' q' hp hq h1 h2 h3 hT
 rwa [Nat.zero_add] at this
theorem Qcf {Q:Exit→Act→World→Prop}{kk:List Code}{b:Nat}{T:TypeId}{R:Rep α}{zs:List (Option α)} (xs:List α) (n n' cap':Nat) (hk:Pick H (arr b T R zs) H') (hz:zs=xs.map some++List.replicate n none) (hn:n'=xs.length) (hc:cap'=xs.length+n)
  (r:Run c Q kk Γ (own T R (.slice (some ⟨b,0,none⟩) n' cap') xs::H')):Run c Q kk Γ H:=by
 subst hn; subst hc; exact Qg8 xs n hk hz r
end
theorem QmE {α:Type} (s:List α) (y:α) (i e n1:Nat) (hi:i≤s.length) :
  let zs0:=(s.map some++List.replicate n1 none).take i++List.replicate ((s.length+1 - i)+e) (none:Option α)
  let zs1:=zs0.take i++ [y].map some++zs0.drop (i + [y].length)
  zs1.take (i+1)++(s.drop i).map some++zs1.drop ((i+1)+(s.drop i).length)=(s.take i++ [y]++s.drop i).map some++List.replicate e none:=by
 intro zs0 zs1;have hA:(s.map some++List.replicate n1 none).take i=(s.take i).map some:=by
  rw [List.take_append_of_le_length (by simpa using hi),List.map_take]
 have hAl:((s.take i).map (some:α→Option α)).length=i:=by simp; omega
 have e1:zs1=(s.take i).map some++ [some y]++List.replicate ((s.length - i)+e) none:=by
  show ((s.map some++List.replicate n1 none).take i++_).take i++_++((s.map some++List.replicate n1 none).take i++_).drop (i+1)=_;rw [hA,List.take_left' hAl,←List.drop_drop,List.drop_left' hAl,List.drop_replicate]
  congr 2
  omega
 rw [e1];have hBl:((s.take i).map some++ [some y]).length=i+1:=by rw [List.length_append,hAl]; rfl
 rw [List.take_left' hBl,←List.drop_drop,List.drop_left' hBl,List.drop_replicate,List.length_drop];have:s.length - i+e - (s.length - i)=e:=by omega
 rw [this]
 simp
theorem QkG {α:Type} (s:List α) (y:α) (i n1:Nat) (hi:i < s.length) (hn:0 < n1) :
  let zs0:=s.map some++List.replicate n1 (none:Option α)
  let zs1:=zs0.take (i+1)++(s.drop i).map some++zs0.drop ((i+1)+(s.drop i).length)
  zs1.take i++ [y].map some++zs1.drop (i + [y].length)=(s.take i++ [y]++s.drop i).map some++List.replicate (n1 - 1) none:=by
 intro zs0 zs1;have hsl:(s.map (some:α→Option α)).length=s.length:=by simp
 have e0:zs0.take (i+1)=(s.take (i+1)).map some:=by
  show (s.map some++_).take (i+1)=_;rw [List.take_append_of_le_length (by rw [hsl]; exact hi),List.map_take]
 have e2:zs0.drop ((i+1)+(s.drop i).length)=List.replicate (n1 - 1) none:=by
  show (s.map some++_).drop _=_;rw [List.length_drop,show i+1+(s.length - i)=s.length+1 by omega,←List.drop_drop,List.drop_left' hsl,List.drop_replicate]
 have e1:zs1=(s.take i).map some++([some s[i]]++((s.drop i).map some++List.replicate (n1 - 1) none)):=by
  show zs0.take (i+1)++_++zs0.drop _=_;rw [e0,e2,List.take_succ_eq_append_getElem hi,List.map_append,List.append_assoc,List.append_assoc]
  rfl
 have hAl:((s.take i).map (some:α→Option α)).length=i:=by simp; omega
 rw [e1,List.take_left' hAl,←List.drop_drop,List.drop_left' hAl]
 simp
theorem Qmx {α:Type}{s v r:List α}{i:Int} (h:(if 0≤i∧i≤(s.length:Int)∧v.length=1∧s.length≤1000000 then some (s.take i.toNat++v++s.drop i.toNat) else none)=some r):∃(n:Nat) (y:α),i=(n:Int)∧n≤s.length∧v = [y]∧s.length≤1000000∧r=s.take n++ [y]++s.drop n:=by
 split at h
 ·rename_i hc
  obtain ⟨h0,h1,h2,h3⟩:=hc;obtain ⟨y,rfl⟩:=List.length_eq_one_iff.1 h2;exact ⟨i.toNat,y,by omega,by omega,rfl,h3,(Option.some.inj h).symm⟩
 ·cases h
end Go.Sl
namespace Go.Sl
def LQX {σ ρ:Type} (id id2:Nat) (I:σ→Act→World→Prop) (R:ρ→Act→World→Prop) (r:LR σ ρ) (e:Exit) (a:Act) (w:World):Prop:=
 match r with
 | .next s=>e = .normal∧I s a w
 | .brk s=>e = .exit id∧I s a w
 | .ret x=>e = .exit id2∧R x a w
theorem QiQ {P:Program}{ro:Option Nat}{Q:Exit→Act→World→Prop}{σ ρ:Type}{f:σ→Option (LR σ ρ)}{I:σ→Act→World→Prop}{R:ρ→Act→World→Prop}{id id2:Nat}{body:Code}
  (step:∀s r a w,f s=some r→I s a w→body.wpIn (fen ro) 0 P (LQX id id2 I R r) a w) :
  ∀(n:Nat) (s:σ) (out:σ ⊕ ρ) (a:Act) (w:World),Yf f n s=some out→I s a w→(∀s' a w,out = .inl s'→I s' a w→Q (.exit id) a w)→(∀x a w,out = .inr x→R x a w→Q (.exit id2) a w)→Code.roundsIn (fen ro) 0 P body Q n a w:=by
 intro n
 induction n with
 | zero=>intro s out a w h; cases h
 | succ n ih=>
  intro s out a w h hI h1 h2;rw [roundsIn_succ];unfold Yf at h
  cases hf:f s with
  | none=>rw [hf] at h; cases h
  | some r=>
   rw [hf] at h;refine wpIn_mono (step s r a w hf hI) fun e a' w' hq=>?_
   cases r with
   | next s'=>obtain ⟨rfl,hI'⟩:=hq; exact ih s' out a' w' h hI' h1 h2
   | brk s'=>obtain ⟨rfl,hI'⟩:=hq; simp only [Option.some.injEq] at h; exact h1 s' a' w' h.symm hI'
   | ret x=>obtain ⟨rfl,hR⟩:=hq; simp only [Option.some.injEq] at h; exact h2 x a' w' h.symm hR
section
variable {c : Ctx} {Γ Γ' : Env} {H H' : List Ent} {Q : Exit → Act → World → Prop} {k : List Code}
theorem QkH {σ ι:Type}{f:σ→Option (LR σ σ)}{Γi:ι→σ→Env}{Hi:ι→σ→List Ent}{id id2 n:Nat}{body:Code}{s0:σ}{out:σ ⊕ σ} (hl:Yf f n s0=some out) (hne:Nat.beq id2 id=false)
  (i0:ι) (h0:∀a w,St c Γ H a w→St c (Γi i0 s0) (Hi i0 s0) a w)
  (step:∀i s r,f s=some r→Run c (LQX id id2 (fun s a w=>∃i,St c (Γi i s) (Hi i s) a w) (fun s a w=>∃i,St c (Γi i s) (Hi i s) a w) r) [body] (Γi i s) (Hi i s))
  (h1:∀i s,out = .inl s→Run c Q k (Γi i s) (Hi i s)) (h2:∀i s a w,out = .inr s→St c (Γi i s) (Hi i s) a w→Q (.exit id2) a w):Run c Q (.block id (.loop body)::k) Γ H:=by
 refine QM fun a w hst=>?_;refine wpIn_loop_rounds n (QiQ (I:=fun s a w=>∃i,St c (Γi i s) (Hi i s) a w) (R:=fun s a w=>∃i,St c (Γi i s) (Hi i s) a w) (id:=id) (id2:=id2) (f:=f) ?_ n s0 out a w hl ⟨i0,h0 a w hst⟩ ?_ ?_)
 ·rintro s r a w hf ⟨i,hI⟩;refine wpIn_mono (step i s r hf a w hI) fun e a' w' hq=>?_
  cases e<;>exact hq
 ·rintro s' a w ho ⟨i,hI⟩;exact Qhf (h1 i s' ho a w hI)
 ·rintro s' a w ho ⟨i,hI⟩;exact Qcu hne (h2 i s' a w ho hI)
section
variable {σ ι : Type} {id id2 : Nat} {Γi : ι → σ → Env} {Hi : ι → σ → List Ent}
theorem Qk1 {s:σ} (i:ι) (h1:SubE Γ (Γi i s)) (h2:Keep H (Hi i s)):Run c (LQX id id2 (fun s a w=>∃i,St c (Γi i s) (Hi i s) a w) (fun s a w=>∃i,St c (Γi i s) (Hi i s) a w) (.next s)) [] Γ H:=
 X8 fun a w hst=>⟨rfl,i,(hst.sub h1).keep h2⟩
theorem Qmq {s:σ} (i:ι) (h1:SubE Γ (Γi i s)) (h2:Keep H (Hi i s)):Run c (LQX id id2 (fun s a w=>∃i,St c (Γi i s) (Hi i s) a w) (fun s a w=>∃i,St c (Γi i s) (Hi i s) a w) (.brk s)) (.exit id::k) Γ H:=
 Qdm fun a w hst=>⟨rfl,i,(hst.sub h1).keep h2⟩
theorem Qnb {s:σ}{a:Act}{w:World} (i:ι) (h1:SubE Γ (Γi i s)) (h2:Keep H (Hi i s)) (hst:St c Γ H a w):LQX id id2 (fun s a w=>∃i,St c (Γi i s) (Hi i s) a w) (fun s a w=>∃i,St c (Γi i s) (Hi i s) a w) (.ret s) (.exit id2) a w:=
 ⟨rfl,i,(hst.sub h1).keep h2⟩
end
end
end Go.Sl
namespace Go.Sl
open Go.ChangeShapes Go.WideShapes Go.ChangeAt Go.RowKit
def Qcg (W:World):Mem:=fun b o=>W.cell? ⟨b,o,none⟩
theorem Qi1 (W:World):Zk (Qcg W) [] W:=⟨fun _ _ _ h=>h,List.nodup_nil,(fun _ h=>by cases h),(fun _ h=>by cases h)⟩
structure Bulk (H:Type) where
 b:DataW H→Nat
 all:List (DataW H)→Nat
 one:∀d,1≤b d
 nil:0≤all []
 cons:∀d r,all (d::r)=b d+all r
 slice:∀e s,all e+1≤b (.slice e s)
 agg:∀ps,all ps≤b (.agg ps)
section
variable {α β : Type}
def QhL (f:α→Nat):List α→Nat
 | []=>0
 | x::r=>f x+QhL f r
def RR (P:Program) (T:TypeId) (R:Rep α) (wf:α→Prop) (sz:α→Nat):Prop:=
 P.cellsOf T=R.n∧∀ {H:Type}{enc:TypeId×Value→H}{w:World}{base:Nat}{sp:Nat→Bool}{held:Bool}{fuel:Nat}{cs:List Value}{x:DataW H×List MemPlace},
  DataW.trod enc P w base sp held fuel T cs=some x→∃y:α,R.rel (Qcg w) cs y∧wf y∧∀B:Bulk H,sz y≤B.b x.1
def wfI (n:Int):Prop:= -9223372036854775808≤n∧n < 9223372036854775808
def wfT (_:α):Prop:=True
def wfL (p:α→Prop) (l:List α):Prop:=l.length≤9223372036854775807∧∀x∈l,p x
def wfV {n:Nat} (p:α→Prop) (l:Vector α n):Prop:=∀x∈l.toList,p x
def wfP (p:α→Prop) (q:β→Prop) (x:α×β):Prop:=p x.1∧q x.2
def sz1 (_:α):Nat:=1
def szL (f:α→Nat) (l:List α):Nat:=QhL f l+1
def szV {n:Nat} (f:α→Nat) (l:Vector α n):Nat:=QhL f l.toList
def szP (f:α→Nat) (g:β→Nat) (x:α×β):Nat:=f x.1+g x.2
theorem QfF {P:Program}{T:TypeId} (h:P.underlying T=some (.int .i64)) (hc:P.cellsOf T=1):RR P T i64 wfI sz1:=by
 refine ⟨hc,fun {H enc w base sp held fuel cs x} hx=>?_⟩;obtain ⟨n,rfl,rfl,hw⟩:=DataW.trod_int h hx;refine ⟨n,rfl,?_,fun B=>B.one _⟩
 simp [Lit.wf,IntKind.min,IntKind.max,IntKind.bits,IntKind.signed] at hw
 unfold wfI; omega
theorem Qkd {P:Program}{T:TypeId}{k:IntKind}{b:Nat} (h:P.underlying T=some (.int k)) (hc:P.cellsOf T=1) (hk:k.bits=b) (hs:k.signed=false):RR P T (un k b) wfT sz1:=by
 refine ⟨hc,fun {H enc w base sp held fuel cs x} hx=>?_⟩;obtain ⟨n,rfl,rfl,hw⟩:=DataW.trod_int h hx
 simp only [Lit.wf,IntKind.min,IntKind.max,hs,Bool.false_eq_true,if_false,Bool.and_eq_true,decide_eq_true_eq] at hw
 have hn:((BitVec.ofInt b n).toNat:Int)=n:=by
  rw [←Wm hk hs];unfold IntKind.wrap
  simp only [hs,Bool.false_and,Bool.false_eq_true,if_false]
  rw [Int.emod_eq_of_lt hw.1 (by omega)]
 exact ⟨BitVec.ofInt b n,by show [Value.int k n] = [Value.int k ((BitVec.ofInt b n).toNat:Int)]; rw [hn],trivial,fun B=>B.one _⟩
theorem Qpk {P:Program}{T:TypeId} (h:P.underlying T=some .bool) (hc:P.cellsOf T=1):RR P T bl wfT sz1:=by
 refine ⟨hc,fun {H enc w base sp held fuel cs x} hx=>?_⟩;obtain ⟨b,rfl,rfl⟩:=DataW.trod_bool h hx;exact ⟨b,rfl,trivial,fun B=>B.one _⟩
theorem Qhh {P:Program}{e:TypeId}{R:Rep α}{wf:α→Prop}{sz:α→Nat} (h:RR P e R wf sz){H:Type}{enc:TypeId×Value→H}{w:World}{base:Nat}{sp:Nat→Bool}{held:Bool}{fuel:Nat} :
  ∀ {xs:List (DataW H×List MemPlace)}{cs:List Value},cs.length=xs.length*R.n→(∀i,i < xs.length→DataW.trod enc P w base sp held fuel e ((cs.drop (i*R.n)).take R.n)=xs[i]?)→
   ∃ys:List α,ys.length=xs.length∧Zm R (Qcg w) cs ys∧(∀y∈ys,wf y)∧∀B:Bulk H,QhL sz ys≤B.all (xs.map (·.1))
 | [],cs,hl,_=>⟨[],rfl,by simpa [Zm] using hl,(fun y hy=>by cases hy),fun B=>by simp [QhL]⟩
 | x::xs,cs,hl,hx=>by
  have h0:=hx 0 (by simp)
  simp only [Nat.zero_mul,List.drop_zero,List.getElem?_cons_zero] at h0
  obtain ⟨y,hr,hw,hb⟩:=h.2 h0
  simp only [List.length_cons,Nat.add_mul,Nat.one_mul] at hl
  obtain ⟨ys,hyl,hrow,hwf,hB⟩:=Qhh h (xs:=xs) (cs:=cs.drop R.n) (by rw [List.length_drop]; omega) (fun i hi=>by
   have:=hx (i+1) (by simp; omega);rw [List.drop_drop]
   simp only [List.getElem?_cons_succ] at this
   rw [←this,Nat.add_mul,Nat.one_mul,Nat.add_comm R.n])
  refine ⟨y::ys,by simp [hyl],⟨cs.take R.n,cs.drop R.n,(List.take_append_drop _ _).symm,hr,hrow⟩,?_,fun B=>?_⟩
  ·intro z hz
   rcases List.mem_cons.1 hz with rfl | hz
   ·exact hw
   ·exact hwf z hz
  ·rw [List.map_cons,B.cons];have:=hb B; have:=hB B
   simp only [QhL]; omega
theorem QgV {P:Program}{T e n:Nat}{R:Rep α}{wf:α→Prop}{sz:α→Nat} (hu:P.underlying T=some (.array n e)) (hc:P.cellsOf T=n*R.n) (h:RR P e R wf sz):RR P T (vec n R) (wfV wf) (szV sz):=by
 refine ⟨hc,fun {H enc w base sp held fuel cs x} hx=>?_⟩
 cases fuel with
 | zero=>simp [DataW.trod] at hx
 | succ fuel=>
  simp only [DataW.trod,hu] at hx
  split at hx
  ·rename_i hl
   obtain ⟨xs,hm,rfl⟩:=Option.map_eq_some_iff.1 hx;have hxl:xs.length=n:=by simpa using Go.Lib.mapM_length hm
   rw [hc] at hl;obtain ⟨ys,hyl,hrow,hwf,hB⟩:=Qhh h (xs:=xs) (cs:=cs) (by rw [hxl]; exact hl) (fun i hi=>by
    obtain ⟨b,hb,hf⟩:=Go.Lib.mapM_at hm i i (by rw [List.getElem?_range (by omega)]);rw [h.1] at hf;rw [hf,hb])
   have hyn:ys.length=n:=hyl.trans hxl;refine ⟨⟨ys.toArray,by simpa using hyn⟩,?_,?_,fun B=>?_⟩
   ·simpa [vec,Vector.toList] using hrow
   ·intro y hy; exact hwf y (by simpa [Vector.toList] using hy)
   ·have:=B.agg (xs.map (·.1));have:=hB B
    simp only [szV,Vector.toList]
    simpa using Nat.le_trans (hB B) (B.agg _)
  ·cases hx
inductive RRF (P:Program):List Field→Nat→{α:Type}→Rep α→(α→Prop)→(α→Nat)→Prop
 | one {α:Type}{f:Field}{off:Nat}{R:Rep α}{wf:α→Prop}{sz:α→Nat}:f.offset=off→RR P f.type R wf sz→RRF P [f] off R wf sz
 | cons {α β:Type}{f:Field}{fs:List Field}{off:Nat}{R:Rep α}{S:Rep β}{wf:α→Prop}{sz:α→Nat}{wf':β→Prop}{sz':β→Nat}:f.offset=off→RR P f.type R wf sz→RRF P fs (off+R.n) S wf' sz'→RRF P (f::fs) off (prod R S) (wfP wf wf') (szP sz sz')
theorem RRF.run {P:Program}{H:Type}{enc:TypeId×Value→H}{w:World}{base:Nat}{sp:Nat→Bool}{held:Bool}{fuel:Nat}{cs:List Value}{fs:List Field}{off:Nat}{R:Rep α}{wf:α→Prop}{sz:α→Nat} (h:RRF P fs off R wf sz) :
  ∀ {xs:List (DataW H×List MemPlace)},cs.length=off+R.n→xs.length=fs.length→(∀(i:Nat) (f:Field),fs[i]? = some f→DataW.trod enc P w base sp held fuel f.type ((cs.drop f.offset).take (P.cellsOf f.type))=xs[i]?)→
   ∃y:α,R.rel (Qcg w) (cs.drop off) y∧wf y∧∀B:Bulk H,sz y≤B.all (xs.map (·.1)):=by
 induction h with
 | @one α f off R wf sz ho hr=>
  intro xs hl hxl hx;have h0:=hx 0 f rfl;rw [ho,hr.1,List.take_of_length_le (by rw [List.length_drop]; omega)] at h0
  match xs,hxl with
  | [x],_=>
   obtain ⟨y,h1,h2,h3⟩:=hr.2 h0;exact ⟨y,h1,h2,fun B=>by have:=h3 B; simp only [List.map_cons,List.map_nil,B.cons]; omega⟩
 | @cons α β f fs off R S wf sz wf' sz' ho hr _ ih=>
  intro xs hl hxl hx;have h0:=hx 0 f rfl;rw [ho,hr.1] at h0
  match xs,hxl with
  | x::xs,hxl=>
   obtain ⟨y,h1,h2,h3⟩:=hr.2 h0;obtain ⟨z,k1,k2,k3⟩:=ih (xs:=xs) (by rw [hl]; show off+(R.n+S.n)=_; omega) (by simpa using hxl) (fun i g hg=>by
    have:=hx (i+1) g (by simpa using hg)
    simpa using this)
   refine ⟨(y,z),⟨_,_,?_,h1,k1⟩,⟨h2,k2⟩,fun B=>?_⟩
   ·rw [←List.drop_drop,List.take_append_drop]
   ·have:=h3 B; have:=k3 B
    simp only [List.map_cons,B.cons,szP]; omega
theorem QdU {P:Program}{T:TypeId}{fs:Array Field}{R:Rep α}{wf:α→Prop}{sz:α→Nat} (hu:P.underlying T=some (.struct fs)) (hc:P.cellsOf T=R.n) (h:RRF P fs.toList 0 R wf sz):RR P T R wf sz:=by
 refine ⟨hc,fun {H enc w base sp held fuel cs x} hx=>?_⟩;obtain ⟨xs,n,rfl,rfl,hl,hxl,hi⟩:=DataW.trod_struct hu hx;obtain ⟨y,h1,h2,h3⟩:=h.run (xs:=xs) (by rw [hl,hc]; omega) (by simpa using hxl) (fun i f hf=>hi i f (by simpa using hf));exact ⟨y,by simpa using h1,h2,fun B=>Nat.le_trans (h3 B) (B.agg _)⟩
theorem QlX {P:Program}{T e:TypeId}{R:Rep α}{wf:α→Prop}{sz:α→Nat} (hu:P.underlying T=some (.slice e)) (hc:P.cellsOf T=1) (hn:0 < R.n) (h:RR P e R wf sz):RR P T (sl R) (wfL wf) (szL sz):=by
 refine ⟨hc,fun {H enc w base sp held fuel cs x} hx=>?_⟩
 rcases DataW.trod_slice hu hx with ⟨rfl,rfl⟩ | ⟨a,len,cap,elems,rest,n,rfl,rfl,rfl,hb,hlc,hcm,hel,hi,_,_⟩
 ·exact ⟨[],⟨none,0,rfl,Nat.le_refl _, .inl rfl⟩,⟨by simp,(fun y hy=>by cases hy)⟩,fun B=>by have:=B.one (.nil:DataW H); simp [szL,QhL]; omega⟩
 ·subst hel;have hcm':cap≤9223372036854775807:=by unfold maxLen at hcm; omega
  cases elems with
  | nil=>
   exact ⟨[],⟨_,_,rfl,by simp, .inl rfl⟩,⟨by simp,(fun y hy=>by cases hy)⟩,fun B=>by have:=B.slice ([]:List (DataW H)) (rest.map (·.1)); have:=B.nil; simp only [szL,QhL,List.map_nil]; omega⟩
  | cons x0 el=>
   -- the block's cells
   have hcell:∀i,i < (x0::el).length→∃c,w.cells? base (a.add (i*R.n)) R.n=some c∧DataW.trod enc P w base sp held n e c=(x0::el)[i]?:=by
    intro i hlt;have:=hi i hlt;rw [h.1] at this;rw [List.getElem?_eq_getElem hlt] at this ⊢;obtain ⟨c,h1,h2⟩:=Option.bind_eq_some_iff.1 this;exact ⟨c,h1,h2⟩
   have hspot:a.spot=none:=by
    obtain ⟨c,h1,_⟩:=hcell 0 (by simp);obtain ⟨_,hl,hk⟩:=World.cells?_some h1;have:=hk 0 hn;rw [List.getElem?_eq_getElem (by omega)] at this;unfold World.cell? at this
    simp only [Nat.zero_mul,Addr.add,if_true] at this
    split at this
    ·split at this
     ·cases this
     ·rename_i hs; simpa using hs
    ·cases this
   obtain ⟨b,o,s⟩:=a
   simp only at hspot
   subst hspot
   -- the row
   have key:∀(k:Nat),k≤(x0::el).length→∃row:List Value,row.length=k*R.n∧At (Qcg w) b o row∧∀i,i < k→DataW.trod enc P w base sp held n e ((row.drop (i*R.n)).take R.n)=(x0::el)[i]?:=by
    intro k
    induction k with
    | zero=>intro _; exact ⟨[],by simp,fun j v e=>by simp at e,fun i h=>by omega⟩
    | succ k ih=>
     intro hk;obtain ⟨row,hrl,hat,hrd⟩:=ih (by omega);obtain ⟨c,h1,h2⟩:=hcell k (by omega);obtain ⟨_,hl,hkk⟩:=World.cells?_some h1;refine ⟨row++c,by rw [List.length_append,hrl,hl,Nat.add_mul,Nat.one_mul],?_,?_⟩
     ·intro j v e
      by_cases hj:j < row.length
      ·rw [List.getElem?_append_left hj] at e; exact hat j v e
      ·rw [List.getElem?_append_right (by omega)] at e;have hj2:j - row.length < R.n:=by rw [←hl]; exact (List.getElem?_eq_some_iff.1 e).1
       have:=hkk (j - row.length) hj2;rw [e,Addr.add_lit,Addr.add_lit] at this;show w.cell? _=_;rw [←this]
       congr 2; omega
     ·intro i hi
      by_cases hik:i < k
      ·rw [←hrd i hik];have hle:(i+1)*R.n≤k*R.n:=Nat.mul_le_mul_right _ hik;rw [Nat.add_mul,Nat.one_mul] at hle;rw [List.drop_append_of_le_length (by omega),List.take_append_of_le_length (by rw [List.length_drop]; omega)]
      ·have:i=k:=by omega
       subst this;rw [List.drop_append_of_le_length (by omega),List.drop_of_length_le (by omega),List.nil_append,List.take_of_length_le (by omega)];exact h2
   obtain ⟨row,hrl,hat,hrd⟩:=key _ (Nat.le_refl _);obtain ⟨ys,hyl,hrow,hwf,hB⟩:=Qhh h (xs:=x0::el) (cs:=row) hrl (fun i hi=>hrd i hi);refine ⟨ys,⟨_,cap,by rw [hyl],by rw [hyl]; exact hlc, .inr ⟨b,o,row,rfl,hrow,hat⟩⟩,⟨by rw [hyl]; omega,hwf⟩,fun B=>?_⟩;have:=hB B;have:=B.slice ((x0::el).map (·.1)) (rest.map (·.1))
   simp only [szL]
   show _≤B.b (.slice _ _)
   omega
theorem QoH {P:Program}{T:TypeId}{R:Rep α}{wf:α→Prop}{sz:α→Nat} (h:RR P T R wf sz) (hag:∀ {w:World}{base:Nat}{v:Value},Value.okWide P w .any base T v→(R.ag=true→∃cs,v = .agg cs)∧(R.ag=false→v.oneCell'=true))
  {H:Type}{enc:TypeId×Value→H}{w:World}{base b2:Nat}{sp:Nat→Bool}{held:Bool}{v:Value}{d:DataW H}{ps:List MemPlace} (hv:Value.okWide P w .any b2 T v) (hd:DataW.Trod enc P w base sp held T v d ps) :
  ∃y:α,(R.slot y).p (Qcg w) v∧wf y∧∀B:Bulk H,sz y≤B.b d:=by
 obtain ⟨fuel,hf⟩:=hd;obtain ⟨y,hr,hw,hB⟩:=h.2 hf;refine ⟨y,?_,hw,hB⟩;show R.is (Qcg w) v y;unfold Rep.is
 cases hb:R.ag with
 | true=>
  obtain ⟨cs,rfl⟩:=(hag hv).1 hb;exact ⟨cs.toList,rfl,hr⟩
 | false=>
  have:=WN ((hag hv).2 hb);rw [this] at hr;exact hr
theorem Qpb {P:Program}{T e:TypeId}{R:Rep α} (h:P.underlying T=some (.slice e)) (hR:R.ag=false){w:World}{base:Nat}{v:Value} (hv:Value.okWide P w .any base T v):(R.ag=true→∃cs,v = .agg cs)∧(R.ag=false→v.oneCell'=true):=by
 obtain ⟨_,_,_,rfl⟩:=okWide_slice h hv;exact ⟨(fun e=>by rw [hR] at e; cases e),fun _=>rfl⟩
mutual
def BD {H:Type}:DataW H→List Value
 | .lit (.int k n)=> [.int k n]
 | .agg ps=>qB ps
 | _=> []
def qB {H:Type}:List (DataW H)→List Value
 | []=> []
 | d::r=>BD d++qB r
end
def FL (P:Program) (T n:Nat):Prop:=P.cellsOf T=n∧
 ∀ {H:Type}{enc:TypeId×Value→H}{w:World}{base:Nat}{sp:Nat→Bool}{held:Bool}{fuel:Nat}{cs:List Value}{x:DataW H×List MemPlace},DataW.trod enc P w base sp held fuel T cs=some x→cs=BD x.1
theorem QcQ {P:Program}{T:TypeId}{k:IntKind} (h:P.underlying T=some (.int k)) (hc:P.cellsOf T=1):FL P T 1:=by
 refine ⟨hc,fun {H enc w base sp held fuel cs x} hx=>?_⟩;obtain ⟨n,rfl,rfl,hw⟩:=DataW.trod_int h hx
 rfl
theorem Qim {P:Program}{e n:Nat} (h:FL P e n){H:Type}{enc:TypeId×Value→H}{w:World}{base:Nat}{sp:Nat→Bool}{held:Bool}{fuel:Nat} :
  ∀ {xs:List (DataW H×List MemPlace)}{cs:List Value},cs.length=xs.length*n→(∀i,i < xs.length→DataW.trod enc P w base sp held fuel e ((cs.drop (i*n)).take n)=xs[i]?)→cs=qB (xs.map (·.1))
 | [],cs,hl,_=>by simpa [qB] using hl
 | x::xs,cs,hl,hx=>by
  have h0:=hx 0 (by simp)
  simp only [Nat.zero_mul,List.drop_zero,List.getElem?_cons_zero] at h0
  have h1:=h.2 h0
  simp only [List.length_cons,Nat.add_mul,Nat.one_mul] at hl
  have h2:=Qim h (xs:=xs) (cs:=cs.drop n) (by rw [List.length_drop]; omega) (fun i hi=>by
   have:=hx (i+1) (by simp; omega);rw [List.drop_drop]
   simp only [List.getElem?_cons_succ] at this
   rw [←this,Nat.add_mul,Nat.one_mul,Nat.add_comm n])
  rw [List.map_cons,qB,←h1,←h2,List.take_append_drop]
theorem Qe1 {P:Program}{T e n k:Nat} (hu:P.underlying T=some (.array n e)) (hc:P.cellsOf T=n*k) (h:FL P e k):FL P T (n*k):=by
 refine ⟨hc,fun {H enc w base sp held fuel cs x} hx=>?_⟩
 cases fuel with
 | zero=>simp [DataW.trod] at hx
 | succ fuel=>
  simp only [DataW.trod,hu] at hx
  split at hx
  ·rename_i hl
   obtain ⟨xs,hm,rfl⟩:=Option.map_eq_some_iff.1 hx;have hxl:xs.length=n:=by simpa using Go.Lib.mapM_length hm
   rw [hc] at hl;rw [BD];exact Qim h (by rw [hxl]; exact hl) (fun i hi=>by
    obtain ⟨b,hb,hf⟩:=Go.Lib.mapM_at hm i i (by rw [List.getElem?_range (by omega)]);rw [h.1] at hf;rw [hf,hb])
  ·cases hx
inductive FLF (P:Program):List Field→Nat→Nat→Prop
 | nil {off:Nat}:FLF P [] off off
 | cons {f:Field}{fs:List Field}{off n top:Nat}:f.offset=off→FL P f.type n→FLF P fs (off+n) top→FLF P (f::fs) off top
theorem FLF.run {P:Program}{H:Type}{enc:TypeId×Value→H}{w:World}{base:Nat}{sp:Nat→Bool}{held:Bool}{fuel:Nat}{cs:List Value}{fs:List Field}{off top:Nat} (h:FLF P fs off top) :
  ∀ {xs:List (DataW H×List MemPlace)},cs.length=top→xs.length=fs.length→(∀(i:Nat) (f:Field),fs[i]? = some f→DataW.trod enc P w base sp held fuel f.type ((cs.drop f.offset).take (P.cellsOf f.type))=xs[i]?)→
   cs.drop off=qB (xs.map (·.1)):=by
 induction h with
 | nil=>intro xs hl hxl _; cases xs with
  | nil=>simp [qB,List.drop_of_length_le (Nat.le_of_eq hl)]
  | cons=>simp at hxl
 | @cons f fs off n top ho hr _ ih=>
  intro xs hl hxl hx;have h0:=hx 0 f rfl;rw [ho,hr.1] at h0
  match xs,hxl with
  | x::xs,hxl=>
   have h1:=hr.2 h0;have h2:=ih (xs:=xs) hl (by simpa using hxl) (fun i g hg=>by
    have:=hx (i+1) g (by simpa using hg)
    simpa using this)
   rw [List.map_cons,qB,←h1,←h2,←List.drop_drop,List.take_append_drop]
theorem QkI {P:Program}{T n:Nat}{fs:Array Field} (hu:P.underlying T=some (.struct fs)) (hc:P.cellsOf T=n) (h:FLF P fs.toList 0 n):FL P T n:=by
 refine ⟨hc,fun {H enc w base sp held fuel cs x} hx=>?_⟩;obtain ⟨xs,k,rfl,rfl,hl,hxl,hi⟩:=DataW.trod_struct hu hx;have:=h.run (xs:=xs) (by rw [hl,hc]) (by simpa using hxl) (fun i f hf=>hi i f (by simpa using hf))
 simpa [BD] using this
theorem Qf1 {P:Program}{W:World}{nm:String}{d:DataW Unit}{r:List (String×DataW Unit)}{ps:List MemPlace} (h:DataW.LaidVars P W ((nm,d)::r) ps){g T n:Nat} (hg:P.globalNamed nm=some g) (hT:(P.globals[g]?).map (·.type)=some T)
  (hF:FL P T n){R:Rep α}{x:α} (hR:∀m,R.rel m (BD d) x):GAt g R x (Qcg W)∧∃q,DataW.LaidVars P W r q:=by
 obtain ⟨g',t,cs,fuel,p,q,h1,h2,h3,h4,h5,_⟩:=h;obtain rfl:=Option.some.inj (hg.symm.trans h1);obtain rfl:=Option.some.inj (hT.symm.trans h2);have hcs:=hF.2 h4;refine ⟨⟨BD d,hR _,fun j v e=>?_⟩,q,h5⟩;have hcs':cs.toList=BD d:=hcs;rw [←hcs'] at e;show W.cell? ⟨g,0+j,none⟩=some v;rw [Nat.zero_add,World.var?_cell h1 h3 j,←e]
 simp
theorem Qg7 {W W':World}{m m':Mem}{bs':List Nat} (h:Frm W W' m m' [] bs'):Below W.heap.size W W':=⟨h.os,h.tape,h.output,h.size,fun k hk=>(h.old k hk (by simp)).1⟩
theorem QiO {H:Type}{enc:TypeId×Value→H}{P:Program}{f:Func}{s:ChangeSpec}{apart fresh handsOn again:Bool}{W W':World}{args:Array Value}{v:Value}{ds:List (DataW H)}{before:List MemPlace}
  (hW:DataW.Whole enc P f.params.toList s.vars apart W args.toList ds [] before) (hvn:s.vars = []) (hb:Below W.heap.size W W')
  (hl:laidOutB P=true) (hread:(f.params.toList.all fun t=>P.readableRec t&&Nat.blt t P.types.size)=true)
  (hres:∀(b:Nat) (sp:Nat→Bool) (hd:Bool),DataW.TrodAll enc P W' b sp hd f.resultTypes.toList (v.resultList f.resultTypes.size) (s.fn H (ds++ [])).results [])
  (hargs:(s.fn H (ds++ [])).args=ds) (hvars:(s.fn H (ds++ [])).vars = [])
  (hok:∀(j:Nat) (t:TypeId) (r:Value),f.resultTypes[j]? = some t→(v.resultList f.resultTypes.size)[j]? = some r→Value.okWide P W' .any 0 t r) :
  s.post enc P f apart fresh handsOn again W args v W':=by
 have hW0:=hW;have hlt:∀p∈before,p.block < W.heap.size:=fun p hp=>hW.lt p hp
 obtain ⟨pa,pv,hA,hV,rfl,hz,hn⟩:=hW;rw [hvn] at hV;obtain rfl:pv = []:=hV;have hstay:∀(ts:List TypeId) (vs:List Value) (es:List (DataW H)) (p:List MemPlace),(∀t∈ts,P.readableRec t=true∧t < P.types.size)→(∀x∈p,x.block < W.heap.size)→DataW.TrodAll enc P W 0 (fun _=>true) true ts vs es p→
   DataW.TrodAll enc P W' 0 (fun b=>decide (b < W.heap.size)) true ts vs es p:=by
  intro ts
  induction ts with
  | nil=>intro vs es p _ _ h; obtain ⟨rfl,rfl,rfl⟩:=trodAll_nil h; rfl
  | cons t ts ih=>
   intro vs es p ht hp h;obtain ⟨v,vs',d,ds',a,b,rfl,rfl,rfl,h1,h2⟩:=trodAll_cons h;exact ⟨a,b,Below.trod hl (ht t (by simp)).1 (ht t (by simp)).2 h1 hb (fun x hx=>hp x (by simp [hx])),ih _ _ _ (fun u hu=>ht u (by simp [hu])) (fun x hx=>hp x (by simp [hx])) h2,rfl⟩
 have hall:∀t∈f.params.toList,P.readableRec t=true∧t < P.types.size:=by
  intro t ht;have:=List.all_eq_true.1 hread t ht
  simpa [Nat.blt_eq] using this
 have hA':=hstay _ _ _ _ hall (fun x hx=>hlt x (by simp [hx])) hA;have hfz:∀b off,b < W.heap.size→W'.frozen? ⟨b,off,none⟩=W.frozen? ⟨b,off,none⟩:=by
  intro b off h;unfold World.frozen?
  simp only [hb.block b h]
 have hold:∀p∈pa++ [],(fun b=>decide (b < W.heap.size)) p.block=true:=fun p hp=>by simpa using hlt p hp
 have hkeep:W.keptBut W' (fun _=>False):=by
  refine ⟨hb.os,hb.output,fun i hi=>?_⟩;rw [hb.block i hi]
  split<;>simp_all
 refine ⟨ds, [],pa++ [], [],pa, [],hW0,hres _ _ _,by rw [hargs]; exact hA',by rw [hvn,hvars]; rfl,World.keptBut_mono (fun p hp=>hp.elim) hkeep,fun _=>?_⟩;have hA2:DataW.TrodAll enc P W' 0 (fun _=>true) true f.params.toList args.toList ds pa:=by
  have hstay2:∀(ts:List TypeId) (vs:List Value) (es:List (DataW H)) (p:List MemPlace),(∀t∈ts,P.readableRec t=true∧t < P.types.size)→(∀x∈p,x.block < W.heap.size)→DataW.TrodAll enc P W 0 (fun _=>true) true ts vs es p→
    DataW.TrodAll enc P W' 0 (fun _=>true) true ts vs es p:=by
   intro ts
   induction ts with
   | nil=>intro vs es p _ _ h; obtain ⟨rfl,rfl,rfl⟩:=trodAll_nil h; rfl
   | cons t ts ih=>
    intro vs es p ht hp h;obtain ⟨v,vs',d,ds',a,b,rfl,rfl,rfl,h1,h2⟩:=trodAll_cons h;exact ⟨a,b,WideElems.Trod_stays hl (ht t (by simp)).1 (ht t (by simp)).2 h1 (fun x hx=>hb.same (hp x (by simp [hx]))) (fun x hx=>rfl),ih _ _ _ (fun u hu=>ht u (by simp [hu])) (fun x hx=>hp x (by simp [hx])) h2,rfl⟩
  exact hstay2 _ _ _ _ hall (fun x hx=>hlt x (by simp [hx])) hA
 refine ⟨hok,(s.fn H (ds++ [])).results++(s.fn H (ds++ [])).args,(s.fn H (ds++ [])).vars,([]++pa)++ [],⟨[]++pa, [],trodAll_append (by rw [hargs]; exact hA2) (hres _ _ _),by rw [hvn,hvars]; rfl,rfl,?_,?_⟩,?_⟩
 ·intro b off hp;have hp':MemPlace.cell b off∈pa++ []:=by simpa using hp
  rw [hfz b off (hlt _ hp')];exact hz b off (by simpa using hp)
 ·intro ha;have:=hn ha
  simpa using this
 ·intro p hp _
  simpa using hp
end
end Go.Sl
namespace Go.Sl
section
variable {c : Ctx} {full : Array Oper} {l : List Oper} {Γ Γ' : Env} {H H' : List Ent} {K : Act → World → Prop} {d : Tmp} {od : Option Tmp} {ty : TypeId} {pos : String} {aft : Array Edge} {g : Option (Nat × Bool)} {α β : Type} {Q : Exit → Act → World → Prop} {k : List Code}
theorem SubE.k1 {t1:Tmp}{s1:Slot} (h1:lk Γ t1=some s1:=by exact rfl):SubE Γ [(t1,s1)]:=(.cons (.of_lk h1) .nil)
theorem SubE.k2 {t1 t2:Tmp}{s1 s2:Slot} (h1:lk Γ t1=some s1:=by exact rfl) (h2:lk Γ t2=some s2:=by exact rfl):SubE Γ [(t1,s1),(t2,s2)]:=(.cons (.of_lk h1) (.cons (.of_lk h2) .nil))
theorem SubE.k3 {t1 t2 t3:Tmp}{s1 s2 s3:Slot} (h1:lk Γ t1=some s1:=by exact rfl) (h2:lk Γ t2=some s2:=by exact rfl) (h3:lk Γ t3=some s3:=by exact rfl):SubE Γ [(t1,s1),(t2,s2),(t3,s3)]:=(.cons (.of_lk h1) (.cons (.of_lk h2) (.cons (.of_lk h3) .nil)))
theorem SubE.k4 {t1 t2 t3 t4:Tmp}{s1 s2 s3 s4:Slot} (h1:lk Γ t1=some s1:=by exact rfl) (h2:lk Γ t2=some s2:=by exact rfl) (h3:lk Γ t3=some s3:=by exact rfl) (h4:lk Γ t4=some s4:=by exact rfl):SubE Γ [(t1,s1),(t2,s2),(t3,s3),(t4,s4)]:=(.cons (.of_lk h1) (.cons (.of_lk h2) (.cons (.of_lk h3) (.cons (.of_lk h4) .nil))))
theorem SubE.k5 {t1 t2 t3 t4 t5:Tmp}{s1 s2 s3 s4 s5:Slot} (h1:lk Γ t1=some s1:=by exact rfl) (h2:lk Γ t2=some s2:=by exact rfl) (h3:lk Γ t3=some s3:=by exact rfl) (h4:lk Γ t4=some s4:=by exact rfl) (h5:lk Γ t5=some s5:=by exact rfl):SubE Γ [(t1,s1),(t2,s2),(t3,s3),(t4,s4),(t5,s5)]:=(.cons (.of_lk h1) (.cons (.of_lk h2) (.cons (.of_lk h3) (.cons (.of_lk h4) (.cons (.of_lk h5) .nil)))))
theorem SubE.k6 {t1 t2 t3 t4 t5 t6:Tmp}{s1 s2 s3 s4 s5 s6:Slot} (h1:lk Γ t1=some s1:=by exact rfl) (h2:lk Γ t2=some s2:=by exact rfl) (h3:lk Γ t3=some s3:=by exact rfl) (h4:lk Γ t4=some s4:=by exact rfl) (h5:lk Γ t5=some s5:=by exact rfl) (h6:lk Γ t6=some s6:=by exact rfl):SubE Γ [(t1,s1),(t2,s2),(t3,s3),(t4,s4),(t5,s5),(t6,s6)]:=(.cons (.of_lk h1) (.cons (.of_lk h2) (.cons (.of_lk h3) (.cons (.of_lk h4) (.cons (.of_lk h5) (.cons (.of_lk h6) .nil))))))
theorem SubE.k7 {t1 t2 t3 t4 t5 t6 t7:Tmp}{s1 s2 s3 s4 s5 s6 s7:Slot} (h1:lk Γ t1=some s1:=by exact rfl) (h2:lk Γ t2=some s2:=by exact rfl) (h3:lk Γ t3=some s3:=by exact rfl) (h4:lk Γ t4=some s4:=by exact rfl) (h5:lk Γ t5=some s5:=by exact rfl) (h6:lk Γ t6=some s6:=by exact rfl) (h7:lk Γ t7=some s7:=by exact rfl):SubE Γ [(t1,s1),(t2,s2),(t3,s3),(t4,s4),(t5,s5),(t6,s6),(t7,s7)]:=(.cons (.of_lk h1) (.cons (.of_lk h2) (.cons (.of_lk h3) (.cons (.of_lk h4) (.cons (.of_lk h5) (.cons (.of_lk h6) (.cons (.of_lk h7) .nil)))))))
theorem SubE.k8 {t1 t2 t3 t4 t5 t6 t7 t8:Tmp}{s1 s2 s3 s4 s5 s6 s7 s8:Slot} (h1:lk Γ t1=some s1:=by exact rfl) (h2:lk Γ t2=some s2:=by exact rfl) (h3:lk Γ t3=some s3:=by exact rfl) (h4:lk Γ t4=some s4:=by exact rfl) (h5:lk Γ t5=some s5:=by exact rfl) (h6:lk Γ t6=some s6:=by exact rfl) (h7:lk Γ t7=some s7:=by exact rfl) (h8:lk Γ t8=some s8:=by exact rfl):SubE Γ [(t1,s1),(t2,s2),(t3,s3),(t4,s4),(t5,s5),(t6,s6),(t7,s7),(t8,s8)]:=(.cons (.of_lk h1) (.cons (.of_lk h2) (.cons (.of_lk h3) (.cons (.of_lk h4) (.cons (.of_lk h5) (.cons (.of_lk h6) (.cons (.of_lk h7) (.cons (.of_lk h8) .nil))))))))
theorem SubE.k9 {t1 t2 t3 t4 t5 t6 t7 t8 t9:Tmp}{s1 s2 s3 s4 s5 s6 s7 s8 s9:Slot} (h1:lk Γ t1=some s1:=by exact rfl) (h2:lk Γ t2=some s2:=by exact rfl) (h3:lk Γ t3=some s3:=by exact rfl) (h4:lk Γ t4=some s4:=by exact rfl) (h5:lk Γ t5=some s5:=by exact rfl) (h6:lk Γ t6=some s6:=by exact rfl) (h7:lk Γ t7=some s7:=by exact rfl) (h8:lk Γ t8=some s8:=by exact rfl) (h9:lk Γ t9=some s9:=by exact rfl):SubE Γ [(t1,s1),(t2,s2),(t3,s3),(t4,s4),(t5,s5),(t6,s6),(t7,s7),(t8,s8),(t9,s9)]:=(.cons (.of_lk h1) (.cons (.of_lk h2) (.cons (.of_lk h3) (.cons (.of_lk h4) (.cons (.of_lk h5) (.cons (.of_lk h6) (.cons (.of_lk h7) (.cons (.of_lk h8) (.cons (.of_lk h9) .nil)))))))))
theorem SubE.k10 {t1 t2 t3 t4 t5 t6 t7 t8 t9 t10:Tmp}{s1 s2 s3 s4 s5 s6 s7 s8 s9 s10:Slot} (h1:lk Γ t1=some s1:=by exact rfl) (h2:lk Γ t2=some s2:=by exact rfl) (h3:lk Γ t3=some s3:=by exact rfl) (h4:lk Γ t4=some s4:=by exact rfl) (h5:lk Γ t5=some s5:=by exact rfl) (h6:lk Γ t6=some s6:=by exact rfl) (h7:lk Γ t7=some s7:=by exact rfl) (h8:lk Γ t8=some s8:=by exact rfl) (h9:lk Γ t9=some s9:=by exact rfl) (h10:lk Γ t10=some s10:=by exact rfl):SubE Γ [(t1,s1),(t2,s2),(t3,s3),(t4,s4),(t5,s5),(t6,s6),(t7,s7),(t8,s8),(t9,s9),(t10,s10)]:=(.cons (.of_lk h1) (.cons (.of_lk h2) (.cons (.of_lk h3) (.cons (.of_lk h4) (.cons (.of_lk h5) (.cons (.of_lk h6) (.cons (.of_lk h7) (.cons (.of_lk h8) (.cons (.of_lk h9) (.cons (.of_lk h10) .nil))))))))))
theorem SubE.k11 {t1 t2 t3 t4 t5 t6 t7 t8 t9 t10 t11:Tmp}{s1 s2 s3 s4 s5 s6 s7 s8 s9 s10 s11:Slot} (h1:lk Γ t1=some s1:=by exact rfl) (h2:lk Γ t2=some s2:=by exact rfl) (h3:lk Γ t3=some s3:=by exact rfl) (h4:lk Γ t4=some s4:=by exact rfl) (h5:lk Γ t5=some s5:=by exact rfl) (h6:lk Γ t6=some s6:=by exact rfl) (h7:lk Γ t7=some s7:=by exact rfl) (h8:lk Γ t8=some s8:=by exact rfl) (h9:lk Γ t9=some s9:=by exact rfl) (h10:lk Γ t10=some s10:=by exact rfl) (h11:lk Γ t11=some s11:=by exact rfl):SubE Γ [(t1,s1),(t2,s2),(t3,s3),(t4,s4),(t5,s5),(t6,s6),(t7,s7),(t8,s8),(t9,s9),(t10,s10),(t11,s11)]:=(.cons (.of_lk h1) (.cons (.of_lk h2) (.cons (.of_lk h3) (.cons (.of_lk h4) (.cons (.of_lk h5) (.cons (.of_lk h6) (.cons (.of_lk h7) (.cons (.of_lk h8) (.cons (.of_lk h9) (.cons (.of_lk h10) (.cons (.of_lk h11) .nil)))))))))))
theorem SubE.k12 {t1 t2 t3 t4 t5 t6 t7 t8 t9 t10 t11 t12:Tmp}{s1 s2 s3 s4 s5 s6 s7 s8 s9 s10 s11 s12:Slot} (h1:lk Γ t1=some s1:=by exact rfl) (h2:lk Γ t2=some s2:=by exact rfl) (h3:lk Γ t3=some s3:=by exact rfl) (h4:lk Γ t4=some s4:=by exact rfl) (h5:lk Γ t5=some s5:=by exact rfl) (h6:lk Γ t6=some s6:=by exact rfl) (h7:lk Γ t7=some s7:=by exact rfl) (h8:lk Γ t8=some s8:=by exact rfl) (h9:lk Γ t9=some s9:=by exact rfl) (h10:lk Γ t10=some s10:=by exact rfl) (h11:lk Γ t11=some s11:=by exact rfl) (h12:lk Γ t12=some s12:=by exact rfl):SubE Γ [(t1,s1),(t2,s2),(t3,s3),(t4,s4),(t5,s5),(t6,s6),(t7,s7),(t8,s8),(t9,s9),(t10,s10),(t11,s11),(t12,s12)]:=(.cons (.of_lk h1) (.cons (.of_lk h2) (.cons (.of_lk h3) (.cons (.of_lk h4) (.cons (.of_lk h5) (.cons (.of_lk h6) (.cons (.of_lk h7) (.cons (.of_lk h8) (.cons (.of_lk h9) (.cons (.of_lk h10) (.cons (.of_lk h11) (.cons (.of_lk h12) .nil))))))))))))
theorem Keep.h1 {e1:Ent}:Keep (e1::H) [e1]:=(.cons .here .nil)
theorem Parts.h1 {e1:Ent}:Parts (e1::H) [e1] H:=(.cons .here .nil)
theorem Keep.h2 {e1 e2:Ent}:Keep (e1::e2::H) [e1,e2]:=(.cons .here (.cons .here .nil))
theorem Parts.h2 {e1 e2:Ent}:Parts (e1::e2::H) [e1,e2] H:=(.cons .here (.cons .here .nil))
theorem Keep.h3 {e1 e2 e3:Ent}:Keep (e1::e2::e3::H) [e1,e2,e3]:=(.cons .here (.cons .here (.cons .here .nil)))
theorem Parts.h3 {e1 e2 e3:Ent}:Parts (e1::e2::e3::H) [e1,e2,e3] H:=(.cons .here (.cons .here (.cons .here .nil)))
theorem Keep.h4 {e1 e2 e3 e4:Ent}:Keep (e1::e2::e3::e4::H) [e1,e2,e3,e4]:=(.cons .here (.cons .here (.cons .here (.cons .here .nil))))
theorem Parts.h4 {e1 e2 e3 e4:Ent}:Parts (e1::e2::e3::e4::H) [e1,e2,e3,e4] H:=(.cons .here (.cons .here (.cons .here (.cons .here .nil))))
theorem Keep.h5 {e1 e2 e3 e4 e5:Ent}:Keep (e1::e2::e3::e4::e5::H) [e1,e2,e3,e4,e5]:=(.cons .here (.cons .here (.cons .here (.cons .here (.cons .here .nil)))))
theorem Parts.h5 {e1 e2 e3 e4 e5:Ent}:Parts (e1::e2::e3::e4::e5::H) [e1,e2,e3,e4,e5] H:=(.cons .here (.cons .here (.cons .here (.cons .here (.cons .here .nil)))))
theorem Keep.h6 {e1 e2 e3 e4 e5 e6:Ent}:Keep (e1::e2::e3::e4::e5::e6::H) [e1,e2,e3,e4,e5,e6]:=(.cons .here (.cons .here (.cons .here (.cons .here (.cons .here (.cons .here .nil))))))
theorem Parts.h6 {e1 e2 e3 e4 e5 e6:Ent}:Parts (e1::e2::e3::e4::e5::e6::H) [e1,e2,e3,e4,e5,e6] H:=(.cons .here (.cons .here (.cons .here (.cons .here (.cons .here (.cons .here .nil))))))
theorem Keep.h7 {e1 e2 e3 e4 e5 e6 e7:Ent}:Keep (e1::e2::e3::e4::e5::e6::e7::H) [e1,e2,e3,e4,e5,e6,e7]:=(.cons .here (.cons .here (.cons .here (.cons .here (.cons .here (.cons .here (.cons .here .nil)))))))
theorem Parts.h7 {e1 e2 e3 e4 e5 e6 e7:Ent}:Parts (e1::e2::e3::e4::e5::e6::e7::H) [e1,e2,e3,e4,e5,e6,e7] H:=(.cons .here (.cons .here (.cons .here (.cons .here (.cons .here (.cons .here (.cons .here .nil)))))))
theorem Keep.h8 {e1 e2 e3 e4 e5 e6 e7 e8:Ent}:Keep (e1::e2::e3::e4::e5::e6::e7::e8::H) [e1,e2,e3,e4,e5,e6,e7,e8]:=(.cons .here (.cons .here (.cons .here (.cons .here (.cons .here (.cons .here (.cons .here (.cons .here .nil))))))))
theorem Parts.h8 {e1 e2 e3 e4 e5 e6 e7 e8:Ent}:Parts (e1::e2::e3::e4::e5::e6::e7::e8::H) [e1,e2,e3,e4,e5,e6,e7,e8] H:=(.cons .here (.cons .here (.cons .here (.cons .here (.cons .here (.cons .here (.cons .here (.cons .here .nil))))))))
theorem Keep.h9 {e1 e2 e3 e4 e5 e6 e7 e8 e9:Ent}:Keep (e1::e2::e3::e4::e5::e6::e7::e8::e9::H) [e1,e2,e3,e4,e5,e6,e7,e8,e9]:=(.cons .here (.cons .here (.cons .here (.cons .here (.cons .here (.cons .here (.cons .here (.cons .here (.cons .here .nil)))))))))
theorem Parts.h9 {e1 e2 e3 e4 e5 e6 e7 e8 e9:Ent}:Parts (e1::e2::e3::e4::e5::e6::e7::e8::e9::H) [e1,e2,e3,e4,e5,e6,e7,e8,e9] H:=(.cons .here (.cons .here (.cons .here (.cons .here (.cons .here (.cons .here (.cons .here (.cons .here (.cons .here .nil)))))))))
theorem Keep.h10 {e1 e2 e3 e4 e5 e6 e7 e8 e9 e10:Ent}:Keep (e1::e2::e3::e4::e5::e6::e7::e8::e9::e10::H) [e1,e2,e3,e4,e5,e6,e7,e8,e9,e10]:=(.cons .here (.cons .here (.cons .here (.cons .here (.cons .here (.cons .here (.cons .here (.cons .here (.cons .here (.cons .here .nil))))))))))
theorem Parts.h10 {e1 e2 e3 e4 e5 e6 e7 e8 e9 e10:Ent}:Parts (e1::e2::e3::e4::e5::e6::e7::e8::e9::e10::H) [e1,e2,e3,e4,e5,e6,e7,e8,e9,e10] H:=(.cons .here (.cons .here (.cons .here (.cons .here (.cons .here (.cons .here (.cons .here (.cons .here (.cons .here (.cons .here .nil))))))))))
theorem tl1 {t1:Tmp}{s1:Slot} (h1:lk Γ t1=some s1:=by exact rfl):BH Γ [.tmp t1] [s1]:=(Z5 (Ya h1) Jm)
theorem tl2 {t1 t2:Tmp}{s1 s2:Slot} (h1:lk Γ t1=some s1:=by exact rfl) (h2:lk Γ t2=some s2:=by exact rfl):BH Γ [.tmp t1, .tmp t2] [s1,s2]:=(Z5 (Ya h1) (Z5 (Ya h2) Jm))
theorem tl3 {t1 t2 t3:Tmp}{s1 s2 s3:Slot} (h1:lk Γ t1=some s1:=by exact rfl) (h2:lk Γ t2=some s2:=by exact rfl) (h3:lk Γ t3=some s3:=by exact rfl):BH Γ [.tmp t1, .tmp t2, .tmp t3] [s1,s2,s3]:=(Z5 (Ya h1) (Z5 (Ya h2) (Z5 (Ya h3) Jm)))
theorem tl4 {t1 t2 t3 t4:Tmp}{s1 s2 s3 s4:Slot} (h1:lk Γ t1=some s1:=by exact rfl) (h2:lk Γ t2=some s2:=by exact rfl) (h3:lk Γ t3=some s3:=by exact rfl) (h4:lk Γ t4=some s4:=by exact rfl):BH Γ [.tmp t1, .tmp t2, .tmp t3, .tmp t4] [s1,s2,s3,s4]:=(Z5 (Ya h1) (Z5 (Ya h2) (Z5 (Ya h3) (Z5 (Ya h4) Jm))))
theorem tl5 {t1 t2 t3 t4 t5:Tmp}{s1 s2 s3 s4 s5:Slot} (h1:lk Γ t1=some s1:=by exact rfl) (h2:lk Γ t2=some s2:=by exact rfl) (h3:lk Γ t3=some s3:=by exact rfl) (h4:lk Γ t4=some s4:=by exact rfl) (h5:lk Γ t5=some s5:=by exact rfl):BH Γ [.tmp t1, .tmp t2, .tmp t3, .tmp t4, .tmp t5] [s1,s2,s3,s4,s5]:=(Z5 (Ya h1) (Z5 (Ya h2) (Z5 (Ya h3) (Z5 (Ya h4) (Z5 (Ya h5) Jm)))))
theorem tl6 {t1 t2 t3 t4 t5 t6:Tmp}{s1 s2 s3 s4 s5 s6:Slot} (h1:lk Γ t1=some s1:=by exact rfl) (h2:lk Γ t2=some s2:=by exact rfl) (h3:lk Γ t3=some s3:=by exact rfl) (h4:lk Γ t4=some s4:=by exact rfl) (h5:lk Γ t5=some s5:=by exact rfl) (h6:lk Γ t6=some s6:=by exact rfl):BH Γ [.tmp t1, .tmp t2, .tmp t3, .tmp t4, .tmp t5, .tmp t6] [s1,s2,s3,s4,s5,s6]:=(Z5 (Ya h1) (Z5 (Ya h2) (Z5 (Ya h3) (Z5 (Ya h4) (Z5 (Ya h5) (Z5 (Ya h6) Jm))))))
theorem jq {p:Op}{s:Slot} (h:PJ c ⟨some d,p,ty,pos,aft,none⟩ Γ H s) (k:J9 c full l ((d,s)::Γ) H K) (hN:Nat.blt d c.N=true:=by exact rfl):J9 c full (⟨some d,p,ty,pos,aft,none⟩::l) Γ H K:=QcK h rfl rfl hN k
theorem jm {t:Tmp}{s:Slot} (k:J9 c full l ((d,s)::Γ) H K) (h:lk Γ t=some s:=by exact rfl) (hN:Nat.blt d c.N=true:=by exact rfl):J9 c full (⟨some d, .move (.tmp t),ty,pos,aft,none⟩::l) Γ H K:=QcK (QeO (Ya h)) rfl rfl hN k
theorem ja {t:Tmp}{s:Slot} (k:J9 c full l ((d,s)::Γ) H K) (h:lk Γ t=some s:=by exact rfl) (hN:Nat.blt d c.N=true:=by exact rfl):J9 c full (⟨some d, .assign (.tmp t),ty,pos,aft,none⟩::l) Γ H K:=QcK (Qeg (Ya h)) rfl rfl hN k
theorem jl {T:TypeId}{t:Tmp}{R:Rep α}{y:α} (k:J9 c full l ((d,R.slot y)::Γ) H K) (h:lk Γ t=some (QZ R y):=by exact rfl) (hT:tyB c.P T R.ag R.n=true:=by kernel_rfl) (hN:Nat.blt d c.N=true:=by exact rfl):J9 c full (⟨some d, .load T (.tmp t),ty,pos,aft,none⟩::l) Γ H K:=QcK (Qct (Ya h) hT) rfl rfl hN k
theorem jx {t:Tmp}{i:Nat}{ss:List Slot}{s:Slot} (k:J9 c full l ((d,s)::Γ) H K) (h:lk Γ t=some (tup ss):=by exact rfl) (hi:ss[i]? = some s:=by exact rfl) (hN:Nat.blt d c.N=true:=by exact rfl):J9 c full (⟨some d, .extract (.tmp t) i,ty,pos,aft,none⟩::l) Γ H K:=QcK (Ub (Ya h) hi) rfl rfl hN k
theorem jn {p:Op}{j t:Nat}{b:Bool} (e:b=false) (k:J9 c full l ((d,val undef)::Γ) H K) (hj:(full[j]?).bind (·.dst)=some t:=by exact rfl) (hN:Nat.blt t c.N=true:=by exact rfl) (hl:lk Γ t=some (bl.slot b):=by exact rfl) (hN':Nat.blt d c.N=true:=by exact rfl):J9 c full (⟨some d,p,ty,pos,aft,some (j,true)⟩::l) Γ H K:=Qeq rfl hj hN hl (Qg6 e) rfl rfl hN' k
theorem jN {p:Op}{j t:Nat}{b:Bool} (e:b=true) (k:J9 c full l ((d,val undef)::Γ) H K) (hj:(full[j]?).bind (·.dst)=some t:=by exact rfl) (hN:Nat.blt t c.N=true:=by exact rfl) (hl:lk Γ t=some (bl.slot b):=by exact rfl) (hN':Nat.blt d c.N=true:=by exact rfl):J9 c full (⟨some d,p,ty,pos,aft,some (j,false)⟩::l) Γ H K:=Qeq rfl hj hN hl (Qg6 e) rfl rfl hN' k
theorem jz {p:Op}{j t:Nat}{want b:Bool}{s:Slot} (h:PJ c ⟨some d,p,ty,pos,aft,some (j,want)⟩ Γ H s) (e:b=want) (k:J9 c full l ((d,s)::Γ) H K) (hj:(full[j]?).bind (·.dst)=some t:=by exact rfl) (hN:Nat.blt t c.N=true:=by exact rfl) (hl:lk Γ t=some (bl.slot b):=by exact rfl) (hN':Nat.blt d c.N=true:=by exact rfl):J9 c full (⟨some d,p,ty,pos,aft,some (j,want)⟩::l) Γ H K:=
 QlS h rfl hj hN hl (Qg6 e) rfl hN' k
theorem st {Q:Exit→Act→World→Prop}{k:List Code}{id:Nat}{y:Code} (h:J9 c l.toArray l Γ H (Qac c.ro c.P Q (y::k))):Run c Q (.seq (.region id l.toArray false) y::k) Γ H:=Qj4 (QhB h)
theorem RJ.p {full:List Oper}{kk:Nat}{o:Oper}{os:List Oper}{s:Slot}{σ:List Slot}{al:Option (Nat×Nat×(Nat→Ent))} (h:PJ c o Γ H s) (k:RJ c full H (kk+1) os (push o.dst s Γ) σ al) (hg:o.guard=none:=by exact rfl):RJ c full H kk (o::os) Γ (s::σ) al:= .read (.plain hg h) k
theorem RJ.m {full:List Oper}{kk:Nat}{t:Tmp}{os:List Oper}{s:Slot}{σ:List Slot}{al:Option (Nat×Nat×(Nat→Ent))} (h:lk Γ t=some s) (k:RJ c full H (kk+1) os (push od s Γ) σ al):RJ c full H kk (⟨od, .move (.tmp t),ty,pos,aft,none⟩::os) Γ (s::σ) al:= .read (.plain rfl (QeO (Ya h))) k
theorem RL.p {full:List Oper}{Ls:List Line}{kk:Nat}{o:Oper}{os:List Oper}{s:Slot}{σ:List Slot} (h:PJ c o Γ H s) (k:RL c full H Ls (kk+1) os (push o.dst s Γ) σ) (h0:(Ls.all fun L=>L.st.all fun x=>!Nat.beq x.1 kk)=true:=by exact rfl) (hg:o.guard=none:=by exact rfl):RL c full H Ls kk (o::os) Γ (s::σ):= .read h0 (.plain hg h) k
theorem RL.m {full:List Oper}{Ls:List Line}{kk:Nat}{t:Tmp}{os:List Oper}{s:Slot}{σ:List Slot} (h:lk Γ t=some s) (k:RL c full H Ls (kk+1) os (push od s Γ) σ) (h0:(Ls.all fun L=>L.st.all fun x=>!Nat.beq x.1 kk)=true:=by exact rfl):RL c full H Ls kk (⟨od, .move (.tmp t),ty,pos,aft,none⟩::os) Γ (s::σ):= .read h0 (.plain rfl (QeO (Ya h))) k
theorem gY {full:List Oper}{o:Oper}{j t:Nat}{want b:Bool} (e:b=want) (hg:o.guard=some (j,want):=by exact rfl) (hj:(full[j]?).bind (·.dst)=some t:=by exact rfl) (hl:lk Γ t=some (bl.slot b):=by exact rfl):qV full o Γ true:=⟨j,want,b,t,_,hg,hj,hl,fun _ _=>U7.1,QoI e⟩
theorem gN {full:List Oper}{o:Oper}{j t:Nat}{b:Bool} (e:b=false) (hg:o.guard=some (j,true):=by exact rfl) (hj:(full[j]?).bind (·.dst)=some t:=by exact rfl) (hl:lk Γ t=some (bl.slot b):=by exact rfl):qV full o Γ false:=⟨j,true,b,t,_,hg,hj,hl,fun _ _=>U7.1,Qoh e⟩
theorem gM {full:List Oper}{o:Oper}{j t:Nat}{b:Bool} (e:b=true) (hg:o.guard=some (j,false):=by exact rfl) (hj:(full[j]?).bind (·.dst)=some t:=by exact rfl) (hl:lk Γ t=some (bl.slot b):=by exact rfl):qV full o Γ false:=⟨j,false,b,t,_,hg,hj,hl,fun _ _=>U7.1,Qoh e⟩
theorem rd {id n:Nat}{L:List Oper}{σ:List Slot} (hR:RJ c L H 0 (L.take n) Γ σ none)
  (h:J9 c L.toArray (L.drop n) (Qdo Γ (L.take n) σ) H (Qac c.ro c.P Q k)) (hm:c.P.follows .mixedOrders=true:=by kernel_rfl) (hB:BV L n=true:=by kernel_rfl) (hn:Nat.ble n L.length=true:=by kernel_rfl) (hN:QeZ c.N (L.take n)=true:=by kernel_rfl):Run c Q (.region id L.toArray true::k) Γ H:=QlL hm hB hn hN hR h
theorem rdL {id n:Nat}{L:List Oper}{Ls:List Line}{σ:List Slot} (hR:RL c L H Ls 0 (L.take n) Γ σ)
  (h:Qez (fun V E=>J9 c L.toArray (L.drop n) (V++Qdo Γ (L.take n) σ) (E++H) (Qac c.ro c.P Q k)) Ls [] []) (hm:c.P.follows .mixedOrders=true:=by kernel_rfl) (hB:BV L n=true:=by kernel_rfl) (hn:Nat.ble n L.length=true:=by kernel_rfl) (hN:QeZ c.N (L.take n)=true:=by kernel_rfl) (hU:Qem (L.take n)=true:=by kernel_rfl)
  (hL:Qcp (L.take n) Ls=true:=by exact rfl):Run c Q (.region id L.toArray true::k) Γ ((Ls.map (·.ini)).flatten++H):=Qll hm hB hn hN hU hL hR h
theorem jc {f:FuncId}{args:List Operand}{ats:Array TypeId}{A:List Slot}{E:List Ent}{ι:Type}{ρ:ι→Slot}{ε:ι→List Ent} (hA:BH Γ args A) (hC:Ctr c.P c.G f A E ρ ε) (hE:Parts H E H')
  (k:∀i,J9 c full l ((d,ρ i)::Γ) (ε i++H') K) (hf:WE c.P f=true:=by kernel_rfl) (hN:Nat.blt d c.N=true:=by exact rfl):J9 c full (⟨some d, .call {callee:= .value (.func f),args:=args.toArray,argTypes:=ats},ty,pos,aft,none⟩::l) Γ H K:=QoP hA hf hC hE hN k
theorem pc {f:FuncId}{args:List Operand}{ats:Array TypeId}{A:List Slot}{s:Slot} (hA:BH Γ args A) (hC:Ctr c.P c.G f A [] (fun _:Unit=>s) (fun _=> [])) (hf:WE c.P f=true:=by kernel_rfl):PJ c ⟨od, .call {callee:= .value (.func f),args:=args.toArray,argTypes:=ats},ty,pos,aft,g⟩ Γ H s:=Qne hA hf hC
theorem wc {f:FuncId}{args:List Operand}{ats:Array TypeId}{A:List Slot}{E:List Ent}{ι:Type}{ρ:ι→Slot}{ε:ι→List Ent} (hA:BH Γ args A) (hC:Ctr c.P c.G f A E ρ ε) (hE:Parts H E H') (hf:WE c.P f=true:=by kernel_rfl) (hN:Nat.blt d c.N=true:=by exact rfl) :
  WJ c ⟨some d, .call {callee:= .value (.func f),args:=args.toArray,argTypes:=ats},ty,pos,aft,g⟩ Γ H (fun i=> [(d,ρ i)]) (fun i=>ε i++H'):=Qoy hA hf hC hE hN
theorem pft {S f off:Nat}{x:Operand}{R:Rep α}{Q:Rep β}{y:α}{get:α→β}{set:α→β→α} (hx:Has Γ x (QZ R y)) (hp:Path R off Q get set) (hf:Qg0 c.P S f off=true:=by kernel_rfl):PJ c ⟨od, .fieldAddr S x f,ty,pos,aft,g⟩ Γ H (QZ Q (get y)):=QhQ hx hp hf
theorem pfp {S f off b o:Nat}{x:Operand} (hx:Has Γ x (val (.pointer (some ⟨b,o,none⟩)))) (hf:Qg0 c.P S f off=true:=by kernel_rfl):PJ c ⟨od, .fieldAddr S x f,ty,pos,aft,g⟩ Γ H (val (.pointer (some ⟨b,o+off,none⟩))):=Qg4 hx hf
theorem plb {T T0:TypeId}{x:Operand}{b off:Nat}{R:Rep α}{S:Rep β}{y:α}{get:α→β}{set:α→β→α} (hx:Has Γ x (val (.pointer (some ⟨b,off,none⟩)))) (hk:Pick H (box b T0 R y) H') (hp:Path R off S get set) (hT:tyB c.P T S.ag S.n=true:=by kernel_rfl):PJ c ⟨od, .load T x,ty,pos,aft,g⟩ Γ H (S.slot (get y)):=QhJ hx hk hp hT
theorem plt {T:TypeId}{x:Operand}{R:Rep α}{y:α} (hx:Has Γ x (QZ R y)) (hT:tyB c.P T R.ag R.n=true:=by kernel_rfl):PJ c ⟨od, .load T x,ty,pos,aft,g⟩ Γ H (R.slot y):=Qct hx hT
theorem pix {T:TypeId}{x y:Operand}{R:Rep α}{xs:List α}{i:Int}{s:Slot}{z:α} (hx:Has Γ x ((sl R).slot xs)) (hy:Has Γ y s) (hs:Um s i) (h:JU xs i=some z) (hT:slB c.P T R.n=true:=by kernel_rfl):PJ c ⟨od, .indexAddr T x y,ty,pos,aft,g⟩ Γ H (QZ R z):=Qg2 hx hy hs h hT
theorem jk {T T0:TypeId}{x y:Operand}{b off:Nat}{R:Rep α}{S:Rep β}{r r':α}{z:β}{get:α→β}{set:α→β→α} (hx:Has Γ x (val (.pointer (some ⟨b,off,none⟩)))) (hy:Has Γ y (S.slot z)) (hk:Pick H (box b T0 R r) H') (hp:Path R off S get set)
  (k:J9 c full l Γ (box b T0 R r'::H') K) (hT:szB c.P T S.n=true:=by kernel_rfl) (e:set r z=r':=by exact rfl):J9 c full (⟨none, .store T x y,ty,pos,aft,none⟩::l) Γ H K:=Yx hx hy hk hp hT e k
theorem al {T:TypeId}{R:Rep α}{x:α}{cs:List Value} (hz:KH R x cs) (k:∀b,J9 c full l ((d,val (.pointer (some ⟨b,0,none⟩)))::Γ) (box b T R x::H) K) (hT:Wx c.P T=some cs:=by kernel_rfl) (hN:Nat.blt d c.N=true:=by exact rfl):J9 c full (⟨some d, .alloc T,ty,pos,aft,none⟩::l) Γ H K:=Qnf hz hT hN k
theorem pk1 {t:Tmp}{y z:Operand}{b x r:Bool} (e:b=true) (hy:Has Γ y (bl.slot x)) (q:x=r) (h:lk Γ t=some (bl.slot b):=by exact rfl):PJ c ⟨od, .pick (.tmp t) y z,ty,pos,aft,g⟩ Γ H (bl.slot r):=(QbO (t:=any) (Ya h) (fun _=>hy) (fun he=>absurd (e.symm.trans he) (by decide))).eqv q
theorem pk2 {t:Tmp}{y z:Operand}{b x r:Bool} (e:b=false) (hz:Has Γ z (bl.slot x)) (q:x=r) (h:lk Γ t=some (bl.slot b):=by exact rfl):PJ c ⟨od, .pick (.tmp t) y z,ty,pos,aft,g⟩ Γ H (bl.slot r):=(QbO (t:=any) (Ya h) (fun he=>absurd (e.symm.trans he) (by decide)) (fun _=>hz)).eqv q
theorem Path.a {R:Rep α}:Path R 0 R (fun x=>x) (fun _ y=>y):= .all R
theorem Path.f {R:Rep α}{S:Rep β}:Path (prod R S) 0 R (fun x=>x.1) (fun x y=>(y,x.2)):= .fst R S
theorem Path.s {R:Rep α}{S:Rep β}:Path (prod R S) R.n S (fun x=>x.2) (fun x y=>(x.1,y)):= .snd R S
theorem Path.t {γ:Type}{R:Rep α}{S:Rep β}{T:Rep γ}{o1 o2:Nat}{g1:α→β}{s1:α→β→α}{g2:β→γ}{s2:β→γ→β} (h:Path R o1 S g1 s1) (k:Path S o2 T g2 s2):Path R (o1+o2) T (fun x=>g2 (g1 x)) (fun x z=>s1 x (s2 (g1 x) z)):= .then h k
theorem th {t:Tmp}{s:Slot} (h:lk Γ t=some s:=by exact rfl):Has Γ (.tmp t) s:=Ya h
theorem jap {ST XT T E:TypeId}{x y:Operand}{R:Rep α}{v:Value}{ys xs:List α} (hx:Has Γ x (ov v)) (hk:Pick H (own T R v ys) H') (hy:Src c Γ H y R xs) (hb:ys.length+xs.length≤4294967296)
  (k:∀v',J9 c full l ((d,ov v')::Γ) (own T R v' (ys++xs)::H') K) (hT:slE c.P ST T R.n=true:=by kernel_rfl) (hX:c.P.underlying XT=some (.slice E):=by kernel_rfl) (hN:Nat.blt d c.N=true:=by exact rfl) :
  J9 c full (⟨some d, .call {callee:= .builtin .append,args:=#[x,y],argTypes:=#[ST,XT]},ty,pos,aft,none⟩::l) Γ H K:=Qmb hx hk hy hT hX hb hN k
theorem pcb {f:FuncId}{args:List Operand}{ats:Array TypeId}{A:List Slot}{s:Slot} (hA:QbC c Γ H args A) (hC:Ctr c.P c.G f A [] (fun _:Unit=>s) (fun _=> [])) (hs:s.flat) (hf:WE c.P f=true:=by kernel_rfl) :
  PJ c ⟨od, .call {callee:= .value (.func f),args:=args.toArray,argTypes:=ats},ty,pos,aft,g⟩ Γ H s:=Qmh hA hf hC hs
theorem pbs {ST T n:Nat}{R:Rep α}{ps:List (Nat×Operand)}{zs:List α} (h:BuildS Γ R 0 ps zs) (hn:n=zs.length:=by exact rfl) (hs:Nat.ble (n*R.n) 16777216=true:=by kernel_rfl) (hT:slE c.P ST T R.n=true:=by kernel_rfl) :
  PJ c ⟨od, .buildSlice ST n ps.toArray,ty,pos,aft,g⟩ Γ H ((sl R).slot zs):=Qge h hn hs hT
theorem ResJ.q {t b:Nat}{T T0:TypeId}{R:Rep α}{x:α} (hk:Pick H (box b T0 R x) H') (h:lk Γ t=some (val (.pointer (some ⟨b,0,none⟩))):=by exact rfl) (hT:tyB c.P T R.ag R.n=true:=by kernel_rfl):ResJ c Γ H (.cell t T) (R.slot x):= .cell h hk hT
theorem pbd {T:TypeId}{R:Rep α}{x r:α}{ps:List (Nat×Operand)}{zc:List Value} (hz:KH R x zc) (h:BuildJ c.P T Γ R ps x r) (hT:Wx c.P T=some zc:=by kernel_rfl) (hB:Qcq c.P T=true:=by kernel_rfl) (ha:R.ag=true:=by exact rfl) :
  PJ c ⟨od, .build T ps.toArray,ty,pos,aft,g⟩ Γ H (R.slot r):=Qiw hz hT hB ha h
theorem BuildJ.q {P:Program}{T:TypeId}{R:Rep α}{i off:Nat}{y:Operand}{S:Rep β}{z:β}{get:α→β}{set:α→β→α}{ps:List (Nat×Operand)}{x r:α} (h:Has Γ y (S.slot z)) (hp:Path R off S get set) (k:BuildJ P T Γ R ps (set x z) r) (hT:U1 P T i=some (off,S.n):=by kernel_rfl) :
  BuildJ P T Γ R ((i,y)::ps) x r:= .cons h hp hT k
theorem pcu {src dst:TypeId}{x:Operand}{s:Slot}{n:Int}{k:IntKind}{b:Nat} (hx:Has Γ x s) (hs:Um s n) (hk:k.bits=b:=by exact rfl) (hsg:k.signed=false:=by exact rfl) (h:Qfc c.P src dst k=true:=by kernel_rfl) :
  PJ c ⟨od, .convert src dst x,ty,pos,aft,g⟩ Γ H ((un k b).slot (BitVec.ofInt b n)):=QjM hk hsg h hx hs
theorem puu {src dst:TypeId}{x:Operand}{k k':IntKind}{b b':Nat}{n:BitVec b'} (hx:Has Γ x ((un k' b').slot n)) (hk:k.bits=b:=by exact rfl) (hsg:k.signed=false:=by exact rfl) (h:Qfc c.P src dst k=true:=by kernel_rfl) :
  PJ c ⟨od, .convert src dst x,ty,pos,aft,g⟩ Γ H ((un k b).slot (n.setWidth b)):=QiU hk hsg h hx
theorem pui {src dst:TypeId}{x:Operand}{k:IntKind}{b:Nat}{n:BitVec b} (hx:Has Γ x ((un k b).slot n)) (hb:b < 64:=by decide) (h:Qfc c.P src dst .i64=true:=by kernel_rfl) :
  PJ c ⟨od, .convert src dst x,ty,pos,aft,g⟩ Γ H (i64.slot (n.toNat:Int)):=QiN hb h hx
theorem bs {α β:Type}{o:Option α}{f:α→Option β}{r:β} (h:Option.bind o f=some r):∃x,o=some x∧f x=some r:=bind_some h
end
section
variable {c : Ctx} {Γ : Env} {H H' : List Ent} {a : Act} {w : World} {ι : Type} {ρ : ι → Slot} {ε : ι → List Ent} {fn : Func}
theorem qr {t:Nat}{s:Slot}{k:List Code} (i:ι) (hk:Keep H (ε i)) (hr:fn.results = #[.tmp t]:=by exact rfl) (h:lk Γ t=some s:=by exact rfl) (hs:∀m v,s.p m v→(ρ i).p m v:=by exact fun _ _ h=>h) (hd:c.mm=false:=by exact rfl) :
  Run c (bodyPost c.P fn (QbL c ρ ε)) (.ret::k) Γ H:=QS fun _ _ hst=>ZF hst hr (.tmp h) i hs hk hd
theorem qrM {t:Nat}{s:Slot}{k:List Code} (i:ι) (hk:Keep H (ε i)) (hr:fn.results = #[.tmp t]:=by exact rfl) (h:lk Γ t=some s:=by exact rfl) (hs:∀m v,s.p m v→(ρ i).p m v:=by exact fun _ _ h=>h) (hd:c.mm=true:=by exact rfl) :
  Run c (bodyPostM Fence.wide 0 c.P fn (QbL c ρ ε)) (.ret::k) Γ H:=QS fun _ _ hst=>Qj9 hst hr (.tmp h) i hs hk hd
theorem qL {t:Nat}{s:Slot} (hst:St c Γ H a w) (i:ι) (hk:Keep H (ε i)) (hr:fn.results = #[.tmp t]:=by exact rfl) (h:lk Γ t=some s:=by exact rfl) (hs:∀m v,s.p m v→(ρ i).p m v:=by exact fun _ _ h=>h) (hd:c.mm=false:=by exact rfl) :
  bodyPost c.P fn (QbL c ρ ε) .ret a w:=ZF hst hr (.tmp h) i hs hk hd
theorem qN {rs:List ResultVar}{ss:List Slot}{k:List Code} (hj:ResL c Γ H rs ss) (i:ι) (hk:Keep H (ε i)) (hr:fn.results=rs.toArray:=by exact rfl) (h1:Nat.beq rs.length 1=false:=by exact rfl) (hs:∀m v,(tup ss).p m v→(ρ i).p m v:=by exact fun _ _ h=>h) (hd:c.mm=false:=by exact rfl) :
  Run c (bodyPost c.P fn (QbL c ρ ε)) (.ret::k) Γ H:=QS fun _ _ hst=>Zy hst hr hj h1 i hs hk hd
end
end Go.Sl
