import Derived.Test.YtheldkljmefbaaaGreatDoorG3
import Derived.Orders
import Derived.Laws.BytesArg
import Derived.Laws.StructEq
import Derived.MapKept
set_option linter.unusedSimpArgs false
set_option linter.unusedVariables false
set_option linter.unusedSectionVars false
namespace Go.Sl
section
variable {c : Ctx} {full : Array Oper} {l : List Oper} {Γ Γ' : Env} {H H' : List Ent} {K : Act → World → Prop} {d : Tmp} {od : Option Tmp} {ty : TypeId} {pos : String} {aft : Array Edge} {g : Option (Nat × Bool)} {α β : Type}
def BH (Γ:Env):List Operand→List Slot→Prop
 | [],ss=>ss = []
 | x::xs,ss=>∃s ss',ss=s::ss'∧Has Γ x s∧BH Γ xs ss'
theorem Jm : BH Γ [] []:=rfl
theorem Z5 {x:Operand}{xs:List Operand}{s:Slot}{ss:List Slot} (h:Has Γ x s) (k:BH Γ xs ss):BH Γ (x::xs) (s::ss):=⟨s,ss,rfl,h,k⟩
theorem BH.all {m:Mem}{a:Act}:∀ {xs:List Operand}{ss:List Slot},BH Γ xs ss→(∀x∈xs,Opd Γ m a x)→BI m ss (xs.map a.eval)
 | [],_,h,_=>by cases h; rfl
 | x::xs,_,⟨s,ss',e,h,k⟩,ho=>by subst e; exact ⟨_,_,rfl,h m a (ho x (by simp)),BH.all k (fun y hy=>ho y (by simp [hy]))⟩
def WE (P:Program) (f:FuncId):Bool:=
 match P.funcs[f]? with
 | some fn => fn.name != "runtime.NumGoroutine" && fn.body.isSome
 | none=>false
theorem QaI {P:Program}{f:FuncId} (h:WE P f=true) (args:Array Value) (w:World):(callFunc f args).run P w = .ok (.enter f args) w:=by
 unfold WE at h
 split at h
 ·rename_i fn hf
  simp only [Bool.and_eq_true] at h
  obtain ⟨h1,h2⟩:=h;have e1 : (fn.name == "runtime.NumGoroutine") = false := by simpa [bne] using h1
  have e2:fn.body.isNone=false:=by cases hb:fn.body<;>simp [hb] at h2 ⊢
  simp only [callFunc,Sem.run_bind,run_program,Result.andThen_ok,hf,e1,Bool.false_eq_true,if_false,e2,Sem.run_pure]
 ·cases h
theorem WU {P:Program}{f:FuncId} (h:WE P f=true) (ρ:Operand→Value) (x:Operand) (hx:ρ x = .func (.func f) #[] #[]) (args:List Operand) (ats:Array TypeId) (w:World) (od:Option Tmp) (g:Option (Nat×Bool)) :
  (execOp ρ ⟨od, .call {callee:= .value x,args:=args.toArray,argTypes:=ats},ty,pos,aft,g⟩).run P w = .ok (.enter f (args.map ρ).toArray) w:=by
 simp only [execOp,resolve,Sem.run_bind,hx,Deferred.ofValue,Sem.run_pure,Result.andThen_ok,invoke]
 rw [QaI h]
 simp
theorem QnH {x:Operand}{f:FuncId}{args:List Operand}{ats:Array TypeId}{A:List Slot}{ι:Type}{s:Slot}{ε:ι→List Ent} (hx:Has Γ x (val (.func (.func f) #[] #[]))) (hA:BH Γ args A) (hf:WE c.P f=true)
  (hC:Ctr c.P c.G f A [] (fun _:ι=>s) (fun _=> [])):PJ c ⟨od, .call {callee:= .value x,args:=args.toArray,argTypes:=ats},ty,pos,aft,g⟩ Γ H s:=by
 intro m hs a w hg hG hsat ho;have hxe:a.eval x=_:=hx m a (ho x (by simp [Op.operands,Call.operands]));rw [WU hf a.eval x hxe];have hall:=hA.all (m:=m) (a:=a) (fun y hy=>ho y (by simp [Op.operands,Call.operands,hy]));have hg0:Zk m [] w:=⟨hg.mem,List.nodup_nil,(fun _ h=>by cases h),(fun _ h=>by cases h)⟩;refine (hC m w (args.map a.eval) [] hg0 hG hall rfl).mono ?_;rintro e w' ⟨v,m',hs',i,rfl,hg',hv,hsat',hf'⟩
 cases hsat'
 refine ⟨v,rfl,m',?_,hv,hf'⟩;refine ⟨hg'.mem,hg.nodup,fun x hx=>?_,fun x hx o=>?_⟩
 ·have hlt:=hg.ltb (List.mem_map_of_mem (f:=(·.1)) hx);rw [(hf'.old x.1 hlt (by simp [Hp.bs])).1];exact hg.blk x hx
 ·have hlt:=hg.ltb (List.mem_map_of_mem (f:=(·.1)) hx);rw [(hf'.old x.1 hlt (by simp [Hp.bs])).2 o];exact hg.free x hx o
theorem Qne {f:FuncId}{args:List Operand}{ats:Array TypeId}{A:List Slot}{s:Slot} (hA:BH Γ args A) (hf:WE c.P f=true)
  (hC:Ctr c.P c.G f A [] (fun _:Unit=>s) (fun _=> [])):PJ c ⟨od, .call {callee:= .value (.func f),args:=args.toArray,argTypes:=ats},ty,pos,aft,g⟩ Γ H s:=
 QnH (ε:=fun _:Unit=> []) Qdg hA hf hC
def ext (m:Mem) (hs:Hp):Mem:=fun b o=>match hs.find? (fun h=>h.1==b) with | some h=>h.2.2[o]? | none=>m b o
theorem qT {m:Mem}{hs:Hp}{b:Nat}{T:TypeId}{cs:List Value} (hn:hs.bs.Nodup) (h:(b,T,cs)∈hs) (o:Nat):ext m hs b o=cs[o]?:=by
 have:hs.find? (fun h=>h.1==b)=some (b,T,cs):=by
  induction hs with
  | nil=>cases h
  | cons x xs ih=>
   simp only [Hp.bs,List.map_cons,List.nodup_cons] at hn
   rcases List.mem_cons.1 h with rfl | h'
   ·simp
   ·have hne:x.1≠b:=fun e=>hn.1 (by rw [e]; exact List.mem_map_of_mem (f:=(·.1)) h');rw [List.find?_cons_of_neg (by simpa using hne)];exact ih hn.2 h'
 simp [ext,this]
theorem QeI {m:Mem}{hs:Hp}{b:Nat} (h:b∉hs.bs) (o:Nat):ext m hs b o=m b o:=by
 have:hs.find? (fun h=>h.1==b)=none:=by
  rw [List.find?_eq_none];intro x hx e;exact h (by
   have:x.1=b:=by simpa using e
   rw [←this]; exact List.mem_map_of_mem (f:=(·.1)) hx)
 simp [ext,this]
theorem WW {m:Mem}{hs:Hp}{w:World} (hg:Zk m hs w):Mle m (ext m hs):=by
 intro b o v e
 by_cases hb:b∈hs.bs
 ·obtain ⟨x,hx,rfl⟩:=List.mem_map.1 hb;rw [hg.free x hx o] at e; cases e
 ·rw [QeI hb]; exact e
theorem Zk.ext {m:Mem}{hs:Hp}{w:World} (hg:Zk m hs w):Zk (ext m hs) [] w where
 mem:=fun b o v e=>by
  by_cases hb:b∈hs.bs
  ·obtain ⟨x,hx,rfl⟩:=List.mem_map.1 hb;rw [qT (T:=x.2.1) (cs:=x.2.2) hg.nodup hx] at e;exact hg.cells (T:=x.2.1) (cs:=x.2.2) hx o v e
  ·rw [QeI hb] at e; exact hg.mem b o v e
 nodup:=List.nodup_nil
 blk:=fun _ h=>by cases h
 free:=fun _ h=>by cases h
def Qhz (c:Ctx) (Γ:Env) (H:List Ent) (x:Operand) (s:Slot):Prop:=
 ∀m hs a w,Zk m hs w→Sat H m hs→Opd Γ m a x→s.p (ext m hs) (a.eval x)
theorem Jh {x:Operand}{s:Slot} (h:Has Γ x s):Qhz c Γ H x s:=fun m hs a w hg _ ho=>s.mono (WW hg) (h m a ho)
theorem YX {x:Operand}{T:TypeId}{v:Value}{R:Rep α}{xs:List α} (hx:Has Γ x (ov v)) (hk:Pick H (own T R v xs) H'):Qhz c Γ H x ((sl R).slot xs):=by
 intro m hs a w hg hsat ho;have e:a.eval x=v:=(Bv.1 (hx m a ho)).1;rw [e];obtain ⟨h1,h2,hp,ho,_⟩:=hsat.pick hk
 rcases ho with ⟨rfl,_,ad,rfl⟩ | ⟨b,cap,row,spare,rfl,rfl,hr,hc,hl⟩
 ·exact ⟨ad,0,rfl,Nat.le_refl _, .inl rfl⟩
 ·refine ⟨_,cap,rfl,hc, .inr ⟨b,0,row,rfl,hr.mono (WW hg),fun j u ev=>?_⟩⟩;rw [qT (T:=T) (cs:=row++spare) hg.nodup (hp.mem_iff.2 (by simp)),Nat.zero_add,List.getElem?_append_left]
  ·exact ev
  ·exact (List.getElem?_eq_some_iff.1 ev).1
theorem Qh7 {x:Operand}{T b lo n cap N:Nat}{R:Rep α}{v:Vector α N} (hx:Has Γ x (val (.slice (some ⟨b,lo*R.n,none⟩) n cap))) (hk:Pick H (box b T (vec N R) v) H') (hn:lo+n≤N) (hc:n≤cap) :
  Qhz c Γ H x ((sl R).slot ((v.toList.drop lo).take n)):=by
 intro m hs a w hg hsat ho;have e:a.eval x=_:=hx m a ho;rw [e];obtain ⟨cs,hmem,hr⟩:=Sat.box (w:=w) hsat hk;have hlen:((v.toList.drop lo).take n).length=n:=by simp; omega
 refine ⟨_,cap,by rw [hlen],by rw [hlen]; exact hc, .inr ⟨b,lo*R.n,(cs.drop (lo*R.n)).take (n*R.n),rfl,((Zm.drop lo hr).take n).mono (WW hg),fun j u ev=>?_⟩⟩;rw [qT (T:=T) (cs:=cs) hg.nodup hmem];rw [List.getElem?_take] at ev
 split at ev
 ·rwa [List.getElem?_drop] at ev
 ·cases ev
def QbC (c:Ctx) (Γ:Env) (H:List Ent):List Operand→List Slot→Prop
 | [],ss=>ss = []
 | x::xs,ss=>∃s ss',ss=s::ss'∧Qhz c Γ H x s∧QbC c Γ H xs ss'
theorem Jj : QbC c Γ H [] []:=rfl
theorem Qr {x:Operand}{xs:List Operand}{s:Slot}{ss:List Slot} (h:Qhz c Γ H x s) (k:QbC c Γ H xs ss):QbC c Γ H (x::xs) (s::ss):=⟨s,ss,rfl,h,k⟩
theorem QbC.all {m:Mem}{a:Act}{hs:Hp}{w:World} (hg:Zk m hs w) (hsat:Sat H m hs):∀ {xs:List Operand}{ss:List Slot},QbC c Γ H xs ss→(∀x∈xs,Opd Γ m a x)→BI (ext m hs) ss (xs.map a.eval)
 | [],_,h,_=>by cases h; rfl
 | x::xs,_,⟨s,ss',e,h,k⟩,ho=>by subst e; exact ⟨_,_,rfl,h m hs a w hg hsat (ho x (by simp)),QbC.all hg hsat k (fun y hy=>ho y (by simp [hy]))⟩
def cut (m' m:Mem) (bs:List Nat):Mem:=fun b o=>if b∈bs then m b o else m' b o
theorem Qot {m m':Mem}{hs hs':Hp}{w w':World} (hg:Zk m hs w) (hg':Zk m' hs' w') (hf:Frm w w' (ext m hs) m' [] hs'.bs) :
  Zk (cut m' m hs.bs) (hs'++hs) w'∧Frm w w' m (cut m' m hs.bs) hs.bs (hs'++hs).bs:=by
 have hold:∀x∈hs,w'.heap[x.1]? = w.heap[x.1]?:=fun x hx=>(hf.old x.1 (hg.ltb (List.mem_map_of_mem (f:=(·.1)) hx)) (by simp)).1;have hdis:∀b∈hs'.bs,b∉hs.bs:=fun b hb h2=>by
  have h1:=(hf.own b hb).resolve_left (by simp);exact absurd (hg.ltb h2) (Nat.not_lt.2 h1)
 refine ⟨⟨fun b o v e=>?_,?_,fun x hx=>?_,fun x hx o=>?_⟩,?_⟩
 ·unfold cut at e
  split at e
  ·rename_i hb
   obtain ⟨x,hx,rfl⟩:=List.mem_map.1 hb;rw [hg.free x hx o] at e; cases e
  ·exact hg'.mem b o v e
 ·rw [Hp.bs_append];exact List.nodup_append.2 ⟨hg'.nodup,hg.nodup,fun x hx y hy e=>hdis x hx (e▸hy)⟩
 ·rcases List.mem_append.1 hx with hx | hx
  ·exact hg'.blk x hx
  ·rw [hold x hx]; exact hg.blk x hx
 ·rcases List.mem_append.1 hx with hx | hx
  ·have:x.1∉hs.bs:=hdis x.1 (List.mem_map_of_mem (f:=(·.1)) hx)
   simp only [cut,if_neg this]
   exact hg'.free x hx o
  ·have:x.1∈hs.bs:=List.mem_map_of_mem (f:=(·.1)) hx
   simp only [cut,if_pos this]
   exact hg.free x hx o
 ·refine ⟨hf.os,hf.tape,hf.output,hf.size,fun b hb hn=>⟨(hf.old b hb (by simp)).1,fun o=>?_⟩,fun b hb=>?_,fun b o v e=>?_⟩
  ·simp only [cut,if_neg hn]
   rw [(hf.old b hb (by simp)).2 o,QeI hn]
  ·rw [Hp.bs_append,List.mem_append] at hb
   rcases hb with hb | hb
   ·exact .inr ((hf.own b hb).resolve_left (by simp))
   ·exact .inl hb
  ·unfold cut
   split
   ·exact e
   ·exact hf.le b o v (WW hg b o v e)
theorem Qmh {f:FuncId}{args:List Operand}{ats:Array TypeId}{A:List Slot}{s:Slot} (hA:QbC c Γ H args A) (hf:WE c.P f=true)
  (hC:Ctr c.P c.G f A [] (fun _:Unit=>s) (fun _=> [])) (hs:s.flat):PJ c ⟨od, .call {callee:= .value (.func f),args:=args.toArray,argTypes:=ats},ty,pos,aft,g⟩ Γ H s:=by
 intro m hs2 a w hg hG hsat ho;rw [WU hf a.eval (.func f) rfl];have hall:=hA.all (m:=m) (a:=a) hg hsat (fun y hy=>ho y (by simp [Op.operands,Call.operands,hy]));refine (hC (ext m hs2) w (args.map a.eval) [] hg.ext (c.G.mono (WW hg) hG) hall rfl).mono ?_;rintro e w' ⟨v,m',hs',i,rfl,hg',hv,hsat',hf'⟩
 cases hsat'
 obtain ⟨h1,h2⟩:=Qot hg hg' hf';refine ⟨v,rfl,cut m' m hs2.bs,by simpa using h1,hs _ _ _ hv,?_⟩;refine {h2 with old:=fun b hb _=>?_,own:=fun b hb=>by cases hb}
 by_cases hbb:b∈hs2.bs
 ·refine ⟨(hf'.old b hb (by simp [Hp.bs])).1,fun o=>?_⟩
  simp only [cut,if_pos hbb]
 ·exact h2.old b hb hbb
def Ent.flat (e:Ent):Prop:=∀m m' h,e.p m h→e.p m' h
theorem Qdc {T:TypeId}{R:Rep α} (h:R.flat) (v:Value) (xs:List α):(own T R v xs).flat:=fun m m' hs ho=>ho.imp id fun ⟨b,cap,row,spare,e,e',p,q⟩=>⟨b,cap,row,spare,e,e',p.flat h,q⟩
theorem Sat.flat {m m':Mem}:∀ {H:List Ent}{hs:Hp},(∀e∈H,e.flat)→Sat H m hs→Sat H m' hs
 | [],_,_,h=>h
 | e::_,_,k,⟨h1,h2,he,p,q⟩=>⟨h1,h2,he,k e (by simp) _ _ _ p,Sat.flat (fun e h=>k e (by simp [h])) q⟩
theorem Qkf {f:FuncId}{args:List Operand}{ats:Array TypeId}{A:List Slot}{ι:Type}{ρ:ι→Slot}{ε:ι→List Ent} (hA:QbC c Γ H args A) (hf:WE c.P f=true)
  (hC:Ctr c.P c.G f A [] ρ ε) (hs:∀i,(ρ i).flat) (he:∀i,∀e∈ε i,e.flat) (hN:Nat.blt d c.N=true)
  (k:∀i,J9 c full l ((d,ρ i)::Γ) (ε i++H) K):J9 c full (⟨some d, .call {callee:= .value (.func f),args:=args.toArray,argTypes:=ats},ty,pos,aft,none⟩::l) Γ H K:=by
 refine Ur (Γ2:=fun i=>(d,ρ i)::Γ) (H2:=fun i=>ε i++H) rfl ?_ k;intro m hs2 a w hg hG hsat hen hn;rw [WU hf a.eval (.func f) rfl];have hall:=hA.all (m:=m) (a:=a) hg hsat (fun y _=>hen.opd y);refine (hC (ext m hs2) w (args.map a.eval) [] hg.ext (c.G.mono (WW hg) hG) hall rfl).mono ?_;rintro e w' ⟨v,m',hs',i,rfl,hg',hv,hsat',hf'⟩;obtain ⟨h1,h2⟩:=Qot hg hg' hf';have hle:Mle m (cut m' m hs2.bs):=h2.le;exact ⟨v,rfl,i,_,_,h1,(hen.mono hle).put (by rw [hn]; simpa [Nat.blt_eq] using hN) (hs i _ _ _ hv),(hsat'.flat (he i)).append (hsat.mono hle),h2⟩
inductive Parts : List Ent→List Ent→List Ent→Prop
 | nil {H:List Ent}:Parts H [] H
 | cons {H H1 H2 E:List Ent}{e:Ent}:Pick H e H1→Parts H1 E H2→Parts H (e::E) H2
theorem Sat.parts {H E H':List Ent} (k:Parts H E H'):∀ {m:Mem}{hs:Hp},Sat H m hs→∃h1 h2,hs.Perm (h1++h2)∧Sat E m h1∧Sat H' m h2:=by
 induction k with
 | nil=>intro m hs h; exact ⟨[],hs,List.Perm.refl _,rfl,h⟩
 | cons k _ ih=>
  intro m hs h;obtain ⟨h1,h2,hp,p,q⟩:=h.pick k;obtain ⟨g1,g2,hp2,p2,q2⟩:=ih q;exact ⟨h1++g1,g2,hp.trans (by rw [List.append_assoc]; exact List.Perm.append_left h1 hp2),⟨h1,g1,rfl,p,p2⟩,q2⟩
theorem QoP {f:FuncId}{args:List Operand}{ats:Array TypeId}{A:List Slot}{E:List Ent}{ι:Type}{ρ:ι→Slot}{ε:ι→List Ent} (hA:BH Γ args A) (hf:WE c.P f=true)
  (hC:Ctr c.P c.G f A E ρ ε) (hE:Parts H E H') (hN:Nat.blt d c.N=true)
  (k:∀i,J9 c full l ((d,ρ i)::Γ) (ε i++H') K):J9 c full (⟨some d, .call {callee:= .value (.func f),args:=args.toArray,argTypes:=ats},ty,pos,aft,none⟩::l) Γ H K:=by
 refine Ur (Γ2:=fun i=>(d,ρ i)::Γ) (H2:=fun i=>ε i++H') rfl ?_ k;intro m hs2 a w hg hG hsat hen hn;rw [WU hf a.eval (.func f) rfl];have hall:=hA.all (m:=m) (a:=a) (fun y _=>hen.opd y);obtain ⟨h1,h2,hp,hs1,hs3⟩:=hsat.parts hE;have hgp:=hg.perm hp;have hg1:Zk m h1 w:=Zk.sub (hs:=h2) (hgp.perm List.perm_append_comm);refine (hC m w (args.map a.eval) h1 hg1 hG hall hs1).mono ?_;rintro e w' ⟨v,m',hs',i,rfl,hg',hv,hsat',hf'⟩;have hnd:=hgp.nodup;rw [Hp.bs_append] at hnd;have hdj:=(List.nodup_append.1 hnd).2.2;have hn2:∀x∈h2,x.1∉Hp.bs h1:=fun x hx h=>hdj x.1 h x.1 (List.mem_map_of_mem (f:=(·.1)) hx) rfl
 have hl2:∀x∈h2,x.1 < w.heap.size:=fun x hx=>hgp.ltb (by rw [Hp.bs_append]; exact List.mem_append.2 (.inr (List.mem_map_of_mem (f:=(·.1)) hx)));have hg3:Zk m' (hs'++h2) w':=by
  refine ⟨hg'.mem,?_,fun x hx=>?_,fun x hx o=>?_⟩
  ·rw [Hp.bs_append];refine List.nodup_append.2 ⟨hg'.nodup,(List.nodup_append.1 hnd).2.1,fun b hb b' hb' e=>?_⟩;subst e;obtain ⟨x,hx,rfl⟩:=List.mem_map.1 hb'
   rcases hf'.own x.1 hb with h | h
   ·exact hn2 x hx h
   ·exact absurd (hl2 x hx) (Nat.not_lt.2 h)
  ·rcases List.mem_append.1 hx with hx | hx
   ·exact hg'.blk x hx
   ·rw [(hf'.old x.1 (hl2 x hx) (hn2 x hx)).1]; exact hgp.blk x (List.mem_append.2 (.inr hx))
  ·rcases List.mem_append.1 hx with hx | hx
   ·exact hg'.free x hx o
   ·rw [(hf'.old x.1 (hl2 x hx) (hn2 x hx)).2 o]; exact hgp.free x (List.mem_append.2 (.inr hx)) o
 refine ⟨v,rfl,i,m',hs'++h2,hg3,(hen.mono hf'.le).put (by rw [hn]; simpa [Nat.blt_eq] using hN) hv,hsat'.append (hs3.mono hf'.le),?_⟩;refine Frm.ofPerm hp ?_;rw [Hp.bs_append,Hp.bs_append];exact hf'.wide (Hp.bs h2)
theorem Ctr.froze {P:Program}{G:GP}{f:FuncId}{A:List Slot}{E:List Ent}{T:TypeId}{R:Rep α}{xs:List α} (h:Ctr P G f A E (fun v:Value=>ov v) (fun v=> [own T R v xs])) :
  Ctr P G f A E (fun _:Unit=>(sl R).slot xs) (fun _=> []):=by
 intro m w vs hs hg hG hA hsat;refine (h m w vs hs hg hG hA hsat).mono ?_;rintro e w' ⟨v,m',hs',i,rfl,hg',hv,⟨h1,h2,rfl,ho,h2e⟩,hf'⟩
 cases h2e
 obtain ⟨m2,hle,hg2,hv2,hf2,_⟩:=own.froze ho hg' hf';have:v=i:=(Bv.1 hv).1;subst this;exact ⟨v,m2, [],(),rfl,hg2,hv2,rfl,hf2⟩
theorem Ctr.froze2 {P:Program}{G:GP}{f:FuncId}{A:List Slot}{E:List Ent}{T:TypeId}{R:Rep α}{xs:List α}{s:Slot} (h:Ctr P G f A E (fun v:Value=>tup [ov v,s]) (fun v=> [own T R v xs])) :
  Ctr P G f A E (fun _:Unit=>tup [(sl R).slot xs,s]) (fun _=> []):=by
 intro m w vs hs hg hG hA hsat;refine (h m w vs hs hg hG hA hsat).mono ?_;rintro e w' ⟨v,m',hs',i,rfl,hg',⟨us,rfl,v1,us2,rfl,hv1,v2,us3,rfl,hv2,rfl⟩,⟨h1,h2,rfl,ho,h2e⟩,hf'⟩
 cases h2e
 obtain ⟨m2,hle,hg2,hv2',hf2,_⟩:=own.froze ho hg' hf';have:v1=i:=(Bv.1 hv1).1;subst this;exact ⟨_,m2, [],(),rfl,hg2,⟨_,rfl,_,_,rfl,hv2',_,_,rfl,s.mono hle hv2,rfl⟩,rfl,hf2⟩
end
end Go.Sl
namespace Go.Sl
section
variable {c : Ctx} {full : Array Oper} {l : List Oper} {Γ Γ' : Env} {H H' : List Ent} {K : Act → World → Prop} {d : Tmp} {od : Option Tmp} {ty : TypeId} {pos : String} {aft : Array Edge} {g : Option (Nat × Bool)} {α β : Type}
def U1 (P:Program) (T i:Nat):Option (Nat×Nat):=
 match P.underlying T with
 | some (.struct fs)=>(fs[i]?).bind fun f=>(P.info? f.type).map fun t=>(f.offset,t.size)
 | some (.array _ e)=>(P.info? e).map fun t=>(i*t.size,t.size)
 | _=>none
inductive BuildJ (P:Program) (T:TypeId) (Γ:Env) (R:Rep α):List (Nat×Operand)→α→α→Prop
 | nil {x:α}:BuildJ P T Γ R [] x x
 | cons {β:Type}{i off:Nat}{y:Operand}{S:Rep β}{z:β}{get:α→β}{set:α→β→α}{ps:List (Nat×Operand)}{x r:α} :
  Has Γ y (S.slot z)→Path R off S get set→U1 P T i=some (off,S.n)→BuildJ P T Γ R ps (set x z) r→BuildJ P T Γ R ((i,y)::ps) x r
theorem B8 (off:Nat):∀(ds:List Value) (k:Nat) (cs:List Value),off+k+ds.length≤cs.length→
  ((ds.zipIdx k).foldl (fun cs (p:Value×Nat)=>cs.setIfInBounds (off+p.2) p.1) cs.toArray)=(cs.take (off+k)++ds++cs.drop (off+k+ds.length)).toArray
 | [],k,cs,_=>by simp
 | v::ds,k,cs,h=>by
  simp only [List.length_cons] at h
  have hlt:off+k < cs.length:=by omega
  have ih:=B8 off ds (k+1) (cs.set (off+k) v) (by simp; omega)
  simp only [List.zipIdx_cons,List.foldl_cons]
  have e:cs.toArray.setIfInBounds (off+k) v=(cs.set (off+k) v).toArray:=by simp
  rw [e,ih]
  congr 1
  have e1:(cs.set (off+k) v).take (off+(k+1))=cs.take (off+k)++ [v]:=by
   rw [show off+(k+1)=(off+k)+1 by omega,List.take_succ_eq_append_getElem (by simpa using hlt)];rw [List.take_set,List.set_eq_of_length_le (by simp; omega)]; simp
  have e2:(cs.set (off+k) v).drop (off+(k+1)+ds.length)=cs.drop (off+k+(v::ds).length):=by
   rw [List.drop_set_of_lt (by omega)]; congr 1; simp; omega
  rw [e1,e2]; simp
theorem BuildJ.fill {P:Program}{T:TypeId}{R:Rep α}{m:Mem}{a:Act}{ps:List (Nat×Operand)}{x r:α} (h:BuildJ P T Γ R ps x r) :
  ∀ {cs:List Value}{place:Nat→Option (Nat×Nat)},R.rel m cs x→(∀i p,U1 P T i=some p→place i=some p)→(∀p∈ps,Opd Γ m a p.2)→
  ∃cs',Instr.fill place cs.toArray (ps.map fun p=>(p.1,a.eval p.2))=some cs'.toArray∧R.rel m cs' r:=by
 induction h with
 | nil=>intro cs place hr _ _; exact ⟨cs,rfl,hr⟩
 | @cons β i off y S z get set ps x r hy hp hpl _ ih=>
  intro cs place hr QdQ ho;obtain ⟨ds,hc,hd⟩:=Rep.is_cells (hy m a (ho (i,y) (by simp)));have hdl:=S.len hd;have hcl:=R.len hr;have hfit:=hp.fits;obtain ⟨cs',he,hr'⟩:=ih (cs:=cs.take off++ds++cs.drop (off+S.n)) (hp.set_ok hr hd) QdQ (fun p hp=>ho p (by simp [hp]));refine ⟨cs',?_,hr'⟩
  simp only [List.map_cons,Instr.fill,QdQ i _ hpl,hc]
  have hsz:ds.toArray.size=S.n:=by simp [hdl]
  have hcond:¬(ds.toArray.size≠S.n∨off+ds.toArray.size > cs.toArray.size):=by
   rintro (h | h)
   ·exact h hsz
   ·simp at h; omega
  have hbool:(decide (ds.toArray.size≠S.n)||decide (off+ds.toArray.size > cs.toArray.size))=false:=by
   simp only [Bool.or_eq_false_iff,decide_eq_false_iff_not]
   exact ⟨fun h=>h hsz,by simp; omega⟩
  have hf:=B8 off ds 0 cs (by omega);have hz:Array.foldl (fun cs (p:Value×Nat)=>cs.setIfInBounds (off+p.2) p.1) cs.toArray ds.toArray.zipIdx=(cs.take off++ds++cs.drop (off+S.n)).toArray:=by
   rw [←Array.foldl_toList,Array.toList_zipIdx];rw [hf]; simp [hdl]
  rw [if_neg (by simpa using hcond)]
  first
   | (rw [hz]; exact he)
   | (simp only [] at hz ⊢; rw [hz]; exact he)
def Qcq (P:Program) (T:TypeId):Bool:=
 match P.underlying T with
 | some (.struct fs)=>fs.toList.all fun f=>(P.info? f.type).isSome
 | some (.array _ e)=>(P.info? e).isSome
 | _=>false
theorem Qbg {P:Program}{w:World}:∀(fs:List Field),(∀f∈fs,(P.info? f.type).isSome=true)→
  (fs.mapM fun f=>do pure (f.offset,←sizeOf f.type):Sem (List (Nat×Nat))).run P w = .ok (fs.map fun f=>(f.offset,((P.info? f.type).map (·.size)).getD 0)) w
 | [],_=>by simp
 | f::fs,h=>by
  obtain ⟨i,hi⟩:=Option.isSome_iff_exists.1 (h f (by simp));have hs:(sizeOf f.type).run P w = .ok i.size w:=by simp [sizeOf,typeInfo,hi]
  have ih:=Qbg (P:=P) (w:=w) fs (fun f hf=>h f (by simp [hf]));rw [List.mapM_cons]
  simp only [Sem.run_bind,hs,Result.andThen_ok,Sem.run_pure,ih,List.map_cons,hi,Option.map_some,Option.getD_some]
theorem Qiw {T:TypeId}{R:Rep α}{x r:α}{ps:List (Nat×Operand)}{zc:List Value} (hz:KH R x zc) (hT:Wx c.P T=some zc) (hB:Qcq c.P T=true) (ha:R.ag=true) (h:BuildJ c.P T Γ R ps x r) :
  PJ c ⟨od, .build T ps.toArray,ty,pos,aft,g⟩ Γ H (R.slot r):=
 XC fun m hs a w _ _ _ ho=>by
  obtain ⟨zv,hzv,hzc⟩:=Qad hT w;have hop:∀p∈ps,Opd Γ m a p.2:=fun p hp=>ho p.2 (by
   simp only [Op.operands]
   simp only [List.mem_toArray,List.mem_map]
   exact ⟨p,hp,rfl⟩)
  have hpl:∀(place:Nat→Option (Nat×Nat)),(∀i p,U1 c.P T i=some p→place i=some p)→∃cs',Instr.fill place zc.toArray (ps.map fun p=>(p.1,a.eval p.2))=some cs'.toArray∧R.rel m cs' r:=
   fun place hp=>h.fill (hz m) hp hop
  have BJ:((ps.toArray.map fun (p:Nat×Operand)=>(p.1,a.eval p.2))).toList=ps.map fun p=>(p.1,a.eval p.2):=by simp
  unfold Qcq at hB
  split at hB
  ·rename_i fs hu
   have hall:∀f∈fs.toList,(c.P.info? f.type).isSome=true:=List.all_eq_true.1 hB;obtain ⟨cs',hfill,hr⟩:=hpl ((fs.toList.map fun f=>(f.offset,((c.P.info? f.type).map (·.size)).getD 0)).toArray[·]?) (by
    intro i p hp
    simp only [U1,hu] at hp
    simp only [List.getElem?_toArray,List.getElem?_map,Array.getElem?_toList]
    cases hf:fs[i]? with
    | none=>rw [hf] at hp; simp at hp
    | some f=>
     rw [hf] at hp
     simp only [Option.bind_some] at hp
     cases hi:c.P.info? f.type with
     | none=>rw [hi] at hp; simp at hp
     | some t=>rw [hi] at hp; simp only [Option.map_some] at hp ⊢; simpa [hi] using hp)
   have hmm:(fs.mapM fun f=>do pure (f.offset,←sizeOf f.type):Sem (Array (Nat×Nat))).run c.P w = .ok (fs.toList.map fun f=>(f.offset,((c.P.info? f.type).map (·.size)).getD 0)).toArray w:=by
    have:=Qbg (P:=c.P) (w:=w) fs.toList hall;rw [Array.mapM_eq_mapM_toList,Sem.run_map,this]
    rfl
   have hrun:(Instr.build T (ps.toArray.map fun (p:Nat×Operand)=>(p.1,a.eval p.2))).run c.P w = .ok (.agg cs'.toArray) w:=by
    simp only [Instr.build,Sem.run_bind,hzv,Result.andThen_ok,run_underlying hu,hzc,BJ,hmm,hfill,Sem.run_pure]
   refine ⟨.agg cs'.toArray,?_,?_⟩
   ·show (do let v ←Instr.build T (ps.toArray.map fun (p:Nat×Operand)=>(p.1,a.eval p.2)); pure (Next.value v):Sem Next).run c.P w=_;rw [Sem.run_bind,hrun]; rfl
   ·simp only [Rep.slot,Rep.is,ha]; exact ⟨cs',rfl,hr⟩
  ·rename_i n e hu
   obtain ⟨t,ht⟩:=Option.isSome_iff_exists.1 hB;obtain ⟨cs',hfill,hr⟩:=hpl (fun i=>some (i*t.size,t.size)) (by
    intro i p hp
    simp only [U1,hu,ht,Option.map_some] at hp
    exact hp)
   have hs:(sizeOf e).run c.P w = .ok t.size w:=by simp [sizeOf,typeInfo,ht]
   have hrun:(Instr.build T (ps.toArray.map fun (p:Nat×Operand)=>(p.1,a.eval p.2))).run c.P w = .ok (.agg cs'.toArray) w:=by
    simp only [Instr.build,Sem.run_bind,hzv,Result.andThen_ok,run_underlying hu,hzc,BJ,hs,hfill,Sem.run_pure]
   refine ⟨.agg cs'.toArray,?_,?_⟩
   ·show (do let v ←Instr.build T (ps.toArray.map fun (p:Nat×Operand)=>(p.1,a.eval p.2)); pure (Next.value v):Sem Next).run c.P w=_;rw [Sem.run_bind,hrun]; rfl
   ·simp only [Rep.slot,Rep.is,ha]; exact ⟨cs',rfl,hr⟩
  ·cases hB
inductive BuildS (Γ:Env) (R:Rep α):Nat→List (Nat×Operand)→List α→Prop
 | nil {k:Nat}:BuildS Γ R k [] []
 | cons {k:Nat}{y:Operand}{z:α}{ps:List (Nat×Operand)}{zs:List α}:Has Γ y (R.slot z)→BuildS Γ R (k+1) ps zs→BuildS Γ R k ((k,y)::ps) (z::zs)
theorem BuildS.len {R:Rep α}{k:Nat}{ps:List (Nat×Operand)}{zs:List α} (h:BuildS Γ R k ps zs):ps.length=zs.length:=by
 induction h with
 | nil=>rfl
 | cons _ _ ih=>simp [ih]
theorem BuildS.fill {R:Rep α}{m:Mem}{a:Act}{k:Nat}{ps:List (Nat×Operand)}{zs:List α} (h:BuildS Γ R k ps zs) :
  ∀ {pre cs:List Value},pre.length=k*R.n→cs.length=zs.length*R.n→(∀p∈ps,Opd Γ m a p.2)→
  ∃cs',Instr.fill (fun i=>some (i*R.n,R.n)) (pre++cs).toArray (ps.map fun p=>(p.1,a.eval p.2))=some (pre++cs').toArray∧Zm R m cs' zs:=by
 induction h with
 | nil=>intro pre cs _ hc _; exact ⟨cs,rfl,by simpa [Zm] using hc⟩
 | @cons k y z ps zs hy _ ih=>
  intro pre cs hp hc ho;obtain ⟨ds,hcl,hd⟩:=Rep.is_cells (hy m a (ho (k,y) (by simp)));have hdl:=R.len hd;have hc':cs.length=R.n+zs.length*R.n:=by rw [hc,List.length_cons,Nat.add_mul,Nat.one_mul,Nat.add_comm]
  obtain ⟨cs',he,hr'⟩:=ih (pre:=pre++ds) (cs:=cs.drop R.n) (by rw [List.length_append,hp,hdl,Nat.add_mul,Nat.one_mul]) (by rw [List.length_drop]; omega) (fun p hp=>ho p (by simp [hp]));refine ⟨ds++cs',?_,⟨ds,cs',rfl,hd,hr'⟩⟩
  simp only [List.map_cons,Instr.fill,hcl]
  have hf:=B8 (k*R.n) ds 0 (pre++cs) (by simp [hp,hdl]; omega);have hz:Array.foldl (fun cs (p:Value×Nat)=>cs.setIfInBounds (k*R.n+p.2) p.1) (pre++cs).toArray ds.toArray.zipIdx=((pre++ds)++cs.drop R.n).toArray:=by
   rw [←Array.foldl_toList,Array.toList_zipIdx];rw [hf];have e1:(pre++cs).take (k*R.n+0)=pre:=by rw [Nat.add_zero,←hp,List.take_left']; rfl
   have e2:(pre++cs).drop (k*R.n+0+ds.length)=cs.drop R.n:=by rw [Nat.add_zero,←hp,hdl,List.drop_append]; simp
   rw [e1,e2]
  rw [if_neg (by simp [hdl,hp]; omega)];have he':Instr.fill (fun i=>some (i*R.n,R.n)) ((pre++ds)++cs.drop R.n).toArray (ps.map fun p=>(p.1,a.eval p.2))=some (pre++(ds++cs')).toArray:=by rw [he]; simp
  first
   | (rw [hz]; exact he')
   | (simp only [] at hz ⊢; rw [hz]; exact he')
theorem WI {P:Program}{w:World}{ST T:TypeId}{R:Rep α}{m:Mem}{a:Act}{n:Nat}{ps:List (Nat×Operand)}{zs:List α} (hT:slE P ST T R.n=true) (hn:n=zs.length) (hs:n*R.n≤16777216)
  (h:BuildS Γ R 0 ps zs) (ho:∀p∈ps,Opd Γ m a p.2) :
  ∃cs,Zm R m cs zs∧(Instr.buildSlice ST n (ps.toArray.map fun (p:Nat×Operand)=>(p.1,a.eval p.2))).run P w = .ok (.slice (some ⟨w.heap.size,0,none⟩) n n) (w.alloc (.cells cs.toArray T)):=by
 obtain ⟨hu,i,z,hi,hsz,hb0,hb1,hz,hzc⟩:=Qcv hT;have hsize:(sizeOf T).run P w = .ok R.n w:=by simp [sizeOf,typeInfo,hi,hsz]
 have hzv:(zeroValue T).run P w = .ok z w:=by simp [zeroValue,typeInfo,hi,hz]
 have BJ:((ps.toArray.map fun (p:Nat×Operand)=>(p.1,a.eval p.2))).toList=ps.map fun p=>(p.1,a.eval p.2):=by simp
 have h24:¬n*R.n > 2^24:=by
  have:(2:Nat)^24=16777216:=by decide
  omega
 have key:∀zz:Array Value,∃cs,Zm R m cs zs∧Instr.fill (fun i=>some (i*R.n,R.n)) ((Array.range (n*R.n)).map (zz[· % zz.size]!)) (ps.map fun p=>(p.1,a.eval p.2))=some cs.toArray:=by
  intro zz;obtain ⟨cs,he,hr⟩:=h.fill (m:=m) (a:=a) (pre:= []) (cs:=((Array.range (n*R.n)).map (zz[· % zz.size]!)).toList) (by simp) (by simp [hn]) ho;have e3:([]++((Array.range (n*R.n)).map (zz[· % zz.size]!)).toList).toArray=(Array.range (n*R.n)).map (zz[· % zz.size]!):=by rw [List.nil_append,Array.toArray_toList]
  rw [e3] at he;exact ⟨cs,hr,he⟩
 by_cases h0:n*R.n=0
 ·obtain ⟨cs,hr,hf⟩:=key #[];refine ⟨cs,hr,?_⟩;rw [h0] at hf;have h240:¬(0 > 2^24):=by decide
  simp only [Instr.buildSlice,Sem.run_bind,run_underlying hu,Result.andThen_ok,hsize,h0,h240,if_false,Sem.run_pure,if_true,BJ]
  simp only [hf,newRow,Sem.run_bind,run_newObj,Result.andThen_ok,Sem.run_pure]
  rfl
 ·obtain ⟨cs,hr,hf⟩:=key z.cells;refine ⟨cs,hr,?_⟩
  simp only [Instr.buildSlice,Sem.run_bind,run_underlying hu,Result.andThen_ok,hsize,h24,if_false,Sem.run_pure,h0,hzv,BJ,hf,newRow,run_newObj]
  rfl
theorem Qge {ST T n:Nat}{R:Rep α}{ps:List (Nat×Operand)}{zs:List α} (h:BuildS Γ R 0 ps zs) (hn:n=zs.length) (hs:Nat.ble (n*R.n) 16777216=true) (hT:slE c.P ST T R.n=true) :
  PJ c ⟨od, .buildSlice ST n ps.toArray,ty,pos,aft,g⟩ Γ H ((sl R).slot zs):=by
 intro m hs2 a w hg _ _ ho;have hop:∀p∈ps,Opd Γ m a p.2:=fun p hp=>ho p.2 (by
   simp only [Op.operands]
   simp only [List.mem_toArray,List.mem_map]
   exact ⟨p,hp,rfl⟩)
 obtain ⟨cs,hr,hrun⟩:=WI (P:=c.P) (w:=w) hT hn (by simpa [Nat.ble_eq] using hs) h hop;have e:(execOp a.eval ⟨od, .buildSlice ST n ps.toArray,ty,pos,aft,g⟩).run c.P w = .ok (.value (.slice (some ⟨w.heap.size,0,none⟩) n n)) (w.alloc (.cells cs.toArray T)):=by
  show (do let v ←Instr.buildSlice ST n (ps.toArray.map fun (p:Nat×Operand)=>(p.1,a.eval p.2)); pure (Next.value v):Sem Next).run c.P w=_;rw [Sem.run_bind,hrun]; rfl
 rw [e];have hg1:=hg.newOwn T cs;have hle:=hg1.le_put;refine ⟨m.put w.heap.size cs,hg1.freeze,?_,?_⟩
 ·exact ⟨_,n,by rw [hn],by omega, .inr ⟨w.heap.size,0,cs,rfl,hr.mono hle,Mem.at_put m _ cs⟩⟩
 ·exact (Frm.alloc w m [] (.cells cs.toArray T)).freeze hle
theorem Kq {ST T n:Nat}{R:Rep α}{ps:List (Nat×Operand)}{zs:List α} (h:BuildS Γ R 0 ps zs) (hn:n=zs.length) (hs:Nat.ble (n*R.n) 16777216=true) (hT:slE c.P ST T R.n=true) (hN:Nat.blt d c.N=true)
  (k:∀v,J9 c full l ((d,ov v)::Γ) (own T R v zs::H) K):J9 c full (⟨some d, .buildSlice ST n ps.toArray,ty,pos,aft,none⟩::l) Γ H K:=by
 refine Ur (Γ2:=fun v=>(d,ov v)::Γ) (H2:=fun v=>own T R v zs::H) rfl ?_ k;intro m hs2 a w hg _ hsat he hN';have hop:∀p∈ps,Opd Γ m a p.2:=fun p _=>he.opd p.2
 obtain ⟨cs,hr,hrun⟩:=WI (P:=c.P) (w:=w) hT hn (by simpa [Nat.ble_eq] using hs) h hop;have e:(execOp a.eval ⟨some d, .buildSlice ST n ps.toArray,ty,pos,aft,none⟩).run c.P w = .ok (.value (.slice (some ⟨w.heap.size,0,none⟩) n n)) (w.alloc (.cells cs.toArray T)):=by
  show (do let v ←Instr.buildSlice ST n (ps.toArray.map fun (p:Nat×Operand)=>(p.1,a.eval p.2)); pure (Next.value v):Sem Next).run c.P w=_;rw [Sem.run_bind,hrun]; rfl
 rw [e];refine ⟨_,m,_,hg.newOwn T cs,he.put (by rw [hN']; simpa [Nat.blt_eq] using hN) qo,⟨[(w.heap.size,T,cs)],hs2,rfl, .inr ⟨w.heap.size,n,cs, [],by rw [hn],by simp,hr,by omega,?_⟩,hsat⟩,Frm.alloc _ _ _ _⟩;rw [List.append_nil,hr.length,hn]
theorem BA {ST T:TypeId}{x y:Operand}{R:Rep α}{z:α}{zc:List Value}{n cp:Int} (hx:Has Γ x (i64.slot n)) (hy:Has Γ y (i64.slot cp)) (h0:0≤n) (h1:n≤cp) (h2:cp≤4294967296)
  (hT:slE c.P ST T R.n=true) (hz:KH R z zc) (hzB:Wx c.P T=some zc) (hN:Nat.blt d c.N=true)
  (k:∀v,J9 c full l ((d,ov v)::Γ) (own T R v (List.replicate n.toNat z)::H) K):J9 c full (⟨some d, .makeSlice ST x y,ty,pos,aft,none⟩::l) Γ H K:=by
 refine Ur (Γ2:=fun v=>(d,ov v)::Γ) (H2:=fun v=>own T R v (List.replicate n.toNat z)::H) rfl ?_ k;intro m hs a w hg _ hsat he hN';have ex:=Yu.1 (hx m a (he.opd x));have ey:=Yu.1 (hy m a (he.opd y));obtain ⟨hu,i,zv,hi,hsz,hb0,hb1,hzi,hzc⟩:=Qcv hT;have hti:∀w:World,(typeInfo T).run c.P w = .ok i w:=fun w=>by simp [typeInfo,hi]
 have hsize:∀w:World,(sizeOf T).run c.P w = .ok R.n w:=fun w=>by simp [sizeOf,hti,hsz]
 have hzv:∀w:World,(zeroValue T).run c.P w = .ok zv w:=fun w=>by simp [zeroValue,hti,hzi]
 have hzl:zv.cells.toList=zc:=by
  unfold Wx at hzB
  simp [hi,hzi] at hzB
  exact hzB
 have hn:IntKind.i64.wrap n=n:=IntWalk.i64_in n (by omega);have hc:IntKind.i64.wrap cp=cp:=IntWalk.i64_in cp (by omega);have hbig:¬(i.bytes:Int)*cp > 2^48:=by
  have h48:(2:Int)^48=281474976710656:=by decide
  have:(i.bytes:Int)*cp≤4096*4294967296:=Int.mul_le_mul (by omega) h2 (by omega) (by decide);rw [h48]; omega
 have hneg:¬cp < 0:=by omega
 have hneg2:¬n < 0:=by omega
 have hgt:¬n > cp:=by omega
 let zz:=if cp.toNat*R.n=0 then #[] else zv.cells
 let cells:=((Array.range (cp.toNat*R.n)).map (zz[· % zz.size]!)).toList
 have hrun:(Instr.makeSlice ST (.int .i64 n) (.int .i64 cp)).run c.P w = .ok (.slice (some ⟨w.heap.size,0,none⟩) n.toNat cp.toNat) (w.alloc (.cells cells.toArray T)):=by
  simp only [Instr.makeSlice,Sem.run_bind,run_underlying hu,Result.andThen_ok,asInt,asIntOf,Sem.run_pure,hti,hn,hc,hneg,hneg2,hbig,hgt,decide_false,Bool.or_false,Bool.false_eq_true,if_false,run_askRoom,hsize]
  by_cases hE:cp.toNat*R.n=0
  ·simp only [hE,if_true,Sem.run_pure,Result.andThen_ok,newRow,Sem.run_bind,run_newObj]
   simp only [cells,zz,hE,if_true,Array.toArray_toList]
   rfl
  ·simp only [hE,if_false,Sem.run_bind,hzv,Result.andThen_ok,Sem.run_pure,newRow,run_newObj]
   simp only [cells,zz,hE,if_false,Array.toArray_toList]
   rfl
 have e:(execOp a.eval ⟨some d, .makeSlice ST x y,ty,pos,aft,none⟩).run c.P w = .ok (.value (.slice (some ⟨w.heap.size,0,none⟩) n.toNat cp.toNat)) (w.alloc (.cells cells.toArray T)):=by
  simp only [execOp,ex,ey,Sem.run_bind,hrun]; rfl
 rw [e];have hcl:cells.length=cp.toNat*R.n:=by simp [cells]
 have hrow:∀j,j≤cp.toNat→Zm R m (cells.take (j*R.n)) (List.replicate j z):=by
  intro j hj
  induction j with
  | zero=>simp [Zm]
  | succ j ih=>
   have ih:=ih (by omega);rw [List.replicate_succ',Nat.add_mul,Nat.one_mul,List.take_add];refine ih.append (Zm.single ?_);have:(cells.drop (j*R.n)).take R.n=zc:=by
    apply List.ext_getElem?
    intro t;rw [List.getElem?_take]
    split
    ·rename_i ht
     rw [List.getElem?_drop];have hbnd:j*R.n+t < cp.toNat*R.n:=by
      have:(j+1)*R.n≤cp.toNat*R.n:=Nat.mul_le_mul_right _ hj;rw [Nat.add_mul,Nat.one_mul] at this
      omega
     have hE:cp.toNat*R.n≠0:=by omega
     have hRn:zv.cells.size=R.n:=hzc
     simp only [cells,zz,hE,if_false]
     rw [Array.getElem?_toList,Array.getElem?_map,Array.getElem?_range,if_pos hbnd]
     simp only [Option.map_some,hRn]
     have hmod:(j*R.n+t) % R.n=t:=by rw [Nat.mul_add_mod_self_right]; exact Nat.mod_eq_of_lt ht
     rw [hmod,←hzl];have htl:t < zv.cells.size:=by omega
     simp [htl]
    ·rename_i ht
     have:zc.length=R.n:=by rw [←hzl]; simpa using hzc
     rw [List.getElem?_eq_none (by omega)]
   rw [this]; exact hz m
 have hsplit:cells=cells.take (n.toNat*R.n)++cells.drop (n.toNat*R.n):=(List.take_append_drop _ _).symm;refine ⟨_,m,_,hg.newOwn T cells,he.put (by rw [hN']; simpa [Nat.blt_eq] using hN) qo,⟨[(w.heap.size,T,cells)],hs,rfl, .inr ⟨w.heap.size,cp.toNat,cells.take (n.toNat*R.n),cells.drop (n.toNat*R.n),by simp,by rw [←hsplit],hrow _ (by omega),by simp; omega,by rw [←hsplit,hcl]⟩,hsat⟩,Frm.alloc _ _ _ _⟩
end
end Go.Sl
namespace Go.Sl
def QjH (o:Oper):List Nat:=o.op.operands.toList.filterMap fun | .tmp t=>some t | _=>none
def QmB (full:List Oper) (o:Oper):List Nat:=match o.guard with | some (j,_)=>((full[j]?).bind (·.dst)).toList | none=> []
def Kf (o:Oper):List Nat:=(o.after.toList.filter (Region.binds .any)).map (·.on)
def UA (full:List Oper) (o:Oper):List Nat:=o.dst.toList++QjH o++QmB full o
def QhT (full:List Oper):Nat→List Nat→List Nat
 | 0,acc=>acc
 | j+1,acc=>if acc.contains j then QhT full j (acc++((full[j]?).map Kf).getD []) else QhT full j acc
theorem Qfa {full:List Oper}{X:Nat→Bool} (hc:∀j p,full[j]? = some p→X j=true→∀e∈Kf p,X e=true):∀(n:Nat) (acc:List Nat),(∀j∈acc,X j=true)→∀j∈QhT full n acc,X j=true
 | 0,acc,h=>h
 | n+1,acc,h=>by
  unfold QhT
  split
  ·rename_i hn
   refine Qfa hc n _ fun j hj=>?_
   rcases List.mem_append.1 hj with hj | hj
   ·exact h j hj
   ·cases hf:full[n]? with
    | none=>rw [hf] at hj; cases hj
    | some p=>
     rw [hf] at hj;exact hc n p hf (h n (by simpa using hn)) j hj
  ·exact Qfa hc n acc h
def BV (full:List Oper) (n:Nat):Bool:=
 (full.zipIdx.all fun (o,i)=>(Kf o).all (fun e=>Nat.blt e i))&&
 (full.zipIdx.all fun (o,i)=>full.zipIdx.all fun (p,j)=>
  match p.dst with
  | some t=>Nat.beq i j||!((UA full o).contains t)||(if Nat.blt j i then (Kf o).contains j else (Kf p).contains i)
  | none=>true)&&
 (full.zipIdx.all fun (o,i)=>Nat.blt i n||(List.range i).all fun j=>(QhT full i (Kf o)).contains j)
def push (d:Option Tmp) (s:Slot) (Γ:Env):Env:=match d with | some d=>(d,s)::Γ | none=>Γ
def qV (full:List Oper) (o:Oper) (Γ:Env) (yes:Bool):Prop:=
 ∃j want b t s,o.guard=some (j,want)∧(full[j]?).bind (·.dst)=some t∧lk Γ t=some s∧(∀m v,s.p m v→v = .bool b)∧(b==want)=yes
def Qcz (full:List Oper) (o:Oper) (Γ:Env):Prop:=∃j want t,o.guard=some (j,want)∧(full[j]?).bind (·.dst)=some t∧lk Γ t=some (val undef)
inductive OK1 (c:Ctx) (full:List Oper) (H:List Ent) (o:Oper) (Γ:Env):Slot→Prop
 | plain {s:Slot}:o.guard=none→PJ c o Γ H s→OK1 c full H o Γ s
 | yes {s:Slot}:qV full o Γ true→PJ c o Γ H s→OK1 c full H o Γ s
 | no:qV full o Γ false→OK1 c full H o Γ (val undef)
 | undef:Qcz full o Γ→OK1 c full H o Γ (val undef)
inductive RJ (c:Ctx) (full:List Oper) (H:List Ent):Nat→List Oper→Env→List Slot→Option (Nat×Nat×(Nat→Ent))→Prop
 | nil {k:Nat}{Γ:Env}:RJ c full H k [] Γ [] none
 | read {k:Nat}{o:Oper}{os:List Oper}{Γ:Env}{s:Slot}{σ:List Slot}{al:Option (Nat×Nat×(Nat→Ent))} :
  OK1 c full H o Γ s→RJ c full H (k+1) os (push o.dst s Γ) σ al→RJ c full H k (o::os) Γ (s::σ) al
 | alloc {k d:Nat}{o:Oper}{os:List Oper}{Γ:Env}{σ:List Slot}{T:TypeId}{α:Type}{R:Rep α}{x:α}{cs:List Value} :
  o.guard=none→o.dst=some d→o.op = .alloc T→KH R x cs→Wx c.P T=some cs→RJ c full H (k+1) os ((d,any)::Γ) σ none→
  RJ c full H k (o::os) Γ (any::σ) (some (k,d,fun b=>box b T R x))
def Qdo (Γ:Env):List Oper→List Slot→Env
 | o::os,s::σ=>Qdo (push o.dst s Γ) os σ
 | _,_=>Γ
def cur (l:List Oper) (σ:List Slot) (Γ:Env) (X:Nat→Bool):Nat→Nat→Option Slot
 | 0,t=>lk Γ t
 | k+1,t=>match l[k]?,σ[k]? with
  | some o,some s=>if X k&&o.dst==some t then some s else cur l σ Γ X k t
  | _,_=>cur l σ Γ X k t
theorem Qna (d:Option Tmp) (s:Slot) (Γ:Env) (t:Nat):lk (push d s Γ) t=if d==some t then some s else lk Γ t:=by
 cases d with
 | none=>simp [push]
 | some d=>
  by_cases h:d=t
  ·subst h; simp [push,Yc]
  ·simp only [push]; rw [XF h]; simp [h]
theorem K8 (o:Oper) (os:List Oper) (s:Slot) (σ:List Slot) (Γ:Env):∀k t,cur (o::os) (s::σ) Γ (fun _=>true) (k+1) t=cur os σ (push o.dst s Γ) (fun _=>true) k t
 | 0,t=>by simp only [cur,List.getElem?_cons_zero,Bool.true_and]; rw [Qna]
 | k+1,t=>by
  rw [cur]
  simp only [List.getElem?_cons_succ]
  rw [K8 o os s σ Γ k t]
  conv=>rhs; rw [cur]
theorem RJ.at {c:Ctx}{full:List Oper}{H:List Ent}{k:Nat}{l:List Oper}{Γ:Env}{σ:List Slot}{al:Option (Nat×Nat×(Nat→Ent))} (h:RJ c full H k l Γ σ al) :
  ∀i o,l[i]? = some o→∃s Γi,σ[i]? = some s∧(∀t,lk Γi t=cur l σ Γ (fun _=>true) i t)∧
   ((OK1 c full H o Γi s∧∀d e,al≠some (k+i,d,e))∨∃(d:Nat) (T:TypeId) (α:Type) (R:Rep α) (x:α) (cs:List Value),s=any∧o.guard=none∧o.dst=some d∧o.op = .alloc T∧KH R x cs∧Wx c.P T=some cs∧al=some (k+i,d,fun b=>box b T R x)):=by
 have hno:∀ {k:Nat}{l:List Oper}{Γ:Env}{σ:List Slot}{al},RJ c full H k l Γ σ al→∀j d e,al=some (j,d,e)→k≤j:=by
  intro k l Γ σ al h
  induction h with
  | nil=>intro j d e h; cases h
  | read _ _ ih=>intro j d e h; have:=ih j d e h; omega
  | alloc _ _ _ _ _ _ _=>intro j d e h; cases h; exact Nat.le_refl _
 induction h with
 | nil=>intro i o h; simp at h
 | @read k o os Γ s σ al h1 h2 ih=>
  intro i p hi
  cases i with
  | zero=>
   simp only [List.getElem?_cons_zero,Option.some.injEq] at hi
   subst hi;refine ⟨s,Γ,rfl,fun t=>rfl, .inl ⟨h1,fun d e hal=>?_⟩⟩;have:=hno h2 _ d e hal
   omega
  | succ i=>
   obtain ⟨s',Γi,hs,hl,hc⟩:=ih i p (by simpa using hi);refine ⟨s',Γi,by simpa using hs,fun t=>?_,?_⟩
   ·rw [hl t,K8]
   ·rw [show k+(i+1)=k+1+i by omega]; exact hc
 | @alloc k d o os Γ σ T α R x cs hg hd ho hz hzB h2 ih=>
  intro i p hi
  cases i with
  | zero=>
   simp only [List.getElem?_cons_zero,Option.some.injEq] at hi
   subst hi;exact ⟨any,Γ,rfl,fun t=>rfl, .inr ⟨d,T,α,R,x,cs,rfl,hg,hd,ho,hz,hzB,by simp⟩⟩
  | succ i=>
   obtain ⟨s',Γi,hs,hl,hc⟩:=ih i p (by simpa using hi);refine ⟨s',Γi,by simpa using hs,fun t=>?_,?_⟩
   ·rw [hl t,K8]; simp [push,hd]
   ·rcases hc with ⟨hc,_⟩ | ⟨d',T',α',R',x',cs',_,_,_,_,_,_,hal⟩
    ·exact .inl ⟨hc,fun d e h=>by simp at h⟩
    ·cases hal
theorem Qgr (Γ:Env):∀(l:List Oper) (σ:List Slot),l.length=σ.length→∀t,lk (Qdo Γ l σ) t=cur l σ Γ (fun _=>true) l.length t:=by
 intro l
 induction l generalizing Γ with
 | nil=>intro σ _ t; cases σ<;>rfl
 | cons o os ih=>
  intro σ h t
  cases σ with
  | nil=>simp at h
  | cons s σ=>rw [List.length_cons,K8,Qdo,ih _ σ (by simpa using h) t]
theorem RJ.len {c:Ctx}{full:List Oper}{H:List Ent}{k:Nat}{l:List Oper}{Γ:Env}{σ:List Slot}{al:Option (Nat×Nat×(Nat→Ent))} (h:RJ c full H k l Γ σ al):l.length=σ.length:=by
 induction h with
 | nil=>rfl
 | read _ _ ih=>simp [ih]
 | alloc _ _ _ _ _ _ ih=>simp [ih]
section
variable {c : Ctx} {Γ : Env} {H : List Ent} {a : Act} {w : World} {Q : Exit → Act → World → Prop}
theorem QaN {full:List Oper}{n:Nat} (h:BV full n=true){i:Nat}{o:Oper} (hi:full[i]? = some o):∀e∈Kf o,e < i:=by
 simp only [BV,Bool.and_eq_true,List.all_eq_true] at h
 intro e he;have:=h.1.1 (o,i) (by rw [List.mem_zipIdx_iff_getElem?]; exact hi) e he
 simpa [Nat.blt_eq] using this
theorem QaE {full:List Oper}{n:Nat} (h:BV full n=true){i j t:Nat}{o p:Oper} (hi:full[i]? = some o) (hj:full[j]? = some p) (hne:i≠j) (hp:p.dst=some t) (ht:t∈UA full o) :
  (j < i→j∈Kf o)∧(i < j→i∈Kf p):=by
 simp only [BV,Bool.and_eq_true,List.all_eq_true] at h
 have:=h.1.2 (o,i) (by rw [List.mem_zipIdx_iff_getElem?]; exact hi) (p,j) (by rw [List.mem_zipIdx_iff_getElem?]; exact hj);have hbeq:Nat.beq i j=false:=by
  cases hb:Nat.beq i j with
  | false=>rfl
  | true=>exact absurd (Nat.eq_of_beq_eq_true hb) hne
 have hct:(UA full o).contains t=true:=by simpa using ht
 simp only [hp,hbeq,hct,Bool.not_true,Bool.or_false,Bool.false_or] at this
 constructor
 ·intro hlt;have hb:Nat.blt j i=true:=by simpa [Nat.blt_eq] using hlt
  simpa [hb] using this
 ·intro hlt;have hb:Nat.blt j i=false:=by
   cases hb:Nat.blt j i with
   | false=>rfl
   | true=>have:=(Nat.blt_eq▸hb:j < i); omega
  simpa [hb] using this
theorem QaB {full:List Oper}{n:Nat} (h:BV full n=true){i:Nat}{o:Oper} (hi:full[i]? = some o) (hn:n≤i){X:Nat→Bool} (he:∀j∈Kf o,X j=true)
  (hc:∀j p,full[j]? = some p→X j=true→∀e∈Kf p,X e=true):∀j,j < i→X j=true:=by
 simp only [BV,Bool.and_eq_true,List.all_eq_true] at h
 have:=h.2 (o,i) (by rw [List.mem_zipIdx_iff_getElem?]; exact hi);have hb:Nat.blt i n=false:=by
  cases hb:Nat.blt i n with
  | false=>rfl
  | true=>have:=(Nat.blt_eq▸hb:i < n); omega
 simp only [hb,Bool.false_or,List.all_eq_true] at this
 intro j hj;exact Qfa hc i _ he j (by simpa using this j (by simpa using hj))
theorem PJ.frame {o:Oper}{s:Slot} (E:List Ent) (h:PJ c o Γ H s):PJ c o Γ (E++H) s:=by
 intro m hs a w hg hG hsat ho;obtain ⟨h1,h2,rfl,hs1,hs2⟩:=hsat.split;refine (h m h2 a w hg.sub hG hs2 ho).mono ?_;rintro v w' ⟨m',hg',hv,hf⟩;refine ⟨m',⟨hg'.mem,hg.nodup,fun x hx=>?_,fun x hx o=>?_⟩,hv,hf⟩
 ·rw [(hf.old x.1 (hg.ltb (List.mem_map_of_mem (f:=(·.1)) hx)) (by simp)).1]; exact hg.blk x hx
 ·rw [(hf.old x.1 (hg.ltb (List.mem_map_of_mem (f:=(·.1)) hx)) (by simp)).2 o]; exact hg.free x hx o
def Qor (al:Option (Nat×Nat×(Nat→Ent))) (H:List Ent) (X:Nat→Bool) (m:Mem) (hs:Hp) (a:Act):Prop:=
 ∃E,Sat (E++H) m hs∧((E = []∧∀ia d e,al=some (ia,d,e)→X ia=false)∨∃ia d e b,al=some (ia,d,e)∧X ia=true∧E = [e b]∧a.tmps.getD d undef = .pointer (some ⟨b,0,none⟩))
def QmU (c:Ctx) (full l:List Oper) (σ:List Slot) (al:Option (Nat×Nat×(Nat→Ent))) (Γ:Env) (H:List Ent) (X:Nat→Bool) (a:Act) (w:World):Prop:=
 Dfr c a.defers w∧a.tmps.size=c.N∧∃m hs,Zk m hs w∧c.G.p m∧(∀t s,cur l σ Γ X l.length t=some s→s.p m (a.tmps.getD t undef))∧Frm c.w0 w c.m0 m c.b0 hs.bs∧Qor al H X m hs a
theorem qe {l:List Oper}{σ:List Slot}{Γ:Env}{X:Nat→Bool}{t i:Nat}:∀k,i≤k→(∀j o,i≤j→j < k→l[j]? = some o→o.dst=some t→X j=false)→cur l σ Γ X k t=cur l σ Γ X i t:=by
 intro k
 induction k with
 | zero=>
  intro hk _;have:i=0:=by omega
  rw [this]
 | succ k ih=>
  intro hk h
  by_cases hik:i=k+1
  ·rw [hik]
  ·rw [cur];have ih:=ih (by omega) (fun j o h1 h2=>h j o h1 (by omega))
   cases hl:l[k]? with
   | none=>simpa [hl] using ih
   | some o=>
    cases hs:σ[k]? with
    | none=>simpa [hl,hs] using ih
    | some s=>
     simp only []
     by_cases hd:o.dst=some t
     ·have:=h k o (by omega) (by omega) hl hd
      simp [this,ih]
     ·have hd':(o.dst==some t)=false:=by simpa using hd
      simp [hd',ih]
theorem Qgu {l:List Oper}{σ:List Slot}{Γ:Env}{X:Nat→Bool}{t:Nat}:∀i,(∀j o,j < i→l[j]? = some o→o.dst=some t→X j=true)→cur l σ Γ X i t=cur l σ Γ (fun _=>true) i t:=by
 intro i
 induction i with
 | zero=>intro _; rfl
 | succ i ih=>
  intro h;have ih:=ih (fun j o hj=>h j o (by omega));rw [cur,cur]
  cases hl:l[i]? with
  | none=>simpa [hl] using ih
  | some o=>
   cases hs:σ[i]? with
   | none=>simpa [hl,hs] using ih
   | some s=>
    simp only [Bool.true_and]
    by_cases hd:o.dst=some t
    ·have:=h i o (by omega) hl hd
     simp [this,hd]
    ·have hd':(o.dst==some t)=false:=by simpa using hd
     simp [hd',ih]
theorem Bi {l:List Oper}{σ:List Slot}{Γ:Env}{X X':Nat→Bool}{t:Nat}:∀k,(∀j o,j < k→l[j]? = some o→o.dst=some t→X j=X' j)→cur l σ Γ X k t=cur l σ Γ X' k t:=by
 intro k
 induction k with
 | zero=>intro _; rfl
 | succ k ih=>
  intro h;have ih:=ih (fun j o hj=>h j o (by omega));rw [cur,cur]
  cases hl:l[k]? with
  | none=>simpa [hl] using ih
  | some o=>
   cases hs:σ[k]? with
   | none=>simpa [hl,hs] using ih
   | some s=>
    simp only []
    by_cases hd:o.dst=some t
    ·rw [h k o (by omega) hl hd,ih]
    ·have hd':(o.dst==some t)=false:=by simpa using hd
     simp [hd',ih]
end
end Go.Sl
namespace Go.Sl
def QeZ (N:Nat) (l:List Oper):Bool:=l.all fun o=>match o.dst with | some d=>Nat.blt d N | none=>true
def Qem (l:List Oper):Bool:=l.zipIdx.all fun (o,i)=>l.zipIdx.all fun (p,j)=>Nat.beq i j||match o.dst,p.dst with | some d,some e=>!(Nat.beq d e) | _,_=>true
theorem QhD {l:List Oper} (h:Qem l=true){i j d:Nat}{o p:Oper} (hi:l[i]? = some o) (hj:l[j]? = some p) (ho:o.dst=some d) (hp:p.dst=some d):i=j:=by
 simp only [Qem,List.all_eq_true] at h
 have:=h (o,i) (by rw [List.mem_zipIdx_iff_getElem?]; exact hi) (p,j) (by rw [List.mem_zipIdx_iff_getElem?]; exact hj);have hdd:Nat.beq d d=true:=by simp
 simp only [ho,hp,hdd,Bool.not_true,Bool.or_false] at this
 exact Nat.eq_of_beq_eq_true this
section
variable {c : Ctx} {Γ : Env} {H : List Ent} {a : Act} {w : World} {Q : Exit → Act → World → Prop} {l rest : List Oper} {σ : List Slot} {al : Option (Nat × Nat × (Nat → Ent))} {X : Nat → Bool}
def upd (X:Nat→Bool) (i:Nat):Nat→Bool:=fun j=>if j=i then true else X j
theorem QkW {i:Nat}{o:Oper}{K:Act→World→Prop} (hB:BV (l++rest) l.length=true) (hN:QeZ c.N l=true) (hU:al=none∨Qem l=true) (hR:RJ c (l++rest) H 0 l Γ σ al)
  (hi:l[i]? = some o) (hX:X i=false) (he:∀j∈Kf o,X j=true) (hcl:∀j p,l[j]? = some p→X j=true→∀e∈Kf p,X e=true)
  (hD:QmU c (l++rest) l σ al Γ H X a w) (hK:∀a' w',QmU c (l++rest) l σ al Γ H (upd X i) a' w'→K a' w'):wpOpIn (fen c.ro) 0 c.P (l++rest).toArray Q i K a w:=by
 have hlt:i < l.length:=(List.getElem?_eq_some_iff.1 hi).1;have hfull:∀ {j p},l[j]? = some p→(l++rest)[j]? = some p:=fun {j p} h=>by
  rw [List.getElem?_append_left (List.getElem?_eq_some_iff.1 h).1]; exact h
 have hfi:=hfull hi;have hop:(l++rest).toArray[i]? = some o:=by simpa using hfi
 obtain ⟨s,Γi,hs,hlk,hcase⟩:=hR.at i o hi;obtain ⟨hdf,hn,m,hs2,hg,hG,hcur,hfr,hal⟩:=hD
 -- what is known of a temporary that the operation UA
 have hafter:∀t∈UA (l++rest) o,∀j p,i < j→l[j]? = some p→p.dst=some t→X j=false:=by
  intro t ht j p hij hp hd
  cases hXj:X j with
  | false=>rfl
  | true=>
   have:=(QaE hB hfi (hfull hp) (by omega) hd ht).2 hij;have:=hcl j p hp hXj i this;rw [hX] at this; cases this
 have hknown:∀t∈UA (l++rest) o,cur l σ Γ X l.length t=lk Γi t:=by
  intro t ht;rw [hlk t,qe l.length (by omega:i≤l.length),Qgu i]
  ·intro j p hj hp hd;exact he j ((QaE hB hfi (hfull hp) (by omega) hd ht).1 hj)
  ·intro j p h1 h2 hp hd
   by_cases hji:j=i
   ·subst hji; exact hX
   ·exact hafter t ht j p (by omega) hp hd
 have hopd:QgH o Γi m a:=by
  intro x hx
  cases x with
  | tmp t=>
   intro s' e;have ht:t∈UA (l++rest) o:=by
    simp only [UA,List.mem_append]
    refine .inl (.inr ?_)
    simp only [QjH,List.mem_filterMap]
    exact ⟨.tmp t,by simpa using hx,rfl⟩
   exact hcur t s' (by rw [hknown t ht]; exact e)
  | _=>trivial
 have hdN:∀d,o.dst=some d→d < a.tmps.size:=by
  intro d hd
  simp only [QeZ,List.all_eq_true] at hN
  have:=hN o (List.mem_of_getElem? hi);rw [hd] at this;rw [hn]; simpa [Nat.blt_eq] using this
 -- the new knowledge
 have hnew:∀ {m':Mem}{v:Value},Mle m m'→s.p m' v→∀t s',cur l σ Γ (upd X i) l.length t=some s'→s'.p m' ((a.put o.dst v).tmps.getD t undef):=by
  intro m' v hle hv t s' e
  by_cases hd:o.dst=some t
  ·have ht:t∈UA (l++rest) o:=by simp [UA,hd]
   rw [qe l.length (by omega:i+1≤l.length)] at e
   ·rw [cur] at e
    simp only [hi,hs,upd,if_true,hd,beq_self_eq_true,Bool.and_self] at e
    cases e
    rw [hd,Uo (hdN t hd)];exact hv
   ·intro j p h1 h2 hp hdp;have hji:j≠i:=by omega
    simp only [upd,if_neg hji]
    exact hafter t ht j p (by omega) hp hdp
  ·have e':cur l σ Γ X l.length t=some s':=by
    rw [←e];refine Bi l.length fun j p hj hp hdp=>?_
    by_cases hji:j=i
    ·subst hji;rw [hi] at hp; cases hp;exact absurd hdp hd
    ·simp [upd,hji]
   have hgd:(a.put o.dst v).tmps.getD t undef=a.tmps.getD t undef:=by
    cases hdd:o.dst with
    | none=>rfl
    | some d=>exact By (fun e=>hd (by rw [hdd,e]))
   rw [hgd];exact s'.mono hle (hcur t s' e')
 -- the allocation writes its temporary alone
 have halloc:∀ia d e,al=some (ia,d,e)→ia≠i→o.dst≠some d:=by
  intro ia d e hal2 hia hod;have hdist:=hU.resolve_left (by rw [hal2]; simp);have hlen:ia < l.length:=by
   have key:∀ {full:List Oper}{k:Nat}{l:List Oper}{Γ:Env}{σ:List Slot}{al},RJ c full H k l Γ σ al→∀j d e,al=some (j,d,e)→j < k+l.length:=by
    intro full k l Γ σ al h
    induction h with
    | nil=>intro j d e h; cases h
    | read _ _ ih=>intro j d e h; have:=ih j d e h; simp only [List.length_cons]; omega
    | alloc=>intro j d e h; cases h; simp only [List.length_cons]; omega
   have:=key hR ia d e hal2
   omega
  obtain ⟨s3,Γ3,_,_,h3⟩:=hR.at ia l[ia] (List.getElem?_eq_getElem hlen)
  rcases h3 with ⟨_,h3⟩ | ⟨d3,T3,α3,R3,x3,cs3,_,_,hd3,_,_,_,hal3⟩
  ·exact absurd hal2 (by simpa using h3 d e)
  ·rw [hal2] at hal3
   simp only [Nat.zero_add,Option.some.injEq,Prod.mk.injEq,true_and] at hal3
   exact hia (QhD hdist (List.getElem?_eq_getElem hlen) hi (by rw [hd3,hal3.1]) hod)
 have hkeepAl:(∀d e,al≠some (i,d,e))→∀ {m':Mem}{v:Value},Mle m m'→Qor al H (upd X i) m' hs2 (a.put o.dst v):=by
  intro hne m' v hle;obtain ⟨E,hsE,hE⟩:=hal;refine ⟨E,hsE.mono hle,?_⟩
  rcases hE with ⟨rfl,hE⟩ | ⟨ia,d,e,b,hal2,hx,rfl,hb⟩
  ·refine .inl ⟨rfl,fun ia d e h=>?_⟩;have hia:ia≠i:=fun h2=>hne d e (by rw [h,h2])
   simp only [upd,if_neg hia]
   exact hE ia d e h
  ·have hia:ia≠i:=fun h2=>hne d e (by rw [hal2,h2]);refine .inr ⟨ia,d,e,b,hal2,by simp only [upd,if_neg hia]; exact hx,rfl,?_⟩
   cases hod:o.dst with
   | none=>exact hb
   | some d'=>rw [By (fun e2=>halloc ia d e hal2 hia (by rw [hod,e2]))]; exact hb
 unfold wpOpIn;rw [hop]
 simp only []
 have hrun:(∀d e,al≠some (i,d,e))→PJ c o Γi H s→o.wpIn (fen c.ro) 0 c.P a w K Q:=by
  intro hne hpj;obtain ⟨E,hsE,_⟩:=hal;refine q7.wp ((hpj.frame E) m hs2 a w hg hG hsE hopd) ?_;rintro v w' ⟨m',hg',hv,hf⟩;refine hK _ _ ⟨by rw [XG]; exact hdf.step hg (hf.keepOwn _),by rw [Ku]; exact hn,m',hs2,hg',c.G.mono hf.le hG,hnew hf.le hv,hfr.trans (hf.keepOwn _),hkeepAl hne hf.le⟩
 have hguard:∀ {yes:Bool},qV (l++rest) o Γi yes→Region.wanted o (yielded (l++rest).toArray a.tmps)=yes:=by
  rintro yes ⟨j,want,b,t,s',hgd,hj,hl,hb,hy⟩;have ht:t∈UA (l++rest) o:=by simp [UA,QmB,hgd,hj]
  have hv:=hb m _ (hcur t s' (by rw [hknown t ht]; exact hl));have hlt2:t < a.tmps.size:=by
   rcases Nat.lt_or_ge t a.tmps.size with h | h
   ·exact h
   ·have:a.tmps.getD t undef=undef:=by simp [Array.getD,Nat.not_lt.2 h]
    rw [this] at hv; cases hv
  have hyv:yielded (l++rest).toArray a.tmps j=some b:=by
   simp only [yielded,List.getElem?_toArray,hj,Option.bind_some,Array.getElem?_eq_getElem hlt2]
   simp only [Array.getD,hlt2,dite_true] at hv
   simp only [Array.getInternal_eq_getElem] at hv
   rw [hv]
  simp only [Region.wanted,hgd,hyv]
  rw [←hy]; cases b<;>cases want<;>rfl
 have hundef:Qcz (l++rest) o Γi→Region.wanted o (yielded (l++rest).toArray a.tmps)=false:=by
  rintro ⟨j,want,t,hgd,hj,hl⟩;have ht:t∈UA (l++rest) o:=by simp [UA,QmB,hgd,hj]
  have hv:a.tmps.getD t undef=undef:=hcur t _ (by rw [hknown t ht]; exact hl);have hyv:yielded (l++rest).toArray a.tmps j=none:=by
   simp only [yielded,List.getElem?_toArray,hj,Option.bind_some]
   by_cases hlt:t < a.tmps.size
   ·simp only [Array.getElem?_eq_getElem hlt]
    simp only [Array.getD,hlt,dite_true] at hv
    simp only [Array.getInternal_eq_getElem] at hv
    rw [hv]; rfl
   ·simp [Array.getElem?_eq_none (Nat.not_lt.1 hlt)]
  simp only [Region.wanted,hgd,hyv]; rfl
 rcases hcase with ⟨hok,hne⟩ | ⟨d,T,α,R,x,cs,rfl,hgd,hdd,hoo,hz,hzB,hal3⟩
 ·have hne':∀d e,al≠some (i,d,e):=fun d e h=>hne d e (by rw [h,Nat.zero_add])
  cases hok with
  | plain hgd hpj=>
   have hw:Region.wanted o (yielded (l++rest).toArray a.tmps)=true:=by simp [Region.wanted,hgd]
   rw [if_pos hw];exact hrun hne' hpj
  | yes hgd hpj=>
   rw [if_pos (hguard hgd)];exact hrun hne' hpj
  | no hgd=>
   have hw:=hguard hgd;rw [if_neg (by rw [hw]; simp)];exact ⟨fun f _=>QdJ _ f,hK _ _ ⟨by rw [XG]; exact hdf,by rw [Ku]; exact hn,m,hs2,hg,hG,hnew (Mle.refl m) rfl,hfr,hkeepAl hne' (Mle.refl m)⟩⟩
  | undef hgd=>
   have hw:=hundef hgd;rw [if_neg (by rw [hw]; simp)];exact ⟨fun f _=>QdJ _ f,hK _ _ ⟨by rw [XG]; exact hdf,by rw [Ku]; exact hn,m,hs2,hg,hG,hnew (Mle.refl m) rfl,hfr,hkeepAl hne' (Mle.refl m)⟩⟩
 ·have hw:Region.wanted o (yielded (l++rest).toArray a.tmps)=true:=by simp [Region.wanted,hgd]
  rw [if_pos hw];rw [Nat.zero_add] at hal3;obtain ⟨E,hsE,hE⟩:=hal;have hE0:E = []:=by
   rcases hE with ⟨rfl,_⟩ | ⟨ia,d',e',b,hal2,hx,_⟩
   ·rfl
   ·rw [hal3] at hal2
    simp only [Option.some.injEq,Prod.mk.injEq] at hal2
    rw [←hal2.1,hX] at hx; cases hx
  subst hE0;obtain ⟨zv,hzv,hzc⟩:=Qad hzB w;have hrn:(execOp a.eval o).run c.P w = .ok (.value (.pointer (some ⟨w.heap.size,0,none⟩))) (w.alloc (.cells cs.toArray T)):=by
   simp [execOp,hoo,Instr.alloc,hzv,newVar,newRow,hzc]
  refine (q7.wp (k:=fun v w'=>v = .pointer (some ⟨w.heap.size,0,none⟩)∧w'=w.alloc (.cells cs.toArray T)) ?_ ?_)
  ·rw [hrn]; exact ⟨rfl,rfl⟩
  ·rintro v w' ⟨rfl,rfl⟩;refine hK _ _ ⟨by rw [XG]; exact hdf.step hg (Frm.alloc _ _ _ _),by rw [Ku]; exact hn,m,(w.heap.size,T,cs)::hs2,hg.newOwn T cs,hG,hnew (Mle.refl m) trivial,hfr.trans (Frm.alloc _ _ _ _),?_⟩;refine ⟨[box w.heap.size T R x],⟨[(w.heap.size,T,cs)],hs2,rfl,⟨cs,rfl,hz m⟩,hsE⟩, .inr ⟨i,d,_,w.heap.size,hal3,by simp [upd],rfl,?_⟩⟩;rw [hdd,Uo (hdN d hdd)]
def left (n:Nat) (X:Nat→Bool):Nat:=(List.range n).countP fun i=>!X i
theorem Qis {n i:Nat}{X:Nat→Bool} (hi:i < n) (hX:X i=false):left n (upd X i)+1=left n X:=by
 unfold left
 induction n with
 | zero=>omega
 | succ n ih=>
  rw [List.range_succ,List.countP_append,List.countP_append]
  simp only [List.countP_cons,List.countP_nil]
  by_cases h:i=n
  ·subst h;have:(List.range i).countP (fun j=>!upd X i j)=(List.range i).countP (fun j=>!X j):=by
    apply List.countP_congr
    intro j hj;have:j≠i:=by have:=List.mem_range.1 hj; omega
    simp [upd,this]
   rw [this]
   simp [upd,hX]
  ·have ih:=ih (by omega);have hn:n≠i:=fun e=>h e.symm
   simp only [upd,if_neg hn] at ih ⊢
   omega
theorem Qgt {n:Nat}{X:Nat→Bool} (h:left n X=0):∀i,i < n→X i=true:=by
 intro i hi;unfold left at h;rw [List.countP_eq_zero] at h;have:=h i (List.mem_range.2 hi)
 simpa using this
def Xof (listed:Array Bool):Nat→Bool:=fun i=>listed.getD i false
theorem Qky {listed:Array Bool}{i:Nat} (hi:i < listed.size):Xof (listed.setIfInBounds i true)=upd (Xof listed) i:=by
 funext j
 simp only [Xof,upd,Array.getD]
 by_cases h:j=i
 ·subst h; simp [hi]
 ·have h':i≠j:=fun e=>h e.symm
  simp only [h,if_false,Array.size_setIfInBounds]
  by_cases hj:j < listed.size
  ·simp [hj,Array.getElem_setIfInBounds,h']
  ·simp [hj]
theorem qc {full:List Oper}{listed:Array Bool}{i:Nat} (hs:listed.size=full.length):i∈Region.ready .any full.toArray listed↔∃o,full[i]? = some o∧Xof listed i=false∧∀j∈Kf o,Xof listed j=true:=by
 unfold Region.ready
 simp only [List.size_toArray,List.mem_filter,List.mem_range,List.getElem?_toArray,Bool.and_eq_true]
 constructor
 ·rintro ⟨hi,h1,h2⟩;rw [List.getElem?_eq_getElem hi] at h2
  simp only [Option.map_some,Option.getD_some] at h2
  refine ⟨full[i],List.getElem?_eq_getElem hi,?_,?_⟩
  ·have hi':i < listed.size:=by omega
   simp only [Xof,Array.getD,hi',dite_true] at h1 ⊢
   simpa using h1
  ·intro j hj
   simp only [Kf,List.mem_map,List.mem_filter] at hj
   obtain ⟨e,⟨he,hb⟩,rfl⟩:=hj;rw [Array.all_eq_true_iff_forall_mem] at h2;have:=h2 e (by simpa using he)
   simpa [hb,Xof] using this
 ·rintro ⟨o,ho,hX,he⟩;obtain ⟨hi,rfl⟩:=List.getElem?_eq_some_iff.1 ho;refine ⟨hi,?_,?_⟩
  ·have hi':i < listed.size:=by omega
   simp only [Xof,Array.getD,hi',dite_true] at hX ⊢
   simpa using hX
  ·rw [ho]
   simp only [Option.map_some,Option.getD_some]
   rw [Array.all_eq_true_iff_forall_mem];intro e hem
   by_cases hb:Region.binds .any e=true
   ·have:=he e.on (by simp only [Kf,List.mem_map,List.mem_filter]; exact ⟨e,⟨by simpa using hem,hb⟩,rfl⟩)
    simp only [Xof] at this
    simp [this]
   ·simp [hb]
theorem Qfs (full:List Oper) (n:Nat):full=full.take n++full.drop n:=(List.take_append_drop n full).symm
theorem QkX (hm:c.P.follows .mixedOrders=true) (hB:BV (l++rest) l.length=true) (hN:QeZ c.N l=true) (hU:al=none∨Qem l=true) (hR:RJ c (l++rest) H 0 l Γ σ al)
  (hend:∀a w,QmU c (l++rest) l σ al Γ H (fun _=>true) a w→wpListIn (fen c.ro) 0 c.P (l++rest).toArray Q rest a w) :
  ∀(fuel:Nat) (listed:Array Bool) (a:Act) (w:World),listed.size=(l++rest).length→left (l++rest).length (Xof listed)≤fuel→
   (((∀i,l.length≤i→Xof listed i=false)∧(∀j p,l[j]? = some p→Xof listed j=true→∀e∈Kf p,Xof listed e=true)∧QmU c (l++rest) l σ al Γ H (Xof listed) a w)∨
    (∃p,l.length≤p∧p≤(l++rest).length∧(∀i,i < (l++rest).length→Xof listed i=decide (i < p))∧wpListIn (fen c.ro) 0 c.P (l++rest).toArray Q ((l++rest).drop p) a w))→
   wpAnyIn (fen c.ro) 0 c.P .any (l++rest).toArray Q fuel listed a w:=by
 -- a first part that is done is a second part that has begun
 have conv:∀ {listed:Array Bool}{a:Act}{w:World},(∀i,l.length≤i→Xof listed i=false)→QmU c (l++rest) l σ al Γ H (Xof listed) a w→(∀i,i < l.length→Xof listed i=true)→
   ∃p,l.length≤p∧p≤(l++rest).length∧(∀i,i < (l++rest).length→Xof listed i=decide (i < p))∧wpListIn (fen c.ro) 0 c.P (l++rest).toArray Q ((l++rest).drop p) a w:=by
  intro listed a w h1 h2 h3;refine ⟨l.length,Nat.le_refl _,by simp,fun i _=>?_,?_⟩
  ·by_cases hi:i < l.length
   ·simp [hi,h3 i hi]
   ·simp [hi,h1 i (by omega)]
  ·rw [List.drop_left']
   ·refine hend a w ?_;obtain ⟨hdf,hn,m,hs,hg,hG,hcur,hfr,E,hsE,hE⟩:=h2;refine ⟨hdf,hn,m,hs,hg,hG,fun t s e=>hcur t s ?_,hfr,E,hsE,?_⟩
    ·rw [←e];refine Bi l.length fun j o hj _ _=>?_;rw [h3 j hj]
    ·rcases hE with ⟨rfl,hE⟩ | ⟨ia,d,e,b,hal,hx,hEe,hb⟩
     ·refine .inl ⟨rfl,fun ia d e h=>?_⟩;have hlen:ia < l.length:=by
       have key:∀ {full:List Oper}{k:Nat}{l:List Oper}{Γ:Env}{σ:List Slot}{al},RJ c full H k l Γ σ al→∀j d e,al=some (j,d,e)→j < k+l.length:=by
        intro full k l Γ σ al h
        induction h with
        | nil=>intro j d e h; cases h
        | read _ _ ih=>intro j d e h; have:=ih j d e h; simp only [List.length_cons]; omega
        | alloc=>intro j d e h; cases h; simp only [List.length_cons]; omega
       have:=key hR ia d e h
       omega
      have:=hE ia d e h;rw [h3 ia hlen] at this; cases this
     ·exact .inr ⟨ia,d,e,b,hal,rfl,hEe,hb⟩
   ·rfl
 intro fuel
 induction fuel with
 | zero=>
  intro listed a w hsz hleft hinv;have hall:=Qgt (Nat.le_zero.1 hleft);have hemp:Region.ready .any (l++rest).toArray listed = []:=by
   rw [List.eq_nil_iff_forall_not_mem];intro i hi;obtain ⟨o,ho,hX,_⟩:=(qc hsz).1 hi;rw [hall i (List.getElem?_eq_some_iff.1 ho).1] at hX; cases hX
  refine ⟨hemp,?_⟩;obtain ⟨p,hp1,hp2,hp3,hp4⟩:∃p,l.length≤p∧p≤(l++rest).length∧(∀i,i < (l++rest).length→Xof listed i=decide (i < p))∧wpListIn (fen c.ro) 0 c.P (l++rest).toArray Q ((l++rest).drop p) a w:=by
   rcases hinv with ⟨h1,_,h2⟩ | h
   ·exact conv h1 h2 (fun i hi=>hall i (by simp; omega))
   ·exact h
  have hpe:p=(l++rest).length:=by
   rcases Nat.lt_or_ge p (l++rest).length with h | h
   ·have:=hp3 p h;rw [hall p h] at this; simp at this
   ·omega
  rw [hpe,List.drop_length] at hp4;exact hp4
 | succ fuel ih=>
  intro listed a w hsz hleft hinv
  -- nothing is ready: all is done
  have hdone:Region.ready .any (l++rest).toArray listed = []→∀i,i < (l++rest).length→Xof listed i=true:=by
   intro hemp i
   induction i using Nat.strongRecOn with
   | _ i ihi=>
    intro hi
    cases hX:Xof listed i with
    | true=>rfl
    | false=>
     have:i∈Region.ready .any (l++rest).toArray listed:=(qc hsz).2 ⟨(l++rest)[i],List.getElem?_eq_getElem hi,hX,fun j hj=>by
      have hji:=QaN hB (List.getElem?_eq_getElem hi) j hj;exact ihi j hji (by omega)⟩
     rw [hemp] at this; cases this
  refine ⟨fun hemp=>?_,fun i hi=>?_⟩
  ·have hall:=hdone hemp;obtain ⟨p,hp1,hp2,hp3,hp4⟩:∃p,l.length≤p∧p≤(l++rest).length∧(∀i,i < (l++rest).length→Xof listed i=decide (i < p))∧wpListIn (fen c.ro) 0 c.P (l++rest).toArray Q ((l++rest).drop p) a w:=by
    rcases hinv with ⟨h1,_,h2⟩ | h
    ·exact conv h1 h2 (fun i hi=>hall i (by simp; omega))
    ·exact h
   have hpe:p=(l++rest).length:=by
    rcases Nat.lt_or_ge p (l++rest).length with h | h
    ·have:=hp3 p h;rw [hall p h] at this; simp at this
    ·omega
   rw [hpe,List.drop_length] at hp4;exact hp4
  ·obtain ⟨o,ho,hX,hedge⟩:=(qc hsz).1 hi;have hilt:=(List.getElem?_eq_some_iff.1 ho).1;have hsz':(listed.setIfInBounds i true).size=(l++rest).length:=by simpa using hsz
   have hXu:=Qky (listed:=listed) (i:=i) (by omega);have hleft':left (l++rest).length (Xof (listed.setIfInBounds i true))≤fuel:=by
    rw [hXu]; have:=Qis hilt hX; omega
   -- which part?
   have hB':(∃p,l.length≤p∧p≤(l++rest).length∧(∀i,i < (l++rest).length→Xof listed i=decide (i < p))∧wpListIn (fen c.ro) 0 c.P (l++rest).toArray Q ((l++rest).drop p) a w)→
     wpOpIn (fen c.ro) 0 c.P (l++rest).toArray Q i (wpAnyIn (fen c.ro) 0 c.P .any (l++rest).toArray Q fuel (listed.setIfInBounds i true)) a w:=by
    rintro ⟨p,hp1,hp2,hp3,hp4⟩;have hip:¬i < p:=by
     intro h;have:=hp3 i hilt;rw [hX] at this; simp [h] at this
    have hpi:p=i:=by
     rcases Nat.lt_or_ge p i with h | h
     ·have:=QaB hB ho (by omega) (X:=Xof listed) hedge (fun j q hj hXj e he=>by
       have hjl:=(List.getElem?_eq_some_iff.1 hj).1;rw [hp3 j hjl] at hXj;have hjp:j < p:=by simpa using hXj
       have hej:=QaN hB hj e he;rw [hp3 e (by omega)]; simp; omega) p h
      rw [hp3 p (by omega)] at this
      simp at this
     ·omega
    subst hpi;rw [List.drop_eq_getElem_cons hilt] at hp4;have hoe:(l++rest)[p]=o:=(List.getElem?_eq_some_iff.1 ho).2;rw [hoe] at hp4;have hop:(l++rest).toArray[p]? = some o:=by simpa using ho
    have:wpOpIn (fen c.ro) 0 c.P (l++rest).toArray Q p (wpListIn (fen c.ro) 0 c.P (l++rest).toArray Q ((l++rest).drop (p+1))) a w:=by
     unfold wpOpIn;rw [hop];exact hp4
    refine wpOpIn_mono (fun a' w' h'=>?_) this;refine ih _ a' w' hsz' hleft' (.inr ⟨p+1,by omega,by omega,fun j hj=>?_,h'⟩);rw [hXu]
    by_cases hjp:j=p
    ·simp [upd,hjp]
    ·simp only [upd,if_neg hjp,hp3 j hj]
     congr 1
     rw [eq_iff_iff]; omega
   rcases hinv with ⟨h1,h2,h3⟩ | h
   ·by_cases hil:i < l.length
    ·have hol:l[i]? = some o:=by rwa [List.getElem?_append_left hil] at ho
     refine QkW hB hN hU hR hol hX hedge h2 h3 fun a' w' hD=>?_;refine ih _ a' w' hsz' hleft' (.inl ⟨fun j hj=>?_,fun j p hp hj e he=>?_,by rw [hXu]; exact hD⟩)
     ·rw [hXu];have:j≠i:=by omega
      simp only [upd,if_neg this]
      exact h1 j hj
     ·rw [hXu] at hj ⊢
      simp only [upd] at hj ⊢
      split
      ·rfl
      ·by_cases hji:j=i
       ·subst hji;rw [hol] at hp; cases hp;exact hedge e he
       ·rw [if_neg hji] at hj;exact h2 j p hp hj e he
    ·refine hB' (conv h1 h3 fun j hj=>?_);refine QaB hB ho (by omega) (X:=Xof listed) hedge (fun j' q hj' hXj e he=>?_) j (by omega);have hjl:j' < l.length:=by
      rcases Nat.lt_or_ge j' l.length with h | h
      ·exact h
      ·rw [h1 j' h] at hXj; cases hXj
     exact h2 j' q (by rwa [List.getElem?_append_left hjl] at hj') hXj e he
   ·exact hB' h
theorem Qo2 {id n:Nat}{L:List Oper} (hst:St c Γ H a w) (hm:c.P.follows .mixedOrders=true) (hB:BV L n=true) (hn:Nat.ble n L.length=true) (hN:QeZ c.N (L.take n)=true) (hR:RJ c L H 0 (L.take n) Γ σ none)
  (k:J9 c L.toArray (L.drop n) (Qdo Γ (L.take n) σ) H (Q .normal)):(Code.region id L.toArray true).wpIn (fen c.ro) 0 c.P Q a w:=by
 have hlen:(L.take n).length=n:=by rw [List.length_take]; have:=Nat.ble_eq▸hn; omega
 have e:=Qfs L n;have main:=QkX (c:=c) (Γ:=Γ) (H:=H) (Q:=Q) (l:=L.take n) (rest:=L.drop n) (σ:=σ) (al:=none) hm (by rw [←e,hlen]; exact hB) hN (.inl rfl) (by rw [←e]; exact hR)
  (fun a w ⟨hdf,hn,m,hs,hg,hG,hcur,hfr,E,hsE,hE⟩=>by
   rw [←e];have hE0:E = []:=by
    rcases hE with ⟨rfl,_⟩ | ⟨ia,d,e,b,hal,_⟩
    ·rfl
    ·cases hal
   subst hE0;refine k a w Q (fun _ _ h=>h) ⟨hdf,hn,m,hs,hg,hG,fun t s h=>hcur t s ?_,hsE,hfr⟩;rw [←Qgr Γ _ σ hR.len t]; exact h)
 refine wpIn_region_any hm ?_;rw [←e] at main;obtain ⟨hdf,hn',m,hs,hg,hG,he,hsat,hf⟩:=hst;refine main _ _ a w.drew (by simp) (Nat.le_trans (List.countP_le_length) (by simp)) (.inl ⟨fun i _=>?_,fun j p _ hj=>?_,hdf.step hg (Frm.drew _ _ _),hn',m,hs,hg.drew,hG,fun t s h=>he t s ?_,hf.trans (Frm.drew _ _ _), [],hsat, .inl ⟨rfl,fun _ _ _ h=>by cases h⟩⟩)
 ·simp only [Xof,Array.getD]; split<;>simp
 ·simp only [Xof,Array.getD] at hj; split at hj<;>simp at hj
 ·rw [←h];have:∀k,cur (L.take n) σ Γ (Xof (Array.replicate L.toArray.size false)) k t=lk Γ t:=by
   intro k;rw [qe k (Nat.zero_le k)]
   ·rfl
   ·intro j o _ _ _ _
    simp only [Xof,Array.getD]; split<;>simp
  rw [this]
end
end Go.Sl
namespace Go.Sl
def Qac (r:Option Nat) (P:Program) (Q:Exit→Act→World→Prop):List Code→Act→World→Prop
 | []=>Q .normal
 | x::k=>x.wpIn (fen r) 0 P (Exit.then (Qac r P Q k) Q)
def Run (c:Ctx) (Q:Exit→Act→World→Prop) (k:List Code) (Γ:Env) (H:List Ent):Prop:=∀a w,St c Γ H a w→Qac c.ro c.P Q k a w
section
variable {c : Ctx} {Γ Γ' : Env} {H H' : List Ent} {Q : Exit → Act → World → Prop} {k : List Code}
theorem X8 (h:∀a w,St c Γ H a w→Q .normal a w):Run c Q [] Γ H:=h
theorem Qj4 {x y:Code} (h:Run c Q (x::y::k) Γ H):Run c Q (.seq x y::k) Γ H:=by
 intro a w hst;refine wpIn_seq (wpIn_mono (h a w hst) fun e a' w' he=>?_)
 cases e<;>exact he
theorem Qn (h:Run c Q k Γ H):Run c Q (.skip::k) Γ H:=fun a w hst=>wpIn_skip (h a w hst)
theorem QnN (h:SubE Γ Γ') (r:Run c Q k Γ' H):Run c Q k Γ H:=fun a w hst=>r a w (hst.sub h)
theorem Yw (h:Keep H H') (r:Run c Q k Γ H'):Run c Q k Γ H:=fun a w hst=>r a w (hst.keep h)
theorem QhB {id:Nat}{l:List Oper} (h:J9 c l.toArray l Γ H (Qac c.ro c.P Q k)):Run c Q (.region id l.toArray false::k) Γ H:=
 fun a w hst=>wpIn_region_lit (h a w _ (fun _ _ h=>h) hst)
theorem Qc {full:Array Oper} (h:Run c Q k Γ H):J9 c full [] Γ H (Qac c.ro c.P Q k):=fun a w Q' hQ hst=>hQ a w (h a w hst)
theorem QlL {id n:Nat}{L:List Oper}{σ:List Slot} (hm:c.P.follows .mixedOrders=true) (hB:BV L n=true) (hn:Nat.ble n L.length=true) (hN:QeZ c.N (L.take n)=true) (hR:RJ c L H 0 (L.take n) Γ σ none)
  (h:J9 c L.toArray (L.drop n) (Qdo Γ (L.take n) σ) H (Qac c.ro c.P Q k)):Run c Q (.region id L.toArray true::k) Γ H:=
 fun a w hst=>Qo2 hst hm hB hn hN hR h
theorem Qm {x:Operand}{A B:Code}{b:Bool} (hx:Has Γ x (bl.slot b)) (h1:b=true→Run c Q (A::k) Γ H) (h2:b=false→Run c Q (B::k) Γ H):Run c Q (.cond x A B::k) Γ H:=by
 intro a w hst;have hst':=hst;obtain ⟨_,_,m,hs,_,_,he,_⟩:=hst';have hv:=U7.1 (hx m a (he.opd x));exact wpIn_cond_split hv (fun hb=>h1 hb a w hst) (fun hb=>h2 hb a w hst)
def BQ (id:Nat) (n:Act→World→Prop) (Q:Exit→Act→World→Prop):Exit→Act→World→Prop
 | .normal,a,w=>n a w
 | .exit id',a,w=>if id'=id then n a w else Q (.exit id') a w
 | e,a,w=>Q e a w
theorem QM {id:Nat}{x:Code} (h:Run c (BQ id (Qac c.ro c.P Q k) Q) [x] Γ H):Run c Q (.block id x::k) Γ H:=by
 intro a w hst;refine wpIn_block (wpIn_mono (h a w hst) fun e a' w' he=>?_)
 cases e with
 | normal=>exact he
 | exit id'=>
  simp only [Exit.then,BQ,Exit.inBlock] at he ⊢
  split<;>simp_all
 | _=>exact he
theorem Qdm {id:Nat} (h:∀a w,St c Γ H a w→Q (.exit id) a w):Run c Q (.exit id::k) Γ H:=fun a w hst=>wpIn_exit (h a w hst)
theorem QS (h:∀a w,St c Γ H a w→Q .ret a w):Run c Q (.ret::k) Γ H:=fun a w hst=>wpIn_ret (h a w hst)
theorem Qhf {id:Nat}{n:Act→World→Prop}{a:Act}{w:World} (h:n a w):BQ id n Q (.exit id) a w:=by simp only [BQ,if_true]; exact h
theorem Qcu {id id':Nat}{n:Act→World→Prop}{a:Act}{w:World} (hne:Nat.beq id' id=false) (h:Q (.exit id') a w):BQ id n Q (.exit id') a w:=by
 have:id'≠id:=fun e=>by subst e; simp at hne
 simp only [BQ,if_neg this]; exact h
end
def LQ {σ ρ:Type} (id:Nat) (I:σ→Act→World→Prop) (R:ρ→Act→World→Prop) (r:LR σ ρ) (e:Exit) (a:Act) (w:World):Prop:=
 match r with
 | .next s=>e = .normal∧I s a w
 | .brk s=>e = .exit id∧I s a w
 | .ret x=>e = .ret∧R x a w
theorem Qlo {P:Program}{ro:Option Nat}{Q:Exit→Act→World→Prop}{σ ρ:Type}{f:σ→Option (LR σ ρ)}{I:σ→Act→World→Prop}{R:ρ→Act→World→Prop}{id:Nat}{body:Code}
  (step:∀s r a w,f s=some r→I s a w→body.wpIn (fen ro) 0 P (LQ id I R r) a w) :
  ∀(n:Nat) (s:σ) (out:σ ⊕ ρ) (a:Act) (w:World),Yf f n s=some out→I s a w→(∀s' a w,out = .inl s'→I s' a w→Q (.exit id) a w)→(∀x a w,out = .inr x→R x a w→Q .ret a w)→Code.roundsIn (fen ro) 0 P body Q n a w:=by
 intro n
 induction n with
 | zero=>intro s out a w h; cases h
 | succ n ih=>
  intro s out a w h hI h1 h2;rw [roundsIn_succ];unfold Yf at h
  cases hf:f s with
  | none=>rw [hf] at h; cases h
  | some r=>
   rw [hf] at h;refine wpIn_mono (step s r a w hf hI) fun e a' w' hq=>?_
   cases r with
   | next s'=>obtain ⟨rfl,hI'⟩:=hq; exact ih s' out a' w' h hI' h1 h2
   | brk s'=>obtain ⟨rfl,hI'⟩:=hq; simp only [Option.some.injEq] at h; exact h1 s' a' w' h.symm hI'
   | ret x=>obtain ⟨rfl,hR⟩:=hq; simp only [Option.some.injEq] at h; exact h2 x a' w' h.symm hR
section
variable {c : Ctx} {Γ Γ' : Env} {H H' : List Ent} {Q : Exit → Act → World → Prop} {k : List Code}
theorem VO {σ ρ ι:Type}{f:σ→Option (LR σ ρ)}{Γi:ι→σ→Env}{Hi:ι→σ→List Ent}{R:ρ→Act→World→Prop}{id n:Nat}{body:Code}{s0:σ}{out:σ ⊕ ρ} (hl:Yf f n s0=some out)
  (i0:ι) (h0:∀a w,St c Γ H a w→St c (Γi i0 s0) (Hi i0 s0) a w)
  (step:∀i s r,f s=some r→Run c (LQ id (fun s a w=>∃i,St c (Γi i s) (Hi i s) a w) R r) [body] (Γi i s) (Hi i s))
  (h1:∀i s,out = .inl s→Run c Q k (Γi i s) (Hi i s)) (h2:∀x a w,out = .inr x→R x a w→Q .ret a w):Run c Q (.block id (.loop body)::k) Γ H:=by
 refine QM fun a w hst=>?_;refine wpIn_loop_rounds n (Qlo (I:=fun s a w=>∃i,St c (Γi i s) (Hi i s) a w) (R:=R) (id:=id) (f:=f) ?_ n s0 out a w hl ⟨i0,h0 a w hst⟩ ?_ ?_)
 ·rintro s r a w hf ⟨i,hI⟩;refine wpIn_mono (step i s r hf a w hI) fun e a' w' hq=>?_
  cases e<;>exact hq
 ·rintro s' a w ho ⟨i,hI⟩;exact Qhf (h1 i s' ho a w hI)
 ·intro x a w ho hR;exact h2 x a w ho hR
end
section
variable {c : Ctx} {Γ Γ' : Env} {H H' : List Ent} {a : Act} {w : World} {ι : Type} {ρ : ι → Slot} {ε : ι → List Ent} {fn : Func}
def QeY (tmps:Array Value):ResultVar→Sem Value
 | .tmp t=>pure (tmps.getD t undef)
 | .cell ad t=>do loadVar t (←asAddr (tmps.getD ad undef))
theorem Qjj (fn:Func) (tmps:Array Value):results fn tmps=(do let vs ←fn.results.mapM (QeY tmps); pure (if h:vs.size=1 then vs[0] else .tuple vs)):=by
 unfold results;have:(fun (r:ResultVar)=>(match r with
  | .tmp t=>pure (tmps.getD t undef)
  | .cell a t=>do loadVar t (←asAddr (tmps.getD a undef)):Sem Value))=QeY tmps:=by
  funext r; cases r<;>rfl
 rw [←this]
 rfl
inductive ResJ (c:Ctx) (Γ:Env) (H:List Ent):ResultVar→Slot→Prop
 | tmp {t:Nat}{s:Slot}:lk Γ t=some s→ResJ c Γ H (.tmp t) s
 | cell {t b:Nat}{T T0:TypeId}{α:Type}{R:Rep α}{x:α}{H':List Ent}:lk Γ t=some (val (.pointer (some ⟨b,0,none⟩)))→Pick H (box b T0 R x) H'→tyB c.P T R.ag R.n=true→ResJ c Γ H (.cell t T) (R.slot x)
theorem ResJ.run {r:ResultVar}{s:Slot} (h:ResJ c Γ H r s){m:Mem}{hs:Hp} (hg:Zk m hs w) (hsat:Sat H m hs) (he:Vg Γ m a) :
  ∃v,(QeY a.tmps r).run c.P w = .ok v w∧s.p m v:=by
 cases h with
 | tmp h=>exact ⟨_,rfl,he _ _ h⟩
 | @cell t b T T0 α R x H' h hk hT=>
  have e:a.tmps.getD t undef=_:=he t _ h;obtain ⟨cs,hmem,hr⟩:=Sat.box (w:=w) hsat hk;refine ⟨Yg R.ag cs,?_,Rep.is_of hr⟩;have:=Kt (P:=c.P) (w:=w) (b:=b) (o:=0) hT (R.len hr) R.one (fun j v ev=>by rw [Nat.zero_add]; exact hg.cells hmem j v ev)
  simp only [Instr.loadAt,Instr.sureAddr,pure_bind] at this
  simp only [QeY,e,asAddr,pure_bind]
  exact this
inductive ResL (c:Ctx) (Γ:Env) (H:List Ent):List ResultVar→List Slot→Prop
 | nil:ResL c Γ H [] []
 | cons {r:ResultVar}{s:Slot}{rs:List ResultVar}{ss:List Slot}:ResJ c Γ H r s→ResL c Γ H rs ss→ResL c Γ H (r::rs) (s::ss)
theorem ResL.run {rs:List ResultVar}{ss:List Slot} (h:ResL c Γ H rs ss){m:Mem}{hs:Hp} (hg:Zk m hs w) (hsat:Sat H m hs) (he:Vg Γ m a) :
  ∃vs:List Value,(rs.mapM (QeY a.tmps)).run c.P w = .ok vs w∧BI m ss vs∧vs.length=rs.length:=by
 induction h with
 | nil=>exact ⟨[],by simp,rfl,rfl⟩
 | cons h1 _ ih=>
  obtain ⟨vs,hrun,hall,hlen⟩:=ih;obtain ⟨v,hv,hs'⟩:=h1.run hg hsat he;refine ⟨v::vs,?_,⟨v,vs,rfl,hs',hall⟩,by simp [hlen]⟩;rw [List.mapM_cons]
  simp only [Sem.run_bind,hv,Result.andThen_ok,hrun,Sem.run_pure]
theorem QbN {rs:List ResultVar}{vs:List Value} (hr:fn.results=rs.toArray) (h:(rs.mapM (QeY a.tmps)).run c.P w = .ok vs w) :
  (results fn a.tmps).run c.P w = .ok (if h:vs.toArray.size=1 then vs.toArray[0] else .tuple vs.toArray) w:=by
 rw [Qjj,hr,Sem.run_bind,Array.mapM_eq_mapM_toList,Sem.run_map];show (((List.mapM (QeY a.tmps) rs).run c.P w).andThen _ |>.andThen _)=_;rw [h]
 rfl
theorem ZF {r:ResultVar}{s:Slot} (hst:St c Γ H a w) (hr:fn.results = #[r]) (hj:ResJ c Γ H r s) (i:ι) (hs:∀m v,s.p m v→(ρ i).p m v) (hk:Keep H (ε i)) (hds:c.mm=false:=by rfl):bodyPost c.P fn (QbL c ρ ε) .ret a w:=by
 obtain ⟨hd,hn,m,hsh,hg,hG,he,hsat,hf⟩:=hst;obtain ⟨vs,hrun,hall,hlen⟩:=(ResL.cons hj .nil).run hg hsat he;have:=QbN (fn:=fn) (rs:= [r]) hr hrun;obtain ⟨v,vs',rfl,hv,hnil⟩:=hall
 cases hnil
 obtain ⟨rr,hs',hp,q⟩:=hsat.keep hk;have hg':=hg.perm hp;refine ⟨hd.none hds,v,by simpa using this,v,m,hs',i,rfl,hg'.sub,hs m v hv,q,(hf.perm hp).sub fun b hb=>by rw [Hp.bs_append]; exact List.mem_append.2 (.inr hb)⟩
theorem Zy {rs:List ResultVar}{ss:List Slot} (hst:St c Γ H a w) (hr:fn.results=rs.toArray) (hj:ResL c Γ H rs ss) (h1:Nat.beq rs.length 1=false) (i:ι) (hs:∀m v,(tup ss).p m v→(ρ i).p m v) (hk:Keep H (ε i)) (hds:c.mm=false:=by rfl):bodyPost c.P fn (QbL c ρ ε) .ret a w:=by
 obtain ⟨hd,hn,m,hsh,hg,hG,he,hsat,hf⟩:=hst;obtain ⟨vs,hrun,hall,hlen⟩:=hj.run hg hsat he;have:=QbN (fn:=fn) hr hrun;have hne:¬vs.toArray.size=1:=by
  intro h;have:rs.length=1:=by rw [←hlen]; simpa using h
  rw [this] at h1; cases h1
 rw [dif_neg hne] at this;obtain ⟨rr,hs',hp,q⟩:=hsat.keep hk;have hg':=hg.perm hp;exact ⟨hd.none hds,_,this,_,m,hs',i,rfl,hg'.sub,hs m _ ⟨vs,rfl,hall⟩,q,(hf.perm hp).sub fun b hb=>by rw [Hp.bs_append]; exact List.mem_append.2 (.inr hb)⟩
theorem We {rs:List ResultVar}{ss:List Slot} (hst:St c Γ H a w) (hr:fn.results=rs.toArray) (hj:ResL c Γ H rs ss) (h1:Nat.beq rs.length 1=false) (i:ι) (hs:∀m v,(tup ss).p m v→(ρ i).p m v) (hk:Keep H (ε i)) (hds:c.mm=false:=by rfl):bodyPost c.P fn (QbL c ρ ε) .normal a w:=
 Zy hst hr hj h1 i hs hk hds
end
theorem Qq {P:Program}{G:GP}{f:FuncId}{fn:Func}{code:Code}{A:List Slot}{E:List Ent}{ι:Type}{ρ:ι→Slot}{ε:ι→List Ent}
  (hf:P.funcs[f]? = some fn) (hb:fn.body=some code) (N:Nat) (hN:fn.ntmps=N) (hA:Nat.ble A.length N=true)
  (h:∀(m0:Mem) (w0:World) (b0:List Nat),Run ⟨P,N,G,m0,w0,b0,none,false⟩ (bodyPost P fn (QbL ⟨P,N,G,m0,w0,b0,none,false⟩ ρ ε)) [code] (QaW 0 A) E):Ctr P G f A E ρ ε:=by
 refine Qil hf hb hN hA ?_;rintro ⟨P',N',G',m0,w0,b0,ro',ds'⟩ rfl rfl rfl rfl rfl a w hst;refine wpIn_mono (h m0 w0 b0 a w hst) fun e a' w' he=>?_
 cases e<;>exact he
end Go.Sl
namespace Go.Sl
section
variable {c : Ctx} {full : Array Oper} {l : List Oper} {Γ Γ' : Env} {H H' : List Ent} {K : Act → World → Prop} {d : Tmp} {od : Option Tmp} {ty : TypeId} {pos : String} {aft : Array Edge} {g : Option (Nat × Bool)} {α β : Type}
theorem PJ.eqv {o:Oper}{R:Rep α}{x y:α} (h:PJ c o Γ H (R.slot x)) (e:x=y):PJ c o Γ H (R.slot y):=e▸h
theorem Qg2 {T:TypeId}{x y:Operand}{R:Rep α}{xs:List α}{i:Int}{s:Slot}{z:α} (hx:Has Γ x ((sl R).slot xs)) (hy:Has Γ y s) (hs:Um s i) (h:JU xs i=some z) (hT:slB c.P T R.n=true) :
  PJ c ⟨od, .indexAddr T x y,ty,pos,aft,g⟩ Γ H (QZ R z):=by
 obtain ⟨h0,hi,rfl⟩:=Q0 h;exact Qip hx hy hs h0 hi hT
theorem UU {T n:Nat}{x y:Operand}{R:Rep α}{v:Vector α n}{i:Int}{s:Slot}{z:α} (hx:Has Γ x (QZ (vec n R) v)) (hy:Has Γ y s) (hs:Um s i) (h:KI v i=some z) (hT:Qcs c.P T n R.n=true) :
  PJ c ⟨od, .indexAddr T x y,ty,pos,aft,g⟩ Γ H (QZ R z):=by
 obtain ⟨h0,hi,rfl⟩:=Jf h;exact Qib hx hy hs h0 hi hT
theorem Qgc {T n e:Nat}{x y:Operand}{R:Rep α}{v:Vector α n}{i:Int}{s:Slot}{z:α} (hx:Has Γ x ((vec n R).slot v)) (hy:Has Γ y s) (hs:Um s i) (h:KI v i=some z)
  (hT:c.P.underlying T=some (.array n e)) (he:tyB c.P e R.ag R.n=true):PJ c ⟨od, .index T x y,ty,pos,aft,g⟩ Γ H (R.slot z):=by
 obtain ⟨h0,hi,rfl⟩:=Jf h;exact QgI hx hy hs h0 hi hT he
theorem Jn {T:TypeId}{x:Operand}{lo hi:Option Operand}{R:Rep α}{xs r:List α}{p q:Option Int} (hx:Has Γ x ((sl R).slot xs)) (hlo:OptI Γ lo p) (hhi:OptI Γ hi q)
  (h:JZ xs (p.getD 0) (q.getD xs.length)=some r) (hT:slB c.P T R.n=true:=by kernel_rfl):PJ c ⟨od, .slice T x lo hi none,ty,pos,aft,g⟩ Γ H ((sl R).slot r):=by
 obtain ⟨h0,h1,h2,rfl⟩:=Qbq h;exact QhC hx hlo hhi h0 h1 h2 hT
theorem qt {T n e:Nat}{x:Operand}{R:Rep α}{xs:List α}{v:Vector α n} (hx:Has Γ x ((sl R).slot xs)) (h:WT n xs=some v) (hn:Nat.blt 0 n=true) (hT:c.P.underlying T=some (.array n e)) :
  PJ c ⟨od, .sliceToArrayPointer T x,ty,pos,aft,g⟩ Γ H (QZ (vec n R) v):=by
 obtain ⟨hl,rfl⟩:=QhG h;exact Qoa hx hl (by simpa [Nat.blt_eq] using hn) hT
theorem QjD {P:Program}{T sz:Nat} (hT:slB P T sz=true){a:Option Addr}{len cap:Nat}{kh km:IntKind}{h m:Int} (h0:0≤h) (h1:h≤m) (h2:m≤cap) (w:World) :
  (Instr.sliceAt T (.slice a len cap) none (some (.int kh h)) (some (.int km m))).run P w = .ok (.slice a h.toNat m.toNat) w:=by
 obtain ⟨e,hu,hs⟩:=Qbk hT;have hz:=UC hs w;have hb:∀(k:IntKind) (n:Int) (y:Nat) (code:BoundsCode),0≤n→n≤y→(Instr.sliceBound (.int k n) y code).run P w = .ok n.toNat w:=by
  intro k n y code h0 h1
  simp [Instr.sliceBound,asIntOf,h0,h1]
 have e1:=hb km m cap .slice3Acap (by omega) h2;have e2:=hb kh h m.toNat .slice3B h0 (by omega)
 simp only [Instr.sliceAt,Sem.run_bind,run_underlying hu,Result.andThen_ok,Instr.slice,Instr.sliceBounds,if_true,e1,e2,Sem.run_pure,hz]
 congr 1
 by_cases hm:m.toNat=0
 ·simp [hm]
 ·simp only [hm,if_false,Nat.zero_mul,Nat.sub_zero]
  congr 1
  cases a with
  | none=>rfl
  | some a=>simp [Addr.add]
theorem QkK {T:TypeId}{x y z:Operand}{R:Rep α}{xs r:List α}{p:Int} (hx:Has Γ x ((sl R).slot xs)) (hy:Has Γ y (i64.slot p)) (hz:Has Γ z (i64.slot p))
  (h:JZ xs 0 p=some r) (hT:slB c.P T R.n=true):PJ c ⟨od, .slice T x none (some y) (some z),ty,pos,aft,g⟩ Γ H ((sl R).slot r):=
 XC fun m hs2 a w hg _ _ ho=>by
  obtain ⟨a0,cap,e,hc,hrow⟩:=hx m a (ho x (by simp [Op.operands]))
  simp only [List.cons.injEq,and_true] at e
  have ey:=Yu.1 (hy m a (ho y (by simp [Op.operands])));have ez:=Yu.1 (hz m a (ho z (by simp [Op.operands])));obtain ⟨_,h0,h1,rfl⟩:=Qbq h;have hr:=QjD (P:=c.P) hT (a:=a0) (len:=xs.length) (cap:=cap) (kh:= .i64) (km:= .i64) h0 (Int.le_refl p) (by omega) w;refine ⟨.slice a0 p.toNat p.toNat,?_,?_⟩
  ·simp only [execOp,e,Option.map_none,Option.map_some,ey,ez,Sem.run_bind,hr,Result.andThen_ok,Sem.run_pure]
  ·have hlen:((xs.take p.toNat).drop (0:Int).toNat).length=p.toNat:=by simp; omega
   refine ⟨a0,p.toNat,by rw [hlen],by rw [hlen]; exact Nat.le_refl _,?_⟩
   rcases hrow with rfl | ⟨b,o,row,rfl,hrw,hat⟩
   ·exact .inl (by simp)
   ·refine .inr ⟨b,o,row.take (p.toNat*R.n),rfl,by simpa using hrw.take p.toNat,?_⟩;have:=hat.mid 0 (p.toNat*R.n)
    simpa using this
def QaV (v:Value) (k:Nat):Slot:=⟨fun _ u=>∃b n cap,v = .slice (some ⟨b,0,none⟩) n cap∧u = .pointer (some ⟨b,k,none⟩),fun _ h=>h⟩
theorem own.at {T:TypeId}{R:Rep α}{v:Value}{xs:List α}{m:Mem}{hs:Hp} (h:(own T R v xs).p m hs) (hne:xs≠ []) :
  ∃b cap row spare,v = .slice (some ⟨b,0,none⟩) xs.length cap∧hs = [(b,T,row++spare)]∧Zm R m row xs∧xs.length≤cap∧(row++spare).length=cap*R.n:=
 h.resolve_left fun h=>hne h.1
theorem JC {T T0:TypeId}{x y:Operand}{v:Value}{R:Rep α}{xs:List α}{i:Int}{s:Slot} (hx:Has Γ x (ov v)) (hk:Pick H (own T0 R v xs) H') (hy:Has Γ y s) (hs:Um s i) (h0:0≤i) (h1:i.toNat < xs.length)
  (hT:slB c.P T R.n=true:=by kernel_rfl):PJ c ⟨od, .indexAddr T x y,ty,pos,aft,g⟩ Γ H (QaV v (i.toNat*R.n)):=
 XC fun m hs2 a w hg _ hsat ho=>by
  have e:=(Bv.1 (hx m a (ho x (by simp [Op.operands])))).1;obtain ⟨k,ek⟩:=hs m _ (hy m a (ho y (by simp [Op.operands])));obtain ⟨g1,g2,hp,hown,_⟩:=hsat.pick hk;obtain ⟨b,cap,row,spare,hv,_⟩:=own.at hown (fun e=>by subst e; simp at h1);rw [hv] at e;refine ⟨_,by simp only [execOp,e,ek,Sem.run_bind,Qbe hT b 0 xs.length cap k h0 (by omega)]; rfl,b,_,_,hv,by simp⟩
theorem QcW {S f off k:Nat}{x:Operand}{v:Value} (hx:Has Γ x (QaV v k)) (hf:Qg0 c.P S f off=true):PJ c ⟨od, .fieldAddr S x f,ty,pos,aft,g⟩ Γ H (QaV v (k+off)):=
 XC fun m hs a w hg _ _ ho=>by
  obtain ⟨b,n,cap,hv,e⟩:=hx m a (ho x (by simp [Op.operands]));exact ⟨_,by simp only [execOp,e,Sem.run_bind,QfY hf]; rfl,b,n,cap,hv,rfl⟩
theorem QkF {m:Mem}{hs:Hp}{w:World}{b:Nat}{T:TypeId}{R:Rep α}{row spare:List Value}{xs:List α}{i:Nat} (hg:Zk m hs w) (hmem:(b,T,row++spare)∈hs) (hr:Zm R m row xs) (hi:i < xs.length) (j:Nat) (u:Value)
  (e:((row.drop (i*R.n)).take R.n)[j]? = some u):w.cell? ⟨b,i*R.n+j,none⟩=some u:=by
 rw [List.getElem?_take] at e
 split at e
 ·rw [List.getElem?_drop] at e;exact hg.cells hmem _ _ (by rw [List.getElem?_append_left]; exact e; exact (List.getElem?_eq_some_iff.1 e).1)
 ·cases e
theorem Qek {T T0 i off:Nat}{x:Operand}{v:Value}{R:Rep α}{S:Rep β}{xs:List α}{get:α→β}{set:α→β→α} (hx:Has Γ x (QaV v (i*R.n+off))) (hk:Pick H (own T0 R v xs) H') (h1:i < xs.length) (hp:Path R off S get set)
  (hT:tyB c.P T S.ag S.n=true:=by kernel_rfl):PJ c ⟨od, .load T x,ty,pos,aft,g⟩ Γ H (S.slot (get xs[i])):=
 XC fun m hs2 a w hg _ hsat ho=>by
  obtain ⟨b',n,cap',hv',e⟩:=hx m a (ho x (by simp [Op.operands]));obtain ⟨g1,g2,hpm,hown,_⟩:=hsat.pick hk;obtain ⟨b,cap,row,spare,hv,hg1,hr,_,_⟩:=own.at hown (fun e=>by subst e; simp at h1);rw [hv'] at hv
  simp only [Value.slice.injEq,Option.some.injEq,Addr.mk.injEq] at hv
  obtain ⟨⟨rfl,_⟩,_⟩:=hv;have hmem:(b',T0,row++spare)∈hs2:=hpm.mem_iff.2 (by rw [hg1]; simp);have hr1:=Zm.get hr h1;have hr':=hp.get_ok hr1;refine ⟨_,?_,Rep.is_of hr'⟩
  simp only [execOp,e,Sem.run_bind]
  rw [Kt hT (S.len hr') S.one]
  ·rfl
  ·intro j u ej;rw [List.getElem?_take] at ej
   split at ej
   ·rw [List.getElem?_drop] at ej;have:=QkF hg hmem hr h1 (off+j) u ej
    rwa [←Nat.add_assoc] at this
   ·cases ej
theorem QhM {T T0 i off:Nat}{x y:Operand}{v:Value}{R:Rep α}{S:Rep β}{xs:List α}{z:β}{get:α→β}{set:α→β→α} (hx:Has Γ x (QaV v (i*R.n+off))) (hy:Has Γ y (S.slot z)) (hk:Pick H (own T0 R v xs) H') (h1:i < xs.length)
  (hp:Path R off S get set) (hT:szB c.P T S.n=true)
  (k:J9 c full l Γ (own T0 R v (xs.set i (set xs[i] z))::H') K):J9 c full (⟨none, .store T x y,ty,pos,aft,none⟩::l) Γ H K:=by
 refine Qbd rfl ?_ k;intro m hs a w hg _ hsat he hn;obtain ⟨b',n,cap',hv',e⟩:=hx m a (he.opd x);obtain ⟨ds,hc,hd⟩:=Rep.is_cells (hy m a (he.opd y));obtain ⟨g1,g2,hpm,hown,hs2⟩:=hsat.pick hk;obtain ⟨b,cap,row,spare,hv,hg1,hr,hcap,hlen⟩:=own.at hown (fun e=>by subst e; simp at h1);have hv0:=hv;rw [hv'] at hv
 simp only [Value.slice.injEq,Option.some.injEq,Addr.mk.injEq] at hv
 obtain ⟨⟨rfl,_⟩,_⟩:=hv;subst hg1;have hg':=hg.perm hpm;have hfit:=hp.fits;have hrl:=hr.length;have hle:i*R.n+R.n≤row.length:=by
  rw [hrl]
  calc i*R.n+R.n=(i+1)*R.n:=by rw [Nat.add_mul,Nat.one_mul]
   _≤xs.length*R.n:=Nat.mul_le_mul_right _ h1
 have hr1:=Zm.get hr h1;have hset:=Zm.set hr h1 (hp.set_ok hr1 hd);have hdl:=S.len hd
 -- the row behind the store
 have erow:row.take (i*R.n)++(((row.drop (i*R.n)).take R.n).take off++ds++((row.drop (i*R.n)).take R.n).drop (off+S.n))++row.drop (i*R.n+R.n)=row.take (i*R.n+off)++ds++row.drop (i*R.n+off+S.n):=by
  rw [List.take_take,Nat.min_eq_left (by omega),List.take_add];have e2:((row.drop (i*R.n)).take R.n).drop (off+S.n)++row.drop (i*R.n+R.n)=row.drop (i*R.n+off+S.n):=by
   rw [List.drop_take,List.drop_drop];have:row.drop (i*R.n+R.n)=(row.drop (i*R.n+(off+S.n))).drop (R.n - (off+S.n)):=by rw [List.drop_drop]; congr 1; omega
   rw [this,List.take_append_drop]
   congr 1; omega
  simp only [List.append_assoc] at *
  rw [e2]
 rw [erow] at hset;have hst:=UT (P:=c.P) (b:=b') (o:=i*R.n+off) (cs:=row++spare) hT hc hdl (S.cell hd) (hg'.blk (b',T0,row++spare) (by simp)) (by rw [List.length_append]; omega);have ecs:(row++spare).take (i*R.n+off)++ds++(row++spare).drop (i*R.n+off+S.n)=(row.take (i*R.n+off)++ds++row.drop (i*R.n+off+S.n))++spare:=by
  rw [List.take_append,List.drop_append];have z1:i*R.n+off - row.length=0:=by omega
  have z2:i*R.n+off+S.n - row.length=0:=by omega
  simp [z1,z2]
 rw [ecs] at hst;have hrun:(execOp a.eval ⟨none, .store T x y,ty,pos,aft,none⟩).run c.P w = .ok .skip (setBlk w b' T0 ((row.take (i*R.n+off)++ds++row.drop (i*R.n+off+S.n))++spare)):=by
  simp only [execOp,e,Sem.run_bind,hst]
  rfl
 rw [hrun];refine ⟨m,(b',T0,(row.take (i*R.n+off)++ds++row.drop (i*R.n+off+S.n))++spare)::g2,hg'.setBlk _,he,⟨[_],g2,rfl, .inr ⟨b',cap,_,spare,?_,rfl,hset,?_,?_⟩,hs2⟩,?_⟩
 ·rw [hv0]; simp
 ·simpa using hcap
 ·rw [←hlen]
  simp only [List.length_append,List.length_take,List.length_drop]
  omega
 ·exact Frm.ofPerm hpm (Frm.setBlk (by simp [Hp.bs]))
theorem Qen {T T0:TypeId}{x y:Operand}{v:Value}{R:Rep α}{xs:List α}{n:Int}{s:Slot} (hx:Has Γ x (ov v)) (hk:Pick H (own T0 R v xs) H') (hy:Has Γ y s) (hs:Um s n) (h0:0≤n) (h1:n≤xs.length) (hT:slB c.P T R.n=true) (hN:Nat.blt d c.N=true)
  (k:∀v',J9 c full l ((d,ov v')::Γ) (own T0 R v' (xs.take n.toNat)::H') K):J9 c full (⟨some d, .slice T x none (some y) none,ty,pos,aft,none⟩::l) Γ H K:=by
 refine Ur (Γ2:=fun v'=>(d,ov v')::Γ) (H2:=fun v'=>own T0 R v' (xs.take n.toNat)::H') rfl ?_ k;intro m hs2 a w hg _ hsat he hn;have e:=(Bv.1 (hx m a (he.opd x))).1;obtain ⟨kk,ek⟩:=hs m _ (hy m a (he.opd y));obtain ⟨g1,g2,hpm,hown,hs3⟩:=hsat.pick hk;have hlt:(xs.take n.toNat).length=n.toNat:=by rw [List.length_take,Nat.min_eq_left (by omega)]
 rcases hown with ⟨rfl,rfl,ad,rfl⟩ | ⟨b,cap,row,spare,rfl,rfl,hr,hcap,hlen⟩
 ·have hn0:n=0:=by simp at h1; omega
  subst hn0;have hr:=UY (P:=c.P) hT (a:=ad) (len:=0) (cap:=0) (lo:=none) (hi:=some (.int kk 0)) (l:=none) (h:=some 0) (.inl ⟨rfl,rfl⟩) (.inr ⟨kk,0,rfl,rfl⟩) (by simp) (by simp) (by simp) w
  simp only [Option.getD_none,Option.getD_some,Int.toNat_zero,if_true,Nat.sub_self] at hr
  have hrun:(execOp a.eval ⟨some d, .slice T x none (some y) none,ty,pos,aft,none⟩).run c.P w = .ok (.value (.slice ad 0 0)) w:=by
   simp only [execOp,e,Option.map_none,Option.map_some,ek,Sem.run_bind,hr,Result.andThen_ok,Sem.run_pure]
  rw [hrun];exact ⟨.slice ad 0 0,m,g2,by simpa using hg.perm hpm,he.put (by rw [hn]; simpa [Nat.blt_eq] using hN) qo,⟨[],g2,rfl, .inl ⟨by simp,rfl,ad,rfl⟩,hs3⟩,Frm.ofPerm hpm (Frm.refl w m _)⟩
 ·have hr2:=UY (P:=c.P) hT (a:=some ⟨b,0,none⟩) (len:=xs.length) (cap:=cap) (lo:=none) (hi:=some (.int kk n)) (l:=none) (h:=some n) (.inl ⟨rfl,rfl⟩) (.inr ⟨kk,n,rfl,rfl⟩) (by simp) (by simpa using h0) (by simp; omega) w
  simp only [Option.getD_none,Option.getD_some,Int.toNat_zero,Nat.sub_zero,Nat.zero_mul,Option.map_some,Addr.add_lit,Nat.add_zero] at hr2
  have hif:(if cap=0 then some (⟨b,0,none⟩:Addr) else some ⟨b,0,none⟩)=some ⟨b,0,none⟩:=by split<;>rfl
  rw [hif] at hr2;have hrun:(execOp a.eval ⟨some d, .slice T x none (some y) none,ty,pos,aft,none⟩).run c.P w = .ok (.value (.slice (some ⟨b,0,none⟩) n.toNat cap)) w:=by
   simp only [execOp,e,Option.map_none,Option.map_some,ek,Sem.run_bind,hr2,Result.andThen_ok,Sem.run_pure]
  rw [hrun];refine ⟨_,m, [(b,T0,row++spare)]++g2,hg.perm hpm,he.put (by rw [hn]; simpa [Nat.blt_eq] using hN) qo,⟨_,g2,rfl, .inr ⟨b,cap,row.take (n.toNat*R.n),row.drop (n.toNat*R.n)++spare,by rw [hlt],by rw [←List.append_assoc,List.take_append_drop],hr.take _,by rw [hlt]; omega,?_⟩,hs3⟩,Frm.ofPerm hpm (Frm.refl _ _ _)⟩;rw [←List.append_assoc,List.take_append_drop,hlen]
end
end Go.Sl
namespace Go.Sl
section
variable {c : Ctx} {full : Array Oper} {l : List Oper} {Γ Γ' : Env} {H H' : List Ent} {K : Act → World → Prop} {d : Tmp} {od : Option Tmp} {ty : TypeId} {pos : String} {aft : Array Edge} {g : Option (Nat × Bool)} {α β : Type}
def QaZ (P:Program) (T:TypeId) (R:Rep α) (n:Nat):Prop:=
 ∀k,n≤k→∀m cs ds x y w,R.rel m cs x→R.rel m ds y→∃b:Bool,(Op.equalIn k T (Yg R.ag cs) (Yg R.ag ds)).run P w = .ok b w∧(b=true↔x=y)
theorem QaC {P:Program}{T:TypeId} (h:P.underlying T=some (.int .i64)):QaZ P T i64 1:=by
 intro k hk m cs ds x y w hx hy
 cases hx; cases hy
 match k,hk with
 | k+1,_=>exact ⟨x==y,by simp [Op.equalIn,run_underlying h,Yg,i64],by simp⟩
theorem Qdh {P:Program}{T:TypeId}{k:IntKind}{b:Nat} (h:P.underlying T=some (.int k)):QaZ P T (un k b) 1:=by
 intro n hn m cs ds x y w hx hy
 cases hx; cases hy
 match n,hn with
 | n+1,_=>exact ⟨(x.toNat:Int)==y.toNat,by simp [Op.equalIn,run_underlying h,Yg,un],by simp [←BitVec.toNat_inj]; omega⟩
theorem qX {P:Program}{T e N n:Nat}{R:Rep α} (h:P.underlying T=some (.array N e)) (he:tyB P e R.ag R.n=true) (hR:QaZ P e R n):QaZ P T (vec N R) (n+1):=by
 intro k hk m cs ds x y w hx hy
 match k,hk with
 | k+1,hk=>
  have hk':n≤k:=by omega
  have hz:∀w:World,(sizeOf e).run P w = .ok R.n w:=fun w=>UC (Qdi he) w;have hcl:=(vec N R).len hx;have hdl:=(vec N R).len hy
  -- the loop, from the j-th element on
  have loop:∀r j,j+r=N→∃b:Bool,(∀w:World,(forIn (m:=Sem) (List.range' j r) ((none,()):Option Bool×Unit) (fun i (_:Option Bool×Unit)=>do
    let a ←part e cs.toArray (i*R.n)
    let b ←part e ds.toArray (i*R.n)
    let q ←Op.equalIn k e a b
    if (!q)=true then pure (ForInStep.done (some false,())) else pure (ForInStep.yield (none,())))).run P w = .ok (if b then (none,()) else (some false,())) w)∧(b=true↔∀i,(h:i < N)→j≤i→x[i]=y[i]):=by
   intro r
   induction r with
   | zero=>
    intro j hj;refine ⟨true,fun w=>by simp,?_⟩
    constructor
    ·intro _ i hi hji; omega
    ·intro _; rfl
   | succ r ih=>
    intro j hj;have hjN:j < N:=by omega
    obtain ⟨b,hb,hiff⟩:=ih (j+1) (by omega);have hpx:=(Path.at N R j hjN).get_ok hx;have hpy:=(Path.at N R j hjN).get_ok hy;have h1:∀w:World,(part e cs.toArray (j*R.n)).run P w = .ok (Yg R.ag ((cs.drop (j*R.n)).take R.n)) w:=fun w=>qw he R.one (by rw [hcl]; exact (Path.at N R j hjN).fits) w
    have h2:∀w:World,(part e ds.toArray (j*R.n)).run P w = .ok (Yg R.ag ((ds.drop (j*R.n)).take R.n)) w:=fun w=>qw he R.one (by rw [hdl]; exact (Path.at N R j hjN).fits) w;have hq:∃q:Bool,(∀w:World,(Op.equalIn k e (Yg R.ag ((cs.drop (j*R.n)).take R.n)) (Yg R.ag ((ds.drop (j*R.n)).take R.n))).run P w = .ok q w)∧(q=true↔x[j]=y[j]):=by
     by_cases hxy:x[j]=y[j]
     ·refine ⟨true,fun w=>?_,by simp [hxy]⟩;obtain ⟨q,hq,hqi⟩:=hR k hk' m _ _ _ _ w hpx hpy;rw [hq,hqi.2 hxy]
     ·refine ⟨false,fun w=>?_,by simp [hxy]⟩;obtain ⟨q,hq,hqi⟩:=hR k hk' m _ _ _ _ w hpx hpy
      cases q with
      | true=>exact absurd (hqi.1 rfl) hxy
      | false=>exact hq
    obtain ⟨q,hq,hqi⟩:=hq
    cases q with
    | true=>
     refine ⟨b,fun w=>?_,?_⟩
     ·rw [List.range'_succ,List.forIn_cons]
      simp only [Sem.run_bind,h1,h2,hq,Result.andThen_ok,Bool.not_true,Bool.false_eq_true,if_false,Sem.run_pure]
      exact hb w
     ·rw [hiff]
      constructor
      ·intro h i hi hji
       by_cases hij:i=j
       ·subst hij; exact hqi.1 rfl
       ·exact h i hi (by omega)
      ·intro h i hi hji; exact h i hi (by omega)
    | false=>
     refine ⟨false,fun w=>?_,?_⟩
     ·rw [List.range'_succ,List.forIn_cons]
      simp only [Sem.run_bind,h1,h2,hq,Result.andThen_ok,Bool.not_false,if_true,Sem.run_pure]
      rfl
     ·constructor
      ·intro h; cases h
      ·intro h; exact hqi.2 (h j hjN (Nat.le_refl _))
  obtain ⟨b,hb,hiff⟩:=loop N 0 (by omega);refine ⟨b,?_,?_⟩
  ·have hrange:([0:N]:Std.Legacy.Range).toList=List.range' 0 N:=by simp [Std.Legacy.Range.toList]
   simp only [Op.equalIn,Sem.run_bind,run_underlying h,Result.andThen_ok,Yg,vec,hz]
   rw [Std.Legacy.Range.forIn_eq_forIn_range'];have hsz:([0:N]:Std.Legacy.Range).size=N:=by simp [Std.Legacy.Range.size]
   simp only [hsz]
   have:=hb w;rw [this]
   cases b<;>rfl
  ·rw [hiff]
   constructor
   ·intro h; ext i hi; exact h i hi (Nat.zero_le _)
   ·intro h i hi _; rw [h]
inductive EqFs (P:Program):List Field→Nat→{α:Type}→Rep α→Nat→Prop
 | one {α : Type} {f : Field} {off n : Nat} {R : Rep α} : f.offset = off → (f.name == "_") = false → tyB P f.type R.ag R.n = true → QaZ P f.type R n → EqFs P [f] off R n
 | cons {α β : Type} {f : Field} {fs : List Field} {off n : Nat} {R : Rep α} {S : Rep β} : f.offset = off → (f.name == "_") = false → tyB P f.type R.ag R.n = true → QaZ P f.type R n → EqFs P fs (off + R.n) S n → EqFs P (f :: fs) off (prod R S) n
theorem EqFs.run {P:Program}{n k:Nat} (hk:n≤k){fs:List Field}{off:Nat}{R:Rep α} (h:EqFs P fs off R n) :
  ∀ {m:Mem}{xs ys cs ds:List Value}{x y:α},xs.length=off+R.n→ys.length=off+R.n→R.rel m cs x→R.rel m ds y→xs.drop off=cs→ys.drop off=ds→
   ∃b:Bool,(∀w:World,(forIn (m:=Sem) fs ((none,()):Option Bool×Unit) (fun (f:Field) (_:Option Bool×Unit)=>do
    if f.name ≠ "_" then
     let a ←part f.type xs.toArray f.offset
     let b ←part f.type ys.toArray f.offset
     let q ←Op.equalIn k f.type a b
     if (!q)=true then pure (ForInStep.done (some false,())) else pure (ForInStep.yield (none,()))
    else pure (ForInStep.yield (none,())))).run P w = .ok (if b then (none,()) else (some false,())) w)∧(b=true↔x=y):=by
 induction h with
 | @one α f off n R ho hnm hT hE=>
  intro m xs ys cs ds x y hxl hyl hx hy hxd hyd;have hne : f.name ≠ "_" := by simpa using hnm
  have h1:∀w:World,(part f.type xs.toArray f.offset).run P w = .ok (Yg R.ag cs) w:=fun w=>by
   have:=qw (cs:=xs) (off:=f.offset) hT R.one (by rw [hxl,ho]; exact Nat.le_refl _) w;rw [this,ho,hxd,List.take_of_length_le (Nat.le_of_eq (R.len hx))]
  have h2:∀w:World,(part f.type ys.toArray f.offset).run P w = .ok (Yg R.ag ds) w:=fun w=>by
   have:=qw (cs:=ys) (off:=f.offset) hT R.one (by rw [hyl,ho]; exact Nat.le_refl _) w;rw [this,ho,hyd,List.take_of_length_le (Nat.le_of_eq (R.len hy))]
  by_cases hxy:x=y
  ·refine ⟨true,fun w=>?_,by simp [hxy]⟩;obtain ⟨q,hq,hqi⟩:=hE k hk m _ _ _ _ w hx hy;rw [hqi.2 hxy] at hq
   simp only [List.forIn_cons,List.forIn_nil,hne,ne_eq,not_false_iff,if_true,Sem.run_bind,h1,h2,hq,Result.andThen_ok,Bool.not_true,Bool.false_eq_true,if_false,Sem.run_pure]
  ·refine ⟨false,fun w=>?_,by simp [hxy]⟩;obtain ⟨q,hq,hqi⟩:=hE k hk m _ _ _ _ w hx hy;have hq0:q=false:=by
    cases q with
    | true=>exact absurd (hqi.1 rfl) hxy
    | false=>rfl
   rw [hq0] at hq
   simp only [List.forIn_cons,List.forIn_nil,hne,ne_eq,not_false_iff,if_true,Sem.run_bind,h1,h2,hq,Result.andThen_ok,Bool.not_false,Sem.run_pure,Bool.false_eq_true,if_false]
 | @cons α β f fs off n R S ho hnm hT hE _ ih=>
  intro m xs ys cs ds x y hxl hyl hx hy hxd hyd;have hne : f.name ≠ "_" := by simpa using hnm
  obtain ⟨c1,c2,hc,hx1,hx2⟩:=hx;obtain ⟨d1,d2,hd,hy1,hy2⟩:=hy;have hpn:(prod R S).n=R.n+S.n:=rfl;rw [hpn] at hxl hyl;have lc:=R.len hx1;have ld:=R.len hy1;have h1:∀w:World,(part f.type xs.toArray f.offset).run P w = .ok (Yg R.ag c1) w:=fun w=>by
   have:=qw (cs:=xs) (off:=f.offset) hT R.one (by rw [hxl,ho]; omega) w;rw [this,ho,hxd,hc,List.take_left' lc]
  have h2:∀w:World,(part f.type ys.toArray f.offset).run P w = .ok (Yg R.ag d1) w:=fun w=>by
   have:=qw (cs:=ys) (off:=f.offset) hT R.one (by rw [hyl,ho]; omega) w;rw [this,ho,hyd,hd,List.take_left' ld]
  obtain ⟨b,hb,hbi⟩:=ih hk (m:=m) (xs:=xs) (ys:=ys) (cs:=c2) (ds:=d2) (x:=x.2) (y:=y.2) (by omega) (by omega) hx2 hy2
   (by rw [←List.drop_drop,hxd,hc,←lc,List.drop_left]) (by rw [←List.drop_drop,hyd,hd,←ld,List.drop_left])
  by_cases hxy:x.1=y.1
  ·refine ⟨b,fun w=>?_,?_⟩
   ·obtain ⟨q,hq,hqi⟩:=hE k hk m _ _ _ _ w hx1 hy1;rw [hqi.2 hxy] at hq;rw [List.forIn_cons]
    simp only [hne,ne_eq,not_false_iff,if_true,Sem.run_bind,h1,h2,hq,Result.andThen_ok,Bool.not_true,Bool.false_eq_true,if_false,Sem.run_pure]
    exact hb w
   ·rw [hbi]
    constructor
    ·intro h; exact Prod.ext hxy h
    ·intro h; rw [h]
  ·refine ⟨false,fun w=>?_,?_⟩
   ·obtain ⟨q,hq,hqi⟩:=hE k hk m _ _ _ _ w hx1 hy1;have hq0:q=false:=by
     cases q with
     | true=>exact absurd (hqi.1 rfl) hxy
     | false=>rfl
    rw [hq0] at hq;rw [List.forIn_cons]
    simp only [hne,ne_eq,not_false_iff,if_true,Sem.run_bind,h1,h2,hq,Result.andThen_ok,Bool.not_false,Sem.run_pure,Bool.false_eq_true,if_false]
   ·constructor
    ·intro h; cases h
    ·intro h; exact absurd (by rw [h]) hxy
theorem QbT {P:Program}{T n:Nat}{fs:Array Field}{R:Rep α} (h:P.underlying T=some (.struct fs)) (hs:P.stoodInHeld T=false) (ha:R.ag=true) (hF:EqFs P fs.toList 0 R n):QaZ P T R (n+1):=by
 intro k hk m cs ds x y w hx hy
 match k,hk with
 | k+1,hk=>
  obtain ⟨b,hb,hbi⟩:=hF.run (k:=k) (by omega) (xs:=cs) (ys:=ds) (by simpa using R.len hx) (by simpa using R.len hy) hx hy rfl rfl;refine ⟨b,?_,hbi⟩
  simp only [Op.equalIn,Sem.run_bind,run_underlying h,Result.andThen_ok,Yg,ha,run_program,hs,Bool.false_eq_true,if_false]
  rw [←Array.forIn_toList];have:=hb w;have e2:=congrArg (fun r=>Result.andThen r (fun (a:Option Bool×Unit) w'=>Sem.run P (match a.fst with | some r=>pure r | none=>pure true:Sem Bool) w')) this;refine Eq.trans ?_ (Eq.trans e2 (by cases b<;>rfl))
  congr 3
  all_goals (first | (funext f s; by_cases hnm : f.name = "_" <;> simp [hnm]; done) | (funext p q; rcases p with ⟨_ | _, _⟩ <;> rfl))
def Qn4 (P:Program) (T:TypeId):Bool:=!(P.eqGuardType P.depth T)
theorem Qcx {T yt:TypeId}{x y:Operand}{R:Rep α}{p q:α} [DecidableEq α]{n:Nat} (hE:QaZ c.P T R n) (hn:n≤10000) (ha:R.ag=true) (hG:Qn4 c.P T=true) (hx:Has Γ x (R.slot p)) (hy:Has Γ y (R.slot q)) :
  PJ c ⟨od, .binOp .eql T x y yt,ty,pos,aft,g⟩ Γ H (bl.slot (decide (p=q))):=
 Yq hx hy fun m u v w hu hv=>by
  simp only [Rep.slot,Rep.is,ha] at hu hv
  obtain ⟨cs,rfl,hr⟩:=hu;obtain ⟨ds,rfl,hs⟩:=hv;obtain ⟨b,hb,hbi⟩:=hE 10000 hn m cs ds p q w hr hs
  simp only [Yg,ha] at hb
  have hg:(c.P.eqGuardType c.P.depth T)=false:=by simpa [Qn4] using hG
  refine ⟨.bool b,?_,U7.2 (by congr 1; rw [Bool.eq_iff_iff,hbi]; simp)⟩;have e1:(eqGuard .eql T x y (.agg cs.toArray) (.agg ds.toArray)).run c.P w = .ok () w:=by
   simp only [eqGuard,Bool.not_true,Bool.false_eq_true,if_false,Sem.run_bind,run_program,Result.andThen_ok,hg,Bool.not_false,if_true,Sem.run_pure]
  rw [Sem.run_bind,e1,Result.andThen_ok]
  simp only [binOp,Op.equal,Op.maxDepth,Sem.run_bind,hb,Result.andThen_ok,Sem.run_pure]
theorem QoM {T yt:TypeId}{x y:Operand}{R:Rep α}{p q:α} [DecidableEq α]{n:Nat} (hE:QaZ c.P T R n) (hn:n≤10000) (ha:R.ag=true) (hG:Qn4 c.P T=true) (hx:Has Γ x (R.slot p)) (hy:Has Γ y (R.slot q)) :
  PJ c ⟨od, .binOp .neq T x y yt,ty,pos,aft,g⟩ Γ H (bl.slot (!decide (p=q))):=
 Yq hx hy fun m u v w hu hv=>by
  simp only [Rep.slot,Rep.is,ha] at hu hv
  obtain ⟨cs,rfl,hr⟩:=hu;obtain ⟨ds,rfl,hs⟩:=hv;obtain ⟨b,hb,hbi⟩:=hE 10000 hn m cs ds p q w hr hs
  simp only [Yg,ha] at hb
  have hg:(c.P.eqGuardType c.P.depth T)=false:=by simpa [Qn4] using hG
  refine ⟨.bool (!b),?_,U7.2 (by congr 2; rw [Bool.eq_iff_iff,hbi]; simp)⟩;have e1:(eqGuard .neq T x y (.agg cs.toArray) (.agg ds.toArray)).run c.P w = .ok () w:=by
   simp only [eqGuard,Bool.not_true,Bool.false_eq_true,if_false,Sem.run_bind,run_program,Result.andThen_ok,hg,Bool.not_false,if_true,Sem.run_pure]
  rw [Sem.run_bind,e1,Result.andThen_ok]
  simp only [binOp,Op.equal,Op.maxDepth,Sem.run_bind,hb,Result.andThen_ok,Sem.run_pure]
theorem qJ {P:Program}{T E:TypeId} (h:P.underlying T=some (.pointer E)) (a:Option Addr) (w:World) :
  (binOp .eql T (.pointer a) (.pointer none)).run P w = .ok (.bool a.isNone) w∧(binOp .neq T (.pointer a) (.pointer none)).run P w = .ok (.bool (!a.isNone)) w:=by
 have key:∀n,(Op.equalIn (n+1) T (.pointer a) (.pointer none)).run P w = .ok a.isNone w:=by
  intro n
  cases a with
  | none=>simp only [Op.equalIn,Sem.run_bind,run_underlying h,Result.andThen_ok,Sem.run_pure]
  | some a=>simp only [Op.equalIn,Sem.run_bind,run_underlying h,Result.andThen_ok,Sem.run_pure]; rfl
 have h2:=key 9999
 constructor<;>(simp only [binOp,Op.equal,Op.maxDepth,Sem.run_bind,h2,Result.andThen_ok,Sem.run_pure])
theorem Qaq {T yt E:TypeId}{x:Operand}{R:Rep α}{p:Option α} (hT:c.P.underlying T=some (.pointer E)) (hx:Has Γ x ((ptr R).slot p)) :
  PJ c ⟨od, .binOp .eql T x (.const (.pointer none)) yt,ty,pos,aft,g⟩ Γ H (bl.slot p.isNone):=
 Yq hx (QeM (v:= .pointer none)) fun m u v w hu hv=>by
  cases hv
  cases p with
  | none=>
   simp only [Rep.slot,Rep.is,ptr] at hu; simp only [List.cons.injEq,and_true] at hu; subst hu
   exact ⟨_,by simp only [Sem.run_bind,eqGuard_at_pointer,Sem.run_pure,Result.andThen_ok]; exact (qJ hT none w).1,U7.2 rfl⟩
  | some p=>
   obtain ⟨b,o,ds,e,_⟩:=hu
   simp only [List.cons.injEq,and_true] at e; subst e
   exact ⟨_,by simp only [Sem.run_bind,eqGuard_at_pointer,Sem.run_pure,Result.andThen_ok]; exact (qJ hT _ w).1,U7.2 rfl⟩
theorem Z4 {T yt E:TypeId}{x:Operand}{a0:Option Addr} (hT:c.P.underlying T=some (.pointer E)) (hx:Has Γ x (val (.pointer a0))) :
  PJ c ⟨od, .binOp .eql T x (.const (.pointer none)) yt,ty,pos,aft,g⟩ Γ H (bl.slot a0.isNone):=
 Yq hx (QeM (v:= .pointer none)) fun m u v w hu hv=>by
  cases hu; cases hv
  exact ⟨_,by simp only [Sem.run_bind,eqGuard_at_pointer,Sem.run_pure,Result.andThen_ok]; exact (qJ hT a0 w).1,U7.2 rfl⟩
theorem Qf8 {T yt E:TypeId}{x:Operand}{a0:Option Addr} (hT:c.P.underlying T=some (.pointer E)) (hx:Has Γ x (val (.pointer a0))) :
  PJ c ⟨od, .binOp .neq T x (.const (.pointer none)) yt,ty,pos,aft,g⟩ Γ H (bl.slot (!a0.isNone)):=
 Yq hx (QeM (v:= .pointer none)) fun m u v w hu hv=>by
  cases hu; cases hv
  exact ⟨_,by simp only [Sem.run_bind,eqGuard_at_pointer,Sem.run_pure,Result.andThen_ok]; exact (qJ hT a0 w).2,U7.2 rfl⟩
theorem QiP {DT ST T b lo n cap N:Nat}{x y:Operand}{R:Rep α}{v:Vector α N}{xs:List α} (hx:Has Γ x (val (.slice (some ⟨b,lo*R.n,none⟩) n cap))) (hk:Pick H (box b T (vec N R) v) H') (hy:Src c Γ H y R xs) (hlo:lo+n≤N)
  (hT:slB c.P DT R.n=true) (hN:Nat.blt d c.N=true)
  (k:J9 c full l ((d,i64.slot ((min xs.length n:Nat):Int))::Γ) (box b T (vec N R) (QjN v lo (xs.take n))::H') K) :
  J9 c full (⟨some d, .call {callee:= .builtin .copy,args:=#[x,y],argTypes:=#[DT,ST]},ty,pos,aft,none⟩::l) Γ H K:=by
 refine Qbd rfl ?_ k;intro m hs a w hg _ hsat he hn;have ex:a.eval x=_:=hx m a (he.opd x);obtain ⟨a0,cap0,ey,hsrc⟩:=hy m hs a w hg hsat (he.opd y);obtain ⟨g1,g2,hpm,⟨cs,hcs,hr⟩,hs2⟩:=hsat.pick hk;subst hcs;have hg':=hg.perm hpm;obtain ⟨e,hu,hsz⟩:=Qbk hT;have hsize:=UC hsz w;obtain ⟨row,hrun1,hrow,hrun2⟩:=Src.run (P:=c.P) (R:=R) (cap:=cap0) hsrc (min xs.length n) (Nat.min_le_left _ _);have hrl:=hrow.length;have htl:(xs.take (min xs.length n)).length=min xs.length n:=by rw [List.length_take,Nat.min_eq_left (Nat.min_le_left _ _)]
 have htake:xs.take (min xs.length n)=xs.take n:=by
  rcases Nat.le_total xs.length n with h | h
  ·rw [Nat.min_eq_left h,List.take_length,List.take_of_length_le h]
  ·rw [Nat.min_eq_right h]
 have hcl:=(vec N R).len hr;have hvn:(vec N R).n=N*R.n:=rfl;have hlen:lo*R.n+row.length≤cs.length:=by
  rw [hrl,htl,hcl,hvn,←Nat.add_mul];exact Nat.mul_le_mul_right _ (by have:=Nat.min_le_right xs.length n; omega)
 have hst:=UJ (P:=c.P) (b:=b) (o:=lo*R.n) (T:=T) row 0 cs w hrow.cell (hg'.blk (b,T,cs) (by simp)) (by simpa using hlen)
 simp only [Nat.add_zero] at hst
 have hfc:(Builtin.firstCells R.n (min xs.length n) (.slice a0 xs.length cap0)).run c.P w = .ok row.toArray w:=hrun2;have hcopy:(Builtin.copy_ #[DT,ST] ty #[.slice (some ⟨b,lo*R.n,none⟩) n cap, .slice a0 xs.length cap0]).run c.P w = .ok (goInt ((min xs.length n:Nat):Int)) (setBlk w b T (cs.take (lo*R.n)++row++cs.drop (lo*R.n+row.length))):=by
  simp only [Builtin.copy_,List.getElem?_toArray,List.getElem?_cons_zero,List.getElem?_cons_succ]
  simp only [Sem.run_bind,run_underlying hu,Result.andThen_ok,Builtin.lenOf,Sem.run_pure,hsize]
  have e3:Nat.min xs.length n=min xs.length n:=rfl;rw [e3]
  simp only [hfc,Result.andThen_ok,Sem.run_bind,hst,Sem.run_pure]
 have hrun:(execOp a.eval ⟨some d, .call {callee:= .builtin .copy,args:=#[x,y],argTypes:=#[DT,ST]},ty,pos,aft,none⟩).run c.P w = .ok (.value (goInt ((min xs.length n:Nat):Int))) (setBlk w b T (cs.take (lo*R.n)++row++cs.drop (lo*R.n+row.length))):=by
  simp only [execOp,resolve,Sem.run_bind,Sem.run_pure,Result.andThen_ok,invoke,builtin]
  simp only [List.map_toArray,List.map_cons,List.map_nil,ex,ey,hcopy,Result.andThen_ok]
 rw [hrun];refine ⟨m,(b,T,cs.take (lo*R.n)++row++cs.drop (lo*R.n+row.length))::g2,hg'.setBlk _,he.put (by rw [hn]; simpa [Nat.blt_eq] using hN) (Yu.2 rfl),⟨[_],g2,rfl,⟨_,rfl,?_⟩,hs2⟩,Frm.ofPerm hpm (Frm.setBlk (by simp [Hp.bs]))⟩;show Zm R m _ (QjN v lo (xs.take n)).toList;have hle2:lo+(xs.take n).length≤N:=by rw [List.length_take]; have:=Nat.min_le_left n xs.length; omega
 rw [Qer v lo _ hle2,←htake];have hr':Zm R m cs v.toList:=hr;have h1:=Zm.take lo hr';have h2:=Zm.drop (lo+(xs.take (min xs.length n)).length) hr';have e4:lo*R.n+row.length=(lo+(xs.take (min xs.length n)).length)*R.n:=by rw [hrl,Nat.add_mul]
 rw [e4];exact (h1.append hrow).append h2
end
end Go.Sl
namespace Go.Sl
theorem Q7 (b:Bool):b=true∨b=false:=by cases b<;>simp
theorem Qg6 {e want:Bool} (h:e=want):∀(m:Mem) (v:Value),(bl.slot e).p m v→v = .bool want:=fun _ _ hv=>h▸U7.1 hv
theorem QoI {e want:Bool} (h:e=want):(e==want)=true:=by simp [h]
theorem Qoh {e want:Bool} (h:e=!want):(e==want)=false:=by subst h; cases want<;>rfl
theorem VR {α:Type}{n:Nat}{v:Vector α n}{i:Int}{x:α} (h:KI v i=some x) (hi:i.toNat < n):v[i.toNat]=x:=(Jf h).2.2
theorem VQ {α:Type}{n:Nat}{v:Vector α n}{i:Int}{x:α} (h:KI v i=some x):i < (n:Int):=by obtain ⟨h0,h1,_⟩:=Jf h; omega
theorem Wj {α:Type}{l:List α}{i:Int}{x:α} (h:JU l i=some x) (hi:i.toNat < l.length):l[i.toNat]=x:=(Q0 h).2.2
theorem Ux {i:Int}{n:Nat} (h:0≤i∧i < (n:Int)):i.toNat < n:=by omega
section
variable {α β : Type}
theorem Path.eqs {R:Rep α}{off:Nat}{S:Rep β}{get:α→β}{set set':α→β→α} (h:Path R off S get set) (e:∀x y,set x y=set' x y):Path R off S get set':=
 ⟨h.fits,h.get_ok,fun hr hd=>by rw [←e]; exact h.set_ok hr hd⟩
theorem Path.atI (n:Nat) (R:Rep α) (i:Nat) (hi:i < n):Path (vec n R) (i*R.n) R (fun x=>x[i]) (fun x y=>x.setIfInBounds i y):=
 (Path.at n R i hi).eqs fun x y=>by
  apply Vector.ext; intro j hj; simp [Vector.getElem_set,Vector.getElem_setIfInBounds]
theorem YE : KH (exv (.slice none 0 0)) () [.slice none 0 0]:=fun _=>⟨rfl,rfl⟩
theorem QaZ.mono {P:Program}{T:TypeId}{R:Rep α}{n n':Nat} (hn:n≤n') (h:QaZ P T R n):QaZ P T R n':=fun k hk=>h k (Nat.le_trans hn hk)
variable {c : Ctx} {full : Array Oper} {l : List Oper} {Γ Γ' : Env} {H H' : List Ent} {K : Act → World → Prop} {d : Tmp} {od : Option Tmp} {ty : TypeId} {pos : String} {aft : Array Edge} {g : Option (Nat × Bool)}
theorem QlC : Has Γ (.const (.slice none 0 0)) (ov (.slice none 0 0)):=fun _ _ _=>qo
theorem QlS {o:Oper}{j t:Nat}{want:Bool}{s s':Slot} (h:PJ c o Γ H s) (hg:o.guard=some (j,want)) (hj:(full[j]?).bind (·.dst)=some t) (hNt:Nat.blt t c.N=true) (hl:lk Γ t=some s')
  (hb:∀m v,s'.p m v→v = .bool want) (hd:o.dst=some d) (hN:Nat.blt d c.N=true) (k:J9 c full l ((d,s)::Γ) H K):J9 c full (o::l) Γ H K:=
 Qeh hg hj hNt hl hb (QcK (o:={o with guard:=none}) (d:=d) (s:=s) (fun m hs a w h1 h2 h3 h4=>h m hs a w h1 h2 h3 h4) rfl hd hN k)
theorem Ji {ι:Type}{Γ':ι→Env}{H':ι→List Ent} (n:Nat) (hJ:∀i,J9 c full (l.drop n) (Γ' i) (H' i) K) (h:(∀i,J9 c full (l.drop n) (Γ' i) (H' i) K)→J9 c full l Γ H K):J9 c full l Γ H K:=h hJ
theorem Q4 (h1:SubE Γ Γ') (h2:Keep H H') (k:J9 c full l Γ' H' K):J9 c full l Γ H K:=Qpe h1 (Qnl h2 k)
theorem QJ {T:TypeId} (R:Rep α) (hN:Nat.blt d c.N=true) (k:∀v,J9 c full l ((d,ov v)::Γ) (own T R v []::H) K) :
  J9 c full (⟨some d, .assign (.const (.slice none 0 0)),ty,pos,aft,none⟩::l) Γ H K:=
 VX T R none (QcK (Qeg QlC) rfl rfl hN (k _))
theorem Yx {T T0:TypeId}{x y:Operand}{b off:Nat}{R:Rep α}{S:Rep β}{r r':α}{z:β}{get:α→β}{set:α→β→α} (hx:Has Γ x (val (.pointer (some ⟨b,off,none⟩))))
  (hy:Has Γ y (S.slot z)) (hk:Pick H (box b T0 R r) H') (hp:Path R off S get set) (hT:szB c.P T S.n=true) (e:set r z=r')
  (k:J9 c full l Γ (box b T0 R r'::H') K):J9 c full (⟨none, .store T x y,ty,pos,aft,none⟩::l) Γ H K:=Qh6 hx hy hk hp hT (e▸k)
theorem Qev {T T0:TypeId}{x y:Operand}{b:Nat}{v v':Value}{S:Rep β}{s:β} (hx:Has Γ x (val (.pointer (some ⟨b,0,none⟩))))
  (hy:Has Γ y (ov v')) (hk:Pick H (box b T0 (prod (exv v) S) ((),s)) H') (hT:szB c.P T 1=true)
  (k:J9 c full l Γ (box b T0 (prod (exv v') S) ((),s)::H') K):J9 c full (⟨none, .store T x y,ty,pos,aft,none⟩::l) Γ H K:=by
 refine Qbd rfl ?_ k;intro m hs a w hg _ hsat he hn;have e:a.eval x=_:=hx m a (he.opd x);obtain ⟨ey,h1'⟩:=Bv.1 (hy m a (he.opd y));obtain ⟨h1,h2,hpm,⟨cs,rfl,c1,d1,rfl,hc1,hd1⟩,hs2⟩:=hsat.pick hk;have hg':=hg.perm hpm;obtain ⟨rfl,_⟩:=hc1;have hc:(a.eval y).cells = [v'].toArray:=by rw [ey]; exact WN h1'
 have hrun:(execOp a.eval ⟨none, .store T x y,ty,pos,aft,none⟩).run c.P w = .ok .skip (setBlk w b T0 (([v]++d1).take 0++ [v']++([v]++d1).drop (0+1))):=by
  simp only [execOp,e,Sem.run_bind,UT (o:=0) (cs:= [v]++d1) (ds:= [v']) hT hc rfl (by simpa using h1') (hg'.blk (b,T0, [v]++d1) (by simp)) (by simp)]
  rfl
 rw [hrun];refine ⟨m,(b,T0,_)::h2,hg'.setBlk _,he,⟨[_],h2,rfl,⟨_,rfl, [v'],d1,by simp,⟨rfl,h1'⟩,hd1⟩,hs2⟩,?_⟩;exact Frm.ofPerm hpm (Frm.setBlk (by simp [Hp.bs]))
theorem Qc6 {T T1:TypeId}{S:Rep β}{s:β}{y:Operand} (R:Rep α) (hy:Has Γ y ((prod (exv (.slice none 0 0)) S).slot ((),s))) (hN:Nat.blt d c.N=true)
  (k:∀b v,J9 c full l ((d,val (.pointer (some ⟨b,0,none⟩)))::Γ) (own T1 R v []::box b T (prod (exv v) S) ((),s)::H) K):J9 c full (⟨some d, .box T y,ty,pos,aft,none⟩::l) Γ H K:=
 qQ hy hN fun b=>VX T1 R none (k b _)
theorem Qju {T:TypeId}{n:Nat}{R:Rep α}{y:α} (h:∀m,c.G.p m→GAt n R y m) (hT:tyB c.P T R.ag R.n=true):PJ c ⟨od, .load T (.global n),ty,pos,aft,g⟩ Γ H (R.slot y):=QfD h hT
theorem QbM {T n N:Nat}{y:Operand}{R:Rep α}{v:Vector α N}{i:Int}{s:Slot}{z:α} (hG:∀m,c.G.p m→GAt n (vec N R) v m) (hy:Has Γ y s) (hs:Um s i) (h:KI v i=some z) (hT:Qcs c.P T N R.n=true) :
  PJ c ⟨od, .indexAddr T (.global n) y,ty,pos,aft,g⟩ Γ H (QZ R z):=by
 obtain ⟨h0,h1,rfl⟩:=Jf h;refine XC fun m hs2 a w hg hGm _ ho=>?_;obtain ⟨ds,hr,hat⟩:=hG m hGm;obtain ⟨k,ek⟩:=hs m _ (hy m a (ho y (by simp [Op.operands])));have e:a.eval (.global n) = .pointer (some ⟨n,0,none⟩):=rfl;exact ⟨_,by simp only [execOp,e,ek,Sem.run_bind,BF hT n 0 k h0 (show i < (N:Int) by omega)]; rfl,n,_,_,rfl,(Path.at N R i.toNat h1).get_ok hr,hat.mid _ _⟩
theorem VT {T n sz b lo:Nat}{x:Operand}{lo' hi':Option Operand}{p q:Option Int} (hx:Has Γ x (val (.pointer (some ⟨b,0,none⟩)))) (hlo:OptI Γ lo' p) (hhi:OptI Γ hi' q) (len cap:Nat)
  (h:(decide (0≤p.getD 0)&&decide (p.getD 0≤q.getD n)&&decide (q.getD n≤n)&&decide (p.getD 0 < n)&&Nat.beq (p.getD 0).toNat lo&&Nat.beq ((q.getD n).toNat - lo) len&&Nat.beq (n - lo) cap)=true) (hT:Qcs c.P T n sz=true) :
  PJ c ⟨od, .slice T x lo' hi' none,ty,pos,aft,g⟩ Γ H (val (.slice (some ⟨b,lo*sz,none⟩) len cap)):=by
 simp only [Bool.and_eq_true,decide_eq_true_eq] at h
 obtain ⟨⟨⟨⟨⟨⟨h0,h1⟩,h2⟩,h3⟩,h4⟩,h5⟩,h6⟩:=h;have h4:=Nat.eq_of_beq_eq_true h4;have h5:=Nat.eq_of_beq_eq_true h5;have h6:=Nat.eq_of_beq_eq_true h6;subst h4;have:=QgW (c:=c) (Γ:=Γ) (H:=H) (d:=od) (ty:=ty) (pos:=pos) (aft:=aft) (g:=g) hx hlo hhi h0 h1 h2 h3 hT;rw [Nat.zero_add,h5,h6] at this;exact this
theorem PJ.eqs {o:Oper}{s s':Slot} (h:PJ c o Γ H s) (e:s=s'):PJ c o Γ H s':=e▸h
theorem QbY {f:FuncId}{args:List Operand}{ats:Array TypeId}{A:List Slot}{T:TypeId}{R:Rep α}{xs:List α} (hA:QbC c Γ H args A) (hf:WE c.P f=true)
  (hC:Ctr c.P c.G f A [] (fun v:Value=>ov v) (fun v=> [own T R v xs])) (hR:R.flat):PJ c ⟨od, .call {callee:= .value (.func f),args:=args.toArray,argTypes:=ats},ty,pos,aft,g⟩ Γ H ((sl R).slot xs):=by
 intro m hs2 a w hg hG hsat ho;rw [WU hf a.eval (.func f) rfl];have hall:=hA.all (m:=m) (a:=a) hg hsat (fun y hy=>ho y (by simp [Op.operands,Call.operands,hy]));refine (hC (ext m hs2) w (args.map a.eval) [] hg.ext (c.G.mono (WW hg) hG) hall rfl).mono ?_;rintro e w' ⟨v,m',hs',i,rfl,hg',hv,⟨h1,h2,rfl,ho',h2e⟩,hf'⟩
 cases h2e
 obtain ⟨k1,k2⟩:=Qot hg hg' hf';have hv':v=i:=(Bv.1 hv).1;subst hv';have k2':Frm w w' m (cut m' m hs2.bs) hs2.bs (Hp.bs (h1++hs2)):=by simpa using k2
 have k1':Zk (cut m' m hs2.bs) (h1++hs2) w':=by simpa using k1
 obtain ⟨m2,hle,hg2,hv2,hf2,hoth⟩:=own.froze (Qdc hR _ _ _ _ _ ho') k1' k2';refine ⟨v,rfl,m2,hg2,hv2,?_⟩;refine {hf2 with old:=fun b hb _=>?_,own:=fun b hb=>by cases hb}
 by_cases hbb:b∈hs2.bs
 ·refine ⟨(hf'.old b hb (by simp [Hp.bs])).1,fun o=>?_⟩;have hb1:b∉h1.bs:=by
   intro e;have:=k1'.nodup;rw [Hp.bs_append,List.nodup_append] at this;exact this.2.2 b e b hbb rfl
  rw [hoth b hb1 o]
  simp only [cut,if_pos hbb]
 ·exact hf2.old b hb hbb
end
section
variable {c : Ctx} {Γ Γ' : Env} {H H' : List Ent} {Q : Exit → Act → World → Prop} {k k' : List Code} {id id' : Nat} {n : Act → World → Prop}
theorem Jc (h1:SubE Γ Γ') (h2:Keep H H') (r:Run c Q k Γ' H'):Run c Q k Γ H:=QnN h1 (Yw h2 r)
theorem Qs (h:Run c Q k Γ H):Run c (BQ id (Qac c.ro c.P Q k) Q) [] Γ H:=X8 fun a w hst=>h a w hst
theorem KZ (h:∀Qf:Act→World→Prop,(∀a w,Qf a w→Q .ret a w)→(∀a w,Q .ret a w→Qf a w)→Run c Q k Γ H):Run c Q k Γ H:=h (Q .ret) (fun _ _ h=>h) (fun _ _ h=>h)
theorem Up {ι:Type}{x:Code}{Γ':ι→Env}{H':ι→List Ent} (hJ:∀i,Run c Q k (Γ' i) (H' i)) (h:(∀i,Run c Q k (Γ' i) (H' i))→Run c Q (x::k) Γ H):Run c Q (x::k) Γ H:=h hJ
section
variable {σ ρ ι : Type} {Γi : ι → σ → Env} {Hi : ι → σ → List Ent} {R : ρ → Act → World → Prop}
theorem Q2 {s:σ} (i:ι) (h1:SubE Γ (Γi i s)) (h2:Keep H (Hi i s)):Run c (LQ id (fun s a w=>∃i,St c (Γi i s) (Hi i s) a w) R (.next s)) [] Γ H:=
 X8 fun a w hst=>⟨rfl,i,(hst.sub h1).keep h2⟩
theorem Jg {s:σ} (i:ι) (h1:SubE Γ (Γi i s)) (h2:Keep H (Hi i s)):Run c (LQ id (fun s a w=>∃i,St c (Γi i s) (Hi i s) a w) R (.brk s)) (.exit id::k) Γ H:=
 Qdm fun a w hst=>⟨rfl,i,(hst.sub h1).keep h2⟩
theorem Q9 {f:σ→Option (LR σ Empty)}{m:Nat}{body:Code}{s0 s1:σ} (hl:Jd f m s0=some s1)
  (i0:ι) (h0:∀a w,St c Γ H a w→St c (Γi i0 s0) (Hi i0 s0) a w)
  (step:∀i s r,f s=some r→Run c (LQ id (fun s a w=>∃i,St c (Γi i s) (Hi i s) a w) (fun (_:Empty) _ _=>True) r) [body] (Γi i s) (Hi i s))
  (h1:∀i,Run c Q k (Γi i s1) (Hi i s1)):Run c Q (.block id (.loop body)::k) Γ H:=by
 obtain ⟨o,ho,hs⟩:=Qjm hl;refine VO (Γi:=Γi) (Hi:=Hi) ho i0 h0 step ?_ (fun x=>x.elim);rintro i s rfl
 cases hs
 exact h1 i
end
end
end Go.Sl
namespace Go.Sl
def QjO (m:Mem) (hs:Hp):Prop:=∀h∈hs,At m h.1 0 h.2.2
def lnt (E:List Ent) (s:Slot):Slot where
 p:=fun m v=>∀m' hs,Mle m m'→Sat E m' hs→QjO m' hs→s.p m' v
 mono:=fun hm h m' hs h1 h2 h3=>h m' hs (hm.trans h1) h2 h3
section
variable {α β : Type} {c : Ctx} {Γ : Env} {H H' : List Ent} {E E' : List Ent} {od : Option Tmp} {ty : TypeId} {pos : String} {aft : Array Edge} {g : Option (Nat × Bool)}
theorem Qnw {x:Operand}{s:Slot} (h:Has Γ x s):Has Γ x (lnt E s):=fun m a ho m' hs h1 _ _=>s.mono h1 (h m a ho)
theorem QhE {x:Operand}{T b lo n cap N:Nat}{R:Rep α}{v:Vector α N} (hx:Has Γ x (val (.slice (some ⟨b,lo*R.n,none⟩) n cap))) (hk:Pick E (box b T (vec N R) v) E') (hn:lo+n≤N) (hc:n≤cap) :
  Has Γ x (lnt E ((sl R).slot ((v.toList.drop lo).take n))):=by
 intro m a ho m' hs h1 h2 h3;have e:a.eval x=_:=hx m a ho;rw [e];obtain ⟨g1,g2,hpm,⟨cs,rfl,hr⟩,_⟩:=h2.pick hk;have hat:At m' b 0 cs:=h3 (b,T,cs) (hpm.mem_iff.2 (by simp));have hl:((v.toList.drop lo).take n).length=n:=by simp; omega
 have hr':Zm R m' cs v.toList:=hr;have hrow:=(hr'.drop lo).take n;refine ⟨_,cap,by rw [hl],by rw [hl]; exact hc, .inr ⟨b,lo*R.n,_,rfl,hrow,?_⟩⟩;have:=hat.mid (lo*R.n) (n*R.n)
 rwa [Nat.zero_add] at this
theorem QlO {x:Operand}{s:Slot} (h:Has Γ x (lnt E s)) (hk:Keep H E):Qhz c Γ H x s:=by
 intro m hs a w hg hsat ho;obtain ⟨r,hs',hp,q⟩:=hsat.keep hk;refine h m a ho (ext m hs) hs' (WW hg) (q.mono (WW hg)) ?_;rintro ⟨b,T,cs⟩ hb j v e;have hm:(b,T,cs)∈hs:=hp.mem_iff.2 (List.mem_append.2 (.inr hb));rw [Nat.zero_add,qT hg.nodup hm];exact e
def Qnp : Rep Value where
 n:=1
 ag:=false
 rel:=fun _ cs v=>cs = [v]∧v.oneCell'=true
 mono:=fun _ h=>h
 len:=fun h=>by rw [h.1]; rfl
 one:=fun _=>rfl
 cell:=fun h v hv=>by rw [h.1] at hv; simp at hv; subst hv; exact h.2
inductive BuildL (Γ:Env) (E:List Ent) (R:Rep α):Nat→List (Nat×Operand)→List α→Prop
 | nil {k:Nat}:BuildL Γ E R k [] []
 | cons {k:Nat}{y:Operand}{z:α}{ps:List (Nat×Operand)}{zs:List α}:Has Γ y (lnt E ((R.slot) z))→BuildL Γ E R (k+1) ps zs→BuildL Γ E R k ((k,y)::ps) (z::zs)
def exact (a:Act):List (Nat×Operand)→Env
 | []=> []
 | (_, .tmp t)::ps=>(t,val (a.tmps.getD t undef))::exact a ps
 | _::ps=>exact a ps
theorem Qhu {a:Act}{t:Nat}:∀ {ps:List (Nat×Operand)}{i:Nat},(i,Operand.tmp t)∈ps→lk (exact a ps) t=some (val (a.tmps.getD t undef))
 | (j,x)::ps,i,h=>by
  rcases List.mem_cons.1 h with e | h
  ·cases e; simp only [exact,Yc]
  ·have ih:=Qhu (a:=a) h
   cases x with
   | tmp t'=>
    by_cases ht:t'=t
    ·subst ht; simp only [exact,Yc]
    ·simp only [exact]; rw [XF ht]; exact ih
   | _=>exact ih
theorem Qlp {a:Act}{m:Mem}:∀ {ps:List (Nat×Operand)} (x:Operand),Opd (exact a ps) m a x
 | ps, .tmp t=>by
  intro s e;have:∀ps:List (Nat×Operand),lk (exact a ps) t=some s→s=val (a.tmps.getD t undef):=by
   intro ps
   induction ps with
   | nil=>intro e; simp [exact,lk] at e
   | cons p ps ih=>
    obtain ⟨j,x⟩:=p
    cases x with
    | tmp t'=>
     intro e
     by_cases ht:t'=t
     ·subst ht; simp only [exact,Yc] at e; exact (Option.some.inj e).symm
     ·simp only [exact] at e; rw [XF ht] at e; exact ih e
    | _=>intro e; exact ih e
  rw [this ps e]; rfl
 | _, .const _=>trivial
 | _, .global _=>trivial
 | _, .func _=>trivial
theorem BuildL.raw {R:Rep α} (ha:R.ag=false){k:Nat}{ps:List (Nat×Operand)}{zs:List α} (h:BuildL Γ E R k ps zs){a:Act}{m m1:Mem}{hs:Hp} (hle:Mle m m1) (hE:Sat E m1 hs) (hH:QjO m1 hs) (all:List (Nat×Operand)) (hall:∀p∈ps,p∈all) (ho:∀p∈ps,Opd Γ m a p.2) :
  BuildS (exact a all) Qnp k ps (ps.map fun p=>a.eval p.2)∧∀m' hs',Mle m m'→Sat E m' hs'→QjO m' hs'→Zm R m' (ps.map fun p=>a.eval p.2) zs:=by
 induction h with
 | nil=>exact ⟨.nil,fun _ _ _ _ _=>rfl⟩
 | @cons k y z ps zs hy _ ih=>
  obtain ⟨h1,h2⟩:=ih (fun p hp=>hall p (by simp [hp])) (fun p hp=>ho p (by simp [hp]));have hop:=ho (k,y) (by simp);have hcell:∀ {m':Mem}{v:Value},(R.slot z).p m' v→R.rel m' [v] z:=by
   intro m' v hv
   simp only [Rep.slot,Rep.is,ha] at hv; exact hv
  have h0:=hcell (hy m a hop m1 hs hle hE hH);have h1c:=R.cell h0 (a.eval y) (by simp);refine ⟨.cons (fun m' a' hop'=>?_) h1,fun m' hs' hl he hh=>⟨[a.eval y],_,rfl,hcell (hy m a hop m' hs' hl he hh),h2 m' hs' hl he hh⟩⟩;show [a'.eval y] = [a.eval y]∧(a.eval y).oneCell'=true;have e:a'.eval y=a.eval y:=by
   cases y with
   | tmp t=>exact hop' _ (Qhu (hall (k, .tmp t) (by simp)))
   | _=>rfl
  rw [e]; exact ⟨rfl,h1c⟩
theorem QkC {m:Mem}:∀ {xs cs:List Value},Zm Qnp m cs xs→cs=xs
 | [],_,h=>h
 | x::xs,_,⟨c1,cs',e,⟨e1,_⟩,q⟩=>by rw [e,e1,QkC q]; rfl
theorem Qdf {ST T n:Nat}{R:Rep α}{ps:List (Nat×Operand)}{zs:List α} (h:BuildL Γ E R 0 ps zs) (hk:Keep H E) (ha:R.ag=false) (hn:n=ps.length) (hs:Nat.ble n 16777216=true) (hT:slE c.P ST T 1=true) :
  PJ c ⟨od, .buildSlice ST n ps.toArray,ty,pos,aft,g⟩ Γ H (lnt E ((sl R).slot zs)):=by
 intro m hs2 a w hg _ hsat ho;have hop:∀p∈ps,Opd Γ m a p.2:=fun p hp=>ho p.2 (by
   simp only [Op.operands]
   simp only [List.mem_toArray,List.mem_map]
   exact ⟨p,hp,rfl⟩)
 obtain ⟨r,hs',hp,q⟩:=hsat.keep hk;obtain ⟨h1,h2⟩:=h.raw ha (a:=a) (m:=m) (WW hg) (q.mono (WW hg)) (by
  rintro ⟨b,T,cs⟩ hb j v e;have hm:(b,T,cs)∈hs2:=hp.mem_iff.2 (List.mem_append.2 (.inr hb));rw [Nat.zero_add,qT hg.nodup hm];exact e) ps (fun _ h=>h) hop
 obtain ⟨cs,hr,hrun⟩:=WI (P:=c.P) (w:=w) (R:=Qnp) (m:=m) (a:=a) (n:=n) hT (by rw [hn]; simp) (by simpa [Nat.ble_eq,Qnp] using hs) h1 (fun p _=>Qlp p.2);have hcs:=QkC hr;have e:(execOp a.eval ⟨od, .buildSlice ST n ps.toArray,ty,pos,aft,g⟩).run c.P w = .ok (.value (.slice (some ⟨w.heap.size,0,none⟩) n n)) (w.alloc (.cells cs.toArray T)):=by
  show (do let v ←Instr.buildSlice ST n (ps.toArray.map fun (p:Nat×Operand)=>(p.1,a.eval p.2)); pure (Next.value v):Sem Next).run c.P w=_;rw [Sem.run_bind,hrun]; rfl
 rw [e];have hg1:=hg.newOwn T cs;have hle:=hg1.le_put;refine ⟨m.put w.heap.size cs,hg1.freeze,?_,?_⟩
 ·intro m' hs3 hl he hh;have hrow:=h2 m' hs3 (hle.trans hl) he hh;have hlen:=hrow.length;have hR1:=R.one ha;rw [hR1,Nat.mul_one] at hlen;have hnz:n=zs.length:=by rw [hn,←hlen]; simp
  refine ⟨_,n,by rw [hnz],by omega, .inr ⟨w.heap.size,0,cs,rfl,by rw [hcs]; exact hrow,(Mem.at_put m _ cs).mono hl⟩⟩
 ·exact (Frm.alloc w m [] (.cells cs.toArray T)).freeze hle
theorem QbQ {x:Operand}{T b n cap:Nat}{R:Rep α}{v:Vector α n} (hx:Has Γ x (val (.slice (some ⟨b,0*R.n,none⟩) n cap))) (hk:Pick H (box b T (vec n R) v) H') (hc:n≤cap):Qhz c Γ H x ((sl R).slot v.toList):=by
 have:=Qh7 (c:=c) (lo:=0) hx hk (by omega) hc
 rwa [List.drop_zero,List.take_of_length_le (by simp)] at this
theorem Qhe {x:Operand}{T b n cap:Nat}{R:Rep α}{v:Vector α n} (hx:Has Γ x (val (.slice (some ⟨b,0*R.n,none⟩) n cap))) (hk:Pick E (box b T (vec n R) v) E') (hc:n≤cap):Has Γ x (lnt E ((sl R).slot v.toList)):=by
 have:=QhE (lo:=0) hx hk (by omega) hc
 rwa [List.drop_zero,List.take_of_length_le (by simp)] at this
theorem Ql7 {x:Operand}{T b n cap:Nat}{R:Rep α}{v:Vector α n} (hx:Has Γ x (val (.slice (some ⟨b,0*R.n,none⟩) n cap))) (hk:Pick H (box b T (vec n R) v) H'):Src c Γ H x R v.toList:=by
 have:=QmW (c:=c) (lo:=0) hx hk (by omega)
 rwa [List.drop_zero,List.take_of_length_le (by simp)] at this
theorem QbX : ∀s∈([]:List Slot),s.flat:=fun s h=>by cases h
theorem UO {s:Slot}{ss:List Slot} (h:s.flat) (k:∀t∈ss,t.flat):∀t∈s::ss,t.flat:=fun t ht=>(List.mem_cons.1 ht).elim (fun e=>e▸h) (k t)
theorem Qc7 {s:Slot}:∀t∈([]:List Nat),Imp Γ t s:=fun t h=>by cases h
theorem UK {s:Slot}{t:Nat}{ts:List Nat} (h:Imp Γ t s) (k:∀t∈ts,Imp Γ t s):∀u∈t::ts,Imp Γ u s:=fun u hu=>(List.mem_cons.1 hu).elim (fun e=>e▸h) (k u)
theorem Qbx {n:Nat}{R:Rep α}{x:α}{m m':Mem} (hm:Mle m m') (h:GAt n R x m):GAt n R x m':=by
 obtain ⟨cs,h1,h2⟩:=h; exact ⟨cs,R.mono hm h1,h2.mono hm⟩
theorem XK {Q:Exit→Act→World→Prop}{k:List Code}{id n:Nat}{L:List Oper}{Γ':Env}{H':List Ent} (hJ:J9 c L.toArray (L.drop n) Γ' H' (Qac c.ro c.P Q k))
  (h:J9 c L.toArray (L.drop n) Γ' H' (Qac c.ro c.P Q k)→Run c Q (.region id L.toArray true::k) Γ H):Run c Q (.region id L.toArray true::k) Γ H:=h hJ
theorem QiT {Q:Exit→Act→World→Prop}{k:List Code}{x:Operand}{A B:Code}{b:Bool} (hx:Has Γ x (bl.slot b)) (hb:b=true) (h:Run c Q (A::k) Γ H):Run c Q (.cond x A B::k) Γ H:=
 Qm hx (fun _=>h) (fun e=>by rw [hb] at e; cases e)
theorem Xi {Q:Exit→Act→World→Prop}{k:List Code}{x:Operand}{A B:Code}{b:Bool} (hx:Has Γ x (bl.slot b)) (hb:b=false) (h:Run c Q (B::k) Γ H):Run c Q (.cond x A B::k) Γ H:=
 Qm hx (fun e=>by rw [hb] at e; cases e) (fun _=>h)
end
end Go.Sl
namespace Go.Sl
def WJ (c:Ctx) (o:Oper) (Γ:Env) (H:List Ent){ι:Type} (V2:ι→Env) (H2:ι→List Ent):Prop:=
 ∀m hs a w,Zk m hs w→c.G.p m→Sat H m hs→QgH o Γ m a→a.tmps.size=c.N→
  q7 c.P (fun v w'=>∃i m' hs',Zk m' hs' w'∧Vg (V2 i) m' (a.put o.dst v)∧Sat (H2 i) m' hs'∧Frm w w' m m' hs.bs hs'.bs) ((execOp a.eval o).run c.P w)
theorem WJ.frame {c:Ctx}{o:Oper}{Γ:Env}{H:List Ent}{ι:Type}{V2:ι→Env}{H2:ι→List Ent} (E:List Ent) (h:WJ c o Γ H V2 H2):WJ c o Γ (H++E) V2 (fun i=>H2 i++E):=by
 intro m hs a w hg hG hsat ho hn;obtain ⟨h1,h2,rfl,hs1,hs2⟩:=Sat.split hsat;have hg1:Zk m h1 w:=Zk.sub (hs:=h2) (hg.perm List.perm_append_comm);refine q7.mono (h m h1 a w hg1 hG hs1 ho hn) ?_;rintro v w' ⟨i,m',h1',hg',he',hsat',hf⟩;have hnd:=hg.nodup;rw [Hp.bs_append,List.nodup_append] at hnd;have hdis:∀b∈Hp.bs h2,b∉Hp.bs h1:=fun b hb hb1=>hnd.2.2 b hb1 b hb rfl
 have hlt:∀b∈Hp.bs h2,b < w.heap.size:=fun b hb=>hg.ltb (by rw [Hp.bs_append]; exact List.mem_append.2 (.inr hb));refine ⟨i,m',h1'++h2,⟨hg'.mem,?_,?_,?_⟩,he',Sat.append hsat' (hs2.mono hf.le),?_⟩
 ·rw [Hp.bs_append,List.nodup_append];refine ⟨hg'.nodup,hnd.2.1,fun b hb b' hb' e=>?_⟩;subst e
  rcases hf.own b hb with h | h
  ·exact hdis b hb' h
  ·have:=hlt b hb'; omega
 ·intro x hx
  rcases List.mem_append.1 hx with hx | hx
  ·exact hg'.blk x hx
  ·have hb:x.1∈Hp.bs h2:=List.mem_map.2 ⟨x,hx,rfl⟩;rw [(hf.old x.1 (hlt _ hb) (hdis _ hb)).1];exact hg.blk x (List.mem_append.2 (.inr hx))
 ·intro x hx o'
  rcases List.mem_append.1 hx with hx | hx
  ·exact hg'.free x hx o'
  ·have hb:x.1∈Hp.bs h2:=List.mem_map.2 ⟨x,hx,rfl⟩;rw [(hf.old x.1 (hlt _ hb) (hdis _ hb)).2];exact hg.free x (List.mem_append.2 (.inr hx)) o'
 ·rw [Hp.bs_append,Hp.bs_append]; exact hf.wide _
structure LSt where
 ν:Type
 E:ν→List Ent
 V:ν→Env
def LSt.of (E:List Ent):LSt:=⟨Unit,fun _=>E,fun _=> []⟩
structure Line where
 ini:List Ent
 st:List (Nat×LSt)
def atL (X:Nat→Bool) (s:LSt):List (Nat×LSt)→LSt
 | []=>s
 | (k,s')::r=>bif X k then atL X s' r else s
def Line.at (X:Nat→Bool) (L:Line):LSt:=atL X (.of L.ini) L.st
def qO (ok:LSt→List Ent→Prop) (X:Nat→Bool):List Line→List (List Ent)→Prop
 | [],Es=>Es = []
 | L::Ls,Es=>∃E Es',Es=E::Es'∧ok (L.at X) E∧qO ok X Ls Es'
theorem qO.imp {ok ok':LSt→List Ent→Prop}{X X':Nat→Bool}:∀ {Ls:List Line}{Es:List (List Ent)},(∀L∈Ls,∀E,ok (L.at X) E→ok' (L.at X') E)→qO ok X Ls Es→qO ok' X' Ls Es
 | [],_,_,h=>h
 | L::Ls,Es,h1,⟨E,Es',e,h2,h⟩=>⟨E,Es',e,h1 L (by simp) E h2,qO.imp (fun L' hL=>h1 L' (by simp [hL])) h⟩
theorem qO.pick {ok:LSt→List Ent→Prop}{X:Nat→Bool}:∀ {Ls:List Line}{Es:List (List Ent)}{p:Nat}{L:Line},qO ok X Ls Es→Ls[p]? = some L→
  ∃E R,Es.flatten.Perm (E++R)∧ok (L.at X) E∧
   ∀ {ok':LSt→List Ent→Prop}{X':Nat→Bool} (E2:List Ent),(∀q L',q≠p→Ls[q]? = some L'→∀E,ok (L'.at X) E→ok' (L'.at X') E)→ok' (L.at X') E2→
    ∃Es',Es'.flatten.Perm (E2++R)∧qO ok' X' Ls Es'
 | [],_,p,L,_,hp=>by simp at hp
 | L0::Ls,Es,p,L,⟨E,Es',e,h0,h⟩,hp=>by
  subst e
  cases p with
  | zero=>
   simp only [List.getElem?_cons_zero,Option.some.injEq] at hp
   subst hp;refine ⟨E,Es'.flatten,by rw [List.flatten_cons],h0,?_⟩;intro ok' X' E2 h1 h3;refine ⟨E2::Es',by rw [List.flatten_cons],_,_,rfl,h3,?_⟩;refine h.imp (fun L' hL=>?_);obtain ⟨q,hq⟩:=List.getElem?_of_mem hL;exact h1 (q+1) L' (by omega) (by simpa using hq)
  | succ p=>
   obtain ⟨E1,R,hperm,he1,hk⟩:=qO.pick h (by simpa using hp);refine ⟨E1,E++R,?_,he1,?_⟩
   ·rw [List.flatten_cons];refine (List.Perm.append_left E hperm).trans ?_;rw [←List.append_assoc,←List.append_assoc];exact List.Perm.append_right R List.perm_append_comm
   ·intro ok' X' E2 h1 h3;obtain ⟨Es2,hp2,hl2⟩:=hk E2 (fun q L' hq hL=>h1 (q+1) L' (by omega) (by simpa using hL)) h3;refine ⟨E::Es2,?_,E,Es2,rfl,h1 0 L0 (by omega) (by simp) E h0,hl2⟩;rw [List.flatten_cons];refine (List.Perm.append_left E hp2).trans ?_;rw [←List.append_assoc,←List.append_assoc];exact List.Perm.append_right R List.perm_append_comm
theorem Sat.perm {m:Mem}{H H':List Ent} (p:H.Perm H'):∀ {hs:Hp},Sat H m hs→∃hs',hs.Perm hs'∧Sat H' m hs':=by
 induction p with
 | nil=>intro hs h; exact ⟨hs,List.Perm.refl _,h⟩
 | cons x _ ih=>
  rintro hs ⟨h1,h2,rfl,p,q⟩;obtain ⟨h2',hp,hq⟩:=ih q;exact ⟨h1++h2',List.Perm.append_left h1 hp,h1,h2',rfl,p,hq⟩
 | swap x y l=>
  rintro hs ⟨h1,_,rfl,p,h2,h3,rfl,q,r⟩;refine ⟨h2++(h1++h3),?_,h2,h1++h3,rfl,q,h1,h3,rfl,p,r⟩;rw [←List.append_assoc,←List.append_assoc];exact List.Perm.append_right h3 List.perm_append_comm
 | trans _ _ ih1 ih2=>
  intro hs h;obtain ⟨h1,p1,q1⟩:=ih1 h;obtain ⟨h2,p2,q2⟩:=ih2 q1;exact ⟨h2,p1.trans p2,q2⟩
inductive StepOf : LSt→List (Nat×LSt)→Nat→LSt→LSt→Prop
 | here {s s':LSt}{k:Nat}{r:List (Nat×LSt)}:StepOf s ((k,s')::r) k s s'
 | next {s s1 t t':LSt}{k k1:Nat}{r:List (Nat×LSt)}:StepOf s1 r k t t'→StepOf s ((k1,s1)::r) k t t'
def Qbv (full:List Oper):List Nat→Bool
 | []=>true
 | [_]=>true
 | k::k'::r=>(match full[k']? with | some o=>(Kf o).any (Nat.beq k) | none=>false)&&Nat.blt k k'&&Qbv full (k'::r)
def Qkl (full:List Oper) (o:Oper) (Γ:Env):Prop:=o.guard=none∨qV full o Γ true
inductive RL (c:Ctx) (full:List Oper) (H:List Ent) (Ls:List Line):Nat→List Oper→Env→List Slot→Prop
 | nil {k:Nat}{Γ:Env}:RL c full H Ls k [] Γ []
 | read {k:Nat}{o:Oper}{os:List Oper}{Γ:Env}{s:Slot}{σ:List Slot} :
  (Ls.all fun L=>L.st.all fun x=>!Nat.beq x.1 k)=true→OK1 c full H o Γ s→RL c full H Ls (k+1) os (push o.dst s Γ) σ→RL c full H Ls k (o::os) Γ (s::σ)
 | pre (p:Nat){L:Line}{k k1:Nat}{s1:LSt}{r:List (Nat×LSt)}{o o1:Oper}{os:List Oper}{Γ:Env}{s:Slot}{σ:List Slot} :
  (Ls.all fun L=>L.st.all fun x=>!Nat.beq x.1 k)=true→Ls[p]? = some L→L.st=(k1,s1)::r→full[k1]? = some o1→(Kf o1).any (Nat.beq k)=true→
  OK1 c full (L.ini++H) o Γ s→RL c full H Ls (k+1) os (push o.dst s Γ) σ→RL c full H Ls k (o::os) Γ (s::σ)
 | step (p:Nat){L:Line}{k:Nat}{t t':LSt}{o:Oper}{os:List Oper}{Γ:Env}{s:Slot}{σ:List Slot} :
  Ls[p]? = some L→StepOf (.of L.ini) L.st k t t'→Qkl full o Γ→
  (∀ν:t.ν,∃(ι:Type) (V2:ι→Env) (up:ι→t'.ν),WJ c o (t.V ν++Γ) (t.E ν++H) V2 (fun i=>t'.E (up i)++H)∧(∀i,t'.V (up i)=V2 i++t.V ν)∧(∀i m a,Vg (V2 i) m a→∀d,o.dst=some d→s.p m (a.tmps.getD d undef))∧∀i d s',lk (V2 i) d=some s'→o.dst=some d)→
  RL c full H Ls (k+1) os (push o.dst s Γ) σ→RL c full H Ls k (o::os) Γ (s::σ)
theorem Qau (A B:Env) (t:Nat):lk (A++B) t=(lk A t).or (lk B t):=by
 induction A with
 | nil=>rfl
 | cons p A ih=>
  obtain ⟨t',s⟩:=p
  by_cases h:t'=t
  ·subst h; rw [List.cons_append,Yc,Yc]; rfl
  ·rw [List.cons_append,XF h,XF h,ih]
theorem RL.at {c:Ctx}{full:List Oper}{H:List Ent}{Ls:List Line}{k:Nat}{l:List Oper}{Γ:Env}{σ:List Slot} (h:RL c full H Ls k l Γ σ) :
  ∀i o,l[i]? = some o→∃s Γi,σ[i]? = some s∧(∀t,lk Γi t=cur l σ Γ (fun _=>true) i t)∧
   (((Ls.all fun L=>L.st.all fun x=>!Nat.beq x.1 (k+i))=true∧(OK1 c full H o Γi s∨
    ∃(p:Nat) (L:Line) (k1:Nat) (s1:LSt) (r:List (Nat×LSt)) (o1:Oper),Ls[p]? = some L∧L.st=(k1,s1)::r∧full[k1]? = some o1∧(Kf o1).any (Nat.beq (k+i))=true∧OK1 c full (L.ini++H) o Γi s))∨
   ∃(p:Nat) (L:Line) (t t':LSt),Ls[p]? = some L∧StepOf (.of L.ini) L.st (k+i) t t'∧Qkl full o Γi∧
    (∀ν:t.ν,∃(ι:Type) (V2:ι→Env) (up:ι→t'.ν),WJ c o (t.V ν++Γi) (t.E ν++H) V2 (fun i=>t'.E (up i)++H)∧(∀i,t'.V (up i)=V2 i++t.V ν)∧(∀i m a,Vg (V2 i) m a→∀d,o.dst=some d→s.p m (a.tmps.getD d undef))∧∀i d s',lk (V2 i) d=some s'→o.dst=some d)):=by
 induction h with
 | nil=>intro i o h; simp at h
 | @read k o os Γ s σ h0 h1 h2 ih=>
  intro i p hi
  cases i with
  | zero=>
   simp only [List.getElem?_cons_zero,Option.some.injEq] at hi
   subst hi;exact ⟨s,Γ,rfl,fun t=>rfl, .inl ⟨h0, .inl h1⟩⟩
  | succ i=>
   obtain ⟨s',Γi,hs,hl,hc⟩:=ih i p (by simpa using hi);refine ⟨s',Γi,by simpa using hs,fun t=>by rw [hl t,K8],?_⟩;rw [show k+(i+1)=k+1+i by omega]; exact hc
 | @pre p L k k1 s1 r o o1 os Γ s σ h0 hp hst hf he h1 h2 ih=>
  intro i p' hi
  cases i with
  | zero=>
   simp only [List.getElem?_cons_zero,Option.some.injEq] at hi
   subst hi;exact ⟨s,Γ,rfl,fun t=>rfl, .inl ⟨h0, .inr ⟨p,L,k1,s1,r,o1,hp,hst,hf,he,h1⟩⟩⟩
  | succ i=>
   obtain ⟨s',Γi,hs,hl,hc⟩:=ih i p' (by simpa using hi);refine ⟨s',Γi,by simpa using hs,fun t=>by rw [hl t,K8],?_⟩;rw [show k+(i+1)=k+1+i by omega]; exact hc
 | @step p L k t t' o os Γ s σ hp hst hg hw h2 ih=>
  intro i p' hi
  cases i with
  | zero=>
   simp only [List.getElem?_cons_zero,Option.some.injEq] at hi
   subst hi;exact ⟨s,Γ,rfl,fun t=>rfl, .inr ⟨p,L,t,t',hp,hst,hg,hw⟩⟩
  | succ i=>
   obtain ⟨s',Γi,hs,hl,hc⟩:=ih i p' (by simpa using hi);refine ⟨s',Γi,by simpa using hs,fun t=>by rw [hl t,K8],?_⟩;rw [show k+(i+1)=k+1+i by omega]; exact hc
theorem RL.len {c:Ctx}{full:List Oper}{H:List Ent}{Ls:List Line}{k:Nat}{l:List Oper}{Γ:Env}{σ:List Slot} (h:RL c full H Ls k l Γ σ):l.length=σ.length:=by
 induction h with
 | nil=>rfl
 | read _ _ _ ih=>simp [ih]
 | pre _ _ _ _ _ _ _ _ ih=>simp [ih]
 | step _ _ _ _ _ _ ih=>simp [ih]
def QfZ (l:List Oper) (X:Nat→Bool) (V:Env):Prop:=∀t s,lk V t=some s→∃k o,l[k]? = some o∧X k=true∧o.dst=some t
def LOk (l:List Oper) (X:Nat→Bool) (m:Mem) (a:Act) (st:LSt) (E:List Ent):Prop:=∃ν,E=st.E ν∧Vg (st.V ν) m a∧QfZ l X (st.V ν)
section
variable {c : Ctx} {Γ : Env} {H : List Ent} {a : Act} {w : World} {Q : Exit → Act → World → Prop} {l rest : List Oper} {σ : List Slot} {Ls : List Line} {X : Nat → Bool}
def Qov (c:Ctx) (l:List Oper) (σ:List Slot) (Ls:List Line) (Γ:Env) (H:List Ent) (X:Nat→Bool) (a:Act) (w:World):Prop:=
 Dfr c a.defers w∧a.tmps.size=c.N∧∃m hs,Zk m hs w∧c.G.p m∧(∀t s,cur l σ Γ X l.length t=some s→s.p m (a.tmps.getD t undef))∧Frm c.w0 w c.m0 m c.b0 hs.bs∧
  ∃Es,Sat (Es.flatten++H) m hs∧qO (LOk l X m a) X Ls Es
theorem QcD {X:Nat→Bool}{i:Nat}:∀(st:List (Nat×LSt)) (s:LSt),(st.all fun x=>!Nat.beq x.1 i)=true→atL (upd X i) s st=atL X s st
 | [],_,_=>rfl
 | (k,s')::r,s,h=>by
  simp only [List.all_cons,Bool.and_eq_true,Bool.not_eq_true',beq_eq_false_iff_ne] at h
  have hk:k≠i:=by intro e; subst e; simp at h
  simp only [atL,upd,if_neg hk]
  rw [QcD r s' h.2]
theorem StepOf.mem {s:LSt}{st:List (Nat×LSt)}{k:Nat}{t t':LSt} (h:StepOf s st k t t'):∃x∈st,x.1=k:=by
 induction h with
 | here=>exact ⟨_,List.mem_cons_self,rfl⟩
 | next _ ih=>obtain ⟨x,hx,e⟩:=ih; exact ⟨x,by simp [hx],e⟩
theorem Qmk {full:List Oper}{X:Nat→Bool}{i:Nat}{o:Oper} (hcl:∀j p,full[j]? = some p→X j=true→∀e∈Kf p,X e=true) (hi:full[i]? = some o) (hX:X i=false) (he:∀j∈Kf o,X j=true)
  {s:LSt}{st:List (Nat×LSt)}{t t':LSt} (h:StepOf s st i t t') (hc:Qbv full (st.map (·.1))=true) :
  (∀x,st.head? = some x→X x.1=true∨x.1=i)∧atL X s st=t∧atL (upd X i) s st=t':=by
 induction h with
 | @here s s' k r=>
  refine ⟨fun x hx=> .inr (by simp at hx; rw [←hx]),by simp [atL,hX],?_⟩;have:atL (upd X k) s' r=s':=by
   cases r with
   | nil=>rfl
   | cons y r=>
    simp only [List.map_cons,Qbv,Bool.and_eq_true] at hc
    obtain ⟨⟨hc1,hc2⟩,_⟩:=hc;have hlt:k < y.1:=by simpa [Nat.blt_eq] using hc2
    cases hy:full[y.1]? with
    | none=>rw [hy] at hc1; cases hc1
    | some p=>
     rw [hy] at hc1;have hmem:k∈Kf p:=by
      simp only [List.any_eq_true] at hc1
      obtain ⟨z,hz,e⟩:=hc1;rw [Nat.eq_of_beq_eq_true e]; exact hz
     have hXy:X y.1=false:=by
      cases hXy:X y.1 with
      | false=>rfl
      | true=>have:=hcl y.1 p hy hXy k hmem; rw [hX] at this; cases this
     have hne:y.1≠k:=by omega
     simp only [atL,upd,if_neg hne,hXy,cond_false]
  simp only [atL,upd,if_true,cond_true]
  exact this
 | @next s s1 t t' k k1 r h ih=>
  have hc':Qbv full (r.map (·.1))=true:=by
   cases r with
   | nil=>rfl
   | cons y r=>simp only [List.map_cons,Qbv,Bool.and_eq_true] at hc; exact hc.2
  obtain ⟨ih1,ih2,ih3⟩:=ih hi hX hc';have hXk1:X k1=true:=by
   cases r with
   | nil=>cases h
   | cons y r=>
    simp only [List.map_cons,Qbv,Bool.and_eq_true] at hc
    obtain ⟨⟨hc1,hc2⟩,_⟩:=hc
    cases hy:full[y.1]? with
    | none=>rw [hy] at hc1; cases hc1
    | some p=>
     rw [hy] at hc1;have hmem:k1∈Kf p:=by
      simp only [List.any_eq_true] at hc1
      obtain ⟨z,hz,e⟩:=hc1;rw [Nat.eq_of_beq_eq_true e]; exact hz
     rcases ih1 y rfl with h2 | h2
     ·exact hcl y.1 p hy h2 k1 hmem
     ·rw [h2] at hy;rw [hi] at hy; cases hy;exact he k1 hmem
  have hne:k1≠k:=fun e=>by rw [e,hX] at hXk1; cases hXk1
  refine ⟨fun x hx=> .inl (by simp at hx; rw [←hx]; exact hXk1),by simp only [atL,hXk1,cond_true]; exact ih2,?_⟩
  simp only [atL,upd,if_neg hne,hXk1,cond_true]
  exact ih3
def Qh3 : List Line→Bool
 | []=>true
 | L::r=>(r.all fun L'=>L'.st.all fun y=>L.st.all fun x=>!Nat.beq x.1 y.1)&&Qh3 r
theorem QhW : ∀ {Ls:List Line}{p q:Nat}{L L':Line},Qh3 Ls=true→Ls[p]? = some L→Ls[q]? = some L'→p≠q→∀x∈L.st,∀y∈L'.st,x.1≠y.1
 | [],p,q,L,L',_,hp,_,_=>by simp at hp
 | L0::r,p,q,L,L',h,hp,hq,hne=>by
  simp only [Qh3,Bool.and_eq_true,List.all_eq_true,Bool.not_eq_true'] at h
  cases p with
  | zero=>
   simp only [List.getElem?_cons_zero,Option.some.injEq] at hp
   subst hp
   cases q with
   | zero=>exact absurd rfl hne
   | succ q=>
    intro x hx y hy e;have:=h.1 L' (List.mem_of_getElem? (by simpa using hq)) y hy x hx;rw [e] at this; simp at this
  | succ p=>
   cases q with
   | zero=>
    simp only [List.getElem?_cons_zero,Option.some.injEq] at hq
    subst hq;intro x hx y hy e;have:=h.1 L (List.mem_of_getElem? (by simpa using hp)) x hx y hy;rw [e] at this; simp at this
   | succ q=>exact QhW h.2 (by simpa using hp) (by simpa using hq) (by omega)
def Qcp (l:List Oper) (Ls:List Line):Bool:=(Ls.all fun L=>Qbv l (L.st.map (·.1))&&L.st.all fun x=>Nat.blt x.1 l.length)&&Qh3 Ls
theorem QfZ.mono {X X':Nat→Bool}{V:Env} (h:∀k,X k=true→X' k=true) (hk:QfZ l X V):QfZ l X' V:=fun t s e=>by
 obtain ⟨k,o,h1,h2,h3⟩:=hk t s e; exact ⟨k,o,h1,h _ h2,h3⟩
theorem Qk0 {i:Nat}{o:Oper}{K:Act→World→Prop} (hB:BV (l++rest) l.length=true) (hN:QeZ c.N l=true) (hU:Qem l=true) (hL:Qcp l Ls=true) (hR:RL c (l++rest) H Ls 0 l Γ σ)
  (hi:l[i]? = some o) (hX:X i=false) (he:∀j∈Kf o,X j=true) (hcl:∀j p,l[j]? = some p→X j=true→∀e∈Kf p,X e=true)
  (hD:Qov c l σ Ls Γ H X a w) (hK:∀a' w',Qov c l σ Ls Γ H (upd X i) a' w'→K a' w'):wpOpIn (fen c.ro) 0 c.P (l++rest).toArray Q i K a w:=by
 have hlt:i < l.length:=(List.getElem?_eq_some_iff.1 hi).1;have hfull:∀ {j p},l[j]? = some p→(l++rest)[j]? = some p:=fun {j p} h=>by
  rw [List.getElem?_append_left (List.getElem?_eq_some_iff.1 h).1]; exact h
 have hfi:=hfull hi;have hop:(l++rest).toArray[i]? = some o:=by simpa using hfi
 obtain ⟨s,Γi,hs,hlk,hcase⟩:=hR.at i o hi;obtain ⟨hdf,hn,m,hs2,hg,hG,hcur,hfr,Es,hsat,hln⟩:=hD;have hafter:∀t∈UA (l++rest) o,∀j p,i < j→l[j]? = some p→p.dst=some t→X j=false:=by
  intro t ht j p hij hp hd
  cases hXj:X j with
  | false=>rfl
  | true=>
   have:=(QaE hB hfi (hfull hp) (by omega) hd ht).2 hij;have:=hcl j p hp hXj i this;rw [hX] at this; cases this
 have hknown:∀t∈UA (l++rest) o,cur l σ Γ X l.length t=lk Γi t:=by
  intro t ht;rw [hlk t,qe l.length (by omega:i≤l.length),Qgu i]
  ·intro j p hj hp hd;exact he j ((QaE hB hfi (hfull hp) (by omega) hd ht).1 hj)
  ·intro j p h1 h2 hp hd
   by_cases hji:j=i
   ·subst hji; exact hX
   ·exact hafter t ht j p (by omega) hp hd
 have hopV:∀(V:Env),Vg V m a→QgH o (V++Γi) m a:=by
  intro V hV x hx
  cases x with
  | tmp t=>
   intro s' e;have ht:t∈UA (l++rest) o:=by
    simp only [UA,List.mem_append]
    refine .inl (.inr ?_)
    simp only [QjH,List.mem_filterMap]
    exact ⟨.tmp t,by simpa using hx,rfl⟩
   rw [Qau] at e
   cases hv:lk V t with
   | some s1=>rw [hv] at e; cases e; exact hV t _ hv
   | none=>rw [hv] at e; exact hcur t s' (by rw [hknown t ht]; exact e)
  | _=>trivial
 have hopd:QgH o Γi m a:=hopV [] (fun t s e=>by cases e);have hdN:∀d,o.dst=some d→d < a.tmps.size:=by
  intro d hd
  simp only [QeZ,List.all_eq_true] at hN
  have:=hN o (List.mem_of_getElem? hi);rw [hd] at this;rw [hn]; simpa [Nat.blt_eq] using this
 have hnew:∀ {m':Mem}{v:Value},Mle m m'→(∀d,o.dst=some d→s.p m' v)→∀t s',cur l σ Γ (upd X i) l.length t=some s'→s'.p m' ((a.put o.dst v).tmps.getD t undef):=by
  intro m' v hle hv t s' e
  by_cases hd:o.dst=some t
  ·have ht:t∈UA (l++rest) o:=by simp [UA,hd]
   rw [qe l.length (by omega:i+1≤l.length)] at e
   ·rw [cur] at e
    simp only [hi,hs,upd,if_true,hd,beq_self_eq_true,Bool.and_self] at e
    cases e
    rw [hd,Uo (hdN t hd)];exact hv t hd
   ·intro j p h1 h2 hp hdp;have hji:j≠i:=by omega
    simp only [upd,if_neg hji]
    exact hafter t ht j p (by omega) hp hdp
  ·have e':cur l σ Γ X l.length t=some s':=by
    rw [←e];refine Bi l.length fun j p hj hp hdp=>?_
    by_cases hji:j=i
    ·subst hji;rw [hi] at hp; cases hp;exact absurd hdp hd
    ·simp [upd,hji]
   have hgd:(a.put o.dst v).tmps.getD t undef=a.tmps.getD t undef:=by
    cases hdd:o.dst with
    | none=>rfl
    | some d=>exact By (fun e=>hd (by rw [hdd,e]))
   rw [hgd];exact s'.mono hle (hcur t s' e')
 have hXu:∀k,X k=true→upd X i k=true:=fun k hk=>by simp only [upd]; split<;>simp [hk]
 -- what the lines know stays
 have hkeep:∀ {V:Env}{m':Mem}{v:Value},Mle m m'→Vg V m a→QfZ l X V→Vg V m' (a.put o.dst v):=by
  intro V m' v hle hV hk t s' e;have hne:o.dst≠some t:=by
   intro hd;obtain ⟨k,p,h1,h2,h3⟩:=hk t s' e;have:=QhD hU hi h1 hd h3;rw [this,h2] at hX; cases hX
  have hgd:(a.put o.dst v).tmps.getD t undef=a.tmps.getD t undef:=by
   cases hdd:o.dst with
   | none=>rfl
   | some d=>exact By (fun e=>hne (by rw [hdd,e]))
  rw [hgd];exact s'.mono hle (hV t s' e)
 unfold wpOpIn;rw [hop]
 simp only []
 have hLs:∀L∈Ls,Qbv l (L.st.map (·.1))=true∧∀x∈L.st,x.1 < l.length:=by
  intro L hLm
  simp only [Qcp,Bool.and_eq_true,List.all_eq_true] at hL
  have:=hL.1 L hLm;exact ⟨this.1,fun x hx=>by simpa [Nat.blt_eq] using this.2 x hx⟩
 have hdisj:Qh3 Ls=true:=by simp only [Qcp,Bool.and_eq_true] at hL; exact hL.2
 have hguard:∀ {yes:Bool},qV (l++rest) o Γi yes→Region.wanted o (yielded (l++rest).toArray a.tmps)=yes:=by
  rintro yes ⟨j,want,b,t,s',hgd,hj,hl,hb,hy⟩;have ht:t∈UA (l++rest) o:=by simp [UA,QmB,hgd,hj]
  have hv:=hb m _ (hcur t s' (by rw [hknown t ht]; exact hl));have hlt2:t < a.tmps.size:=by
   rcases Nat.lt_or_ge t a.tmps.size with h | h
   ·exact h
   ·have:a.tmps.getD t undef=undef:=by simp [Array.getD,Nat.not_lt.2 h]
    rw [this] at hv; cases hv
  have hyv:yielded (l++rest).toArray a.tmps j=some b:=by
   simp only [yielded,List.getElem?_toArray,hj,Option.bind_some,Array.getElem?_eq_getElem hlt2]
   simp only [Array.getD,hlt2,dite_true] at hv
   simp only [Array.getInternal_eq_getElem] at hv
   rw [hv]
  simp only [Region.wanted,hgd,hyv]
  rw [←hy]; cases b<;>cases want<;>rfl
 rcases hcase with ⟨hnot,hok⟩ | ⟨p,L,t,t',hp,hst,hgd,hstep⟩
 ·rw [Nat.zero_add] at hnot;have hat:∀L∈Ls,L.at (upd X i)=L.at X:=fun L hLm=>QcD _ _ (by rw [List.all_eq_true] at hnot; exact hnot L hLm)
  have hln2:∀ {m':Mem}{v:Value},Mle m m'→qO (LOk l (upd X i) m' (a.put o.dst v)) (upd X i) Ls Es:=by
   intro m' v hle;refine hln.imp fun L hLm E hE=>?_;rw [hat L hLm];obtain ⟨ν,e,hV,hk⟩:=hE;exact ⟨ν,e,hkeep hle hV hk,hk.mono hXu⟩
  have hrun:∀ {H0:List Ent},(∃R,(Es.flatten++H).Perm (H0++R))→PJ c o Γi H0 s→o.wpIn (fen c.ro) 0 c.P a w K Q:=by
   rintro H0 ⟨R,hpm⟩ hpj;obtain ⟨hs3,hp3,hsat3⟩:=Sat.perm (hpm.trans List.perm_append_comm) hsat;refine q7.wp ((hpj.frame R) m hs3 a w (hg.perm hp3) hG hsat3 hopd) ?_;rintro v w' ⟨m',hg',hv,hf⟩;refine hK _ _ ⟨by rw [XG]; exact hdf.step hg (hf.keepOwn _),by rw [Ku]; exact hn,m',hs2,hg'.perm hp3.symm,c.G.mono hf.le hG,hnew hf.le (fun _ _=>hv),hfr.trans (hf.keepOwn _),Es,hsat.frm hf,hln2 hf.le⟩
  have hundef:Qcz (l++rest) o Γi→Region.wanted o (yielded (l++rest).toArray a.tmps)=false:=by
   rintro ⟨j,want,t,hgd,hj,hl⟩;have ht:t∈UA (l++rest) o:=by simp [UA,QmB,hgd,hj]
   have hv:a.tmps.getD t undef=undef:=hcur t _ (by rw [hknown t ht]; exact hl);have hyv:yielded (l++rest).toArray a.tmps j=none:=by
    simp only [yielded,List.getElem?_toArray,hj,Option.bind_some]
    by_cases hlt:t < a.tmps.size
    ·simp only [Array.getElem?_eq_getElem hlt]
     simp only [Array.getD,hlt,dite_true] at hv
     simp only [Array.getInternal_eq_getElem] at hv
     rw [hv]; rfl
    ·simp [Array.getElem?_eq_none (Nat.not_lt.1 hlt)]
   simp only [Region.wanted,hgd,hyv]; rfl
  have hfin:∀ {H0:List Ent},(∃R,(Es.flatten++H).Perm (H0++R))→OK1 c (l++rest) H0 o Γi s→(if Region.wanted o (yielded (l++rest).toArray a.tmps)=true then o.wpIn (fen c.ro) 0 c.P a w K Q else (∀f,o.about c.P w a.eval=some f→(fen c.ro).fn f)∧K (a.put o.dst undef) w):=by
   intro H0 hpm hok
   cases hok with
   | plain hgd hpj=>
    have hw:Region.wanted o (yielded (l++rest).toArray a.tmps)=true:=by simp [Region.wanted,hgd]
    rw [if_pos hw];exact hrun hpm hpj
   | yes hgd hpj=>
    rw [if_pos (hguard hgd)];exact hrun hpm hpj
   | no hgd=>
    have hw:=hguard hgd;rw [if_neg (by rw [hw]; simp)];exact ⟨fun f _=>QdJ _ f,hK _ _ ⟨by rw [XG]; exact hdf,by rw [Ku]; exact hn,m,hs2,hg,hG,hnew (Mle.refl m) (fun _ _=>rfl),hfr,Es,hsat,hln2 (Mle.refl m)⟩⟩
   | undef hgd=>
    have hw:=hundef hgd;rw [if_neg (by rw [hw]; simp)];exact ⟨fun f _=>QdJ _ f,hK _ _ ⟨by rw [XG]; exact hdf,by rw [Ku]; exact hn,m,hs2,hg,hG,hnew (Mle.refl m) (fun _ _=>rfl),hfr,Es,hsat,hln2 (Mle.refl m)⟩⟩
  rcases hok with hok | ⟨p,L,k1,s1,r,o1,hp,hst,hk1,hed,hok⟩
  ·exact hfin ⟨Es.flatten,List.perm_append_comm⟩ hok
  ·-- the line has not begun
   have hk1l:k1 < l.length:=(hLs L (List.mem_of_getElem? hp)).2 (k1,s1) (by rw [hst]; simp);rw [List.getElem?_append_left hk1l] at hk1;have hXk:X k1=false:=by
    cases hXk:X k1 with
    | false=>rfl
    | true=>
     have hmem:i∈Kf o1:=by
      simp only [List.any_eq_true,Nat.zero_add] at hed
      obtain ⟨z,hz,e⟩:=hed;rw [Nat.eq_of_beq_eq_true e]; exact hz
     have:=hcl k1 o1 hk1 hXk i hmem;rw [hX] at this; cases this
   have hLat:L.at X = .of L.ini:=by simp [Line.at,hst,atL,hXk]
   obtain ⟨E,R,hperm,hok2,_⟩:=hln.pick hp;rw [hLat] at hok2;obtain ⟨ν,rfl,_,_⟩:=hok2;refine hfin (H0:=L.ini++H) ⟨R,?_⟩ hok;have:Es.flatten.Perm (L.ini++R):=hperm;refine (List.Perm.append_right H this).trans ?_;rw [List.append_assoc,List.append_assoc];exact List.Perm.append_left _ List.perm_append_comm
 ·have hw:Region.wanted o (yielded (l++rest).toArray a.tmps)=true:=by
   rcases hgd with hgd | hgd
   ·simp [Region.wanted,hgd]
   ·exact hguard hgd
  rw [if_pos hw];rw [Nat.zero_add] at hst;have hLm:=List.mem_of_getElem? hp;obtain ⟨_,hat1,hat2⟩:=Qmk hcl hi hX he hst (hLs L hLm).1;obtain ⟨E,R,hperm,hok,hk⟩:=hln.pick hp;have hat1':L.at X=t:=hat1;have hat2':L.at (upd X i)=t':=hat2;rw [hat1'] at hok;obtain ⟨ν,rfl,hV,hkeys⟩:=hok;obtain ⟨ι,V2,up,hwj,hup,hs1,hdst⟩:=hstep ν;have hpm:(Es.flatten++H).Perm ((t.E ν++H)++R):=by
   refine (List.Perm.append_right H hperm).trans ?_;rw [List.append_assoc,List.append_assoc];exact List.Perm.append_left _ List.perm_append_comm
  obtain ⟨hs3,hp3,hsat3⟩:=Sat.perm hpm hsat;refine (q7.wp ((hwj.frame R) m hs3 a w (hg.perm hp3) hG hsat3 (hopV _ hV) hn) ?_);rintro v w' ⟨j,m',hs4,hg',heV,hsat4,hf⟩;have hother:∀q L',q≠p→Ls[q]? = some L'→∀E,LOk l X m a (L'.at X) E→LOk l (upd X i) m' (a.put o.dst v) (L'.at (upd X i)) E:=by
   intro q L' hq hL' E hE;have hne:(L'.st.all fun x=>!Nat.beq x.1 i)=true:=by
    rw [List.all_eq_true];intro x hx;obtain ⟨y,hy,e⟩:=hst.mem;have:=QhW hdisj hp hL' (fun e=>hq e.symm) y hy x hx;rw [e] at this
    simp only [Bool.not_eq_true',beq_eq_false_iff_ne]
    cases hb:Nat.beq x.1 i with
    | false=>rfl
    | true=>exact absurd (Nat.eq_of_beq_eq_true hb).symm this
   rw [show L'.at (upd X i)=L'.at X from QcD _ _ hne];obtain ⟨ν',e,hV',hk'⟩:=hE;exact ⟨ν',e,hkeep hf.le hV' hk',hk'.mono hXu⟩
  obtain ⟨Es',hpE,hlnE⟩:=hk (ok':=LOk l (upd X i) m' (a.put o.dst v)) (X':=upd X i) (t'.E (up j)) hother (by
   rw [hat2'];refine ⟨up j,rfl,?_,?_⟩
   ·rw [hup];intro t1 s1 e;rw [Qau] at e
    cases hv:lk (V2 j) t1 with
    | some s2=>rw [hv] at e; cases e; exact heV t1 _ hv
    | none=>rw [hv] at e; exact hkeep hf.le hV hkeys t1 s1 e
   ·rw [hup];intro t1 s1 e;rw [Qau] at e
    cases hv:lk (V2 j) t1 with
    | some s2=>exact ⟨i,o,hi,by simp [upd],hdst j t1 s2 hv⟩
    | none=>rw [hv] at e; exact hkeys.mono hXu t1 s1 e)
  have hpm2:((t'.E (up j)++H)++R).Perm (Es'.flatten++H):=by
   refine List.Perm.trans ?_ (List.Perm.append_right H hpE.symm);rw [List.append_assoc,List.append_assoc];exact List.Perm.append_left _ List.perm_append_comm
  obtain ⟨hs5,hp5,hsat5⟩:=Sat.perm hpm2 hsat4;refine hK _ _ ⟨by rw [XG]; exact hdf.step hg (Frm.ofPerm hp3 hf),by rw [Ku]; exact hn,m',hs5,hg'.perm hp5,c.G.mono hf.le hG,?_,hfr.trans ((Frm.ofPerm hp3 hf).perm hp5),Es',hsat5,hlnE⟩;refine hnew hf.le fun d hd=>?_;have:=hs1 j m' (a.put o.dst v) heV d hd
  rwa [hd,Uo (hdN d hd)] at this
theorem Ql9 {Inv:(Nat→Bool)→Act→World→Prop} (hB:BV (l++rest) l.length=true)
  (hstep:∀(X:Nat→Bool) (i:Nat) (o:Oper) (K:Act→World→Prop) (a:Act) (w:World),l[i]? = some o→X i=false→(∀j∈Kf o,X j=true)→(∀j p,l[j]? = some p→X j=true→∀e∈Kf p,X e=true)→Inv X a w→
   (∀a' w',Inv (upd X i) a' w'→K a' w')→wpOpIn (fen c.ro) 0 c.P (l++rest).toArray Q i K a w)
  (hend:∀X a w,(∀i,i < l.length→X i=true)→Inv X a w→wpListIn (fen c.ro) 0 c.P (l++rest).toArray Q rest a w) :
  ∀(fuel:Nat) (listed:Array Bool) (a:Act) (w:World),listed.size=(l++rest).length→left (l++rest).length (Xof listed)≤fuel→
   (((∀i,l.length≤i→Xof listed i=false)∧(∀j p,l[j]? = some p→Xof listed j=true→∀e∈Kf p,Xof listed e=true)∧Inv (Xof listed) a w)∨
    (∃p,l.length≤p∧p≤(l++rest).length∧(∀i,i < (l++rest).length→Xof listed i=decide (i < p))∧wpListIn (fen c.ro) 0 c.P (l++rest).toArray Q ((l++rest).drop p) a w))→
   wpAnyIn (fen c.ro) 0 c.P .any (l++rest).toArray Q fuel listed a w:=by
 -- a first part that is done is a second part that has begun
 have conv:∀ {listed:Array Bool}{a:Act}{w:World},(∀i,l.length≤i→Xof listed i=false)→Inv (Xof listed) a w→(∀i,i < l.length→Xof listed i=true)→
   ∃p,l.length≤p∧p≤(l++rest).length∧(∀i,i < (l++rest).length→Xof listed i=decide (i < p))∧wpListIn (fen c.ro) 0 c.P (l++rest).toArray Q ((l++rest).drop p) a w:=by
  intro listed a w h1 h2 h3;refine ⟨l.length,Nat.le_refl _,by simp,fun i _=>?_,?_⟩
  ·by_cases hi:i < l.length
   ·simp [hi,h3 i hi]
   ·simp [hi,h1 i (by omega)]
  ·rw [List.drop_left']
   ·exact hend _ a w h3 h2
   ·rfl
 intro fuel
 induction fuel with
 | zero=>
  intro listed a w hsz hleft hinv;have hall:=Qgt (Nat.le_zero.1 hleft);have hemp:Region.ready .any (l++rest).toArray listed = []:=by
   rw [List.eq_nil_iff_forall_not_mem];intro i hi;obtain ⟨o,ho,hX,_⟩:=(qc hsz).1 hi;rw [hall i (List.getElem?_eq_some_iff.1 ho).1] at hX; cases hX
  refine ⟨hemp,?_⟩;obtain ⟨p,hp1,hp2,hp3,hp4⟩:∃p,l.length≤p∧p≤(l++rest).length∧(∀i,i < (l++rest).length→Xof listed i=decide (i < p))∧wpListIn (fen c.ro) 0 c.P (l++rest).toArray Q ((l++rest).drop p) a w:=by
   rcases hinv with ⟨h1,_,h2⟩ | h
   ·exact conv h1 h2 (fun i hi=>hall i (by simp; omega))
   ·exact h
  have hpe:p=(l++rest).length:=by
   rcases Nat.lt_or_ge p (l++rest).length with h | h
   ·have:=hp3 p h;rw [hall p h] at this; simp at this
   ·omega
  rw [hpe,List.drop_length] at hp4;exact hp4
 | succ fuel ih=>
  intro listed a w hsz hleft hinv
  -- nothing is ready: all is done
  have hdone:Region.ready .any (l++rest).toArray listed = []→∀i,i < (l++rest).length→Xof listed i=true:=by
   intro hemp i
   induction i using Nat.strongRecOn with
   | _ i ihi=>
    intro hi
    cases hX:Xof listed i with
    | true=>rfl
    | false=>
     have:i∈Region.ready .any (l++rest).toArray listed:=(qc hsz).2 ⟨(l++rest)[i],List.getElem?_eq_getElem hi,hX,fun j hj=>by
      have hji:=QaN hB (List.getElem?_eq_getElem hi) j hj;exact ihi j hji (by omega)⟩
     rw [hemp] at this; cases this
  refine ⟨fun hemp=>?_,fun i hi=>?_⟩
  ·have hall:=hdone hemp;obtain ⟨p,hp1,hp2,hp3,hp4⟩:∃p,l.length≤p∧p≤(l++rest).length∧(∀i,i < (l++rest).length→Xof listed i=decide (i < p))∧wpListIn (fen c.ro) 0 c.P (l++rest).toArray Q ((l++rest).drop p) a w:=by
    rcases hinv with ⟨h1,_,h2⟩ | h
    ·exact conv h1 h2 (fun i hi=>hall i (by simp; omega))
    ·exact h
   have hpe:p=(l++rest).length:=by
    rcases Nat.lt_or_ge p (l++rest).length with h | h
    ·have:=hp3 p h;rw [hall p h] at this; simp at this
    ·omega
   rw [hpe,List.drop_length] at hp4;exact hp4
  ·obtain ⟨o,ho,hX,hedge⟩:=(qc hsz).1 hi;have hilt:=(List.getElem?_eq_some_iff.1 ho).1;have hsz':(listed.setIfInBounds i true).size=(l++rest).length:=by simpa using hsz
   have hXu:=Qky (listed:=listed) (i:=i) (by omega);have hleft':left (l++rest).length (Xof (listed.setIfInBounds i true))≤fuel:=by
    rw [hXu]; have:=Qis hilt hX; omega
   -- which part?
   have hB':(∃p,l.length≤p∧p≤(l++rest).length∧(∀i,i < (l++rest).length→Xof listed i=decide (i < p))∧wpListIn (fen c.ro) 0 c.P (l++rest).toArray Q ((l++rest).drop p) a w)→
     wpOpIn (fen c.ro) 0 c.P (l++rest).toArray Q i (wpAnyIn (fen c.ro) 0 c.P .any (l++rest).toArray Q fuel (listed.setIfInBounds i true)) a w:=by
    rintro ⟨p,hp1,hp2,hp3,hp4⟩;have hip:¬i < p:=by
     intro h;have:=hp3 i hilt;rw [hX] at this; simp [h] at this
    have hpi:p=i:=by
     rcases Nat.lt_or_ge p i with h | h
     ·have:=QaB hB ho (by omega) (X:=Xof listed) hedge (fun j q hj hXj e he=>by
       have hjl:=(List.getElem?_eq_some_iff.1 hj).1;rw [hp3 j hjl] at hXj;have hjp:j < p:=by simpa using hXj
       have hej:=QaN hB hj e he;rw [hp3 e (by omega)]; simp; omega) p h
      rw [hp3 p (by omega)] at this
      simp at this
     ·omega
    subst hpi;rw [List.drop_eq_getElem_cons hilt] at hp4;have hoe:(l++rest)[p]=o:=(List.getElem?_eq_some_iff.1 ho).2;rw [hoe] at hp4;have hop:(l++rest).toArray[p]? = some o:=by simpa using ho
    have:wpOpIn (fen c.ro) 0 c.P (l++rest).toArray Q p (wpListIn (fen c.ro) 0 c.P (l++rest).toArray Q ((l++rest).drop (p+1))) a w:=by
     unfold wpOpIn;rw [hop];exact hp4
    refine wpOpIn_mono (fun a' w' h'=>?_) this;refine ih _ a' w' hsz' hleft' (.inr ⟨p+1,by omega,by omega,fun j hj=>?_,h'⟩);rw [hXu]
    by_cases hjp:j=p
    ·simp [upd,hjp]
    ·simp only [upd,if_neg hjp,hp3 j hj]
     congr 1
     rw [eq_iff_iff]; omega
   rcases hinv with ⟨h1,h2,h3⟩ | h
   ·by_cases hil:i < l.length
    ·have hol:l[i]? = some o:=by rwa [List.getElem?_append_left hil] at ho
     refine hstep _ _ _ _ _ _ hol hX hedge h2 h3 fun a' w' hD=>?_;refine ih _ a' w' hsz' hleft' (.inl ⟨fun j hj=>?_,fun j p hp hj e he=>?_,by rw [hXu]; exact hD⟩)
     ·rw [hXu];have:j≠i:=by omega
      simp only [upd,if_neg this]
      exact h1 j hj
     ·rw [hXu] at hj ⊢
      simp only [upd] at hj ⊢
      split
      ·rfl
      ·by_cases hji:j=i
       ·subst hji;rw [hol] at hp; cases hp;exact hedge e he
       ·rw [if_neg hji] at hj;exact h2 j p hp hj e he
    ·refine hB' (conv h1 h3 fun j hj=>?_);refine QaB hB ho (by omega) (X:=Xof listed) hedge (fun j' q hj' hXj e he=>?_) j (by omega);have hjl:j' < l.length:=by
      rcases Nat.lt_or_ge j' l.length with h | h
      ·exact h
      ·rw [h1 j' h] at hXj; cases hXj
     exact h2 j' q (by rwa [List.getElem?_append_left hjl] at hj') hXj e he
   ·exact hB' h
def Line.fin (L:Line):LSt:=atL (fun _=>true) (.of L.ini) L.st
def Qez (K:Env→List Ent→Prop):List Line→Env→List Ent→Prop
 | [],V,E=>K V E
 | L::Ls,V,E=>∀ν:(L.fin).ν,Qez K Ls ((L.fin).V ν++V) (E++(L.fin).E ν)
theorem Qez.use {K:Env→List Ent→Prop}{l:List Oper}{X:Nat→Bool}{m:Mem}{a:Act}:∀ {Ls:List Line}{V:Env}{E:List Ent}{Es:List (List Ent)},Qez K Ls V E→qO (LOk l X m a) (fun _=>true) Ls Es→Vg V m a→
  ∃V',K V' (E++Es.flatten)∧Vg V' m a
 | [],V,E,Es,h,hl,hV=>by
  cases hl
  exact ⟨V,by rw [List.flatten_nil,List.append_nil]; exact h,hV⟩
 | L::Ls,V,E,Es,h,⟨E1,Es',e,⟨ν,e1,hV1,_⟩,hl⟩,hV=>by
  subst e;obtain ⟨V',hk,hv⟩:=Qez.use (h ν) hl (fun t s e=>by
   rw [Qau] at e
   cases hv:lk ((L.fin).V ν) t with
   | some s1=>rw [hv] at e; cases e; exact hV1 t _ hv
   | none=>rw [hv] at e; exact hV t s e)
  refine ⟨V',?_,hv⟩;have e1':E1=(L.fin).E ν:=e1;rw [List.flatten_cons,←List.append_assoc,e1'];exact hk
theorem Qgj {l:List Oper}{m:Mem}{a:Act}{X:Nat→Bool} (hX:∀i,X i=false):∀(Ls:List Line),qO (LOk l X m a) X Ls (Ls.map (·.ini))
 | []=>rfl
 | L::Ls=>by
  refine ⟨L.ini,Ls.map (·.ini),rfl,?_,Qgj hX Ls⟩;have:L.at X = .of L.ini:=by
   unfold Line.at
   cases hs:L.st with
   | nil=>rfl
   | cons y r=>simp [atL,hX]
  rw [this];exact ⟨(),rfl,(fun t s e=>by cases e),(fun t s e=>by cases e)⟩
theorem Qgy {X X':Nat→Bool}:∀(st:List (Nat×LSt)) (s:LSt),(∀x∈st,X x.1=X' x.1)→atL X s st=atL X' s st
 | [],_,_=>rfl
 | (k,s')::r,s,h=>by
  simp only [atL,h (k,s') (by simp)]
  rw [Qgy r s' fun x hx=>h x (by simp [hx])]
theorem QnL {id n:Nat}{L:List Oper}{Ls:List Line} (hst:St c Γ ((Ls.map (·.ini)).flatten++H) a w) (hm:c.P.follows .mixedOrders=true) (hB:BV L n=true) (hn:Nat.ble n L.length=true) (hN:QeZ c.N (L.take n)=true) (hU:Qem (L.take n)=true)
  (hL:Qcp (L.take n) Ls=true) (hR:RL c L H Ls 0 (L.take n) Γ σ)
  (k:Qez (fun V E=>J9 c L.toArray (L.drop n) (V++Qdo Γ (L.take n) σ) (E++H) (Q .normal)) Ls [] []):(Code.region id L.toArray true).wpIn (fen c.ro) 0 c.P Q a w:=by
 have hlen:(L.take n).length=n:=by rw [List.length_take]; have:=Nat.ble_eq▸hn; omega
 have e:=Qfs L n;have hLs:∀L'∈Ls,∀x∈L'.st,x.1 < (L.take n).length:=by
  intro L' hLm x hx
  simp only [Qcp,Bool.and_eq_true,List.all_eq_true] at hL
  simpa [Nat.blt_eq] using (hL.1 L' hLm).2 x hx
 have main:=Ql9 (c:=c) (Q:=Q) (l:=L.take n) (rest:=L.drop n) (Inv:=Qov c (L.take n) σ Ls Γ H) (by rw [←e,hlen]; exact hB)
  (fun X i o K a w hi hX he hcl hD hK=>Qk0 (by rw [←e,hlen]; exact hB) hN hU hL (by rw [←e]; exact hR) hi hX he hcl hD hK)
  (fun X a w hall ⟨hdf,hn,m,hs,hg,hG,hcur,hfr,Es,hsat,hln⟩=>by
   rw [←e];have hln':qO (LOk (L.take n) X m a) (fun _=>true) Ls Es:=by
    refine hln.imp fun L' hLm E hE=>?_;rw [show L'.at (fun _=>true)=L'.at X from Qgy _ _ fun x hx=>(hall _ (hLs L' hLm x hx)).symm];exact hE
   obtain ⟨V,hk,hV⟩:=Qez.use k hln' (fun t s e=>by cases e);refine hk a w Q (fun _ _ h=>h) ⟨hdf,hn,m,hs,hg,hG,fun t s h=>?_,by simpa using hsat,hfr⟩;rw [Qau] at h
   cases hv:lk V t with
   | some s1=>rw [hv] at h; cases h; exact hV t _ hv
   | none=>
    rw [hv] at h;refine hcur t s ?_;rw [←h];show _=lk _ t;rw [Qgr Γ _ σ hR.len t];exact Bi _ fun j o hj _ _=>hall j hj)
 refine wpIn_region_any hm ?_;rw [←e] at main;obtain ⟨hdf,hn',m,hs,hg,hG,he,hsat,hf⟩:=hst;have hX0:∀i,Xof (Array.replicate L.toArray.size false) i=false:=by
  intro i; simp only [Xof,Array.getD]; split<;>simp
 refine main _ _ a w.drew (by simp) (Nat.le_trans (List.countP_le_length) (by simp)) (.inl ⟨(fun i _=>hX0 i),(fun j p _ hj=>by rw [hX0] at hj; cases hj),hdf.step hg (Frm.drew _ _ _),hn',m,hs,hg.drew,hG,(fun t s h=>he t s ?_),hf.trans (Frm.drew _ _ _),_,hsat,Qgj hX0 Ls⟩);rw [←h,qe _ (Nat.zero_le _) fun j o _ _ _ _=>hX0 j]
 rfl
end
end Go.Sl
namespace Go.Sl
theorem QlG {d:Nat}{s:Slot}{m:Mem}{v:Value}{a:Act} (hd:d < a.tmps.size) (hv:s.p m v):Vg [(d,s)] m (a.put (some d) v):=by
 intro t s' e
 by_cases h:d=t
 ·subst h; rw [Yc] at e; cases e; rw [Uo hd]; exact hv
 ·rw [XF h] at e; cases e
theorem QpB {m:Mem}{a:Act}:Vg [] m a:=fun t s e=>by cases e
section
variable {c : Ctx} {Γ : Env} {H H' : List Ent} {d : Tmp} {od : Option Tmp} {ty : TypeId} {pos : String} {aft : Array Edge} {g : Option (Nat × Bool)} {α β : Type}
theorem QdN {n N k:Nat} (h:Nat.blt n N=true) (e:k=N):n < k:=by rw [e]; simpa [Nat.blt_eq] using h
theorem Bn {T:TypeId}{R:Rep α}{x:α}{cs:List Value} (hz:KH R x cs) (hT:Wx c.P T=some cs) (hN:Nat.blt d c.N=true) :
  WJ c ⟨some d, .alloc T,ty,pos,aft,g⟩ Γ H (fun b:Nat=> [(d,val (.pointer (some ⟨b,0,none⟩)))]) (fun b=>box b T R x::H):=by
 intro m hs a w hg _ hsat ho hn;obtain ⟨v,hv,hc⟩:=Qad hT w;have hr:(execOp a.eval ⟨some d, .alloc T,ty,pos,aft,g⟩).run c.P w = .ok (.value (.pointer (some ⟨w.heap.size,0,none⟩))) (w.alloc (.cells cs.toArray T)):=by
  simp [execOp,Instr.alloc,hv,newVar,newRow,hc]
 rw [hr];exact ⟨w.heap.size,m,_,hg.newOwn T cs,QlG (QdN hN hn) rfl,⟨[(w.heap.size,T,cs)],hs,rfl,⟨cs,rfl,hz m⟩,hsat⟩,Frm.alloc _ _ _ _⟩
theorem qK {T T0:TypeId}{x y:Operand}{b off:Nat}{R:Rep α}{S:Rep β}{r r':α}{z:β}{get:α→β}{set:α→β→α} (hx:Has Γ x (val (.pointer (some ⟨b,off,none⟩))))
  (hy:Has Γ y (S.slot z)) (hk:Pick H (box b T0 R r) H') (hp:Path R off S get set) (hT:szB c.P T S.n=true) (e:set r z=r') :
  WJ c ⟨none, .store T x y,ty,pos,aft,g⟩ Γ H (fun _:Unit=> []) (fun _=>box b T0 R r'::H'):=by
 intro m hs a w hg _ hsat ho hn;subst e;have e:a.eval x=_:=hx m a (ho x (by simp [Op.operands]));obtain ⟨ds,hc,hd⟩:=Rep.is_cells (hy m a (ho y (by simp [Op.operands])));obtain ⟨h1,h2,hpm,⟨cs,rfl,hr⟩,hs2⟩:=hsat.pick hk;have hg':=hg.perm hpm;have hlen:off+S.n≤cs.length:=by rw [R.len hr]; exact hp.fits
 have hrun:(execOp a.eval ⟨none, .store T x y,ty,pos,aft,g⟩).run c.P w = .ok .skip (setBlk w b T0 (cs.take off++ds++cs.drop (off+S.n))):=by
  simp only [execOp,e,Sem.run_bind,UT hT hc (S.len hd) (S.cell hd) (hg'.blk (b,T0,cs) (by simp)) hlen]
  rfl
 rw [hrun];refine ⟨(),m,(b,T0,cs.take off++ds++cs.drop (off+S.n))::h2,hg'.setBlk _,QpB,⟨[_],h2,rfl,⟨_,rfl,hp.set_ok hr hd⟩,hs2⟩,?_⟩;exact Frm.ofPerm hpm (Frm.setBlk (by simp [Hp.bs]))
theorem Qbj {ST XT T E:TypeId}{x y:Operand}{R:Rep α}{v:Value}{ys xs:List α} (hx:Has Γ x (ov v)) (hk:Pick H (own T R v ys) H') (hy:Src c Γ H y R xs)
  (hT:slE c.P ST T R.n=true) (hX:c.P.underlying XT=some (.slice E)) (hb:ys.length+xs.length≤4294967296) (hN:Nat.blt d c.N=true) :
  WJ c ⟨some d, .call {callee:= .builtin .append,args:=#[x,y],argTypes:=#[ST,XT]},ty,pos,aft,g⟩ Γ H (fun v'=> [(d,ov v')]) (fun v'=>own T R v' (ys++xs)::H'):=by
 intro m hs a w hg _ hsat ho hn;have ex:a.eval x=v:=(Bv.1 (hx m a (ho x (by simp [Op.operands,Call.operands])))).1;obtain ⟨a0,cap0,ey,hsrc⟩:=hy m hs a w hg hsat (ho y (by simp [Op.operands,Call.operands]));obtain ⟨h1,h2,hpm,hown,hs2⟩:=hsat.pick hk;have hsrc':xs = []∨∃b o row,a0=some ⟨b,o,none⟩∧Zm R m row xs∧∀j v,row[j]? = some v→w.cell? ⟨b,o+j,none⟩=some v:=hsrc;obtain ⟨v',h1',w',hrun,ho',hg',hf'⟩:=Qe0 (rt:=ty) (cap0:=cap0) hT hX (hg.perm hpm) hown hsrc' hb;have hr:(execOp a.eval ⟨some d, .call {callee:= .builtin .append,args:=#[x,y],argTypes:=#[ST,XT]},ty,pos,aft,g⟩).run c.P w = .ok (.value v') w':=by
  simp only [execOp,resolve,Sem.run_bind,Sem.run_pure,Result.andThen_ok,invoke,builtin]
  simp only [List.map_toArray,List.map_cons,List.map_nil,ex,ey,hrun,Result.andThen_ok]
 rw [hr];exact ⟨v',m,h1'++h2,hg',QlG (QdN hN hn) (Bv.2 ⟨rfl,own.one ho'⟩),⟨h1',h2,rfl,ho',hs2⟩,Frm.ofPerm hpm hf'⟩
theorem Qoy {f:FuncId}{args:List Operand}{ats:Array TypeId}{A:List Slot}{E:List Ent}{ι:Type}{ρ:ι→Slot}{ε:ι→List Ent} (hA:BH Γ args A) (hf:WE c.P f=true)
  (hC:Ctr c.P c.G f A E ρ ε) (hE:Parts H E H') (hN:Nat.blt d c.N=true) :
  WJ c ⟨some d, .call {callee:= .value (.func f),args:=args.toArray,argTypes:=ats},ty,pos,aft,g⟩ Γ H (fun i=> [(d,ρ i)]) (fun i=>ε i++H'):=by
 intro m hs2 a w hg hG hsat ho hn;rw [WU hf a.eval (.func f) rfl];have hall:=hA.all (m:=m) (a:=a) (fun y hy=>ho y (by simp [Op.operands,Call.operands,hy]));obtain ⟨h1,h2,hp,hs1,hs3⟩:=hsat.parts hE;have hgp:=hg.perm hp;have hg1:Zk m h1 w:=Zk.sub (hs:=h2) (hgp.perm List.perm_append_comm);refine (hC m w (args.map a.eval) h1 hg1 hG hall hs1).mono ?_;rintro e w' ⟨v,m',hs',i,rfl,hg',hv,hsat',hf'⟩;have hnd:=hgp.nodup;rw [Hp.bs_append] at hnd;have hdj:=(List.nodup_append.1 hnd).2.2;have hn2:∀x∈h2,x.1∉Hp.bs h1:=fun x hx h=>hdj x.1 h x.1 (List.mem_map_of_mem (f:=(·.1)) hx) rfl
 have hl2:∀x∈h2,x.1 < w.heap.size:=fun x hx=>hgp.ltb (by rw [Hp.bs_append]; exact List.mem_append.2 (.inr (List.mem_map_of_mem (f:=(·.1)) hx)));have hg3:Zk m' (hs'++h2) w':=by
  refine ⟨hg'.mem,?_,fun x hx=>?_,fun x hx o=>?_⟩
  ·rw [Hp.bs_append];refine List.nodup_append.2 ⟨hg'.nodup,(List.nodup_append.1 hnd).2.1,fun b hb b' hb' e=>?_⟩;subst e;obtain ⟨x,hx,rfl⟩:=List.mem_map.1 hb'
   rcases hf'.own x.1 hb with h | h
   ·exact hn2 x hx h
   ·exact absurd (hl2 x hx) (Nat.not_lt.2 h)
  ·rcases List.mem_append.1 hx with hx | hx
   ·exact hg'.blk x hx
   ·rw [(hf'.old x.1 (hl2 x hx) (hn2 x hx)).1]; exact hgp.blk x (List.mem_append.2 (.inr hx))
  ·rcases List.mem_append.1 hx with hx | hx
   ·exact hg'.free x hx o
   ·rw [(hf'.old x.1 (hl2 x hx) (hn2 x hx)).2 o]; exact hgp.free x (List.mem_append.2 (.inr hx)) o
 refine ⟨v,rfl,i,m',hs'++h2,hg3,QlG (QdN hN hn) hv,hsat'.append (hs3.mono hf'.le),?_⟩;refine Frm.ofPerm hp ?_;rw [Hp.bs_append,Hp.bs_append];exact hf'.wide (Hp.bs h2)
theorem Qho {ST T n:Nat}{R:Rep α}{ps:List (Nat×Operand)}{zs:List α} (h:BuildS Γ R 0 ps zs) (hn:n=zs.length) (hs:Nat.ble (n*R.n) 16777216=true) (hT:slE c.P ST T R.n=true) (hN:Nat.blt d c.N=true) :
  WJ c ⟨some d, .buildSlice ST n ps.toArray,ty,pos,aft,g⟩ Γ H (fun v=> [(d,ov v)]) (fun v=>own T R v zs::H):=by
 intro m hs2 a w hg _ hsat ho hN';have hop:∀p∈ps,Opd Γ m a p.2:=fun p hp=>ho p.2 (by simp only [Op.operands]; simp; exact ⟨p.1,hp⟩)
 obtain ⟨cs,hr,hrun⟩:=WI (P:=c.P) (w:=w) hT hn (by simpa [Nat.ble_eq] using hs) h hop;have e:(execOp a.eval ⟨some d, .buildSlice ST n ps.toArray,ty,pos,aft,g⟩).run c.P w = .ok (.value (.slice (some ⟨w.heap.size,0,none⟩) n n)) (w.alloc (.cells cs.toArray T)):=by
  show (do let v ←Instr.buildSlice ST n (ps.toArray.map fun (p:Nat×Operand)=>(p.1,a.eval p.2)); pure (Next.value v):Sem Next).run c.P w=_;rw [Sem.run_bind,hrun]; rfl
 rw [e];refine ⟨_,m,_,hg.newOwn T cs,QlG (QdN hN hN') qo,⟨[(w.heap.size,T,cs)],hs2,rfl, .inr ⟨w.heap.size,n,cs, [],by rw [hn],by simp,hr,by omega,?_⟩,hsat⟩,Frm.alloc _ _ _ _⟩;rw [List.append_nil,hr.length,hn]
end
end Go.Sl
namespace Go.Sl
section
variable {c : Ctx} {full : Array Oper} {l : List Oper} {Γ Γ' : Env} {H H' : List Ent} {K : Act → World → Prop} {d : Tmp} {od : Option Tmp} {ty : TypeId} {pos : String} {aft : Array Edge} {g : Option (Nat × Bool)} {α β : Type}
theorem Qeq {o:Oper}{j d t:Nat}{want b:Bool}{s:Slot} (hg:o.guard=some (j,want)) (hj:(full[j]?).bind (·.dst)=some t) (hN:Nat.blt t c.N=true)
  (hl:lk Γ t=some s) (hb:∀m v,s.p m v→v = .bool b) (hne:(b==want)=false) (hd:o.dst=some d)
  (hN':Nat.blt d c.N=true) (k:J9 c full l ((d,val undef)::Γ) H K):J9 c full (o::l) Γ H K:=by
 intro a w Q hQ hst;have hst':=hst;obtain ⟨hdf,hn,m,hs,hgd,hG,he,hsat,hf⟩:=hst;have hv:=hb m _ (he t s hl);have hlt:t < a.tmps.size:=by rw [hn]; simpa [Nat.blt_eq] using hN
 have hy:yielded full a.tmps j=some b:=by
  simp only [yielded,hj,Option.bind_some,Array.getElem?_eq_getElem hlt]
  simp only [Array.getD,hlt,dite_true] at hv
  simp only [Array.getInternal_eq_getElem] at hv
  rw [hv]
 have hk:=k (a.put o.dst undef) w Q hQ ⟨by rw [XG]; exact hdf,by rw [Ku]; exact hn,m,hs,hgd,hG,by
  rw [hd]; exact he.put (by rw [hn]; simpa [Nat.blt_eq] using hN') rfl,hsat,hf⟩
 have hne':b≠want:=by simpa using hne
 have hw:Region.wanted o (yielded full a.tmps)=false:=by simp [Region.wanted,hg,hy,hne']
 simp only [wpListIn,hw,Bool.false_eq_true,if_false]
 exact ⟨fun f _=>QdJ _ f,hk⟩
theorem Qng {k:IntKind}{b:Nat}{t:TypeId}{x:Operand}{p:BitVec b} (hk:k.bits=b) (hs:k.signed=false) (hx:Has Γ x ((un k b).slot p)):PJ c ⟨od, .unOp .neg t x,ty,pos,aft,g⟩ Γ H ((un k b).slot (-p)):=
 XC fun m hs2 a w _ _ _ ho=>by
  have e:a.eval x=_:=Kh.1 (hx m a (ho x (by simp [Op.operands])));refine ⟨.int k (k.wrap (0 - (p.toNat:Int))),by simp [execOp,e,Op.unary,Op.intArith],Kh.2 ?_⟩;rw [Int.zero_sub];rw [Wm hk hs]
  congr 2
  have:BitVec.ofInt b (-(p.toNat:Int)) = -p:=by
   apply BitVec.eq_of_toInt_eq
   rw [BitVec.toInt_ofInt,BitVec.toInt_neg]
   simp [BitVec.toInt_eq_toNat_bmod]
  rw [this]
theorem Q1 {T:TypeId}{R:Rep α}{x:α}{y:Operand} (hy:Has Γ y (R.slot x)):PJ c ⟨od, .box T y,ty,pos,aft,g⟩ Γ H (QZ R x):=by
 intro m hs a w hg _ hsat ho;obtain ⟨cs,hc,hr⟩:=Rep.is_cells (hy m a (ho y (by simp [Op.operands])));have hrun:(execOp a.eval ⟨od, .box T y,ty,pos,aft,g⟩).run c.P w = .ok (.value (.pointer (some ⟨w.heap.size,0,none⟩))) (w.alloc (.cells cs.toArray T)):=by
  simp [execOp,Instr.box,newVar,newRow,hc]
 rw [hrun];have hg1:=hg.newOwn T cs;have hle:=hg1.le_put;refine ⟨m.put w.heap.size cs,hg1.freeze,⟨_,0,cs,rfl,R.mono hle hr,Mem.at_put m _ cs⟩,?_⟩;exact (Frm.alloc w m [] (.cells cs.toArray T)).freeze hle
theorem Jb {x:Operand}{R:Rep α}{p:Option α}{y:α} (hx:Has Γ x ((ptr R).slot p)) (hp:p=some y):PJ c ⟨od, .nilCheck x,ty,pos,aft,g⟩ Γ H (QZ R y):=by
 subst hp; exact QfQ (Qlv hx)
theorem Qet {T n:Nat}{x:Operand}{lo hi:Option Operand}{R:Rep α}{v:Vector α n}{p q:Option Int}{r:List α} (hx:Has Γ x (QZ (vec n R) v)) (hlo:OptI Γ lo p) (hhi:OptI Γ hi q)
  (h:JZ v.toList (p.getD 0) (q.getD n)=some r) (hlt:p.getD 0 < n) (hT:Qcs c.P T n R.n=true):PJ c ⟨od, .slice T x lo hi none,ty,pos,aft,g⟩ Γ H ((sl R).slot r):=
 XC fun m hs2 a w hg _ _ ho=>by
  obtain ⟨h0,h1,h2,h3⟩:=Qbq h;have h2':q.getD n≤(n:Int):=by simpa using h2
  obtain ⟨b,o,ds,e,hr,hat⟩:=hx m a (ho x (by simp [Op.operands]));have hlo':=hlo.val (m:=m) (a:=a) (fun y hy=>ho y (by subst hy; simp [Op.operands]));have hhi':=hhi.val (m:=m) (a:=a) (fun y hy=>ho y (by subst hy; simp [Op.operands]));obtain ⟨el,hu,hs⟩:=Qc4 hT;have hz:=UC hs w;have hb:=BG (P:=c.P) (isS:=false) hlo' hhi' h0 h1 h2' w;refine ⟨.slice (some ⟨b,o+(p.getD 0).toNat*R.n,none⟩) ((q.getD n).toNat - (p.getD 0).toNat) (n - (p.getD 0).toNat),by
   simp only [execOp,e,Option.map_none,Sem.run_bind,Instr.sliceAt,run_underlying hu,Result.andThen_ok,Instr.sureAddr,Sem.run_pure,hb,hz]
   rw [if_neg (by omega)]
   simp [Addr.add_lit],?_⟩
  have hrow:Zm R m ds v.toList:=hr;have hlen:r.length=(q.getD n).toNat - (p.getD 0).toNat:=by
   rw [←h3]; simp; omega
  refine ⟨_,n - (p.getD 0).toNat,by rw [hlen],by rw [hlen]; omega, .inr ⟨b,_,(ds.drop ((p.getD 0).toNat*R.n)).take (((q.getD n).toNat - (p.getD 0).toNat)*R.n),rfl,?_,hat.mid _ _⟩⟩;have:=(hrow.drop (p.getD 0).toNat).take ((q.getD n).toNat - (p.getD 0).toNat);rw [←h3,List.drop_take];exact this
theorem JH {T n:Nat}{x:Operand}{R:Rep α}{v:Vector α n} (hx:Has Γ x (QZ (vec n R) v)) (hn:0 < n) (hT:Qcs c.P T n R.n=true:=by kernel_rfl):PJ c ⟨od, .slice T x none none none,ty,pos,aft,g⟩ Γ H ((sl R).slot v.toList):=
 Qet (p:=none) (q:=none) hx .no .no (by simp only [JZ,Option.getD_none]; rw [if_pos (by simp)]; simp [List.take_of_length_le]) (by simpa using hn) hT
def Qec {n:Nat} (x:Vector α n):Nat→List α→Vector α n
 | _, []=>x
 | k,z::zs=>Qec (x.setIfInBounds k z) (k+1) zs
theorem Qce {n:Nat}:∀(zs:List α) (x:Vector α n) (k:Nat),k+zs.length≤n→(Qec x k zs).toList=x.toList.take k++zs++x.toList.drop (k+zs.length)
 | [],x,k,_=>by simp [Qec]
 | z::zs,x,k,h=>by
  simp only [List.length_cons] at h
  have hk:k < n:=by omega
  rw [Qec,Qce zs _ (k+1) (by omega)];have e:(x.setIfInBounds k z).toList=x.toList.set k z:=by simp [Vector.toList_setIfInBounds]
  rw [e,List.take_set,List.drop_set];have e1:x.toList.take (k+1)=x.toList.take k++ [x[k]]:=by
   rw [List.take_succ_eq_append_getElem (by simpa using hk)]; simp
  rw [e1];have hl:(x.toList.take k).length=k:=by simp; omega
  have e2:((x.toList.take k++ [x[k]]).set k z)=x.toList.take k++ [z]:=by
   rw [List.set_append]; simp [hl]
  rw [e2,if_pos (by omega)]
  simp only [List.append_assoc,List.singleton_append,List.length_cons]
  rw [show k+1+zs.length=k+(zs.length+1) by omega]
theorem Qi5 {n:Nat} (zs:List α) (h:zs.length=n) (x:Vector α n):Qec x 0 zs=⟨zs.toArray,by simpa using h⟩:=by
 apply Vector.toList_inj.1
 rw [Qce zs x 0 (by omega)]
 simp only [List.take_zero,List.nil_append,Nat.zero_add]
 rw [List.drop_of_length_le (by simp; omega)]
 simp [Vector.toList]
theorem Qii {P:Program}{T n sz:Nat} (h:Qcs P T n sz=true) (i:Nat):U1 P T i=some (i*sz,sz):=by
 obtain ⟨e,hu,hs⟩:=Qc4 h;unfold U1;rw [hu]
 simp only [szB] at hs
 cases hi:P.info? e with
 | none=>rw [hi] at hs; cases hs
 | some t=>rw [hi] at hs; simp only [beq_iff_eq] at hs; simp [hi,hs]
theorem Qfw {T n:Nat}{R:Rep α} (hT:Qcs c.P T n R.n=true):∀ {ps:List (Nat×Operand)}{zs:List α}{k:Nat} (x:Vector α n),BuildS Γ R k ps zs→k+zs.length≤n→BuildJ c.P T Γ (vec n R) ps x (Qec x k zs)
 | _,_,k,x, .nil,_=> .nil
 | _,_,k,x, .cons hy hr,h=>by
  simp only [List.length_cons] at h
  exact .cons hy (Path.atI n R k (by omega)) (Qii hT k) (Qfw hT _ hr (by omega))
theorem QiY {P:Program}{T n sz:Nat} (h:Qcs P T n sz=true):Qcq P T=true:=by
 obtain ⟨e,hu,hs⟩:=Qc4 h;unfold Qcq;rw [hu]
 simp only [szB] at hs
 show (P.info? e).isSome=true
 cases hi:P.info? e with
 | none=>rw [hi] at hs; cases hs
 | some t=>rfl
theorem K0 {T n:Nat}{R:Rep α}{z0:α}{zs:List α}{v:Vector α n}{ps:List (Nat×Operand)}{zc:List Value} (hz:KH (vec n R) (Vector.replicate n z0) zc) (hZ:Wx c.P T=some zc) (h:BuildS Γ R 0 ps zs) (hT:Qcs c.P T n R.n=true) (hv:v.toList=zs) :
  PJ c ⟨od, .build T ps.toArray,ty,pos,aft,g⟩ Γ H ((vec n R).slot v):=by
 have hl:zs.length=n:=by rw [←hv]; simp
 have:=Qiw (c:=c) (Γ:=Γ) (H:=H) (od:=od) (ty:=ty) (pos:=pos) (aft:=aft) (g:=g) hz hZ (QiY hT) rfl (Qfw hT (Vector.replicate n z0) h (by omega));rw [Qi5 zs hl] at this;have e:v=⟨zs.toArray,by simpa using hl⟩:=by
  apply Vector.toList_inj.1
  rw [hv]; simp [Vector.toList]
 rw [e]; exact this
def fnS (f:FuncId) (ss:List Slot):Slot where
 p:=fun m v=>∃cs:List Value,v = .func (.func f) #[] cs.toArray∧BI m ss cs
 mono:=fun hm ⟨cs,e,h⟩=>⟨cs,e,h.mono hm⟩
theorem Qnq {f:FuncId}:Has Γ (.func f) (fnS f []):=fun m a _=>⟨[],rfl,rfl⟩
theorem qF {f:FuncId}{xs:List Operand}{ss:List Slot} (h:BH Γ xs ss):PJ c ⟨od, .makeFunc (.func f) #[] xs.toArray,ty,pos,aft,g⟩ Γ H (fnS f ss):=
 XC fun m hs a w _ _ _ ho=>by
  have hall:=h.all (m:=m) (a:=a) (fun y hy=>ho y (by simp [Op.operands,hy]));refine ⟨.func (.func f) #[] ((xs.map a.eval).toArray),?_,xs.map a.eval,rfl,hall⟩
  simp [execOp,Instr.makeFunc,Sem.run_bind]
theorem QiJ {P:Program}{f:FuncId} (h:WE P f=true) (ρ:Operand→Value) (x:Operand) (cs:List Value) (hx:ρ x = .func (.func f) #[] cs.toArray) (args:List Operand) (ats:Array TypeId) (w:World) (od:Option Tmp) (g:Option (Nat×Bool)) :
  (execOp ρ ⟨od, .call {callee:= .value x,args:=args.toArray,argTypes:=ats},ty,pos,aft,g⟩).run P w = .ok (.enter f (args.map ρ++cs).toArray) w:=by
 simp only [execOp,resolve,Sem.run_bind,hx,Deferred.ofValue,Sem.run_pure,Result.andThen_ok,invoke]
 simp only [List.map_toArray,Array.empty_append,List.append_toArray]
 rw [QaI h]; rfl
theorem BI.append {m:Mem}:∀ {ss ss':List Slot}{vs vs':List Value},BI m ss vs→BI m ss' vs'→BI m (ss++ss') (vs++vs')
 | [],_,_,_,h,k=>by cases h; exact k
 | s::ss,_,_,_,⟨v,vs',e,p,q⟩,k=>by subst e; exact ⟨v,_,rfl,p,BI.append q k⟩
theorem Qe6 {x:Operand}{f:FuncId}{args:List Operand}{ats:Array TypeId}{A ss:List Slot}{ι:Type}{s:Slot} (hx:Has Γ x (fnS f ss)) (hA:BH Γ args A) (hf:WE c.P f=true)
  (hC:Ctr c.P c.G f (A++ss) [] (fun _:ι=>s) (fun _=> [])):PJ c ⟨od, .call {callee:= .value x,args:=args.toArray,argTypes:=ats},ty,pos,aft,g⟩ Γ H s:=by
 intro m hs a w hg hG hsat ho;obtain ⟨cs,hxe,hcs⟩:=hx m a (ho x (by simp [Op.operands,Call.operands]));rw [QiJ hf a.eval x cs hxe];have hall:=hA.all (m:=m) (a:=a) (fun y hy=>ho y (by simp [Op.operands,Call.operands,hy]));have hg0:Zk m [] w:=⟨hg.mem,List.nodup_nil,(fun _ h=>by cases h),(fun _ h=>by cases h)⟩;refine (hC m w (args.map a.eval++cs) [] hg0 hG (hall.append hcs) rfl).mono ?_;rintro e w' ⟨v,m',hs',i,rfl,hg',hv,hsat',hf'⟩
 cases hsat'
 refine ⟨v,rfl,m',?_,hv,hf'⟩;refine ⟨hg'.mem,hg.nodup,fun h hh=>?_,fun h hh o=>?_⟩
 ·have hb:=List.mem_map_of_mem (f:=(·.1)) hh;rw [(hf'.old h.1 (hg.ltb hb) (by simp [Hp.bs])).1]; exact hg.blk h hh
 ·have hb:=List.mem_map_of_mem (f:=(·.1)) hh;rw [(hf'.old h.1 (hg.ltb hb) (by simp [Hp.bs])).2]; exact hg.free h hh o
end
end Go.Sl
namespace Go.Sl
section
variable {c : Ctx} {full : Array Oper} {l : List Oper} {Γ Γ' : Env} {H H' : List Ent} {K : Act → World → Prop} {Q : Exit → Act → World → Prop} {k : List Code} {α β : Type}
theorem Qll {id n:Nat}{L:List Oper}{Ls:List Line}{σ:List Slot} (hm:c.P.follows .mixedOrders=true) (hB:BV L n=true) (hn:Nat.ble n L.length=true) (hN:QeZ c.N (L.take n)=true) (hU:Qem (L.take n)=true)
  (hL:Qcp (L.take n) Ls=true) (hR:RL c L H Ls 0 (L.take n) Γ σ)
  (h:Qez (fun V E=>J9 c L.toArray (L.drop n) (V++Qdo Γ (L.take n) σ) (E++H) (Qac c.ro c.P Q k)) Ls [] []):Run c Q (.region id L.toArray true::k) Γ ((Ls.map (·.ini)).flatten++H):=
 fun a w hst=>QnL hst hm hB hn hN hU hL hR h
theorem WX {κ:Type}{d:Nat}{s:κ→Slot}:∀(i:κ) (d':Nat) (s':Slot),lk [(d,s i)] d'=some s'→some d=some d':=by
 intro i d' s' e
 by_cases h:d=d'
 ·rw [h]
 ·rw [XF h] at e; cases e
theorem Qhw {κ:Type}{o:Option Nat}:∀(i:κ) (d':Nat) (s':Slot),lk ([]:Env) d'=some s'→o=some d':=fun _ _ _ e=>by cases e
theorem Vh {κ:Type}{V2:κ→Env}{o:Option Nat}:∀(i:κ) (m:Mem) (a:Act),Vg (V2 i) m a→∀d,o=some d→any.p m (a.tmps.getD d undef):=fun _ _ _ _ _ _=>trivial
theorem Qbn {κ:Type}{d:Nat}{s:Slot}:∀(i:κ) (m:Mem) (a:Act),Vg ((fun _:κ=> [(d,s)]) i) m a→∀d',some d=some d'→s.p m (a.tmps.getD d' undef):=fun i m a h d' e=>by cases e; exact h d s (Yc _ _ _)
theorem Qbs {κ:Type}{V2:κ→Env}{s:Slot}:∀(i:κ) (m:Mem) (a:Act),Vg (V2 i) m a→∀d,(none:Option Nat)=some d→s.p m (a.tmps.getD d undef):=fun _ _ _ _ _ e=>by cases e
theorem Js {T:TypeId}{R:Rep α}{b t:Nat}{x:α} (hk:Pick H (box b T R x) H') (ht:Imp Γ t (val (.pointer (some ⟨b,0,none⟩))))
  (k:J9 c full l ((t,QZ R x)::Γ) H' K):J9 c full l Γ H K:=by
 intro a w Q hQ hst;have h:=hst.freezeBox [t] hk (fun u hu=>by rw [List.mem_singleton.1 hu]; exact ht);obtain ⟨hd,hn,m,hs,hg,hG,he,hsat,hf⟩:=h;refine k a w Q hQ ⟨hd,hn,m,hs,hg,hG,?_,hsat,hf⟩;have he':Vg ((t,(ptr R).slot (some x))::Γ) m a:=he;intro u s e
 by_cases hu:t=u
 ·subst hu;rw [Yc] at e; cases e;obtain ⟨b',o,ds,e1,hr,hat⟩:=he' t _ (Yc _ _ _)
  simp only [List.cons.injEq,and_true] at e1
  exact ⟨b',o,ds,e1,hr,hat⟩
 ·rw [XF hu] at e;exact he' u s (by rw [XF hu]; exact e)
def str : Rep (List (BitVec 8)) where
 n:=1
 ag:=false
 rel:=fun _ cs x=>∃s:ByteArray,cs = [.string s]∧s.data.toList.map UInt8.toBitVec=x
 mono:=fun _ h=>h
 len:=fun ⟨s,e,_⟩=>by rw [e]; rfl
 cell:=fun ⟨s,e,_⟩ v hv=>by rw [e] at hv; simp at hv; subst hv; rfl
 one:=fun _=>rfl
end
end Go.Sl
namespace Go.Sl
def Qok {α:Type} (l:List α):Slot:=⟨fun _ v=>(v = .bool true∧l = [])∨v = .bool false,fun _ h=>h⟩
theorem Qjq {P:Program}{T E:TypeId} (h:P.underlying T=some (.slice E)) (a:Option Addr) (n k:Nat) (w:World) :
  (binOp .eql T (.slice a n k) (.slice none 0 0)).run P w = .ok (.bool a.isNone) w:=by
 have key:∀n',(Op.equalIn (n'+1) T (.slice a n k) (.slice none 0 0)).run P w = .ok a.isNone w:=by
  intro n'
  cases a with
  | none=>simp only [Op.equalIn,Sem.run_bind,run_underlying h,Result.andThen_ok,Sem.run_pure]
  | some a=>simp only [Op.equalIn,Sem.run_bind,run_underlying h,Result.andThen_ok,Sem.run_pure]; rfl
 have h2:=key 9999
 simp only [binOp,Op.equal,Op.maxDepth,Sem.run_bind,h2,Result.andThen_ok,Sem.run_pure]
section
variable {c : Ctx} {Γ : Env} {H : List Ent} {od : Option Tmp} {ty : TypeId} {pos : String} {aft : Array Edge} {g : Option (Nat × Bool)} {α : Type} {Q : Exit → Act → World → Prop} {k : List Code}
theorem QlN {T yt E:TypeId}{x:Operand}{R:Rep α}{l:List α} (hT:c.P.underlying T=some (.slice E)) (hx:Has Γ x ((sl R).slot l)) :
  PJ c ⟨od, .binOp .eql T x (.const (.slice none 0 0)) yt,ty,pos,aft,g⟩ Γ H (Qok l):=
 Yq hx (QeM (v:= .slice none 0 0)) fun m u v w hu hv=>by
  cases hv
  obtain ⟨a,cap,e,hc,h⟩:=hu
  simp only [List.cons.injEq,and_true] at e; subst e
  refine ⟨.bool a.isNone,?_,?_⟩
  ·have e1:(eqGuard .eql T x (.const (.slice none 0 0)) (.slice a l.length cap) (.slice none 0 0)).run c.P w = .ok () w:=by
    simp only [eqGuard]; rfl
   rw [Sem.run_bind,e1,Result.andThen_ok];exact Qjq hT _ _ _ _
  ·cases a with
   | none=>
    refine .inl ⟨rfl,h.elim id ?_⟩;rintro ⟨b,o,row,e',_⟩; cases e'
   | some a=>exact .inr rfl
theorem QgX {x:Operand}{A B:Code}{l:List α} (hx:Has Γ x (Qok l)) (h1:l = []→Run c Q (A::k) Γ H) (h2:Run c Q (B::k) Γ H):Run c Q (.cond x A B::k) Γ H:=by
 intro a w hst;have hst':=hst;obtain ⟨_,_,m,hs,_,_,he,_⟩:=hst'
 rcases hx m a (he.opd x) with ⟨hv,hl⟩ | hv
 ·exact wpIn_cond_split hv (fun _=>h1 hl a w hst) (fun hb=>by cases hb)
 ·exact wpIn_cond_split hv (fun hb=>by cases hb) (fun _=>h2 a w hst)
end
end Go.Sl
namespace Go.Sl
def exr {α:Type} (R:Rep α) (cs:List Value):Rep α where
 n:=R.n
 ag:=R.ag
 rel:=fun m ds x=>ds=cs∧R.rel m ds x
 mono:=fun hm ⟨e,h⟩=>⟨e,R.mono hm h⟩
 len:=fun ⟨_,h⟩=>R.len h
 cell:=fun ⟨_,h⟩=>R.cell h
 one:=R.one
inductive XW : List Ent→List Ent→Prop
 | refl {H:List Ent}:XW H H
 | ex {α:Type}{b:Nat}{T:TypeId}{R:Rep α}{cs:List Value}{x:α}{H H':List Ent}:XW H H'→XW (box b T (exr R cs) x::H) (box b T R x::H')
 | keep {e:Ent}{H H':List Ent}:XW H H'→XW (e::H) (e::H')
theorem XW.sat {H H':List Ent} (h:XW H H'):∀ {m:Mem}{hs:Hp},Sat H m hs→Sat H' m hs:=by
 induction h with
 | refl=>exact fun h=>h
 | ex _ ih=>rintro m hs ⟨h1,h2,e,⟨cs',e',h⟩,q⟩; exact ⟨h1,h2,e,⟨cs',e',h.2⟩,ih q⟩
 | keep _ ih=>rintro m hs ⟨h1,h2,e,p,q⟩; exact ⟨h1,h2,e,p,ih q⟩
section
variable {c : Ctx} {Γ : Env} {H H' : List Ent} {od : Option Tmp} {ty : TypeId} {pos : String} {aft : Array Edge} {g : Option (Nat × Bool)} {α β : Type}
theorem PJ.xw {o:Oper}{s:Slot} (h:XW H H') (k:PJ c o Γ H' s):PJ c o Γ H s:=fun m hs a w hg hG hsat ho=>k m hs a w hg hG (h.sat hsat) ho
theorem KQ {f:FuncId}{args:List Operand}{ats:Array TypeId}{A:List Slot}{s:Slot}{ι:Type}{b:Nat}{T:TypeId}{R:Rep α}{x:α} (hA:BH Γ args A) (hk:Pick H (box b T R x) H') (hf:WE c.P f=true)
  (hC:∀cs,Ctr c.P c.G f A [box b T (exr R cs) x] (fun _:ι=>s) (fun _=> [box b T (exr R cs) x])):PJ c ⟨od, .call {callee:= .value (.func f),args:=args.toArray,argTypes:=ats},ty,pos,aft,g⟩ Γ H s:=by
 intro m hs a w hg hG hsat ho;rw [WU hf a.eval (.func f) (Qdg (Γ:=Γ) m a trivial)];have hall:=hA.all (m:=m) (a:=a) (fun y hy=>ho y (by simp [Op.operands,Call.operands,hy]));obtain ⟨cs,hmem,hr⟩:=Sat.box (w:=w) hsat hk;have hg0:Zk m [(b,T,cs)] w:=⟨hg.mem,by simp [Hp.bs],(fun h hh=>by rw [List.mem_singleton.1 hh]; exact hg.blk _ hmem),(fun h hh=>by rw [List.mem_singleton.1 hh]; exact hg.free _ hmem)⟩;refine (hC cs m w (args.map a.eval) [(b,T,cs)] hg0 hG hall ⟨[(b,T,cs)], [],rfl,⟨cs,rfl,rfl,hr⟩,rfl⟩).mono ?_;rintro e w' ⟨v,m',hs',i,rfl,hg',hv,⟨h1,h2,rfl,⟨cs',rfl,rfl,hr'⟩,rfl⟩,hf'⟩;have hb':w'.heap[b]? = w.heap[b]?:=by
  rw [hg.blk _ hmem,hg'.blk (b,T,cs') (by simp)]
 have hbm:∀o,m' b o=m b o:=fun o=>by
  rw [hg.free _ hmem o,hg'.free (b,T,cs') (by simp) o]
 have hold:∀b',b' < w.heap.size→w'.heap[b']? = w.heap[b']?∧∀o,m' b' o=m b' o:=by
  intro b' hlt
  by_cases e:b'=b
  ·subst e; exact ⟨hb',hbm⟩
  ·exact hf'.old b' hlt (by simpa [Hp.bs] using e)
 refine ⟨v,rfl,m',?_,hv,⟨hf'.os,hf'.tape,hf'.output,hf'.size,fun b' hlt _=>hold b' hlt,(fun b hb=>by cases hb),hf'.le⟩⟩;refine ⟨hg'.mem,hg.nodup,fun x hx=>?_,fun x hx o=>?_⟩
 ·have hlt:=hg.ltb (List.mem_map_of_mem (f:=(·.1)) hx);rw [(hold x.1 hlt).1];exact hg.blk x hx
 ·have hlt:=hg.ltb (List.mem_map_of_mem (f:=(·.1)) hx);rw [(hold x.1 hlt).2 o];exact hg.free x hx o
end
theorem Ctr.frozeR {α β:Type}{P:Program}{G:GP}{f:FuncId}{A:List Slot}{b:Nat}{T T':TypeId}{R:Rep α}{R':Rep β}{x:α}{xs:List β} (h:∀cs,Ctr P G f A [box b T (exr R cs) x] (fun v:Value=>ov v) (fun v=> [box b T (exr R cs) x,own T' R' v xs])) :
  ∀cs,Ctr P G f A [box b T (exr R cs) x] (fun _:Unit=>(sl R').slot xs) (fun _=> [box b T (exr R cs) x]):=by
 intro cs m w vs hs hg hG hA hsat;refine (h cs m w vs hs hg hG hA hsat).mono ?_;rintro e w' ⟨v,m',hs',i,rfl,hg',hv,⟨h1,h2,rfl,hb,h3,h4,rfl,ho,h4e⟩,hf'⟩
 cases h4e
 rw [List.append_nil] at hg' hf';have hp:(h1++h3).Perm (h3++h1):=List.perm_append_comm;obtain ⟨m2,hle,hg2,hv2,hf2,_⟩:=own.froze ho (hg'.perm hp) (hf'.perm hp);have:v=i:=(Bv.1 hv).1;subst this;exact ⟨v,m2,h1,(),rfl,hg2,hv2,⟨h1, [],by simp,Ent.mono _ hle hb,rfl⟩,hf2⟩
end Go.Sl
