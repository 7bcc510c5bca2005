import Derived.Test.YtheldkljmefbaaaGreatDoorG1
set_option linter.unusedSimpArgs false
set_option linter.unusedVariables false
namespace Go.Sl.Pu
open Go.Sl Go.Sl.M
theorem Qpr (x:BitVec 64) (k:Nat) (hk:k≤8) (b:List (BitVec 8)) (hb:b.length≤4000000000) :
  ∃y,Jd (fun (s:Int×(List (BitVec 8)))=>Yr x s.1 s.2) FU ((k:Int) - 1,b)=some (y,b++be x k):=by
 have h:=JQ (f:=fun (s:Int×(List (BitVec 8)))=>Yr x s.1 s.2) (fun i (_:Unit)=>((k:Int) - 1 - (i:Int),b++(be x k).take i)) (fun _ s=>s) 0 k (fun i s h1 h2=>by
  simp only [Yr]
  have e1:(k:Int) - 1 - (i:Int)=((k - 1 - i:Nat):Int):=by omega
  rw [e1,QA (by simp),Jr (n:=8*((k - 1 - i:Nat):Int)) (by omega) (by omega),QA (by omega),QA (by simp [AP,JW]; omega),Jr (by omega) (by omega)];have e2:(8*((k - 1 - i:Nat):Int)).toNat=8*(k - 1 - i):=by omega
  have e3:(be x k).take (i+1)=(be x k).take i++ [(x >>> (8*(k - 1 - i))).setWidth 8]:=by
   rw [List.take_succ_eq_append_getElem (by rw [JW]; exact h2)]
   simp [be]
  have e5:((k - 1 - i:Nat):Int) - 1=(k:Int) - 1 - ((i+1:Nat):Int):=by omega
  rw [e2,e3,←List.append_assoc,e5]) (fun s=>by
  simp only [Yr]
  rw [QQ (by simp; omega)]) FU () (by omega) (J6 (by omega))
 refine ⟨(k:Int) - 1 - (k:Int),?_⟩;have e:(be x k).take k=be x k:=List.take_of_length_le (by rw [JW]; exact Nat.le_refl _)
 simpa [e] using h
theorem QfI (b:List (BitVec 8)) (hb:b.length≤4000000000) (x:BitVec 64) (k:Nat) (hk:k≤8):YD (b,false) x (k:Int)=some (b++be x k,false):=by
 unfold YD;obtain ⟨y,hy⟩:=Qpr x k hk b hb;rw [Option.bind_some,QQ (by simp),Jr (by omega) (by omega),Qb hy]
theorem QbF {w:Nat} (x:BitVec w) (k:Nat) (hk:8*k≤w) (hw:w≤64):be (x.setWidth 64) k=be x k:=by
 simp only [be]
 apply List.map_congr_left
 intro j hj
 apply BitVec.eq_of_getLsbD_eq
 intro i hi
 simp only [BitVec.getLsbD_setWidth,BitVec.getLsbD_ushiftRight,hi,decide_true,Bool.true_and]
 have:=List.mem_range.1 hj;have h64:8*(k - 1 - j)+i < 64:=by omega
 simp [h64]
theorem qR (b:List (BitVec 8)) (hb:b.length≤4000000000) (x:BitVec 32):ZV (b,false) x=some (b++be x 4,false):=by
 unfold ZV;have h:=QfI b hb (x.setWidth 64) 4 (by omega);have h':YD (b,false) (x.setWidth 64) (4:Int)=_:=h;rw [Qb h',QbF x 4 (by omega) (by omega)]
theorem Uu (b c:List (BitVec 8)) (h:b.length+c.length≤4000000000):Zd (b,false) c=some (b++c,false):=by
 unfold Zd;rw [Option.bind_some,QA (by simp),QA (by simp [AP]; omega)]
theorem Qia (b:List (BitVec 8)) (h:b.length≤4000000000):J0 b=some b:=by
 unfold J0;rw [QA (by simp [AP]; omega)]; rfl
theorem Qdx (b:List (BitVec 8)) (h:b.length≤4000000000):Xf (b,false)=some ((b,false),b,0):=by
 unfold Xf;rw [QQ (by simp),Qb (Qia b h)]
theorem QbS (b:List (BitVec 8)) (h:b.length≤4000000000):U9 b=some (b,false):=by
 unfold U9;rw [Qb (Qia b h),Option.bind_some]
theorem Qh5 (b:List (BitVec 8)) (n:Nat) (h:n≤b.length):Z3 (b,false) (n:Int)=some ((b.drop n,false),b.take n):=by
 unfold Z3;rw [Option.bind_some,QQ (by simp),QQ (by simp),Option.bind_some,QQ (by simp; omega),Qb (J5 (lo:=0) (a:=0) (b:=n) rfl rfl (by omega) h),Qb (J5 (lo:=(n:Int)) (hi:=(b.length:Int)) (a:=n) (b:=b.length) rfl rfl h (Nat.le_refl _))]
 simp
theorem Qew (b:List (BitVec 8)) (n:Int) (h:n < 0∨(b.length:Int) < n):Z3 (b,false) n=some ((b,true), []):=by
 unfold Z3;rw [Option.bind_some,QQ (by simp)]
 by_cases hn:n < 0
 ·rw [QA (by simpa using hn),Option.bind_some,QA rfl]
 ·rw [QQ (by simpa using hn),Option.bind_some,QA (by simp; omega)]
theorem QgT (b:List (BitVec 8)) (n:Int):Z3 (b,true) n=some ((b,true), []):=by
 unfold Z3;rw [Option.bind_some,QA rfl]
theorem QmV (b:List (BitVec 8)) (hb:b.length≤100):Jd (fun (s:(BitVec 64)×Int)=>Y1 b s.1 s.2) FU (0#64,(0:Int))=some (val b,(b.length:Int)):=by
 have h:=JQ (f:=fun (s:(BitVec 64)×Int)=>Y1 b s.1 s.2) (fun i (_:Unit)=>(val (b.take i),(i:Int))) (fun _ s=>s) 0 b.length (fun i s h1 h2=>by
  simp only [Y1]
  rw [QA (by simp; omega),Qb (Jl rfl h2),JA (n:=(i:Int)+1) (by omega)];have e:val (b.take (i+1))=(val (b.take i) <<< 8) ||| (b[i]).setWidth 64:=by
   rw [List.take_succ_eq_append_getElem h2];unfold val;rw [List.foldl_append]
   simp only [List.foldl_cons,List.foldl_nil]
   generalize List.foldl (fun x c=>x*256#64+BitVec.setWidth 64 c) 0#64 (List.take i b)=X
   generalize b[i]=c
   have hmul:X*256#64=X <<< 8:=by
    apply BitVec.eq_of_toNat_eq
    simp [BitVec.toNat_mul,BitVec.toNat_shiftLeft,Nat.shiftLeft_eq]
   rw [hmul]
   apply BitVec.eq_of_toNat_eq
   have hc:=c.isLt;rw [BitVec.toNat_add,BitVec.toNat_or,BitVec.toNat_shiftLeft,BitVec.toNat_setWidth];have h1:c.toNat % 2^64=c.toNat:=Nat.mod_eq_of_lt (by omega);rw [h1];have h2:(X.toNat <<< 8 % 2^64)=2^8*(X.toNat % 2^56):=by rw [Nat.shiftLeft_eq]; omega
   rw [h2,Nat.two_pow_add_eq_or_of_lt (by omega)];have hx:X.toNat % 2^56 < 2^56:=Nat.mod_lt _ (by decide);rw [←Nat.two_pow_add_eq_or_of_lt (by omega)]
   omega
  rw [e]; rfl) (fun s=>by
  simp only [Y1]
  rw [QQ (by simp)]) FU () (by omega) (J6 (by omega))
 simpa [val] using h
theorem Qnj (b:List (BitVec 8)) (k:Nat) (hk:k≤8) (h:k≤b.length):X1 (b,false) (k:Int)=some (val (b.take k),true):=by
 unfold X1;rw [Option.bind_some,QQ (by simp),Option.bind_some,QQ (by simp; omega),Qb (J5 (lo:=0) (a:=0) (b:=k) rfl rfl (by omega) h),List.drop_zero,Qb (QmV (b.take k) (by simp; omega))]
theorem QiW (b:List (BitVec 8)) (k:Int) (h:(b.length:Int) < k):X1 (b,false) k=some (0#64,false):=by
 unfold X1;rw [Option.bind_some,QQ (by simp),Option.bind_some,QA (by simp; omega)]
theorem QjC (b:List (BitVec 8)) (k:Nat) (hk:k≤8) (h:k≤b.length):YK (b,false) (k:Int)=some ((b.drop k,false),val (b.take k)):=by
 unfold YK;rw [Qb (Qnj b k hk h),Qb (Qh5 b k h),QQ (by simp)]
theorem Qgg (b:List (BitVec 8)) (k:Int) (h:(b.length:Int) < k):YK (b,false) k=some ((b,true),0#64):=by
 unfold YK;rw [Qb (QiW b k h),Qb (Qew b k (.inr h)),QA (by simp)]
theorem Qkw (b:List (BitVec 8)) (h:4≤b.length):JF (b,false)=some ((b.drop 4,false),(val (b.take 4)).setWidth 32):=by
 unfold JF;have h':YK (b,false) (4:Int)=_:=QjC b 4 (by omega) h;rw [Qb h']
theorem Qjc (b:List (BitVec 8)) (h:b.length < 4):JF (b,false)=some ((b,true),0#32):=by
 unfold JF;rw [Qb (Qgg b 4 (by omega))]; rfl
theorem QdS (b:List (BitVec 8)) (n:Nat) (h:n≤b.length):Ja (b,false) (n:Int)=some ((b.drop n,false),b.take n):=by
 unfold Ja;rw [Qb (Qh5 b n h)]
theorem Qax (b:List (BitVec 8)) (n:Int) (h:n < 0∨(b.length:Int) < n):Ja (b,false) n=some ((b,true), []):=by
 unfold Ja;rw [Qb (Qew b n h)]
theorem Bj (b:List (BitVec 8)) (n:Int):Ja (b,true) n=some ((b,true), []):=by
 unfold Ja;rw [Qb (QgT b n)]
theorem Qi8 (b:List (BitVec 8)) (k:Nat) (hk:b.length≤k) (h8:k≤7):(val b).toNat < 2^(8*k):=by
 have key:∀(b:List (BitVec 8)) (x:BitVec 64) (n:Nat),x.toNat < 2^(8*n)→n+b.length≤7→(b.foldl (fun x c=>x*256#64+c.setWidth 64) x).toNat < 2^(8*(n+b.length)):=by
  intro b
  induction b with
  | nil=>intro x n h _; simpa using h
  | cons c b ih=>
   intro x n h hn;rw [List.foldl_cons,List.length_cons]
   simp only [List.length_cons] at hn
   have hx:(x*256#64+c.setWidth 64).toNat < 2^(8*(n+1)):=by
    have hc:=c.isLt;have e:2^(8*(n+1))=256*2^(8*n):=by rw [Nat.mul_add,Nat.pow_add,Nat.mul_comm]
    have hp:2^(8*(n+1))≤2^56:=Nat.pow_le_pow_right (by decide) (by omega);have h56:(2:Nat)^56=72057594037927936:=by decide
    rw [h56] at hp;have h3:(x*256#64+c.setWidth 64).toNat=x.toNat*256+c.toNat:=by
     rw [BitVec.toNat_add,BitVec.toNat_mul,BitVec.toNat_setWidth];have h64:(2:Nat)^64=18446744073709551616:=by decide
     rw [h64];have h2:(256#64).toNat=256:=rfl;rw [h2]
     generalize 2^(8*n)=z at *
     generalize 2^(8*(n+1))=z2 at *
     omega
    rw [h3]
    generalize 2^(8*n)=z at *
    generalize 2^(8*(n+1))=z2 at *
    omega
   have:=ih _ (n+1) hx (by omega);rw [show n+(b.length+1)=n+1+b.length by omega];exact this
 have:=key b 0#64 0 (by simp) (by omega);rw [Nat.zero_add] at this;exact Nat.lt_of_lt_of_le this (Nat.pow_le_pow_right (by decide) (by omega))
theorem Qij (x:BitVec 32):val (be x 4)=x.setWidth 64:=by
 have e:be x 4 = [(x >>> 24).setWidth 8,(x >>> 16).setWidth 8,(x >>> 8).setWidth 8,x.setWidth 8]:=by simp [be,List.range_succ]
 rw [e]
 apply BitVec.eq_of_toNat_eq
 have hx:=x.isLt
 simp only [val,List.foldl_cons,List.foldl_nil,BitVec.toNat_add,BitVec.toNat_mul,BitVec.toNat_setWidth,BitVec.toNat_ushiftRight,BitVec.toNat_ofNat,Nat.shiftRight_eq_div_pow]
 omega
end Go.Sl.Pu
namespace Go.Sl.Pu
open Go.Sl Go.Sl.M
def und (id:QX) (q:BitVec 32) (i:Nat) (b:List (BitVec 8)):Qa:=sha (((id.toList++be q 4)++be (BitVec.ofNat 16 i) 2)++b)
theorem Qph (i:Nat):be (BitVec.ofNat 16 i) 2 = [BitVec.ofNat 8 (i / 256),BitVec.ofNat 8 i]:=by
 rw [be2];have a1:((BitVec.ofNat 16 i) >>> 8).setWidth 8=BitVec.ofNat 8 (i / 256):=by apply BitVec.eq_of_toNat_eq; simp [Nat.shiftRight_eq_div_pow]; omega
 have a2:(BitVec.ofNat 16 i).setWidth 8=BitVec.ofNat 8 i:=by apply BitVec.eq_of_toNat_eq; simp
 rw [a1,a2]
theorem Qhk (i:Nat):be (BitVec.ofNat 64 i) 2=be (BitVec.ofNat 16 i) 2:=by
 rw [be2,Qph];have a1:((BitVec.ofNat 64 i) >>> 8).setWidth 8=BitVec.ofNat 8 (i / 256):=by apply BitVec.eq_of_toNat_eq; simp [Nat.shiftRight_eq_div_pow]; omega
 have a2:(BitVec.ofNat 64 i).setWidth 8=BitVec.ofNat 8 i:=by apply BitVec.eq_of_toNat_eq; simp
 rw [a1,a2]
theorem Qpz (q:BitVec 32):be q 4 = [(q >>> 24).setWidth 8,(q >>> 16).setWidth 8,(q >>> 8).setWidth 8,q.setWidth 8]:=by simp [be,List.range_succ]
theorem QdA (n:Nat):BitVec.ofInt 64 (n:Int)=BitVec.ofNat 64 n:=by apply BitVec.eq_of_toNat_eq; simp
theorem QgS (n:Nat):BitVec.ofInt 8 (n:Int)=BitVec.ofNat 8 n:=by apply BitVec.eq_of_toNat_eq; simp
theorem Bl (n:Nat):BitVec.ofInt 32 (n:Int)=BitVec.ofNat 32 n:=by apply BitVec.eq_of_toNat_eq; simp
def tot (parts:List (List (BitVec 8))):Nat:=(parts.map List.length).sum
theorem QdB (parts:List (List (BitVec 8))):∀i,(parts.take i).flatten.length≤tot parts:=by
 induction parts with
 | nil=>intro i; simp [tot]
 | cons p r ih=>
  intro i
  cases i with
  | zero=>simp
  | succ i=>
   have:=ih i
   simp only [tot,List.map_cons,List.sum_cons] at *
   simp only [List.take_succ_cons,List.flatten_cons,List.length_append]; omega
theorem QbA (id:QX) (q:BitVec 32) (i:Nat) (parts:List (List (BitVec 8))) (hp:tot parts≤3000000000) (hl:parts.length≤1000000) :
  XR id q (i:Int) parts=some (und id q i parts.flatten):=by
 unfold XR;have e8:BX (i:Int) 8=((i / 256:Nat):Int):=QdD i 8 (by omega);have eh:([(q >>> 24).setWidth 8,(q >>> 16).setWidth 8,(q >>> 8).setWidth 8,q.setWidth 8,BitVec.ofInt 8 (BX (i:Int) 8),BitVec.ofInt 8 (i:Int)]:List (BitVec 8))=be q 4++be (BitVec.ofNat 16 i) 2:=by
  rw [e8,QgS,QgS,Qpz,Qph]; rfl
 rw [eh,QA (by omega),QA (by simp [AP]),QA (by simp [AP,JW])];have h:=JQ (f:=fun (s:Int×(List (BitVec 8)))=>V8 parts s.1 s.2) (fun j (_:Unit)=>((j:Int),(([]++id.toList)++(be q 4++be (BitVec.ofNat 16 i) 2))++(parts.take j).flatten)) (fun _ s=>s) 0 parts.length (fun j s h1 h2=>by
  simp only [V8]
  have h3:=QdB parts (j+1);rw [List.take_succ_eq_append_getElem h2,List.flatten_append,List.length_append] at h3;rw [QA (by simp; omega),Qb (Jl rfl h2),QA (by simp [AP,JW] at h3 ⊢; omega),JA (n:=(j:Int)+1) (by omega),List.take_succ_eq_append_getElem h2,List.flatten_append]
  simp) (fun s=>by
  simp only [V8]
  rw [QQ (by simp)]) FU () (by omega) (J6 (by omega))
 have h':Jd (fun (s:Int×(List (BitVec 8)))=>V8 parts s.1 s.2) FU ((0:Int),([]++id.toList)++(be q 4++be (BitVec.ofNat 16 i) 2))=some ((parts.length:Int),(([]++id.toList)++(be q 4++be (BitVec.ofNat 16 i) 2))++parts.flatten):=by
  simpa using h
 rw [Qb h'];have h3:=QdB parts parts.length;rw [List.take_length] at h3;rw [Qb (Qfb _ (by simp [JW] at h3 ⊢; omega))];unfold und
 simp
theorem Qeb (id:QX) (q:BitVec 32) (i:Nat) (b:List (BitVec 8)) (hp:b.length≤3000000000):Yb id q (i:Int) b=some (und id q i b):=by
 unfold Yb;have h1:Jy (q.setWidth 64) (4:Int)=some (be q 4):=by
  rw [←QbF q 4 (by omega) (by omega)]; exact W8 _ 4 (by omega)
 have h2:Jy (BitVec.ofInt 64 (i:Int)) (2:Int)=some (be (BitVec.ofNat 16 i) 2):=by
  rw [QdA,←Qhk]; exact W8 _ 2 (by omega)
 rw [QA (by simp [AP]),Qb h1,QA (by simp [AP,JW]),Qb h2,QA (by simp [AP,JW]),QA (by simp [AP,JW]; omega),Qb (QbZ _ (by simp [JW]; omega))]
 rfl
def Qb7 (id:QX) (q:BitVec 32) (i:Nat) (seed:Qa):Qa:=und id q i (255#8::seed.toList)
theorem Qd1 (id:QX) (q:BitVec 32) (i:Nat) (seed:Qa):Kr id q (i:Int) seed=some (Qb7 id q i seed):=by
 unfold Kr;rw [Qb (QbA id q i _ (by simp [tot]) (by simp))]
 simp [Qb7]
theorem Qny (c:BitVec 8) (b:List (BitVec 8)) (h:b.length≤4000000000):Kp c b=some (c::b):=by
 unfold Kp;rw [QA (by simp [AP]; omega)]; rfl
def Qin (id:QX) (q:BitVec 32) (i:Nat) (j:Nat) (h:Qa):Qa:=und id q i (BitVec.ofNat 8 j::h.toList)
def W2 (id:QX) (q:BitVec 32) (i:Nat) (fr n:Nat) (h:Qa):Qa:=Yt (Qin id q i) fr n h
theorem Qli (id:QX) (q:BitVec 32) (i:Nat) (fr n m:Nat) (h:Qa):W2 id q i fr (n+m) h=W2 id q i (fr+n) m (W2 id q i fr n h):=QdE _ n m fr h
theorem QfK (id:QX) (q:BitVec 32) (i:Nat) (h:Qa) (fr to:Nat) (h1:fr≤to) (h2:to≤1000):Ko id q (i:Int) h (fr:Int) (to:Int)=some (W2 id q i fr (to - fr) h):=by
 unfold Ko;have hl:=JQ (f:=fun (s:Int×Qa)=>KX (to:Int) id q (i:Int) s.1 s.2) (fun j (h:Qa)=>((j:Int),h)) (Qin id q i) fr to (fun j s h1 h2=>by
  simp only [KX]
  rw [QA (by simp; omega),Qb (QbA id q i _ (by simp [tot]) (by simp)),JA (n:=(j:Int)+1) (by omega),QgS]
  simp [Qin]) (fun s=>by
  simp only [KX]
  rw [QQ (by simp)]) FU h h1 (J6 (by omega))
 rw [Qb hl]; rfl
theorem Qlk (id:QX) (q:BitVec 32) (i:Nat) (h:Qa) (fr to:Nat) (h1:fr≤to) (h2:to≤1000):Ka id q (i:Int) h (fr:Int) (to:Int)=some (W2 id q i fr (to - fr) h):=by
 unfold Ka;have hl:=JQ (f:=fun (s:Int×Qa)=>Y9 (to:Int) id q (i:Int) s.1 s.2) (fun j (h:Qa)=>((j:Int),h)) (Qin id q i) fr to (fun j s h1 h2=>by
  simp only [Y9]
  rw [QA (by simp; omega),Qb (Qny _ _ (by simp)),Qb (Qeb id q i _ (by simp)),JA (n:=(j:Int)+1) (by omega),QgS]
  simp [Qin]) (fun s=>by
  simp only [Y9]
  rw [QQ (by simp)]) FU h h1 (J6 (by omega))
 rw [Qb hl]; rfl
def Wh (k:Nat):Nat:=2^Jo k - 1
theorem Qdr {k:Nat} (hk:J1 k):Wh k≤255:=by rcases hk with rfl | rfl | rfl | rfl<;>simp [Wh,Jo]
theorem Kb {k:Nat} (hk:J1 k):JL k≤265:=by rcases hk with rfl | rfl | rfl | rfl<;>simp [JL]
theorem Qj7 {k:Nat} (hk:J1 k){h:Qa}{d:Int} (hd:d∈Wo k h):∃n:Nat,d=(n:Int)∧n≤Wh k:=by
 obtain ⟨h0,h1⟩:=QlK hd;exact ⟨d.toNat,by omega,by unfold Wh; omega⟩
def cat (n:Nat) (f:Nat→Qa):List (BitVec 8):=(List.range n).flatMap fun i=>(f i).toList
theorem Qak (n:Nat) (f:Nat→Qa):cat (n+1) f=cat n f++(f n).toList:=by simp [cat,List.range_succ]
theorem qP (n:Nat) (f:Nat→Qa):(cat n f).length=32*n:=by
 induction n with
 | zero=>rfl
 | succ n ih=>rw [Qak,List.length_append,ih,Vector.length_toList]; omega
theorem Qk9 {n:Nat}{f g:Nat→Qa} (h:∀i,i < n→f i=g i):cat n f=cat n g:=by
 induction n with
 | zero=>rfl
 | succ n ih=>rw [Qak,Qak,ih fun i hi=>h i (by omega),h n (by omega)]
theorem QgB (id:QX) (q:BitVec 32) (n:Nat) (f:Nat→Qa) (hn:n≤1000000):U2 id q ((List.range n).map f)=some (und id q 32896 (cat n f)):=by
 unfold U2;have hl:((List.range n).map f).length=n:=by simp
 rw [hl,Jr (n:=32*(n:Int)) (by omega) (by omega),QA (by omega)];have h:=JQ (f:=fun (s:Int×(List (BitVec 8)))=>VA ((List.range n).map f) s.1 s.2) (fun j (_:Unit)=>((j:Int),cat j f)) (fun _ s=>s) 0 n (fun j s h1 h2=>by
  simp only [VA,hl]
  rw [QA (by simp; omega),Qb (Jl rfl (by rw [hl]; exact h2)),QA (by rw [qP]; simp [AP]; omega),JA (n:=(j:Int)+1) (by omega),Qak]
  simp) (fun s=>by
  simp only [VA,hl]
  rw [QQ (by simp)]) FU () (by omega) (J6 (by omega))
 have h':Jd (fun (s:Int×(List (BitVec 8)))=>VA ((List.range n).map f) s.1 s.2) FU ((0:Int), [])=some ((n:Int),cat n f):=h;have hu:XR id q (32896:Int) [cat n f]=_:=QbA id q 32896 [cat n f] (by simp [tot,qP]; omega) (by simp);rw [Qb h',Qb hu]
 simp
theorem QhX {α:Type} (n i:Nat) (g:Nat→α) (z x:α) (h:i < n) (hx:x=g i):((List.range i).map g++List.replicate (n - i) z).set i x=(List.range (i+1)).map g++List.replicate (n - (i+1)) z:=by
 rw [List.set_append_right _ _ (by simp)];have e:n - i=(n - (i+1))+1:=by omega
 rw [e,List.replicate_succ,List.range_succ,List.map_append]
 simp [hx]
def Qf9 (k:Nat) (id:QX) (q:BitVec 32) (seed:Qa):Qa:=und id q 32896 (cat (JL k) fun i=>W2 id q i 0 (Wh k) (Qb7 id q i seed))
theorem Qly {k:Nat} (hk:J1 k) (id:QX) (q:BitVec 32) (seed:Qa):WH (k:Int) id q seed=some (Qf9 k id q seed,0):=by
 unfold WH;have hc:=Kb hk;have hm:=Qdr hk;rw [Qb (QkE hk),QQ (by simp)]
 simp only []
 rw [QA (show 0≤(JL k:Int)∧(JL k:Int)≤4294967296 by omega),Int.toNat_natCast]
 let g:Nat→Qa:=fun i=>W2 id q i 0 (Wh k) (Qb7 id q i seed)
 have hmost:Xh (frm k)=some (Wh k:Int):=QeN hk;have h:=JQ (f:=fun (s:Int×(List Qa))=>Vy (List.replicate (JL k) (Vector.replicate 32 (0#8))) id q seed (frm k,true) s.1 s.2) (fun j (_:Unit)=>((j:Int),(List.range j).map g++List.replicate (JL k - j) (Vector.replicate 32 (0#8)))) (fun _ s=>s) 0 (JL k) (fun j s h1 h2=>by
  simp only [Vy]
  have hch:=QfK id q j (Qb7 id q j seed) 0 (Wh k) (by omega) (by omega);have hch':Ko id q (j:Int) (Qb7 id q j seed) (0:Int) (Wh k:Int)=_:=hch;rw [QA (by simp; omega),Qb (Qd1 id q j seed),Qb hmost,Qb hch',QA (by simp; omega),JA (n:=(j:Int)+1) (by omega),Int.toNat_natCast,QhX (JL k) j g (Vector.replicate 32 (0#8)) (W2 id q j 0 (Wh k - 0) (Qb7 id q j seed)) h2 rfl]
  rfl) (fun s=>by
  simp only [Vy]
  rw [QQ (by simp)]) FU () (by omega) (J6 (by omega))
 have h':Jd (fun (s:Int×(List Qa))=>Vy (List.replicate (JL k) (Vector.replicate 32 (0#8))) id q seed (frm k,true) s.1 s.2) FU ((0:Int),List.replicate (JL k) (Vector.replicate 32 (0#8)))=some ((JL k:Int),(List.range (JL k)).map g):=by simpa using h
 rw [Option.bind_some,Qb h',Qb (QgB id q _ g (by omega))]
 rfl
end Go.Sl.Pu
namespace Go.Sl.Pu
open Go.Sl Go.Sl.M
def Qdw (k:Nat) (id:QX) (q:BitVec 32) (salt msg:List (BitVec 8)):List Int:=Wo k (und id q 33153 (salt++msg))
def dgt (l:List Int) (i:Nat):Nat:=(l.getD i 0).toNat
theorem Qhc {k:Nat} (hk:J1 k) (h:Qa) (i:Nat):dgt (Wo k h) i≤Wh k:=by
 unfold dgt
 by_cases hi:i < (Wo k h).length
 ·have e:(Wo k h).getD i 0=(Wo k h)[i]:=by simp [hi]
  rw [e];obtain ⟨n,hn,hle⟩:=Qj7 hk (List.getElem_mem hi);rw [hn]; simpa using hle
 ·have e:(Wo k h).getD i 0=0:=by simp [Nat.not_lt.1 hi]
  rw [e]; simp
theorem Qjx {k:Nat} (hk:J1 k) (h:Qa) (i:Nat) (hi:i < JL k):JU (Wo k h) (i:Int)=some ((dgt (Wo k h) i:Nat):Int):=by
 have hi':i < (Wo k h).length:=by rw [Qc2 hk]; exact hi
 rw [Jl rfl hi'];unfold dgt;have e:(Wo k h).getD i 0=(Wo k h)[i]:=by simp [hi']
 rw [e];obtain ⟨n,hn,hle⟩:=Qj7 hk (List.getElem_mem hi');rw [hn]; simp
def UB (id:QX) (q:BitVec 32) (seed:Qa):Qa:=Qb7 id q 65533 seed
def B5 (k:Nat) (id:QX) (q:BitVec 32) (seed:Qa) (msg:List (BitVec 8)):List (BitVec 8):=
 (be (BitVec.ofNat 32 k) 4++(UB id q seed).toList)++cat (JL k) fun i=>W2 id q i 0 (dgt (Qdw k id q (UB id q seed).toList msg) i) (Qb7 id q i seed)
theorem Qbl {k:Nat} (id:QX) (q:BitVec 32) (seed:Qa) (msg:List (BitVec 8)):(B5 k id q seed msg).length=JK k:=by
 unfold B5;rw [List.length_append,List.length_append,JW,Vector.length_toList,qP]; unfold JK; omega
theorem QnW {k:Nat} (hk:J1 k) (id:QX) (q:BitVec 32) (seed:Qa) (msg:List (BitVec 8)) (hm:msg.length≤2000000000):qj (k:Int) id q seed msg=some (B5 k id q seed msg,0):=by
 unfold qj;have hc:=Kb hk;have hmo:=Qdr hk;rw [Qb (QkE hk),QQ (by simp)];have hs:Kr id q (65533:Int) seed=some (UB id q seed):=Qd1 id q 65533 seed;rw [Qb hs,Bl];rw [Qb (qR [] (by simp) (BitVec.ofNat 32 k))]
 simp only [List.nil_append]
 rw [Qb (Uu (be (BitVec.ofNat 32 k) 4) (UB id q seed).toList (by simp [JW]))];have hu:XR id q (33153:Int) [(UB id q seed).toList,msg]=some (und id q 33153 ((UB id q seed).toList++msg)):=by
  have:=QbA id q 33153 [(UB id q seed).toList,msg] (by simp [tot]; omega) (by simp)
  simpa using this
 rw [Qb hu,Qb (QfH hk _)];have hl:=Qc2 hk (und id q 33153 ((UB id q seed).toList++msg));have h:=JQ (f:=fun (s:Int×Bool×(List (BitVec 8)))=>KB (Wo k (und id q 33153 ((UB id q seed).toList++msg))) id q seed s.1 s.2.1 s.2.2) (fun j (_:Unit)=>((j:Int),false,(be (BitVec.ofNat 32 k) 4++(UB id q seed).toList)++cat j fun i=>W2 id q i 0 (dgt (Qdw k id q (UB id q seed).toList msg) i) (Qb7 id q i seed))) (fun _ s=>s) 0 (JL k) (fun j s h1 h2=>by
  simp only [KB,hl]
  have hd:=Qhc hk (und id q 33153 ((UB id q seed).toList++msg)) j;have hch:=QfK id q j (Qb7 id q j seed) 0 (dgt (Wo k (und id q 33153 ((UB id q seed).toList++msg))) j) (by omega) (by omega);have hch':Ko id q (j:Int) (Qb7 id q j seed) (0:Int) ((dgt (Wo k (und id q 33153 ((UB id q seed).toList++msg))) j:Nat):Int)=_:=hch;rw [QA (by simp; omega),Qb (Qjx hk _ j h2),Qb (Qd1 id q j seed),Qb hch',Qb (Uu _ _ (by simp [JW,qP]; omega)),JA (n:=(j:Int)+1) (by omega),Qak,←List.append_assoc]
  rfl) (fun s=>by
  simp only [KB,hl]
  rw [QQ (by simp)]) FU () (by omega) (J6 (by omega))
 have h':Jd (fun (s:Int×Bool×(List (BitVec 8)))=>KB (Wo k (und id q 33153 ((UB id q seed).toList++msg))) id q seed s.1 s.2.1 s.2.2) FU ((0:Int),false,(be (BitVec.ofNat 32 k) 4++(UB id q seed).toList))=some ((JL k:Int),false,B5 k id q seed msg):=by
  have e:cat 0 (fun i=>W2 id q i 0 (dgt (Qdw k id q (UB id q seed).toList msg) i) (Qb7 id q i seed)) = []:=rfl;rw [e,List.append_nil] at h;exact h
 rw [Qb h'];rw [Qb (Qdx _ (by rw [Qbl]; unfold JK; omega))]
theorem Qo6 (n:Nat):be (BitVec.ofNat 64 n) 4=be (BitVec.ofNat 32 n) 4:=by
 simp only [be]
 apply List.map_congr_left
 intro j hj;have hj:=List.mem_range.1 hj
 apply BitVec.eq_of_toNat_eq
 simp only [BitVec.toNat_setWidth,BitVec.toNat_ushiftRight,BitVec.toNat_ofNat,Nat.shiftRight_eq_div_pow]
 have:j=0∨j=1∨j=2∨j=3:=by omega
 rcases this with rfl | rfl | rfl | rfl<;>simp<;>omega
theorem Qmm (n:Nat):Jy (BitVec.ofInt 64 (n:Int)) (4:Int)=some (be (BitVec.ofNat 32 n) 4):=by
 rw [QdA,←Qo6]; exact W8 _ 4 (by omega)
theorem Qjv (id:QX) (q:BitVec 32) (salt msg:List (BitVec 8)) (h:salt.length+msg.length≤3000000000):VL id q salt msg=some (und id q 33153 (salt++msg)):=by
 unfold VL;have hu:Yb id q (33153:Int) (salt++msg)=_:=Qeb id q 33153 (salt++msg) (by simp; omega);rw [QA (by simp [AP]; omega),QA (by simp [AP]; omega),List.nil_append,Qb hu]
def hat (b:List (BitVec 8)) (off:Nat):Qa:=Vector.ofFn fun j:Fin 32=>b.getD (off+j.val) 0#8
theorem QcJ (b:List (BitVec 8)) (off:Nat) (h:off+32≤b.length):(hat b off).toList=(b.drop off).take 32:=by
 apply List.ext_getElem?
 intro i;rw [List.getElem?_take]
 by_cases hi:i < 32
 ·rw [if_pos hi,List.getElem?_drop];have h2:off+i < b.length:=by omega
  have:(hat b off).toList[i]? = some (b.getD (off+i) 0#8):=by
   unfold hat;rw [List.getElem?_eq_getElem (by simp; exact hi)]
   simp
  rw [this]; simp [h2]
 ·rw [if_neg hi,List.getElem?_eq_none (by simp; omega)]
theorem Qha (b:List (BitVec 8)) (off:Nat) (h:off+32≤b.length):WT 32 ((b.drop off).take 32)=some (hat b off):=by
 have hl:32≤((b.drop off).take 32).length:=by simp; omega
 unfold WT;rw [dif_pos hl];refine congrArg some (Vector.toList_inj.1 ?_);rw [QaM,QcJ b off h,List.take_take,Nat.min_self]
def QbB (k:Nat) (id:QX) (q:BitVec 32) (msg sig:List (BitVec 8)):Qa:=
 und id q 32896 (cat (JL k) fun i=>W2 id q i (dgt (Qdw k id q ((sig.drop 4).take 32) msg) i) (Wh k - dgt (Qdw k id q ((sig.drop 4).take 32) msg) i) (hat sig (36+32*i)))
def Qhs (k:Nat) (sig:List (BitVec 8)):Prop:=J1 k∧sig.length=JK k∧(val (sig.take 4)).toNat=k
theorem QnB (b:List (BitVec 8)):(((val (b.take 4)).setWidth 32).toNat:Int)=((val (b.take 4)).toNat:Int):=by
 have:=Qi8 (b.take 4) 4 (by simp; omega) (by omega);have h32:(2:Nat)^(8*4)=4294967296:=by decide
 rw [h32] at this;rw [BitVec.toNat_setWidth,Nat.mod_eq_of_lt (by omega)]
theorem Qjg {k:Nat} (id:QX) (q:BitVec 32) (msg sig:List (BitVec 8)) (hm:msg.length≤2000000000) (hs:Qhs k sig):Wi id q msg sig=some (QbB k id q msg sig,true):=by
 obtain ⟨hk,hl,hv⟩:=hs;have hc:=Kb hk;have hmo:=Qdr hk;have hsz:sig.length=36+32*JL k:=hl;unfold Wi;rw [Qb (QbS sig (by omega)),Qb (Qkw sig (by omega))]
 simp only [QnB,hv]
 rw [Qb (QkE hk),QQ (by simp),Qb (Qhg hk),Option.bind_some,QQ (by simp [hl])];have hp:Ja (sig.drop 4,false) (32:Int)=_:=QdS (sig.drop 4) 32 (by simp; omega);rw [Qb hp]
 simp only [List.drop_drop]
 rw [QA (show 0≤(JL k:Int)∧(JL k:Int)≤4294967296 by omega),Int.toNat_natCast,Option.bind_some];have hu:XR id q (33153:Int) [(sig.drop 4).take 32,msg]=some (und id q 33153 ((sig.drop 4).take 32++msg)):=by
  have:=QbA id q 33153 [(sig.drop 4).take 32,msg] (by simp [tot]; omega) (by simp)
  simpa using this
 rw [Qb hu,Qb (QfH hk _)];have hdl:=Qc2 hk (und id q 33153 ((sig.drop 4).take 32++msg))
 let g:Nat→Qa:=fun i=>W2 id q i (dgt (Qdw k id q ((sig.drop 4).take 32) msg) i) (Wh k - dgt (Qdw k id q ((sig.drop 4).take 32) msg) i) (hat sig (36+32*i))
 have hmost:Xh (frm k)=some (Wh k:Int):=QeN hk;have h:=JQ (f:=fun (s:Int×(List Qa)×(List (BitVec 8))×Bool)=>X0 (Wo k (und id q 33153 ((sig.drop 4).take 32++msg))) (frm k,true) id q s.1 s.2.1 s.2.2.1 s.2.2.2) (fun j (_:Unit)=>((j:Int),(List.range j).map g++List.replicate (JL k - j) (Vector.replicate 32 (0#8)),sig.drop (36+32*j),false)) (fun _ s=>s) 0 (JL k) (fun j s h1 h2=>by
  simp only [X0,hdl]
  have hd:=Qhc hk (und id q 33153 ((sig.drop 4).take 32++msg)) j;have hch:=QfK id q j (hat sig (36+32*j)) (dgt (Wo k (und id q 33153 ((sig.drop 4).take 32++msg))) j) (Wh k) (by omega) (by omega);have hp2:Ja (sig.drop (36+32*j),false) (32:Int)=_:=QdS (sig.drop (36+32*j)) 32 (by simp; omega);rw [QA (by simp; omega),Qb (Qjx hk _ j h2),Qb hp2]
  simp only []
  rw [Qb (Qha sig (36+32*j) (by omega)),Qb hmost,Qb hch,QA (by simp; omega),JA (n:=(j:Int)+1) (by omega),Int.toNat_natCast,QhX (JL k) j g (Vector.replicate 32 (0#8)) (W2 id q j (dgt (Wo k (und id q 33153 ((sig.drop 4).take 32++msg))) j) (Wh k - dgt (Wo k (und id q 33153 ((sig.drop 4).take 32++msg))) j) (hat sig (36+32*j))) h2 rfl,List.drop_drop]
  rfl) (fun s=>by
  simp only [X0,hdl]
  rw [QQ (by simp)]) FU () (by omega) (J6 (by omega))
 have h':Jd (fun (s:Int×(List Qa)×(List (BitVec 8))×Bool)=>X0 (Wo k (und id q 33153 ((sig.drop 4).take 32++msg))) (frm k,true) id q s.1 s.2.1 s.2.2.1 s.2.2.2) FU ((0:Int),List.replicate (JL k) (Vector.replicate 32 (0#8)),sig.drop (4+32),false)=some ((JL k:Int),(List.range (JL k)).map g,sig.drop (36+32*JL k),false):=by simpa using h
 rw [Qb h',Qb (QgB id q _ g (by omega))]
 rfl
theorem Qn2 (b:List (BitVec 8)) (h:b.length≤4294967296):JN b=some (val b):=Qdn b h
theorem Qkb (b:List (BitVec 8)):w64 ((val (b.take 4)).toNat:Int)=((val (b.take 4)).toNat:Int):=by
 have:=Qi8 (b.take 4) 4 (by simp; omega) (by omega);have h32:(2:Nat)^(8*4)=4294967296:=by decide
 rw [h32] at this;exact B1 (by omega)
theorem Qiq {k:Nat} (id:QX) (q:BitVec 32) (msg sig:List (BitVec 8)) (hm:msg.length≤2000000000) (hs:Qhs k sig):Vf id q msg sig=some (QbB k id q msg sig,true):=by
 obtain ⟨hk,hl,hv⟩:=hs;have hc:=Kb hk;have hmo:=Qdr hk;have hsz:sig.length=36+32*JL k:=hl;have hk4:1≤k∧k≤4:=by rcases hk with rfl | rfl | rfl | rfl<;>omega
 unfold Vf;rw [QQ (by simp; omega),Qb (J5 (lo:=0) (hi:=4) (a:=0) (b:=4) rfl rfl (by omega) (by omega)),List.drop_zero,Qb (Qn2 _ (by simp; omega))];have e1:¬(decide (val (sig.take 4) < 1#64)=true):=by
  simp only [decide_eq_true_eq,BitVec.lt_def,hv]; show ¬k < 1; omega
 have e2:¬(decide (4#64 < val (sig.take 4))=true):=by
  simp only [decide_eq_true_eq,BitVec.lt_def,hv]; show ¬4 < k; omega
 rw [QQ e1,Option.bind_some,QQ e2,Qkb,hv,Qb (Qfv hk),Option.bind_some,QQ (by simp [hl])];rw [Qb (J5 (lo:=4) (hi:=36) (a:=4) (b:=36) rfl rfl (by omega) (by omega))];have e3:(sig.take 36).drop 4=(sig.drop 4).take 32:=by rw [List.drop_take]
 rw [e3,Qb (Qjv id q _ msg (by simp; omega)),Qb (Qjz hk _)];have hdl:=Qc2 hk (und id q 33153 ((sig.drop 4).take 32++msg))
 let g:Nat→Qa:=fun i=>W2 id q i (dgt (Qdw k id q ((sig.drop 4).take 32) msg) i) (Wh k - dgt (Qdw k id q ((sig.drop 4).take 32) msg) i) (hat sig (36+32*i))
 have hmost:Vu (k:Int)=some (Wh k:Int):=QhS hk;have h:=JQ (f:=fun (s:Int×(List (BitVec 8)))=>ZW (Wo k (und id q 33153 ((sig.drop 4).take 32++msg))) sig (val (sig.take 4)) id q s.1 s.2) (fun j (_:Unit)=>((j:Int),cat j g)) (fun _ s=>s) 0 (JL k) (fun j s h1 h2=>by
  simp only [ZW,hdl]
  have hd:=Qhc hk (und id q 33153 ((sig.drop 4).take 32++msg)) j;have hch:=Qlk id q j (hat sig (36+32*j)) (dgt (Wo k (und id q 33153 ((sig.drop 4).take 32++msg))) j) (Wh k) (by omega) (by omega);rw [QA (by simp; omega),Jr (n:=32*(j:Int)) (by omega) (by omega),Jr (n:=36+32*(j:Int)) (by omega) (by omega),Jr (n:=68+32*(j:Int)) (by omega) (by omega)];rw [Qb (J5 (lo:=36+32*(j:Int)) (hi:=68+32*(j:Int)) (a:=36+32*j) (b:=68+32*j) (by omega) (by omega) (by omega) (by omega))];have e4:(sig.take (68+32*j)).drop (36+32*j)=(sig.drop (36+32*j)).take 32:=by
   rw [List.drop_take]; congr 1; omega
  rw [e4,Qb (Qha sig (36+32*j) (by omega)),Qb (Qjx hk _ j h2),Qkb,hv,Qb hmost,Qb hch,QA (by simp [AP,qP]; omega),JA (n:=(j:Int)+1) (by omega),Qak]
  rfl) (fun s=>by
  simp only [ZW,hdl]
  rw [QQ (by simp)]) FU () (by omega) (J6 (by omega))
 have h':Jd (fun (s:Int×(List (BitVec 8)))=>ZW (Wo k (und id q 33153 ((sig.drop 4).take 32++msg))) sig (val (sig.take 4)) id q s.1 s.2) FU ((0:Int), [])=some ((JL k:Int),cat (JL k) g):=h;have hu:Yb id q (32896:Int) (cat (JL k) g)=_:=Qeb id q 32896 _ (by rw [qP]; omega);rw [Qb h',Qb hu]
 rfl
end Go.Sl.Pu
namespace Go.Sl.Pu
open Go.Sl Go.Sl.M
theorem Qpj (k:Nat) (id:QX) (q:BitVec 32) (seed:Qa) (msg:List (BitVec 8)):(B5 k id q seed msg).take 4=be (BitVec.ofNat 32 k) 4:=by
 unfold B5;rw [List.append_assoc,List.take_append_of_le_length (by rw [JW]; exact Nat.le_refl _),List.take_of_length_le (by rw [JW]; exact Nat.le_refl _)]
theorem QmT {k:Nat} (hk:J1 k) (id:QX) (q:BitVec 32) (seed:Qa) (msg:List (BitVec 8)):Qhs k (B5 k id q seed msg):=by
 refine ⟨hk,Qbl id q seed msg,?_⟩;rw [Qpj,Qij]
 rcases hk with rfl | rfl | rfl | rfl<;>rfl
theorem QlF (k:Nat) (id:QX) (q:BitVec 32) (seed:Qa) (msg:List (BitVec 8)):((B5 k id q seed msg).drop 4).take 32=(UB id q seed).toList:=by
 unfold B5;rw [List.append_assoc,List.drop_left' (JW _ _),List.take_left' (by simp)]
theorem QnQ (pre:List (BitVec 8)) (n:Nat) (f:Nat→Qa) (i:Nat) (hi:i < n) (p:Nat) (hp:pre.length=p):hat (pre++cat n f) (p+32*i)=f i:=by
 apply Vector.toList_inj.1
 rw [QcJ _ _ (by rw [List.length_append,qP,hp]; omega)];have e:pre++cat n f=(pre++cat i f)++((f i).toList++((List.range (n - (i+1))).flatMap fun j=>(f (i+1+j)).toList)):=by
  rw [List.append_assoc]
  congr 1
  have hn:n=i+(1+(n - (i+1))):=by omega
  conv=>lhs; rw [hn]
  unfold cat;rw [List.range_add,List.flatMap_append,List.range_add,List.map_append,List.flatMap_append]
  simp [List.flatMap_map,Nat.add_assoc]
 rw [e,List.drop_left' (by rw [List.length_append,qP,hp]),List.take_left' (by simp)]
theorem Qi0 {k:Nat} (hk:J1 k) (id:QX) (q:BitVec 32) (seed:Qa) (msg:List (BitVec 8)):QbB k id q msg (B5 k id q seed msg)=Qf9 k id q seed:=by
 unfold QbB Qf9;rw [QlF];refine congrArg (und id q 32896) (Qk9 fun i hi=>?_);have hd:=Qhc hk (und id q 33153 ((UB id q seed).toList++msg)) i;have e:hat (B5 k id q seed msg) (36+32*i)=W2 id q i 0 (dgt (Qdw k id q (UB id q seed).toList msg) i) (Qb7 id q i seed):=by
  unfold B5;exact QnQ _ _ (fun i=>W2 id q i 0 (dgt (Qdw k id q (UB id q seed).toList msg) i) (Qb7 id q i seed)) i hi 36 (by simp [JW])
 rw [e];have hd':dgt (Qdw k id q (UB id q seed).toList msg) i≤Wh k:=hd;have:=Qli id q i 0 (dgt (Qdw k id q (UB id q seed).toList msg) i) (Wh k - dgt (Qdw k id q (UB id q seed).toList msg) i) (Qb7 id q i seed);rw [Nat.zero_add] at this;rw [←this]; congr 1; omega
end Go.Sl.Pu
set_option maxRecDepth 20000
namespace Go.Sl.Pu
open Go.Sl Go.Sl.M
attribute [local irreducible] sha w64 Qf9 und B5
def IsH (h:Nat):Prop:=h=1∨h=2∨h=3∨h=4
def KK (h:Nat):Nat:=2^h
theorem Qat {h:Nat} (hh:IsH h):2≤KK h∧KK h≤16:=by rcases hh with rfl | rfl | rfl | rfl<;>decide
theorem QbR {h:Nat} (hh:IsH h):KD (1:Int) (h:Int)=(KK h:Int):=by rcases hh with rfl | rfl | rfl | rfl<;>with_unfolding_all rfl
theorem W6 {h:Nat} (hh:IsH h):1≤h∧h≤4:=by unfold IsH at hh; omega
theorem Qjp {k:Nat} (hk:J1 k):1≤k∧k≤4:=by unfold J1 at hk; omega
theorem QiD {k:Nat} (hk:J1 k):0 < JL k:=by rcases hk with rfl | rfl | rfl | rfl<;>decide
theorem Qhn {h k:Nat} (hh:IsH h) (hk:J1 k):B0 (h:Int) (k:Int)=some true:=by
 unfold B0;have h1:=W6 hh;have h2:=QiD hk;rw [QA (by rw [decide_eq_true_eq]; omega),Option.bind_some,QA (by rw [decide_eq_true_eq]; omega),Qb (QkS hk),Option.bind_some,decide_eq_true (by omega)]
theorem Qke {h k:Int} (hn:¬((1≤h∧h≤4)∧(1≤k∧k≤4))):B0 h k=some false:=by
 unfold B0
 by_cases h1:1≤h
 ·by_cases h2:h≤4
  ·have hk:¬(1≤k∧k≤4):=fun hk=>hn ⟨⟨h1,h2⟩,hk⟩;rw [QA (decide_eq_true h1),Option.bind_some,QA (decide_eq_true h2),Qb (Qht hk)]
   rfl
  ·rw [QA (decide_eq_true h1),Option.bind_some,QQ (by rw [decide_eq_true_eq]; exact h2)]
   rfl
 ·rw [QQ (by rw [decide_eq_true_eq]; exact h1),Option.bind_some,QQ (by decide)]
  rfl
def ndh (id:QX) (r u:Nat) (b:List (BitVec 8)):Qa:=sha (((id.toList++be (BitVec.ofNat 32 r) 4)++be (BitVec.ofNat 16 u) 2)++b)
theorem QnM (b:List (BitVec 8)) (hb:b.length≤4000000000) (u:Nat) (hu:u≤65535):Ue (b,false) (u:Int)=some (b++be (BitVec.ofNat 16 u) 2,false):=by
 unfold Ue K9
 simp only []
 rw [QQ (by rw [decide_eq_true_eq]; omega),Option.bind_some,QQ (by rw [decide_eq_true_eq]; omega),Option.bind_some,QA (by rfl),QdA];have h:YD (b,false) (BitVec.ofNat 64 u) (2:Int)=_:=QfI b hb (BitVec.ofNat 64 u) 2 (by omega)
 simp only [Bool.not_false]
 rw [Qb h,Qhk]
theorem Qhx (id:QX) (r u:Nat) (parts:List (List (BitVec 8))) (hu:u≤65535) (hp:tot parts≤1000000) (hl:parts.length≤1000000):BB id (r:Int) (u:Int) parts=some (ndh id r u parts.flatten):=by
 unfold BB;rw [Qb (Uu [] id.toList (by simp))]
 simp only [List.nil_append]
 rw [Bl,Qb (qR id.toList (by simp) (BitVec.ofNat 32 r)),Qb (QnM _ (by simp [JW]) u hu)];have h:=JQ (f:=fun (s:Int×Bool×(List (BitVec 8)))=>UG parts s.1 s.2.1 s.2.2) (fun j (_:Unit)=>((j:Int),false,((id.toList++be (BitVec.ofNat 32 r) 4)++be (BitVec.ofNat 16 u) 2)++(parts.take j).flatten)) (fun _ s=>s) 0 parts.length (fun j s h1 h2=>by
  simp only [UG]
  have h3:=QdB parts (j+1);rw [List.take_succ_eq_append_getElem h2,List.flatten_append,List.length_append] at h3;rw [QA (by rw [decide_eq_true_eq]; omega),Qb (Jl rfl h2),Qb (Uu _ _ (by simp [JW] at h3 ⊢; omega)),Jr (n:=(j:Int)+1) (by omega) (by omega),List.take_succ_eq_append_getElem h2,List.flatten_append]
  simp) (fun s=>by
  simp only [UG]
  rw [QQ (by rw [decide_eq_true_eq]; omega)]) FU () (by omega) (J6 (by omega))
 have h':Jd (fun (s:Int×Bool×(List (BitVec 8)))=>UG parts s.1 s.2.1 s.2.2) FU ((0:Int),false,(id.toList++be (BitVec.ofNat 32 r) 4)++be (BitVec.ofNat 16 u) 2)=some ((parts.length:Int),false,((id.toList++be (BitVec.ofNat 32 r) 4)++be (BitVec.ofNat 16 u) 2)++parts.flatten):=by
  have e:((id.toList++be (BitVec.ofNat 32 r) 4)++be (BitVec.ofNat 16 u) 2)++(parts.take 0).flatten=(id.toList++be (BitVec.ofNat 32 r) 4)++be (BitVec.ofNat 16 u) 2:=by simp
  rw [e,List.take_length] at h;exact h
 have h3:=QdB parts parts.length;rw [List.take_length] at h3;rw [Qb h',Qb (Qdx _ (by simp [JW] at h3 ⊢; omega)),Qb (Qfb _ (by simp [JW] at h3 ⊢; omega))];unfold ndh; rfl
theorem QhY (id:QX) (r:Nat) (p:Qa):Qam id (r:Int) p=some (ndh id r 33410 p.toList):=by
 unfold Qam;have h:BB id (r:Int) (33410:Int) [p.toList]=_:=Qhx id r 33410 [p.toList] (by omega) (by simp [tot]) (by simp);rw [Qb h]; simp
theorem QdY (id:QX) (r:Nat) (a b:Qa):B9 id (r:Int) a b=some (ndh id r 33667 (a.toList++b.toList)):=by
 unfold B9;have h:BB id (r:Int) (33667:Int) [a.toList,b.toList]=_:=Qhx id r 33667 [a.toList,b.toList] (by omega) (by simp [tot]) (by simp);rw [Qb h]; simp
theorem QdI (id:QX) (r u:Nat) (b:List (BitVec 8)) (hb:b.length≤1000000):Z0 id (r:Int) (u:Int) b=some (ndh id r u b):=by
 unfold Z0;have n2:Jy (BitVec.ofInt 64 (u:Int)) (2:Int)=some (be (BitVec.ofNat 16 u) 2):=by
  rw [QdA,←Qhk]; exact W8 _ 2 (by omega)
 rw [QA (by simp [AP]),Qb (Qmm r),QA (by simp [AP,JW]),Qb n2,QA (by simp [AP,JW]),QA (by simp [AP,JW]; omega),Qb (QbZ _ (by simp [JW]; omega))];unfold ndh
 simp
theorem Qmz (a b:Qa):V0 a b=some (a.toList++b.toList):=by
 unfold V0;rw [QA (by simp [AP]),QA (by simp [AP])]; simp
section
variable (k : Nat) (id : QX) (seed : Qa) (K : Nat)
def lfv (r:Nat):Qa:=ndh id r 33410 (Qf9 k id (BitVec.ofNat 32 (r - K)) seed).toList
def tv (r:Nat):Qa:=
 if h:r < K∧0 < r then ndh id r 33667 ((tv (2*r)).toList++(tv (2*r+1)).toList) else lfv k id seed K r
termination_by K - r
decreasing_by
 ·omega
 ·omega
theorem Qki {r:Nat} (h:K≤r):tv k id seed K r=lfv k id seed K r:=by rw [tv,dif_neg (by omega)]
theorem Qh1 {r:Nat} (h:r < K) (h0:0 < r):tv k id seed K r=ndh id r 33667 ((tv k id seed K (2*r)).toList++(tv k id seed K (2*r+1)).toList):=by
 conv=>lhs; rw [tv]
 rw [dif_pos ⟨h,h0⟩]
end
def Qdk : Qa:=Vector.replicate 32 (0#8)
theorem QkB {α:Type} (n i:Nat) (f:Nat→α) (x:α):((List.range n).map f).set i x=(List.range n).map (fun r=>if r=i then x else f r):=by
 apply List.ext_getElem
 ·simp
 ·intro j h1 h2
  simp only [List.length_map,List.length_range,List.length_set] at h1 h2
  rw [List.getElem_set]
  by_cases h:i=j
  ·simp [h]
  ·rw [if_neg h]; simp; intro hc; exact absurd hc.symm h
def Qbf (k:Nat) (id:QX) (seed:Qa) (K:Nat):List Qa:=(List.range (2*K)).map fun r=>if r=0 then Qdk else tv k id seed K r
theorem Qfk {k:Nat}{id:QX}{seed:Qa}{K r:Nat} (h0:0 < r) (h:r < 2*K):JU (Qbf k id seed K) (r:Int)=some (tv k id seed K r):=by
 unfold Qbf;rw [Jl rfl (by simp; exact h),List.getElem_map,List.getElem_range,if_neg (by omega)]
theorem QjV {h k:Nat} (hh:IsH h) (hk:J1 k) (id:QX) (seed:Qa):Qb1 (h:Int) (k:Int) id seed=some (some ((h:Int),(k:Int),id,seed,Qbf k id seed (KK h)),0):=by
 unfold Qb1;obtain ⟨hK1,hK2⟩:=Qat hh;have hhl:=W6 hh;rw [Qb (Qhn hh hk),QQ (by decide),QA (by omega),QbR hh];have hsh:=QbR hh
 generalize KK h=K at hK1 hK2 hsh ⊢
 have w2:w64 ((2:Int)*(K:Int))=((2*K:Nat):Int):=by rw [Jr (by omega) (by omega)]; omega
 have w3:w64 ((K:Int) - 1)=((K - 1:Nat):Int):=by rw [Jr (by omega) (by omega)]; omega
 rw [w2,w3,QA (by clear w2 w3 hsh; omega),Option.bind_some,Int.toNat_natCast];clear w2 w3;have h0:List.replicate (2*K) (Vector.replicate 32 (0#8))=(List.range (2*K)).map (fun r=>if K≤r∧r < K+0 then tv k id seed K r else Qdk):=by
  apply List.ext_getElem
  ·simp
  ·intro j h1 h2
   simp; rw [if_neg (by omega)]; rfl
 obtain ⟨o,ho,hq⟩:=Vo (f:=fun (s:Int×(List Qa))=>W3 (h:Int) (k:Int) id seed s.1 s.2) (fun s=>∃q,q≤K∧s=((q:Int),(List.range (2*K)).map (fun r=>if K≤r∧r < K+q then tv k id seed K r else Qdk))) (fun s=>K - s.1.toNat) (fun o=>o = .inl ((K:Int),(List.range (2*K)).map (fun r=>if K≤r∧r < K+K then tv k id seed K r else Qdk))) (by
  rintro s ⟨q,hq,rfl⟩
  by_cases hl:q < K
  ·refine .inl ⟨(((q+1:Nat):Int),(List.range (2*K)).map (fun r=>if K≤r∧r < K+(q+1) then tv k id seed K r else Qdk)),?_,⟨q+1,by omega,rfl⟩,?_⟩
   ·simp only [W3,hsh]
    have w4:w64 ((K:Int)+(q:Int))=((K+q:Nat):Int):=by rw [Jr (by omega) (by omega)]; omega
    have w5:w64 ((q:Int)+1)=((q+1:Nat):Int):=by rw [Jr (by omega) (by omega)]; omega
    rw [QA (by clear w4 w5 hsh; rw [decide_eq_true_eq]; omega),Bl,Qb (Qly hk id _ seed),QQ (by simp),w4,w5,Qb (QhY id (K+q) _),QA (by clear w4 w5 hsh; simp; omega),Int.toNat_natCast,QkB];refine congrArg some (congrArg LR.next (Prod.ext rfl ?_))
    apply List.map_congr_left
    intro r hr
    by_cases e:r=K+q
    ·subst e;rw [if_pos rfl,if_pos (by clear w4 w5 hsh; omega),Qki _ _ _ _ (by clear w4 w5 hsh; omega)];unfold lfv;rw [Nat.add_sub_cancel_left]
    ·rw [if_neg e]
     by_cases e2:K≤r∧r < K+q
     ·rw [if_pos e2,if_pos (by clear w4 w5 hsh; omega)]
     ·rw [if_neg e2,if_neg (by clear w4 w5 hsh; omega)]
   ·simp only [Int.toNat_natCast]; clear hsh; omega
  ·have:q=K:=by clear hsh; omega
   subst this;exact .inr (.inl ⟨_,by
    simp only [W3,hsh]
    rw [QQ (by clear hsh; rw [decide_eq_true_eq]; omega)],rfl⟩)) FU ((0:Int),(List.range (2*K)).map (fun r=>if K≤r∧r < K+0 then tv k id seed K r else Qdk)) ⟨0,Nat.zero_le _,rfl⟩ (by
   have:=J6 (n:=K) (by clear hsh; omega);clear hsh
   simp only []; omega)
 rw [h0,Qb ho,hq]
 simp only []
 have h1:(List.range (2*K)).map (fun r=>if K≤r∧r < K+K then tv k id seed K r else Qdk)=(List.range (2*K)).map (fun r=>if K - 1 < r then tv k id seed K r else Qdk):=by
  apply List.map_congr_left
  intro r hr;have:=List.mem_range.1 hr
  by_cases e:K≤r
  ·rw [if_pos (by clear hsh; omega),if_pos (by clear hsh; omega)]
  ·rw [if_neg (by clear hsh; omega),if_neg (by clear hsh; omega)]
 obtain ⟨s',hs',hq'⟩:=KV (f:=fun (s:Int×(List Qa))=>W9 id s.1 s.2) (fun s=>∃y,y < K∧s=((y:Int),(List.range (2*K)).map (fun r=>if y < r then tv k id seed K r else Qdk))) (fun s=>s.1.toNat) (fun s=>s=((0:Int),(List.range (2*K)).map (fun r=>if 0 < r then tv k id seed K r else Qdk))) (by
  rintro s ⟨y,hy,rfl⟩
  by_cases hl:0 < y
  ·obtain ⟨y,rfl⟩:∃m,y=m+1:=⟨y - 1,by clear hsh; omega⟩;refine .inl ⟨((y:Int),(List.range (2*K)).map (fun r=>if y < r then tv k id seed K r else Qdk)),?_,⟨y,by clear hsh; omega,rfl⟩,?_⟩
   ·simp only [W9]
    have g1:JU ((List.range (2*K)).map (fun r=>if y+1 < r then tv k id seed K r else Qdk)) ((2*(y+1):Nat):Int)=some (tv k id seed K (2*(y+1))):=by
     rw [Jl rfl (by simp; clear hsh; omega)];rw [List.getElem_map,List.getElem_range,if_pos (by clear hsh; omega)]
    have g2:JU ((List.range (2*K)).map (fun r=>if y+1 < r then tv k id seed K r else Qdk)) ((2*(y+1)+1:Nat):Int)=some (tv k id seed K (2*(y+1)+1)):=by
     rw [Jl rfl (by simp; clear hsh; omega)];rw [List.getElem_map,List.getElem_range,if_pos (by clear hsh; omega)]
    have w4:w64 ((2:Int)*((y+1:Nat):Int))=((2*(y+1):Nat):Int):=by rw [Jr (by clear hsh; omega) (by clear hsh; omega)]; rfl
    have w5:w64 (((2*(y+1):Nat):Int)+1)=((2*(y+1)+1:Nat):Int):=by rw [Jr (by clear w4 hsh; omega) (by clear w4 hsh; omega)]; rfl
    have w6:w64 (((y+1:Nat):Int) - 1)=(y:Int):=by rw [Jr (by clear w4 w5 hsh; omega) (by clear w4 w5 hsh; omega)]; clear w4 w5 hsh; omega
    rw [QA (by clear w4 w5 w6 hsh; simp),w4,w5,w6,Qb g1,Qb g2,Qb (QdY id (y+1) _ _),QA (by clear w4 w5 w6 hsh; simp; omega),Int.toNat_natCast,QkB];clear w4 w5 w6 g1 g2;refine congrArg some (congrArg LR.next (Prod.ext rfl ?_))
    apply List.map_congr_left
    intro r hr
    by_cases e:r=y+1
    ·subst e;rw [if_pos rfl,if_pos (by clear hsh; omega),Qh1 k id seed K hy (by clear hsh; omega)]
    ·rw [if_neg e]
     by_cases e2:y+1 < r
     ·rw [if_pos e2,if_pos (by clear hsh; omega)]
     ·rw [if_neg e2,if_neg (by clear hsh; omega)]
   ·simp only [Int.toNat_natCast]; clear hsh; omega
  ·have:y=0:=by clear hsh; omega
   subst this;exact .inr ⟨_,by
    simp only [W9]
    rw [QQ (by simp)]; rfl,rfl⟩) FU (((K - 1:Nat):Int),(List.range (2*K)).map (fun r=>if K - 1 < r then tv k id seed K r else Qdk)) ⟨K - 1,by clear hsh; omega,rfl⟩ (by
   simp only [Int.toNat_natCast]
   exact J6 (by clear hsh; omega))
 rw [h1,Option.bind_some,Qb hs',hq'];refine congrArg some (Prod.ext (congrArg some ?_) rfl);refine congrArg (fun v=>((h:Int),(k:Int),id,seed,v)) ?_;unfold Qbf
 apply List.map_congr_left
 intro r hr
 by_cases e:r=0
 ·rw [if_neg (by clear hsh; omega),if_pos e]
 ·rw [if_pos (by clear hsh; omega),if_neg e]
abbrev trS (h k:Nat) (id:QX) (seed:Qa):Option QF:=some ((h:Int),(k:Int),id,seed,Qbf k id seed (KK h))
theorem QfN {h k:Nat} (hh:IsH h) (id:QX) (seed:Qa):KG (trS h k id seed)=some (KK h:Int):=by
 unfold KG;rw [QQ (by simp),Option.bind_some,QA (by simp),QbR hh]
def WK (h k:Nat) (id:QX) (seed:Qa):List (BitVec 8):=((be (BitVec.ofNat 32 h) 4++be (BitVec.ofNat 32 k) 4)++id.toList)++(tv k id seed (KK h) 1).toList
theorem Qas (h k:Nat) (id:QX) (seed:Qa):(WK h k id seed).length=56:=by simp [WK,JW]
theorem Qfy {h k:Nat} (hh:IsH h) (id:QX) (seed:Qa):Kj (trS h k id seed)=some (WK h k id seed):=by
 unfold Kj;obtain ⟨hK1,hK2⟩:=Qat hh;have g:JU (Qbf k id seed (KK h)) (1:Int)=some (tv k id seed (KK h) 1):=Qfk (r:=1) (by omega) (by omega);rw [QQ (by simp)]
 simp only [trS,Option.bind_some]
 rw [Bl,Bl,Qb (qR [] (by simp) _),Qb (qR _ (by simp [JW]) _),Qb (Uu _ _ (by simp [JW])),Qb g,Qb (Uu _ _ (by simp [JW])),Qb (Qdx _ (by simp [JW]))]
 rfl
theorem QdC {h k:Nat} (hh:IsH h) (hk:J1 k):Z1 (h:Int) (k:Int)=some (KK h:Int):=by
 unfold Z1;have h1:=W6 hh;have hb:Jo k≠0:=by rcases hk with rfl | rfl | rfl | rfl<;>decide
 rw [QQ (by rw [decide_eq_true_eq]; omega),Option.bind_some,QQ (by rw [decide_eq_true_eq]; omega),Qb (Qiz hk),Option.bind_some,QQ (by rw [decide_eq_true_eq]; omega)];have h2:=JQ (f:=fun (s:Int×Int)=>YF (h:Int) s.1 s.2) (fun j (_:Unit)=>(((2^j:Nat):Int),(j:Int))) (fun _ s=>s) 0 h (fun j s h2 h3=>by
  simp only [YF]
  have hj:2^j≤2^4:=Nat.pow_le_pow_right (by omega) (by omega);have hj2:2^(j+1)=2^j*2:=Nat.pow_succ ..;have hj3:0 < 2^j:=Nat.pow_pos (by omega)
  generalize 2^(j+1)=a at hj2 ⊢
  generalize 2^j=b at hj hj2 hj3 ⊢
  rw [QA (by rw [decide_eq_true_eq]; omega),Jr (n:=2*(b:Int)) (by omega) (by omega),Jr (n:=(j:Int)+1) (by omega) (by omega)];refine congrArg some (congrArg LR.next (Prod.ext ?_ rfl))
  simp only []; omega) (fun s=>by
  simp only [YF]
  rw [QQ (by rw [decide_eq_true_eq]; omega)]) FU () (by omega) (J6 (by omega))
 have h2':Jd (fun (s:Int×Int)=>YF (h:Int) s.1 s.2) FU ((1:Int),(0:Int))=some (((2^h:Nat):Int),(h:Int)):=h2;rw [Qb h2']; rfl
theorem QhF {h k:Int} (hn:¬((1≤h∧h≤4)∧(1≤k∧k≤4))):Z1 h k=some 0:=by
 unfold Z1
 by_cases h1:h < 1
 ·rw [QA (decide_eq_true h1),Option.bind_some,QA rfl,Option.bind_some,QA rfl]
 ·rw [QQ (by rw [decide_eq_true_eq]; exact h1),Option.bind_some]
  by_cases h2:4 < h
  ·rw [QA (decide_eq_true h2),Option.bind_some,QA rfl]
  ·rw [QQ (by rw [decide_eq_true_eq]; exact h2),Qb (Qi3 (fun hk=>hn ⟨by omega,hk⟩)),Option.bind_some,QA (by rfl)]
theorem Qdp {h k:Nat} (hh:IsH h) (hk:J1 k):WV (h:Int) (k:Int)=some ((8+JK k+32*h:Nat):Int):=by
 unfold WV;have h1:=W6 hh;have h2:JK k≤100000:=by have:=Kb hk; unfold JK; omega
 rw [Qb (Qhn hh hk),QQ (by decide),Qb (Qhg hk),Option.bind_some,Jr (n:=8+(JK k:Int)) (by omega) (by omega),Jr (n:=32*(h:Int)) (by omega) (by omega),Jr (by omega) (by omega)];refine congrArg some ?_
 omega
theorem QlZ {h k:Int} (hn:¬((1≤h∧h≤4)∧(1≤k∧k≤4))):WV h k=some 0:=by
 unfold WV;rw [Qb (Qke hn),QA (by rfl)]
theorem QgF {h k:Nat} (hh:IsH h) (hk:J1 k):Y6 (h:Int) (k:Int)=some ((8+JK k+32*h:Nat):Int):=by
 unfold Y6;have h1:=W6 hh;have h2:JK k≤100000:=by have:=Kb hk; unfold JK; omega
 obtain ⟨hK1,hK2⟩:=Qat hh;rw [Qb (QdC hh hk),QQ (by rw [decide_eq_true_eq]; omega),Qb (Qfv hk),Option.bind_some,Jr (n:=4+(JK k:Int)) (by omega) (by omega),Jr (n:=4+(JK k:Int)+4) (by omega) (by omega),Jr (n:=32*(h:Int)) (by omega) (by omega),Jr (by omega) (by omega)];refine congrArg some ?_
 omega
theorem Qlj {h k:Int} (hn:¬((1≤h∧h≤4)∧(1≤k∧k≤4))):Y6 h k=some 0:=by
 unfold Y6;rw [Qb (QhF hn),QA (by rfl)]
def sib (r:Nat):Nat:=r+1 - 2*(r % 2)
def pth (f:Nat→Qa) (r:Nat):List Qa:=if h:1 < r then f (sib r)::pth f (r / 2) else []
termination_by r
decreasing_by omega
theorem Qhl (f:Nat→Qa){r:Nat} (h:¬1 < r):pth f r = []:=by rw [pth,dif_neg h]
theorem Qe3 (f:Nat→Qa){r:Nat} (h:1 < r):pth f r=f (sib r)::pth f (r / 2):=by
 conv=>lhs; rw [pth]
 rw [dif_pos h]
def Qe8 (l:List Qa):List (BitVec 8):=l.flatMap fun x=>x.toList
theorem QmI (l:List Qa):(Qe8 l).length=32*l.length:=by
 induction l with
 | nil=>rfl
 | cons x l ih=>
  show (x.toList++Qe8 l).length=_;rw [List.length_append,ih,Vector.length_toList,List.length_cons]; omega
theorem Qkg (f:Nat→Qa):∀(h r:Nat),2^h≤r→r < 2^(h+1)→(pth f r).length=h:=by
 intro h
 induction h with
 | zero=>intro r h1 h2; rw [Qhl f (by simp at h2; omega)]; rfl
 | succ h ih=>
  intro r h1 h2;have e1:2^(h+1)=2^h*2:=Nat.pow_succ ..;have e2:2^(h+1+1)=2^(h+1)*2:=Nat.pow_succ ..;have e0:0 < 2^h:=Nat.pow_pos (by omega);rw [Qe3 f (by omega),List.length_cons,ih (r / 2) (by omega) (by omega)]
theorem Qmg : ∀r:Fin 32,Qow (r.val:Int) 1=((sib r.val:Nat):Int):=by with_unfolding_all decide
def qy (h k:Nat) (id:QX) (seed:Qa) (q:Nat) (msg:List (BitVec 8)):List (BitVec 8):=
 ((be (BitVec.ofNat 32 q) 4++B5 k id (BitVec.ofNat 32 q) seed msg)++be (BitVec.ofNat 32 h) 4)++Qe8 (pth (tv k id seed (KK h)) (KK h+q))
theorem qg {h k:Nat} (id:QX) (seed:Qa) (q:Nat) (hq:q < KK h) (msg:List (BitVec 8)):(qy h k id seed q msg).length=8+JK k+32*h:=by
 unfold qy;rw [List.length_append,List.length_append,List.length_append,JW,JW,Qbl,QmI,Qkg _ h (KK h+q) (by unfold KK; omega) (by rw [Nat.pow_succ]; unfold KK at hq ⊢; omega)]
 omega
theorem QkJ (h k:Nat) (id:QX) (seed:Qa) (hK:KK h≤16):∀(n r fuel:Nat) (b:List (BitVec 8)),r≤n→0 < r→r < 2*KK h→b.length+32*n≤1000000→n < fuel→
  ∃r',Jd (fun (s:Int×Bool×(List (BitVec 8)))=>VY (trS h k id seed) s.1 s.2.1 s.2.2) fuel ((r:Int),false,b)=some (r',false,b++Qe8 (pth (tv k id seed (KK h)) r)):=by
 intro n
 induction n with
 | zero=>intro r fuel b h1 h2; omega
 | succ n ih=>
  intro r fuel b h1 h2 h3 hb hfu;obtain ⟨fuel,rfl⟩:∃m,fuel=m+1:=⟨fuel - 1,by omega⟩
  by_cases hr:1 < r
  ·have hx:=Qmg ⟨r,by omega⟩
   simp only [] at hx
   have hs:0 < sib r∧sib r < 2*KK h:=by
    have:2*KK h % 2=0:=by omega
    unfold sib; omega
   have g:=Qfk (k:=k) (id:=id) (seed:=seed) hs.1 hs.2;obtain ⟨r',hr'⟩:=ih (r / 2) fuel (b++(tv k id seed (KK h) (sib r)).toList) (by omega) (by omega) (by omega) (by rw [List.length_append,Vector.length_toList]; omega) (by omega);refine ⟨r',?_⟩;have hd:Int.tdiv (r:Int) 2=((r / 2:Nat):Int):=(Int.ofNat_tdiv r 2).symm;rw [YH (s':=(((r / 2:Nat):Int),false,b++(tv k id seed (KK h) (sib r)).toList)) (by
    simp only [VY]
    rw [QA (by rw [decide_eq_true_eq]; omega),Option.bind_some,hx,Qb g,Qb (Uu _ _ (by rw [Vector.length_toList]; omega)),hd];clear hx g hr' hd;rw [Jr (by omega) (by omega)]),hr',Qe3 _ hr]
   simp [Qe8]
  ·refine ⟨(r:Int),?_⟩;rw [XQ (s':=((r:Int),false,b)) (by
    simp only [VY]
    rw [QQ (by rw [decide_eq_true_eq]; omega)]),Qhl _ hr]
   simp [Qe8]
theorem Qic {h k:Nat} (hh:IsH h) (hk:J1 k) (id:QX) (seed:Qa) (q:Nat) (hq:q < KK h) (msg:List (BitVec 8)) (hm:msg.length≤2000000000):Ut (trS h k id seed) (q:Int) msg=some (qy h k id seed q msg,0):=by
 unfold Ut;obtain ⟨hK1,hK2⟩:=Qat hh;have hhl:=W6 hh;have hsz:JK k≤100000:=by have:=Kb hk; unfold JK; omega
 have hsl:=Qbl (k:=k) id (BitVec.ofNat 32 q) seed msg;obtain ⟨r',hl⟩:=QkJ h k id seed hK2 (KK h+q) (KK h+q) FU ((be (BitVec.ofNat 32 q) 4++B5 k id (BitVec.ofNat 32 q) seed msg)++be (BitVec.ofNat 32 h) 4) (Nat.le_refl _) (by omega) (by omega) (by simp only [List.length_append,JW]; omega) (J6 (by omega));rw [QQ (by simp),QQ (by rw [decide_eq_true_eq]; omega),Qb (QfN hh id seed),Option.bind_some,QQ (by rw [decide_eq_true_eq]; omega),Option.bind_some,Option.bind_some,Option.bind_some]
 simp only []
 rw [Bl,Qb (QnW hk id _ seed msg hm),QQ (by simp),Qb (qR [] (by simp) _)]
 simp only [List.nil_append]
 rw [Qb (Uu _ _ (by rw [JW]; omega)),Option.bind_some]
 simp only []
 rw [Bl,Qb (qR _ (by rw [List.length_append,JW]; omega) _),Qb (QfN hh id seed)];rw [show w64 ((KK h:Int)+(q:Int))=((KK h+q:Nat):Int) by rw [Jr (by omega) (by omega)]; omega,Qb hl]
 simp only []
 rw [Qb (Qdx _ (by have:=qg (k:=k) id seed q hq msg; unfold qy at this; omega))]
 rfl
end Go.Sl.Pu
set_option maxRecDepth 20000
namespace Go.Sl.Pu
open Go.Sl Go.Sl.M
attribute [local irreducible] sha w64 Qf9 und B5 ndh QbB val hat
theorem Qmo (a b:List (BitVec 8)) (ha:a.length≤4294967296):XB a b=some (decide (a=b)):=by
 unfold XB
 by_cases hl:a.length=b.length
 ·rw [QQ (by simp [hl])];have h1:=Qoz (f:=fun (s:Int)=>Z7 a b s) a b hl (by omega) (fun i h1 h2=>by
   simp only [Z7]
   rw [QA (by rw [decide_eq_true_eq]; omega),Qb (Jl rfl h1),Qb (Jl rfl h2),Jr (by omega) (by omega)]
   by_cases he:a[i]=b[i]
   ·rw [QQ (by simp [he]),if_pos he]
   ·rw [QA (by simp [he]),if_neg he]) (by
   simp only [Z7]
   rw [QQ (by rw [decide_eq_true_eq]; omega)])
  rw [Qb h1]
  by_cases hab:a=b
  ·rw [if_pos hab,decide_eq_true hab]
  ·rw [if_neg hab,decide_eq_false hab]
 ·rw [QA (by simp; omega),decide_eq_false (fun h=>hl (by rw [h]))]
def n4 (b:List (BitVec 8)) (i:Nat):Nat:=(val ((b.drop i).take 4)).toNat
theorem QmG (b:List (BitVec 8)) (i:Nat):n4 b i < 4294967296:=by
 have:=Qi8 ((b.drop i).take 4) 4 (by simp; omega) (by omega);unfold n4;have h32:(2:Nat)^(8*4)=4294967296:=by decide
 omega
theorem Qit (b:List (BitVec 8)) (i:Nat):(((val ((b.drop i).take 4)).setWidth 32).toNat:Int)=(n4 b i:Int):=by
 have:=QmG b i;unfold n4 at this ⊢;rw [BitVec.toNat_setWidth,Nat.mod_eq_of_lt (by omega)]
theorem B2 (b:List (BitVec 8)) (i:Nat) (h:i+4≤b.length):JF (b.drop i,false)=some ((b.drop (i+4),false),(val ((b.drop i).take 4)).setWidth 32):=by
 rw [Qkw _ (by rw [List.length_drop]; omega),List.drop_drop]
theorem Uq (b:List (BitVec 8)) (i n:Nat) (h:i+n≤b.length):Ja (b.drop i,false) (n:Int)=some ((b.drop (i+n),false),(b.drop i).take n):=by
 rw [QdS _ n (by rw [List.length_drop]; omega),List.drop_drop]
def Qa8 (b:List (BitVec 8)) (p h:Nat):List Qa:=(List.range h).map fun i=>hat b (p+32*i)
theorem QlH (b:List (BitVec 8)) (p h:Nat):Qa8 b p (h+1)=Qa8 b p h++ [hat b (p+32*h)]:=by simp [Qa8,List.range_succ]
theorem QcV (b:List (BitVec 8)) (p h:Nat):(Qa8 b p h).length=h:=by simp [Qa8]
theorem Qjr {h k:Nat} (hh:IsH h) (hk:J1 k) (b:List (BitVec 8)) (hl:b.length≠8+JK k+32*h):Ws b (h:Int) (k:Int)=some ((0, [], []),false):=by
 unfold Ws;rw [Qb (Qdp hh hk),QA (by
  simp only [Bool.not_eq_true',decide_eq_false_iff_not]
  omega),Option.bind_some]
theorem QkV {h k:Nat} (hh:IsH h) (hk:J1 k) (b:List (BitVec 8)) (hl:b.length=8+JK k+32*h) :
  Ws b (h:Int) (k:Int)=some (((n4 b 0:Int),(b.drop 4).take (JK k),Qa8 b (8+JK k) h),decide (n4 b (4+JK k)=h∧n4 b 0 < KK h∧n4 ((b.drop 4).take (JK k)) 0=k)):=by
 unfold Ws;have hhl:=W6 hh;have hsz:JK k≤100000∧36≤JK k:=by have:=Kb hk; unfold JK; omega
 rw [Qb (Qdp hh hk),QQ (by
  simp only [Bool.not_eq_true',decide_eq_false_iff_not,Decidable.not_not]
  omega)]
 have r1:=B2 b 0 (by omega);have r2:=Uq b 4 (JK k) (by omega);have r3:=B2 b (4+JK k) (by omega);rw [show (0:Nat)+4=4 from rfl] at r1;rw [show 4+JK k+4=8+JK k by omega] at r3;rw [Qb (QbS b (by omega))]
 simp only []
 rw [show JF (b,false)=_ from r1,Option.bind_some]
 simp only []
 rw [Qb (Qhg hk),Qb r2]
 simp only []
 rw [Qb r3]
 simp only []
 have hloop:=JQ (f:=fun (s:Int×(List (BitVec 8))×Bool×(List Qa))=>KF (h:Int) s.1 s.2.1 s.2.2.1 s.2.2.2) (fun i (_:Unit)=>((i:Int),b.drop (8+JK k+32*i),false,Qa8 b (8+JK k) i)) (fun _ s=>s) 0 h (fun i s h1 h2=>by
  simp only [KF]
  have r4:Ja (b.drop (8+JK k+32*i),false) (32:Int)=_:=Uq b (8+JK k+32*i) 32 (by omega);rw [QA (by rw [decide_eq_true_eq]; omega),Qb r4]
  simp only []
  rw [Qb (Qha b (8+JK k+32*i) (by omega)),QA (by rw [QcV]; unfold AP; simp only [List.length_singleton]; omega),Jr (n:=(i:Int)+1) (by omega) (by omega),QlH]
  rfl) (fun s=>by
  simp only [KF]
  rw [QQ (by rw [decide_eq_true_eq]; omega)]) FU () (by omega) (J6 (by omega))
 have hloop':Jd (fun (s:Int×(List (BitVec 8))×Bool×(List Qa))=>KF (h:Int) s.1 s.2.1 s.2.2.1 s.2.2.2) FU ((0:Int),b.drop (8+JK k),false,([]:List Qa))=some ((h:Int),b.drop (8+JK k+32*h),false,Qa8 b (8+JK k) h):=hloop;rw [Qb hloop']
 simp only []
 have hd:KT (b.drop (8+JK k+32*h),false)=some true:=by
  unfold KT ZZ Yk;rw [Option.bind_some,Option.bind_some,QA (by rfl),Option.bind_some,decide_eq_true (by rw [List.length_drop]; omega),Option.bind_some]
 rw [Qb hd,QA rfl];have e1:(((val (List.take 4 (List.drop (4+JK k) b))).setWidth 32).toNat:Int)=(n4 b (4+JK k):Int):=Qit b _;have e2:(((val (List.take 4 (List.drop 0 b))).setWidth 32).toNat:Int)=(n4 b 0:Int):=Qit b 0;rw [e1,e2,Option.bind_some];have hq:(n4 ((b.drop 4).take (JK k)) 0:Int)=(((val (List.take 4 (List.drop 0 ((b.drop 4).take (JK k))))).setWidth 32).toNat:Int):=(Qit _ 0).symm;have hol:((b.drop 4).take (JK k)).length=JK k:=by rw [List.length_take,List.length_drop]; omega
 have r5:=B2 ((b.drop 4).take (JK k)) 0 (by omega)
 by_cases c1:n4 b (4+JK k)=h
 ·rw [QA (by rw [decide_eq_true_eq,c1]),QA (by omega),Option.bind_some,QbR hh]
  by_cases c2:n4 b 0 < KK h
  ·rw [QA (by rw [decide_eq_true_eq]; omega),Qb (QbS _ (by omega))]
   simp only []
   rw [show JF ((b.drop 4).take (JK k),false)=_ from r5,Option.bind_some,Option.bind_some]
   simp only []
   rw [←hq];refine congrArg some (Prod.ext rfl ?_)
   simp only [decide_eq_decide]
   constructor
   ·intro hc; exact ⟨c1,c2,by omega⟩
   ·intro hc; have:=hc.2.2; omega
  ·rw [QQ (by rw [decide_eq_true_eq]; omega),Option.bind_some];refine congrArg some (Prod.ext rfl ?_)
   simp only []
   rw [decide_eq_false (fun hc=>c2 hc.2.1)]
 ·rw [QQ (by rw [decide_eq_true_eq]; omega),Option.bind_some,QQ (by decide),Option.bind_some];refine congrArg some (Prod.ext rfl ?_)
  simp only []
  rw [decide_eq_false (fun hc=>c1 hc.1)]
def Qcr (id:QX):Nat→Qa→List Qa→Qa
 | _,h, []=>h
 | r,h,x::l=>Qcr id (r / 2) (if r % 2=1 then ndh id (r / 2) 33667 (x.toList++h.toList) else ndh id (r / 2) 33667 (h.toList++x.toList)) l
theorem QiV (id:QX) (P:List Qa) (hP:P.length≤1000):∀(l:List Qa) (i r fuel:Nat) (h:Qa),P.drop i=l→i+l.length=P.length→r≤1000000→l.length < fuel→
  ∃u v,Jd (fun (s:Int×Int×Qa)=>Ua P id s.1 s.2.1 s.2.2) fuel ((r:Int),(i:Int),h)=some (u,v,Qcr id r h l):=by
 intro l
 induction l with
 | nil=>
  intro i r fuel h h1 hi hr hfu;obtain ⟨fuel,rfl⟩:∃m,fuel=m+1:=⟨fuel - 1,by omega⟩
  simp only [List.length_nil] at hi
  exact ⟨(r:Int),(i:Int),XQ (by
   simp only [Ua]
   rw [QQ (by rw [decide_eq_true_eq]; omega)]; rfl)⟩
 | cons x l ih=>
  intro i r fuel h h1 hi hr hfu;obtain ⟨fuel,rfl⟩:∃m,fuel=m+1:=⟨fuel - 1,by omega⟩
  simp only [List.length_cons] at hi hfu
  have hi1:i < P.length:=by omega
  rw [List.drop_eq_getElem_cons hi1] at h1
  injection h1 with h1 h1'
  have hd:Int.tdiv (r:Int) 2=((r / 2:Nat):Int):=(Int.ofNat_tdiv r 2).symm;have hm:Int.tmod (r:Int) 2=((r % 2:Nat):Int):=(Int.ofNat_tmod r 2).symm;obtain ⟨u,v,huv⟩:=ih (i+1) (r / 2) fuel (if r % 2=1 then ndh id (r / 2) 33667 (x.toList++h.toList) else ndh id (r / 2) 33667 (h.toList++x.toList)) h1' (by omega) (by omega) (by omega);refine ⟨u,v,?_⟩;rw [YH (s':=(((r / 2:Nat):Int),((i+1:Nat):Int),if r % 2=1 then ndh id (r / 2) 33667 (x.toList++h.toList) else ndh id (r / 2) 33667 (h.toList++x.toList))) (by
   simp only [Ua]
   rw [QA (by rw [decide_eq_true_eq]; omega),Qb (Jl rfl hi1),h1,hm,hd];clear hm hd huv;rw [Jr (n:=((r / 2:Nat):Int)) (by omega) (by omega),Jr (n:=(i:Int)+1) (by omega) (by omega)]
   by_cases c:r % 2=1
   ·rw [QA (by rw [decide_eq_true_eq]; omega),Option.bind_some,Qb (QdY id (r / 2) _ _),if_pos c]; rfl
   ·rw [QQ (by rw [decide_eq_true_eq]; omega),Option.bind_some,Qb (QdY id (r / 2) _ _),if_neg c]; rfl),huv]
  rfl
theorem QlQ (id:QX) (r:Nat) (hr:r≤1000000) (h:Qa) (P:List Qa) (hP:P.length≤1000):Qae id (r:Int) h P=some (Qcr id r h P):=by
 unfold Qae;obtain ⟨u,v,huv⟩:=QiV id P hP P 0 r FU h rfl (by omega) hr (J6 (by omega));have huv':Jd (fun (s:Int×Int×Qa)=>Ua P id s.1 s.2.1 s.2.2) FU ((r:Int),(0:Int),h)=_:=huv;rw [Qb huv']
def Qaj (b:List (BitVec 8)) (off:Nat):QX:=Vector.ofFn fun j:Fin 16=>b.getD (off+j.val) 0#8
theorem Qei (b:List (BitVec 8)) (off:Nat) (h:off+16≤b.length):(Qaj b off).toList=(b.drop off).take 16:=by
 apply List.ext_getElem?
 intro i;rw [List.getElem?_take]
 by_cases hi:i < 16
 ·rw [if_pos hi,List.getElem?_drop];have h2:off+i < b.length:=by omega
  have:(Qaj b off).toList[i]? = some (b.getD (off+i) 0#8):=by
   unfold Qaj;rw [List.getElem?_eq_getElem (by simp; exact hi)]
   simp
  rw [this]; simp [h2]
 ·rw [if_neg hi,List.getElem?_eq_none (by simp; omega)]
theorem QeJ (b:List (BitVec 8)) (off:Nat) (h:off+16≤b.length):WT 16 ((b.drop off).take 16)=some (Qaj b off):=by
 have hl:16≤((b.drop off).take 16).length:=by simp; omega
 unfold WT;rw [dif_pos hl];refine congrArg some (Vector.toList_inj.1 ?_);rw [QaM,Qei b off h,List.take_take,Nat.min_self]
def Qom (h k:Nat) (id:QX) (msg sig:List (BitVec 8)):Qa:=
 Qcr id (KK h+n4 sig 0) (ndh id (KK h+n4 sig 0) 33410 (QbB k id (BitVec.ofNat 32 (n4 sig 0)) msg ((sig.drop 4).take (JK k))).toList) (Qa8 sig (8+JK k) h)
def isT (h k:Nat) (sig:List (BitVec 8)):Prop:=n4 sig (4+JK k)=h∧n4 sig 0 < KK h∧n4 ((sig.drop 4).take (JK k)) 0=k
instance (h k:Nat) (sig:List (BitVec 8)):Decidable (isT h k sig):=by unfold isT; infer_instance
def vrf (p msg sig:List (BitVec 8)):Bool:=
 decide (p.length=56∧(1≤n4 p 0∧n4 p 0≤4)∧(1≤n4 p 4∧n4 p 4≤4)∧sig.length=8+JK (n4 p 4)+32*n4 p 0∧isT (n4 p 0) (n4 p 4) sig∧(Qom (n4 p 0) (n4 p 4) (Qaj p 8) msg sig).toList=(p.drop 24).take 32)
theorem QcI (p msg sig:List (BitVec 8)) (hp:p.length≤4000000000) (hm:msg.length≤2000000000) (hs:sig.length≤2000000000):Bc p msg sig=some (vrf p msg sig):=by
 unfold Bc
 by_cases hl:p.length=56
 ·rw [QQ (by simp [hl]),Qb (QbS p hp)];have r1:=B2 p 0 (by omega);have r2:=B2 p 4 (by omega);have r3:Ja (p.drop 8,false) (16:Int)=_:=Uq p 8 16 (by omega);have r4:Ja (p.drop 24,false) (32:Int)=_:=Uq p 24 32 (by omega)
  simp only []
  rw [show JF (p,false)=_ from r1,Option.bind_some]
  simp only []
  rw [show JF (p.drop (0+4),false)=_ from r2,Option.bind_some]
  simp only []
  rw [show Ja (p.drop (4+4),false) (16:Int)=_ from r3,Option.bind_some]
  simp only []
  rw [Qb (QeJ p 8 (by omega)),show Ja (p.drop (8+16),false) (32:Int)=_ from r4,Option.bind_some]
  simp only []
  have e1:(((val (List.take 4 (List.drop 0 p))).setWidth 32).toNat:Int)=(n4 p 0:Int):=Qit p 0;have e2:(((val (List.take 4 (List.drop 4 p))).setWidth 32).toNat:Int)=(n4 p 4:Int):=Qit p 4;rw [e1,e2]
  by_cases hb:(1≤n4 p 0∧n4 p 0≤4)∧(1≤n4 p 4∧n4 p 4≤4)
  ·have hh:IsH (n4 p 0):=by unfold IsH; omega
   have hk:J1 (n4 p 4):=by unfold J1; omega
   rw [Qb (Qhn hh hk),QQ (by decide)];obtain ⟨hK1,hK2⟩:=Qat hh
   by_cases hsl:sig.length=8+JK (n4 p 4)+32*n4 p 0
   ·rw [Qb (QkV hh hk sig hsl)]
    simp only []
    by_cases ht:isT (n4 p 0) (n4 p 4) sig
    ·have ht':=ht;unfold isT at ht';have hsz:36≤JK (n4 p 4):=by unfold JK; omega
     have hol:((sig.drop 4).take (JK (n4 p 4))).length=JK (n4 p 4):=by rw [List.length_take,List.length_drop]; omega
     have Qbw:Qhs (n4 p 4) ((sig.drop 4).take (JK (n4 p 4))):=⟨hk,hol,ht'.2.2⟩;rw [QQ (by rw [decide_eq_true ht']; decide),Bl,Qb (Qjg (Qaj p 8) _ msg _ hm Qbw),QQ (by simp),QA (by omega),QbR hh,Option.bind_some,
      show w64 ((KK (n4 p 0):Int)+(n4 sig 0:Int))=((KK (n4 p 0)+n4 sig 0:Nat):Int) by rw [Jr (by omega) (by omega)]; omega,Qb (QhY _ _ _),Qb (QlQ _ _ (by omega) _ _ (by rw [QcV]; omega)),Qb (Qmo _ _ (by simp))]
     refine congrArg some ?_;unfold vrf
     simp only [decide_eq_decide]
     constructor
     ·intro hc; exact ⟨hl,hb.1,hb.2,hsl,ht,hc⟩
     ·intro hc; exact hc.2.2.2.2.2
    ·have ht':=ht;unfold isT at ht';rw [QA (by rw [decide_eq_false ht']; rfl)];refine congrArg some ?_;unfold vrf;rw [decide_eq_false (fun hc=>ht hc.2.2.2.2.1)]
   ·rw [Qb (Qjr hh hk sig hsl),QA (by rfl)];refine congrArg some ?_;unfold vrf;rw [decide_eq_false (fun hc=>hsl hc.2.2.2.1)]
  ·rw [Qb (Qke (by omega)),QA (by rfl)];refine congrArg some ?_;unfold vrf;rw [decide_eq_false (fun hc=>hb ⟨hc.2.1,hc.2.2.1⟩)]
 ·rw [QA (by simp; omega)];refine congrArg some ?_;unfold vrf;rw [decide_eq_false (fun hc=>hl hc.1)]
theorem Qo9 (b:List (BitVec 8)) (i c:Nat) (hc:c < 4294967296):(val ((b.drop i).take 4)=BitVec.ofNat 64 c)↔n4 b i=c:=by
 have:=QmG b i;unfold n4 at this ⊢
 constructor
 ·intro h; rw [h,BitVec.toNat_ofNat,Nat.mod_eq_of_lt (by omega)]
 ·intro h; apply BitVec.eq_of_toNat_eq; rw [BitVec.toNat_ofNat,Nat.mod_eq_of_lt (by omega)]; exact h
theorem QhN (id:QX) (sig:List (BitVec 8)) (r1:BitVec 64) (n h:Nat) (hr1:w64 (r1.toNat:Int)=(h:Int)) (hh:h≤4) (hn:n≤100000) (hsl:sig.length=8+n+32*h):∀(d i r fuel:Nat) (x:Qa),i+d=h→r≤1000000→d < fuel→
  ∃u v,Jd (fun (s:Int×Int×Qa)=>Z8 r1 sig (n:Int) id s.1 s.2.1 s.2.2) fuel ((r:Int),(i:Int),x)=some (u,v,Qcr id r x ((Qa8 sig (8+n) h).drop i)):=by
 intro d
 induction d with
 | zero=>
  intro i r fuel x hi hr hfu;obtain ⟨fuel,rfl⟩:∃m,fuel=m+1:=⟨fuel - 1,by omega⟩;refine ⟨(r:Int),(i:Int),?_⟩;rw [List.drop_eq_nil_of_le (by rw [QcV]; omega)];exact XQ (by
   simp only [Z8]
   rw [hr1,QQ (by clear hr1; rw [decide_eq_true_eq]; omega)]; rfl)
 | succ d ih=>
  intro i r fuel x hi hr hfu;obtain ⟨fuel,rfl⟩:∃m,fuel=m+1:=⟨fuel - 1,by omega⟩;have hi1:i < (Qa8 sig (8+n) h).length:=by rw [QcV]; omega
  have e0:(Qa8 sig (8+n) h)[i]=hat sig (8+n+32*i):=by simp [Qa8]
  rw [List.drop_eq_getElem_cons hi1,e0];have hd:Int.tdiv (r:Int) 2=((r / 2:Nat):Int):=(Int.ofNat_tdiv r 2).symm;have hm:Int.tmod (r:Int) 2=((r % 2:Nat):Int):=(Int.ofNat_tmod r 2).symm;obtain ⟨u,v,huv⟩:=ih (i+1) (r / 2) fuel (if r % 2=1 then ndh id (r / 2) 33667 ((hat sig (8+n+32*i)).toList++x.toList) else ndh id (r / 2) 33667 (x.toList++(hat sig (8+n+32*i)).toList)) (by omega) (by omega) (by omega);refine ⟨u,v,?_⟩;have w1:w64 (w64 ((8:Int)+(n:Int))+w64 ((32:Int)*(i:Int)))=((8+n+32*i:Nat):Int):=by
   clear hr1 hd hm huv e0;rw [Jr (n:=(8:Int)+(n:Int)) (by omega) (by omega),Jr (n:=(32:Int)*(i:Int)) (by omega) (by omega),Jr (by omega) (by omega)]; omega
  have w2:w64 (w64 ((40:Int)+(n:Int))+w64 ((32:Int)*(i:Int)))=((8+n+32*i+32:Nat):Int):=by
   clear hr1 hd hm huv e0 w1;rw [Jr (n:=(40:Int)+(n:Int)) (by omega) (by omega),Jr (n:=(32:Int)*(i:Int)) (by omega) (by omega),Jr (by omega) (by omega)]; omega
  have s1:JZ sig (((8+n+32*i:Nat):Int)) (((8+n+32*i+32:Nat):Int))=some ((sig.drop (8+n+32*i)).take 32):=by
   rw [J5 rfl rfl (by omega) (by clear hr1 w1 w2; omega),List.drop_take,Nat.add_sub_cancel_left]
  have q1:(hat sig (8+n+32*i)).toList.length=32:=by simp
  have q2:x.toList.length=32:=by simp
  rw [YH (s':=(((r / 2:Nat):Int),((i+1:Nat):Int),if r % 2=1 then ndh id (r / 2) 33667 ((hat sig (8+n+32*i)).toList++x.toList) else ndh id (r / 2) 33667 (x.toList++(hat sig (8+n+32*i)).toList))) (by
   simp only [Z8]
   rw [hr1,QA (by clear hr1 w1 w2; rw [decide_eq_true_eq]; omega),w1,w2,Qb s1,Qb (Qha sig _ (by clear hr1 w1 w2; omega)),hm,hd];clear hr1 w1 w2 hm hd huv s1;rw [Jr (n:=((r / 2:Nat):Int)) (by omega) (by omega),Jr (n:=(i:Int)+1) (by omega) (by omega)]
   by_cases c:r % 2=1
   ·have n1:Z0 id ((r / 2:Nat):Int) (33667:Int) _=_:=QdI id (r / 2) 33667 ((hat sig (8+n+32*i)).toList++x.toList) (by rw [List.length_append,q1,q2]; omega);rw [QQ (by rw [decide_eq_true_eq]; omega),Qb (Qmz _ _),Qb n1,if_pos c]; rfl
   ·have n1:Z0 id ((r / 2:Nat):Int) (33667:Int) _=_:=QdI id (r / 2) 33667 (x.toList++(hat sig (8+n+32*i)).toList) (by rw [List.length_append,q1,q2]; omega);rw [QA (by rw [decide_eq_true_eq]; omega),Qb (Qmz _ _),Qb n1,if_neg c]; rfl),huv]
  rfl
theorem Qd9 (b:List (BitVec 8)) (i:Nat):w64 ((val ((b.drop i).take 4)).toNat:Int)=(n4 b i:Int):=by
 have:=QmG b i;show w64 ((n4 b i:Nat):Int)=_;rw [Jr (by omega) (by omega)]
theorem QfE (b:List (BitVec 8)) (lo hi:Int) (i:Nat) (h1:lo=(i:Int)) (h2:hi=((i+4:Nat):Int)) (h:i+4≤b.length):JZ b lo hi=some ((b.drop i).take 4):=by
 rw [J5 h1 h2 (by omega) h,List.drop_take,Nat.add_sub_cancel_left]
theorem QgY (b:List (BitVec 8)) (i:Nat):(decide ((4#64) < val ((b.drop i).take 4)))=decide (4 < n4 b i):=by
 unfold n4
 simp only [decide_eq_decide,BitVec.lt_def]
 rfl
theorem QfV (p msg sig:List (BitVec 8)) (hp:p.length≤4000000000) (hm:msg.length≤2000000000) (hs:sig.length≤2000000000):XL p msg sig=some (vrf p msg sig):=by
 unfold XL
 by_cases hl:p.length=56
 ·have v0:∀(b:List (BitVec 8)) i,JN ((b.drop i).take 4)=some (val ((b.drop i).take 4)):=fun b i=>Qdn _ (by rw [List.length_take]; omega);rw [QQ (by simp [hl]),Qb (QfE p 0 4 0 rfl rfl (by omega)),Qb (v0 p 0),Qb (QfE p 4 8 4 rfl rfl (by omega)),Qb (v0 p 4),QgY,QgY,Qd9,Qd9]
  by_cases hb:(1≤n4 p 0∧n4 p 0≤4)∧(1≤n4 p 4∧n4 p 4≤4)
  ·have hh:IsH (n4 p 0):=by unfold IsH; omega
   have hk:J1 (n4 p 4):=by unfold J1; omega
   obtain ⟨hK1,hK2⟩:=Qat hh;have hsz:JK (n4 p 4)≤100000∧36≤JK (n4 p 4):=by have:=Kb hk; unfold JK; omega
   rw [QQ (by rw [decide_eq_true_eq]; omega),Option.bind_some,QQ (by rw [decide_eq_true_eq]; omega),Qb (QdC hh hk),Option.bind_some,QQ (by rw [decide_eq_true_eq]; omega),Qb (QgF hh hk),Option.bind_some]
   by_cases hsl:sig.length=8+JK (n4 p 4)+32*n4 p 0
   ·have s3:JZ p (8:Int) (24:Int)=some ((p.drop 8).take 16):=by
     rw [J5 (lo:=(8:Int)) (hi:=(24:Int)) (a:=8) (b:=24) rfl rfl (by omega) (by omega),List.drop_take]
    have w1:w64 ((4:Int)+(JK (n4 p 4):Int))=((4+JK (n4 p 4):Nat):Int):=by rw [Jr (by omega) (by omega)]; omega
    have w2:w64 ((8:Int)+(JK (n4 p 4):Int))=((4+JK (n4 p 4)+4:Nat):Int):=by clear w1; rw [Jr (by omega) (by omega)]; omega
    have c0:(decide ((BitVec.ofInt 64 (KK (n4 p 0):Int))≤val ((sig.drop 0).take 4)))=decide (KK (n4 p 0)≤n4 sig 0):=by
     unfold n4
     simp only [decide_eq_decide,BitVec.le_def]
     rw [QdA,BitVec.toNat_ofNat,Nat.mod_eq_of_lt (by clear w1 w2; unfold n4 at hK2; omega)]
    have c1:(decide (val ((sig.drop 4).take 4)=val ((p.drop 4).take 4)))=decide (n4 sig 4=n4 p 4):=by
     unfold n4
     simp only [decide_eq_decide]
     exact ⟨fun h=>by rw [h],fun h=>BitVec.eq_of_toNat_eq h⟩
    have c2:(decide (val ((sig.drop (4+JK (n4 p 4))).take 4)=val ((p.drop 0).take 4)))=decide (n4 sig (4+JK (n4 p 4))=n4 p 0):=by
     unfold n4
     simp only [decide_eq_decide]
     exact ⟨fun h=>by rw [h],fun h=>BitVec.eq_of_toNat_eq h⟩
    have c3:n4 ((sig.drop 4).take (JK (n4 p 4))) 0=n4 sig 4:=by
     clear w1 w2 c0 c1 c2
     generalize JK (n4 p 4)=sn at hsz
     unfold n4;rw [List.drop_zero,List.take_take,Nat.min_eq_left (by omega)]
    rw [QQ (by simp only [Bool.not_eq_true',decide_eq_false_iff_not,Decidable.not_not]; clear w1 w2; omega),Qb s3,Qb (QeJ p 8 (by clear w1 w2; omega)),Qb (Qfv hk),Qb (QfE sig 0 4 0 rfl rfl (by clear w1 w2; omega)),Qb (v0 sig 0),Qb (QdC hh hk),c0]
    by_cases ht:isT (n4 p 0) (n4 p 4) sig
    ·have ht':=ht;unfold isT at ht';rw [c3] at ht';have hol:((sig.drop 4).take (JK (n4 p 4))).length=JK (n4 p 4):=by clear w1 w2; rw [List.length_take,List.length_drop]; omega
     have Qbw:Qhs (n4 p 4) ((sig.drop 4).take (JK (n4 p 4))):=⟨hk,hol,c3.trans ht'.2.2⟩;have s8:JZ sig (4:Int) (((4+JK (n4 p 4):Nat):Int))=some ((sig.drop 4).take (JK (n4 p 4))):=by
      rw [J5 (lo:=(4:Int)) (a:=4) rfl rfl (by omega) (by clear w1 w2; omega),List.drop_take,Nat.add_sub_cancel_left]
     have hq:(val ((sig.drop 0).take 4)).setWidth 32=BitVec.ofNat 32 (n4 sig 0):=by
      unfold n4
      apply BitVec.eq_of_toNat_eq
      rw [BitVec.toNat_setWidth,BitVec.toNat_ofNat]
     have s11:JZ p (24:Int) (56:Int)=some ((p.drop 24).take 32):=by
      rw [J5 (lo:=(24:Int)) (hi:=(56:Int)) (a:=24) (b:=56) rfl rfl (by omega) (by clear w1 w2; omega),List.drop_take]
     have n1:Z0 (Qaj p 8) ((KK (n4 p 0)+n4 sig 0:Nat):Int) (33410:Int) _=_:=QdI (Qaj p 8) (KK (n4 p 0)+n4 sig 0) 33410 (QbB (n4 p 4) (Qaj p 8) (BitVec.ofNat 32 (n4 sig 0)) msg ((sig.drop 4).take (JK (n4 p 4)))).toList (by simp);obtain ⟨u,v,huv⟩:=QhN (Qaj p 8) sig (val ((p.drop 0).take 4)) (JK (n4 p 4)) (n4 p 0) (Qd9 p 0) hb.1.2 hsz.1 hsl (n4 p 0) 0 (KK (n4 p 0)+n4 sig 0) FU (ndh (Qaj p 8) (KK (n4 p 0)+n4 sig 0) 33410 (QbB (n4 p 4) (Qaj p 8) (BitVec.ofNat 32 (n4 sig 0)) msg ((sig.drop 4).take (JK (n4 p 4)))).toList) (by clear w1 w2; omega) (by clear w1 w2; omega) (J6 (by clear w1 w2; omega));have huv':Jd (fun (s:Int×Int×Qa)=>Z8 (val ((p.drop 0).take 4)) sig (JK (n4 p 4):Int) (Qaj p 8) s.1 s.2.1 s.2.2) FU (((KK (n4 p 0)+n4 sig 0:Nat):Int),(0:Int),_)=_:=huv;have w3:w64 ((KK (n4 p 0):Int)+(n4 sig 0:Int))=((KK (n4 p 0)+n4 sig 0:Nat):Int):=by clear w1 w2; rw [Jr (by omega) (by omega)]; omega
     rw [QQ (by clear w1 w2 w3; rw [decide_eq_true_eq]; omega),Qb (QfE sig 4 8 4 rfl rfl (by clear w1 w2 w3; omega)),Qb (v0 sig 4),Option.bind_some,c1,QQ (by rw [decide_eq_true ht'.2.2]; decide),w1,w2,Qb (QfE sig _ _ (4+JK (n4 p 4)) rfl rfl (by clear w1 w2 w3; omega)),Qb (v0 sig _),Option.bind_some,c2,QQ (by rw [decide_eq_true ht'.1]; decide),Qb s8,hq,Qb (Qiq (Qaj p 8) _ msg _ hm Qbw),Qb (QdC hh hk),Qd9,w3,Qb n1,Qb huv',QA rfl,Qb s11,List.drop_zero,Qb (Qkc _ _ (by simp)),Option.bind_some];refine congrArg some ?_;unfold vrf
     simp only [decide_eq_decide]
     constructor
     ·intro hc; exact ⟨hl,hb.1,hb.2,hsl,ht,hc⟩
     ·intro hc; exact hc.2.2.2.2.2
    ·have hv:vrf p msg sig=false:=by
      unfold vrf;rw [decide_eq_false (fun hc=>ht hc.2.2.2.2.1)]
     rw [hv];unfold isT at ht;rw [c3] at ht
     by_cases d1:KK (n4 p 0)≤n4 sig 0
     ·rw [QA (decide_eq_true d1),Option.bind_some,QA rfl,Option.bind_some,QA rfl]
     ·rw [QQ (by rw [decide_eq_true_eq]; exact d1),Qb (QfE sig 4 8 4 rfl rfl (by clear w1 w2; omega)),Qb (v0 sig 4),Option.bind_some,c1]
      by_cases d2:n4 sig 4=n4 p 4
      ·rw [QQ (by rw [decide_eq_true d2]; decide),w1,w2,Qb (QfE sig _ _ (4+JK (n4 p 4)) rfl rfl (by clear w1 w2; omega)),Qb (v0 sig _),Option.bind_some,c2];rw [QA (by rw [decide_eq_false (fun d3=>ht ⟨d3,by clear w1 w2; omega,d2⟩)]; rfl)]
      ·rw [QA (by rw [decide_eq_false d2]; rfl),Option.bind_some,QA rfl]
   ·rw [QA (by simp only [Bool.not_eq_true',decide_eq_false_iff_not]; omega)];refine congrArg some ?_;unfold vrf;rw [decide_eq_false (fun hc=>hsl hc.2.2.2.1)]
  ·have hv:vrf p msg sig=false:=by
    unfold vrf;rw [decide_eq_false (fun hc=>hb ⟨hc.2.1,hc.2.2.1⟩)]
   rw [hv]
   by_cases d1:4 < n4 p 0
   ·rw [QA (decide_eq_true d1),Option.bind_some,QA rfl,Option.bind_some,QA rfl,Option.bind_some,QA rfl]
   ·rw [QQ (by rw [decide_eq_true_eq]; exact d1),Option.bind_some]
    by_cases d2:4 < n4 p 4
    ·rw [QA (decide_eq_true d2),Option.bind_some,QA rfl,Option.bind_some,QA rfl]
    ·rw [QQ (by rw [decide_eq_true_eq]; exact d2),Qb (QhF (by omega)),Option.bind_some,QA (by rfl),Option.bind_some,QA rfl]
 ·rw [QA (by simp; omega)];refine congrArg some ?_;unfold vrf;rw [decide_eq_false (fun hc=>hl hc.1)]
end Go.Sl.Pu
set_option maxRecDepth 20000
namespace Go.Sl.Pu
open Go.Sl Go.Sl.M
attribute [local irreducible] sha w64 Qf9 und B5 ndh QbB val hat
theorem Qd5 (A B:List (BitVec 8)) (x i:Nat) (hx:x < 4294967296) (hA:A.length=i):n4 (A++(be (BitVec.ofNat 32 x) 4++B)) i=x:=by
 unfold n4;rw [←hA,List.drop_left,List.take_append_of_le_length (by rw [JW]; exact Nat.le_refl _),List.take_of_length_le (by rw [JW]; exact Nat.le_refl _),Qij,BitVec.toNat_setWidth,BitVec.toNat_ofNat]
 omega
theorem QnK (A B:List (BitVec 8)) (x:Qa) (i:Nat) (hA:A.length=i):hat (A++(x.toList++B)) i=x:=by
 apply Vector.toList_inj.1
 rw [QcJ _ _ (by rw [List.length_append,List.length_append,Vector.length_toList]; omega),←hA,List.drop_left,List.take_left' (by simp)]
theorem Qmw (A B:List (BitVec 8)) (x:QX) (i:Nat) (hA:A.length=i):Qaj (A++(x.toList++B)) i=x:=by
 apply Vector.toList_inj.1
 rw [Qei _ _ (by rw [List.length_append,List.length_append,Vector.length_toList]; omega),←hA,List.drop_left,List.take_left' (by simp)]
theorem Qk3 (b:List (BitVec 8)) (p h:Nat):Qa8 b p (h+1)=hat b p::Qa8 b (p+32) h:=by
 unfold Qa8;rw [List.range_succ_eq_map,List.map_cons,List.map_map];refine congrArg (List.cons (hat b p)) ?_
 apply List.map_congr_left
 intro i _;show hat b (p+32*(i+1))=hat b (p+32+32*i);rw [show p+32*(i+1)=p+32+32*i by omega]
theorem QhU : ∀(l:List Qa) (A:List (BitVec 8)) (p:Nat),A.length=p→Qa8 (A++Qe8 l) p l.length=l
 | [],A,p,h=>rfl
 | x::l,A,p,h=>by
  rw [List.length_cons,Qk3];have e:Qe8 (x::l)=x.toList++Qe8 l:=rfl;rw [e,QnK A _ x p h,←List.append_assoc,QhU l (A++x.toList) (p+32) (by rw [List.length_append,Vector.length_toList,h])]
theorem QkQ (k:Nat) (id:QX) (seed:Qa) (K:Nat):∀(n r:Nat),r≤n→0 < r→r < 2*K→Qcr id r (tv k id seed K r) (pth (tv k id seed K) r)=tv k id seed K 1:=by
 intro n
 induction n with
 | zero=>intro r h1 h2; omega
 | succ n ih=>
  intro r h1 h2 h3
  by_cases hr:1 < r
  ·rw [Qe3 _ hr];show Qcr id (r / 2) (if r % 2=1 then _ else _) (pth (tv k id seed K) (r / 2))=_;have e:(if r % 2=1 then ndh id (r / 2) 33667 ((tv k id seed K (sib r)).toList++(tv k id seed K r).toList) else ndh id (r / 2) 33667 ((tv k id seed K r).toList++(tv k id seed K (sib r)).toList))=tv k id seed K (r / 2):=by
    rw [Qh1 k id seed K (r:=r / 2) (by omega) (by omega)]
    by_cases c:r % 2=1
    ·rw [if_pos c,show sib r=2*(r / 2) by unfold sib; omega]
     conv=>lhs; rw [show r=2*(r / 2)+1 by omega]
     rw [show (2*(r / 2)+1) / 2=r / 2 by omega]
    ·rw [if_neg c,show sib r=2*(r / 2)+1 by unfold sib; omega]
     conv=>lhs; rw [show r=2*(r / 2) by omega]
     rw [show (2*(r / 2)) / 2=r / 2 by omega]
   rw [e];exact ih (r / 2) (by omega) (by omega) (by omega)
  ·have:r=1:=by omega
   subst this;rw [Qhl _ hr]; rfl
theorem Qfx {h k:Nat} (hh:IsH h) (hk:J1 k) (id:QX) (seed:Qa):n4 (WK h k id seed) 0=h∧n4 (WK h k id seed) 4=k∧Qaj (WK h k id seed) 8=id∧((WK h k id seed).drop 24).take 32=(tv k id seed (KK h) 1).toList:=by
 have h1:=W6 hh;have h2:=Qjp hk;refine ⟨?_,?_,?_,?_⟩
 ·have:=Qd5 [] ((be (BitVec.ofNat 32 k) 4++id.toList)++(tv k id seed (KK h) 1).toList) h 0 (by omega) rfl;unfold WK
  simpa [List.append_assoc] using this
 ·have:=Qd5 (be (BitVec.ofNat 32 h) 4) (id.toList++(tv k id seed (KK h) 1).toList) k 4 (by omega) (JW _ _);unfold WK
  simpa [List.append_assoc] using this
 ·have:=Qmw (be (BitVec.ofNat 32 h) 4++be (BitVec.ofNat 32 k) 4) ((tv k id seed (KK h) 1).toList) id 8 (by rw [List.length_append,JW,JW]);unfold WK
  simpa [List.append_assoc] using this
 ·unfold WK;rw [List.drop_left' (by rw [List.length_append,List.length_append,JW,JW,Vector.length_toList]),List.take_of_length_le (by simp)]
theorem Qgm {h k:Nat} (hh:IsH h) (hk:J1 k) (id:QX) (seed:Qa) (q:Nat) (hq:q < KK h) (msg:List (BitVec 8)):vrf (WK h k id seed) msg (qy h k id seed q msg)=true:=by
 obtain ⟨p1,p2,p3,p4⟩:=Qfx hh hk id seed;obtain ⟨hK1,hK2⟩:=Qat hh;have h1:=W6 hh;have h2:=Qjp hk;have hl:=qg (k:=k) id seed q hq msg;have sl:=Qbl (k:=k) id (BitVec.ofNat 32 q) seed msg;have e0:n4 (qy h k id seed q msg) 0=q:=by
  have:=Qd5 [] ((B5 k id (BitVec.ofNat 32 q) seed msg++be (BitVec.ofNat 32 h) 4)++Qe8 (pth (tv k id seed (KK h)) (KK h+q))) q 0 (by omega) rfl;unfold qy
  simpa [List.append_assoc] using this
 have e1:((qy h k id seed q msg).drop 4).take (JK k)=B5 k id (BitVec.ofNat 32 q) seed msg:=by
  unfold qy;rw [List.append_assoc,List.append_assoc,List.drop_left' (JW _ _),List.take_left' sl]
 have e2:n4 (qy h k id seed q msg) (4+JK k)=h:=by
  have:=Qd5 (be (BitVec.ofNat 32 q) 4++B5 k id (BitVec.ofNat 32 q) seed msg) (Qe8 (pth (tv k id seed (KK h)) (KK h+q))) h (4+JK k) (by omega) (by rw [List.length_append,JW,sl]);unfold qy;rw [List.append_assoc];exact this
 have e3:n4 (B5 k id (BitVec.ofNat 32 q) seed msg) 0=k:=by
  have:=(QmT hk id (BitVec.ofNat 32 q) seed msg).2.2;unfold n4;rw [List.drop_zero];exact this
 have pl:(pth (tv k id seed (KK h)) (KK h+q)).length=h:=Qkg _ h _ (by unfold KK; omega) (by rw [Nat.pow_succ]; unfold KK at hq ⊢; omega);have e4:Qa8 (qy h k id seed q msg) (8+JK k) h=pth (tv k id seed (KK h)) (KK h+q):=by
  have:=QhU (pth (tv k id seed (KK h)) (KK h+q)) ((be (BitVec.ofNat 32 q) 4++B5 k id (BitVec.ofNat 32 q) seed msg)++be (BitVec.ofNat 32 h) 4) (8+JK k) (by rw [List.length_append,List.length_append,JW,JW,sl]; omega);rw [pl] at this;exact this
 unfold vrf;rw [p1,p2,p3,p4];rw [decide_eq_true];refine ⟨Qas _ _ _ _,by omega,by omega,hl,⟨e2,by rw [e0]; exact hq,by rw [e1]; exact e3⟩,?_⟩;refine congrArg Vector.toList ?_;unfold Qom;rw [e0,e1,e4,Qi0 hk];have el:ndh id (KK h+q) 33410 (Qf9 k id (BitVec.ofNat 32 q) seed).toList=tv k id seed (KK h) (KK h+q):=by
  rw [Qki _ _ _ _ (Nat.le_add_right _ _)];unfold lfv;rw [Nat.add_sub_cancel_left]
 rw [el];exact QkQ k id seed (KK h) (KK h+q) (KK h+q) (Nat.le_refl _) (by omega) (by omega)
end Go.Sl.Pu
set_option maxRecDepth 20000
namespace Go.Sl.Pu
open Go.Sl Go.Sl.M
theorem QcH {n:Nat} (h:n≤4294967296):n≤AP:=h
theorem QlM (n:Nat) (h:n≤4294967296):Zr (n:Int)=some []:=by
 unfold Zr;rw [QQ (by rw [decide_eq_true_eq]; omega),show w64 ((0:Int) - 0)=0 from rfl,Jr (n:=(n:Int) - 0) (by omega) (by omega),Option.bind_some]
 by_cases h0:0 < n
 ·rw [QA (by rw [decide_eq_true_eq]; omega),QA ⟨by omega,by omega⟩,QA ⟨by omega,by omega⟩]; simp
 ·rw [QQ (by rw [decide_eq_true_eq]; omega)]
theorem QfU (L:List (List (BitVec 8))) (h:L.flatten.length≤4000000000) (hL:L.length≤1000):Zp L=some L.flatten:=by
 unfold Zp;have hpre:∀i,i≤L.length→(L.take i).flatten.length≤4000000000:=fun i hi=>by
  have:L.flatten.length=(L.take i).flatten.length+(L.drop i).flatten.length:=by
   rw [←List.length_append,←List.flatten_append,List.take_append_drop]
  omega
 have hsucc:∀i (hi:i < L.length),(L.take (i+1)).flatten=(L.take i).flatten++L[i]:=fun i hi=>by
  rw [List.take_succ_eq_append_getElem hi,List.flatten_append]; simp
 have h1:=JQ (f:=fun (s:Int×Int)=>JS L s.1 s.2) (fun i (_:Unit)=>((((L.take i).flatten.length:Nat):Int),(i:Int))) (fun _ s=>s) 0 L.length (fun i s _ hi=>by
  simp only [JS]
  have h2:=hpre (i+1) hi;have h3:(L.take (i+1)).flatten.length=(L.take i).flatten.length+L[i].length:=by rw [hsucc i hi,List.length_append]
  rw [QA (by rw [decide_eq_true_eq]; omega),Qb (Jl rfl hi),Jr (n:=(((L.take i).flatten.length:Nat):Int)+(L[i].length:Int)) (by omega) (by omega),QQ (by rw [decide_eq_true_eq]; omega),Jr (n:=(i:Int)+1) (by omega) (by omega),h3]
  rfl) (fun s=>by
  simp only [JS]
  rw [QQ (by rw [decide_eq_true_eq]; omega)]) FU () (by omega) (J6 (by omega))
 have h1':Jd (fun (s:Int×Int)=>JS L s.1 s.2) FU ((0:Int),(0:Int))=some ((((L.take L.length).flatten.length:Nat):Int),(L.length:Int)):=h1;rw [Qb h1',Qb (QlM _ (by have:=hpre L.length (Nat.le_refl _); omega))];have h4:=JQ (f:=fun (s:Int×(List (BitVec 8)))=>JT L s.1 s.2) (fun i (_:Unit)=>((i:Int),(L.take i).flatten)) (fun _ s=>s) 0 L.length (fun i s _ hi=>by
  simp only [JT]
  have h2:=hpre (i+1) hi;have h3:(L.take (i+1)).flatten.length=(L.take i).flatten.length+L[i].length:=by rw [hsucc i hi,List.length_append]
  rw [QA (by rw [decide_eq_true_eq]; omega),Qb (Jl rfl hi),QA (QcH (by omega)),Jr (n:=(i:Int)+1) (by omega) (by omega),hsucc i hi]
  rfl) (fun s=>by
  simp only [JT]
  rw [QQ (by rw [decide_eq_true_eq]; omega)]) FU () (by omega) (J6 (by omega))
 have h4':Jd (fun (s:Int×(List (BitVec 8)))=>JT L s.1 s.2) FU ((0:Int),([]:List (BitVec 8)))=some ((L.length:Int),(L.take L.length).flatten):=h4;rw [Qb h4',List.take_length]
end Go.Sl.Pu
set_option maxRecDepth 20000
namespace Go.Sl.Pu
open Go.Sl Go.Sl.M
attribute [local irreducible] sha w64 Qf9 und B5 ndh QbB val hat Qcl WK qy Qaj Qbf vrf
def tID (seed:Qa):QX:=Qaj (Qcl 105#8 [seed.toList]).toList 0
def qm (seed:Qa):Qa:=Qcl 115#8 [seed.toList]
def bID (seed:Qa) (i:Nat):QX:=Qaj (Qcl 105#8 [seed.toList,be (BitVec.ofNat 32 i) 4]).toList 0
def UF (seed:Qa) (i:Nat):Qa:=Qcl 115#8 [seed.toList,be (BitVec.ofNat 32 i) 4]
theorem Qpm (x:Qa):JZ x.toList 0 (16:Int)=some ((x.toList.drop 0).take 16):=by
 rw [J5 (lo:=(0:Int)) (hi:=(16:Int)) (a:=0) (b:=16) rfl rfl (by omega) (by simp),List.drop_zero,List.drop_zero]
theorem Qle (seed:Qa):WA seed []=some (tID seed,qm seed):=by
 unfold WA;rw [QQ (by simp),Option.bind_some,Qb (QbU _ _ (by simp [Uz])),Qb (Qpm _),Qb (QeJ _ 0 (by simp)),Qb (QbU _ _ (by simp [Uz]))]
 rfl
theorem QnC : ∀i:Fin 16,([BitVec.ofInt 8 (BX (i.val:Int) (24:Int)),BitVec.ofInt 8 (BX (i.val:Int) (16:Int)),BitVec.ofInt 8 (BX (i.val:Int) (8:Int)),BitVec.ofInt 8 (i.val:Int)]:List (BitVec 8))=be (BitVec.ofNat 32 i.val) 4:=by with_unfolding_all decide
theorem QkY (seed:Qa) (i:Nat) (hi:i < 16):WA seed [BitVec.ofInt 8 (BX (i:Int) (24:Int)),BitVec.ofInt 8 (BX (i:Int) (16:Int)),BitVec.ofInt 8 (BX (i:Int) (8:Int)),BitVec.ofInt 8 (i:Int)]=some (bID seed i,UF seed i):=by
 rw [QnC ⟨i,hi⟩];unfold WA
 simp only []
 rw [QA (by rw [decide_eq_true_eq,JW]; omega),QA (QcH (by simp)),Option.bind_some]
 simp only [List.singleton_append]
 rw [Qb (QbU _ _ (by simp [Uz,JW])),Qb (Qpm _),Qb (QeJ _ 0 (by simp)),Qb (QbU _ _ (by simp [Uz,JW]))]
 rfl
abbrev Sg : Type:=Int×Int×Qa×(Option QF)×(Option QF)×Int
def IsS (t b k:Nat) (seed:Qa) (s:Sg):Prop:=
 s.1=(b:Int)∧s.2.1=(k:Int)∧s.2.2.1=seed∧s.2.2.2.1=trS t k (tID seed) (qm seed)∧(s.2.2.2.2.2 = -1∨∃i:Nat,i < KK t∧s.2.2.2.2.2=(i:Int)∧s.2.2.2.2.1=trS b k (bID seed i) (UF seed i))
theorem QnJ {t b k:Nat} (ht:IsH t) (hb:IsH b) (hk:J1 k) (seed:Qa):∃s:Sg,Qb0 (t:Int) (b:Int) (k:Int) seed=some (some s,0)∧IsS t b k seed s:=by
 refine ⟨((b:Int),(k:Int),seed,trS t k (tID seed) (qm seed),none, -1),?_,rfl,rfl,rfl,rfl, .inl rfl⟩;unfold Qb0;rw [Qb (Qdp hb hk),QQ (by rw [decide_eq_true_eq]; omega),Qb (Qle seed),Qb (QjV ht hk _ _),QQ (by simp),Option.bind_some]
theorem Qmt {t b k:Nat} (ht:IsH t) (hb:IsH b){seed:Qa}{s:Sg} (hs:IsS t b k seed s):Uk s=some ((KK t*KK b:Nat):Int):=by
 unfold Uk;obtain ⟨h1,h2,h3,h4,h5⟩:=hs;have hb1:=W6 hb;obtain ⟨hK1,hK2⟩:=Qat ht;obtain ⟨hK3,hK4⟩:=Qat hb;have hm:KK t*KK b≤16*16:=Nat.mul_le_mul hK2 hK4;rw [h4,Qb (QfN ht _ _),h1,QA (by omega),Qik (KK t) b (by omega) (by show KK t*KK b < _; omega)]
 rfl
def qx (t k:Nat) (seed:Qa):List (BitVec 8):= [0#8,0#8,0#8,2#8]++WK t k (tID seed) (qm seed)
theorem QfT (t k:Nat) (seed:Qa):(qx t k seed).length=60:=by unfold qx; rw [List.length_append,Qas]; rfl
theorem QfC {t b k:Nat} (ht:IsH t){seed:Qa}{s:Sg} (hs:IsS t b k seed s):Ys s=some (qx t k seed):=by
 unfold Ys;rw [hs.2.2.2.1,Qb (Qfy ht _ _),Qb (QfU _ (by simp [Qas]) (by simp))]
 simp [qx]
theorem QmP {t b k:Nat} (ht:IsH t) (hb:IsH b) (hk:J1 k){seed:Qa}{s:Sg} (hs:IsS t b k seed s) (i:Nat) (hi:i < KK t):∃s':Sg,Ui s (i:Int)=some (s',trS b k (bID seed i) (UF seed i),0)∧IsS t b k seed s':=by
 obtain ⟨hK1,hK2⟩:=Qat ht;unfold Ui;obtain ⟨s1,s2,s3,s4,s5,s6⟩:=s;obtain ⟨h1,h2,h3,h4,h5⟩:=hs
 simp only [] at h1 h2 h3 h4 h5
 subst h1 h2 h3 h4
 by_cases he:s6=(i:Int)
 ·rw [QA (by simpa using he)]
  rcases h5 with h5 | ⟨j,hj,h5,h6⟩
  ·exfalso; omega
  ·have:j=i:=by omega
   subst this;exact ⟨_,by simp only []; rw [h6],rfl,rfl,rfl,rfl, .inr ⟨j,hj,h5,rfl⟩⟩
 ·rw [QQ (by simpa using he)];refine ⟨((b:Int),(k:Int),s3,trS t k (tID s3) (qm s3),trS b k (bID s3 i) (UF s3 i),(i:Int)),?_,rfl,rfl,rfl,rfl, .inr ⟨i,hi,rfl,rfl⟩⟩;rw [Qb (QkY s3 i (by omega)),Qb (QjV hb hk _ _),QQ (by simp)]
def Qbw (t b k:Nat) (seed:Qa) (n:Nat) (msg:List (BitVec 8)):List (BitVec 8):=
 (([0#8,0#8,0#8,1#8]++qy t k (tID seed) (qm seed) (n / KK b) (WK b k (bID seed (n / KK b)) (UF seed (n / KK b))))++WK b k (bID seed (n / KK b)) (UF seed (n / KK b)))++qy b k (bID seed (n / KK b)) (UF seed (n / KK b)) (n % KK b) msg
theorem QcX {t b n:Nat} (hb:IsH b) (hn:n < KK t*KK b):n / KK b < KK t∧n % KK b < KK b:=by
 obtain ⟨hK3,hK4⟩:=Qat hb;exact ⟨Nat.div_lt_of_lt_mul (by rw [Nat.mul_comm]; exact hn),Nat.mod_lt _ (by omega)⟩
theorem QiC {t b k:Nat} (hb:IsH b) (seed:Qa) (n:Nat) (hn:n < KK t*KK b) (msg:List (BitVec 8)):(Qbw t b k seed n msg).length=4+(8+JK k+32*t)+56+(8+JK k+32*b):=by
 obtain ⟨d1,d2⟩:=QcX hb hn;unfold Qbw;rw [List.length_append,List.length_append,List.length_append,qg _ _ _ d1,qg _ _ _ d2,Qas]
 simp only [List.length_cons,List.length_nil]
theorem Ql3 {t b k:Nat} (ht:IsH t) (hb:IsH b) (hk:J1 k){seed:Qa}{s:Sg} (hs:IsS t b k seed s) (n:Nat) (hn:n < KK t*KK b) (msg:List (BitVec 8)) (hm:msg.length≤2000000000) :
  ∃s':Sg,Uf s (n:Int) msg=some (s',Qbw t b k seed n msg,0)∧IsS t b k seed s':=by
 obtain ⟨d1,d2⟩:=QcX hb hn;obtain ⟨hK1,hK2⟩:=Qat ht;obtain ⟨hK3,hK4⟩:=Qat hb;have hb1:=W6 hb;have hm2:KK t*KK b≤16*16:=Nat.mul_le_mul hK2 hK4;obtain ⟨s',hs',hI⟩:=QmP ht hb hk hs (n / KK b) d1;refine ⟨s',?_,hI⟩;unfold Uf;have e1:BX (n:Int) (b:Int)=((n / KK b:Nat):Int):=QdD n b (by omega);have e2:Qiu (n:Int) (w64 (KD (1:Int) (b:Int) - 1))=((n % KK b:Nat):Int):=by
  rw [QbR hb,show w64 ((KK b:Int) - 1)=((2^b - 1:Nat):Int) by rw [Jr (by omega) (by omega)]; show _=((KK b - 1:Nat):Int); omega];exact QgA n b (by omega) (by omega)
 have hl1:=qg (h:=t) (k:=k) (tID seed) (qm seed) (n / KK b) d1 (WK b k (bID seed (n / KK b)) (UF seed (n / KK b)));have hl2:=qg (h:=b) (k:=k) (bID seed (n / KK b)) (UF seed (n / KK b)) (n % KK b) d2 msg;have hp:=Qas b k (bID seed (n / KK b)) (UF seed (n / KK b));have hsz:JK k≤100000:=by have:=Kb hk; unfold JK; omega
 have htl:=W6 ht;rw [QQ (by rw [decide_eq_true_eq]; clear e1 e2; omega),show ((s.1,s.2.1,s.2.2.1,s.2.2.2.1,s.2.2.2.2.1,s.2.2.2.2.2):Sg)=s from rfl,Qb (Qmt ht hb hs),Option.bind_some,QQ (by rw [decide_eq_true_eq]; clear e1 e2; omega),hs.1,QA (by omega),QA (by omega),e1,e2,Option.bind_some,Qb hs',QQ (by simp)]
 simp only []
 rw [Qb (Qfy hb _ _),hI.2.2.2.1,Qb (Qic ht hk _ _ _ d1 _ (by rw [hp]; omega)),QQ (by simp),Qb (Qic hb hk _ _ _ d2 _ hm),QQ (by simp),Qb (QfU _ (by simp only [List.flatten_cons,List.flatten_nil,List.length_append,List.length_nil,List.length_cons]; rw [hl1,hl2,hp]; clear e1 e2; omega) (by simp))];refine congrArg some (Prod.ext ?_ (Prod.ext ?_ rfl))
 ·simp only []
  obtain ⟨a1,a2,a3,a4,a5,a6⟩:=s';have h4:=hI.2.2.2.1
  simp only [] at h4 ⊢
  rw [h4]
 ·simp [Qbw]
end Go.Sl.Pu
set_option maxRecDepth 20000
namespace Go.Sl.Pu
open Go.Sl Go.Sl.M
attribute [local irreducible] sha w64 Qf9 und B5 ndh QbB val hat Qcl WK qy Qaj Qbf vrf Qbw qx n4
def tN (p:List (BitVec 8)):Nat:=8+JK (n4 p 8)+32*n4 p 4
def okP (p:List (BitVec 8)):Prop:=(1≤n4 p 4∧n4 p 4≤4)∧(1≤n4 p 8∧n4 p 8≤4)
instance (p : List (BitVec 8)):Decidable (okP p):=by unfold okP; infer_instance
def Bw (p msg sig:List (BitVec 8)):Bool:=
 decide (p.length=60∧n4 p 0=2∧4≤sig.length∧n4 sig 0=1∧okP p∧60+tN p≤sig.length∧vrf (p.drop 4) ((sig.drop (4+tN p)).take 56) ((sig.drop 4).take (tN p))=true∧vrf ((sig.drop (4+tN p)).take 56) msg (sig.drop (60+tN p))=true)
theorem QeR (p:List (BitVec 8)) (i j:Nat):n4 (p.drop i) j=n4 p (i+j):=by
 with_unfolding_all
 unfold n4;rw [List.drop_drop]
theorem QoG {p msg sig:List (BitVec 8)} (h:¬((1≤n4 p 0∧n4 p 0≤4)∧(1≤n4 p 4∧n4 p 4≤4))):vrf p msg sig=false:=by
 unfold vrf;rw [decide_eq_false (fun hc=>h ⟨hc.2.1,hc.2.2.1⟩)]
theorem Qol (b:List (BitVec 8)) (i c:Nat) (hc:c < 4294967296):(decide ((val ((b.drop i).take 4)).setWidth 32=BitVec.ofNat 32 c))=decide (n4 b i=c):=by
 have h:=Qit b i
 simp only [decide_eq_decide]
 constructor
 ·intro hh;rw [hh,BitVec.toNat_ofNat,Nat.mod_eq_of_lt (by omega)] at h
  omega
 ·intro hh
  apply BitVec.eq_of_toNat_eq
  rw [BitVec.toNat_ofNat,Nat.mod_eq_of_lt (by omega)]
  omega
theorem Qoc {p:List (BitVec 8)} (h:okP p):tN p≤200000:=by
 have hk:J1 (n4 p 8):=by unfold J1; have:=h.2; omega
 have:=Kb hk;have:=h.1;unfold tN JK; omega
theorem QjF (p msg sig:List (BitVec 8)) (hp:p.length≤2000000000) (hm:msg.length≤2000000000) (hs:sig.length≤2000000000):ql p msg sig=some (Bw p msg sig):=by
 unfold ql
 by_cases hl:p.length=60
 ·have r1:=B2 p 0 (by omega);have r2:=B2 p 4 (by omega);have r3:=B2 p 8 (by omega);rw [QQ (by simp [hl]),Qb (QbS p (by omega))]
  simp only []
  rw [show JF (p,false)=_ from r1,Option.bind_some]
  simp only []
  rw [Qol p 0 2 (by omega)]
  by_cases h2:n4 p 0=2
  ·rw [QQ (by rw [decide_eq_true h2]; decide),show JF (p.drop (0+4),false)=_ from r2,Option.bind_some]
   simp only []
   rw [show JF (p.drop (4+4),false)=_ from r3,Option.bind_some,Qb (QbS sig (by omega))]
   simp only []
   have e1:(((val (List.take 4 (List.drop 4 p))).setWidth 32).toNat:Int)=(n4 p 4:Int):=Qit p 4;have e2:(((val (List.take 4 (List.drop 8 p))).setWidth 32).toNat:Int)=(n4 p 8:Int):=Qit p 8;rw [e1,e2]
   by_cases h4:4≤sig.length
   ·have r4:=B2 sig 0 (by omega);rw [show JF (sig,false)=_ from r4,Option.bind_some]
    simp only []
    rw [Qol sig 0 1 (by omega)]
    by_cases h5:n4 sig 0=1
    ·rw [QQ (by rw [decide_eq_true h5]; decide)]
     by_cases hk:okP p
     ·have hh:IsH (n4 p 4):=by have:=hk.1; unfold IsH; omega
      have hkk:J1 (n4 p 8):=by have:=hk.2; unfold J1; omega
      have htn:=Qoc hk;rw [Qb (Qdp hh hkk)];have ht:8+JK (n4 p 8)+32*n4 p 4=tN p:=rfl;rw [ht];clear ht
      by_cases h6:4+tN p≤sig.length
      ·have r5:=Uq sig 4 (tN p) h6;rw [show Ja (sig.drop (0+4),false) (tN p:Int)=_ from r5,Option.bind_some]
       simp only []
       by_cases h7:60+tN p≤sig.length
       ·have r6:Ja (sig.drop (4+tN p),false) (56:Int)=_:=Uq sig (4+tN p) 56 (by omega);rw [Qb r6]
        simp only []
        have hln:(sig.drop (4+tN p+56)).length=sig.length - (60+tN p):=by rw [List.length_drop]; omega
        have r7:=Uq sig (4+tN p+56) (sig.drop (4+tN p+56)).length (by omega);have hL:Yk (sig.drop (4+tN p+56),false)=some ((sig.drop (4+tN p+56)).length:Int):=rfl;rw [Qb hL,Qb r7]
        simp only []
        have hF:ZZ (sig.drop (4+tN p+56+(sig.drop (4+tN p+56)).length),false)=some false:=rfl;have s1:JZ p (4:Int) (p.length:Int)=some (p.drop 4):=by rw [J5 (lo:=(4:Int)) (a:=4) rfl rfl (by omega) (Nat.le_refl _),List.take_length]
        rw [Qb hF,QA (by rfl),Qb s1,List.take_length,show 4+tN p+56=60+tN p by omega];have q1:(p.drop 4).length≤4000000000:=by rw [List.length_drop]; omega
        have q2:((sig.drop (4+tN p)).take 56).length≤2000000000:=by rw [List.length_take]; omega
        have q3:((sig.drop 4).take (tN p)).length≤2000000000:=by rw [List.length_take]; omega
        have q4:(sig.drop (60+tN p)).length≤2000000000:=by rw [List.length_drop]; omega
        have q5:((sig.drop (4+tN p)).take 56).length≤4000000000:=by rw [List.length_take]; omega
        rw [Qb (QcI _ _ _ q1 q2 q3),Option.bind_some]
        by_cases v1:vrf (p.drop 4) ((sig.drop (4+tN p)).take 56) ((sig.drop 4).take (tN p))=true
        ·rw [QA v1,Qb (QcI _ _ _ q5 hm q4),Option.bind_some];refine congrArg some ?_;unfold Bw
         by_cases v2:vrf ((sig.drop (4+tN p)).take 56) msg (sig.drop (60+tN p))=true
         ·exact v2.trans (decide_eq_true ⟨hl,h2,h4,h5,hk,h7,v1,v2⟩).symm
         ·rw [decide_eq_false (fun hc=>v2 hc.2.2.2.2.2.2.2)]
          simpa using v2
        ·rw [QQ v1,Option.bind_some];refine congrArg some ?_;unfold Bw;rw [decide_eq_false (fun hc=>v1 hc.2.2.2.2.2.2.1)]
       ·have r6:Ja (sig.drop (4+tN p),false) (56:Int)=some ((sig.drop (4+tN p),true), []):=Qax _ _ (by right; rw [List.length_drop]; omega);rw [Qb r6]
        simp only []
        have hL:Yk (sig.drop (4+tN p),true)=some ((sig.drop (4+tN p)).length:Int):=rfl;rw [Qb hL,Qb (Bj _ _)]
        simp only []
        have hF:ZZ (sig.drop (4+tN p),true)=some true:=rfl;rw [Qb hF,QQ (by decide),Option.bind_some,QQ (by decide),Option.bind_some];refine congrArg some ?_;unfold Bw;rw [decide_eq_false (fun hc=>h7 hc.2.2.2.2.2.1)]
      ·have r5:Ja (sig.drop (0+4),false) (tN p:Int)=some ((sig.drop (0+4),true), []):=Qax _ _ (by right; rw [List.length_drop]; omega);rw [Qb r5]
       simp only []
       rw [Qb (Bj _ _)]
       simp only []
       have hL:Yk (sig.drop (0+4),true)=some ((sig.drop (0+4)).length:Int):=rfl;rw [Qb hL,Qb (Bj _ _)]
       simp only []
       have hF:ZZ (sig.drop (0+4),true)=some true:=rfl;rw [Qb hF,QQ (by decide),Option.bind_some,QQ (by decide),Option.bind_some];refine congrArg some ?_;unfold Bw;rw [decide_eq_false (fun hc=>h6 (by have:=hc.2.2.2.2.2.1; omega))]
     ·have hv:Bw p msg sig=false:=by unfold Bw; rw [decide_eq_false (fun hc=>hk hc.2.2.2.2.1)]
      rw [hv,Qb (QlZ (by unfold okP at hk; omega))];have r5:Ja (sig.drop (0+4),false) (0:Int)=some ((sig.drop (4+0),false),(sig.drop 4).take 0):=Uq sig 4 0 (by omega);rw [Qb r5]
      simp only []
      by_cases h7:60≤sig.length
      ·have r6:Ja (sig.drop (4+0),false) (56:Int)=_:=Uq sig 4 56 (by omega);rw [Qb r6]
       simp only []
       have hln:(sig.drop (4+56)).length=sig.length - 60:=by rw [List.length_drop]
       have r7:=Uq sig (4+56) (sig.drop (4+56)).length (by omega);have hL:Yk (sig.drop (4+56),false)=some ((sig.drop (4+56)).length:Int):=rfl;rw [Qb hL,Qb r7]
       simp only []
       have hF:ZZ (sig.drop (4+56+(sig.drop (4+56)).length),false)=some false:=rfl;have s1:JZ p (4:Int) (p.length:Int)=some (p.drop 4):=by rw [J5 (lo:=(4:Int)) (a:=4) rfl rfl (by omega) (Nat.le_refl _),List.take_length]
       have q1:(p.drop 4).length≤4000000000:=by rw [List.length_drop]; omega
       have q2:((sig.drop 4).take 56).length≤2000000000:=by rw [List.length_take]; omega
       have q3:((sig.drop 4).take 0).length≤2000000000:=by rw [List.length_take]; omega
       have hvn:vrf (p.drop 4) ((sig.drop 4).take 56) ((sig.drop 4).take 0)=false:=QoG (by rw [QeR,QeR]; exact hk);rw [Qb hF,QA (by rfl),Qb s1,Qb (QcI _ _ _ q1 q2 q3),hvn,Option.bind_some,QQ (by decide),Option.bind_some]
      ·have r6:Ja (sig.drop (4+0),false) (56:Int)=some ((sig.drop (4+0),true), []):=Qax _ _ (by right; rw [List.length_drop]; omega);rw [Qb r6]
       simp only []
       have hL:Yk (sig.drop (4+0),true)=some ((sig.drop (4+0)).length:Int):=rfl;rw [Qb hL,Qb (Bj _ _)]
       simp only []
       have hF:ZZ (sig.drop (4+0),true)=some true:=rfl;rw [Qb hF,QQ (by decide),Option.bind_some,QQ (by decide),Option.bind_some]
    ·rw [QA (by rw [decide_eq_false h5]; rfl)];refine congrArg some ?_;unfold Bw;rw [decide_eq_false (fun hc=>h5 hc.2.2.2.1)]
   ·rw [Qb (Qjc sig (by omega)),QA (by simp)];refine congrArg some ?_;unfold Bw;rw [decide_eq_false (fun hc=>h4 hc.2.2.1)]
  ·rw [QA (by rw [decide_eq_false h2]; rfl)];refine congrArg some ?_;unfold Bw;rw [decide_eq_false (fun hc=>h2 hc.2.1)]
 ·rw [QA (by simp; omega)];refine congrArg some ?_;unfold Bw;rw [decide_eq_false (fun hc=>hl hc.1)]
theorem Qog (b:List (BitVec 8)) (i c:Nat) (hc:c < 4294967296):(decide (val ((b.drop i).take 4)=BitVec.ofNat 64 c))=decide (n4 b i=c):=by
 simp only [decide_eq_decide]
 exact Qo9 b i c hc
theorem QiF (p msg sig:List (BitVec 8)) (hp:p.length≤2000000000) (hm:msg.length≤2000000000) (hs:sig.length≤2000000000):VF p msg sig=some (Bw p msg sig):=by
 unfold VF;have v0:∀(b:List (BitVec 8)) i,JN ((b.drop i).take 4)=some (val ((b.drop i).take 4)):=fun b i=>Qdn _ (by rw [List.length_take]; omega)
 by_cases hl:p.length=60
 ·rw [QQ (by simp [hl]),Option.bind_some]
  by_cases h4:4≤sig.length
  ·rw [QQ (by rw [decide_eq_true_eq]; omega),Qb (QfE p 0 4 0 rfl rfl (by omega)),Qb (v0 p 0),Qog p 0 2 (by omega),Option.bind_some]
   by_cases h2:n4 p 0=2
   ·rw [QQ (by rw [decide_eq_true h2]; decide),Qb (QfE sig 0 4 0 rfl rfl (by omega)),Qb (v0 sig 0),Qog sig 0 1 (by omega),Option.bind_some]
    by_cases h5:n4 sig 0=1
    ·rw [QQ (by rw [decide_eq_true h5]; decide),Qb (QfE p 4 8 4 rfl rfl (by omega)),Qb (v0 p 4),Qb (QfE p 8 12 8 rfl rfl (by omega)),Qb (v0 p 8),QgY,QgY,Qd9,Qd9]
     by_cases hk:okP p
     ·have hh:IsH (n4 p 4):=by have:=hk.1; unfold IsH; omega
      have hkk:J1 (n4 p 8):=by have:=hk.2; unfold J1; omega
      have htn:=Qoc hk;have hk1:=hk.1;have hk2:=hk.2;have ht:8+JK (n4 p 8)+32*n4 p 4=tN p:=rfl;rw [QQ (by rw [decide_eq_true_eq]; omega),Option.bind_some,QQ (by rw [decide_eq_true_eq]; omega),Qb (QgF hh hkk),ht];have ht0:0 < tN p:=by unfold tN; omega
      clear ht;have w1:w64 ((60:Int)+(tN p:Int))=((60+tN p:Nat):Int):=by rw [Jr (by omega) (by omega)]; rfl
      have w2:w64 ((4:Int)+(tN p:Int))=((4+tN p:Nat):Int):=by clear w1; rw [Jr (by omega) (by omega)]; rfl
      rw [w1,w2];clear w1 w2;rw [QQ (by rw [decide_eq_true_eq]; omega),Option.bind_some]
      by_cases h7:60+tN p≤sig.length
      ·have s5:JZ sig (((4+tN p:Nat):Int)) (((60+tN p:Nat):Int))=some ((sig.drop (4+tN p)).take 56):=by
        rw [J5 rfl rfl (by omega) h7,List.drop_take,show 60+tN p - (4+tN p)=56 by omega]
       have s6:JZ p (4:Int) (60:Int)=some (p.drop 4):=by
        rw [J5 (lo:=(4:Int)) (hi:=(60:Int)) (a:=4) (b:=60) rfl rfl (by omega) (by omega),List.take_of_length_le (by omega)]
       have s7:JZ sig (4:Int) (((4+tN p:Nat):Int))=some ((sig.drop 4).take (tN p)):=by
        rw [J5 (lo:=(4:Int)) (a:=4) rfl rfl (by omega) (by omega),List.drop_take,Nat.add_sub_cancel_left]
       have s8:JZ sig (((60+tN p:Nat):Int)) (sig.length:Int)=some (sig.drop (60+tN p)):=by
        rw [J5 rfl rfl h7 (Nat.le_refl _),List.take_length]
       have q1:(p.drop 4).length≤4000000000:=by rw [List.length_drop]; omega
       have q2:((sig.drop (4+tN p)).take 56).length≤2000000000:=by rw [List.length_take]; omega
       have q3:((sig.drop 4).take (tN p)).length≤2000000000:=by rw [List.length_take]; omega
       have q4:(sig.drop (60+tN p)).length≤2000000000:=by rw [List.length_drop]; omega
       have q5:((sig.drop (4+tN p)).take 56).length≤4000000000:=by rw [List.length_take]; omega
       rw [QQ (by rw [decide_eq_true_eq]; omega),Qb s5,Qb s6,Qb s7,Qb (QfV _ _ _ q1 q2 q3)]
       by_cases v1:vrf (p.drop 4) ((sig.drop (4+tN p)).take 56) ((sig.drop 4).take (tN p))=true
       ·rw [QA v1,Qb s8,Qb (QfV _ _ _ q5 hm q4),Option.bind_some];refine congrArg some ?_;unfold Bw
        by_cases v2:vrf ((sig.drop (4+tN p)).take 56) msg (sig.drop (60+tN p))=true
        ·exact v2.trans (decide_eq_true ⟨hl,h2,h4,h5,hk,h7,v1,v2⟩).symm
        ·rw [decide_eq_false (fun hc=>v2 hc.2.2.2.2.2.2.2)]
         simpa using v2
       ·rw [QQ v1,Option.bind_some];refine congrArg some ?_;unfold Bw;rw [decide_eq_false (fun hc=>v1 hc.2.2.2.2.2.2.1)]
      ·rw [QA (by rw [decide_eq_true_eq]; omega)];refine congrArg some ?_;unfold Bw;rw [decide_eq_false (fun hc=>h7 hc.2.2.2.2.2.1)]
     ·have hv:Bw p msg sig=false:=by unfold Bw; rw [decide_eq_false (fun hc=>hk hc.2.2.2.2.1)]
      rw [hv]
      by_cases d1:4 < n4 p 4
      ·rw [QA (decide_eq_true d1),Option.bind_some,QA rfl]
      ·rw [QQ (by rw [decide_eq_true_eq]; exact d1),Option.bind_some]
       by_cases d2:4 < n4 p 8
       ·rw [QA (decide_eq_true d2)]
       ·rw [QQ (by rw [decide_eq_true_eq]; exact d2),Qb (Qlj (by unfold okP at hk; omega)),QA (by rfl),Option.bind_some,QA rfl]
    ·rw [QA (by rw [decide_eq_false h5]; rfl)];refine congrArg some ?_;unfold Bw;rw [decide_eq_false (fun hc=>h5 hc.2.2.2.1)]
   ·rw [QA (by rw [decide_eq_false h2]; rfl),Option.bind_some,QA rfl];refine congrArg some ?_;unfold Bw;rw [decide_eq_false (fun hc=>h2 hc.2.1)]
  ·rw [QA (by rw [decide_eq_true_eq]; omega),Option.bind_some,QA rfl,Option.bind_some,QA rfl];refine congrArg some ?_;unfold Bw;rw [decide_eq_false (fun hc=>h4 hc.2.2.1)]
 ·rw [QA (by simp; omega),Option.bind_some,QA rfl,Option.bind_some,QA rfl,Option.bind_some,QA rfl];refine congrArg some ?_;unfold Bw;rw [decide_eq_false (fun hc=>hl hc.1)]
theorem Qpc : be (BitVec.ofNat 32 2) 4 = [0#8,0#8,0#8,2#8]:=by decide
theorem Qpg : be (BitVec.ofNat 32 1) 4 = [0#8,0#8,0#8,1#8]:=by decide
theorem Qjl {t k:Nat} (ht:IsH t) (hk:J1 k) (seed:Qa):n4 (qx t k seed) 0=2∧n4 (qx t k seed) 4=t∧n4 (qx t k seed) 8=k∧(qx t k seed).drop 4=WK t k (tID seed) (qm seed):=by
 obtain ⟨p1,p2,p3,p4⟩:=Qfx ht hk (tID seed) (qm seed);have hd:(qx t k seed).drop 4=WK t k (tID seed) (qm seed):=by unfold qx; rfl
 refine ⟨?_,?_,?_,hd⟩
 ·have:=Qd5 [] (WK t k (tID seed) (qm seed)) 2 0 (by omega) rfl;unfold qx;rw [Qpc] at this;exact this
 ·rw [←QeR _ 4 0,hd,p1]
 ·rw [←QeR _ 4 4,hd,p2]
theorem Qjt {t b k:Nat} (hb:IsH b) (seed:Qa) (n:Nat) (hn:n < KK t*KK b) (msg more:List (BitVec 8)) :
  n4 (Qbw t b k seed n msg++more) 0=1∧((Qbw t b k seed n msg++more).drop 4).take (8+JK k+32*t)=qy t k (tID seed) (qm seed) (n / KK b) (WK b k (bID seed (n / KK b)) (UF seed (n / KK b)))∧
  ((Qbw t b k seed n msg++more).drop (4+(8+JK k+32*t))).take 56=WK b k (bID seed (n / KK b)) (UF seed (n / KK b))∧(Qbw t b k seed n msg++more).drop (60+(8+JK k+32*t))=qy b k (bID seed (n / KK b)) (UF seed (n / KK b)) (n % KK b) msg++more:=by
 obtain ⟨d1,d2⟩:=QcX hb hn;have l1:=qg (h:=t) (k:=k) (tID seed) (qm seed) (n / KK b) d1 (WK b k (bID seed (n / KK b)) (UF seed (n / KK b)));have hp:=Qas b k (bID seed (n / KK b)) (UF seed (n / KK b));unfold Qbw
 generalize qy t k (tID seed) (qm seed) (n / KK b) (WK b k (bID seed (n / KK b)) (UF seed (n / KK b)))=A at l1 ⊢
 generalize qy b k (bID seed (n / KK b)) (UF seed (n / KK b)) (n % KK b) msg=C
 generalize WK b k (bID seed (n / KK b)) (UF seed (n / KK b))=B at hp ⊢
 generalize 8+JK k+32*t=N at l1 ⊢
 rw [←Qpg];refine ⟨?_,?_,?_,?_⟩
 ·have:=Qd5 [] (((A++B)++C)++more) 1 0 (by omega) rfl
  simpa [List.append_assoc] using this
 ·rw [List.append_assoc,List.append_assoc,List.append_assoc,List.drop_left' (JW _ _),List.take_left' l1]
 ·rw [List.append_assoc,List.append_assoc,List.drop_left' (by rw [List.length_append,JW,l1]),List.take_left' hp]
 ·rw [List.append_assoc,List.drop_left' (by rw [List.length_append,List.length_append,JW,l1,hp]; omega)]
theorem QkM {t b k:Nat} (ht:IsH t) (hb:IsH b) (hk:J1 k) (seed:Qa) (n:Nat) (hn:n < KK t*KK b) (msg more:List (BitVec 8)) :
  Bw (qx t k seed) msg (Qbw t b k seed n msg++more)=vrf (WK b k (bID seed (n / KK b)) (UF seed (n / KK b))) msg (qy b k (bID seed (n / KK b)) (UF seed (n / KK b)) (n % KK b) msg++more):=by
 obtain ⟨d1,d2⟩:=QcX hb hn;obtain ⟨p1,p2,p3,p4⟩:=Qjl ht hk seed;obtain ⟨s1,s2,s3,s4⟩:=Qjt (t:=t) (k:=k) hb seed n hn msg more;have hl:=QiC (t:=t) (k:=k) hb seed n hn msg;have ht1:=W6 ht;have hk1:=Qjp hk;have htn:tN (qx t k seed)=8+JK k+32*t:=by unfold tN; rw [p2,p3]
 unfold Bw;rw [htn,s1,s2,s3,s4,p4,p1,QfT];have hok:okP (qx t k seed):=by unfold okP; rw [p2,p3]; omega
 have hr:=Qgm ht hk (tID seed) (qm seed) (n / KK b) d1 (WK b k (bID seed (n / KK b)) (UF seed (n / KK b)))
 by_cases v:vrf (WK b k (bID seed (n / KK b)) (UF seed (n / KK b))) msg (qy b k (bID seed (n / KK b)) (UF seed (n / KK b)) (n % KK b) msg++more)=true
 ·rw [v,decide_eq_true ⟨rfl,rfl,by rw [List.length_append]; omega,rfl,hok,by rw [List.length_append]; omega,hr,rfl⟩]
 ·rw [decide_eq_false (fun hc=>v hc.2.2.2.2.2.2.2)]
  simpa using v
theorem Qi9 {t b k:Nat} (ht:IsH t) (hb:IsH b) (hk:J1 k) (seed:Qa) (n:Nat) (hn:n < KK t*KK b) (msg:List (BitVec 8)):Bw (qx t k seed) msg (Qbw t b k seed n msg)=true:=by
 obtain ⟨d1,d2⟩:=QcX hb hn;have:=QkM ht hb hk seed n hn msg [];rw [List.append_nil,List.append_nil] at this;rw [this];exact Qgm hb hk _ _ _ d2 msg
end Go.Sl.Pu
set_option maxRecDepth 20000
namespace Go.Sl.Pu
open Go.Sl Go.Sl.M
attribute [local irreducible] w64 val hat n4 be
def Bd (h:Za):Prop:=(1≤h.1∧h.1≤2147483647)∧(1≤h.2.1∧h.2.1≤2147483647)
instance (h : Za):Decidable (Bd h):=by unfold Bd; infer_instance
theorem Qpf (h:Za):WG h=some (decide (Bd h)):=by
 unfold WG
 by_cases h1:1≤h.1
 ·rw [QA (decide_eq_true h1),Option.bind_some]
  by_cases h2:h.1 < 2147483648
  ·rw [QA (decide_eq_true h2),Option.bind_some]
   by_cases h3:1≤h.2.1
   ·rw [QA (decide_eq_true h3),Option.bind_some];refine congrArg some (decide_eq_decide.2 ?_);unfold Bd
    omega
   ·rw [QQ (by simpa using h3),Option.bind_some,decide_eq_false (fun hc=>by unfold Bd at hc; omega)]
  ·rw [QQ (by simpa using h2),Option.bind_some,QQ (by decide),Option.bind_some,decide_eq_false (fun hc=>by unfold Bd at hc; omega)]
 ·rw [QQ (by simpa using h1),Option.bind_some,QQ (by decide),Option.bind_some,QQ (by decide),Option.bind_some,decide_eq_false (fun hc=>by unfold Bd at hc; omega)]
theorem Qos (h:Zi):Ul h=some (decide (Bd h)):=by
 unfold Ul
 by_cases h1:1≤h.1
 ·rw [QA (decide_eq_true h1),Option.bind_some]
  by_cases h2:h.1≤2147483647
  ·rw [QA (decide_eq_true h2),Option.bind_some]
   by_cases h3:1≤h.2.1
   ·rw [QA (decide_eq_true h3),Option.bind_some];refine congrArg some (decide_eq_decide.2 ?_);unfold Bd
    omega
   ·rw [QQ (by simpa using h3),Option.bind_some,decide_eq_false (fun hc=>by unfold Bd at hc; omega)]
  ·rw [QQ (by simpa using h2),Option.bind_some,QQ (by decide),Option.bind_some,decide_eq_false (fun hc=>by unfold Bd at hc; omega)]
 ·rw [QQ (by simpa using h1),Option.bind_some,QQ (by decide),Option.bind_some,QQ (by decide),Option.bind_some,decide_eq_false (fun hc=>by unfold Bd at hc; omega)]
def Qe5 (h:Za):List (BitVec 8):=((be (BitVec.ofNat 32 h.1.toNat) 4++be (BitVec.ofNat 32 h.2.1.toNat) 4)++h.2.2.1.toList)++h.2.2.2.toList
theorem Qf2 (h:Za):(Qe5 h).length=72:=by simp [Qe5,JW]
theorem QdO (h:Za):Wu h=some (if Bd h then (Qe5 h,0) else ([],1)):=by
 unfold Wu;rw [Qb (Qpf h)]
 by_cases hh:Bd h
 ·rw [if_pos hh,QQ (by rw [decide_eq_true hh]; decide)];unfold Bd at hh;rw [show h.1=((h.1.toNat:Nat):Int) by omega,show h.2.1=((h.2.1.toNat:Nat):Int) by omega,Bl,Bl,Qb (qR [] (by simp) _),Qb (qR _ (by simp [JW]) _),Qb (Uu _ _ (by simp [JW])),Qb (Uu _ _ (by simp [JW])),Qb (Qdx _ (by simp [JW]))]
  rfl
 ·rw [if_neg hh,QA (by rw [decide_eq_false hh]; rfl)]
theorem Qje (h:Zi):VI h=some (if Bd h then (Qe5 h,0) else ([],1)):=by
 unfold VI;rw [Qb (Qos h)]
 by_cases hh:Bd h
 ·rw [if_pos hh,QQ (by rw [decide_eq_true hh]; decide)];unfold Bd at hh;rw [show h.1=((h.1.toNat:Nat):Int) by omega,show h.2.1=((h.2.1.toNat:Nat):Int) by omega,Qb (Qmm _),Qb (Qmm _),QA (QcH (by simp [JW])),QA (QcH (by simp [JW])),QA (QcH (by simp [JW]))]
  rfl
 ·rw [if_neg hh,QA (by rw [decide_eq_false hh]; rfl)]
end Go.Sl.Pu
set_option maxRecDepth 20000
namespace Go.Sl.Pu
open Go.Sl Go.Sl.M
attribute [local irreducible] w64 val hat n4 be sha Bw
theorem QlD (b:List (BitVec 8)) (hb:b.length≤3999999999):Kx b=some (sha (0#8::b)):=by
 unfold Kx;rw [QA (QcH (by simp; omega)),Qb (QbZ _ (by simp; omega))]; rfl
theorem Qls (x:Int):(BitVec.ofInt 64 x) % (4294967296#64)=(BitVec.ofInt 32 x).setWidth 64:=by
 apply BitVec.eq_of_toNat_eq
 rw [BitVec.toNat_umod,BitVec.toNat_setWidth,BitVec.toNat_ofInt,BitVec.toNat_ofInt]
 simp only [BitVec.toNat_ofNat,Nat.reducePow,Nat.reduceMod]
 omega
theorem Qi7 (e:Int) (t:Qa):V4 e t=some (sha (0#8::(be (BitVec.ofInt 32 e) 4++t.toList))):=by
 unfold V4;have hn:Jy ((BitVec.ofInt 64 e) % (4294967296#64)) (4:Int)=some (be (BitVec.ofInt 32 e) 4):=by
  rw [Qls,←QbF (BitVec.ofInt 32 e) 4 (by omega) (by omega)];exact W8 _ 4 (by omega)
 rw [Qb hn,QA (QcH (by simp [JW])),Qb (QlD _ (by simp [JW]))]
noncomputable def QcP (s:Qy) (p:List (BitVec 8)):Bool:=if Bd s.1 then Bw p (Qe5 s.1) s.2 else false
theorem QhV (s:Qy) (p:List (BitVec 8)) (hs:s.2.length≤2000000000) (hp:p.length≤2000000000):Wq s p=some (QcP s p):=by
 unfold Wq QcP;rw [Qb (QdO _)]
 by_cases hh:Bd s.1
 ·rw [if_pos hh,QA (by simp),Qb (QjF _ _ _ hp (by show (Qe5 s.1).length≤_; rw [Qf2]; omega) hs),Option.bind_some,if_pos hh]
 ·rw [if_neg hh,QQ (by simp),Option.bind_some,if_neg hh]
theorem Qlt (s:Qp) (p:List (BitVec 8)) (hs:s.2.length≤2000000000) (hp:p.length≤2000000000):V5 s p=some (QcP s p):=by
 unfold V5 QcP;rw [Qb (Qje _)]
 by_cases hh:Bd s.1
 ·rw [if_pos hh,QA (by simp),Qb (QiF _ _ _ hp (by show (Qe5 s.1).length≤_; rw [Qf2]; omega) hs),Option.bind_some,if_pos hh]
 ·rw [if_neg hh,QQ (by simp),Option.bind_some,if_neg hh]
end Go.Sl.Pu
set_option linter.unusedSectionVars false
namespace Go.Sl
namespace Pu
open Go.Sl Go.Sl.M
abbrev K3 : Qa:=#v[27#8,0#8,0#8,0#8,0#8,0#8,0#8,0#8,0#8,0#8,0#8,0#8,0#8,0#8,0#8,0#8,0#8,0#8,0#8,0#8,0#8,0#8,0#8,0#8,0#8,0#8,0#8,0#8,0#8,0#8,0#8,0#8]
theorem ih1 : IsH 1:=Or.inl rfl
theorem ih2 : IsH 2:=Or.inr (Or.inl rfl)
theorem ik3 : J1 3:=Or.inr (Or.inr (Or.inl rfl))
theorem Qo5 : KK 1*KK 2=8:=rfl
theorem Qie : ∃s:Sg,XO=some s∧IsS 1 2 3 K3 s:=by
 obtain ⟨s,hs,hI⟩:=QnJ ih1 ih2 ik3 K3;have hs':Qb0 (1:Int) (2:Int) (3:Int) K3=_:=hs;refine ⟨s,?_,hI⟩;unfold XO;rw [Option.bind_some,Qb hs',Option.bind_some]
def QcZ (h:Za):Nat:=((BitVec.ofInt 64 h.1) % (8#64)).toNat
theorem Qfg (h:Za):QcZ h < 8:=by
 unfold QcZ;rw [BitVec.toNat_umod];exact Nat.mod_lt _ (by decide)
def Qdj (h:Za):List (BitVec 8):=Qbw 1 2 3 K3 (QcZ h) (Qe5 h)
def J4 : List (BitVec 8):=qx 1 3 K3
theorem QhI {s:Sg} (hI:IsS 1 2 3 K3 s) (h:Za) (hh:Bd h):∃s':Sg,Zj s h=some (s',(h,Qdj h))∧IsS 1 2 3 K3 s':=by
 have he:=QdO h;rw [if_pos hh] at he;have hl:=Qf2 h;have hn:=Qfg h;obtain ⟨s',hs2,hI2⟩:=Ql3 ih1 ih2 ik3 hI (QcZ h) (by rw [Qo5]; exact hn) (Qe5 h) (by omega);refine ⟨s',?_,hI2⟩;have hw:w64 (((BitVec.ofInt 64 h.1) % (8#64)).toNat:Int)=((QcZ h:Nat):Int):=JA (by have:((BitVec.ofInt 64 h.1) % (8#64)).toNat=QcZ h:=rfl; omega);have hd:WB s ((QcZ h:Nat):Int) h=some (s',(h,Qdj h),0):=by
  unfold WB;rw [Qb he,QQ (by simp),show ((s.1,s.2.1,s.2.2.1,s.2.2.2.1,s.2.2.2.2.1,s.2.2.2.2.2):Sg)=s from rfl,Qb hs2,QQ (by simp),Option.bind_some]
  rfl
 unfold Zj;rw [hw,show ((s.1,s.2.1,s.2.2.1,s.2.2.2.1,s.2.2.2.2.1,s.2.2.2.2.2):Sg)=s from rfl,Qb hd]
theorem QbP (h:Za):(Qdj h).length≤2000000:=by
 have:=QiC (t:=1) (k:=3) ih2 K3 (QcZ h) (by rw [Qo5]; exact Qfg h) (Qe5 h);have hsz:JK 3=2180:=rfl;unfold Qdj
 omega
theorem Qkv (h:Za) (hh:Bd h):Wq (h,Qdj h) J4=some true:=by
 have hr:=Qi9 ih1 ih2 ik3 K3 (QcZ h) (by rw [Qo5]; exact Qfg h) (Qe5 h);have hp:J4.length=60:=QfT 1 3 K3;have hsl:=QbP h;rw [QhV (h,Qdj h) J4 (by show (Qdj h).length≤_; omega) (by omega)];unfold QcP;rw [if_pos hh];exact congrArg some hr
end Pu
end Go.Sl
namespace Go.Sl
namespace Pu
open Go.Sl Go.Sl.M
abbrev Sgd :=Qy
theorem W7 (s:Sgd) (h:s.2.length≤2000000):Xw s=some s:=by
 unfold Xw;have hcl:J0 s.2=some s.2:=by unfold J0; rw [QA (by simp [AP]; omega)]; simp
 rw [Qb hcl]
def Bg (l:List Sgd) (e:Int) (k:Nat):Prop:=k≤l.length∧(∀i (h:i < l.length),i < k→l[i].1.1 < e)∧(∀i (h:i < l.length),k≤i→e≤l[i].1.1)
def QaO (l:List Sgd):Prop:=l.length≤1000∧∀s∈l,0≤s.1.1∧s.1.1≤2147483647
theorem Qmn {i j:Nat} (hj:j≤1000) (hi:i < j):w64 (((BitVec.ofInt 64 (w64 ((i:Int)+(j:Int)))) >>> 1).toNat:Int)=(((i+j) / 2:Nat):Int):=by
 rw [JA (n:=(i:Int)+(j:Int)) (by omega)];have e1:(BitVec.ofInt 64 ((i:Int)+(j:Int))).toNat=i+j:=by
  rw [BitVec.toNat_ofInt]; omega
 have e2:((BitVec.ofInt 64 ((i:Int)+(j:Int))) >>> 1).toNat=(i+j) / 2:=by
  rw [BitVec.toNat_ushiftRight,e1,Nat.shiftRight_eq_div_pow]
 rw [e2,JA (by omega)]
theorem QjR (l:List Sgd) (e:Int) (k:Nat) (hs:QaO l) (he:0≤e∧e≤2147483647) (hk:Bg l e k) :
  Jd (fun (s:Int×Int)=>QV l e s.1 s.2) FU ((0:Int),(l.length:Int))=some ((k:Int),(k:Int)):=by
 obtain ⟨hk0,hk1,hk2⟩:=hk;have hlen:=hs.1;obtain ⟨s,h1,h2⟩:=KV (f:=fun (s:Int×Int)=>QV l e s.1 s.2) (fun (s:Int×Int)=>∃i j:Nat,s=((i:Int),(j:Int))∧i≤k∧k≤j∧j≤l.length) (fun (s:Int×Int)=>(s.2 - s.1).toNat) (fun s=>s=((k:Int),(k:Int))) (by
  rintro s ⟨i,j,rfl,h1,h2,h3⟩
  simp only [QV]
  by_cases hij:i < j
  ·left
   have hm:(i+j) / 2 < l.length:=by omega
   have hsm:=hs.2 _ (List.getElem_mem hm);rw [QA (by simp; omega),Qmn (by omega) hij,Option.bind_some,Qb (Jl rfl hm)];unfold Yo;rw [Option.bind_some,JA (n:=l[(i+j) / 2].1.1 - e) (by omega)]
   by_cases hlt:l[(i+j) / 2].1.1 < e
   ·rw [QA (by simp; omega),JA (by omega)];refine ⟨_,rfl,⟨(i+j) / 2+1,j,by simp,?_,h2,h3⟩,by dsimp only; omega⟩
    rcases Nat.lt_or_ge ((i+j) / 2) k with h | h
    ·exact h
    ·have:=hk2 _ hm h; omega
   ·rw [QQ (by simp; omega)];refine ⟨_,rfl,⟨i,(i+j) / 2,rfl,h1,?_,by omega⟩,by dsimp only; omega⟩
    rcases Nat.lt_or_ge ((i+j) / 2) k with h | h
    ·exact absurd (hk1 _ hm h) hlt
    ·exact h
  ·right
   rw [QQ (by simp; omega)];have:i=k:=by omega
   have:j=k:=by omega
   subst_vars
   exact ⟨_,rfl,rfl⟩) FU _ ⟨0,l.length,rfl,by omega,hk0,Nat.le_refl _⟩ (Nat.lt_of_le_of_lt (show _≤l.length by dsimp only; omega) (J6 (by omega)))
 rw [h2] at h1;exact h1
theorem qa (pu:List (BitVec 8)) (l:List Sgd) (fo:List QC) (li:List QU) (e:Int) (k:Nat) (hs:QaO l) (he:0≤e∧e≤2147483647) (hk:Bg l e k) :
  J2 (some (pu,l,fo,li)) e=some ((k:Int),decide (∃s∈l[k]?,s.1.1=e)):=by
 have hlen:=hs.1;unfold J2 Jp;rw [Option.bind_some];rw [Qb (QjR l e k hs he hk)]
 dsimp only
 by_cases h:k < l.length
 ·have hsm:=hs.2 _ (List.getElem_mem h);rw [QA (by simp; omega),Qb (Jl rfl h)];unfold Yo;rw [Option.bind_some,Option.bind_some,JA (n:=l[k].1.1 - e) (by omega),Option.bind_some];have:(∃s∈l[k]?,s.1.1=e)↔l[k].1.1 - e=0:=by
   rw [List.getElem?_eq_getElem h]; simp; omega
  simp only [this,Option.bind_some]
 ·rw [QQ (by simp; omega),Option.bind_some,Option.bind_some];have:¬(∃s∈l[k]?,s.1.1=e):=by
   rw [List.getElem?_eq_none (by omega)]; simp
  exact congrArg (fun b=>some ((k:Int),b)) (decide_eq_false this).symm
end Pu
end Go.Sl
namespace Go.Sl
namespace Pu
open Go.Sl Go.Sl.M
def KO (fo:List QC) (e:Int):Bool:=fo.any fun f=>decide (f.1.1.1=e)
theorem Qjy (pu:List (BitVec 8)) (l:List Sgd) (fo:List QC) (li:List QU) (e:Int) (hn:fo.length≤1000):V3 (some (pu,l,fo,li)) e=some (KO fo e):=by
 unfold V3 JJ JP;rw [Option.bind_some]
 dsimp only
 obtain ⟨o,h1,h2⟩:=Vo (f:=fun (s:Int)=>Jx fo e s) (fun (s:Int)=>∃i:Nat,s=(i:Int)∧i≤fo.length∧∀j (h:j < fo.length),j < i→fo[j].1.1.1≠e) (fun (s:Int)=>fo.length - s.toNat)
  (fun (o:Int ⊕ Int)=>match o with | .inl _=>KO fo e=false | .inr r=>0≤r∧KO fo e=true) (by
  rintro s ⟨i,rfl,h1,h2⟩
  simp only [Jx]
  by_cases hi:i < fo.length
  ·rw [QA (by simp; omega),Qb (Jl rfl hi)];unfold Kl;rw [Option.bind_some]
   by_cases he:fo[i].1.1.1=e
   ·right; right
    rw [QA (by simpa using he)];exact ⟨_,rfl,by omega,List.any_eq_true.2 ⟨_,List.getElem_mem hi,by simpa using he⟩⟩
   ·left
    rw [QQ (by simpa using he),JA (by omega)];refine ⟨_,rfl,⟨i+1,by simp,by omega,fun j hj hji=>?_⟩,by omega⟩
    rcases Nat.lt_or_ge j i with h | h
    ·exact h2 j hj h
    ·have:j=i:=by omega
     subst this; exact he
  ·right; left
   rw [QQ (by simp; omega)];refine ⟨_,rfl,?_⟩;unfold KO;rw [List.any_eq_false];intro f hf;obtain ⟨j,hj,rfl⟩:=List.mem_iff_getElem.1 hf;have:=h2 j hj (by omega)
   simpa using this) FU (0:Int) ⟨0,rfl,by omega,fun j _ h=>by omega⟩ (Nat.lt_of_le_of_lt (Nat.sub_le _ _) (J6 (by omega)))
 rw [Qb h1]
 cases o with
 | inl s=>rw [show KO fo e=false from h2]; rfl
 | inr r=>rw [show KO fo e=true from h2.2]; simp [h2.1]
end Pu
end Go.Sl
namespace Go.Sl
namespace Pu
open Go.Sl Go.Sl.M
section
variable (pu : List (BitVec 8)) (l : List Sgd) (fo : List QC) (li : List QU) (s : Sgd) (k : Nat) (hr : Wq s pu = some true) (hs : QaO l) (he : 0 ≤ s.1.1 ∧ s.1.1 ≤ 2147483647) (hk : Bg l s.1.1 k)
include hr hs he hk
theorem Qe9 (hn:¬∃x∈l[k]?,x.1.1=s.1.1) (hl:l.length < 64) (hS:s.2.length≤2000000):Zx (pu,l,fo,li) s=some ((pu,l.take k++ [s]++l.drop k,fo,li),0):=by
 have hk0:=hk.1;unfold Zx;rw [Qb hr,QQ (by simp)]
 dsimp only
 rw [Qb (qa pu l fo li s.1.1 k hs he hk)]
 dsimp only
 rw [decide_eq_false hn,QQ (by simp),Option.bind_some,QQ (by simp),QQ (by simp),Option.bind_some,QQ (by simp; omega),Qb (W7 s hS)];unfold YQ;rw [if_pos ⟨by omega,by omega,rfl,by omega⟩,Option.bind_some,Int.toNat_natCast]
theorem Qih (hl:k < l.length) (hx:l[k].1=s.1):Zx (pu,l,fo,li) s=some ((pu,l,fo,li),11):=by
 unfold Zx;rw [Qb hr,QQ (by simp)]
 dsimp only
 have hy:∃x∈l[k]?,x.1.1=s.1.1:=⟨l[k],by rw [List.getElem?_eq_getElem hl]; rfl,by rw [hx]⟩;rw [Qb (qa pu l fo li s.1.1 k hs he hk)]
 dsimp only
 rw [decide_eq_true hy,QA (c:=true=true) rfl,Qb (Jl rfl hl),Option.bind_some,QA (by simpa using hx)]
theorem Qlb (hl:k < l.length) (hx:l[k].1.1=s.1.1) (hne:l[k].1≠s.1) (hS:s.2.length≤2000000) (hX:l[k].2.length≤2000000) (hf:fo.length≤900) :
  Zx (pu,l,fo,li) s=some ((pu,l,if KO fo s.1.1=true then fo else fo++ [(l[k],s)],li),9):=by
 unfold Zx;rw [Qb hr,QQ (by simp)]
 dsimp only
 have hy:∃x∈l[k]?,x.1.1=s.1.1:=⟨l[k],by rw [List.getElem?_eq_getElem hl]; rfl,hx⟩;rw [Qb (qa pu l fo li s.1.1 k hs he hk)]
 dsimp only
 rw [decide_eq_true hy,QA (c:=true=true) rfl,Qb (Jl rfl hl),Option.bind_some,QQ (by simpa using hne),QA (c:=true=true) rfl,Qb (Qjy pu l fo li s.1.1 (by omega))]
 by_cases h:KO fo s.1.1=true
 ·rw [QQ (by simp [h]),Option.bind_some,if_pos h]
 ·rw [QA (by simpa using h),Qb (Jl rfl hl),Qb (W7 _ hX),Qb (W7 s hS),Option.bind_some,QA (by simp [AP]; omega),Option.bind_some,if_neg h]
end
end Pu
end Go.Sl
namespace Go.Sl
namespace Pu
open Go.Sl Go.Sl.M
theorem Qgs (pu:List (BitVec 8)) (l:List Sgd) (fo:List QC) (li:List QU) (hn:l.length≤1000) (hS:∀s∈l,s.2.length≤2000000):Vq (pu,l,fo,li)=some l:=by
 unfold Vq;have h1:=Qg3 (f:=fun (s:Int×List Sgd)=>Xp (pu,l,fo,li) s.1 s.2) l id (by omega) (fun i hi acc ha=>by
  simp only [Xp]
  have hv:=hS _ (List.getElem_mem hi);rw [QA (by simp; omega),Qb (Jl rfl hi),Qb (W7 _ hv),QA (by simp [AP]; omega),JA (by omega)]; rfl) (fun acc=>by
  simp only [Xp]
  rw [QQ (by simp)])
 rw [Qb h1]; simp
theorem QkZ (pu:List (BitVec 8)) (l:List Sgd) (fo:List QC) (li:List QU) (hn:fo.length≤1000) (hS:∀f∈fo,f.1.2.length≤2000000∧f.2.2.length≤2000000):Vr (pu,l,fo,li)=some fo:=by
 unfold Vr;have h1:=Qg3 (f:=fun (s:Int×List QC)=>Xm (pu,l,fo,li) s.1 s.2) fo id (by omega) (fun i hi acc ha=>by
  simp only [Xm]
  have hv:=hS _ (List.getElem_mem hi);rw [QA (by simp; omega),Qb (Jl rfl hi),Qb (W7 _ hv.1),Qb (W7 _ hv.2),Option.bind_some,QA (by simp [AP]; omega),JA (by omega)]; rfl) (fun acc=>by
  simp only [Xm]
  rw [QQ (by simp)])
 rw [Qb h1]; simp
theorem Qka (pu:List (BitVec 8)) (h:pu.length≤2000000):Be pu=some (pu, [], [], []):=by
 unfold Be;have hcl:J0 pu=some pu:=by unfold J0; rw [QA (by simp [AP]; omega)]; simp
 rw [Qb hcl]
 try rfl
end Pu
end Go.Sl
namespace Go.Sl
namespace Pu
open Go.Sl Go.Sl.M
theorem QdK : J4.length≤2000000:=by
 have:J4.length=60:=QfT 1 3 K3
 omega
def Qjs (h:Za):Sgd:=(h,Qdj h)
theorem Qgl (e:Int):Bg [] e 0:=⟨Nat.le_refl _,fun i h=>by simp at h,fun i h=>by simp at h⟩
theorem Qlg (s:Sgd):Bg [s] s.1.1 0:=⟨by simp,fun i h hi=>by omega,fun i h _=>by
 have:i=0:=by simp at h; omega
 subst this; exact Int.le_refl _⟩
theorem Qld : QaO []:=⟨by simp,fun s h=>by cases h⟩
theorem Qlw (s:Sgd) (h:0≤s.1.1∧s.1.1≤2147483647):QaO [s]:=⟨by simp,fun x hx=>by rw [List.mem_singleton.1 hx]; exact h⟩
def QeB : Za:=(3,1,Vector.replicate 32 0#8,Vector.replicate 32 0#8)
theorem QiE (pu:List (BitVec 8)) (s:Sgd) (h:0≤s.1.1∧s.1.1≤2147483647):Jz (some (pu, [s], [], [])) s.1.1 s.1.1=some true:=by
 unfold Jz;have hp:=qa pu [s] [] [] s.1.1 0 (Qlw s h) h (Qlg s);have hy:∃x∈ [s][0]?,x.1.1=s.1.1:=⟨s,rfl,rfl⟩;rw [decide_eq_true hy] at hp;rw [QQ (by simp),Qb hp,Qb hp]
 dsimp only
 rw [QQ (by simp),Option.bind_some,QQ (by simp)];have h1:Zz s.1.1 (some (pu, [s], [], [])) 0 [s.1.1]=some (.ret true):=by
  unfold Zz;rw [QA (by simp),Qb (show JU [s.1.1] 0=some s.1.1 from rfl),QA (by simp)]
 have h2:=qb (f:=fun (s1:Int×List Int)=>Zz s.1.1 (some (pu, [s], [], [])) s1.1 s1.2) (n:=FU - 1) (s:=((0:Int), [s.1.1])) h1;rw [show FU - 1+1=FU from rfl] at h2;rw [Qb h2]
theorem QjY : X5=some true:=by
 unfold X5;obtain ⟨s,hs,hI⟩:=Qie;have hh:Bd QeB:=by decide
 obtain ⟨s',hs2,hI2⟩:=QhI hI QeB hh;have qx:Ys s=some J4:=QfC ih1 hI;have hsl:=QbP QeB;have Qm9:=Qe9 J4 [] [] [] (Qjs QeB) 0 (Qkv QeB hh) Qld (show 0≤(3:Int)∧(3:Int)≤2147483647 by omega) (Qgl _) (by simp) (by simp) hsl;rw [Qb hs,show ((s.1,s.2.1,s.2.2.1,s.2.2.2.1,s.2.2.2.2.1,s.2.2.2.2.2):Sg)=s from rfl,Qb qx,Qb (Qka J4 QdK),Option.bind_some,Qb (show Zj s ((3:Int),(1:Int),Vector.replicate 32 0#8,Vector.replicate 32 0#8)=_ from hs2)]
 dsimp only
 rw [Qb (show Zx (J4, [], [], []) (QeB,Qdj QeB)=_ from Qm9)]
 dsimp only
 rw [QA (by simp)];have hhd:=Qgs J4 [Qjs QeB] [] [] (by simp) (fun x hx=>by rw [List.mem_singleton.1 hx]; exact hsl);have hlk:Jz (some (J4, [Qjs QeB], [], [])) (3:Int) (3:Int)=some true:=QiE J4 (Qjs QeB) (show 0≤(3:Int)∧(3:Int)≤2147483647 by omega);have e1:([]:List Sgd).take 0++ [Qjs QeB]++([]:List Sgd).drop 0 = [Qjs QeB]:=rfl;rw [e1,Qb hhd,Option.bind_some,QA (by simp),Qb hlk,Option.bind_some]
end Pu
end Go.Sl
namespace Go.Sl
namespace Pu
open Go.Sl Go.Sl.M
abbrev Lk :=QU
inductive Rch (L:List (Int×Int)) (m:Int):Int→Prop
 | refl:Rch L m m
 | step {a b:Int}:Rch L m a→(a,b)∈L→Rch L m b
def nxt (b:List Int) (d:Int):List Int:=if d∈b then b else b++ [d]
theorem Qmy (b:List Int) (d:Int) (hb:b.length≤100000):ZQ b d=some (nxt b d):=by
 unfold ZQ;obtain ⟨o,h1,h2⟩:=Vo (f:=fun (s:Int)=>XX b d s) (fun (s:Int)=>∃i:Nat,s=(i:Int)∧i≤b.length∧∀j (h:j < b.length),j < i→b[j]≠d) (fun s=>b.length - s.toNat) (fun (o:Int ⊕ Int)=>match o with | .inl _=>d∉b | .inr _=>d∈b) (by
  rintro s ⟨i,rfl,h1,h2⟩
  simp only [XX]
  by_cases hi:i < b.length
  ·rw [QA (by simp; omega),Qb (Jl rfl hi)]
   by_cases he:b[i]=d
   ·right; right
    rw [QA (by simpa using he)];exact ⟨_,rfl,he▸List.getElem_mem hi⟩
   ·left
    rw [QQ (by simpa using he),JA (by omega)];refine ⟨_,rfl,⟨i+1,by simp,by omega,fun j hj hji=>?_⟩,by omega⟩
    rcases Nat.lt_or_ge j i with h | h
    ·exact h2 j hj h
    ·have:j=i:=by omega
     subst this; exact he
  ·right; left
   rw [QQ (by simp; omega)];refine ⟨_,rfl,fun hm=>?_⟩;obtain ⟨j,hj,hjd⟩:=List.mem_iff_getElem.1 hm;exact h2 j hj (by omega) hjd) FU (0:Int) ⟨0,rfl,by omega,fun j _ h=>by omega⟩ (Nat.lt_of_le_of_lt (Nat.sub_le _ _) (J6 (by omega)))
 rw [Qb h1];unfold nxt
 cases o with
 | inl s=>rw [if_neg (show d∉b from h2)]; dsimp only; rw [QA (by simp [AP]; omega)]
 | inr r=>rw [if_pos (show d∈b from h2)]
def WY (L:List Lk) (e:Int) (b:List Int):List Int:=L.foldl (fun b l=>if l.1=e then nxt b l.2 else b) b
theorem Qm1 (b:List Int) (d:Int):(nxt b d).length≤b.length+1:=by
 unfold nxt; split
 ·omega
 ·simp
theorem Qf3 (L:List Lk) (x:Lk) (e:Int) (b:List Int):WY (L++ [x]) e b=if x.1=e then nxt (WY L e b) x.2 else WY L e b:=by simp [WY,List.foldl_append]
theorem QlV (pu:List (BitVec 8)) (l:List Sgd) (fo:List QC) (li:List QU) (e:Int) (b:List Int) (hl:li.length≤1000) (hb:b.length≤5000):VD (fun (s:List Int) (d:Int)=>ZQ s d) (some (pu,l,fo,li)) e b=some (WY li e b):=by
 unfold VD;rw [Option.bind_some];obtain ⟨s,h1,h2⟩:=KV (f:=fun (s:Int×List Int)=>XD (pu,l,fo,li) e (fun (s:List Int) (d:Int)=>ZQ s d) s.1 s.2) (fun (s:Int×List Int)=>∃i:Nat,i≤li.length∧s=((i:Int),WY (li.take i) e b)∧(WY (li.take i) e b).length≤b.length+i) (fun (s:Int×List Int)=>li.length - s.1.toNat) (fun (s:Int×List Int)=>s.2=WY li e b) (by
  rintro s ⟨i,hi,rfl,hlen⟩
  simp only [XD]
  by_cases h:i < li.length
  ·left
   rw [QA (by simp; omega),Qb (Jl rfl h)];have ht:li.take (i+1)=li.take i++ [li[i]]:=by simp
   by_cases he:li[i].1=e
   ·rw [QA (by simpa using he),Qb (Qmy _ _ (by omega)),JA (by omega)];have:=Qm1 (WY (li.take i) e b) li[i].2;have hg:WY (li.take (i+1)) e b=nxt (WY (li.take i) e b) li[i].2:=by rw [ht,Qf3,if_pos he]
    refine ⟨_,rfl,⟨i+1,by omega,by rw [hg]; rfl,by rw [hg]; omega⟩,by dsimp only; omega⟩
   ·rw [QQ (by simpa using he),JA (by omega)];have hg:WY (li.take (i+1)) e b=WY (li.take i) e b:=by rw [ht,Qf3,if_neg he]
    refine ⟨_,rfl,⟨i+1,by omega,by rw [hg]; rfl,by rw [hg]; omega⟩,by dsimp only; omega⟩
  ·right
   rw [QQ (by simp; omega)];have:i=li.length:=by omega
   subst this;exact ⟨_,rfl,by rw [List.take_length]⟩) FU ((0:Int),b) ⟨0,by omega,rfl,Nat.le_refl _⟩ (Nat.lt_of_le_of_lt (Nat.sub_le _ _) (J6 (by omega)))
 rw [Qb h1,h2]
theorem qG (e:Int):∀(L:List Lk) (b:List Int),b.Nodup→∃x,WY L e b=b++x∧(b++x).Nodup∧(∀d∈x,(e,d)∈L)∧∀d,(e,d)∈L→d∈b++x
 | [],b,hb=>⟨[],by simp [WY],by simpa using hb,fun d h=>(by cases h),fun d h=>(by cases h)⟩
 | y::L,b,hb=>by
  by_cases he:y.1=e
  ·by_cases hm:y.2∈b
   ·obtain ⟨x,h1,h2,h3,h4⟩:=qG e L b hb;refine ⟨x,?_,h2,fun d hd=>List.mem_cons_of_mem _ (h3 d hd),fun d hd=>?_⟩
    ·rw [←h1];show WY L e (if y.1=e then nxt b y.2 else b)=_;rw [if_pos he,nxt,if_pos hm]
    ·rcases List.mem_cons.1 hd with h | h
     ·rw [show d=y.2 from congrArg Prod.snd h]; exact List.mem_append_left _ hm
     ·exact h4 d h
   ·obtain ⟨x,h1,h2,h3,h4⟩:=qG e L (b++ [y.2]) (List.nodup_append.2 ⟨hb,by simp,fun a ha c hc=>by rw [List.mem_singleton.1 hc]; rintro rfl; exact hm ha⟩);refine ⟨y.2::x,?_,by simpa using h2,fun d hd=>?_,fun d hd=>?_⟩
    ·rw [show b++y.2::x=b++ [y.2]++x by simp,←h1];show WY L e (if y.1=e then nxt b y.2 else b)=_;rw [if_pos he,nxt,if_neg hm]
    ·rcases List.mem_cons.1 hd with h | h
     ·rw [h,←he]; exact List.mem_cons_self
     ·exact List.mem_cons_of_mem _ (h3 d h)
    ·rcases List.mem_cons.1 hd with h | h
     ·rw [show d=y.2 from congrArg Prod.snd h]; simp
     ·have:=h4 d h; simpa using this
  ·obtain ⟨x,h1,h2,h3,h4⟩:=qG e L b hb;refine ⟨x,?_,h2,fun d hd=>List.mem_cons_of_mem _ (h3 d hd),fun d hd=>?_⟩
   ·rw [←h1];show WY L e (if y.1=e then nxt b y.2 else b)=_;rw [if_neg he]
   ·rcases List.mem_cons.1 hd with h | h
    ·exact absurd (congrArg Prod.fst h).symm he
    ·exact h4 d h
theorem QdH : ∀(a b:List Int),a.Nodup→(∀x∈a,x∈b)→a.length≤b.length
 | [],b,_,_=>by simp
 | x::a,b,hn,hs=>by
  have hx:x∈b:=hs x List.mem_cons_self;have hn':=List.nodup_cons.1 hn;have:=QdH a (b.erase x) hn'.2 (fun y hy=>(List.mem_erase_of_ne (fun h:y=x=>hn'.1 (by rw [←h]; exact hy))).2 (hs y (List.mem_cons_of_mem _ hy)));rw [List.length_erase_of_mem hx] at this;have:=List.length_pos_of_mem hx
  simp only [List.length_cons]
  omega
theorem Qjd {L:List Lk}{m:Int}{b:List Int} (hm:m∈b) (h:∀x∈b,∀d,(x,d)∈L→d∈b):∀ {n:Int},Rch L m n→n∈b
 | _, .refl=>hm
 | _, .step hr hl=>h _ (Qjd hm h hr) _ hl
theorem Qj5 {L:List Lk}{m x:Int} (h:Rch L m x):x∈m::L.map Prod.snd:=by
 cases h with
 | refl=>exact List.mem_cons_self
 | step _ hl=>exact List.mem_cons_of_mem _ (List.mem_map.2 ⟨_,hl,rfl⟩)
theorem QiA (pu:List (BitVec 8)) (l:List Sgd) (fo:List QC) (li:List QU) (m n:Int) (hl:li.length≤1000) :
  ∃o,Yf (fun (s:Int×(List Int))=>Zz n (some (pu,l,fo,li)) s.1 s.2) FU ((0:Int), [m])=some o∧(match o with | .inl _=>¬Rch li m n | .inr x=>x=true∧Rch li m n):=by
 refine Vo (f:=fun (s:Int×(List Int))=>Zz n (some (pu,l,fo,li)) s.1 s.2) (fun (s:Int×(List Int))=>∃k:Nat,s.1=(k:Int)∧k≤s.2.length∧s.2.Nodup∧(∀x∈s.2,Rch li m x)∧m∈s.2∧∀j (h:j < s.2.length),j < k→s.2[j]≠n∧∀d,(s.2[j],d)∈li→d∈s.2) (fun (s:Int×(List Int))=>2000 - s.1.toNat) (fun (o:(Int×List Int) ⊕ Bool)=>match o with | .inl _=>¬Rch li m n | .inr x=>x=true∧Rch li m n) ?_ FU _ ⟨0,rfl,by simp,by simp,fun x hx=>(by rw [List.mem_singleton.1 hx]; exact .refl),by simp,fun j _ h=>by omega⟩ (Nat.lt_of_le_of_lt (Nat.sub_le _ _) (J6 (by omega)));rintro ⟨i,b⟩ ⟨k,h1,h2,h3,h4,h5,h6⟩
 dsimp only at h1 h2 h3 h4 h5 h6 ⊢
 subst h1;have hlen:b.length≤li.length+1:=by
  have:=QdH b (m::li.map Prod.snd) h3 (fun x hx=>Qj5 (h4 x hx))
  simpa using this
 simp only [Zz]
 by_cases hk:k < b.length
 ·rw [QA (by simp; omega),Qb (Jl rfl hk)]
  by_cases he:b[k]=n
  ·right; right
   rw [QA (by simpa using he)];exact ⟨_,rfl,rfl,he▸h4 _ (List.getElem_mem hk)⟩
  ·left
   obtain ⟨x,g1,g2,g3,g4⟩:=qG b[k] li b h3;rw [QQ (by simpa using he),Qb (Jl rfl hk),Qb (QlV pu l fo li _ b hl (by omega)),JA (by omega),g1];refine ⟨_,rfl,⟨k+1,rfl,by simp; omega,g2,fun y hy=>?_,List.mem_append_left _ h5,fun j hj hjk=>?_⟩,by dsimp only; omega⟩
   ·rcases List.mem_append.1 hy with hy | hy
    ·exact h4 y hy
    ·exact .step (h4 _ (List.getElem_mem hk)) (g3 y hy)
   ·have hjb:j < b.length:=by omega
    have hg:(b++x)[j]=b[j]:=List.getElem_append_left hjb
    dsimp only
    rw [hg]
    rcases Nat.lt_or_ge j k with h | h
    ·obtain ⟨p,q⟩:=h6 j hjb h;exact ⟨p,fun d hd=>List.mem_append_left _ (q d hd)⟩
    ·have:j=k:=by omega
     subst this;exact ⟨he,fun d hd=>g4 d hd⟩
 ·right; left
  rw [QQ (by simp; omega)];refine ⟨_,rfl,fun hr=>?_⟩;have hin:=Qjd h5 (fun y hy d hd=>by
   obtain ⟨j,hj,rfl⟩:=List.mem_iff_getElem.1 hy;exact (h6 j hj (by omega)).2 d hd) hr
  obtain ⟨j,hj,hjn⟩:=List.mem_iff_getElem.1 hin;exact (h6 j hj (by omega)).1 hjn
theorem QjB (pu:List (BitVec 8)) (l:List Sgd) (fo:List QC) (li:List QU) (m n:Int) (hl:li.length≤1000){k1 k2:Int}{b1 b2:Bool} (h1:J2 (some (pu,l,fo,li)) m=some (k1,b1)) (h2:J2 (some (pu,l,fo,li)) n=some (k2,b2)) :
  ∃b,Jz (some (pu,l,fo,li)) m n=some b∧(b=true↔b1=true∧b2=true∧Rch li m n):=by
 unfold Jz;rw [QQ (by simp),Qb h1,Qb h2]
 dsimp only
 cases b1 with
 | false=>rw [QA (by simp),Option.bind_some,QA (by simp)]; exact ⟨false,rfl,by simp⟩
 | true=>
  cases b2 with
  | false=>rw [QQ (by simp),Option.bind_some,QA (by simp)]; exact ⟨false,rfl,by simp⟩
  | true=>
   rw [QQ (by simp),Option.bind_some,QQ (by simp)];obtain ⟨o,g1,g2⟩:=QiA pu l fo li m n hl;rw [Qb g1]
   cases o with
   | inl s=>exact ⟨false,rfl,by simpa using (show ¬Rch li m n from g2)⟩
   | inr x=>
    obtain ⟨rfl,g3⟩:x=true∧Rch li m n:=g2;exact ⟨true,rfl,by simpa using g3⟩
end Pu
end Go.Sl
namespace Go.Sl.Fr
variable {H : Type}
abbrev P (H:Type):Type:=Nat×Nat×H
def push (nd:H→H→H):List (P H)→P H→List (P H)
 | [],x=> [x]
 | y::st,x=>if y.2.1=x.2.1∧2^(y.2.1+1)∣y.1 then push nd st (y.1,y.2.1+1,nd y.2.2 x.2.2) else x::y::st
def Ct (a:Nat):List (P H)→Nat→Prop
 | [],e=>a=e
 | y::st,e=>y.1+2^y.2.1=e∧2^y.2.1∣y.1∧Ct a st y.1
def Nf : List (P H)→Prop
 | []=>True
 | [_]=>True
 | x::y::st=>¬(y.2.1=x.2.1∧2^(y.2.1+1)∣y.1)∧Nf (y::st)
theorem qU {i j:Nat} (h:i≤j):2^i∣2^j:=Nat.pow_dvd_pow 2 h
theorem V6 (k:Nat):2^(k+1)=2^k+2^k:=by rw [Nat.pow_succ]; omega
theorem YA (k:Nat):0 < 2^k:=Nat.pow_pos (by omega)
theorem Qbh {k p:Nat} (h:2^(k+1)∣p):¬2^(k+1)∣p+2^k:=by
 intro hd;have h2:2^(k+1)∣2^k:=(Nat.dvd_add_right h).1 hd;have:=Nat.le_of_dvd (YA k) h2;have:=V6 k;have:=YA k
 omega
theorem QfS {k p:Nat} (h:2^k∣p) (hn:¬2^(k+1)∣p):2^(k+1)∣p+2^k:=by
 obtain ⟨m,rfl⟩:=h;have hp:2^(k+1)=2^k*2:=Nat.pow_succ ..;have hm:m % 2=1:=by
  apply Decidable.byContradiction
  intro hc;have:m=2*(m / 2):=by omega
  apply hn
  rw [hp];exact ⟨m / 2,by rw [Nat.mul_assoc,←this]⟩
 have:m=2*(m / 2)+1:=by omega
 refine ⟨m / 2+1,?_⟩;rw [hp,Nat.mul_assoc]
 calc 2^k*m+2^k=2^k*(m+1):=by rw [Nat.mul_add,Nat.mul_one]
  _=2^k*(2*(m / 2+1)):=congrArg (2^k * ·) (by omega)
theorem QeP (nd:H→H→H){a:Nat}:∀(st:List (P H)) (x:P H),Ct a st x.1→2^x.2.1∣x.1→Ct a (push nd st x) (x.1+2^x.2.1)
 | [],x,h,hd=>⟨rfl,hd,h⟩
 | y::st,x,h,hd=>by
  unfold push
  split
  ·rename_i hc
   have:=QeP nd st (y.1,y.2.1+1,nd y.2.2 x.2.2) h.2.2 hc.2;have e:y.1+2^(y.2.1+1)=x.1+2^x.2.1:=by rw [V6,←hc.1,←h.1]; omega
   rw [←e]; exact this
  ·exact ⟨rfl,hd,h⟩
theorem Qnt {x:P H}{st:List (P H)} (h:Nf (x::st)):Nf st:=by
 cases st with
 | nil=>trivial
 | cons y st=>exact h.2
theorem QjZ (nd:H→H→H):∀(st:List (P H)) (x:P H),Nf st→Nf (push nd st x)
 | [],x,h=>trivial
 | y::st,x,h=>by
  unfold push
  split
  ·exact QjZ nd st _ (Qnt h)
  ·rename_i hc
   exact ⟨hc,h⟩
def Hs (V:Nat→Nat→H) (st:List (P H)):Prop:=∀x∈st,x.2.2=V x.1 x.2.1
theorem QkD {nd:H→H→H}{V:Nat→Nat→H}{a e:Nat} (hV:∀p k,a≤p→p+2^(k+1)≤e→2^(k+1)∣p→V p (k+1)=nd (V p k) (V (p+2^k) k)):∀(st:List (P H)) (x:P H),Ct a st x.1→x.1+2^x.2.1≤e→x.2.2=V x.1 x.2.1→Hs V st→Hs V (push nd st x)
 | [],x,hc,he,hx,h=>by intro z hz; rw [List.mem_singleton.1 hz]; exact hx
 | y::st,x,hc,he,hx,h=>by
  unfold push
  split
  ·rename_i hm
   have hy:=h y (List.mem_cons_self ..);have e1:y.1+2^(y.2.1+1)=x.1+2^x.2.1:=by rw [V6,←hm.1,←hc.1]; omega
   have ha:a≤y.1:=by
    have:∀(st:List (P H)) (q:Nat),Ct a st q→a≤q:=by
     intro st
     induction st with
     | nil=>intro q h; exact Nat.le_of_eq h
     | cons z st ih=>intro q h; have h2:=ih _ h.2.2; have h1:z.1+2^z.2.1=q:=h.1; exact Nat.le_trans h2 (by rw [←h1]; exact Nat.le_add_right _ _)
    exact this _ _ hc.2.2
   refine QkD hV st _ hc.2.2 ?_ ?_ (fun z hz=>h z (List.mem_cons_of_mem _ hz))
   ·show y.1+2^(y.2.1+1)≤e;rw [e1]; exact he
   ·show nd y.2.2 x.2.2=V y.1 (y.2.1+1);rw [hV y.1 y.2.1 ha (by rw [e1]; exact he) hm.2,hy,hx,hm.1,←hc.1,hm.1]
  ·intro z hz
   rcases List.mem_cons.1 hz with rfl | hz
   ·exact hx
   ·exact h z hz
theorem Qmj (nd:H→H→H){a:Nat} (st:List (P H)) (y x:P H) (hc:Ct a st y.1) (hx:x.1=y.1+2^y.2.1) (hk:y.2.1=x.2.1) (hd:2^(y.2.1+1)∣y.1) :
  push nd (push nd st y) x=push nd st (y.1,y.2.1+1,nd y.2.2 x.2.2):=by
 have h1:push nd st y=y::st:=by
  cases st with
  | nil=>rfl
  | cons z st=>
   unfold push;rw [if_neg];intro hm;have hz:=hc.1;have:¬2^(z.2.1+1)∣y.1:=by rw [←hz]; exact Qbh hm.2
   exact this (hm.1▸hd)
 rw [h1]
 conv=>lhs; unfold push
 rw [if_pos ⟨hk,hd⟩]
def Bf (nd:H→H→H) (st L:List (P H)):List (P H):=L.foldl (push nd) st
theorem Qhj (nd:H→H→H):∀(L st:List (P H)),Nf st→Nf (Bf nd st L)
 | [],st,h=>h
 | x::L,st,h=>Qhj nd L _ (QjZ nd st x h)
def Fw : Nat→List (P H)→Nat→Prop
 | a, [],e=>a=e
 | a,x::L,e=>x.1=a∧2^x.2.1∣x.1∧Fw (x.1+2^x.2.1) L e
def NfF : List (P H)→Prop
 | []=>True
 | [_]=>True
 | x::y::L=>¬(x.2.1=y.2.1∧2^(x.2.1+1)∣x.1)∧NfF (y::L)
theorem Qef : ∀(L M:List (P H)) (a b c:Nat),Fw a L b→Fw b M c→Fw a (L++M) c
 | [],M,a,b,c,h,h'=>by cases h; exact h'
 | x::L,M,a,b,c,h,h'=>⟨h.1,h.2.1,Qef L M _ b c h.2.2 h'⟩
theorem QfW : ∀(L M:List (P H)) (a c:Nat),Fw a (L++M) c→∃b,Fw a L b∧Fw b M c
 | [],M,a,c,h=>⟨a,rfl,h⟩
 | x::L,M,a,c,h=>by
  obtain ⟨b,h1,h2⟩:=QfW L M _ c h.2.2;exact ⟨b,⟨h.1,h.2.1,h1⟩,h2⟩
theorem Qck : ∀(L:List (P H)) (a e:Nat),Fw a L e→a+L.length≤e
 | [],a,e,h=>by cases h; simp
 | x::L,a,e,h=>by
  have:=Qck L _ _ h.2.2;have:=h.1;have:=YA x.2.1
  simp only [List.length_cons]; omega
theorem QlR : ∀(st:List (P H)) (a e:Nat),Ct a st e→Fw a st.reverse e
 | [],a,e,h=>h
 | x::st,a,e,h=>by
  rw [List.reverse_cons];exact Qef _ _ _ _ _ (QlR st a _ h.2.2) ⟨rfl,h.2.1,h.1⟩
theorem Qkq : ∀(L:List (P H)) (y x:P H),NfF (L++ [y])→¬(y.2.1=x.2.1∧2^(y.2.1+1)∣y.1)→NfF (L++ [y,x])
 | [],y,x,h,hn=>⟨hn,trivial⟩
 | [z],y,x,h,hn=>⟨h.1,hn,trivial⟩
 | z::w::L,y,x,h,hn=>⟨h.1,Qkq (w::L) y x h.2 hn⟩
theorem QiZ : ∀(st:List (P H)),Nf st→NfF st.reverse
 | [],_=>trivial
 | [x],_=>trivial
 | x::y::st,h=>by
  rw [List.reverse_cons,List.reverse_cons,List.append_assoc];exact Qkq _ y x (by rw [←List.reverse_cons]; exact QiZ (y::st) h.2) h.1
theorem QaP (nd:H→H→H){a:Nat}:∀(L st:List (P H)) (b e:Nat),Ct a st b→Fw b L e→Ct a (Bf nd st L) e
 | [],st,b,e,h,h'=>by cases h'; exact h
 | x::L,st,b,e,h,h'=>QaP nd L _ _ e (QeP nd st x (by rw [h'.1]; exact h) h'.2.1) h'.2.2
theorem QjT {nd:H→H→H}{V:Nat→Nat→H}{a E:Nat} (hV:∀p k,a≤p→p+2^(k+1)≤E→2^(k+1)∣p→V p (k+1)=nd (V p k) (V (p+2^k) k)):∀(L st:List (P H)) (b e:Nat),Ct a st b→Fw b L e→e≤E→Hs V st→Hs V L→Hs V (Bf nd st L)
 | [],st,b,e,h,h',he,hs,hl=>hs
 | x::L,st,b,e,h,h',he,hs,hl=>by
  have hle:=Qck L _ _ h'.2.2;exact QjT hV L _ _ e (QeP nd st x (by rw [h'.1]; exact h) h'.2.1) h'.2.2 he (QkD hV st x (by rw [h'.1]; exact h) (by omega) (hl x (List.mem_cons_self ..)) hs) (fun z hz=>hl z (List.mem_cons_of_mem _ hz))
theorem QcF (nd:H→H→H):∀(L:List (P H)) (st:List (P H)),NfF L→(∀y∈st.head?,∀x∈L.head?,¬(y.2.1=x.2.1∧2^(y.2.1+1)∣y.1))→Bf nd st L=L.reverse++st
 | [],st,h,hh=>rfl
 | x::L,st,h,hh=>by
  have h1:push nd st x=x::st:=by
   cases st with
   | nil=>rfl
   | cons y st=>
    unfold push;rw [if_neg (hh y rfl x rfl)]
  show Bf nd (push nd st x) L=_;rw [h1,QcF nd L (x::st) (by cases L with | nil=>trivial | cons z L=>exact h.2) (by
   intro y hy z hz
   cases hy
   cases L with
   | nil=>cases hz
   | cons w L=>cases hz; exact h.1)]
  simp
theorem Qjk (nd:H→H→H){a b e:Nat} (L M:List (P H)) (y x:P H) (st:List (P H)) (hc:Ct a st b) (hf:Fw b (L++y::x::M) e) (hk:y.2.1=x.2.1) (hd:2^(y.2.1+1)∣y.1) :
  Bf nd st (L++y::x::M)=Bf nd st (L++(y.1,y.2.1+1,nd y.2.2 x.2.2)::M):=by
 obtain ⟨c,h1,h2⟩:=QfW _ _ _ _ hf;unfold Bf;rw [List.foldl_append,List.foldl_append]
 simp only [List.foldl_cons]
 rw [Qmj nd (a:=a) _ y x (by rw [h2.1]; exact QaP nd L st b c hc h1) h2.2.2.1 hk hd]
def QcL (a d k:Nat):Prop:=2^k≤d∧2^k∣a∧¬(2^(k+1)≤d∧2^(k+1)∣a)
theorem Qkm {a d k k':Nat} (h:QcL a d k) (h':2^k'≤d∧2^k'∣a):k'≤k:=by
 apply Decidable.byContradiction
 intro hc
 apply h.2.2
 exact ⟨Nat.le_trans (Nat.pow_le_pow_right (by omega) (by omega)) h'.1,Nat.dvd_trans (qU (by omega)) h'.2⟩
theorem QbV {a d k k':Nat} (h:QcL a d k) (h':QcL a d k'):k=k':=
 Nat.le_antisymm (Qkm h' ⟨h.1,h.2.1⟩) (Qkm h ⟨h'.1,h'.2.1⟩)
def Seg : Nat→Nat→List Nat→Prop
 | a,e, []=>a=e
 | a,e,k::ks=>a < e∧QcL a (e - a) k∧Seg (a+2^k) e ks
theorem Qh0 : ∀(ks ks':List Nat) (a e:Nat),Seg a e ks→Seg a e ks'→ks=ks'
 | [], [],a,e,h,h'=>rfl
 | [],k::ks,a,e,h,h'=>by have:=h'.1; have h:a=e:=h; omega
 | k::ks, [],a,e,h,h'=>by have:=h.1; have h:a=e:=h'; omega
 | k::ks,k'::ks',a,e,h,h'=>by
  have:=QbV h.2.1 h'.2.1;subst this;rw [Qh0 ks ks' _ e h.2.2 h'.2.2]
theorem Qhm : ∀(ks:List Nat) (a e:Nat),Seg a e ks→a+ks.length≤e
 | [],a,e,h=>by have h:a=e:=h; simp; omega
 | k::ks,a,e,h=>by
  have:=Qhm ks _ _ h.2.2;have:=YA k
  simp only [List.length_cons]; omega
theorem Qjh : ∀(s p e:Nat) (x:P H) (L:List (P H)),Fw p (x::L) e→NfF (x::L)→2^s∣p→¬2^(s+1)∣p→p+2^s≤e→x.2.1=s:=by
 intro s
 induction s using Nat.strongRecOn with
 | ind s ih=>
  intro p e x L hf hn hd hnd hle;have hx:=hf.1;have hxd:=hf.2.1;have hle':x.2.1≤s:=by
   apply Decidable.byContradiction
   intro hc;exact hnd (Nat.dvd_trans (qU (by omega)) (hx▸hxd))
  rcases Nat.lt_or_ge x.2.1 s with hlt | hge
  ·exfalso
   have hd2:2^(x.2.1+1)∣x.1:=by rw [hx]; exact Nat.dvd_trans (qU (by omega)) hd
   have hp:2^x.2.1 < 2^s:=Nat.pow_lt_pow_right (by omega) hlt;have hp2:2^(x.2.1+1)≤2^s:=Nat.pow_le_pow_right (by omega) (by omega);have hps:=V6 x.2.1
   cases L with
   | nil=>
    have h2:x.1+2^x.2.1=e:=hf.2.2
    omega
   | cons y L=>
    have hy:=ih x.2.1 hlt (x.1+2^x.2.1) e y L hf.2.2 hn.2 (Nat.dvd_add (hxd) (Nat.dvd_refl _)) (Qbh hd2) (by omega);exact hn.1 ⟨hy.symm,hd2⟩
  ·omega
theorem QdL : ∀(L:List (P H)) (a e:Nat),Fw a L e→NfF L→Seg a e (L.map (fun x=>x.2.1))
 | [],a,e,hf,hn=>hf
 | x::L,a,e,hf,hn=>by
  have hle:=Qck L _ _ hf.2.2;have hx:=hf.1;have hp:=YA x.2.1;show a < e∧QcL a (e - a) x.2.1∧Seg (a+2^x.2.1) e (L.map (fun x=>x.2.1));refine ⟨by omega,⟨by omega,hx▸hf.2.1,?_⟩,?_⟩
  ·rintro ⟨h1,h2⟩;have hps:=V6 x.2.1
   cases L with
   | nil=>have h3:x.1+2^x.2.1=e:=hf.2.2; omega
   | cons y L=>
    rw [←hx] at h2;have hy:=Qjh x.2.1 (x.1+2^x.2.1) e y L hf.2.2 hn.2 (Nat.dvd_add hf.2.1 (Nat.dvd_refl _)) (Qbh h2) (by omega);exact hn.1 ⟨hy.symm,h2⟩
  ·have:=QdL L _ e hf.2.2 (by cases L with | nil=>trivial | cons y L=>exact hn.2);rw [hx] at this;exact this
theorem Qo8 {a e k j:Nat} (h:QcL a (e - a) k) (h2:QcL (a+2^k) (e - (a+2^k)) j) (hl:a+2^k < e):¬(k=j∧2^(k+1)∣a):=by
 rintro ⟨rfl,hd⟩;refine h.2.2 ⟨?_,hd⟩;have:=h2.1;have:=V6 k
 omega
def lay : Nat→List Nat→List H→List (P H)
 | a,k::ks,h::hs=>(a,k,h)::lay (a+2^k) ks hs
 | _,_,_=> []
theorem QlW : ∀(ks:List Nat) (hs:List H) (a e:Nat),Seg a e ks→ks.length=hs.length→Fw a (lay a ks hs) e
 | [], [],a,e,h,hl=>h
 | k::ks,h::hs,a,e,hg,hl=>⟨rfl,hg.2.1.2.1,QlW ks hs _ e hg.2.2 (by simpa using hl)⟩
theorem QmL : ∀(ks:List Nat) (hs:List H) (a e:Nat),Seg a e ks→ks.length=hs.length→NfF (lay a ks hs)
 | [], [],a,e,h,hl=>trivial
 | [k], [h],a,e,hg,hl=>trivial
 | k::j::ks,h::h'::hs,a,e,hg,hl=>⟨Qo8 hg.2.1 hg.2.2.2.1 hg.2.2.1,QmL (j::ks) (h'::hs) _ e hg.2.2 (by simpa using hl)⟩
theorem Qoi : ∀(ks:List Nat) (hs:List H) (a:Nat),ks.length=hs.length→(lay a ks hs).map (fun x=>x.2.1)=ks
 | [], [],a,hl=>rfl
 | k::ks,h::hs,a,hl=>by
  show k::_=_;rw [show List.map (fun x=>x.2.1) (lay (a+2^k) ks hs)=ks from Qoi ks hs _ (by simpa using hl)]
theorem Qof : ∀(ks:List Nat) (hs:List H) (a:Nat),ks.length=hs.length→(lay a ks hs).map (fun x=>x.2.2)=hs
 | [], [],a,hl=>rfl
 | k::ks,h::hs,a,hl=>by
  show h::_=_;rw [show List.map (fun x=>x.2.2) (lay (a+2^k) ks hs)=hs from Qof ks hs _ (by simpa using hl)]
theorem Qja : ∀(L:List (P H)) (a e:Nat),Fw a L e→lay a (L.map (fun x=>x.2.1)) (L.map (fun x=>x.2.2))=L
 | [],a,e,h=>rfl
 | x::L,a,e,h=>by
  obtain ⟨p,k,q⟩:=x;have h1:p=a:=h.1;subst h1;show (p,k,q)::lay (p+2^k) _ _=_;rw [Qja L _ e h.2.2]
theorem QaS : ∀(ks:List Nat) (a e j:Nat),Seg a e ks→(∀i,2^i≤e - a→2^i∣a)→e - a < 2^j→ks.length≤j
 | [],a,e,j,h,ha,hj=>by simp
 | k::ks,a,e,j,h,ha,hj=>by
  have hk:=h.2.1;have hd:e - a < 2^(k+1):=by
   apply Decidable.byContradiction
   intro hc;exact hk.2.2 ⟨by omega,ha _ (by omega)⟩
  have hps:=V6 k;have hkj:k < j:=(Nat.pow_lt_pow_iff_right (a:=2) (by omega)).1 (Nat.lt_of_le_of_lt hk.1 hj);have:=QaS ks (a+2^k) e k h.2.2 (fun i hi=>by
   have h1:2^i < 2^k:=by have:=hk.1; omega
   have h2:i < k:=(Nat.pow_lt_pow_iff_right (a:=2) (by omega)).1 h1;exact Nat.dvd_add (ha i (by have:=hk.1; omega)) (qU (by omega))) (by have:=hk.1; omega)
  simp only [List.length_cons]; omega
theorem Qkx : ∀(ks:List Nat) (a e i j:Nat),Seg a e ks→2^i∣a→i≤j→e - a < 2^j→ks.length≤(j - i)+j
 | [],a,e,i,j,h,ha,hi,hj=>by simp
 | k::ks,a,e,i,j,h,ha,hi,hj=>by
  have hk:=h.2.1;have hkj:k < j:=(Nat.pow_lt_pow_iff_right (a:=2) (by omega)).1 (Nat.lt_of_le_of_lt hk.1 hj)
  by_cases hd:2^(k+1)∣a
  ·have:=QaS (k::ks) a e j h (fun m hm=>by
    have:m≤k:=by
     apply Decidable.byContradiction
     intro hc;exact hk.2.2 ⟨Nat.le_trans (Nat.pow_le_pow_right (by omega) (by omega)) hm,hd⟩
    exact Nat.dvd_trans (qU this) hk.2.1) hj
   omega
  ·have hik:i≤k:=by
    apply Decidable.byContradiction
    intro hc;exact hd (Nat.dvd_trans (qU (by omega)) ha)
   have:=Qkx ks (a+2^k) e (k+1) j h.2.2 (QfS hk.2.1 hd) (by omega) (by omega)
   simp only [List.length_cons]; omega
theorem Qoo {ks:List Nat}{a e:Nat} (h:Seg a e ks) (he:e≤2147483647):ks.length≤62:=by
 have:=Qkx ks a e 0 31 h (by simp) (by omega) (by omega)
 omega
theorem QhH (a d:Nat) (hd:0 < d):∃k,QcL a d k:=by
 have:∀(n k:Nat),2^k≤d→2^k∣a→d < 2^(k+n)→∃k,QcL a d k:=by
  intro n
  induction n with
  | zero=>intro k h1 h2 h3; exact absurd h3 (by simpa using h1)
  | succ n ih=>
   intro k h1 h2 h3
   by_cases h:2^(k+1)≤d∧2^(k+1)∣a
   ·exact ih (k+1) h.1 h.2 (by rw [show k+1+n=k+(n+1) by omega]; exact h3)
   ·exact ⟨k,h1,h2,h⟩
 exact this d 0 (by rw [Nat.pow_zero]; omega) (by simp) (by rw [Nat.zero_add]; exact Nat.lt_pow_self (by omega))
theorem Qfd : ∀(n a e:Nat),a≤e→e - a≤n→∃ks,Seg a e ks:=by
 intro n
 induction n with
 | zero=>intro a e h hn; exact ⟨[],by show a=e; omega⟩
 | succ n ih=>
  intro a e h hn
  by_cases hl:a < e
  ·obtain ⟨k,hk⟩:=QhH a (e - a) (by omega);have:=YA k;have:=hk.1;obtain ⟨ks,hks⟩:=ih (a+2^k) e (by omega) (by omega);exact ⟨k::ks,hl,hk,hks⟩
  ·exact ⟨[],by show a=e; omega⟩
end Go.Sl.Fr
set_option maxRecDepth 20000
namespace Go.Sl
theorem Qps (a k:Nat) (hk:k≤64) (h:a*2^k < 9223372036854775808):KD (a:Int) (k:Int)=((a*2^k:Nat):Int):=by
 unfold KD;rw [Int.toNat_natCast,Nat.min_eq_left hk];have:((2:Int)^k)=((2^k:Nat):Int):=by simp
 rw [this,←Int.natCast_mul,B1 h]
namespace Pu
open Go.Sl Go.Sl.M Go.Sl.Fr
theorem Qpv : ∀i:Fin 256,∃h:i.val < S_0.length,(i.val=0∨2^((S_0[i.val]'h).toNat - 1)≤i.val)∧i.val < 2^(S_0[i.val]'h).toNat∧(i.val≠0→1≤(S_0[i.val]'h).toNat)∧(S_0[i.val]'h).toNat≤8:=by decide
theorem QjU (x:BitVec 64) (n:Nat) (hx:x.toNat=n) (h:n < 256):∃r:BitVec 8,JU S_0 ((x.setWidth 8).toNat:Int)=some r∧(n=0∨2^(r.toNat - 1)≤n)∧n < 2^r.toNat∧(n≠0→1≤r.toNat)∧r.toNat≤8:=by
 have e:(x.setWidth 8).toNat=n:=by
  rw [BitVec.toNat_setWidth,hx]; exact Nat.mod_eq_of_lt (by omega)
 obtain ⟨h1,h2,h3,h4,h5⟩:=Qpv ⟨n,h⟩;refine ⟨S_0[n],Jl (by rw [e]) h1,h2,h3,h4,h5⟩
theorem QgJ {n s r:Nat} (hr:1≤r) (h1:2^(r - 1)≤n / 2^s) (h2:n / 2^s < 2^r):2^(r+s - 1)≤n∧n < 2^(r+s):=by
 constructor
 ·rw [show r+s - 1=(r - 1)+s by omega,Nat.pow_add];exact (Nat.le_div_iff_mul_le (YA s)).1 h1
 ·rw [Nat.pow_add];exact (Nat.div_lt_iff_lt_mul (YA s)).1 h2
theorem QoJ (n:Nat) (h0:0 < n) (h:n < 4294967296):∃r:Nat,Wc (BitVec.ofInt 64 (n:Int))=some (r:Int)∧1≤r∧r≤32∧2^(r - 1)≤n∧n < 2^r:=by
 have e0:BitVec.ofInt 64 (n:Int)=BitVec.ofNat 64 n:=by apply BitVec.eq_of_toNat_eq; simp
 have ex:(BitVec.ofNat 64 n).toNat=n:=by rw [BitVec.toNat_ofNat]; exact Nat.mod_eq_of_lt (by omega)
 rw [e0]
 generalize hx:BitVec.ofNat 64 n=x at ex
 unfold Wc
 suffices hs:∃r:Nat,Uh x=some (r:Int)∧1≤r∧r≤32∧2^(r - 1)≤n∧n < 2^r by
  obtain ⟨r,h1,h2⟩:=hs;exact ⟨r,by rw [Qb h1],h2⟩
 unfold Uh;rw [QQ (by rw [decide_eq_true_eq,BitVec.le_def,ex]; show ¬4294967296≤n; omega),Option.bind_some]
 by_cases h16:65536≤n
 ·have e1:(x >>> 16).toNat=n / 2^16:=by rw [BitVec.toNat_ushiftRight,ex,Nat.shiftRight_eq_div_pow]
  rw [QA (by rw [decide_eq_true_eq,BitVec.le_def,ex]; show 65536≤n; omega),Option.bind_some]
  by_cases h8:256≤n / 2^16
  ·have e2:(x >>> 16 >>> 8).toNat=n / 2^24:=by rw [BitVec.toNat_ushiftRight,e1,Nat.shiftRight_eq_div_pow,Nat.div_div_eq_div_mul]
   obtain ⟨r,h1,h2,h3,h4,h5⟩:=QjU (x >>> 16 >>> 8) _ e2 (by omega);have hne:n / 2^24≠0:=by omega
   have hr:=h4 hne;rw [QA (by rw [decide_eq_true_eq,BitVec.le_def,e1]; show 256≤n / 2^16; omega),Option.bind_some,Qb h1];refine ⟨r.toNat+24,?_,by omega,by omega,?_⟩
   ·rw [Jr (n:=0+16) (by omega) (by omega),Jr (n:=0+16+8) (by omega) (by omega),Jr (by omega) (by omega)];refine congrArg some ?_; omega
   ·have:=QgJ (s:=24) hr (h2.resolve_left hne) h3;exact this
  ·obtain ⟨r,h1,h2,h3,h4,h5⟩:=QjU (x >>> 16) _ e1 (by omega);have hne:n / 2^16≠0:=by omega
   have hr:=h4 hne;rw [QQ (by rw [decide_eq_true_eq,BitVec.le_def,e1]; show ¬256≤n / 2^16; omega),Option.bind_some,Qb h1];refine ⟨r.toNat+16,?_,by omega,by omega,?_⟩
   ·rw [Jr (n:=0+16) (by omega) (by omega),Jr (by omega) (by omega)];refine congrArg some ?_; omega
   ·have:=QgJ (s:=16) hr (h2.resolve_left hne) h3;exact this
 ·rw [QQ (by rw [decide_eq_true_eq,BitVec.le_def,ex]; show ¬65536≤n; omega),Option.bind_some]
  by_cases h8:256≤n
  ·have e2:(x >>> 8).toNat=n / 2^8:=by rw [BitVec.toNat_ushiftRight,ex,Nat.shiftRight_eq_div_pow]
   obtain ⟨r,h1,h2,h3,h4,h5⟩:=QjU (x >>> 8) _ e2 (by omega);have hne:n / 2^8≠0:=by omega
   have hr:=h4 hne;rw [QA (by rw [decide_eq_true_eq,BitVec.le_def,ex]; show 256≤n; omega),Option.bind_some,Qb h1];refine ⟨r.toNat+8,?_,by omega,by omega,?_⟩
   ·rw [Jr (n:=0+8) (by omega) (by omega),Jr (by omega) (by omega)];refine congrArg some ?_; omega
   ·have:=QgJ (s:=8) hr (h2.resolve_left hne) h3;exact this
  ·obtain ⟨r,h1,h2,h3,h4,h5⟩:=QjU x _ ex (by omega);have hr:=h4 (by omega);rw [QQ (by rw [decide_eq_true_eq,BitVec.le_def,ex]; show ¬256≤n; omega),Option.bind_some,Qb h1];refine ⟨r.toNat,?_,by omega,by omega,h2.resolve_left (by omega),h3⟩;rw [Jr (by omega) (by omega)];refine congrArg some ?_; omega
theorem Qh4 (a b j:Nat) (h:a+b+1=2^j):(2*a+1)&&& (2*b+1)=1:=by
 apply Nat.eq_of_testBit_eq
 intro i;rw [Nat.testBit_and]
 cases i with
 | zero=>simp [Nat.testBit_zero]
 | succ i=>
  have hb:b=2^j - (a+1):=by omega
  have ha:a < 2^j:=by omega
  have e1:(2*a+1).testBit (i+1)=a.testBit i:=by rw [Nat.testBit_succ]; congr 1; omega
  have e2:(2*b+1).testBit (i+1)=b.testBit i:=by rw [Nat.testBit_succ]; congr 1; omega
  rw [e1,e2,hb,Nat.testBit_two_pow_sub_succ ha];rw [show Nat.testBit 1 (i+1)=false from by rw [Nat.testBit_succ]; simp]
  cases a.testBit i<;>simp
theorem Qk8 (n:Nat) (h:0 < n):∃k m,n=2^k*(2*m+1):=by
 induction n using Nat.strongRecOn with
 | ind n ih=>
  by_cases ho:n % 2=1
  ·exact ⟨0,n / 2,by omega⟩
  ·obtain ⟨k,m,hk⟩:=ih (n / 2) (by omega) (by omega);refine ⟨k+1,m,?_⟩;rw [Nat.pow_succ,Nat.mul_comm (2^k) 2,Nat.mul_assoc,←hk]; omega
theorem QnU (x:BitVec 64) (k m:Nat) (h:x.toNat=2^k*(2*m+1)):x&&& (-x)=BitVec.ofNat 64 (2^k)∧k < 64:=by
 have hx:=x.isLt;have hk:k < 64:=by
  apply Decidable.byContradiction
  intro hc;have h1:2^64≤2^k:=Nat.pow_le_pow_right (by omega) (by omega);have h2:2^k*1≤2^k*(2*m+1):=Nat.mul_le_mul_left _ (by omega)
  omega
 refine ⟨?_,hk⟩
 apply BitVec.eq_of_toNat_eq
 have hp:(2:Nat)^64=2^k*2^(64 - k):=by rw [←Nat.pow_add]; congr 1; omega
 have hp2:(2:Nat)^(64 - k)=2*2^(63 - k):=by rw [show 64 - k=(63 - k)+1 by omega,Nat.pow_succ]; omega
 have hm:2*m+1 < 2^(64 - k):=by
  have:2^k*(2*m+1) < 2^k*2^(64 - k):=by rw [←hp,←h]; exact hx
  exact Nat.lt_of_mul_lt_mul_left this
 have hneg:(-x).toNat=2^k*(2*(2^(63 - k) - 1 - m)+1):=by
  have h0:0 < x.toNat:=by rw [h]; exact Nat.mul_pos (YA k) (by omega)
  rw [BitVec.toNat_neg,Nat.mod_eq_of_lt (by omega),h,hp,←Nat.mul_sub]
  congr 1; omega
 rw [BitVec.toNat_and,h,hneg,BitVec.toNat_ofNat,Nat.mod_eq_of_lt (Nat.pow_lt_pow_right (by omega) hk)];rw [Nat.mul_comm,Nat.mul_comm (2^k),←Nat.shiftLeft_eq,←Nat.shiftLeft_eq,←Nat.shiftLeft_and_distrib,Qh4 m (2^(63 - k) - 1 - m) (63 - k) (by omega),Nat.shiftLeft_eq,Nat.one_mul]
theorem QoW : ∀k:Fin 64,∃h:(((BitVec.ofNat 64 (2^k.val))*(285870213051353865#64)) >>> 58).toNat < 64,(Z6[(((BitVec.ofNat 64 (2^k.val))*(285870213051353865#64)) >>> 58).toNat]'h).toNat=k.val:=by decide
theorem Qpt (a:Nat) (h0:0 < a) (ha:a < 9223372036854775808):∃k:Nat,Xs (BitVec.ofInt 64 (a:Int))=some (k:Int)∧k < 64∧2^k∣a∧¬2^(k+1)∣a:=by
 have e0:BitVec.ofInt 64 (a:Int)=BitVec.ofNat 64 a:=by apply BitVec.eq_of_toNat_eq; simp
 have ex:(BitVec.ofNat 64 a).toNat=a:=by rw [BitVec.toNat_ofNat]; exact Nat.mod_eq_of_lt (by omega)
 rw [e0]
 generalize hx:BitVec.ofNat 64 a=x at ex
 obtain ⟨k,m,hk⟩:=Qk8 a h0;obtain ⟨h1,h2⟩:=QnU x k m (by rw [ex,hk]);refine ⟨k,?_,h2,⟨_,hk⟩,?_⟩
 ·unfold Xs;have:YW x=some (k:Int):=by
   unfold YW;rw [QQ (by rw [decide_eq_true_eq]; intro h; rw [h] at ex; simp at ex; omega),h1];obtain ⟨h3,h4⟩:=QoW ⟨k,h2⟩;rw [Qb (QeH rfl h3)];exact congrArg (fun n:Nat=>some (n:Int)) h4
  rw [Qb this]
 ·rintro ⟨c,hc⟩;rw [hk,Nat.pow_succ,Nat.mul_assoc] at hc;have:=Nat.eq_of_mul_eq_mul_left (YA k) hc
  omega
def p2 (k:Nat):Int:=((2^k:Nat):Int)
theorem Qf0 {k n:Nat} (h:2^k≤n) (hn:n≤2147483647):k < 31:=by
 apply Decidable.byContradiction
 intro hc;have:2^31≤2^k:=Nat.pow_le_pow_right (by omega) (by omega)
 omega
theorem Qjf (a e k:Nat) (hl:a < e) (he:e≤2147483647) (h:QcL a (e - a) k):VZ (a:Int) (e:Int)=some (p2 k):=by
 unfold VZ;obtain ⟨r,h1,h2,h3,h4,h5⟩:=QoJ (e - a) (by omega) (by omega);rw [Jr (n:=(e:Int) - (a:Int)) (by omega) (by omega),show (e:Int) - (a:Int)=((e - a:Nat):Int) by omega,Qb h1,Jr (n:=(r:Int) - 1) (by omega) (by omega),show (r:Int) - 1=((r - 1:Nat):Int) by omega,QA (by omega)];have hs:∀j:Nat,j≤62→KD (1:Int) (j:Int)=p2 j:=fun j hj=>by
  have:2^j≤2^62:=Nat.pow_le_pow_right (by omega) hj;have:=Qps 1 j (by omega) (by rw [Nat.one_mul]; omega);rw [Nat.one_mul] at this;exact this
 have hr31:r - 1 < 31:=Qf0 h4 (by omega)
 by_cases h0:0 < a
 ·rw [QA (by rw [decide_eq_true_eq]; omega)];obtain ⟨z,z1,z2,z3,z4⟩:=Qpt a h0 (by omega);have hz:2^z≤a:=Nat.le_of_dvd h0 z3;have hz31:z < 31:=Qf0 hz (by omega);rw [Qb z1,QA (by omega),hs z (by omega),hs (r - 1) (by omega),Option.bind_some]
  by_cases hc:z < r - 1
  ·have:2^z < 2^(r - 1):=Nat.pow_lt_pow_right (by omega) hc;rw [QA (by unfold p2; omega)];have:QcL a (e - a) z:=⟨by omega,z3,fun hh=>z4 hh.2⟩;rw [QbV this h]
  ·have:2^(r - 1)≤2^z:=Nat.pow_le_pow_right (by omega) (by omega);rw [QQ (by unfold p2; omega)];have:QcL a (e - a) (r - 1):=⟨h4,Nat.dvd_trans (qU (by omega)) z3,fun hh=>by
    have:=hh.1; rw [show r - 1+1=r by omega] at this; omega⟩
   rw [QbV this h]
 ·rw [QQ (by rw [decide_eq_true_eq]; omega),hs (r - 1) (by omega)];have:QcL a (e - a) (r - 1):=⟨h4,by rw [show a=0 by omega]; exact Nat.dvd_zero _,fun hh=>by
    have:=hh.1; rw [show r - 1+1=r by omega] at this; omega⟩
  rw [QbV this h]
theorem Qaf (a m:Nat):(Int.tmod (a:Int) (m:Int)=0)↔m∣a:=by
 rw [show Int.tmod (a:Int) (m:Int)=((a % m:Nat):Int) from rfl];rw [Nat.dvd_iff_mod_eq_zero]; omega
theorem Qpn (a e k:Nat) (hl:a < e) (he:e≤2147483647) (h:QcL a (e - a) k):Vv (a:Int) (e:Int)=some (p2 k):=by
 unfold Vv;have key:∀(n j:Nat),j+n=k→2^j≤e - a→∀fuel,n < fuel→Jd (fun (s:Int)=>YJ (e:Int) (a:Int) s) fuel (p2 j)=some (p2 k):=by
  intro n
  induction n with
  | zero=>
   intro j hj hle fuel hf;obtain ⟨fuel,rfl⟩:∃m,fuel=m+1:=⟨fuel - 1,by omega⟩;have hjk:j=k:=by omega
   subst hjk
   apply XQ
   simp only [YJ]
   have hps:=V6 j;have hp:=YA j;have e1:w64 ((2:Int)*p2 j)=((2^(j+1):Nat):Int):=by unfold p2; rw [Jr (by omega) (by omega)]; omega
   have e2:w64 ((e:Int) - (a:Int))=((e - a:Nat):Int):=by rw [Jr (by omega) (by omega)]; omega
   rw [e1,e2]
   by_cases hc:2^(j+1)≤e - a
   ·rw [QA (by rw [decide_eq_true_eq]; omega),QA (by omega),Option.bind_some,QQ (by rw [decide_eq_true_eq,Qaf]; intro hd; exact h.2.2 ⟨hc,hd⟩)]
   ·rw [QQ (by rw [decide_eq_true_eq]; omega),Option.bind_some,QQ (by decide)]
  | succ n ih=>
   intro j hj hle fuel hf;obtain ⟨fuel,rfl⟩:∃m,fuel=m+1:=⟨fuel - 1,by omega⟩;have hps:=V6 j;have hp:=YA j;have hjk:2^(j+1)≤2^k:=Nat.pow_le_pow_right (by omega) (by omega);have hd:2^(j+1)∣a:=Nat.dvd_trans (qU (by omega)) h.2.1;have hk1:=h.1;have e1:w64 ((2:Int)*p2 j)=((2^(j+1):Nat):Int):=by unfold p2; rw [Jr (by omega) (by omega)]; omega
   have e2:w64 ((e:Int) - (a:Int))=((e - a:Nat):Int):=by rw [Jr (by omega) (by omega)]; omega
   rw [YH (s':=p2 (j+1))]
   ·exact ih (j+1) (by omega) (by omega) fuel (by omega)
   ·simp only [YJ]
    rw [e1,e2,QA (by rw [decide_eq_true_eq]; omega),QA (by omega),Option.bind_some,QA (by rw [decide_eq_true_eq,Qaf]; exact hd)]
    rfl
 have hk31:k < 31:=Qf0 h.1 (by omega);have h1:=key k 0 (by omega) (by rw [Nat.pow_zero]; omega) FU (J6 (by omega));have h1':Jd (fun (s:Int)=>YJ (e:Int) (a:Int) s) FU (1:Int)=some (p2 k):=h1;rw [Qb h1']
end Pu
end Go.Sl
set_option maxRecDepth 20000
namespace Go.Sl.Pu
open Go.Sl Go.Sl.M Go.Sl.Fr
noncomputable def B3 (a e:Nat):List Nat:=if h:a≤e then Classical.choose (Qfd (e - a) a e h (Nat.le_refl _)) else []
theorem Bb {a e:Nat} (h:a≤e):Seg a e (B3 a e):=by
 unfold B3; rw [dif_pos h]; exact Classical.choose_spec (Qfd (e - a) a e h (Nat.le_refl _))
theorem Qd2 {a e:Nat}{ks:List Nat} (h:a≤e) (hk:Seg a e ks):B3 a e=ks:=Qh0 _ _ _ _ (Bb h) hk
theorem Ql8 (a e:Int):UV a e=some (decide (0≤a∧a≤e∧e≤2147483647)):=by
 unfold UV
 by_cases h1:0≤a<;>by_cases h2:a≤e<;>by_cases h3:e≤2147483647<;>simp [h1,h2,h3]
theorem QjX (a e:Int):VW a e=some (decide (0≤a∧a≤e∧e≤2147483647)):=by
 unfold VW
 by_cases h1:0≤a<;>by_cases h2:a≤e<;>by_cases h3:e≤2147483647<;>simp [h1,h2,h3]
theorem Bq {n:Nat} (h:n≤4294967296):n≤AP:=h
theorem Qo1 (k:Nat):0 < p2 k:=by have:=YA k; unfold p2; omega
theorem Qj8 {f:Int×List Int→Option (LR (Int×List Int) Empty)}{g:Int→Int→Option Int}{e:Nat} (hg:∀a k:Nat,a < e→QcL a (e - a) k→g (a:Int) (e:Int)=some (p2 k)) (he:e≤2147483647)
  (hf:∀y1 y2,f (y1,y2)=if (decide (y1 < (e:Int)))=true then (Option.bind (g y1 (e:Int)) fun r2=>if y2.length+([r2]).length≤AP then (some (.next (w64 (y1+r2),(y2++([r2]))))) else none) else some (.brk (y1,y2))) :
  ∀(ks:List Nat) (a:Nat) (acc:List Int) (fuel:Nat),Seg a e ks→acc.length≤a→ks.length < fuel→Jd f fuel ((a:Int),acc)=some ((e:Int),acc++ks.map p2):=by
 intro ks
 induction ks with
 | nil=>
  intro a acc fuel h ha hfu;obtain ⟨fuel,rfl⟩:∃m,fuel=m+1:=⟨fuel - 1,by omega⟩;have h:a=e:=h;subst h;rw [XQ (by rw [hf,QQ (by simp)])]; simp
 | cons k ks ih=>
  intro a acc fuel h ha hfu;obtain ⟨fuel,rfl⟩:∃m,fuel=m+1:=⟨fuel - 1,by omega⟩
  simp only [List.length_cons] at hfu
  have hk:=h.2.1.1;have hlt:=h.1;have hp:=YA k;rw [YH (s':=(((a+2^k:Nat):Int),acc++ [p2 k])) (by
   rw [hf,QA (by rw [decide_eq_true_eq]; omega),Qb (hg a k hlt h.2.1),QA (Bq (by simp; omega))];refine congrArg some (congrArg LR.next (Prod.ext ?_ rfl));show w64 ((a:Int)+p2 k)=_;unfold p2;rw [Jr (by omega) (by omega)]; omega),ih (a+2^k) (acc++ [p2 k]) fuel h.2.2 (by simp; omega) (by omega)]
  simp
theorem Qes (a e:Nat) (h:a≤e) (he:e≤2147483647):Yz (a:Int) (e:Int)=some ((B3 a e).map p2):=by
 unfold Yz;rw [Qb (Ql8 _ _),QQ (by simp; omega)];have hs:=Bb h;have h1:=Qj8 (f:=fun (s:Int×(List Int))=>Kw (e:Int) s.1 s.2) (g:=VZ) (fun a k hl hk=>Qjf a e k hl he hk) he (fun y1 y2=>rfl) (B3 a e) a [] FU hs (by simp) (J6 (by have:=Qhm _ _ _ hs; omega));rw [Qb h1]; simp
theorem BZ (a e:Nat) (h:a≤e) (he:e≤2147483647):ZP (a:Int) (e:Int)=some ((B3 a e).map p2):=by
 unfold ZP;rw [Qb (QjX _ _),QQ (by simp; omega)];have hs:=Bb h;have h1:=Qj8 (f:=fun (s:Int×(List Int))=>X9 (e:Int) s.1 s.2) (g:=Vv) (fun a k hl hk=>Qpn a e k hl he hk) he (fun y1 y2=>rfl) (B3 a e) a [] FU hs (by simp) (J6 (by have:=Qhm _ _ _ hs; omega));rw [Qb h1]; simp
theorem QnE (n:Nat) (h:n≤4294967296):Zr (n:Int)=some []:=by
 unfold Zr;rw [QQ (by rw [decide_eq_true_eq]; omega),show w64 ((0:Int) - 0)=0 from rfl,Jr (n:=(n:Int) - 0) (by omega) (by omega),Option.bind_some]
 by_cases h0:0 < n
 ·rw [QA (by rw [decide_eq_true_eq]; omega),QA ⟨by omega,by omega⟩,QA ⟨by omega,by omega⟩]; simp
 ·rw [QQ (by rw [decide_eq_true_eq]; omega)]
theorem QlA (L:List (List (BitVec 8))) (h:L.flatten.length≤4000000000) (hL:L.length≤1000):Zp L=some L.flatten:=by
 unfold Zp;have hpre:∀i,i≤L.length→(L.take i).flatten.length≤4000000000:=fun i hi=>by
  have:L.flatten.length=(L.take i).flatten.length+(L.drop i).flatten.length:=by
   rw [←List.length_append,←List.flatten_append,List.take_append_drop]
  omega
 have hsucc:∀i (hi:i < L.length),(L.take (i+1)).flatten=(L.take i).flatten++L[i]:=fun i hi=>by
  rw [List.take_succ_eq_append_getElem hi,List.flatten_append]; simp
 have h1:=JQ (f:=fun (s:Int×Int)=>JS L s.1 s.2) (fun i (_:Unit)=>((((L.take i).flatten.length:Nat):Int),(i:Int))) (fun _ s=>s) 0 L.length (fun i s _ hi=>by
  simp only [JS]
  have h2:=hpre (i+1) hi;have h3:(L.take (i+1)).flatten.length=(L.take i).flatten.length+L[i].length:=by rw [hsucc i hi,List.length_append]
  rw [QA (by rw [decide_eq_true_eq]; omega),Qb (Jl rfl hi),Jr (n:=(((L.take i).flatten.length:Nat):Int)+(L[i].length:Int)) (by omega) (by omega),QQ (by rw [decide_eq_true_eq]; omega),Jr (n:=(i:Int)+1) (by omega) (by omega),h3]
  rfl) (fun s=>by
  simp only [JS]
  rw [QQ (by rw [decide_eq_true_eq]; omega)]) FU () (by omega) (J6 (by omega))
 have h1':Jd (fun (s:Int×Int)=>JS L s.1 s.2) FU ((0:Int),(0:Int))=some ((((L.take L.length).flatten.length:Nat):Int),(L.length:Int)):=h1;rw [Qb h1',Qb (QnE _ (by have:=hpre L.length (Nat.le_refl _); omega))];have h4:=JQ (f:=fun (s:Int×(List (BitVec 8)))=>JT L s.1 s.2) (fun i (_:Unit)=>((i:Int),(L.take i).flatten)) (fun _ s=>s) 0 L.length (fun i s _ hi=>by
  simp only [JT]
  have h2:=hpre (i+1) hi;have h3:(L.take (i+1)).flatten.length=(L.take i).flatten.length+L[i].length:=by rw [hsucc i hi,List.length_append]
  rw [QA (by rw [decide_eq_true_eq]; omega),Qb (Jl rfl hi),QA (Bq (by omega)),Jr (n:=(i:Int)+1) (by omega) (by omega),hsucc i hi]
  rfl) (fun s=>by
  simp only [JT]
  rw [QQ (by rw [decide_eq_true_eq]; omega)]) FU () (by omega) (J6 (by omega))
 have h4':Jd (fun (s:Int×(List (BitVec 8)))=>JT L s.1 s.2) FU ((0:Int),([]:List (BitVec 8)))=some ((L.length:Int),(L.take L.length).flatten):=h4;rw [Qb h4',List.take_length]
def txt (a b:Qa):List (BitVec 8):=1#8::(a.toList++b.toList)
def nd (a b:Qa):Qa:=sha (txt a b)
theorem Qj6 (a b:Qa):(txt a b).length=65:=by simp [txt]
theorem Qkn (a b:Qa):Us a b=some (nd a b):=by
 unfold Us;rw [Qb (QlA _ (by simp) (by simp))];have : [[1#8],a.toList,b.toList].flatten=txt a b:=by simp [txt]
 rw [this,Qb (Qfb _ (by rw [Qj6]; omega))]; rfl
theorem Qo3 (a b:Qa):Ky a b=some (txt a b):=by
 unfold Ky;rw [QA (Bq (by simp)),QA (Bq (by simp))]
 simp [txt]
theorem QfL (a b:Qa):XH a b=some (nd a b):=by
 unfold XH;rw [Qb (Qo3 a b),Qb (QbZ _ (by rw [Qj6]; omega))]; rfl
def mp (x:P Qa):QP:=((x.1:Int),p2 x.2.1,x.2.2)
def rv (st:List (P Qa)):List QP:=st.reverse.map mp
theorem QdF {j k:Nat}:p2 j=p2 k↔j=k:=by
 constructor
 ·intro h
  rcases Nat.lt_trichotomy j k with hl | hl | hl
  ·have:2^j < 2^k:=Nat.pow_lt_pow_right (by omega) hl;unfold p2 at h; omega
  ·exact hl
  ·have:2^k < 2^j:=Nat.pow_lt_pow_right (by omega) hl;unfold p2 at h; omega
 ·intro h; rw [h]
theorem QdG {a:Nat}{H:Type}:∀(st:List (P H)) (e:Nat),Ct a st e→a+st.length≤e
 | [],e,h=>by have h:a=e:=h; simp; omega
 | x::st,e,h=>by
  have:=QdG st _ h.2.2;have h1:=h.1;have:=YA x.2.1
  simp only [List.length_cons]; omega
theorem Qhp (y:P Qa) (st:List (P Qa)):rv (y::st)=rv st++ [mp y]:=by simp [rv]
theorem Qd6 (st:List (P Qa)):(rv st).length=st.length:=by simp [rv]
theorem QoT {a:Nat} (st:List (P Qa)) (x:P Qa) (hc:Ct a st x.1) (hx:x.1+2^x.2.1≤2147483647):Kc (rv st) (mp x)=some (rv (push nd st x)):=by
 unfold Kc;have key:∀(st:List (P Qa)) (x:P Qa) (fuel:Nat),Ct a st x.1→x.1+2^x.2.1≤2147483647→st.length < fuel→
   ∃x' st',Jd (fun (s:QP×(List QP))=>ZA s.1 s.2) fuel (mp x,rv st)=some (mp x',rv st')∧push nd st x=x'::st'∧st'.length≤st.length:=by
  intro st
  induction st with
  | nil=>
   intro x fuel hc hx hf;obtain ⟨fuel,rfl⟩:∃m,fuel=m+1:=⟨fuel - 1,by omega⟩;exact ⟨x, [],by rw [XQ (s':=(mp x,rv [])) (by simp [ZA,rv])],rfl,Nat.le_refl _⟩
  | cons y st ih=>
   intro x fuel hc hx hf;obtain ⟨fuel,rfl⟩:∃m,fuel=m+1:=⟨fuel - 1,by omega⟩
   simp only [List.length_cons] at hf
   have hlen:=QdG _ _ hc
   simp only [List.length_cons] at hlen
   have hp:=YA x.2.1;have hl1:(rv (y::st)).length=st.length+1:=by rw [Qd6]; rfl
   have e1:w64 (((rv (y::st)).length:Int) - 1)=(st.length:Int):=by rw [hl1,Jr (by omega) (by omega)]; omega
   have hg:JU (rv (y::st)) (w64 (((rv (y::st)).length:Int) - 1))=some (mp y):=by
    rw [Jl e1 (by omega)];refine congrArg some ?_
    simp only [Qhp]
    rw [List.getElem_append_right (by rw [Qd6]; exact Nat.le_refl _)]
    simp [Qd6]
   have hyx:y.1+2^y.2.1=x.1:=hc.1;have hps:=V6 y.2.1;have hpy:=YA y.2.1
   by_cases hm:y.2.1=x.2.1∧2^(y.2.1+1)∣y.1
   ·have hk:2^y.2.1=2^x.2.1:=by rw [hm.1]
    have e2:w64 ((2:Int)*(mp y).2.1)=((2^(y.2.1+1):Nat):Int):=by
     show w64 (2*p2 y.2.1)=_;unfold p2; rw [Jr (by omega) (by omega)]; omega
    have hn:ZA (mp x) (rv (y::st))=some (.next (mp (y.1,y.2.1+1,nd y.2.2 x.2.2),rv st)):=by
     unfold ZA;rw [QA (by rw [decide_eq_true_eq,hl1]; omega),Qb hg,e2];rw [QQ (by simp only [Bool.not_eq_true',decide_eq_false_iff_not,Decidable.not_not]; exact QdF.2 hm.1),QA (by omega),Option.bind_some,
      QQ (by simp only [Bool.not_eq_true',decide_eq_false_iff_not,Decidable.not_not]; exact (Qaf y.1 _).2 hm.2),Qb (Qkn _ _),Option.bind_some,e1,QA ⟨by omega,by rw [hl1]; omega⟩]
     refine congrArg some (congrArg LR.next (Prod.ext ?_ ?_))
     ·rfl
     ·show List.take (st.length:Int).toNat (rv (y::st))=rv st;rw [Qhp,Int.toNat_natCast,List.take_left' (by rw [Qd6])]
    have hpu:push nd (y::st) x=push nd st (y.1,y.2.1+1,nd y.2.2 x.2.2):=by
     conv=>lhs; unfold push
     rw [if_pos hm]
    obtain ⟨x',st',h1,h2,h3⟩:=ih (y.1,y.2.1+1,nd y.2.2 x.2.2) fuel hc.2.2 (by show y.1+2^(y.2.1+1)≤_; omega) (by omega);exact ⟨x',st',by rw [YH hn]; exact h1,by rw [hpu]; exact h2,by simp only [List.length_cons]; omega⟩
   ·have hn:ZA (mp x) (rv (y::st))=some (.brk (mp x,rv (y::st))):=by
     unfold ZA;rw [QA (by rw [decide_eq_true_eq,hl1]; omega),Qb hg];have e2:w64 ((2:Int)*(mp y).2.1)=((2^(y.2.1+1):Nat):Int):=by
      show w64 (2*p2 y.2.1)=_;unfold p2; rw [Jr (by omega) (by omega)]; omega
     rw [e2]
     by_cases hk:y.2.1=x.2.1
     ·rw [QQ (by simp only [Bool.not_eq_true',decide_eq_false_iff_not,Decidable.not_not]; exact QdF.2 hk),QA (by omega),Option.bind_some,QA (by
       simp only [Bool.not_eq_true',decide_eq_false_iff_not]; exact fun h=>hm ⟨hk,(Qaf y.1 _).1 h⟩)]
     ·rw [QA (by simp only [Bool.not_eq_true',decide_eq_false_iff_not]; exact fun h=>hk (QdF.1 h)),Option.bind_some,QA rfl]
    refine ⟨x,y::st,by rw [XQ hn],?_,Nat.le_refl _⟩
    conv=>lhs; unfold push
    rw [if_neg hm]
 have hlen:=QdG _ _ hc;have hpx:=YA x.2.1;obtain ⟨x',st',h1,h2,h3⟩:=key st x FU hc hx (J6 (by omega));rw [Qb h1,QA (Bq (by simp [Qd6]; omega)),h2,Qhp]
theorem Qk4 (l:List QP) (hl:l.length≤4000000000):Y7 l=some (l.map (·.2.2)):=by
 unfold Y7;have h1:=Qg3 (f:=fun (s:Int×(List Qa))=>Yj l s.1 s.2) l (·.2.2) (by omega) (fun i hi acc ha=>by
  simp only [Yj]
  rw [QA (by rw [decide_eq_true_eq]; omega),Qb (Jl rfl hi),QA (Bq (by simp; omega)),Jr (n:=(i:Int)+1) (by omega) (by omega)]) (fun acc=>by
  simp only [Yj]
  rw [QQ (by rw [decide_eq_true_eq]; omega)])
 rw [Qb h1]
def hof (st:List (P Qa)):List Qa:=st.reverse.map (·.2.2)
theorem QlB (st:List (P Qa)) (h:st.length≤4000000000):Y7 (rv st)=some (hof st):=by
 rw [Qk4 _ (by rw [Qd6]; exact h)]
 simp [rv,hof,mp,Function.comp_def]
def QcA {H:Type}:Nat→List H→List (P H)
 | _, []=> []
 | a,h::l=>(a,0,h)::QcA (a+1) l
theorem QdT {H:Type}:∀(l:List H) (a:Nat),Fw a (QcA a l) (a+l.length)
 | [],a=>rfl
 | h::l,a=>⟨rfl,by simp,by
   have:=QdT l (a+1);show Fw (a+2^0) (QcA (a+1) l) _;rw [List.length_cons,show a+(l.length+1)=a+1+l.length by omega]; exact this⟩
end Go.Sl.Pu
set_option maxRecDepth 20000
namespace Go.Sl.Fr
variable {H : Type}
def vl (V:Nat→Nat→H):Nat→List Nat→List H
 | _, []=> []
 | a,k::ks=>V a k::vl V (a+2^k) ks
theorem Qod {V:Nat→Nat→H}:∀(L:List (P H)) (a e:Nat),Fw a L e→Hs V L→L.map (fun x=>x.2.2)=vl V a (L.map (fun x=>x.2.1))
 | [],a,e,h,hs=>rfl
 | x::L,a,e,h,hs=>by
  have h1:=Qod L _ e h.2.2 (fun z hz=>hs z (List.mem_cons_of_mem _ hz));have h2:=hs x (List.mem_cons_self ..);have h3:=h.1;show x.2.2::_=V a x.2.1::_;rw [h1,h2,h3]
theorem QoA {V:Nat→Nat→H}{st:List (P H)} (h:Hs V st):Hs V st.reverse:=fun x hx=>h x (List.mem_reverse.1 hx)
def QcS (n:H→H→H) (z:H):List H→H
 | []=>z
 | [x]=>x
 | x::y::l=>n x (QcS n z (y::l))
end Go.Sl.Fr
namespace Go.Sl.Pu
open Go.Sl Go.Sl.M Go.Sl.Fr
attribute [local irreducible] sha nd
def QfG (n:Nat):Nat:=2^Nat.log2 (n - 1)
theorem Qkp {n:Nat} (h:2≤n):QfG n < n:=by
 have:=Nat.log2_self_le (n:=n - 1) (by omega);unfold QfG; omega
theorem Qmp (n:Nat):0 < QfG n:=YA _
theorem QnF {n k:Nat} (h1:2^k < n) (h2:n≤2^(k+1)):QfG n=2^k:=by
 unfold QfG;have hp:=YA k;have:Nat.log2 (n - 1)=k:=(Nat.log2_eq_iff (by omega)).2 ⟨by omega,by omega⟩;rw [this]
theorem QgD {n:Nat} (h:2≤n):∃k,QfG n=2^k∧2^k < n∧n≤2^(k+1):=by
 refine ⟨Nat.log2 (n - 1),rfl,Qkp h,?_⟩;have:=Nat.lt_log2_self (n:=n - 1)
 omega
def mth (l:List Qa):Qa:=
 if h:2≤l.length then nd (mth (l.take (QfG l.length))) (mth (l.drop (QfG l.length)))
 else match l with
  | []=>sha []
  | x::_=>x
termination_by l.length
decreasing_by
 ·have:=Qkp h; simp; omega
 ·have:=Qmp l.length; simp; omega
theorem Qn5 : mth []=sha []:=by rw [mth]; simp
theorem Qj3 (x:Qa):mth [x]=x:=by rw [mth]; simp
theorem QkA {l:List Qa}{k:Nat} (h1:2^k < l.length) (h2:l.length≤2^(k+1)):mth l=nd (mth (l.take (2^k))) (mth (l.drop (2^k))):=by
 have hp:=YA k
 conv=>lhs; rw [mth]
 rw [dif_pos (by omega),QnF h1 h2]
theorem QmD {f:Int→Option (LR Int Empty)} (n:Nat) (hn:n≤4000000000) (h2:2≤n) (hf:∀y1,f y1=if (decide (y1 < (w64 ((n:Int) - y1))))=true then some (.next (w64 ((2:Int)*y1))) else some (.brk y1)) :
  Jd f FU (1:Int)=some ((QfG n:Nat):Int):=by
 obtain ⟨k,hk,hlt,hle⟩:=QgD h2;have key:∀(d j:Nat),j+d=k→∀fuel,d < fuel→Jd f fuel (p2 j)=some (p2 k):=by
  intro d
  induction d with
  | zero=>
   intro j hj fuel hfu;obtain ⟨fuel,rfl⟩:∃m,fuel=m+1:=⟨fuel - 1,by omega⟩;have:j=k:=by omega
   subst this;have hps:=V6 j;have hpj:=YA j
   apply XQ
   rw [hf,QQ];rw [decide_eq_true_eq]; unfold p2; rw [Jr (by omega) (by omega)]; omega
  | succ d ih=>
   intro j hj fuel hfu;obtain ⟨fuel,rfl⟩:∃m,fuel=m+1:=⟨fuel - 1,by omega⟩;have hps:=V6 j;have hpj:=YA j;have hjk:2^(j+1)≤2^k:=Nat.pow_le_pow_right (by omega) (by omega);rw [YH (s':=p2 (j+1)) (by
    rw [hf,QA (by rw [decide_eq_true_eq]; unfold p2; rw [Jr (by omega) (by omega)]; omega)];refine congrArg some (congrArg LR.next ?_);unfold p2; rw [Jr (by omega) (by omega)]; omega)]
   exact ih (j+1) (by omega) fuel (by omega)
 have hk64:k < 2^k:=Nat.lt_pow_self (by omega);have:=key k 0 (by omega) FU (J6 (by omega));rw [hk]; exact this
theorem Qlz : ∀(n:Nat) (l:List Qa),l.length < n→l.length≤4000000000→VH n l=some (mth l):=by
 intro n
 induction n with
 | zero=>intro l h; omega
 | succ n ih=>
  intro l h hl;show VN (VH n) l=_;unfold VN
  match l,h,hl with
  | [],h,hl=>rw [QA (by rfl),Qb (QbZ [] (by simp)),Qn5]
  | [x],h,hl=>rw [QQ (by simp),QA (by rfl),Qb (Jl (i:=(0:Int)) (k:=0) rfl (by simp)),Qj3]; rfl
  | x::y::l,h,hl=>
   generalize hL:x::y::l=L at h hl
   have h2:2≤L.length:=by rw [←hL]; simp
   have h1:=QmD (f:=fun (s:Int)=>KA L s) L.length hl h2 (fun y1=>rfl);obtain ⟨k,hk,hlt,hle⟩:=QgD h2;have hp:=YA k;rw [QQ (by rw [decide_eq_true_eq]; omega),QQ (by rw [decide_eq_true_eq]; omega),Qb h1,hk,
    Qb (J5 (lo:=(0:Int)) (a:=0) (b:=2^k) rfl rfl (by omega) (by omega)),List.drop_zero,Qb (ih _ (by simp; omega) (by simp; omega)),
    Qb (J5 (a:=2^k) (b:=L.length) rfl rfl (by omega) (by omega)),List.take_length,Qb (ih _ (by simp; omega) (by simp; omega)),
    Qb (QfL _ _),QkA hlt hle]
theorem Qma (l:List Qa) (hl:l.length≤4000000000):WQ l=some (mth l):=Qlz FU l (J6 (by omega)) hl
def vt (a:Nat) (l:List Qa) (p k:Nat):Qa:=mth ((l.drop (p - a)).take (2^k))
theorem Qn9 {a:Nat}{l:List Qa}{p k:Nat} (h1:a≤p) (h2:p+2^(k+1)≤a+l.length):vt a l p (k+1)=nd (vt a l p k) (vt a l (p+2^k) k):=by
 unfold vt;have hps:=V6 k;have hp:=YA k;have hl:((l.drop (p - a)).take (2^(k+1))).length=2^(k+1):=by rw [List.length_take,List.length_drop]; omega
 rw [QkA (k:=k) (by rw [hl]; omega) (by rw [hl]; exact Nat.le_refl _),List.take_take,Nat.min_eq_left (by omega),List.drop_take,List.drop_drop,show 2^(k+1) - 2^k=2^k by omega,show p - a+2^k=p+2^k - a by omega]
theorem QnI {a:Nat}{l:List Qa}{i:Nat} (hi:i < l.length):vt a l (a+i) 0=l[i]:=by
 unfold vt;rw [Nat.add_sub_cancel_left,List.drop_eq_getElem_cons hi];exact Qj3 _
theorem Qln (a:Nat) (l:List Qa):Hs (vt a l) (QcA a l):=by
 have:∀(m:List Qa) (i:Nat),l.drop i=m→Hs (vt a l) (QcA (a+i) m):=by
  intro m
  induction m with
  | nil=>intro i h x hx; cases hx
  | cons y m ih=>
   intro i h x hx;have hi:i < l.length:=by
    apply Decidable.byContradiction
    intro hc;rw [List.drop_eq_nil_of_le (by omega)] at h; cases h
   rw [List.drop_eq_getElem_cons hi] at h
   injection h with h1 h2
   rcases List.mem_cons.1 hx with rfl | hx
   ·rw [←h1]; exact (QnI hi).symm
   ·exact ih (i+1) h2 x hx
 exact this l 0 rfl
def cst (a:Nat) (l:List Qa):List (P Qa):=Bf nd [] (QcA a l)
theorem QmR (a:Nat) (l:List Qa):Ct a (cst a l) (a+l.length):=QaP nd _ [] a _ rfl (QdT l a)
theorem Qox (a:Nat) (l:List Qa):Nf (cst a l):=Qhj nd _ [] trivial
theorem QoD (a:Nat) (l:List Qa):Hs (vt a l) (cst a l):=
 QjT (nd:=nd) (V:=vt a l) (a:=a) (E:=a+l.length) (fun p k h1 h2 _=>Qn9 h1 h2) (QcA a l) [] a _ rfl (QdT l a) (Nat.le_refl _) (fun _ h=>by cases h) (Qln a l)
def hsh (a:Nat) (l:List Qa):List Qa:=hof (cst a l)
theorem QmQ (a:Nat) (l:List Qa):Fw a (cst a l).reverse (a+l.length)∧NfF (cst a l).reverse∧Hs (vt a l) (cst a l).reverse:=⟨QlR _ _ _ (QmR a l),QiZ _ (Qox a l),QoA (QoD a l)⟩
theorem Qhv (a:Nat) (l:List Qa):(cst a l).reverse.map (fun x=>x.2.1)=B3 a (a+l.length):=(Qd2 (by omega) (QdL _ _ _ (QmQ a l).1 (QmQ a l).2.1)).symm
theorem QoN (a:Nat) (l:List Qa):hsh a l=vl (vt a l) a (B3 a (a+l.length)):=by
 rw [←Qhv]; exact Qod _ _ _ (QmQ a l).1 (QmQ a l).2.2
theorem QnA (a:Nat) (l:List Qa):lay a (B3 a (a+l.length)) (hsh a l)=(cst a l).reverse:=by
 rw [←Qhv]; exact Qja _ _ _ (QmQ a l).1
theorem QmH (a:Nat) (l:List Qa):(hsh a l).length≤l.length:=by
 have:=QdG _ _ (QmR a l);have:(hsh a l).length=(cst a l).length:=by simp [hsh,hof]
 omega
noncomputable def XS (r:QE):Bool:=decide (0≤r.1∧r.1≤r.2.1∧r.2.1≤2147483647∧(B3 r.1.toNat r.2.1.toNat).length=r.2.2.length)
theorem QaD {r:QE}:XS r=true↔∃a e:Nat,r.1=(a:Int)∧r.2.1=(e:Int)∧a≤e∧e≤2147483647∧(B3 a e).length=r.2.2.length:=by
 unfold XS;rw [decide_eq_true_eq]
 constructor
 ·rintro ⟨h1,h2,h3,h4⟩;exact ⟨r.1.toNat,r.2.1.toNat,by omega,by omega,by omega,by omega,h4⟩
 ·rintro ⟨a,e,h1,h2,h3,h4,h5⟩;rw [h1,h2];exact ⟨by omega,by omega,by omega,by simpa using h5⟩
theorem QdR (r:QE):Vw r=some (XS r):=by
 unfold Vw;rw [Qb (Ql8 _ _)]
 by_cases h:0≤r.1∧r.1≤r.2.1∧r.2.1≤2147483647
 ·have h1:=Qes r.1.toNat r.2.1.toNat (by omega) (by omega);rw [show ((r.1.toNat:Nat):Int)=r.1 by omega,show ((r.2.1.toNat:Nat):Int)=r.2.1 by omega] at h1;rw [QA (decide_eq_true h),Qb h1,Option.bind_some];refine congrArg some ?_;unfold XS;rw [List.length_map]
  by_cases hs:(B3 r.1.toNat r.2.1.toNat).length=r.2.2.length
  ·rw [decide_eq_true (by omega),decide_eq_true ⟨h.1,h.2.1,h.2.2,hs⟩]
  ·rw [decide_eq_false (by omega),decide_eq_false (fun hh=>hs hh.2.2.2)]
 ·rw [decide_eq_false h,QQ (by decide),Option.bind_some];unfold XS;rw [decide_eq_false (fun hh=>h ⟨hh.1,hh.2.1,hh.2.2.1⟩)]
theorem QcG (r:QE):YZ r=some (XS r):=by
 unfold YZ;rw [Qb (QjX _ _)]
 by_cases h:0≤r.1∧r.1≤r.2.1∧r.2.1≤2147483647
 ·have h1:=BZ r.1.toNat r.2.1.toNat (by omega) (by omega);rw [show ((r.1.toNat:Nat):Int)=r.1 by omega,show ((r.2.1.toNat:Nat):Int)=r.2.1 by omega] at h1;rw [QA (decide_eq_true h),Qb h1,Option.bind_some];refine congrArg some ?_;unfold XS;rw [List.length_map]
  by_cases hs:(B3 r.1.toNat r.2.1.toNat).length=r.2.2.length
  ·rw [decide_eq_true (by omega),decide_eq_true ⟨h.1,h.2.1,h.2.2,hs⟩]
  ·rw [decide_eq_false (by omega),decide_eq_false (fun hh=>hs hh.2.2.2)]
 ·rw [decide_eq_false h,QQ (by decide),Option.bind_some];unfold XS;rw [decide_eq_false (fun hh=>h ⟨hh.1,hh.2.1,hh.2.2.1⟩)]
def Qgo : Qa:=Vector.replicate 32 (0#8)
noncomputable def Ud (r:QE):Qa×Int:=
 if XS r=true∧r.1=0 then (if r.2.2 = [] then (sha [],0) else (QcS nd Qgo r.2.2,0)) else (Qgo,1)
theorem Qeo (z:Qa):∀(l:List Qa) (x y:Qa),QcS nd z (l++ [x,y])=QcS nd z (l++ [nd x y])
 | [],x,y=>rfl
 | [w],x,y=>rfl
 | w::v::l,x,y=>by
  show nd w (QcS nd z (v::l++ [x,y]))=nd w (QcS nd z (v::l++ [nd x y]));rw [Qeo z (v::l) x y]
theorem Qku (r:QE) (hr:r.2.2.length≤4000000000):Wd r=some (Ud r):=by
 unfold Wd Ud;rw [Qb (QdR r)]
 by_cases hf:XS r=true
 ·rw [hf,QQ (by decide),Option.bind_some]
  by_cases h0:r.1=0
  ·rw [QQ (by simp [h0]),if_pos (show true=true∧r.1=0 from ⟨rfl,h0⟩)]
   by_cases hn:r.2.2 = []
   ·rw [QA (by simp [hn]),Qb (Qfb [] (by simp)),if_pos hn]
   ·have hlen:0 < r.2.2.length:=List.length_pos_iff.2 hn;rw [QQ (by rw [decide_eq_true_eq]; omega),if_neg hn];have key:∀(i fuel:Nat) (y:Qa),i≤r.2.2.length→i < fuel→Jd (fun (s:Int×Qa)=>VV r s.1 s.2) fuel ((i:Int) - 1,y)=some (-1,QcS nd Qgo (r.2.2.take i++ [y])):=by
     intro i
     induction i with
     | zero=>
      intro fuel y hi hfu;obtain ⟨fuel,rfl⟩:∃m,fuel=m+1:=⟨fuel - 1,by omega⟩;exact XQ (s':=((-1:Int),y)) (by simp [VV])
     | succ i ih=>
      intro fuel y hi hfu;obtain ⟨fuel,rfl⟩:∃m,fuel=m+1:=⟨fuel - 1,by omega⟩;rw [YH (s':=((i:Int) - 1,nd r.2.2[i] y)) (by
       simp only [VV]
       rw [QA (by rw [decide_eq_true_eq]; omega),Qb (Jl (k:=i) (by omega) (by omega)),Qb (Qkn _ _),Jr (by omega) (by omega)];refine congrArg some (congrArg LR.next (Prod.ext ?_ rfl));show ((i+1:Nat):Int) - 1 - 1=_
       omega),ih fuel _ (by omega) (by omega),List.take_succ_eq_append_getElem (by omega),List.append_assoc]
      exact congrArg some (congrArg (fun v=>((-1:Int),v)) (Qeo Qgo (r.2.2.take i) r.2.2[i] y).symm)
    have h1:=key (r.2.2.length - 1) FU (r.2.2[r.2.2.length - 1]) (by omega) (J6 (by omega));rw [Qb (Jl (k:=r.2.2.length - 1) (by rw [Jr (by omega) (by omega)]; omega) (by omega)),Jr (n:=(r.2.2.length:Int) - 2) (by omega) (by omega),show (r.2.2.length:Int) - 2=((r.2.2.length - 1:Nat):Int) - 1 by omega,Qb h1];refine congrArg some (congrArg (fun v=>(v,(0:Int))) ?_);show QcS nd Qgo (r.2.2.take (r.2.2.length - 1)++ [r.2.2[r.2.2.length - 1]])=_;rw [←List.take_succ_eq_append_getElem (by omega),List.take_of_length_le (by omega)]
  ·rw [QA (by simp [h0]),if_neg (show ¬(true=true∧r.1=0) from fun h=>h0 h.2)]; rfl
 ·rw [Bool.not_eq_true] at hf;rw [hf,QA (by rfl),Option.bind_some,QA rfl,if_neg (show ¬(false=true∧r.1=0) from fun h=>by cases h.1)]; rfl
theorem Qlq : ∀(n:Nat) (l:List Qa),l≠ []→l.length < n→l.length≤4000000000→XP n l=some (QcS nd Qgo l):=by
 intro n
 induction n with
 | zero=>intro l _ h; omega
 | succ n ih=>
  intro l hne h hl;show VG (XP n) l=_;unfold VG
  match l,hne,h,hl with
  | [x],_,h,hl=>rw [QA (by rfl),Qb (Jl (i:=(0:Int)) (k:=0) rfl (by simp))]; rfl
  | x::y::l,_,h,hl=>
   simp only [List.length_cons] at h hl
   rw [QQ (by simp; omega),Qb (Jl (i:=(0:Int)) (k:=0) rfl (by simp)),Qb (J5 (lo:=(1:Int)) (a:=1) (b:=(x::y::l).length) rfl rfl (by simp) (by simp)),List.take_length];show Option.bind (XP n (y::l)) _=_;rw [Qb (ih (y::l) (by simp) (by simp; omega) (by simp; omega)),Qb (QfL _ _)]
   rfl
theorem QhP (r:QE) (hr:r.2.2.length≤4000000000):Vp r=some (Ud r):=by
 unfold Vp Ud;rw [Qb (QcG r)]
 by_cases hf:XS r=true
 ·rw [hf,QQ (by decide),Option.bind_some]
  by_cases h0:r.1=0
  ·rw [QQ (by simp [h0]),if_pos (show true=true∧r.1=0 from ⟨rfl,h0⟩)]
   by_cases hn:r.2.2 = []
   ·rw [QA (by simp [hn]),Qb (QbZ [] (by simp)),if_pos hn]
   ·have hlen:0 < r.2.2.length:=List.length_pos_iff.2 hn;rw [QQ (by rw [decide_eq_true_eq]; omega),if_neg hn];rw [Qb (show WL r.2.2=_ from Qlq FU _ hn (J6 (by omega)) hr)]
  ·rw [QA (by simp [h0]),if_neg (show ¬(true=true∧r.1=0) from fun h=>h0 h.2)]; rfl
 ·rw [Bool.not_eq_true] at hf;rw [hf,QA (by rfl),Option.bind_some,QA rfl,if_neg (show ¬(false=true∧r.1=0) from fun h=>by cases h.1)]; rfl
end Go.Sl.Pu
set_option maxRecDepth 20000
namespace Go.Sl.Fr
variable {H : Type}
def fm : List (P H)→Option Nat
 | x::y::L=>if x.2.1=y.2.1∧2^(x.2.1+1)∣x.1 then some 0 else (fm (y::L)).map (· + 1)
 | _=>none
theorem Qkh : ∀(L:List (P H)),fm L=none→NfF L
 | [],_=>trivial
 | [_],_=>trivial
 | x::y::L,h=>by
  unfold fm at h
  split at h
  ·cases h
  ·rename_i hc
   exact ⟨hc,Qkh (y::L) (by simpa using h)⟩
theorem Qkt : ∀(L:List (P H)) (i:Nat),fm L=some i→∃A y x B,L=A++y::x::B∧A.length=i∧y.2.1=x.2.1∧2^(y.2.1+1)∣y.1
 | [],i,h=>by cases h
 | [_],i,h=>by cases h
 | x::y::L,i,h=>by
  unfold fm at h
  split at h
  ·rename_i hc
   cases h
   exact ⟨[],x,y,L,rfl,rfl,hc.1,hc.2⟩
  ·cases hf:fm (y::L) with
   | none=>rw [hf] at h; cases h
   | some j=>
    rw [hf] at h;obtain ⟨A,z,w,B,h1,h2,h3⟩:=Qkt (y::L) j hf
    cases h
    exact ⟨x::A,z,w,B,by rw [h1]; rfl,by simp [h2],h3⟩
theorem QlJ {a e:Nat}{A B:List (P H)}{y x:P H}{h:H} (hf:Fw a (A++y::x::B) e) (hk:y.2.1=x.2.1) (hd:2^(y.2.1+1)∣y.1):Fw a (A++(y.1,y.2.1+1,h)::B) e:=by
 obtain ⟨c,h1,h2⟩:=QfW _ _ _ _ hf;refine Qef _ _ _ _ _ h1 ⟨h2.1,hd,?_⟩;show Fw (y.1+2^(y.2.1+1)) B e;have h3:=h2.2.2.2.2;have h4:=h2.2.2.1;rw [h4,←hk,Nat.add_assoc,←V6] at h3;exact h3
def Hp (Q:Nat→Nat→H→Prop) (L:List (P H)):Prop:=∀x∈L,Q x.1 x.2.1 x.2.2
end Go.Sl.Fr
