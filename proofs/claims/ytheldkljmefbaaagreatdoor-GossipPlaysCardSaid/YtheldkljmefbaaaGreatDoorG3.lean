import Derived.Test.YtheldkljmefbaaaGreatDoorG2
import Derived.WalkKit
import Derived.RangeFuncKeeps
import Derived.OrdersIn
import Derived.LoopNIn
import Derived.DefersIn
import Derived.Test.YtheldkljmefbaaaGreatDoorG1
set_option linter.unusedSimpArgs false
set_option linter.unusedVariables false
set_option maxRecDepth 20000
namespace Go.Sl.Pu
open Go.Sl Go.Sl.M Go.Sl.Fr
attribute [local irreducible] sha nd w64 p2
def sz (L:List (P Qa)):List Int:=L.map fun x=>p2 x.2.1
def hh (L:List (P Qa)):List Qa:=L.map fun x=>x.2.2
theorem QaR (L:List (P Qa)):(sz L).length=L.length:=by simp [sz]
theorem Qfu (L:List (P Qa)):(hh L).length=L.length:=by simp [hh]
theorem QjA {k:Nat} (h:2^k≤2147483647):w64 ((2:Int)*p2 k)=p2 (k+1):=by
 unfold p2;have:=V6 k;have:=YA k;rw [Jr (by omega) (by omega)]; omega
theorem Qko {H:Type} (x y:P H) (L:List (P H)):fm (x::y::L)=if x.2.1=y.2.1∧2^(x.2.1+1)∣x.1 then some 0 else (fm (y::L)).map (· + 1):=rfl
theorem QoF (n:Nat) (h:n≤4000000000):w64 ((n:Int)+1)=((n+1:Nat):Int):=by rw [Jr (by omega) (by omega)]; rfl
theorem QoO (n:Nat) (h:n≤4000000000):w64 ((n:Int)+2)=((n+2:Nat):Int):=by rw [Jr (by omega) (by omega)]; rfl
theorem QpE {H:Type}{L:List (P H)}{a e i:Nat}{x:P H} (h:Fw a L e) (hx:L[i]? = some x):x.1+2^x.2.1≤e:=by
 have hm:=List.mem_of_getElem? hx;clear hx
 induction L generalizing a with
 | nil=>cases hm
 | cons y L ih=>
  have hle:=Qck _ _ _ h.2.2
  rcases List.mem_cons.1 hm with rfl | hm
  ·omega
  ·exact ih h.2.2 hm
theorem Qk2 (S:List Int) (hS:S.length≤2147483647){e:Nat} (he:e≤2147483647):∀(B:List (P Qa)) (A:List (P Qa)) (p i fuel:Nat),Fw p B e→S=sz (A++B)→A.length=i→B.length < fuel→
  ∃o,Yf (fun (s:Int×Int)=>Zc S s.1 s.2) fuel ((p:Int),(i:Int))=some o∧(match fm B with | some j=>o = .inr ((i+j:Nat):Int) | none=>∃s,o = .inl s):=by
 intro B
 induction B with
 | nil=>
  intro A p i fuel hf hS2 hi hfu;obtain ⟨fuel,rfl⟩:∃m,fuel=m+1:=⟨fuel - 1,by omega⟩;have hl:S.length=i:=by rw [hS2,QaR]; simpa using hi
  exact ⟨_,WD (s':=((p:Int),(i:Int))) (by
   simp only [Zc]
   rw [Jr (by omega) (by omega),QQ (by rw [decide_eq_true_eq]; omega)]),_,rfl⟩
 | cons x B ih=>
  intro A p i fuel hf hS2 hi hfu;obtain ⟨fuel,rfl⟩:∃m,fuel=m+1:=⟨fuel - 1,by omega⟩
  simp only [List.length_cons] at hfu
  have hl:S.length=i+1+B.length:=by rw [hS2,QaR]; simp; omega
  cases B with
  | nil=>
   exact ⟨_,WD (s':=((p:Int),(i:Int))) (by
    simp only [Zc]
    simp only [List.length_nil] at hl
    rw [Jr (by omega) (by omega),QQ (by rw [decide_eq_true_eq]; omega)]),_,rfl⟩
  | cons y B=>
   simp only [List.length_cons] at hl
   have hx:x.1=p:=hf.1;have hle:=Qck _ _ _ hf.2.2
   simp only [List.length_cons] at hle
   have e1:S[i]'(by omega)=p2 x.2.1:=by
    have:S[i]? = some (p2 x.2.1):=by
     rw [hS2]; unfold sz;rw [List.getElem?_map,List.getElem?_append_right (by omega),hi,Nat.sub_self]; rfl
    rw [List.getElem?_eq_getElem (by omega)] at this; exact Option.some.inj this
   have e2:S[i+1]'(by omega)=p2 y.2.1:=by
    have:S[i+1]? = some (p2 y.2.1):=by
     rw [hS2]; unfold sz;rw [List.getElem?_map,List.getElem?_append_right (by omega),hi,Nat.add_sub_cancel_left]; rfl
    rw [List.getElem?_eq_getElem (by omega)] at this; exact Option.some.inj this
   have g1:JU S (i:Int)=some (p2 x.2.1):=by rw [Jl rfl (by omega),e1]
   have hw:w64 ((i:Int)+1)=((i+1:Nat):Int):=by rw [Jr (by omega) (by omega)]; omega
   have g2:JU S (w64 ((i:Int)+1))=some (p2 y.2.1):=by rw [hw,Jl rfl (by omega),e2]
   have hk2:2^x.2.1≤2147483647:=by omega
   have hk0:=YA x.2.1;have h20:=Qo1 (x.2.1+1)
   by_cases hm:x.2.1=y.2.1∧2^(x.2.1+1)∣x.1
   ·refine ⟨_,qb (r:=(i:Int)) (by
     simp only [Zc]
     rw [QA (by rw [hw,decide_eq_true_eq]; omega),Qb g1,Qb g2,QA (by rw [decide_eq_true_eq]; exact QdF.2 hm.1),Qb g1,QjA hk2,QA (by omega),Option.bind_some,QA (by
      rw [decide_eq_true_eq]; unfold p2; rw [Qaf,←hx]; exact hm.2)]),?_⟩
    rw [Qko,if_pos hm]; simp
   ·have hn:Zc S (p:Int) (i:Int)=some (.next (((p+2^x.2.1:Nat):Int),((i+1:Nat):Int))):=by
     simp only [Zc]
     rw [QA (by rw [hw,decide_eq_true_eq]; omega),Qb g1,Qb g2];have h2:w64 ((p:Int)+p2 x.2.1)=((p+2^x.2.1:Nat):Int):=by unfold p2; rw [Jr (by omega) (by omega)]; omega
     by_cases hk:x.2.1=y.2.1
     ·rw [QA (by rw [decide_eq_true_eq]; exact QdF.2 hk),Qb g1,QjA hk2,QA (by omega),Option.bind_some,QQ (by
       rw [decide_eq_true_eq]; unfold p2; rw [Qaf,←hx]; exact fun h=>hm ⟨hk,h⟩),Qb g1,h2,hw]
     ·rw [QQ (by rw [decide_eq_true_eq]; exact fun h=>hk (QdF.1 h)),Option.bind_some,QQ (by decide),Qb g1,h2,hw]
    obtain ⟨o,ho,hq⟩:=ih (A++ [x]) (p+2^x.2.1) (i+1) fuel (by rw [←hx]; exact hf.2.2) (by rw [hS2]; simp) (by simp [hi]) (by simpa using hfu);refine ⟨o,(W4 (f:=fun (s:Int×Int)=>Zc S s.1 s.2) (s:=((p:Int),(i:Int))) hn).trans ho,?_⟩;have hfm:fm (x::y::B)=(fm (y::B)).map (· + 1):=by rw [Qko,if_neg hm]
    rw [hfm]
    cases hc:fm (y::B) with
    | none=>rw [hc] at hq; exact hq
    | some j=>
     rw [hc] at hq;show o = .inr ((i+(j+1):Nat):Int);rw [hq,show i+1+j=i+(j+1) by omega]
def fmI {H:Type} (L:List (P H)):Int:=match fm L with | some j=>(j:Int) | none=> -1
theorem QfJ (L:List (P Qa)) (a e:Nat) (h:Fw a L e) (he:e≤2147483647):V7 (a:Int) (sz L)=some (fmI L):=by
 have hl:=Qck _ _ _ h;obtain ⟨o,ho,hq⟩:=Qk2 (sz L) (by rw [QaR]; omega) he L [] a 0 FU h rfl rfl (J6 (by omega));have ho':Yf (fun (s:Int×Int)=>Zc (sz L) s.1 s.2) FU ((a:Int),(0:Int))=some o:=ho;unfold V7 fmI;rw [Qb ho']
 cases hc:fm L with
 | none=>
  rw [hc] at hq;obtain ⟨s,hs⟩:=hq;rw [hs]
 | some j=>
  rw [hc] at hq;rw [hq]; simp
theorem QlT (SA SB:List Int) (HA HB:List Qa) (k1 k2:Int) (h1 h2:Qa) (n:Nat) (a1:SA.length=n) (a2:HA.length=n) (hb:n+SB.length≤4000000000) (hb2:n+HB.length≤4000000000) :
  Vn (SA++k1::k2::SB) (HA++h1::h2::HB) (n:Int)=some (SA++(w64 ((2:Int)*k1))::SB,HA++nd h1 h2::HB):=by
 have w2:w64 ((n:Int)+2)=((n+2:Nat):Int):=QoO _ (by omega);have w1:w64 ((n:Int)+1)=((n+1:Nat):Int):=QoF _ (by omega);have s1:JZ (SA++k1::k2::SB) 0 (n:Int)=some SA:=by
  rw [J5 (lo:=(0:Int)) (a:=0) (b:=n) rfl rfl (Nat.zero_le _) (by rw [List.length_append,a1]; exact Nat.le_add_right _ _),←a1,List.take_left,List.drop_zero]
 have s2:JU (SA++k1::k2::SB) (n:Int)=some k1:=by
  rw [Jl rfl (by rw [List.length_append,a1]; simp)]; simp [a1]
 have s3:JZ (SA++k1::k2::SB) (w64 ((n:Int)+2)) ((SA++k1::k2::SB).length:Int)=some SB:=by
  rw [w2,J5 rfl rfl (by rw [List.length_append,a1]; simp) (Nat.le_refl _),List.take_length,←List.drop_drop,←a1,List.drop_left]; rfl
 have t1:JZ (HA++h1::h2::HB) 0 (n:Int)=some HA:=by
  rw [J5 (lo:=(0:Int)) (a:=0) (b:=n) rfl rfl (Nat.zero_le _) (by rw [List.length_append,a2]; exact Nat.le_add_right _ _),←a2,List.take_left,List.drop_zero]
 have t2:JU (HA++h1::h2::HB) (n:Int)=some h1:=by
  rw [Jl rfl (by rw [List.length_append,a2]; simp)]; simp [a2]
 have t3:JU (HA++h1::h2::HB) (w64 ((n:Int)+1))=some h2:=by
  rw [w1,Jl rfl (by rw [List.length_append,a2]; simp),List.getElem_append_right (by omega)]; simp [a2]
 have t4:JZ (HA++h1::h2::HB) (w64 ((n:Int)+2)) ((HA++h1::h2::HB).length:Int)=some HB:=by
  rw [w2,J5 rfl rfl (by rw [List.length_append,a2]; simp) (Nat.le_refl _),List.take_length,←List.drop_drop,←a2,List.drop_left]; rfl
 clear w1 w2;unfold Vn;rw [Qb s1,QA (Bq (by simp; omega)),Qb s2,QA (Bq (by simp; omega)),Qb s3,QA (Bq (by simp; omega)),Qb t1,QA (Bq (by simp; omega)),Qb t2,Qb t3,Qb (QfL _ _),QA (Bq (by simp; omega)),Qb t4,QA (Bq (by simp; omega))]
 simp
theorem QnZ {A B:List (P Qa)}{y x:P Qa}{a e:Nat} (hf:Fw a (A++y::x::B) e) (he:e≤2147483647) :
  Vn (sz (A++y::x::B)) (hh (A++y::x::B)) (A.length:Int)=some (sz (A++(y.1,y.2.1+1,nd y.2.2 x.2.2)::B),hh (A++(y.1,y.2.1+1,nd y.2.2 x.2.2)::B)):=by
 have hl:=Qck _ _ _ hf
 simp only [List.length_append,List.length_cons] at hl
 have e1:sz (A++y::x::B)=sz A++p2 y.2.1::p2 x.2.1::sz B:=by simp [sz]
 have e2:hh (A++y::x::B)=hh A++y.2.2::x.2.2::hh B:=by simp [hh]
 have e3:sz (A++(y.1,y.2.1+1,nd y.2.2 x.2.2)::B)=sz A++p2 (y.2.1+1)::sz B:=by simp [sz]
 have e4:hh (A++(y.1,y.2.1+1,nd y.2.2 x.2.2)::B)=hh A++nd y.2.2 x.2.2::hh B:=by simp [hh]
 have hk:w64 ((2:Int)*p2 y.2.1)=p2 (y.2.1+1):=by
  have hy:=QpE (i:=A.length) (x:=y) hf (by rw [List.getElem?_append_right (Nat.le_refl _),Nat.sub_self]; rfl);exact QjA (Nat.le_trans (Nat.le_add_left _ _) (Nat.le_trans hy he))
 rw [e1,e2,e3,e4,QlT _ _ _ _ _ _ _ _ A.length (QaR A) (Qfu A) (by rw [QaR]; omega) (by rw [Qfu]; omega),hk]
theorem QjG (pa:Jq){a e:Nat} (he:e≤2147483647) (hpa:pa.1=(a:Int)):∀(n:Nat) (L:List (P Qa)) (i fuel:Nat),L.length≤n→Fw a L e→n+2 < fuel→
  ∃i' s',Jd (fun (s:Int×(List Qa)×(List Int))=>Zs pa s.1 s.2.1 s.2.2) fuel ((i:Int),hh L,sz L)=some (i',hof (Bf nd [] L),s'):=by
 intro n
 induction n with
 | zero=>
  intro L i fuel hl hf hfu;obtain ⟨fuel,rfl⟩:∃m,fuel=m+2:=⟨fuel - 2,by omega⟩;have:L = []:=List.length_eq_zero_iff.1 (by omega);subst this;refine ⟨-1, [],?_⟩;rw [YH (s':=((-1:Int),hh [],sz [])) (by
   simp only [Zs]
   rw [QA (by rw [decide_eq_true_eq]; omega),hpa,Qb (QfJ _ a e hf he),show fmI ([]:List (P Qa)) = -1 from rfl,QQ (by simp)]),XQ (s':=((-1:Int),hh [],sz [])) (by
   simp only [Zs]
   rw [QQ (by simp)])]
  rfl
 | succ n ih=>
  intro L i fuel hl hf hfu;obtain ⟨fuel,rfl⟩:∃m,fuel=m+2:=⟨fuel - 2,by omega⟩
  cases hc:fm L with
  | none=>
   have hfm:fmI L = -1:=by unfold fmI; rw [hc]
   refine ⟨-1,sz L,?_⟩;rw [YH (s':=((-1:Int),hh L,sz L)) (by
    simp only [Zs]
    rw [QA (by rw [decide_eq_true_eq]; omega),hpa,Qb (QfJ _ a e hf he),hfm,QQ (by simp)]),XQ (s':=((-1:Int),hh L,sz L)) (by
    simp only [Zs]
    rw [QQ (by simp)])]
   rw [QcF nd L [] (Qkh L hc) (fun y hy=>by cases hy)]
   simp [hof,hh]
  | some j=>
   obtain ⟨A,y,x,B,hL,hA,hk,hd⟩:=Qkt L j hc;subst hL;have hfm:fmI (A++y::x::B)=(A.length:Int):=by unfold fmI; rw [hc,hA]
   have hf':=QlJ (h:=nd y.2.2 x.2.2) hf hk hd;obtain ⟨i',s',hh'⟩:=ih _ A.length (fuel+1) (by simp at hl ⊢; omega) hf' (by omega);refine ⟨i',s',?_⟩;rw [YH (s':=((A.length:Int),hh (A++(y.1,y.2.1+1,nd y.2.2 x.2.2)::B),sz (A++(y.1,y.2.1+1,nd y.2.2 x.2.2)::B))) (by
    simp only [Zs]
    rw [QA (by rw [decide_eq_true_eq]; omega),hpa,Qb (QfJ _ a e hf he),hfm,QA (by rw [decide_eq_true_eq]; omega),Qb (QnZ hf he)]),hh',Qjk nd (a:=a) A B y x [] rfl hf hk hd]
noncomputable def XY (r:QE):List (P Qa):=lay r.1.toNat (B3 r.1.toNat r.2.1.toNat) r.2.2
noncomputable def Y3 (a b:QE):QE×Int:=
 if XS a=true∧XS b=true∧a.2.1=b.1 then ((a.1,b.2.1,hof (Bf nd [] (XY a++XY b))),0) else ((0,0, []),1)
theorem q6 {r:QE} (h:XS r=true):Fw r.1.toNat (XY r) r.2.1.toNat∧NfF (XY r)∧sz (XY r)=(B3 r.1.toNat r.2.1.toNat).map p2∧hh (XY r)=r.2.2:=by
 obtain ⟨a,e,h1,h2,h3,h4,h5⟩:=QaD.1 h;unfold XY;rw [h1,h2]
 simp only [Int.toNat_natCast]
 refine ⟨QlW _ _ _ _ (Bb h3) h5,QmL _ _ _ _ (Bb h3) h5,?_,Qof _ _ _ h5⟩;have:=congrArg (List.map p2) (Qoi _ _ a h5);rw [List.map_map] at this;exact this
theorem U0 {r:QE} (h:XS r=true):0≤r.1∧r.1≤r.2.1∧r.2.1≤2147483647∧r.2.2.length≤62:=by
 obtain ⟨a,e,h1,h2,h3,h4,h5⟩:=QaD.1 h;have:=Qoo (Bb h3) h4;exact ⟨by omega,by omega,by omega,by omega⟩
theorem Qiy (a b:Jq):Vt a b=some (Y3 a b):=by
 unfold Vt Y3;rw [Qb (QcG a)]
 by_cases ha:XS a=true
 ·rw [ha,QQ (by decide),Qb (QcG b)]
  by_cases hb:XS b=true
  ·rw [hb,Option.bind_some,QQ (by decide),Option.bind_some]
   by_cases hab:a.2.1=b.1
   ·rw [QQ (by simp [hab]),if_pos (show true=true∧true=true∧a.2.1=b.1 from ⟨rfl,rfl,hab⟩)];obtain ⟨a1,a2,a3,a4⟩:=q6 ha;obtain ⟨b1,b2,b3,b4⟩:=q6 hb;obtain ⟨la1,la2,la3,la4⟩:=U0 ha;obtain ⟨lb1,lb2,lb3,lb4⟩:=U0 hb;have sa:=BZ a.1.toNat a.2.1.toNat (by omega) (by omega);have sb:=BZ b.1.toNat b.2.1.toNat (by omega) (by omega);rw [show ((a.1.toNat:Nat):Int)=a.1 by omega,show ((a.2.1.toNat:Nat):Int)=a.2.1 by omega,←a3] at sa;rw [show ((b.1.toNat:Nat):Int)=b.1 by omega,show ((b.2.1.toNat:Nat):Int)=b.2.1 by omega,←b3] at sb;have hsz:(sz (XY a)).length≤62:=by rw [QaR,←Qfu,a4]; exact la4
    have hsz':(sz (XY b)).length≤62:=by rw [QaR,←Qfu,b4]; exact lb4
    have hf:Fw a.1.toNat (XY a++XY b) b.2.1.toNat:=Qef _ _ _ _ _ a1 (by rw [hab]; exact b1);have hl:=Qck _ _ _ hf;obtain ⟨i',s',hloop⟩:=QjG a (a:=a.1.toNat) (e:=b.2.1.toNat) (by omega) (by omega) _ (XY a++XY b) 0 FU (Nat.le_refl _) hf (J6 (by omega));have e1:hh (XY a++XY b)=([]++a.2.2)++b.2.2:=by rw [←a4,←b4]; simp [hh]
    have e2:sz (XY a++XY b)=([]++sz (XY a))++sz (XY b):=by simp [sz]
    rw [e1,e2] at hloop;have hloop':Jd (fun (s:Int×(List Qa)×(List Int))=>Zs a s.1 s.2.1 s.2.2) FU ((0:Int),([]++a.2.2)++b.2.2,([]++sz (XY a))++sz (XY b))=_:=hloop;rw [Qb sa,QA (Bq (by simp; omega)),Qb sb,QA (Bq (by simp; omega)),QA (Bq (by simp; omega)),QA (Bq (by simp; omega)),Qb hloop',Option.bind_some]
   ·rw [QA (by simp [hab]),if_neg (show ¬(true=true∧true=true∧a.2.1=b.1) from fun h=>hab h.2.2)]
  ·rw [Bool.not_eq_true] at hb;rw [hb,Option.bind_some,QA (by rfl),Option.bind_some,QA rfl,if_neg (fun h=>by cases h.2.1)]
 ·rw [Bool.not_eq_true] at ha;rw [ha,QA (by rfl),Option.bind_some,QA rfl,Option.bind_some,QA rfl,if_neg (fun h=>by cases h.1)]
theorem QjE (r:QE) (S:List Int) (hS:S.length=r.2.2.length) (hl:r.2.2.length≤62){a0 e:Nat} (he:e≤2147483647):∀(L:List (P Qa)) (p i fuel:Nat) (st:List (P Qa)),Fw p L e→S.drop i=sz L→r.2.2.drop i=hh L→i+L.length=S.length→Ct a0 st p→L.length < fuel→
  Jd (fun (s:Int×Int×(List QP))=>Yi S r s.1 s.2.1 s.2.2) fuel ((p:Int),(i:Int),rv st)=some ((e:Int),(S.length:Int),rv (Bf nd st L)):=by
 intro L
 induction L with
 | nil=>
  intro p i fuel st hf h1 h2 hi hc hfu;obtain ⟨fuel,rfl⟩:∃m,fuel=m+1:=⟨fuel - 1,by omega⟩;have hp:p=e:=hf
  simp only [List.length_nil,Nat.add_zero] at hi
  rw [XQ (s':=((p:Int),(i:Int),rv st)) (by
   simp only [Yi]
   rw [QQ (by rw [decide_eq_true_eq]; omega)]),hp,hi]
  rfl
 | cons x L ih=>
  intro p i fuel st hf h1 h2 hi hc hfu;obtain ⟨fuel,rfl⟩:∃m,fuel=m+1:=⟨fuel - 1,by omega⟩
  simp only [List.length_cons] at hfu hi
  have hx:x.1=p:=hf.1;have hle:=Qck _ _ _ hf.2.2;have hi1:i < S.length:=by omega
  rw [List.drop_eq_getElem_cons hi1] at h1;rw [List.drop_eq_getElem_cons (by omega)] at h2
  injection h1 with h1 h1'
  injection h2 with h2 h2'
  have hpart:(((p:Int),p2 x.2.1,x.2.2):QP)=mp x:=by unfold mp; rw [hx]
  have hk0:=YA x.2.1;have Qm9:=QoT (a:=a0) st x (by rw [hx]; exact hc) (by omega);have hpush:=QeP nd st x (by rw [hx]; exact hc) hf.2.1;rw [YH (s':=(((x.1+2^x.2.1:Nat):Int),((i+1:Nat):Int),rv (push nd st x))) (by
   simp only [Yi]
   rw [QA (by rw [decide_eq_true_eq]; omega),Qb (Jl rfl hi1),Qb (Jl rfl (by omega)),Option.bind_some,h1,h2,hpart,Qb Qm9,Jr (n:=(i:Int)+1) (by omega) (by omega)];rw [show w64 ((p:Int)+p2 x.2.1)=((x.1+2^x.2.1:Nat):Int) by unfold p2; rw [Jr (by omega) (by omega)]; omega]; rfl),ih (x.1+2^x.2.1) (i+1) fuel (push nd st x) hf.2.2 h1' h2' (by omega) hpush (by omega)]
  rfl
theorem Qir {r:QE} (h:XS r=true){a0:Nat} (st:List (P Qa)) (hc:Ct a0 st r.1.toNat):∃S,Yz r.1 r.2.1=some S∧Jd (fun (s:Int×Int×(List QP))=>Yi S r s.1 s.2.1 s.2.2) FU (r.1,(0:Int),rv st)=some (r.2.1,(S.length:Int),rv (Bf nd st (XY r))):=by
 obtain ⟨a1,a2,a3,a4⟩:=q6 h;obtain ⟨la1,la2,la3,la4⟩:=U0 h;have sa:=Qes r.1.toNat r.2.1.toNat (by omega) (by omega);rw [show ((r.1.toNat:Nat):Int)=r.1 by omega,show ((r.2.1.toNat:Nat):Int)=r.2.1 by omega,←a3] at sa;refine ⟨_,sa,?_⟩;have hl:(XY r).length=r.2.2.length:=by rw [←a4,Qfu]
 have:=QjE r (sz (XY r)) (by rw [QaR,hl]) la4 (a0:=a0) (e:=r.2.1.toNat) (by omega) (XY r) r.1.toNat 0 FU st a1 rfl (by rw [List.drop_zero,a4]) (by rw [QaR]; omega) hc (J6 (by omega));rw [show ((r.1.toNat:Nat):Int)=r.1 by omega,show ((r.2.1.toNat:Nat):Int)=r.2.1 by omega] at this;exact this
theorem Qkz (a b:QE):KE a b=some (Y3 a b):=by
 unfold KE Y3;rw [Qb (QdR a)]
 by_cases ha:XS a=true
 ·rw [ha,QQ (by decide),Qb (QdR b)]
  by_cases hb:XS b=true
  ·rw [hb,Option.bind_some,QQ (by decide),Option.bind_some]
   by_cases hab:a.2.1=b.1
   ·rw [QQ (by simp [hab]),if_pos (show true=true∧true=true∧a.2.1=b.1 from ⟨rfl,rfl,hab⟩)];obtain ⟨a1,a2,a3,a4⟩:=q6 ha;obtain ⟨b1,b2,b3,b4⟩:=q6 hb;obtain ⟨la1,la2,la3,la4⟩:=U0 ha;obtain ⟨lb1,lb2,lb3,lb4⟩:=U0 hb;obtain ⟨S,s1,s2⟩:=Qir ha (a0:=a.1.toNat) [] rfl;have hc:=QaP nd (XY a) [] a.1.toNat _ rfl a1;obtain ⟨T,t1,t2⟩:=Qir hb (a0:=a.1.toNat) (Bf nd [] (XY a)) (by rw [←hab]; exact hc);have hc2:=QaP nd (XY b) _ b.1.toNat _ (by rw [←hab]; exact hc) b1;have hl:=QdG _ _ hc2;have hs1:Jd (fun (s:Int×Int×(List QP))=>Yi S a s.1 s.2.1 s.2.2) FU (a.1,(0:Int),([]:List QP))=_:=s2;have hloop:Jd (fun (s:Int×(List QP))=>YO a b s.1 s.2) FU ((0:Int),([]:List QP))=some ((2:Int),rv (Bf nd (Bf nd [] (XY a)) (XY b))):=by
     obtain ⟨fuel,hfu⟩:∃m,FU=m+3:=⟨FU - 3,by unfold FU; rfl⟩;rw [show Jd (fun (s:Int×(List QP))=>YO a b s.1 s.2) FU=Jd (fun (s:Int×(List QP))=>YO a b s.1 s.2) (fuel+3) by rw [hfu]];rw [YH (s':=((1:Int),rv (Bf nd [] (XY a)))) (by
      simp only [YO]
      rw [QA (by simp),Qb (Jl (i:=(0:Int)) (k:=0) rfl (by simp))];show Option.bind (Yz a.1 a.2.1) _=_;rw [Qb s1];show Option.bind (Jd (fun (s:Int×Int×(List QP))=>Yi S a s.1 s.2.1 s.2.2) FU (a.1,(0:Int),([]:List QP))) _=_;rw [Qb hs1,Jr (by omega) (by omega)]; rfl),YH (s':=((2:Int),rv (Bf nd (Bf nd [] (XY a)) (XY b)))) (by
      simp only [YO]
      rw [QA (by simp),Qb (Jl (i:=(1:Int)) (k:=1) rfl (by simp))];show Option.bind (Yz b.1 b.2.1) _=_;rw [Qb t1];show Option.bind (Jd (fun (s:Int×Int×(List QP))=>Yi T b s.1 s.2.1 s.2.2) FU (b.1,(0:Int),rv (Bf nd [] (XY a)))) _=_;rw [Qb t2,Jr (by omega) (by omega)]; rfl),XQ (s':=((2:Int),rv (Bf nd (Bf nd [] (XY a)) (XY b)))) (by
      simp only [YO]
      rw [QQ (by simp)])]
    rw [Qb hloop,Qb (QlB _ (by omega)),Option.bind_some]
    simp [Bf,List.foldl_append]
   ·rw [QA (by simp [hab]),if_neg (show ¬(true=true∧true=true∧a.2.1=b.1) from fun h=>hab h.2.2)]
  ·rw [Bool.not_eq_true] at hb;rw [hb,Option.bind_some,QA (by rfl),Option.bind_some,QA rfl,if_neg (fun h=>by cases h.2.1)]
 ·rw [Bool.not_eq_true] at ha;rw [ha,QA (by rfl),Option.bind_some,QA rfl,Option.bind_some,QA rfl,if_neg (fun h=>by cases h.1)]
theorem Qmv (a:Nat) (l:List Qa) (S:List Int) (hS:S.length≤62) (hl:l.length≤2147483647):∀(ks:List Nat) (p i fuel:Nat) (acc:List Qa),Seg p (a+l.length) ks→a≤p→S.drop i=ks.map p2→i+ks.length=S.length→acc.length=i→ks.length < fuel→
  ∃u v,Jd (fun (s:(List Qa)×Int×(List Qa))=>Xj S s.1 s.2.1 s.2.2) fuel (l.drop (p - a),(i:Int),acc)=some (u,v,acc++vl (vt a l) p ks):=by
 intro ks
 induction ks with
 | nil=>
  intro p i fuel acc hs hp h1 hi ha hfu;obtain ⟨fuel,rfl⟩:∃m,fuel=m+1:=⟨fuel - 1,by omega⟩
  simp only [List.length_nil] at hi
  exact ⟨l.drop (p - a),(i:Int),by
   rw [XQ (s':=(l.drop (p - a),(i:Int),acc)) (by
    simp only [Xj]
    rw [QQ (by rw [decide_eq_true_eq]; omega)])]
   simp [vl]⟩
 | cons k ks ih=>
  intro p i fuel acc hs hp h1 hi ha hfu;obtain ⟨fuel,rfl⟩:∃m,fuel=m+1:=⟨fuel - 1,by omega⟩
  simp only [List.length_cons] at hfu hi
  have hi1:i < S.length:=by omega
  rw [List.drop_eq_getElem_cons hi1] at h1
  injection h1 with h1 h1'
  have hg:JU S (i:Int)=some (p2 k):=by rw [Jl rfl hi1,h1]
  have hsz:=hs.2.1.1;have hle:=Qhm _ _ _ hs.2.2;have hk0:=YA k;have hsl:2^k≤(l.drop (p - a)).length:=by rw [List.length_drop]; omega
  obtain ⟨u,v,huv⟩:=ih (p+2^k) (i+1) fuel (acc++ [vt a l p k]) hs.2.2 (by omega) h1' (by omega) (by simp [ha]) (by omega);refine ⟨u,v,?_⟩;rw [YH (s':=(l.drop (p+2^k - a),((i+1:Nat):Int),acc++ [vt a l p k])) (by
   simp only [Xj]
   rw [QA (by rw [decide_eq_true_eq]; omega),Qb hg,show p2 k=((2^k:Nat):Int) by unfold p2; rfl,Qb (J5 (lo:=(0:Int)) (a:=0) (b:=2^k) rfl rfl (by omega) hsl)];rw [List.drop_zero,Qb (Qma _ (by rw [List.length_take]; omega)),QA (Bq (by simp; omega)),Qb hg,show p2 k=((2^k:Nat):Int) by unfold p2; rfl,Qb (J5 (a:=2^k) (b:=(l.drop (p - a)).length) rfl rfl hsl (Nat.le_refl _)),List.take_length,List.drop_drop,Jr (n:=(i:Int)+1) (by omega) (by omega),show p - a+2^k=p+2^k - a by omega]
   rfl),huv]
  simp [vl]
theorem Qo4 (l:List Qa) (a:Nat) (h:a+l.length≤2147483647):Xg (a:Int) l=some (((a:Int),((a+l.length:Nat):Int),hsh a l),(0:Int)):=by
 unfold Xg;rw [QQ (by rw [decide_eq_true_eq]; omega),Option.bind_some,QQ (by rw [decide_eq_true_eq]; omega),Jr (n:=2147483647 - (a:Int)) (by omega) (by omega),Option.bind_some,QQ (by rw [decide_eq_true_eq]; omega)];have hw:w64 ((a:Int)+(l.length:Int))=((a+l.length:Nat):Int):=by rw [Jr (by omega) (by omega)]; omega
 have hs:=Bb (show a≤a+l.length by omega);have h62:=Qoo hs h;obtain ⟨u,v,huv⟩:=Qmv a l ((B3 a (a+l.length)).map p2) (by rw [List.length_map]; exact h62) (by omega) (B3 a (a+l.length)) a 0 FU [] hs (Nat.le_refl _) rfl (by simp) rfl (J6 (by omega));rw [Nat.sub_self,List.drop_zero] at huv;have huv':Jd (fun (s:(List Qa)×Int×(List Qa))=>Xj ((B3 a (a+l.length)).map p2) s.1 s.2.1 s.2.2) FU (l,(0:Int),([]:List Qa))=_:=huv;rw [hw,Qb (BZ a (a+l.length) (by omega) h),Qb huv',Option.bind_some,List.nil_append,←QoN]
end Go.Sl.Pu
set_option maxRecDepth 20000
namespace Go.Sl.Pu
open Go.Sl Go.Sl.M Go.Sl.Fr
attribute [local irreducible] sha nd w64 p2 hsh B3
theorem Qhh (a:Nat) (l:List Qa):XY ((a:Int),((a+l.length:Nat):Int),hsh a l)=(cst a l).reverse:=by
 unfold XY
 simp only [Int.toNat_natCast]
 exact QnA a l
end Go.Sl.Pu
set_option maxRecDepth 20000
namespace Go.Sl.Pu
open Go.Sl Go.Sl.M Go.Sl.Fr
attribute [local irreducible] sha nd w64 p2 hsh B3
def rg (s t:Nat) (l:List Qa):QE:=((s:Int),(t:Int),l)
end Go.Sl.Pu
set_option maxRecDepth 20000
namespace Go.Sl.Pu
open Go.Sl Go.Sl.M Go.Sl.Fr
attribute [local irreducible] sha nd
inductive Tr where
 | part (h:Qa)
 | node (l r:Tr)
def Tr.h : Tr→Qa
 | .part h=>h
 | .node l r=>nd l.h r.h
def Tr.ts : Tr→List (List (BitVec 8))
 | .part _=> []
 | .node l r=>txt l.h r.h::(l.ts++r.ts)
def Zk : List Qa→Tr→Prop
 | l, .part h=>h=mth l
 | l, .node a b=>Zk (l.take (QfG l.length)) a∧Zk (l.drop (QfG l.length)) b
def Qpy {H K:Type} (f:H→K) (L:List (P H)):List (P K):=L.map fun x=>(x.1,x.2.1,f x.2.2)
def sl (l:List Qa) (p n:Nat):List Qa:=(l.drop p).take n
end Go.Sl.Pu
set_option maxRecDepth 20000
namespace Go.Sl.Pu
open Go.Sl Go.Sl.M Go.Sl.Fr
attribute [local irreducible] sha nd w64 p2 hsh B3
noncomputable def QmC (l:List Qa) (i:Int):Xe×Int:=if 0≤i∧i≤l.length then ((hsh 0 (l.take i.toNat),hsh i.toNat (l.drop i.toNat)),0) else (([], []),4)
theorem Qpo {s t:Nat}{l:List Qa} (h:s+l.length=t) (ht:t≤2147483647):Xg (s:Int) l=some (rg s t (hsh s l),(0:Int)):=by
 subst h; exact Qo4 l s ht
theorem Qjw (l:List Qa) (i:Int) (hl:l.length≤2147483647):VE l i=some (QmC l i):=by
 unfold VE QmC
 by_cases h:0≤i∧i≤l.length
 ·obtain ⟨i,rfl⟩:∃n:Nat,i=(n:Int):=⟨i.toNat,by omega⟩;have h1:i≤l.length:=by omega
  have e1:(l.take i).length=i:=by rw [List.length_take]; omega
  have t1:Xg (0:Int) (l.take i)=some (rg 0 i (hsh 0 (l.take i)),(0:Int)):=Qpo (s:=0) (by omega) (by omega);have t2:Xg (i:Int) (l.drop i)=some (rg i l.length (hsh i (l.drop i)),(0:Int)):=Qpo (by rw [List.length_drop]; omega) hl;rw [QQ (by rw [decide_eq_true_eq]; omega),Option.bind_some,QQ (by rw [decide_eq_true_eq]; omega),Qb (J5 (lo:=(0:Int)) (a:=0) (b:=i) rfl rfl (by omega) (by omega)),List.drop_zero,Qb t1,Qb (J5 (a:=i) (b:=l.length) rfl rfl (by omega) (Nat.le_refl _)),List.take_length,Qb t2,Option.bind_some,if_pos h]
  rfl
 ·rw [if_neg h]
  by_cases h0:i < 0
  ·rw [QA (by rw [decide_eq_true_eq]; exact h0),Option.bind_some,QA rfl,Option.bind_some]
  ·rw [QQ (by rw [decide_eq_true_eq]; exact h0),Option.bind_some,QA (by rw [decide_eq_true_eq]; omega),Option.bind_some]
theorem Qgi (a b:QE):(Y3 a b).1.2.2.length≤2147483647:=by
 unfold Y3
 split
 ·rename_i h
  obtain ⟨a1,a2,a3,a4⟩:=q6 h.1;obtain ⟨b1,b2,b3,b4⟩:=q6 h.2.1;obtain ⟨la1,la2,la3,la4⟩:=U0 h.1;obtain ⟨lb1,lb2,lb3,lb4⟩:=U0 h.2.1;have hf:Fw a.1.toNat (XY a++XY b) b.2.1.toNat:=Qef _ _ _ _ _ a1 (by rw [h.2.2]; exact b1);have:=QdG _ _ (QaP nd _ [] a.1.toNat _ rfl hf);show (hof _).length≤_;unfold hof;rw [List.length_map,List.length_reverse]
  omega
 ·simp
theorem Ql6 {a b:QE} (h:(Y3 a b).2=0):XS a=true∧XS b=true∧a.2.1=b.1:=by
 unfold Y3 at h
 split at h
 ·assumption
 ·cases h
theorem Qgw {a b:QE} (h:XS a=true∧XS b=true∧a.2.1=b.1):Y3 a b=((a.1,b.2.1,hof (Bf nd [] (XY a++XY b))),0)∧XS (Y3 a b).1=true∧XY (Y3 a b).1=(Bf nd [] (XY a++XY b)).reverse:=by
 have hj:Y3 a b=((a.1,b.2.1,hof (Bf nd [] (XY a++XY b))),0):=by unfold Y3; rw [if_pos h]
 obtain ⟨a1,a2,a3,a4⟩:=q6 h.1;obtain ⟨b1,b2,b3,b4⟩:=q6 h.2.1;obtain ⟨la1,la2,la3,la4⟩:=U0 h.1;obtain ⟨lb1,lb2,lb3,lb4⟩:=U0 h.2.1;have hf:Fw a.1.toNat (XY a++XY b) b.2.1.toNat:=Qef _ _ _ _ _ a1 (by rw [h.2.2]; exact b1);have hc:=QaP nd _ [] a.1.toNat _ rfl hf;have hn:Nf (Bf nd [] (XY a++XY b)):=Qhj nd _ [] trivial;have hw:=QlR _ _ _ hc;have hs:=QdL _ _ _ hw (QiZ _ hn);have hab:=h.2.2;have hu:=Qd2 (show a.1.toNat≤b.2.1.toNat by omega) hs;have hl:=Qck _ _ _ hw;refine ⟨hj,?_,?_⟩
 ·rw [hj];exact QaD.2 ⟨a.1.toNat,b.2.1.toNat,by simp only []; omega,by simp only []; omega,by omega,by omega,by rw [hu]; simp [hof]⟩
 ·rw [hj];unfold XY
  simp only []
  rw [hu];exact Qja _ _ _ hw
theorem QjI (n:Nat) (h:n≤2147483647):XS (rg n n [])=true∧XY (rg n n []) = []:=by
 have hs:B3 n n = []:=Qd2 (Nat.le_refl _) rfl;refine ⟨QaD.2 ⟨n,n,rfl,rfl,Nat.le_refl _,h,by rw [hs]; rfl⟩,?_⟩;unfold XY rg
 simp only [Int.toNat_natCast]
 rw [hs]; rfl
theorem QlY {r:QE}{n:Nat} (h:XS r=true) (hn:r.2.1=(n:Int)) (h2:n≤2147483647):Y3 r (rg n n [])=(r,0):=by
 obtain ⟨f1,f2⟩:=QjI n h2;obtain ⟨j1,j2,j3⟩:=Qgw (a:=r) (b:=rg n n []) ⟨h,f1,hn⟩;obtain ⟨a1,a2,a3,a4⟩:=q6 h;rw [j1,f2,List.append_nil,QcF nd _ [] a2 (fun y hy=>by cases hy),List.append_nil];have:hof (XY r).reverse=r.2.2:=by rw [←a4]; simp [hof,hh]
 rw [this];show ((r.1,(n:Int),r.2.2),(0:Int))=(r,0);rw [←hn]
noncomputable def Qmc (a b c:QE):Bool:=decide ((Y3 a b).2=0∧(Y3 (Y3 a b).1 c).2=0∧(Ud (Y3 (Y3 a b).1 c).1).2=0)
theorem Qm2 (a b c:QE):KU a b c=some ((Ud (Y3 (Y3 a b).1 c).1).1,Qmc a b c):=by
 unfold KU Qmc;rw [Qb (Qiy a b),Qb (Qiy _ c),Qb (QhP _ (Nat.le_trans (Qgi _ _) (by omega)))]
 by_cases h1:(Y3 a b).2=0<;>by_cases h2:(Y3 (Y3 a b).1 c).2=0<;>by_cases h3:(Ud (Y3 (Y3 a b).1 c).1).2=0<;>simp [h1,h2,h3]
theorem Qnh (root:Qa) (a:QE) (ha:a.2.2.length≤4000000000):Kn root [a]=some (decide ((Ud a).2=0∧(Ud a).1=root)):=by
 unfold Kn;rw [Qb (Jl (i:=(0:Int)) (k:=0) rfl (by simp)),Qb (J5 (lo:=(1:Int)) (hi:=(([a]:List QE).length:Int)) (a:=1) (b:=1) rfl rfl (by omega) (by simp))];obtain ⟨fuel,hfu⟩:∃m,FU=m+1:=⟨FU - 1,by unfold FU; rfl⟩;have hl:Yf (fun (s:Int×QE)=>Zh [] s.1 s.2) FU ((0:Int),a)=some (.inl ((0:Int),a)):=by
  rw [hfu,WD (s':=((0:Int),a)) (by
   simp only [Zh]
   rw [QQ (by simp)])]
 show Option.bind (Yf (fun (s:Int×QE)=>Zh [] s.1 s.2) FU ((0:Int),a)) _=_;rw [Qb hl]
 simp only []
 rw [Qb (Qku _ ha)]
 by_cases h3:(Ud a).2=0<;>simp [h3]
theorem Qn7 (root:Qa) (a b:QE):Kn root [a,b]=some (decide ((Y3 a b).2=0∧(Ud (Y3 a b).1).2=0∧(Ud (Y3 a b).1).1=root)):=by
 unfold Kn;rw [Qb (Jl (i:=(0:Int)) (k:=0) rfl (by simp)),Qb (J5 (lo:=(1:Int)) (hi:=(([a,b]:List QE).length:Int)) (a:=1) (b:=2) rfl rfl (by omega) (by simp))];have w1:w64 ((0:Int)+1)=1:=by rw [Jr (by omega) (by omega)]; rfl
 obtain ⟨fuel,hfu⟩:∃m,FU=m+2:=⟨FU - 2,by unfold FU; rfl⟩;show Option.bind (Yf (fun (s:Int×QE)=>Zh [b] s.1 s.2) FU ((0:Int),a)) _=_
 by_cases h1:(Y3 a b).2=0
 ·have s1:Zh [b] (0:Int) a=some (.next ((1:Int),(Y3 a b).1)):=by
   simp only [Zh]
   rw [QA (by simp),Qb (Jl (i:=(0:Int)) (k:=0) rfl (by simp))];show Option.bind (KE a b) _=_;rw [Qb (Qkz a b),QQ (by simp [h1]),w1]
  have hl:Yf (fun (s:Int×QE)=>Zh [b] s.1 s.2) FU ((0:Int),a)=some (.inl ((1:Int),(Y3 a b).1)):=by
   rw [hfu,W4 (f:=fun (s:Int×QE)=>Zh [b] s.1 s.2) (s:=((0:Int),a)) s1,WD (s':=((1:Int),(Y3 a b).1)) (by
    simp only [Zh]
    rw [QQ (by simp)])]
  rw [Qb hl]
  simp only []
  rw [Qb (Qku _ (Nat.le_trans (Qgi _ _) (by omega)))]
  by_cases h3:(Ud (Y3 a b).1).2=0<;>simp [h1,h3]
 ·have s1:Zh [b] (0:Int) a=some (.ret false):=by
   simp only [Zh]
   rw [QA (by simp),Qb (Jl (i:=(0:Int)) (k:=0) rfl (by simp))];show Option.bind (KE a b) _=_;rw [Qb (Qkz a b),QA (by simp [h1])]
  have hl:Yf (fun (s:Int×QE)=>Zh [b] s.1 s.2) FU ((0:Int),a)=some (.inr false):=by
   rw [hfu,qb (f:=fun (s:Int×QE)=>Zh [b] s.1 s.2) (s:=((0:Int),a)) s1]
  rw [Qb hl]
  simp [h1]
noncomputable def isG (t:Xe) (m n:Int) (old root:Qa):Bool:=
 decide (0≤m∧m≤n∧n≤2147483647∧(Ud (0,m,t.1)).2=0∧(Ud (0,m,t.1)).1=old∧(Y3 (0,m,t.1) (m,n,t.2)).2=0∧(Ud (Y3 (0,m,t.1) (m,n,t.2)).1).2=0∧(Ud (Y3 (0,m,t.1) (m,n,t.2)).1).1=root)
theorem QoE (t:Xe) (m n:Int) (old root:Qa) (ht:t.1.length≤4000000000):UI t m n old root=some (isG t m n old root):=by
 unfold UI isG
 by_cases h1:m < 0
 ·rw [QA (decide_eq_true h1),Option.bind_some,QA rfl,Option.bind_some,QA rfl,decide_eq_false (fun hh=>by omega)]
 ·rw [QQ (by rw [decide_eq_true_eq]; exact h1),Option.bind_some]
  by_cases h2:n < m
  ·rw [QA (decide_eq_true h2),Option.bind_some,QA rfl,decide_eq_false (fun hh=>by omega)]
  ·rw [QQ (by rw [decide_eq_true_eq]; exact h2),Option.bind_some]
   by_cases h3:2147483647 < n
   ·rw [QA (decide_eq_true h3),decide_eq_false (fun hh=>by omega)]
   ·rw [QQ (by rw [decide_eq_true_eq]; exact h3),Option.bind_some,Option.bind_some,Qb (Qnh _ _ ht),Qb (Qn7 _ _ _)];have g:0≤m∧m≤n∧n≤2147483647:=⟨by omega,by omega,by omega⟩
    by_cases h4:(Ud (0,m,t.1)).2=0∧(Ud (0,m,t.1)).1=old
    ·simp [h4,g]
    ·rw [decide_eq_false h4,QQ (by decide),Option.bind_some,decide_eq_false (fun hh=>h4 ⟨hh.2.2.2.1,hh.2.2.2.2.1⟩)]
theorem Qob (t:Xe) (m n:Int) (old root:Qa) (ht:t.1.length≤4000000000):XZ t m n old root=some (isG t m n old root):=by
 unfold XZ isG
 by_cases h1:m < 0
 ·rw [QA (decide_eq_true h1),Option.bind_some,QA rfl,Option.bind_some,QA rfl,decide_eq_false (fun hh=>by omega)]
 ·rw [QQ (by rw [decide_eq_true_eq]; exact h1),Option.bind_some]
  by_cases h2:n < m
  ·rw [QA (decide_eq_true h2),Option.bind_some,QA rfl,decide_eq_false (fun hh=>by omega)]
  ·rw [QQ (by rw [decide_eq_true_eq]; exact h2),Option.bind_some]
   by_cases h3:2147483647 < n
   ·rw [QA (decide_eq_true h3),decide_eq_false (fun hh=>by omega)]
   ·rw [QQ (by rw [decide_eq_true_eq]; exact h3),Option.bind_some,Qb (QhP _ ht),Option.bind_some,Option.bind_some,Qb (Qm2 _ _ _)];have g:0≤m∧m≤n∧n≤2147483647:=⟨by omega,by omega,by omega⟩
    by_cases h5:(Y3 (0,m,t.1) (m,n,t.2)).2=0
    ·have hok:=Ql6 h5;obtain ⟨j1,j2,j3⟩:=Qgw hok;have hn:(Y3 (0,m,t.1) (m,n,t.2)).1.2.1=((n.toNat:Nat):Int):=by
      rw [j1]; show n=_; omega
     have hz:Y3 (Y3 (0,m,t.1) (m,n,t.2)).1 (n,n, [])=((Y3 (0,m,t.1) (m,n,t.2)).1,0):=by
      have:=QlY j2 hn (by omega);unfold rg at this;rw [show ((n.toNat:Nat):Int)=n by omega] at this;exact this
     unfold Qmc;rw [hz]
     by_cases h4:(Ud (0,m,t.1)).2=0<;>by_cases h6:(Ud (0,m,t.1)).1=old<;>by_cases h7:(Ud (Y3 (0,m,t.1) (m,n,t.2)).1).2=0<;>simp [h4,h5,h6,h7,g]
    ·unfold Qmc
     by_cases h4:(Ud (0,m,t.1)).2=0<;>by_cases h6:(Ud (0,m,t.1)).1=old<;>simp [h4,h5,h6]
theorem Ql2 (l:List Qa) (i:Int):(QmC l i).1.1.length≤l.length∧(QmC l i).1.2.length≤l.length:=by
 unfold QmC
 split
 ·have h1:=QmH 0 (l.take i.toNat);have h2:=QmH (i.toNat) (l.drop (i.toNat));rw [List.length_take] at h1;rw [List.length_drop] at h2;exact ⟨by show (hsh _ _).length≤_; omega,by show (hsh _ _).length≤_; omega⟩
 ·simp
end Go.Sl.Pu
set_option maxRecDepth 20000
namespace Go.Sl.Pu
open Go.Sl Go.Sl.M Go.Sl.Fr
attribute [local irreducible] sha nd w64 p2 hsh B3
abbrev hR (L:List (P Tr)):List (P Qa):=Qpy Tr.h L
attribute [local irreducible] Y3 Ud Qmc XS XY
end Go.Sl.Pu
set_option linter.unusedSectionVars false
namespace Go.Sl
namespace Pu
open Go.Sl Go.Sl.M Go.Sl.Fr
def ent (e:Nat):Qa:=sha (0#8::(be (BitVec.ofInt 32 (e:Int)) 4++(#v[BitVec.ofInt 8 (e:Int),0#8,0#8,0#8,0#8,0#8,0#8,0#8,0#8,0#8,0#8,0#8,0#8,0#8,0#8,0#8,0#8,0#8,0#8,0#8,0#8,0#8,0#8,0#8,0#8,0#8,0#8,0#8,0#8,0#8,0#8,0#8]:Qa).toList))
def Qfj (n:Nat):List Qa:=(List.range n).map fun i=>ent (i+1)
theorem QfA (n:Nat):(Qfj n).length=n:=by simp [Qfj]
theorem QkR (n:Nat):Qfj (n+1)=Qfj n++ [ent (n+1)]:=by simp [Qfj,List.range_succ]
theorem QnT (n:Nat) (hn:n≤1000):Vd (n:Int)=some (Qfj n):=by
 unfold Vd;obtain ⟨s,h1,h2⟩:=KV (f:=fun (s:Int×(List Qa))=>Xr (n:Int) s.1 s.2) (fun (s:Int×(List Qa))=>∃i:Nat,i≤n∧s=(((i+1:Nat):Int),Qfj i)) (fun (s:Int×(List Qa))=>n+1 - s.1.toNat) (fun (s:Int×(List Qa))=>s.2=Qfj n) (by
  rintro s ⟨i,hi,rfl⟩
  simp only [Xr]
  by_cases h:i < n
  ·left
   have hl:=QfA i;rw [QA (by simp; omega),Option.bind_some,Qb (Qi7 ((i+1:Nat):Int) _),QA (by simp [AP]; omega),JA (by omega)];exact ⟨_,rfl,⟨i+1,by omega,by rw [QkR]; rfl⟩,by dsimp only; omega⟩
  ·right
   rw [QQ (by simp; omega)];have:i=n:=by omega
   subst this;exact ⟨_,rfl,rfl⟩) FU ((1:Int),([]:List Qa)) ⟨0,by omega,rfl⟩ (Nat.lt_of_le_of_lt (Nat.sub_le _ _) (J6 (by omega)))
 rw [Qb h1,h2]
theorem QgN (li:List QU) (x:QU) (hl:li.length≤1000):Zf li x=some (decide (x∈li)):=by
 unfold Zf ZR;obtain ⟨o,h1,h2⟩:=Vo (f:=fun (s:Int)=>Ze li x s) (fun (s:Int)=>∃i:Nat,s=(i:Int)∧i≤li.length∧∀j (h:j < li.length),j < i→x≠li[j]) (fun (s:Int)=>li.length - s.toNat)
  (fun (o:Int ⊕ Int)=>match o with | .inl _=>x∉li | .inr r=>0≤r∧x∈li) (by
  rintro s ⟨i,rfl,h1,h2⟩
  simp only [Ze]
  by_cases hi:i < li.length
  ·rw [QA (by simp; omega),Qb (Jl rfl hi)]
   by_cases he:x=li[i]
   ·right; right
    rw [QA (by simpa using he)];exact ⟨_,rfl,by omega,he▸List.getElem_mem hi⟩
   ·left
    rw [QQ (by simpa using he),JA (by omega)];refine ⟨_,rfl,⟨i+1,by simp,by omega,fun j hj hji=>?_⟩,by omega⟩
    rcases Nat.lt_or_ge j i with h | h
    ·exact h2 j hj h
    ·have:j=i:=by omega
     subst this; exact he
  ·right; left
   rw [QQ (by simp; omega)];refine ⟨_,rfl,fun hm=>?_⟩;obtain ⟨j,hj,hjx⟩:=List.mem_iff_getElem.1 hm;exact h2 j hj (by omega) hjx.symm) FU (0:Int) ⟨0,rfl,by omega,fun j _ h=>by omega⟩ (Nat.lt_of_le_of_lt (Nat.sub_le _ _) (J6 (by omega)))
 rw [Qb h1]
 cases o with
 | inl s=>rw [decide_eq_false (show x∉li from h2)]; rfl
 | inr r=>rw [decide_eq_true (show x∈li from h2.2)]; simp [h2.1]
theorem QmF (pu:List (BitVec 8)) (l:List Sgd) (fo:List QC) (li:List QU) (m n:Int) (t:Xe) (hm:1≤m∧m < n){k1 k2:Nat} (h1:J2 (some (pu,l,fo,li)) m=some ((k1:Int),true)) (h2:J2 (some (pu,l,fo,li)) n=some ((k2:Int),true)){a b:Sgd} (g1:l[k1]? = some a) (g2:l[k2]? = some b) (ht:t.1.length≤4000000000) (hl:li.length≤1000) :
  Yn (pu,l,fo,li) m n t=some (if isG t m n a.1.2.2.2 b.1.2.2.2=true then ((pu,l,fo,if (m,n)∈li then li else li++ [(m,n)]),0) else ((pu,l,fo,li),9)):=by
 unfold Yn;have e1:JU l (k1:Int)=some a:=by unfold JU; rw [if_pos (by omega),Int.toNat_natCast,g1]
 have e2:JU l (k2:Int)=some b:=by unfold JU; rw [if_pos (by omega),Int.toNat_natCast,g2]
 rw [Option.bind_some,QQ (by simp; omega),Option.bind_some,QQ (by simp; omega),Qb h1,Qb h2]
 dsimp only
 rw [QQ (by simp),Option.bind_some,QQ (by simp),Qb e1,Qb e2,Qb (QoE t m n _ _ ht)]
 by_cases h:isG t m n a.1.2.2.2 b.1.2.2.2=true
 ·rw [if_pos h,QQ (by simp [h]),Option.bind_some,Qb (QgN li (m,n) hl)]
  by_cases hx:(m,n)∈li
  ·rw [QQ (by simp [hx]),if_pos hx]
  ·rw [QA (by simp [hx]),QA (by simp [AP]; omega),if_neg hx]
 ·rw [if_neg h,QA (by simpa using h)]
end Pu
end Go.Sl
namespace Go.Sl
namespace Pu
open Go.Sl Go.Sl.M Go.Sl.Fr
def hdE (e:Nat):Za:=((e:Int),1,Vector.replicate 32 0#8,mth (Qfj e))
theorem QmM {e:Nat} (h:1≤e∧e≤1000):Bd (hdE e):=⟨⟨by show (1:Int)≤(e:Int); omega,by show (e:Int)≤2147483647; omega⟩,⟨Int.le_refl 1,by show (1:Int)≤2147483647; omega⟩⟩
end Pu
end Go.Sl
namespace Go.Sl
namespace Pu
open Go.Sl Go.Sl.M Go.Sl.Fr
def QaX (v:Vector Bool 9) (e:Nat):Bool:=if h:e < 9 then v[e] else false
theorem Qe4 (v:Vector Bool 9){e:Nat} (he:e < 9) (x:Nat):QaX (v.setIfInBounds e true) x=(decide (x=e)||QaX v x):=by
 unfold QaX
 by_cases hx:x < 9
 ·rw [dif_pos hx,dif_pos hx,Vector.getElem_setIfInBounds]
  by_cases hxe:x=e
  ·subst hxe; simp
  ·rw [if_neg (fun h=>hxe h.symm)]; simp [hxe]
 ·rw [dif_neg hx,dif_neg hx];have:x≠e:=by omega
  simp [this]
def eps (v:Vector Bool 9):List Nat:=(List.range 9).filter (QaX v)
abbrev SE (e:Nat):Sgd:=Qjs (hdE e)
def hlE (v:Vector Bool 9):List Sgd:=(eps v).map SE
def epA (v:Vector Bool 9) (e:Nat):List Nat:=(List.range e).filter (QaX v)
def epB (v:Vector Bool 9) (e:Nat):List Nat:=(List.range' (e+1) (8 - e)).filter (QaX v)
theorem QoU : ∀e,e < 9→List.range 9=List.range e++e::List.range' (e+1) (8 - e):=by decide
theorem QgE (v:Vector Bool 9){e:Nat} (he:e < 9):eps v=epA v e++((if QaX v e=true then [e] else [])++epB v e):=by
 unfold eps epA epB;rw [QoU e he,List.filter_append,List.filter_cons]
 by_cases h:QaX v e=true
 ·rw [if_pos h,if_pos h]; rfl
 ·rw [if_neg h,if_neg h]; rfl
theorem QnD (v:Vector Bool 9){e:Nat} (he:e < 9):eps (v.setIfInBounds e true)=epA v e++([e]++epB v e):=by
 rw [QgE _ he,Qe4 v he,if_pos (by simp)];have h1:epA (v.setIfInBounds e true) e=epA v e:=by
  unfold epA;refine List.filter_congr fun x hx=>?_;have:=List.mem_range.1 hx;rw [Qe4 v he,decide_eq_false (by omega)]; rfl
 have h2:epB (v.setIfInBounds e true) e=epB v e:=by
  unfold epB;refine List.filter_congr fun x hx=>?_;have:=(List.mem_range'_1.1 hx).1;rw [Qe4 v he,decide_eq_false (by omega)]; rfl
 rw [h1,h2]
theorem Qo7 {v:Vector Bool 9}{e x:Nat} (h:x∈epA v e):x < e:=List.mem_range.1 (List.mem_filter.1 h).1
theorem QmJ {v:Vector Bool 9}{e x:Nat} (h:x∈epB v e):e < x:=(List.mem_range'_1.1 (List.mem_filter.1 h).1).1
theorem QmX {v:Vector Bool 9}{x:Nat} (h:x∈eps v):x < 9∧QaX v x=true:=⟨List.mem_range.1 (List.mem_filter.1 h).1,(List.mem_filter.1 h).2⟩
theorem Qkr (v:Vector Bool 9):(eps v).length≤9:=by
 have:=List.length_filter_le (QaX v) (List.range 9)
 simpa [eps] using this
theorem Qd0 (v:Vector Bool 9):QaO (hlE v):=⟨by have:=Qkr v; simp [hlE]; omega,fun s hs=>by
 obtain ⟨x,hx,rfl⟩:=List.mem_map.1 hs;have:=(QmX hx).1;exact show 0≤(x:Int)∧(x:Int)≤2147483647 by omega⟩
theorem Qlx {A B:List Sgd}{e:Int} (hA:∀a∈A,a.1.1 < e) (hB:∀b∈B,e≤b.1.1):Bg (A++B) e A.length:=
 ⟨by simp,fun i h hi=>by rw [List.getElem_append_left hi]; exact hA _ (List.getElem_mem _),fun i h hi=>by rw [List.getElem_append_right hi]; exact hB _ (List.getElem_mem _)⟩
theorem Qaw (v:Vector Bool 9){e:Nat} (he:e < 9):hlE v=(epA v e).map SE++((if QaX v e=true then [SE e] else [])++(epB v e).map SE):=by
 unfold hlE;rw [QgE v he,List.map_append,List.map_append]
 by_cases h:QaX v e=true
 ·rw [if_pos h,if_pos h]; rfl
 ·rw [if_neg h,if_neg h]; rfl
theorem BJ (v:Vector Bool 9){e:Nat} (he:e < 9):Bg (hlE v) (e:Int) ((epA v e).map SE).length:=by
 rw [Qaw v he];refine Qlx (fun a ha=>?_) (fun b hb=>?_)
 ·obtain ⟨x,hx,rfl⟩:=List.mem_map.1 ha;have:=Qo7 hx;exact show (x:Int) < (e:Int) by omega
 ·rcases List.mem_append.1 hb with hb | hb
  ·split at hb
   ·rw [List.mem_singleton.1 hb]; exact Int.le_refl _
   ·cases hb
  ·obtain ⟨x,hx,rfl⟩:=List.mem_map.1 hb;have:=QmJ hx;exact show (e:Int)≤(x:Int) by omega
theorem QmZ (v:Vector Bool 9){e:Nat} (he:e < 9) (h:QaX v e=true):(hlE v)[((epA v e).map SE).length]? = some (SE e):=by
 rw [Qaw v he,List.getElem?_append_right (Nat.le_refl _),Nat.sub_self,if_pos h]; rfl
theorem QhR (v:Vector Bool 9){e:Nat} (he:e < 9) (h:¬QaX v e=true):¬∃s∈(hlE v)[((epA v e).map SE).length]?,s.1.1=(e:Int):=by
 rw [Qaw v he,List.getElem?_append_right (Nat.le_refl _),Nat.sub_self,if_neg h,List.nil_append];rintro ⟨s,hs,hse⟩;have hm:s∈(epB v e).map SE:=List.mem_of_getElem? hs;obtain ⟨x,hx,rfl⟩:=List.mem_map.1 hm;have:=QmJ hx;have:(x:Int)=(e:Int):=hse
 omega
theorem QdQ (v:Vector Bool 9) (li:List QU){e:Nat} (he:e < 9):J2 (some (J4,hlE v, [],li)) (e:Int)=some ((((epA v e).map SE).length:Int),QaX v e):=by
 rw [qa J4 (hlE v) [] li (e:Int) _ (Qd0 v) (by omega) (BJ v he)]
 by_cases h:QaX v e=true
 ·rw [decide_eq_true ⟨SE e,by rw [QmZ v he h]; rfl,rfl⟩,h]
 ·rw [decide_eq_false (QhR v he h)];rw [Bool.not_eq_true] at h;rw [h]
theorem Qm9 (v:Vector Bool 9){e:Nat} (he1:1≤e) (he:e < 9):Zx (J4,hlE v, [], []) (SE e)=some ((J4,hlE (v.setIfInBounds e true), [], []),if QaX v e=true then 11 else 0):=by
 have hr:=Qkv (hdE e) (QmM ⟨he1,by omega⟩);have hs:hlE (v.setIfInBounds e true)=(epA v e).map SE++([SE e]++(epB v e).map SE):=by
  unfold hlE;rw [QnD v he,List.map_append,List.map_append]; rfl
 by_cases h:QaX v e=true
 ·have hg:=QmZ v he h;obtain ⟨hk,hx⟩:=List.getElem?_eq_some_iff.1 hg;rw [if_pos h,Qih J4 (hlE v) [] [] (SE e) _ hr (Qd0 v) (show 0≤(e:Int)∧(e:Int)≤2147483647 by omega) (BJ v he) hk (by rw [hx]),hs,Qaw v he,if_pos h]
 ·have hd:(hlE v).take ((epA v e).map SE).length++ [SE e]++(hlE v).drop ((epA v e).map SE).length=hlE (v.setIfInBounds e true):=by
   rw [hs,Qaw v he,if_neg h,List.take_left,List.drop_left,List.nil_append,List.append_assoc]
  rw [if_neg h,Qe9 J4 (hlE v) [] [] (SE e) _ hr (Qd0 v) (show 0≤(e:Int)∧(e:Int)≤2147483647 by omega) (BJ v he) (QhR v he h) (by have:=Qkr v; simp [hlE]; omega) (QbP (hdE e)),hd]
end Pu
end Go.Sl
namespace Go.Sl
namespace Pu
open Go.Sl Go.Sl.M Go.Sl.Fr
theorem QfP (pu:List (BitVec 8)) (L:List Sgd) (FO:List QW) (LI:List (Vector Int 2)) (e:Int) (hn:L.length≤1000) :
  ∃r,ZG (some (pu,L,FO,LI)) e=some r∧((∃i:Nat,r=(i:Int)∧∃s,L[i]? = some s∧s.1.1=e)∨(r = -1∧∀s∈L,s.1.1≠e)):=by
 unfold ZG;obtain ⟨o,h1,h2⟩:=Vo (f:=fun (s:Int)=>Xl (some (pu,L,FO,LI)) e s) (fun (s:Int)=>∃i:Nat,s=(i:Int)∧i≤L.length∧∀j (h:j < L.length),j < i→L[j].1.1≠e) (fun (s:Int)=>L.length - s.toNat)
  (fun (o:Int ⊕ Int)=>match o with | .inl _=>∀s∈L,s.1.1≠e | .inr r=>∃i:Nat,r=(i:Int)∧∃s,L[i]? = some s∧s.1.1=e) (by
  rintro s ⟨i,rfl,h1,h2⟩
  simp only [Xl]
  rw [Option.bind_some]
  by_cases hi:i < L.length
  ·rw [QA (by simp; omega),Option.bind_some,Qb (Jl rfl hi)]
   by_cases he:L[i].1.1=e
   ·right; right
    rw [QA (by simpa using he)];exact ⟨_,rfl,i,rfl,L[i],List.getElem?_eq_getElem hi,he⟩
   ·left
    rw [QQ (by simpa using he),JA (by omega)];refine ⟨_,rfl,⟨i+1,by simp,by omega,fun j hj hji=>?_⟩,by omega⟩
    rcases Nat.lt_or_ge j i with h | h
    ·exact h2 j hj h
    ·have:j=i:=by omega
     subst this; exact he
  ·right; left
   rw [QQ (by simp; omega)];refine ⟨_,rfl,fun s hs=>?_⟩;obtain ⟨j,hj,rfl⟩:=List.mem_iff_getElem.1 hs;exact h2 j hj (by omega)) FU (0:Int) ⟨0,rfl,by omega,fun j _ h=>by omega⟩ (Nat.lt_of_le_of_lt (Nat.sub_le _ _) (J6 (by omega)))
 rw [Qb h1]
 cases o with
 | inl s=>exact ⟨-1,rfl, .inr ⟨rfl,h2⟩⟩
 | inr r=>exact ⟨r,rfl, .inl h2⟩
theorem Qee (l:List Int) (e:Int) (hn:l.length≤100000):Y0 l e=some (decide (e∈l)):=by
 unfold Y0;obtain ⟨o,h1,h2⟩:=Vo (f:=fun (s:Int)=>XI l e s) (fun (s:Int)=>∃i:Nat,s=(i:Int)∧i≤l.length∧∀j (h:j < l.length),j < i→l[j]≠e) (fun (s:Int)=>l.length - s.toNat)
  (fun (o:Int ⊕ Bool)=>match o with | .inl _=>e∉l | .inr r=>r=true∧e∈l) (by
  rintro s ⟨i,rfl,h1,h2⟩
  simp only [XI]
  by_cases hi:i < l.length
  ·rw [QA (by simp; omega),Qb (Jl rfl hi)]
   by_cases he:l[i]=e
   ·right; right
    rw [QA (by simpa using he)];exact ⟨_,rfl,rfl,he▸List.getElem_mem hi⟩
   ·left
    rw [QQ (by simpa using he),JA (by omega)];refine ⟨_,rfl,⟨i+1,by simp,by omega,fun j hj hji=>?_⟩,by omega⟩
    rcases Nat.lt_or_ge j i with h | h
    ·exact h2 j hj h
    ·have:j=i:=by omega
     subst this; exact he
  ·right; left
   rw [QQ (by simp; omega)];refine ⟨_,rfl,fun hm=>?_⟩;obtain ⟨j,hj,hje⟩:=List.mem_iff_getElem.1 hm;exact h2 j hj (by omega) hje) FU (0:Int) ⟨0,rfl,by omega,fun j _ h=>by omega⟩ (Nat.lt_of_le_of_lt (Nat.sub_le _ _) (J6 (by omega)))
 rw [Qb h1]
 cases o with
 | inl s=>rw [decide_eq_false (show e∉l from h2)]
 | inr r=>
  obtain ⟨rfl,h3⟩:r=true∧e∈l:=h2;rw [decide_eq_true h3]
abbrev V2 :=Vector Int 2
def pst (b:List Int) (x:V2):List Int:=if x[0]∈b∧x[1]∉b then b++ [x[1]] else b
def Wr (LI:List V2) (b:List Int):List Int:=LI.foldl pst b
def prs (LI:List V2):List Lk:=LI.map fun x=>(x[0],x[1])
theorem Qkj (b:List Int) (x:V2):b.length≤(pst b x).length∧(pst b x).length≤b.length+1:=by
 unfold pst; split
 ·simp
 ·omega
theorem Qnz (b:List Int) (x:V2):∀y∈b,y∈pst b x:=fun y hy=>by
 unfold pst; split
 ·exact List.mem_append_left _ hy
 ·exact hy
theorem Qlr {b:List Int} (x:V2) (h:b.Nodup):(pst b x).Nodup:=by
 unfold pst; split
 ·rename_i hx
  exact List.nodup_append.2 ⟨h,by simp,fun a ha c hc=>by rw [List.mem_singleton.1 hc]; rintro rfl; exact hx.2 ha⟩
 ·exact h
theorem Qf4 : ∀(LI:List V2) (b:List Int),b.Nodup→(Wr LI b).Nodup∧(∀y∈b,y∈Wr LI b)∧b.length≤(Wr LI b).length∧((Wr LI b).length=b.length→Wr LI b=b∧∀x∈LI,x[0]∈b→x[1]∈b)∧((∀x∈LI,x[0]∈b→x[1]∈b)→Wr LI b=b)
 | [],b,h=>⟨h,fun y hy=>hy,Nat.le_refl _,fun _=>⟨rfl,fun x hx=>by cases hx⟩,fun _=>rfl⟩
 | x::LI,b,h=>by
  have hp:=Qkj b x;obtain ⟨h1,h2,h3,h4,h5⟩:=Qf4 LI (pst b x) (Qlr x h);have e:Wr (x::LI) b=Wr LI (pst b x):=rfl;rw [e];refine ⟨h1,fun y hy=>h2 y (Qnz b x y hy),by omega,fun hl=>?_,fun hc=>?_⟩
  ·have hpb:pst b x=b:=by
    unfold pst; split
    ·rename_i hx
     have:(pst b x).length=b.length+1:=by unfold pst; rw [if_pos hx]; simp
     omega
    ·rfl
   obtain ⟨q1,q2⟩:=h4 (by rw [hpb] at h3 ⊢; rw [hpb] at hl; exact hl);rw [hpb] at q1 q2 ⊢;refine ⟨q1,fun y hy hy0=>?_⟩
   rcases List.mem_cons.1 hy with rfl | hy
   ·refine Classical.byContradiction fun hn=>?_;have:(pst b y).length=b.length+1:=by unfold pst; rw [if_pos ⟨hy0,hn⟩]; simp
    rw [hpb] at this
    omega
   ·exact q2 y hy hy0
  ·have hpb:pst b x=b:=by
    unfold pst;rw [if_neg];rintro ⟨p,q⟩;exact q (hc x List.mem_cons_self p)
   rw [hpb] at h5 ⊢;exact h5 fun y hy=>hc y (List.mem_cons_of_mem _ hy)
theorem Qh8 {LI0:List V2}{m:Int}:∀(LI:List V2) (b:List Int),(∀x∈LI,x∈LI0)→(∀y∈b,Rch (prs LI0) m y)→∀y∈Wr LI b,Rch (prs LI0) m y
 | [],b,_,h=>h
 | x::LI,b,hs,h=>Qh8 LI (pst b x) (fun y hy=>hs y (List.mem_cons_of_mem _ hy)) (fun y hy=>by
  unfold pst at hy
  split at hy
  ·rename_i hx
   rcases List.mem_append.1 hy with hy | hy
   ·exact h y hy
   ·rw [List.mem_singleton.1 hy];exact .step (h _ hx.1) (List.mem_map.2 ⟨x,hs x List.mem_cons_self,rfl⟩)
  ·exact h y hy)
theorem QiI : ∀(LI:List V2) (b:List Int),(Wr LI b).length≤b.length+LI.length
 | [],b=>Nat.le_refl _
 | x::LI,b=>by
  have h1:=QiI LI (pst b x);have h2:=(Qkj b x).2;show (Wr LI (pst b x)).length≤_
  simp only [List.length_cons]
  omega
theorem QkL (LI:List V2) (x:V2) (b:List Int):Wr (LI++ [x]) b=pst (Wr LI b) x:=by simp [Wr,List.foldl_append]
theorem Qpx (x:V2):KI x (0:Int)=some x[0]:=QeH (k:=0) rfl (by omega)
theorem Qpl (x:V2):KI x (1:Int)=some x[1]:=QeH (k:=1) rfl (by omega)
theorem Ql0 (pu:List (BitVec 8)) (L:List Sgd) (FO:List QW) (LI:List V2) (b:List Int) (hl:LI.length≤1000) (hb:b.length≤5000) :
  ∃i,Jd (fun (s:Int×(List Int))=>ZO (some (pu,L,FO,LI)) s.1 s.2) FU ((0:Int),b)=some (i,Wr LI b):=by
 obtain ⟨t,h1,h2⟩:=KV (f:=fun (s:Int×(List Int))=>ZO (some (pu,L,FO,LI)) s.1 s.2) (fun t=>∃i:Nat,i≤LI.length∧t=((i:Int),Wr (LI.take i) b)) (fun t=>LI.length - t.1.toNat) (fun t=>t.2=Wr LI b) (by
  rintro t ⟨i,hi,rfl⟩
  simp only [ZO]
  rw [Option.bind_some];have hln:=QiI (LI.take i) b;rw [List.length_take] at hln
  by_cases h:i < LI.length
  ·left
   have ht:LI.take (i+1)=LI.take i++ [LI[i]]:=by simp
   have hg:Wr (LI.take (i+1)) b=pst (Wr (LI.take i) b) LI[i]:=by rw [ht,QkL]
   have hfin:∀z,z=pst (Wr (LI.take i) b) LI[i]→∃s',some (LR.next (ρ:=Empty) ((i:Int)+1,z))=some (.next s')∧(∃i:Nat,i≤LI.length∧s'=((i:Int),Wr (LI.take i) b))∧LI.length - s'.1.toNat < LI.length - i:=fun z hz=>⟨_,rfl,⟨i+1,by omega,by rw [hg,hz]; rfl⟩,by dsimp only; omega⟩;rw [QA (by simp; omega),Option.bind_some,Qb (Jl rfl h),Qb (Qpx _),Qb (Qee _ _ (by omega)),JA (by omega)]
   by_cases p:LI[i][0]∈Wr (LI.take i) b
   ·rw [decide_eq_true p,QA rfl,Option.bind_some,Qb (Jl rfl h),Qb (Qpl _),Qb (Qee _ _ (by omega)),Option.bind_some]
    by_cases q:LI[i][1]∈Wr (LI.take i) b
    ·rw [decide_eq_true q,QQ (by simp)];exact hfin _ (by unfold pst; rw [if_neg (fun hh=>hh.2 q)])
    ·rw [decide_eq_false q,QA (by rfl),Option.bind_some,Qb (Jl rfl h),Qb (Qpl _),QA (by simp [AP]; omega)];exact hfin _ (by unfold pst; rw [if_pos ⟨p,q⟩])
   ·rw [decide_eq_false p,QQ (by simp),Option.bind_some,QQ (by simp)];exact hfin _ (by unfold pst; rw [if_neg (fun hh=>p hh.1)])
  ·right
   rw [QQ (by simp; omega)];have:i=LI.length:=by omega
   subst this;exact ⟨_,rfl,by rw [List.take_length]⟩) FU ((0:Int),b) ⟨0,by omega,rfl⟩ (Nat.lt_of_le_of_lt (Nat.sub_le _ _) (J6 (by omega)))
 exact ⟨t.1,by rw [h1,←h2]⟩
def pit (LI:List V2) (m:Int):Nat→List Int
 | 0=> [m]
 | n+1=>Wr LI (pit LI m n)
theorem Qea (LI:List V2) (m:Int):∀n,(pit LI m n).Nodup∧m∈pit LI m n∧(∀y∈pit LI m n,Rch (prs LI) m y)∧(pit LI m n).length≤LI.length+1∧((∀x∈LI,x[0]∈pit LI m n→x[1]∈pit LI m n)∨n+1≤(pit LI m n).length)
 | 0=>⟨by simp [pit],by simp [pit],fun y hy=>by rw [List.mem_singleton.1 hy]; exact .refl,by simp [pit], .inr (by simp [pit])⟩
 | n+1=>by
  obtain ⟨h1,h2,h3,h4,h5⟩:=Qea LI m n;obtain ⟨q1,q2,q3,q4,q5⟩:=Qf4 LI (pit LI m n) h1;have hr:∀y∈Wr LI (pit LI m n),Rch (prs LI) m y:=Qh8 LI _ (fun x hx=>hx) h3;have hlen:(Wr LI (pit LI m n)).length≤LI.length+1:=by
   have:=QdH (Wr LI (pit LI m n)) (m::(prs LI).map Prod.snd) q1 (fun y hy=>Qj5 (hr y hy))
   simpa [prs] using this
  refine ⟨q1,q2 m h2,hr,hlen,?_⟩;show (∀x∈LI,x[0]∈Wr LI (pit LI m n)→x[1]∈Wr LI (pit LI m n))∨n+1+1≤(Wr LI (pit LI m n)).length
  rcases h5 with h5 | h5
  ·left; rw [q5 h5]; exact h5
  ·by_cases he:(Wr LI (pit LI m n)).length=(pit LI m n).length
   ·obtain ⟨e1,e2⟩:=q4 he
    left; rw [e1]; exact e2
   ·right; omega
theorem Qi2 (pu:List (BitVec 8)) (L:List Sgd) (FO:List QW) (LI:List V2) (m n:Int) (hn:L.length≤1000) (hl:LI.length≤1000) :
  ∃b,Jt (some (pu,L,FO,LI)) m n=some b∧(b=true↔(∃s∈L,s.1.1=m)∧(∃s∈L,s.1.1=n)∧Rch (prs LI) m n):=by
 unfold Jt;obtain ⟨r1,a1,a2⟩:=QfP pu L FO LI m hn;obtain ⟨r2,b1,b2⟩:=QfP pu L FO LI n hn;rw [Qb a1]
 rcases a2 with ⟨i,rfl,s,hs,hse⟩ | ⟨rfl,hno⟩
 ·rw [QQ (by simp),Qb b1,Option.bind_some]
  rcases b2 with ⟨j,rfl,t,ht,hte⟩ | ⟨rfl,hno⟩
  ·rw [QQ (by simp)];obtain ⟨t2,h1,h2⟩:=KV (f:=fun (s:Int×(List Int))=>Yv (some (pu,L,FO,LI)) s.1 s.2) (fun t=>∃k:Nat,k≤LI.length+1∧t=((k:Int),pit LI m k)) (fun t=>LI.length+1 - t.1.toNat) (fun t=>t.2=pit LI m (LI.length+1)) (by
    rintro t ⟨k,hk,rfl⟩
    simp only [Yv]
    rw [Option.bind_some]
    by_cases h:k≤LI.length
    ·left
     obtain ⟨i,hp⟩:=Ql0 pu L FO LI (pit LI m k) hl (by have:=(Qea LI m k).2.2.2.1; omega);rw [QA (by simp; omega),Qb hp,JA (by omega)];exact ⟨_,rfl,⟨k+1,by omega,rfl⟩,by dsimp only; omega⟩
    ·right
     rw [QQ (by simp; omega)];have:k=LI.length+1:=by omega
     subst this;exact ⟨_,rfl,rfl⟩) FU ((0:Int), [m]) ⟨0,by omega,rfl⟩ (Nat.lt_of_le_of_lt (Nat.sub_le _ _) (J6 (by omega)))
   obtain ⟨q1,q2,q3,q4,q5⟩:=Qea LI m (LI.length+1);have hcl:∀x∈LI,x[0]∈pit LI m (LI.length+1)→x[1]∈pit LI m (LI.length+1):=by
    rcases q5 with q5 | q5
    ·exact q5
    ·omega
   rw [Qb h1,h2,Qb (Qee _ _ (by omega))];refine ⟨_,rfl,?_⟩;rw [decide_eq_true_eq]
   constructor
   ·intro h;exact ⟨⟨s,List.mem_of_getElem? hs,hse⟩,⟨t,List.mem_of_getElem? ht,hte⟩,q3 n h⟩
   ·rintro ⟨_,_,h⟩;refine Qjd q2 (fun x hx d hd=>?_) h;obtain ⟨y,hy,hye⟩:=List.mem_map.1 hd;have e0:y[0]=x:=congrArg Prod.fst hye;have e1:y[1]=d:=congrArg Prod.snd hye;rw [←e1];exact hcl y hy (e0▸hx)
  ·rw [QA (by simp)];exact ⟨false,rfl,⟨fun h=>(by cases h),fun h=>by obtain ⟨_,⟨s,hs,hse⟩,_⟩:=h; exact absurd hse (hno s hs)⟩⟩
 ·rw [QA (by simp),Option.bind_some,QA rfl];exact ⟨false,rfl,⟨fun h=>(by cases h),fun h=>by obtain ⟨⟨s,hs,hse⟩,_⟩:=h; exact absurd hse (hno s hs)⟩⟩
end Pu
end Go.Sl
namespace Go.Sl
namespace Pu
open Go.Sl Go.Sl.M Go.Sl.Fr
abbrev Srt (l:List Sgd):Prop:=List.Pairwise (fun a b=>a.1.1 < b.1.1) l
def Okh (l:List Sgd):Prop:=∀s∈l,(1≤s.1.1∧s.1.1≤2147483647)∧s.2.length≤2000000
theorem Qe2 : ∀(l:List Sgd) (e:Int),Srt l→∃k,Bg l e k
 | [],e,_=>⟨0,Qgl e⟩
 | x::l,e,h=>by
  have hc:=List.pairwise_cons.1 h
  by_cases hx:x.1.1 < e
  ·obtain ⟨k,h1,h2,h3⟩:=Qe2 l e hc.2;refine ⟨k+1,by simp; omega,fun i hi hik=>?_,fun i hi hik=>?_⟩
   ·cases i with
    | zero=>exact hx
    | succ i=>exact h2 i (by simpa using hi) (by omega)
   ·cases i with
    | zero=>omega
    | succ i=>exact h3 i (by simpa using hi) (by omega)
  ·refine ⟨0,by simp,fun i hi h0=>by omega,fun i hi _=>?_⟩
   cases i with
   | zero=>exact Int.not_lt.1 hx
   | succ i=>
    have:=hc.1 _ (List.getElem_mem (show i < l.length by simpa using hi));have h2:e≤(l[i]'(by simpa using hi)).1.1:=by omega
    exact h2
theorem QdP {l:List Sgd} (h:Srt l){i j:Nat} (hi:i < l.length) (hj:j < l.length) (hij:i < j):l[i].1.1 < l[j].1.1:=List.pairwise_iff_getElem.1 h i j hi hj hij
theorem QeU {l:List Sgd} (h:Srt l){s t:Sgd} (hs:s∈l) (ht:t∈l) (e:s.1.1=t.1.1):s=t:=by
 obtain ⟨i,hi,rfl⟩:=List.mem_iff_getElem.1 hs;obtain ⟨j,hj,rfl⟩:=List.mem_iff_getElem.1 ht
 rcases Nat.lt_trichotomy i j with hij | hij | hij
 ·have:=QdP h hi hj hij; omega
 ·subst hij; rfl
 ·have:=QdP h hj hi hij; omega
theorem QfM {l:List Sgd}{e:Int}{k:Nat} (h:Srt l) (hk:Bg l e k) (hf:∃s∈l,s.1.1=e):∃s,l[k]? = some s∧s.1.1=e:=by
 obtain ⟨s,hs,he⟩:=hf;obtain ⟨i,hi,rfl⟩:=List.mem_iff_getElem.1 hs;have hik:k≤i:=by
  rcases Nat.lt_or_ge i k with h1 | h1
  ·have:=hk.2.1 i hi h1; omega
  ·exact h1
 have:k=i:=by
  rcases Nat.lt_or_ge k i with h1 | h1
  ·have a:=hk.2.2 k (by omega) (Nat.le_refl _);have b:=QdP h (by omega) hi h1
   omega
  ·omega
 subst this;exact ⟨_,List.getElem?_eq_getElem hi,he⟩
theorem Qc9 {l:List Sgd} (h:Okh l) (hn:l.length≤1000):QaO l:=⟨hn,fun s hs=>by have:=(h s hs).1; omega⟩
theorem QoK {n:Int} (h1 : -9223372036854775808 < n) (h2:n < 18446744073709551615) (h:n≠0):w64 n≠0:=by unfold w64; omega
theorem QaJ (pu:List (BitVec 8)) (l:List Sgd) (fo:List QC) (li:List QU) (e:Int) (ho:Okh l) (hn:l.length≤1000) (hs:Srt l) (he : -9223372036854775808≤e∧e < 9223372036854775808) :
  ∃k:Nat,J2 (some (pu,l,fo,li)) e=some ((k:Int),decide (∃s∈l,s.1.1=e))∧((∃s∈l,s.1.1=e)→∃s,l[k]? = some s∧s.1.1=e):=by
 by_cases hr:0≤e∧e≤2147483647
 ·obtain ⟨k,hk⟩:=Qe2 l e hs;refine ⟨k,?_,QfM hs hk⟩;rw [qa pu l fo li e k (Qc9 ho hn) hr hk];refine congrArg (fun b=>some ((k:Int),b)) (decide_eq_decide.2 ⟨?_,?_⟩)
  ·rintro ⟨s,h1,h2⟩;exact ⟨s,List.mem_of_getElem? h1,h2⟩
  ·intro h;obtain ⟨s,h1,h2⟩:=QfM hs hk h;exact ⟨s,by rw [h1]; rfl,h2⟩
 ·have hno:¬∃s∈l,s.1.1=e:=by
   rintro ⟨s,h1,h2⟩;have:=(ho s h1).1
   omega
  unfold J2 Jp;rw [Option.bind_some];obtain ⟨t,h1,i,hi,h2⟩:=KV (f:=fun (s:Int×Int)=>QV l e s.1 s.2) (fun (s:Int×Int)=>∃i j:Nat,s=((i:Int),(j:Int))∧i≤j∧j≤l.length) (fun (s:Int×Int)=>(s.2 - s.1).toNat) (fun s=>∃i:Nat,i≤l.length∧s.1=(i:Int)) (by
   rintro s ⟨i,j,rfl,h1,h2⟩
   simp only [QV]
   by_cases hij:i < j
   ·left
    have hm:(i+j) / 2 < l.length:=by omega
    rw [QA (by simp; omega),Qmn (by omega) hij,Option.bind_some,Qb (Jl rfl hm)];unfold Yo;rw [Option.bind_some]
    by_cases hlt:w64 (l[(i+j) / 2].1.1 - e) < 0
    ·rw [QA (by simpa using hlt),JA (n:=(((i+j) / 2:Nat):Int)+1) (by omega)];exact ⟨_,rfl,⟨(i+j) / 2+1,j,by simp,by omega,h2⟩,by dsimp only; omega⟩
    ·rw [QQ (by simpa using hlt)];exact ⟨_,rfl,⟨i,(i+j) / 2,rfl,by omega,by omega⟩,by dsimp only; omega⟩
   ·right
    rw [QQ (by simp; omega)];exact ⟨_,rfl,i,by omega,rfl⟩) FU _ ⟨0,l.length,rfl,by omega,Nat.le_refl _⟩ (Nat.lt_of_le_of_lt (show _≤l.length by dsimp only; omega) (J6 (by omega)))
  refine ⟨i,?_,fun h=>absurd h hno⟩;rw [Qb (show Jd _ FU ((0:Int),(l.length:Int))=_ from h1),h2,decide_eq_false hno]
  by_cases h:i < l.length
  ·have hsm:=(ho _ (List.getElem_mem h)).1;have hne:l[i].1.1≠e:=fun hc=>hno ⟨_,List.getElem_mem h,hc⟩
   rw [QA (by simp; omega),Qb (Jl rfl h)];unfold Yo;rw [Option.bind_some,Option.bind_some,decide_eq_false (QoK (by omega) (by omega) (by omega)),Option.bind_some]
  ·rw [QQ (by simp; omega),Option.bind_some,Option.bind_some]
def Sim (n:Nat) (l:List Sgd) (fo:List QC) (li:List Lk) (L:List Sgd) (LI:List V2):Prop:=
 Srt l∧l.Perm L∧Okh l∧(∀f∈fo,f.1.2.length≤2000000∧f.2.2.length≤2000000)∧(∀p,p∈li↔p∈prs LI)∧l.length≤n∧fo.length≤n∧li.length≤n∧LI.length≤n
theorem Qnd {l:List Sgd}{s:Sgd}{k:Nat} (h:Srt l) (hk:Bg l s.1.1 k) (hn:¬∃x∈l,x.1.1=s.1.1):Srt (l.take k++ [s]++l.drop k):=by
 have ht:∀x∈l.take k,x.1.1 < s.1.1:=fun x hx=>by
  obtain ⟨i,hi,rfl⟩:=List.mem_iff_getElem.1 hx;rw [List.length_take] at hi;rw [List.getElem_take];exact hk.2.1 i (by omega) (by omega)
 have hd:∀x∈l.drop k,s.1.1 < x.1.1:=fun x hx=>by
  have hm:=List.mem_of_mem_drop hx;obtain ⟨i,hi,rfl⟩:=List.mem_iff_getElem.1 hx;rw [List.length_drop] at hi;rw [List.getElem_drop] at hm ⊢;have a:=hk.2.2 (k+i) (by omega) (by omega);have b:l[k+i].1.1≠s.1.1:=fun hc=>hn ⟨_,hm,hc⟩
  omega
 refine List.pairwise_append.2 ⟨List.pairwise_append.2 ⟨h.sublist (List.take_sublist _ _),List.pairwise_singleton _ _,fun a ha b hb=>by rw [List.mem_singleton.1 hb]; exact ht a ha⟩,h.sublist (List.drop_sublist _ _),fun a ha b hb=>?_⟩
 rcases List.mem_append.1 ha with ha | ha
 ·have:=ht a ha; have:=hd b hb; omega
 ·rw [List.mem_singleton.1 ha]; exact hd b hb
theorem Qlh (p:(List (BitVec 8))×(List Qp)×(List QW)×(List V2)) (s:Sgd) (hn:p.2.2.1.length≤1000) :
  ∃i,Jd (fun (t:Bool×Int)=>Ym p s t.1 t.2) FU (false,(0:Int))=some (KO p.2.2.1 s.1.1,i):=by
 obtain ⟨t,h1,h2⟩:=KV (f:=fun (t:Bool×Int)=>Ym p s t.1 t.2) (fun t=>∃i:Nat,i≤p.2.2.1.length∧t=(KO (p.2.2.1.take i) s.1.1,(i:Int))) (fun t=>p.2.2.1.length - t.2.toNat) (fun t=>t.1=KO p.2.2.1 s.1.1) (by
  rintro t ⟨i,hi,rfl⟩
  simp only [Ym]
  by_cases h:i < p.2.2.1.length
  ·left
   have ht:p.2.2.1.take (i+1)=p.2.2.1.take i++ [p.2.2.1[i]]:=by simp
   have hg:KO (p.2.2.1.take (i+1)) s.1.1=(KO (p.2.2.1.take i) s.1.1||decide (p.2.2.1[i].1.1.1=s.1.1)):=by
    rw [ht]; unfold KO; rw [List.any_append]; simp only [List.any_cons,List.any_nil,Bool.or_false]
   rw [QA (by simp; omega),JA (by omega)]
   cases hb:KO (p.2.2.1.take i) s.1.1 with
   | true=>
    rw [QA rfl,Option.bind_some];exact ⟨_,rfl,⟨i+1,by omega,by rw [hg,hb]; rfl⟩,by dsimp only; omega⟩
   | false=>
    rw [QQ (by simp),Qb (Jl rfl h),Option.bind_some];exact ⟨_,rfl,⟨i+1,by omega,by rw [hg,hb]; rfl⟩,by dsimp only; omega⟩
  ·right
   rw [QQ (by simp; omega)];have:i=p.2.2.1.length:=by omega
   subst this;exact ⟨_,rfl,by rw [List.take_length]⟩) FU (false,(0:Int)) ⟨0,by omega,rfl⟩ (Nat.lt_of_le_of_lt (Nat.sub_le _ _) (J6 (by omega)))
 exact ⟨t.2,by rw [h1,←h2]⟩
theorem Qn8 {n:Nat}{l:List Sgd}{fo:List QC}{li:List Lk}{L:List Sgd}{LI:List V2} (hS:Sim n l fo li L LI) (hn:n≤60) (x:Sgd) (hx:x.2.length≤2000000) :
  ∃l' fo' L' c,Zx (J4,l,fo,li) x=some ((J4,l',fo',li),c)∧XV (J4,L,fo,LI) x=some ((J4,L',fo',LI),c)∧Sim (n+1) l' fo' li L' LI:=by
 obtain ⟨s1,s2,s3,s4,s5,s6,s7,s8,s9⟩:=hS;have hpl:=QdK;have hlen:=s2.length_eq;have hsame:Sim (n+1) l fo li L LI:=⟨s1,s2,s3,s4,s5,by omega,by omega,by omega,by omega⟩;have hg:=QhV x J4 (by omega) (by omega);have hr:=Qlt x J4 (by omega) (by omega);unfold XV;rw [Qb hr]
 by_cases hR:QcP x J4=true
 ·have hd:Bd x.1:=by
   unfold QcP at hR
   split at hR
   ·assumption
   ·cases hR
  rw [hR] at hg;have he:0≤x.1.1∧x.1.1≤2147483647:=by have:=hd.1; omega
  obtain ⟨k,hk⟩:=Qe2 l x.1.1 s1;obtain ⟨r,a1,a2⟩:=QfP J4 L fo LI x.1.1 (by omega);rw [QQ (by simp [hR]),Qb a1]
  rcases a2 with ⟨i,rfl,t,ht,hte⟩ | ⟨rfl,hno⟩
  ·have htl:t∈l:=s2.mem_iff.2 (List.mem_of_getElem? ht);obtain ⟨u,hu,hue⟩:=QfM s1 hk ⟨t,htl,hte⟩;have hut:u=t:=QeU s1 (List.mem_of_getElem? hu) htl (by omega);subst hut;obtain ⟨hkl,hku⟩:=List.getElem?_eq_some_iff.1 hu;have hlg:JU L (i:Int)=some u:=by unfold JU; rw [if_pos (by omega),Int.toNat_natCast,ht]
   rw [QA (by simp),Qb hlg]
   by_cases hh:u.1=x.1
   ·refine ⟨l,fo,L,11,Qih J4 l fo li x k hg (Qc9 s3 (by omega)) he hk hkl (by rw [hku]; exact hh),?_,hsame⟩;rw [QA (by simpa using hh)]
   ·have hgp:=Qlb J4 l fo li x k hg (Qc9 s3 (by omega)) he hk hkl (by rw [hku]; exact hte) (by rw [hku]; exact hh) hx (by rw [hku]; exact (s3 u htl).2) (by omega);rw [hku] at hgp;obtain ⟨j,hlp⟩:=Qlh (J4,L,fo,LI) x (show fo.length≤1000 by omega);rw [QQ (by simpa using hh),Qb hlp]
    dsimp only
    by_cases hf:KO fo x.1.1=true
    ·rw [if_pos hf] at hgp;refine ⟨l,fo,L,9,hgp,?_,hsame⟩;rw [hf,QQ (by simp),Option.bind_some]
    ·rw [if_neg hf] at hgp;refine ⟨l,fo++ [(u,x)],L,9,hgp,?_,s1,s2,s3,fun f hfm=>?_,s5,by omega,by simp; omega,by omega,by omega⟩
     ·rw [Bool.not_eq_true] at hf;rw [hf,QA (by simp),Qb hlg,Option.bind_some,QA (by simp [AP]; omega),Option.bind_some]
     ·rcases List.mem_append.1 hfm with hfm | hfm
      ·exact s4 f hfm
      ·rw [List.mem_singleton.1 hfm]; exact ⟨(s3 u htl).2,hx⟩
  ·have hnl:¬∃y∈l,y.1.1=x.1.1:=by
    rintro ⟨y,hy,hye⟩;exact hno y (s2.mem_iff.1 hy) hye
   have hgp:=Qe9 J4 l fo li x k hg (Qc9 s3 (by omega)) he hk (by
    rintro ⟨y,hy,hye⟩;exact hnl ⟨y,List.mem_of_getElem? hy,hye⟩) (by omega) hx
   refine ⟨_,fo,L++ [x],0,hgp,?_,Qnd s1 hk hnl,?_,fun s hs=>?_,s4,s5,?_,by omega,by omega,by omega⟩
   ·rw [QQ (by simp),QQ (by simp; omega),QA (by simp [AP]; omega)]
   ·have p1:(l.take k++ [x]++l.drop k).Perm (x::(l.take k++l.drop k)):=by
     rw [List.append_assoc];exact List.perm_middle
    rw [List.take_append_drop] at p1;exact p1.trans ((s2.cons x).trans (List.perm_append_singleton x L).symm)
   ·rcases List.mem_append.1 hs with hs | hs
    ·rcases List.mem_append.1 hs with hs | hs
     ·exact s3 s (List.mem_of_mem_take hs)
     ·rw [List.mem_singleton.1 hs]; exact ⟨hd.1,hx⟩
    ·exact s3 s (List.mem_of_mem_drop hs)
   ·have:=hk.1
    simp
    omega
 ·rw [Bool.not_eq_true] at hR;rw [hR] at hg;refine ⟨l,fo,L,8,?_,?_,hsame⟩
  ·unfold Zx;rw [Qb hg,QA (by simp)]
  ·rw [hR,QA (by simp)]
theorem Qnm {li:List Lk}{LI:List V2} (h:∀p,p∈li↔p∈prs LI){m n:Int}:Rch li m n↔Rch (prs LI) m n:=by
 constructor
 ·intro hr
  induction hr with
  | refl=>exact .refl
  | step _ hl ih=>exact .step ih ((h _).1 hl)
 ·intro hr
  induction hr with
  | refl=>exact .refl
  | step _ hl ih=>exact .step ih ((h _).2 hl)
theorem QcM {n:Nat}{l:List Sgd}{fo:List QC}{li:List Lk}{L:List Sgd}{LI:List V2} (hS:Sim n l fo li L LI) (hn:n≤60) (a b:Int) (ha : -9223372036854775808≤a∧a < 9223372036854775808) (hb : -9223372036854775808≤b∧b < 9223372036854775808) :
  ∃r,Jz (some (J4,l,fo,li)) a b=some r∧Jt (some (J4,L,fo,LI)) a b=some r:=by
 obtain ⟨s1,s2,s3,s4,s5,s6,s7,s8,s9⟩:=hS;have hlen:=s2.length_eq;obtain ⟨k1,p1,_⟩:=QaJ J4 l fo li a s3 (by omega) s1 ha;obtain ⟨k2,p2,_⟩:=QaJ J4 l fo li b s3 (by omega) s1 hb;obtain ⟨r,q1,q2⟩:=QjB J4 l fo li a b (by omega) p1 p2;obtain ⟨r2,t1,t2⟩:=Qi2 J4 L fo LI a b (by omega) (by omega);refine ⟨r,q1,?_⟩;rw [t1];refine congrArg some (Bool.eq_iff_iff.2 ?_);rw [t2,q2,decide_eq_true_eq,decide_eq_true_eq,Qnm s5];have hm:∀e:Int,(∃s∈L,s.1.1=e)↔∃s∈l,s.1.1=e:=fun e=>⟨fun ⟨s,h1,h2⟩=>⟨s,s2.mem_iff.2 h1,h2⟩,fun ⟨s,h1,h2⟩=>⟨s,s2.mem_iff.1 h1,h2⟩⟩
 rw [hm a,hm b]
theorem Ql5 {n:Nat}{l:List Sgd}{fo:List QC}{li:List Lk}{L:List Sgd}{LI:List V2} (hS:Sim n l fo li L LI) (hn:n≤60) (a b:Int) (ha : -9223372036854775808≤a∧a < 9223372036854775808) (hb : -9223372036854775808≤b∧b < 9223372036854775808) (t:Xe) (ht:t.1.length≤4000000000) :
  ∃li' LI' c,Yn (J4,l,fo,li) a b t=some ((J4,l,fo,li'),c)∧YU (J4,L,fo,LI) a b t=some ((J4,L,fo,LI'),c)∧Sim (n+1) l fo li' L LI':=by
 have hS0:=hS;obtain ⟨s1,s2,s3,s4,s5,s6,s7,s8,s9⟩:=hS;have hlen:=s2.length_eq;have hsame:Sim (n+1) l fo li L LI:=⟨s1,s2,s3,s4,s5,by omega,by omega,by omega,by omega⟩;unfold YU
 by_cases hc:a < 1∨b≤a
 ·refine ⟨li,LI,1,?_,?_,hsame⟩
  ·unfold Yn;rw [Option.bind_some,orE,Option.bind_some,QA (by simpa using hc)]
  ·rw [orE,Option.bind_some,QA (by simpa using hc)]
 ·have hab:1≤a∧a < b:=by omega
  rw [orE,Option.bind_some,QQ (by simpa using hc)];obtain ⟨k1,p1,f1⟩:=QaJ J4 l fo li a s3 (by omega) s1 ha;obtain ⟨k2,p2,f2⟩:=QaJ J4 l fo li b s3 (by omega) s1 hb;obtain ⟨r1,a1,a2⟩:=QfP J4 L fo LI a (by omega);obtain ⟨r2,b1,b2⟩:=QfP J4 L fo LI b (by omega);have QhR:¬((∃s∈l,s.1.1=a)∧∃s∈l,s.1.1=b)→Yn (J4,l,fo,li) a b t=some ((J4,l,fo,li),12):=fun hno=>by
   unfold Yn;rw [Option.bind_some,orE,Option.bind_some,QQ (by simpa using hc),Qb p1,Qb p2]
   dsimp only
   rw [orE,Option.bind_some,QA]
   by_cases h1:∃s∈l,s.1.1=a
   ·have h2:¬∃s∈l,s.1.1=b:=fun h2=>hno ⟨h1,h2⟩;rw [decide_eq_false h2]; simp
   ·rw [decide_eq_false h1]; simp
  rw [Qb a1,Qb b1,orE,Option.bind_some]
  rcases a2 with ⟨i,rfl,u,hu,hue⟩ | ⟨rfl,hno⟩
  ·have hul:u∈l:=s2.mem_iff.2 (List.mem_of_getElem? hu)
   rcases b2 with ⟨j,rfl,v,hv,hve⟩ | ⟨rfl,hno⟩
   ·have hvl:v∈l:=s2.mem_iff.2 (List.mem_of_getElem? hv);obtain ⟨u',g1,g2⟩:=f1 ⟨u,hul,hue⟩;obtain ⟨v',g3,g4⟩:=f2 ⟨v,hvl,hve⟩;have e1:u'=u:=QeU s1 (List.mem_of_getElem? g1) hul (by omega);have e2:v'=v:=QeU s1 (List.mem_of_getElem? g3) hvl (by omega);subst e1; subst e2;rw [decide_eq_true ⟨u',hul,hue⟩] at p1;rw [decide_eq_true ⟨v',hvl,hve⟩] at p2;have hgl:=QmF J4 l fo li a b t hab p1 p2 g1 g3 ht (by omega);have l1:JU L (i:Int)=some u':=by unfold JU; rw [if_pos (by omega),Int.toNat_natCast,hu]
    have l2:JU L (j:Int)=some v':=by unfold JU; rw [if_pos (by omega),Int.toNat_natCast,hv]
    rw [QQ (by simp),Qb l1,Qb l2,Qb (Qob t a b _ _ ht)]
    by_cases hg:isG t a b u'.1.2.2.2 v'.1.2.2.2=true
    ·rw [if_pos hg] at hgl;refine ⟨_,LI++ [#v[a,b]],0,hgl,?_,s1,s2,s3,s4,fun p=>?_,by omega,by omega,?_,by simp; omega⟩
     ·rw [QQ (by simp [hg]),Option.bind_some,QA (by simp [AP]; omega)]
     ·have hpr:prs (LI++ [#v[a,b]])=prs LI++ [(a,b)]:=by simp [prs]
      rw [hpr,List.mem_append,List.mem_singleton,←s5 p]
      split
      ·rename_i hin
       exact ⟨.inl,fun h=>h.elim id (fun h=>h▸hin)⟩
      ·rw [List.mem_append,List.mem_singleton]
     ·split
      ·omega
      ·simp; omega
    ·rw [if_neg hg] at hgl;refine ⟨li,LI,9,hgl,?_,hsame⟩;rw [QA (by simpa using hg)]
   ·refine ⟨li,LI,12,QhR (fun h=>?_),by rw [QA (by simp)],hsame⟩;obtain ⟨s,h1,h2⟩:=h.2;exact hno s (s2.mem_iff.1 h1) h2
  ·refine ⟨li,LI,12,QhR (fun h=>?_),by rw [QA (by simp)],hsame⟩;obtain ⟨s,h1,h2⟩:=h.1;exact hno s (s2.mem_iff.1 h1) h2
end Pu
end Go.Sl
namespace Go.Sl
namespace Pu
open Go.Sl Go.Sl.M Go.Sl.Fr
theorem Qms (pu:List (BitVec 8)) (FO:List QW) (LI:List V2){l L:List Sgd} (hs:Srt l) (hp:l.Perm L) (hn:l.length≤1000) (last:Int){k:Nat} (hk:k < l.length) (h1:last < l[k].1.1) (h2:∀s∈l,last < s.1.1→l[k].1.1≤s.1.1) :
  ∃(b:Nat) (z:Int),Jd (fun (s:Int×Int)=>ZX (pu,L,FO,LI) last s.1 s.2) FU ((-1:Int),(0:Int))=some ((b:Int),z)∧L[b]? = some l[k]:=by
 have hlen:=hp.length_eq;obtain ⟨t,e1,b,e2,e3⟩:=KV (f:=fun (s:Int×Int)=>ZX (pu,L,FO,LI) last s.1 s.2) (fun t=>∃i:Nat,i≤L.length∧t.2=(i:Int)∧((t.1 = -1∧∀j (h:j < L.length),j < i→¬last < L[j].1.1)∨∃(b:Nat) (hb:b < L.length),t.1=(b:Int)∧last < L[b].1.1∧∀j (h:j < L.length),j < i→last < L[j].1.1→L[b].1.1≤L[j].1.1)) (fun t=>L.length - t.2.toNat) (fun t=>∃b:Nat,t.1=(b:Int)∧L[b]? = some l[k]) (by
  rintro ⟨y,i'⟩ ⟨i,hi,rfl,h⟩
  simp only [ZX]
  by_cases hil:i < L.length
  ·left
   rw [QA (by simp; omega),Qb (Jl rfl hil),JA (n:=(i:Int)+1) (by omega)];have hno:∀(y:Int) (h:(y = -1∧∀j (h:j < L.length),j < i+1→¬last < L[j].1.1)∨∃(b:Nat) (hb:b < L.length),y=(b:Int)∧last < L[b].1.1∧∀j (h:j < L.length),j < i+1→last < L[j].1.1→L[b].1.1≤L[j].1.1),∃s',some (LR.next (ρ:=Empty) (y,(i:Int)+1))=some (.next s')∧(∃i:Nat,i≤L.length∧s'.2=(i:Int)∧((s'.1 = -1∧∀j (h:j < L.length),j < i→¬last < L[j].1.1)∨∃(b:Nat) (hb:b < L.length),s'.1=(b:Int)∧last < L[b].1.1∧∀j (h:j < L.length),j < i→last < L[j].1.1→L[b].1.1≤L[j].1.1))∧L.length - s'.2.toNat < L.length - i:=fun y h=>⟨_,rfl,⟨i+1,by omega,rfl,h⟩,by dsimp only; omega⟩
   have hstep:∀j,j < i+1→j < i∨j=i:=fun j hj=>by omega
   by_cases hlt:last < L[i].1.1
   ·rw [QA (by simpa using hlt)]
    rcases h with ⟨rfl,h⟩ | ⟨b,hb,rfl,hbl,h⟩
    ·rw [QA (by simp),Option.bind_some,Option.bind_some,QA rfl];refine hno _ (.inr ⟨i,hil,rfl,hlt,fun j hj hji hjl=>?_⟩)
     rcases hstep j hji with h' | h'
     ·exact absurd hjl (h j hj h')
     ·subst h'; exact Int.le_refl _
    ·rw [QQ (by simp),Qb (Jl rfl hil),Qb (Jl rfl hb),Option.bind_some,Option.bind_some]
     by_cases hc:L[i].1.1 < L[b].1.1
     ·rw [QA (by simpa using hc)];refine hno _ (.inr ⟨i,hil,rfl,hlt,fun j hj hji hjl=>?_⟩)
      rcases hstep j hji with h' | h'
      ·have:=h j hj h' hjl; omega
      ·subst h'; exact Int.le_refl _
     ·rw [QQ (by simpa using hc)];refine hno _ (.inr ⟨b,hb,rfl,hbl,fun j hj hji hjl=>?_⟩)
      rcases hstep j hji with h' | h'
      ·exact h j hj h' hjl
      ·subst h'; omega
   ·rw [QQ (by simpa using hlt),Option.bind_some,QQ (by simp)]
    rcases h with ⟨rfl,h⟩ | ⟨b,hb,rfl,hbl,h⟩
    ·refine hno _ (.inl ⟨rfl,fun j hj hji=>?_⟩)
     rcases hstep j hji with h' | h'
     ·exact h j hj h'
     ·subst h'; exact hlt
    ·refine hno _ (.inr ⟨b,hb,rfl,hbl,fun j hj hji hjl=>?_⟩)
     rcases hstep j hji with h' | h'
     ·exact h j hj h' hjl
     ·subst h'; exact absurd hjl hlt
  ·right
   rw [QQ (by simp; omega)];refine ⟨_,rfl,?_⟩;have hkL:l[k]∈L:=hp.mem_iff.1 (List.getElem_mem hk);obtain ⟨j,hj,hjk⟩:=List.mem_iff_getElem.1 hkL
   rcases h with ⟨rfl,h⟩ | ⟨b,hb,rfl,hbl,h⟩
   ·have:=h j hj (by omega);rw [hjk] at this;exact absurd h1 this
   ·refine ⟨b,rfl,?_⟩;have a1:=h j hj (by omega) (by rw [hjk]; exact h1);rw [hjk] at a1;have hbl':L[b]∈l:=hp.mem_iff.2 (List.getElem_mem hb);have a2:=h2 _ hbl' hbl;rw [List.getElem?_eq_getElem hb,QeU hs hbl' (List.getElem_mem hk) (by omega)]) FU ((-1:Int),(0:Int)) ⟨0,by omega,rfl, .inl ⟨rfl,fun j _ h=>by omega⟩⟩ (Nat.lt_of_le_of_lt (Nat.sub_le _ _) (J6 (by omega)))
 exact ⟨b,t.2,by rw [e1,←e2],e3⟩
theorem Qgp (pu:List (BitVec 8)) (FO:List QW) (LI:List V2){l L:List Sgd} (hs:Srt l) (hp:l.Perm L) (ho:Okh l) (hn:l.length≤1000):YC (pu,L,FO,LI)=some l:=by
 have hlen:=hp.length_eq;unfold YC;obtain ⟨t,h1,h2⟩:=KV (f:=fun (s:Int×Int×(List Qp))=>YG (pu,L,FO,LI) s.1 s.2.1 s.2.2) (fun t=>∃k:Nat,k≤l.length∧t.2.1=(k:Int)∧t.2.2=l.take k∧(k=0→t.1=0)∧∀(j:Nat) (h:j < l.length),j+1=k→t.1=l[j].1.1) (fun t=>l.length - t.2.1.toNat) (fun t=>t.2.2=l) (by
  rintro ⟨last,k',out⟩ ⟨k,hk,rfl,rfl,g1,g2⟩
  dsimp only at g1 g2
  simp only [YG]
  by_cases h:k < l.length
  ·left
   have a1:last < l[k].1.1:=by
    rcases Nat.eq_zero_or_pos k with h0 | h0
    ·have:=(ho _ (List.getElem_mem h)).1;rw [g1 h0]; omega
    ·rw [g2 (k - 1) (by omega) (by omega)];exact QdP hs _ _ (by omega)
   have a2:∀s∈l,last < s.1.1→l[k].1.1≤s.1.1:=fun s hsm hl=>by
    obtain ⟨j,hj,rfl⟩:=List.mem_iff_getElem.1 hsm
    rcases Nat.lt_trichotomy j k with hjk | hjk | hjk
    ·have e:=g2 (k - 1) (by omega) (by omega)
     rcases Nat.lt_or_ge j (k - 1) with h' | h'
     ·have:=QdP hs hj (show k - 1 < l.length by omega) h'
      omega
     ·have:j=k - 1:=by omega
      subst this
      omega
    ·subst hjk; exact Int.le_refl _
    ·have:=QdP hs h hj hjk; omega
   obtain ⟨b,z,e1,e2⟩:=Qms pu FO LI hs hp hn last h a1 a2;have hlg:JU L (b:Int)=some l[k]:=by unfold JU; rw [if_pos (by omega),Int.toNat_natCast,e2]
   have hlt:(l.take k).length=k:=by rw [List.length_take]; omega
   rw [QA (by simp; omega),Qb e1]
   dsimp only
   rw [Qb hlg,QA (by simp [AP]; omega),Qb hlg,JA (by omega)];refine ⟨_,rfl,⟨k+1,by omega,rfl,by simp,fun h=>by omega,fun j hj hjk=>?_⟩,by dsimp only; omega⟩;have:j=k:=by omega
   subst this; rfl
  ·right
   rw [QQ (by simp; omega)];have:k=l.length:=by omega
   subst this;exact ⟨_,rfl,by rw [List.take_length]⟩) FU ((0:Int),(0:Int),([]:List Qp)) ⟨0,by omega,rfl,rfl,fun _=>rfl,fun j _ h=>by omega⟩ (Nat.lt_of_le_of_lt (Nat.sub_le _ _) (J6 (by omega)))
 rw [Qb h1,h2]
theorem QjJ (p:JR):XU (some p)=YC p:=rfl
theorem QhO {α:Type}{l:List α}{i:Int}{x:α} (h:JU l i=some x):x∈l:=by
 unfold JU at h
 split at h
 ·exact List.mem_of_getElem? h
 ·cases h
section
variable {n : Nat} {l : List Sgd} {fo : List QC} {li : List Lk} {L : List Sgd} {LI : List V2} (hS : Sim n l fo li L LI) (hn : n ≤ 60)
include hS hn
theorem Qmd : ∃g,KW (some (J4,l,fo,li))=some g∧Xy (some (J4,L,fo,LI))=some g∧g.length≤1000:=by
 have hS0:=hS;obtain ⟨s1,s2,s3,s4,s5,s6,s7,s8,s9⟩:=hS;have hlk:∀x∈l,∀y∈l,∃r,Jz (some (J4,l,fo,li)) x.1.1 y.1.1=some r∧Jt (some (J4,L,fo,LI)) x.1.1 y.1.1=some r:=fun x hx y hy=>by
  have a:=(s3 x hx).1;have b:=(s3 y hy).1;exact QcM hS0 hn _ _ (by omega) (by omega)
 have hf:(fun (s:Int×(List (Vector Int 2)))=>YV l (some (J4,L,fo,LI)) s.1 s.2)=(fun (s:Int×(List (Vector Int 2)))=>YY (some (J4,l,fo,li)) s.1 s.2):=funext fun s=>by
  simp only [YV,YY]
  rw [Option.bind_some]
  by_cases h:s.1 < (l.length:Int)
  ·rw [QA (by simpa using h),QA (by simpa using h),Option.bind_some]
   cases h1:JU l (w64 (s.1 - 1)) with
   | none=>rfl
   | some x=>
    rw [Option.bind_some,Option.bind_some,Option.bind_some]
    cases h2:JU l s.1 with
    | none=>rfl
    | some y=>
     obtain ⟨r,e1,e2⟩:=hlk x (QhO h1) y (QhO h2)
     simp only [Option.bind_some,e1,e2]
  ·rw [QQ (by simpa using h),QQ (by simpa using h)]
 unfold KW Xy;rw [QQ (by simp),QjJ,Qb (Qgp J4 fo LI s1 s2 s3 (by omega)),hf];obtain ⟨t,h1,h2⟩:=KV (f:=fun (s:Int×(List (Vector Int 2)))=>YY (some (J4,l,fo,li)) s.1 s.2) (fun t=>∃j:Nat,t.1=(j:Int)∧1≤j∧t.2.length≤j∧j≤l.length+1) (fun t=>1000 - t.1.toNat) (fun t=>t.2.length≤1000) (by
  rintro ⟨j',out⟩ ⟨j,rfl,hj,ho,hjl⟩
  dsimp only at ho
  simp only [YY]
  rw [Option.bind_some]
  by_cases h:j < l.length
  ·left
   have hj1:j - 1 < l.length:=by omega
   obtain ⟨r,e1,e2⟩:=hlk _ (List.getElem_mem hj1) _ (List.getElem_mem h);rw [QA (by simp; omega),Option.bind_some,JA (n:=(j:Int) - 1) (by omega),Qb (Jl (k:=j - 1) (by omega) hj1),Option.bind_some,Qb (Jl rfl h),Qb e1,JA (by omega)]
   cases r with
   | true=>rw [QQ (by simp)]; exact ⟨_,rfl,⟨j+1,rfl,by omega,by dsimp only; omega,by omega⟩,by dsimp only; omega⟩
   | false=>
    rw [QA (by simp),Option.bind_some,QA (by simp [AP]; omega)];exact ⟨_,rfl,⟨j+1,rfl,by omega,by simp; omega,by omega⟩,by dsimp only; omega⟩
  ·right
   rw [QQ (by simp; omega)];exact ⟨_,rfl,by dsimp only; omega⟩) FU ((1:Int),([]:List (Vector Int 2))) ⟨1,rfl,by omega,by simp,by omega⟩ (Nat.lt_of_le_of_lt (Nat.sub_le _ _) (J6 (by omega)))
 exact ⟨t.2,by rw [Qb h1],by rw [Qb h1],h2⟩
theorem Qg1 (s:Sgd) (h:s.2.length≤2000000):Xx s s=some true:=by
 unfold Xx;rw [QA (by simp),Qb (Qkc s.2 s.2 (by omega)),Option.bind_some]
 simp
theorem QoX (s:Sgd):YL s=some s:=by unfold YL; rw [Option.bind_some]
theorem Ql4 : ∃p q,Kv (J4,l,fo,li) (J4,L,fo,LI)=some (p,q,true):=by
 have hS0:=hS;obtain ⟨s1,s2,s3,s4,s5,s6,s7,s8,s9⟩:=hS;unfold Kv;have hg:=Qgs J4 l fo li (by omega) (fun s hs=>(s3 s hs).2);have hr:=Qgp J4 fo LI s1 s2 s3 (by omega);have hf:=QkZ J4 l fo li (by omega) s4;rw [Qb hg,Qb hr,QQ (by simp),Qb hf,Option.bind_some,QQ (by simp)];obtain ⟨o,h1,h2⟩:=Vo (f:=fun (s:Int)=>Ve l l (J4,l,fo,li) (J4,L,fo,LI) s) (fun t=>∃i:Nat,t=(i:Int)∧i≤l.length) (fun t=>l.length - t.toNat) (fun o=>match o with | .inl _=>True | .inr _=>False) (by
  rintro t ⟨i,rfl,hi⟩
  simp only [Ve]
  by_cases h:i < l.length
  ·left
   rw [QA (by simp; omega),Qb (Jl rfl h),Qb (QoX hS0 hn _),Qb (Jl rfl h),Qb (Qg1 hS0 hn _ (s3 _ (List.getElem_mem h)).2),QQ (by simp),JA (by omega)];exact ⟨_,rfl,⟨i+1,rfl,by omega⟩,by omega⟩
  ·right; left
   rw [QQ (by simp; omega)];exact ⟨_,rfl,trivial⟩) FU (0:Int) ⟨0,rfl,by omega⟩ (Nat.lt_of_le_of_lt (Nat.sub_le _ _) (J6 (by omega)))
 rw [Qb h1]
 cases o with
 | inr x=>exact h2.elim
 | inl t=>
  dsimp only
  rw [Qb hf];obtain ⟨o,g1,g2⟩:=Vo (f:=fun (s:Int)=>Vc fo (J4,L,fo,LI) (J4,l,fo,li) s) (fun t=>∃i:Nat,t=(i:Int)∧i≤fo.length) (fun t=>fo.length - t.toNat) (fun o=>match o with | .inl _=>True | .inr _=>False) (by
   rintro t ⟨i,rfl,hi⟩
   simp only [Vc]
   by_cases h:i < fo.length
   ·left
    have hm:=s4 _ (List.getElem_mem h);rw [QA (by simp; omega),Qb (Jl rfl h),Qb (QoX hS0 hn _),Qb (Jl rfl h),Qb (Qg1 hS0 hn _ hm.1),QQ (by simp),Qb (Jl rfl h),Qb (QoX hS0 hn _),Qb (Jl rfl h),Qb (Qg1 hS0 hn _ hm.2),Option.bind_some,QQ (by simp),JA (by omega)];exact ⟨_,rfl,⟨i+1,rfl,by omega⟩,by omega⟩
   ·right; left
    rw [QQ (by simp; omega)];exact ⟨_,rfl,trivial⟩) FU (0:Int) ⟨0,rfl,by omega⟩ (Nat.lt_of_le_of_lt (Nat.sub_le _ _) (J6 (by omega)))
  rw [Qb g1]
  cases o with
  | inr x=>exact g2.elim
  | inl t=>exact ⟨_,_,rfl⟩
end
end Pu
end Go.Sl
namespace Go.Sl
namespace Pu
open Go.Sl Go.Sl.M Go.Sl.Fr
abbrev Qlu :=Zw
def OkT (o:Qlu):Prop:=o.2.2.2.2.2.1.length≤70∧o.2.2.2.2.2.2.length≤70
theorem Qpd (l:List Qlu):∃b,KS l 12=some b∧(b=true→l.length≤12∧∀o∈l,OkT o):=by
 unfold KS;obtain ⟨o,h1,h2⟩:=Vo (f:=fun (s:Int)=>VM l s) (fun t=>∃i:Nat,t=(i:Int)∧i≤100∧∀j (h:j < l.length),j < i→OkT l[j]) (fun t=>100 - t.toNat) (fun o=>match o with | .inl _=>l.length≤12→∀o∈l,OkT o | .inr r=>r=false) (by
  rintro t ⟨i,rfl,hi,hj⟩
  simp only [VM]
  by_cases h:i < l.length
  ·rw [QA (by simp; omega),Option.bind_some]
   by_cases h100:i < 100
   ·rw [QA (by simp; omega),Qb (Jl rfl h)]
    by_cases hok:OkT l[i]
    ·left
     have hok':=hok;obtain ⟨k1,k2⟩:=hok';rw [QQ (by simp; omega),Qb (Jl rfl h),Option.bind_some,QQ (by simp; omega),JA (by omega)];refine ⟨_,rfl,⟨i+1,rfl,by omega,fun j hjl hji=>?_⟩,by omega⟩
     rcases Nat.lt_or_ge j i with h' | h'
     ·exact hj j hjl h'
     ·have:j=i:=by omega
      subst this; exact hok
    ·right; right
     refine ⟨false,?_,rfl⟩
     by_cases ha:l[i].2.2.2.2.2.1.length≤70
     ·have hb:¬l[i].2.2.2.2.2.2.length≤70:=fun hb=>hok ⟨ha,hb⟩;rw [QQ (by simp; omega),Qb (Jl rfl h),Option.bind_some,QA (by simp; omega)]
     ·rw [QA (by simp; omega),Option.bind_some,QA rfl]
   ·right; left
    rw [QQ (by simp; omega)];exact ⟨_,rfl,fun h12=>by omega⟩
  ·right; left
   rw [QQ (by simp; omega),Option.bind_some,QQ (by simp)];refine ⟨_,rfl,fun _ o ho=>?_⟩;obtain ⟨j,hjl,rfl⟩:=List.mem_iff_getElem.1 ho;exact hj j hjl (by omega)) FU (0:Int) ⟨0,rfl,by omega,fun j _ h=>by omega⟩ (Nat.lt_of_le_of_lt (Nat.sub_le _ _) (J6 (by omega)))
 rw [Qb h1]
 cases o with
 | inl t=>
  refine ⟨_,rfl,fun h=>?_⟩;have hl:l.length≤12:=by
   have:=of_decide_eq_true h
   omega
  exact ⟨hl,h2 hl⟩
 | inr r=>
  have:r=false:=h2;subst this;exact ⟨false,rfl,fun h=>by cases h⟩
theorem QiM {s:Sg} (hI:IsS 1 2 3 K3 s) (h:Za):∃(s':Sg) (g:List (BitVec 8)),Zj s h=some (s',(h,g))∧IsS 1 2 3 K3 s'∧g.length≤2000000:=by
 by_cases hh:Bd h
 ·obtain ⟨s',h1,h2⟩:=QhI hI h hh;exact ⟨s',_,h1,h2,QbP h⟩
 ·have he:=QdO h;rw [if_neg hh] at he;refine ⟨s, [],?_,hI,by simp⟩;unfold Zj WB;rw [Qb he,QA (by simp),Option.bind_some,Option.bind_some]
theorem QoV {s:Sg} (hI:IsS 1 2 3 K3 s) (o:Qlu):∃(s':Sg) (x:Sgd),Vm s o=some (s',x)∧IsS 1 2 3 K3 s'∧x.2.length≤2000000:=by
 obtain ⟨s',g,h1,h2,h3⟩:=QiM hI o.2.1;unfold Vm;rw [Qb (show Zj (s.1,s.2.1,s.2.2.1,s.2.2.2.1,s.2.2.2.2.1,s.2.2.2.2.2) o.2.1=_ from h1)]
 dsimp only
 by_cases hc:(o.2.2.1&&decide ((0:Int) < (g.length:Int)))=true
 ·have hpos:0 < g.length:=by
   rw [Bool.and_eq_true,decide_eq_true_eq] at hc
   omega
  have hi:w64 (Int.tdiv (g.length:Int) 2)=((g.length / 2:Nat):Int):=by
   rw [Int.tdiv_eq_ediv_of_nonneg (by omega),JA (by omega)]; omega
  rw [QA hc,hi,Qb (Jl rfl (show g.length / 2 < g.length by omega))];exact ⟨s',_,rfl,h2,by simpa using h3⟩
 ·rw [QQ hc];exact ⟨s',_,rfl,h2,h3⟩
theorem Qm0 (o:Qlu) (ho:OkT o):∃t,X3 o=some t∧t.1.length≤4000000000:=by
 unfold X3;rw [orE,Option.bind_some,orE,Option.bind_some,orE,Option.bind_some]
 by_cases hc:(((!decide (o.1=(3:Int)))||decide (o.2.2.2.1 < (0:Int)))||decide (o.2.2.2.2.1 < o.2.2.2.1))||decide ((40:Int) < o.2.2.2.2.1)
 ·rw [QA hc];exact ⟨_,rfl,by have:=ho.1; omega⟩
 ·rw [QQ hc]
  simp only [Bool.or_eq_true,decide_eq_true_eq,not_or] at hc
  obtain ⟨n,hn⟩:∃n:Nat,o.2.2.2.2.1=(n:Int):=⟨o.2.2.2.2.1.toNat,by omega⟩;rw [hn,Qb (QnT n (by omega)),Qb (Qjw (Qfj n) o.2.2.2.1 (by rw [QfA]; omega))];exact ⟨_,rfl,by have:=(Ql2 (Qfj n) o.2.2.2.1).1; rw [QfA] at this; omega⟩
abbrev QoQ :=Int×(List (BitVec 8))×(List Qp)×(List QW)×(List (Vector Int 2))×(List (BitVec 8))×(List Qy)×(List QC)×(List QU)×Sg
theorem QjP {n:Nat}{l:List Sgd}{fo:List QC}{li:List Lk}{L:List Sgd}{LI:List V2} (hS:Sim n l fo li L LI) (hn:n≤60) (a b:Int) (ha : -9223372036854775808≤a∧a < 9223372036854775808) (hb : -9223372036854775808≤b∧b < 9223372036854775808){σ:Type} (nx:Option (LR σ Bool)) :
  (Option.bind (Jz (some (J4,l,fo,li)) a b) fun r19=>
   Option.bind (Jt (some (J4,L,fo,LI)) a b) fun r20=>
   Option.bind (if (!(r19==r20))=true then (some true) else (
   Option.bind (Jz (some (J4,l,fo,li)) b a) fun r21=>
   Option.bind (Jt (some (J4,L,fo,LI)) b a) fun r22=>
   some (!(r21==r22)))) fun y19=>
   if (y19)=true then (some (.ret false)) else nx)=nx:=by
 obtain ⟨r,e1,e2⟩:=QcM hS hn a b ha hb;obtain ⟨r',e3,e4⟩:=QcM hS hn b a hb ha;rw [Qb e1,Qb e2,QQ (by simp),Qb e3,Qb e4,Option.bind_some,QQ (by simp)]
theorem QoB (script:List Qlu) (hl:script.length≤12) (hT:∀o∈script,OkT o) (hw:∀o∈script,(-9223372036854775808≤o.2.2.2.1∧o.2.2.2.1 < 9223372036854775808)∧(-9223372036854775808≤o.2.2.2.2.1∧o.2.2.2.2.1 < 9223372036854775808)){s:Sg} (hI:IsS 1 2 3 K3 s) :
  ∃o,Yf (fun (s:QoQ)=>ZL script s.1 s.2.1 s.2.2.1 s.2.2.2.1 s.2.2.2.2.1 s.2.2.2.2.2.1 s.2.2.2.2.2.2.1 s.2.2.2.2.2.2.2.1 s.2.2.2.2.2.2.2.2.1 s.2.2.2.2.2.2.2.2.2.1 s.2.2.2.2.2.2.2.2.2.2.1 s.2.2.2.2.2.2.2.2.2.2.2.1 s.2.2.2.2.2.2.2.2.2.2.2.2.1 s.2.2.2.2.2.2.2.2.2.2.2.2.2.1 s.2.2.2.2.2.2.2.2.2.2.2.2.2.2) FU ((0:Int),J4, [], [], [],J4, [], [], [],s)=some o∧match o with | .inl t=>∃(i:Int) (l:List Sgd) (fo:List QC) (li:List Lk) (L:List Sgd) (LI:List V2) (s:Sg),t=(i,J4,L,fo,LI,J4,l,fo,li,s)∧Sim 24 l fo li L LI | .inr _=>False:=by
 refine Vo (f:=fun (s:QoQ)=>ZL script s.1 s.2.1 s.2.2.1 s.2.2.2.1 s.2.2.2.2.1 s.2.2.2.2.2.1 s.2.2.2.2.2.2.1 s.2.2.2.2.2.2.2.1 s.2.2.2.2.2.2.2.2.1 s.2.2.2.2.2.2.2.2.2.1 s.2.2.2.2.2.2.2.2.2.2.1 s.2.2.2.2.2.2.2.2.2.2.2.1 s.2.2.2.2.2.2.2.2.2.2.2.2.1 s.2.2.2.2.2.2.2.2.2.2.2.2.2.1 s.2.2.2.2.2.2.2.2.2.2.2.2.2.2) (fun t=>∃(i:Nat) (l:List Sgd) (fo:List QC) (li:List Lk) (L:List Sgd) (LI:List V2) (s:Sg),t=((i:Int),J4,L,fo,LI,J4,l,fo,li,s)∧i≤script.length∧Sim (2*i) l fo li L LI∧IsS 1 2 3 K3 s) (fun t=>script.length - t.1.toNat) (fun o=>match o with | .inl t=>∃(i:Int) (l:List Sgd) (fo:List QC) (li:List Lk) (L:List Sgd) (LI:List V2) (s:Sg),t=(i,J4,L,fo,LI,J4,l,fo,li,s)∧Sim 24 l fo li L LI | .inr _=>False) ?_ FU _ ⟨0, [], [], [], [], [],s,rfl,by omega,⟨List.Pairwise.nil,List.Perm.refl _,fun s hs=>(by cases hs),fun f hf=>(by cases hf),fun p=>by simp [prs],by simp,by simp,by simp,by simp⟩,hI⟩ (Nat.lt_of_le_of_lt (Nat.sub_le _ _) (J6 (by omega)));rintro t ⟨i,l,fo,li,L,LI,s,rfl,hi,hS,hI⟩
 simp only [ZL]
 by_cases h:i < script.length
 ·left
  have hm:=List.getElem_mem h;have ho:=hT _ hm;obtain ⟨wa,wb⟩:=hw _ hm;rw [QA (by simp; omega),Qb (Jl rfl h),JA (n:=(i:Int)+1) (by omega)];obtain ⟨t,g1,g2⟩:=Qm0 _ ho;have hfin:∀(l:List Sgd) (fo:List QC) (li:List Lk) (L:List Sgd) (LI:List V2) (s:Sg),Sim (2*(i+1)) l fo li L LI→IsS 1 2 3 K3 s→∃s',some (LR.next (ρ:=Bool) (((i:Int)+1,J4,L,fo,LI,J4,l,fo,li,s):QoQ))=some (.next s')∧(∃(i:Nat) (l:List Sgd) (fo:List QC) (li:List Lk) (L:List Sgd) (LI:List V2) (s:Sg),s'=((i:Int),J4,L,fo,LI,J4,l,fo,li,s)∧i≤script.length∧Sim (2*i) l fo li L LI∧IsS 1 2 3 K3 s)∧script.length - s'.1.toNat < script.length - i:=fun l fo li L LI s hS hI=>⟨_,rfl,⟨i+1,l,fo,li,L,LI,s,rfl,by omega,hS,hI⟩,by dsimp only; omega⟩
  have hup:∀ {m:Nat}{l:List Sgd}{fo:List QC}{li:List Lk}{L:List Sgd}{LI:List V2},m≤2*(i+1)→Sim m l fo li L LI→Sim (2*(i+1)) l fo li L LI:=fun hmn hS=>by
   obtain ⟨s1,s2,s3,s4,s5,s6,s7,s8,s9⟩:=hS;exact ⟨s1,s2,s3,s4,s5,by omega,by omega,by omega,by omega⟩
  by_cases h1:script[i].1=(1:Int)
  ·rw [QA (by simpa using h1)];obtain ⟨s2,x,m1,m2,m3⟩:=QoV hI script[i];obtain ⟨l',fo',L',c,p1,p2,p3⟩:=Qn8 hS (by omega) x m3;rw [Qb (show Vm (s.1,s.2.1,s.2.2.1,s.2.2.2.1,s.2.2.2.2.1,s.2.2.2.2.2) script[i]=_ from m1)]
   dsimp only
   rw [Qb p1,Qb (show YL x=some x by unfold YL; rw [Option.bind_some]),Qb p2]
   dsimp only
   rw [QQ (by simp),orE,Option.bind_some,QQ (by simp [h1]),QjP p3 (by omega) _ _ wa wb];exact hfin _ _ _ _ _ _ (hup (by omega) p3) m2
  ·rw [QQ (by simpa using h1),orE,Option.bind_some]
   by_cases h2:script[i].1=(2:Int)∨script[i].1=(3:Int)
   ·obtain ⟨li',LI',c,p1,p2,p3⟩:=Ql5 hS (by omega) _ _ wa wb t g2;rw [QA (by simpa using h2),Qb g1,Qb p1,Qb p2]
    dsimp only
    rw [QQ (by simp),QjP p3 (by omega) _ _ wa wb];exact hfin _ _ _ _ _ _ (hup (by omega) p3) hI
   ·rw [QQ (by simpa using h2),QjP hS (by omega) _ _ wa wb];exact hfin _ _ _ _ _ _ (hup (by omega) hS) hI
 ·right; left
  rw [QQ (by simp; omega)];obtain ⟨s1,s2,s3,s4,s5,s6,s7,s8,s9⟩:=hS;exact ⟨_,rfl,(i:Int),l,fo,li,L,LI,s,rfl,s1,s2,s3,s4,s5,by omega,by omega,by omega,by omega⟩
theorem QoL (g:List V2) (hg:g.length≤1000):∃o,Yf (fun (s:Int)=>ZM g g s) FU (0:Int)=some o∧match o with | .inl _=>True | .inr _=>False:=by
 refine Vo (f:=fun (s:Int)=>ZM g g s) (fun t=>∃i:Nat,t=(i:Int)∧i≤g.length) (fun t=>g.length - t.toNat) (fun o=>match o with | .inl _=>True | .inr _=>False) ?_ FU _ ⟨0,rfl,by omega⟩ (Nat.lt_of_le_of_lt (Nat.sub_le _ _) (J6 (by omega)));rintro t ⟨i,rfl,hi⟩
 simp only [ZM]
 by_cases h:i < g.length
 ·left
  rw [QA (by simp; omega),Option.bind_some,QA (by simp; omega),Qb (Jl rfl h),Qb (Jl rfl h),QQ (by simp),JA (by omega)];exact ⟨_,rfl,⟨i+1,rfl,by omega⟩,by omega⟩
 ·right; left
  rw [QQ (by simp; omega),Option.bind_some,QQ (by simp)];exact ⟨_,rfl,trivial⟩
theorem gossipPlays (script:List Qlu) (hw:∀o∈script,(-9223372036854775808≤o.2.2.2.1∧o.2.2.2.1 < 9223372036854775808)∧(-9223372036854775808≤o.2.2.2.2.1∧o.2.2.2.2.1 < 9223372036854775808)):Xd script=some true:=by
 unfold Xd;obtain ⟨b,hb,hb2⟩:=Qpd script;rw [Qb QjY,QQ (by decide),Qb hb,Option.bind_some]
 cases b with
 | false=>rw [QA (by rfl),Qb QjY]
 | true=>
  obtain ⟨hl,hT⟩:=hb2 rfl;rw [QQ (by decide)];obtain ⟨s,hs,hI⟩:=Qie;have qx:Ys s=some J4:=QfC ih1 hI;rw [Qb hs,show ((s.1,s.2.1,s.2.2.1,s.2.2.2.1,s.2.2.2.2.1,s.2.2.2.2.2):Sg)=s from rfl,Qb qx,Qb (Qka J4 QdK),Qb qx];obtain ⟨o,h1,h2⟩:=QoB script hl hT hw hI;rw [Qb (show Yf _ FU ((0:Int),J4, [], [], [],J4, [], [], [],s)=_ from h1)]
  cases o with
  | inr t=>exact h2.elim
  | inl t=>
   obtain ⟨i,l,fo,li,L,LI,s2,rfl,hS⟩:=h2;obtain ⟨g,g1,g2,g3⟩:=Qmd hS (by omega);obtain ⟨o,q1,q2⟩:=QoL g g3;obtain ⟨p,q,hsm⟩:=Ql4 hS (by omega)
   dsimp only
   rw [Qb g1,Qb g2,Qb q1]
   cases o with
   | inr t=>exact q2.elim
   | inl t=>
    dsimp only
    rw [Qb hsm,QA rfl,Option.bind_some]
    simp
end Pu
end Go.Sl
namespace Go.Sl
abbrev Mem :=Nat→Nat→Option Value
def Mle (m m':Mem):Prop:=∀b o v,m b o=some v→m' b o=some v
theorem Mle.refl (m:Mem):Mle m m:=fun _ _ _ h=>h
theorem Mle.trans {a b c:Mem} (h:Mle a b) (k:Mle b c):Mle a c:=fun _ _ _ e=>k _ _ _ (h _ _ _ e)
structure Slot where
 p:Mem→Value→Prop
 mono:∀ {m m':Mem}{v:Value},Mle m m'→p m v→p m' v
abbrev Env :=List (Nat×Slot)
def lk : Env→Nat→Option Slot
 | [],_=>none
 | (t',s)::Γ,t=>bif Nat.beq t' t then some s else lk Γ t
def Vg (Γ:Env) (m:Mem) (a:Act):Prop:=∀t s,lk Γ t=some s→s.p m (a.tmps.getD t undef)
abbrev Hp :=List (Nat×TypeId×List Value)
def Hp.bs (hs:Hp):List Nat:=hs.map (·.1)
structure Ent where
 p:Mem→Hp→Prop
 mono:∀ {m m':Mem}{h:Hp},Mle m m'→p m h→p m' h
def Sat : List Ent→Mem→Hp→Prop
 | [],_,hs=>hs = []
 | e::es,m,hs=>∃h1 h2,hs=h1++h2∧e.p m h1∧Sat es m h2
theorem Sat.mono {m m':Mem} (hm:Mle m m'):∀ {H:List Ent}{hs:Hp},Sat H m hs→Sat H m' hs
 | [],_,h=>h
 | _::_,_,⟨h1,h2,e,p,q⟩=>⟨h1,h2,e,Ent.mono _ hm p,Sat.mono hm q⟩
theorem Sat.append {m:Mem}:∀ {H1 H2:List Ent}{h1 h2:Hp},Sat H1 m h1→Sat H2 m h2→Sat (H1++H2) m (h1++h2)
 | [],_,_,_,h,k=>by cases h; simpa using k
 | e::_,_,_,_,⟨a,b,he,p,q⟩,k=>⟨a,b++_,by simp [he],p,Sat.append q k⟩
theorem Sat.split {m:Mem}:∀ {H1 H2:List Ent}{hs:Hp},Sat (H1++H2) m hs→∃h1 h2,hs=h1++h2∧Sat H1 m h1∧Sat H2 m h2
 | [],_,hs,h=>⟨[],hs,rfl,rfl,h⟩
 | e::_,_,_,⟨a,b,he,p,q⟩=>by
  obtain ⟨c,d,hb,r,s⟩:=Sat.split q;exact ⟨a++c,d,by simp [he,hb],⟨a,c,rfl,p,r⟩,s⟩
structure Zk (m:Mem) (hs:Hp) (w:World):Prop where
 mem:∀b o v,m b o=some v→w.cell? ⟨b,o,none⟩=some v
 nodup:hs.bs.Nodup
 blk:∀h∈hs,w.heap[h.1]? = some (.cells h.2.2.toArray h.2.1 (0,0))
 free:∀h∈hs,∀o,m h.1 o=none
structure Frm (w w':World) (m m':Mem) (bs bs':List Nat):Prop where
 os:w'.os=w.os
 tape:w'.tape=w.tape
 output:w'.output=w.output
 size:w.heap.size≤w'.heap.size
 old:∀b,b < w.heap.size→b∉bs→w'.heap[b]? = w.heap[b]?∧∀o,m' b o=m b o
 own:∀b∈bs',b∈bs∨w.heap.size≤b
 le:Mle m m'
theorem Frm.refl (w:World) (m:Mem) (bs:List Nat):Frm w w m m bs bs:=⟨rfl,rfl,rfl,Nat.le_refl _,fun _ _ _=>⟨rfl,fun _=>rfl⟩,fun _ h=> .inl h,Mle.refl _⟩
theorem Frm.trans {w w1 w2:World}{m m1 m2:Mem}{b0 b1 b2:List Nat} (h:Frm w w1 m m1 b0 b1) (k:Frm w1 w2 m1 m2 b1 b2):Frm w w2 m m2 b0 b2 where
 os:=k.os.trans h.os
 tape:=k.tape.trans h.tape
 output:=k.output.trans h.output
 size:=Nat.le_trans h.size k.size
 old:=fun b hb hn=>by
  have h1:=h.old b hb hn;have hn1:b∉b1:=fun e=>(h.own b e).elim hn (fun e'=>absurd hb (Nat.not_lt.2 e'))
  have h2:=k.old b (Nat.lt_of_lt_of_le hb h.size) hn1;exact ⟨h2.1.trans h1.1,fun o=>(h2.2 o).trans (h1.2 o)⟩
 own:=fun b hb=>(k.own b hb).elim (h.own b) (fun e=> .inr (Nat.le_trans h.size e))
 le:=h.le.trans k.le
theorem Frm.sub {w w1:World}{m m1:Mem}{b0 b1 b2:List Nat} (h:Frm w w1 m m1 b0 b1) (k:∀b∈b2,b∈b1):Frm w w1 m m1 b0 b2:=
 {h with own:=fun b hb=>h.own b (k b hb)}
theorem Frm.wide {w w1:World}{m m1:Mem}{b0 b1:List Nat} (r:List Nat) (h:Frm w w1 m m1 b0 b1):Frm w w1 m m1 (b0++r) (b1++r):=
 {h with
  old:=fun b hb hn=>h.old b hb (fun e=>hn (List.mem_append.2 (.inl e)))
  own:=fun b hb=>(List.mem_append.1 hb).elim (fun e=>(h.own b e).imp (fun e=>List.mem_append.2 (.inl e)) id) (fun e=> .inl (List.mem_append.2 (.inr e)))}
structure GP where
 p:Mem→Prop
 mono:∀ {m m':Mem},Mle m m'→p m→p m'
structure Ctx where
 P:Program
 N:Nat
 G:GP
 m0:Mem
 w0:World
 b0:List Nat
 ro:Option Nat:=none
 mm:Bool:=false
def fen (r:Option Nat):Fence:={Fence.wide with round:=r}
theorem QdJ (r:Option Nat) (f:FuncId):(fen r).fn f:=trivial
theorem Qgz (r:Option Nat):(fen r).depth.isSome=true→1≤0:=fun h=>by cases h
theorem Qej {r:Option Nat}{n:Nat}{P:Program}{f:FuncId}{args:Array Value}{w:World}{R:Ending→World→Prop}:CallsIn (fen r) n P f args w R↔Calls P f args w R:=callsIn_wide (n:=n)
abbrev QnS (D:Nat):Deferred:=⟨.collected D,#[]⟩
def Dfr (c:Ctx) (ds:List Deferred) (w:World):Prop:=
 match c.mm with
 | false=>ds = []
 | true=>∃Ds:List Nat,ds=Ds.map QnS∧Ds.Nodup∧∀D∈Ds,c.w0.heap.size≤D∧w.heap[D]? = some (.deferred (some []))
theorem Zk.neD {m:Mem}{hs:Hp}{w:World} (hg:Zk m hs w){l:Nat}{o:Obj} (ho:w.heap[l]? = some o) (hc:o.isCells=false):l∉hs.bs:=by
 intro h;obtain ⟨x,hx,rfl⟩:=List.mem_map.1 h;have:=hg.blk x hx;rw [ho] at this;have:=Option.some.inj this;subst this
 cases hc
theorem Dfr.step {c:Ctx}{ds:List Deferred}{w w':World}{m m':Mem}{hs:Hp}{bs:List Nat} (h:Dfr c ds w) (hg:Zk m hs w) (hf:Frm w w' m m' hs.bs bs):Dfr c ds w':=by
 unfold Dfr at *
 cases hm:c.mm with
 | false=>rw [hm] at h; exact h
 | true=>
  rw [hm] at h;obtain ⟨Ds,e,hn,hD⟩:=h;refine ⟨Ds,e,hn,fun D hd=>⟨(hD D hd).1,?_⟩⟩;have h1:=(hD D hd).2;exact (hf.old D (Array.getElem?_eq_some_iff.1 h1).1 (hg.neD h1 rfl)).1.trans h1
theorem Dfr.none {c:Ctx}{ds:List Deferred}{w:World} (h:Dfr c ds w) (hm:c.mm=false):ds = []:=by
 unfold Dfr at h; rw [hm] at h; exact h
def St (c:Ctx) (Γ:Env) (H:List Ent) (a:Act) (w:World):Prop:=
 Dfr c a.defers w∧a.tmps.size=c.N∧∃m hs,Zk m hs w∧c.G.p m∧Vg Γ m a∧Sat H m hs∧Frm c.w0 w c.m0 m c.b0 hs.bs
theorem Vg.mono {Γ:Env}{m m':Mem}{a:Act} (hm:Mle m m') (h:Vg Γ m a):Vg Γ m' a:=fun t s e=>s.mono hm (h t s e)
theorem Yc (d:Nat) (s:Slot) (Γ:Env):lk ((d,s)::Γ) d=some s:=by simp [lk]
theorem XF {d t:Nat} (h:d≠t) (s:Slot) (Γ:Env):lk ((d,s)::Γ) t=lk Γ t:=by
 show (bif Nat.beq d t then some s else lk Γ t)=lk Γ t
 cases hb:Nat.beq d t
 ·rfl
 ·exact absurd (Nat.eq_of_beq_eq_true hb) h
theorem Uo {a:Act}{d:Nat}{v:Value} (h:d < a.tmps.size):(a.put (some d) v).tmps.getD d undef=v:=by
 simp [Act.put,Array.getD,h]
theorem By {a:Act}{d t:Nat}{v:Value} (h:d≠t):(a.put (some d) v).tmps.getD t undef=a.tmps.getD t undef:=by
 simp only [Act.put,Array.getD]
 by_cases ht:t < a.tmps.size
 ·simp [ht,Array.getElem_setIfInBounds,h]
 ·simp [ht]
theorem Vg.put {Γ:Env}{m:Mem}{a:Act}{d:Nat}{s:Slot}{v:Value} (h:Vg Γ m a) (hd:d < a.tmps.size) (hv:s.p m v) :
  Vg ((d,s)::Γ) m (a.put (some d) v):=by
 intro t s' e
 by_cases ht:d=t
 ·subst ht;rw [Yc] at e
  cases e
  rw [Uo hd];exact hv
 ·rw [XF ht] at e;rw [By ht];exact h t s' e
theorem Ku (a:Act) (d:Option Nat) (v:Value):(a.put d v).tmps.size=a.tmps.size:=by
 cases d<;>simp [Act.put]
theorem XG (a:Act) (d:Option Nat) (v:Value):(a.put d v).defers=a.defers:=by
 cases d<;>simp [Act.put]
inductive Pick {α:Type}:List α→α→List α→Prop
 | here {e:α}{t:List α}:Pick (e::t) e t
 | next {x e:α}{t t':List α}:Pick t e t'→Pick (x::t) e (x::t')
theorem Pick.perm {α:Type}{l:List α}{e:α}{r:List α} (h:Pick l e r):l.Perm (e::r):=by
 induction h with
 | here=>exact List.Perm.refl _
 | next _ ih=>exact (List.Perm.cons _ ih).trans (List.Perm.swap _ _ _)
theorem Sat.pick {m:Mem}{H:List Ent}{e:Ent}{H':List Ent} (k:Pick H e H'):∀ {hs:Hp},Sat H m hs→∃h1 h2,hs.Perm (h1++h2)∧e.p m h1∧Sat H' m h2:=by
 induction k with
 | here=>intro hs ⟨h1,h2,he,p,q⟩; exact ⟨h1,h2,he▸List.Perm.refl _,p,q⟩
 | next _ ih=>
  intro hs ⟨h1,h2,he,p,q⟩;obtain ⟨g1,g2,hp,r,s⟩:=ih q;refine ⟨g1,h1++g2,?_,r,h1,g2,rfl,p,s⟩;rw [he];exact ((List.Perm.append_left h1 hp).trans (by rw [←List.append_assoc,←List.append_assoc]; exact List.Perm.append_right g2 List.perm_append_comm))
theorem Zk.perm {m:Mem}{hs hs':Hp}{w:World} (h:Zk m hs w) (p:hs.Perm hs'):Zk m hs' w where
 mem:=h.mem
 nodup:=(p.map _).nodup_iff.1 h.nodup
 blk:=fun x hx=>h.blk x (p.mem_iff.2 hx)
 free:=fun x hx=>h.free x (p.mem_iff.2 hx)
theorem Zk.sub {m:Mem}{hs hs':Hp}{w:World} (h:Zk m (hs++hs') w):Zk m hs' w where
 mem:=h.mem
 nodup:=by
  have:=h.nodup
  simp only [Hp.bs,List.map_append] at this
  exact (List.nodup_append.1 this).2.1
 blk:=fun x hx=>h.blk x (List.mem_append.2 (.inr hx))
 free:=fun x hx=>h.free x (List.mem_append.2 (.inr hx))
theorem Hp.bs_append (a b:Hp):Hp.bs (a++b)=a.bs++b.bs:=List.map_append
theorem Frm.perm {w w1:World}{m m1:Mem}{b0:List Nat}{hs hs':Hp} (h:Frm w w1 m m1 b0 hs.bs) (p:hs.Perm hs'):Frm w w1 m m1 b0 hs'.bs:=
 h.sub fun b hb=>((p.map _).mem_iff).2 hb
section
variable {c : Ctx} {Γ Γ' : Env} {H H' : List Ent} {a : Act} {w : World}
theorem St.pick {e:Ent} (h:St c Γ H a w) (k:Pick H e H'):St c Γ (e::H') a w:=by
 obtain ⟨hd,hn,m,hs,hg,hG,he,hsat,hf⟩:=h;obtain ⟨h1,h2,hp,p,q⟩:=hsat.pick k;exact ⟨hd,hn,m,h1++h2,hg.perm hp,hG,he,⟨h1,h2,rfl,p,q⟩,hf.perm hp⟩
theorem St.drop {e:Ent} (h:St c Γ (e::H) a w):St c Γ H a w:=by
 obtain ⟨hd,hn,m,hs,hg,hG,he,⟨h1,h2,rfl,_,q⟩,hf⟩:=h;exact ⟨hd,hn,m,h2,hg.sub,hG,he,q,hf.sub fun b hb=>by rw [Hp.bs_append]; exact List.mem_append.2 (.inr hb)⟩
inductive Keep : List Ent→List Ent→Prop
 | nil {H:List Ent}:Keep H []
 | cons {H H1 H2:List Ent}{e:Ent}:Pick H e H1→Keep H1 H2→Keep H (e::H2)
theorem Sat.keep {H H':List Ent} (k:Keep H H'):∀ {m:Mem}{hs:Hp},Sat H m hs→∃r hs',hs.Perm (r++hs')∧Sat H' m hs':=by
 induction k with
 | nil=>intro m hs _; exact ⟨hs, [],by simp,rfl⟩
 | cons k _ ih=>
  intro m hs h;obtain ⟨h1,h2,hp,p,q⟩:=h.pick k;obtain ⟨r,h3,hp2,q3⟩:=ih q;refine ⟨r,h1++h3,hp.trans ((List.Perm.append_left h1 hp2).trans ?_),h1,h3,rfl,p,q3⟩;rw [←List.append_assoc,←List.append_assoc];exact List.Perm.append_right h3 List.perm_append_comm
theorem St.keep (h:St c Γ H a w) (k:Keep H H'):St c Γ H' a w:=by
 obtain ⟨hd,hn,m,hs,hg,hG,he,hsat,hf⟩:=h;obtain ⟨r,hs',hp,q⟩:=hsat.keep k;have hg':=hg.perm hp;exact ⟨hd,hn,m,hs',hg'.sub,hG,he,q,(hf.perm hp).sub fun b hb=>by rw [Hp.bs_append]; exact List.mem_append.2 (.inr hb)⟩
def Imp (Γ:Env) (t:Nat) (s:Slot):Prop:=∀m a,Vg Γ m a→s.p m (a.tmps.getD t undef)
inductive SubE : Env→Env→Prop
 | nil {Γ:Env}:SubE Γ []
 | cons {Γ Γ':Env}{t:Nat}{s:Slot}:Imp Γ t s→SubE Γ Γ'→SubE Γ ((t,s)::Γ')
theorem Imp.of_lk {Γ:Env}{t:Nat}{s:Slot} (h:lk Γ t=some s):Imp Γ t s:=fun _ _ e=>e t s h
theorem SubE.ok {Γ Γ':Env} (h:SubE Γ Γ'):∀ {m:Mem}{a:Act},Vg Γ m a→Vg Γ' m a:=by
 induction h with
 | nil=>intro m a _ t s e; simp [lk] at e
 | @cons Γ' t s h1 _ ih=>
  intro m a he t' s' e
  by_cases ht:t=t'
  ·subst ht;rw [Yc] at e
   cases e
   exact h1 m a he
  ·rw [XF ht] at e;exact ih he t' s' e
theorem St.sub (h:St c Γ H a w) (k:SubE Γ Γ'):St c Γ' H a w:=by
 obtain ⟨hd,hn,m,hs,hg,hG,he,hsat,hf⟩:=h;exact ⟨hd,hn,m,hs,hg,hG,k.ok he,hsat,hf⟩
end
def q7 (P:Program) (k:Value→World→Prop):Result Next→Prop
 | .ok (.value v) w=>k v w
 | .ok .skip w=>k undef w
 | .ok (.enter f args) w=>Calls P f args w fun e w'=>∃v,e = .returned v∧k v w'
 | .ok (.round l f tmps assign body) w=>RoundIn Fence.wide 0 P l f tmps assign body w fun e w'=>∃v,e = .returned v∧k v w'
 | _=>False
theorem q7.noDefer {P:Program}{o:Oper}{ρ:Operand→Value}{w:World}{k:Value→World→Prop} (h:q7 P k ((execOp ρ o).run P w)):∀c,o.op≠ .defer c:=by
 intro c hc;unfold execOp at h;rw [hc] at h
 simp only [Sem.run_bind] at h
 generalize (resolve ρ c _).run P w=r at h
 cases r with
 | halt x w'=>exact h.elim
 | ok d w'=>exact h.elim
theorem q7.wp {P:Program}{r:Option Nat}{o:Oper}{a:Act}{w:World}{k:Value→World→Prop}{K:Act→World→Prop}{Q:Exit→Act→World→Prop}
  (h:q7 P k ((execOp a.eval o).run P w)) (hk:∀v w',k v w'→K (a.put o.dst v) w'):o.wpIn (fen r) 0 P a w K Q:=by
 refine ⟨fun f _=>QdJ r f,?_⟩;rw [Oper.semAt_eq _ _ _ h.noDefer]
 generalize (execOp a.eval o).run P w=r at h
 cases r with
 | halt x w'=>exact h.elim
 | ok n w'=>
  cases n with
  | value v=>exact hk _ _ h
  | skip=>exact hk _ _ h
  | enter f args=>
   refine ⟨Qgz _,Qej.2 (Calls.mono h ?_)⟩;rintro e w'' ⟨v,rfl,hv⟩;exact hk _ _ hv
  | round l f tmps assign body=>
   refine ⟨Qgz _,RoundIn.mono h ?_⟩;rintro e w'' ⟨v,rfl,hv⟩;exact hk _ _ hv
  | _=>exact h.elim
theorem q7.mono {P:Program}{k k':Value→World→Prop}{r:Result Next} (h:q7 P k r) (hk:∀v w,k v w→k' v w):q7 P k' r:=by
 cases r with
 | halt x w'=>exact h.elim
 | ok n w'=>
  cases n with
  | value v=>exact hk _ _ h
  | skip=>exact hk _ _ h
  | enter f args=>
   refine Calls.mono h ?_;rintro e w'' ⟨v,rfl,hv⟩;exact ⟨v,rfl,hk _ _ hv⟩
  | round l f tmps assign body=>
   refine RoundIn.mono h ?_;rintro e w'' ⟨v,rfl,hv⟩;exact ⟨v,rfl,hk _ _ hv⟩
  | _=>exact h.elim
def Opd (Γ:Env) (m:Mem) (a:Act):Operand→Prop
 | .tmp t=>∀s,lk Γ t=some s→s.p m (a.tmps.getD t undef)
 | _=>True
def QgH (o:Oper) (Γ:Env) (m:Mem) (a:Act):Prop:=∀x∈o.op.operands,Opd Γ m a x
theorem Vg.opd {Γ:Env}{m:Mem}{a:Act} (h:Vg Γ m a) (x:Operand):Opd Γ m a x:=by
 cases x<;>simp only [Opd]
 exact fun s e=>h _ s e
def Has (Γ:Env) (x:Operand) (s:Slot):Prop:=∀m a,Opd Γ m a x→s.p m (a.eval x)
theorem Ya {Γ:Env}{t:Nat}{s:Slot} (h:lk Γ t=some s):Has Γ (.tmp t) s:=fun _ _ k=>k s h
def PJ (c:Ctx) (o:Oper) (Γ:Env) (H:List Ent) (s:Slot):Prop:=
 ∀m hs a w,Zk m hs w→c.G.p m→Sat H m hs→QgH o Γ m a→
  q7 c.P (fun v w'=>∃m',Zk m' hs w'∧s.p m' v∧Frm w w' m m' [] []) ((execOp a.eval o).run c.P w)
def J9 (c:Ctx) (full:Array Oper) (l:List Oper) (Γ:Env) (H:List Ent) (K:Act→World→Prop):Prop:=
 ∀a w Q,(∀a' w',K a' w'→Q .normal a' w')→St c Γ H a w→wpListIn (fen c.ro) 0 c.P full Q l a w
theorem Sat.frm {H:List Ent}{m m':Mem}{hs:Hp}{w w':World} (h:Sat H m hs) (f:Frm w w' m m' [] []):Sat H m' hs:=h.mono f.le
theorem Frm.keepOwn {w w':World}{m m':Mem} (f:Frm w w' m m' [] []) (bs:List Nat):Frm w w' m m' bs bs:=by simpa using f.wide bs
section
variable {c : Ctx} {full : Array Oper} {l : List Oper} {Γ Γ' : Env} {H H' : List Ent} {K : Act → World → Prop}
theorem QcK {o:Oper}{d:Nat}{s:Slot} (h:PJ c o Γ H s) (hg:o.guard=none) (hd:o.dst=some d) (hN:Nat.blt d c.N=true)
  (k:J9 c full l ((d,s)::Γ) H K):J9 c full (o::l) Γ H K:=by
 intro a w Q hQ ⟨hdf,hn,m,hs,hgd,hG,he,hsat,hf⟩;refine wpListIn_plain hg fun K' hK'=>?_;refine q7.wp (h m hs a w hgd hG hsat fun x _=>he.opd x) ?_;rintro v w' ⟨m',hgd',hv,hfr⟩;refine hK' _ _ (k _ w' Q hQ ⟨by rw [XG]; exact hdf.step hgd (hfr.keepOwn _),by rw [Ku]; exact hn,m',hs,hgd',c.G.mono hfr.le hG,?_,hsat.frm hfr,hf.trans (hfr.keepOwn _)⟩);rw [hd];exact (he.mono hfr.le).put (by rw [hn]; simpa [Nat.blt_eq] using hN) hv
theorem Qnl (h:Keep H H') (k:J9 c full l Γ H' K):J9 c full l Γ H K:=fun a w Q hQ hst=>k a w Q hQ (hst.keep h)
theorem Qpe (h:SubE Γ Γ') (k:J9 c full l Γ' H K):J9 c full l Γ H K:=fun a w Q hQ hst=>k a w Q hQ (hst.sub h)
theorem Qeh {o:Oper}{j:Nat}{want:Bool}{t:Nat}{s:Slot} (hg:o.guard=some (j,want)) (hj:(full[j]?).bind (·.dst)=some t) (hN:Nat.blt t c.N=true)
  (hl:lk Γ t=some s) (hb:∀m v,s.p m v→v = .bool want)
  (k:J9 c full ({o with guard:=none}::l) Γ H K):J9 c full (o::l) Γ H K:=by
 intro a w Q hQ hst;have hst':=hst;obtain ⟨hdf,hn,m,hs,hgd,hG,he,hsat,hf⟩:=hst;have hv:=hb m _ (he t s hl);have hlt:t < a.tmps.size:=by rw [hn]; simpa [Nat.blt_eq] using hN
 have hy:yielded full a.tmps j=some want:=by
  simp only [yielded,hj,Option.bind_some,Array.getElem?_eq_getElem hlt]
  simp only [Array.getD,hlt,dite_true] at hv
  simp only [Array.getInternal_eq_getElem] at hv
  rw [hv]
 have hk:=k a w Q hQ hst';have hw:Region.wanted o (yielded full a.tmps)=true:=by simp [Region.wanted,hg,hy]
 have hw':Region.wanted {o with guard:=none} (yielded full a.tmps)=true:=rfl
 simp only [wpListIn,hw,hw',if_true] at hk ⊢
 exact hk
end
section
variable {c : Ctx} {Γ Γ' : Env} {H H' : List Ent} {a : Act} {w : World} {Q : Exit → Act → World → Prop}
end
def BI (m:Mem):List Slot→List Value→Prop
 | [],vs=>vs = []
 | s::ss,vs=>∃v vs',vs=v::vs'∧s.p m v∧BI m ss vs'
theorem BI.mono {m m':Mem} (hm:Mle m m'):∀ {ss:List Slot}{vs:List Value},BI m ss vs→BI m' ss vs
 | [],_,h=>h
 | s::_,_,⟨v,vs',e,p,q⟩=>⟨v,vs',e,s.mono hm p,BI.mono hm q⟩
def Ctr (P:Program) (G:GP) (f:FuncId) (A:List Slot) (E:List Ent){ι:Type} (ρ:ι→Slot) (ε:ι→List Ent):Prop:=
 ∀m w vs hs,Zk m hs w→G.p m→BI m A vs→Sat E m hs→
  Calls P f vs.toArray w fun e w'=>∃v m' hs' i,e = .returned v∧Zk m' hs' w'∧(ρ i).p m' v∧Sat (ε i) m' hs'∧Frm w w' m m' hs.bs hs'.bs
def QbL (c:Ctx){ι:Type} (ρ:ι→Slot) (ε:ι→List Ent) (e:Ending) (w':World):Prop:=
 ∃v m' hs' i,e = .returned v∧Zk m' hs' w'∧(ρ i).p m' v∧Sat (ε i) m' hs'∧Frm c.w0 w' c.m0 m' c.b0 hs'.bs
def QaW : Nat→List Slot→Env
 | _, []=> []
 | k,s::ss=>(k,s)::QaW (k+1) ss
theorem Qdu {m:Mem}:∀(ss:List Slot) (k:Nat) (vs pre post:List Value),BI m ss vs→pre.length=k→
  ∀t s,lk (QaW k ss) t=some s→s.p m ((pre++vs++post).toArray.getD t undef)
 | [],_,_,_,_,_,_,_,_,e=>by simp [QaW,lk] at e
 | s0::ss,k,vs,pre,post,⟨v,vs',hvs,p,q⟩,hk,t,s,e=>by
  subst hvs
  by_cases ht:k=t
  ·subst ht
   simp only [QaW,Yc] at e
   cases e
   have:(pre++(v::vs')++post).toArray.getD k undef=v:=by
    simp [Array.getD,←hk]
   rw [this]; exact p
  ·simp only [QaW] at e
   rw [XF ht] at e;have:=Qdu ss (k+1) vs' (pre++ [v]) post q (by simp [hk]) t s e
   simpa using this
theorem BI.length {m:Mem}:∀ {ss:List Slot}{vs:List Value},BI m ss vs→vs.length=ss.length
 | [],_,h=>by cases h; rfl
 | _::_,_,⟨_,_,e,_,q⟩=>by subst e; simp [q.length]
theorem Qil {P:Program}{G:GP}{f:FuncId}{fn:Func}{code:Code}{N:Nat}{A:List Slot}{E:List Ent}{ι:Type}{ρ:ι→Slot}{ε:ι→List Ent}
  (hf:P.funcs[f]? = some fn) (hb:fn.body=some code) (hN:fn.ntmps=N) (hA:Nat.ble A.length N=true)
  (h:∀c:Ctx,c.P=P→c.N=N→c.G=G→c.ro=none→c.mm=false→∀a w,St c (QaW 0 A) E a w→code.wpIn (fen none) 0 P (bodyPost P fn (QbL c ρ ε)) a w):Ctr P G f A E ρ ε:=by
 intro m w vs hs hg hG hvs hsat;have hst:St ⟨P,N,G,m,w,hs.bs,none,false⟩ (QaW 0 A) E {tmps:=vs.toArray++Array.replicate (fn.ntmps - vs.toArray.size) undef,defers:= []} w:=by
  refine ⟨rfl,?_,m,hs,hg,hG,?_,hsat,Frm.refl _ _ _⟩
  ·have:=hvs.length
   simp only [Array.size_append,List.size_toArray,Array.size_replicate,hN,this]
   have:=Nat.ble_eq▸hA
   omega
  ·intro t s e;have:=Qdu A 0 vs [] (List.replicate (fn.ntmps - vs.toArray.size) undef) hvs rfl t s e;have e2:(([]:List Value)++vs++List.replicate (fn.ntmps - vs.toArray.size) undef).toArray=vs.toArray++Array.replicate (fn.ntmps - vs.toArray.size) undef:=by simp
   rw [e2] at this;exact this
 have hw:=h ⟨P,N,G,m,w,hs.bs,none,false⟩ rfl rfl rfl rfl rfl _ w hst;have hc:=calls_of_wp (R:=QbL ⟨P,N,G,m,w,hs.bs,none,false⟩ ρ ε) hf hb (wpIn_wide.1 hw);refine hc.mono ?_;intro e w' hp;exact hp
end Go.Sl
namespace Go.Sl
structure Rep (α:Type) where
 n:Nat
 ag:Bool
 rel:Mem→List Value→α→Prop
 mono:∀ {m m':Mem}{cs:List Value}{x:α},Mle m m'→rel m cs x→rel m' cs x
 len:∀ {m:Mem}{cs:List Value}{x:α},rel m cs x→cs.length=n
 cell:∀ {m:Mem}{cs:List Value}{x:α},rel m cs x→∀v∈cs,v.oneCell'=true
 one:ag=false→n=1
section
variable {α β : Type}
def Rep.is (R:Rep α) (m:Mem) (v:Value) (x:α):Prop:=
 match R.ag with
 | true=>∃cs:List Value,v = .agg cs.toArray∧R.rel m cs x
 | false=>R.rel m [v] x
theorem Rep.is_mono (R:Rep α){m m':Mem}{v:Value}{x:α} (hm:Mle m m') (h:R.is m v x):R.is m' v x:=by
 unfold Rep.is at *
 cases hb:R.ag with
 | true=>simp only [hb] at h ⊢; obtain ⟨cs,e,hr⟩:=h; exact ⟨cs,e,R.mono hm hr⟩
 | false=>simp only [hb] at h ⊢; exact R.mono hm h
def Rep.slot (R:Rep α) (x:α):Slot:=⟨fun m v=>R.is m v x,fun hm h=>R.is_mono hm h⟩
theorem WN {v:Value} (h:v.oneCell'=true):v.cells = #[v]:=by
 cases v<;>first | rfl | (simp [Value.oneCell'] at h)
theorem Rep.is_cells {R:Rep α}{m:Mem}{v:Value}{x:α} (h:R.is m v x):∃cs:List Value,v.cells=cs.toArray∧R.rel m cs x:=by
 unfold Rep.is at h
 cases hb:R.ag with
 | true=>simp only [hb] at h; obtain ⟨cs,rfl,hr⟩:=h; exact ⟨cs,rfl,hr⟩
 | false=>simp only [hb] at h; exact ⟨[v],WN (R.cell h v (by simp)),h⟩
def Yg (ag:Bool) (cs:List Value):Value:=
 match ag with
 | true=> .agg cs.toArray
 | false=>cs.headD undef
theorem Rep.is_of {R:Rep α}{m:Mem}{cs:List Value}{x:α} (h:R.rel m cs x):R.is m (Yg R.ag cs) x:=by
 unfold Rep.is Yg
 cases hb:R.ag with
 | true=>exact ⟨cs,rfl,h⟩
 | false=>
  have:=R.len h;rw [R.one hb] at this
  match cs,this with
  | [v],_=>exact h
def Zm (R:Rep α) (m:Mem):List Value→List α→Prop
 | cs, []=>cs = []
 | cs,x::xs=>∃c cs',cs=c++cs'∧R.rel m c x∧Zm R m cs' xs
theorem Zm.mono {R:Rep α}{m m':Mem} (hm:Mle m m'):∀ {xs:List α}{cs:List Value},Zm R m cs xs→Zm R m' cs xs
 | [],_,h=>h
 | _::_,_,⟨c,cs',e,p,q⟩=>⟨c,cs',e,R.mono hm p,Zm.mono hm q⟩
theorem Zm.length {R:Rep α}{m:Mem}:∀ {xs:List α}{cs:List Value},Zm R m cs xs→cs.length=xs.length*R.n
 | [],_,h=>by simp [Zm] at h; simp [h]
 | _::xs,_,⟨c,cs',e,p,q⟩=>by
  rw [e,List.length_append,R.len p,Zm.length q,List.length_cons,Nat.add_mul,Nat.one_mul,Nat.add_comm]
theorem Zm.cell {R:Rep α}{m:Mem}:∀ {xs:List α}{cs:List Value},Zm R m cs xs→∀v∈cs,v.oneCell'=true
 | [],_,h,v,hv=>by simp [Zm] at h; simp [h] at hv
 | _::xs,_,⟨c,cs',e,p,q⟩,v,hv=>by
  rw [e,List.mem_append] at hv;exact hv.elim (R.cell p v) (Zm.cell q v)
theorem Zm.append {R:Rep α}{m:Mem}:∀ {xs ys:List α}{cs ds:List Value},Zm R m cs xs→Zm R m ds ys→Zm R m (cs++ds) (xs++ys)
 | [],_,_,_,h,k=>by simp [Zm] at h; simpa [h] using k
 | _::_,_,_,_,⟨c,cs',e,p,q⟩,k=>⟨c,cs'++_,by rw [e,List.append_assoc],p,Zm.append q k⟩
theorem Zm.split {R:Rep α}{m:Mem}:∀ {xs ys:List α}{cs:List Value},Zm R m cs (xs++ys)→
  Zm R m (cs.take (xs.length*R.n)) xs∧Zm R m (cs.drop (xs.length*R.n)) ys
 | [],ys,cs,h=>by simpa [Zm] using h
 | x::xs,ys,cs,⟨c,cs',e,p,q⟩=>by
  have ⟨h1,h2⟩:=Zm.split q;have hl:=R.len p;have e1:(x::xs).length*R.n=c.length+xs.length*R.n:=by rw [List.length_cons,Nat.add_mul,hl]; omega
  rw [e1,e];refine ⟨⟨c,cs'.take (xs.length*R.n),?_,p,h1⟩,?_⟩
  ·rw [List.take_append]; simp [List.take_of_length_le]
  ·rw [List.drop_append]; simpa [List.drop_of_length_le] using h2
theorem Zm.single {R:Rep α}{m:Mem}{x:α}{cs:List Value} (h:R.rel m cs x):Zm R m cs [x]:=⟨cs, [],by simp,h,rfl⟩
theorem Zm.of_single {R:Rep α}{m:Mem}{x:α}{cs:List Value} (h:Zm R m cs [x]):R.rel m cs x:=by
 obtain ⟨c,cs',e,p,q⟩:=h
 simp [Zm] at q
 subst q
 simpa [e] using p
theorem QiL {xs:List α}{i:Nat} (h:i < xs.length):xs=xs.take i++([xs[i]]++xs.drop (i+1)):=by
 rw [List.singleton_append,←List.drop_eq_getElem_cons h,List.take_append_drop]
theorem Zm.get {R:Rep α}{m:Mem}{xs:List α}{cs:List Value}{i:Nat} (h:Zm R m cs xs) (hi:i < xs.length) :
  R.rel m ((cs.drop (i*R.n)).take R.n) xs[i]:=by
 rw [QiL hi] at h;have ⟨_,h2⟩:=Zm.split h;have ⟨h3,_⟩:=Zm.split h2;have:=h3.of_single
 simpa [Nat.min_eq_left (Nat.le_of_lt hi)] using this
theorem Zm.set {R:Rep α}{m:Mem}{xs:List α}{cs ds:List Value}{i:Nat}{y:α} (h:Zm R m cs xs) (hi:i < xs.length) (hy:R.rel m ds y) :
  Zm R m (cs.take (i*R.n)++ds++cs.drop (i*R.n+R.n)) (xs.set i y):=by
 have e:xs.set i y=xs.take i++([y]++xs.drop (i+1)):=by
  rw [List.set_eq_take_append_cons_drop,if_pos hi,List.singleton_append]
 rw [e,List.append_assoc];rw [QiL hi] at h;have ⟨h1,h2⟩:=Zm.split h;have ⟨_,h4⟩:=Zm.split h2;have el:(List.take i xs).length=i:=by simp [Nat.min_eq_left (Nat.le_of_lt hi)]
 rw [el] at h1 h4;refine h1.append (Zm.append (Zm.single hy) ?_)
 simpa [List.drop_drop] using h4
theorem Zm.take {R:Rep α}{m:Mem}{xs:List α}{cs:List Value} (k:Nat) (h:Zm R m cs xs):Zm R m (cs.take (k*R.n)) (xs.take k):=by
 by_cases hk:k≤xs.length
 ·have h':=h;rw [←List.take_append_drop k xs] at h';have:=(Zm.split h').1
  simpa [Nat.min_eq_left hk] using this
 ·have hx:xs.take k=xs:=List.take_of_length_le (by omega);have hl:=h.length;have:cs.take (k*R.n)=cs:=List.take_of_length_le (by rw [hl]; exact Nat.mul_le_mul_right _ (by omega));rw [hx,this]; exact h
theorem Zm.drop {R:Rep α}{m:Mem}{xs:List α}{cs:List Value} (k:Nat) (h:Zm R m cs xs):Zm R m (cs.drop (k*R.n)) (xs.drop k):=by
 by_cases hk:k≤xs.length
 ·have h':=h;rw [←List.take_append_drop k xs] at h';have:=(Zm.split h').2
  simpa [Nat.min_eq_left hk] using this
 ·have hx:xs.drop k = []:=List.drop_of_length_le (by omega);have hl:=h.length;have:cs.drop (k*R.n) = []:=List.drop_of_length_le (by rw [hl]; exact Nat.mul_le_mul_right _ (by omega));rw [hx,this]; rfl
def At (m:Mem) (b o:Nat) (cs:List Value):Prop:=∀j v,cs[j]? = some v→m b (o+j)=some v
theorem At.mono {m m':Mem}{b o:Nat}{cs:List Value} (hm:Mle m m') (h:At m b o cs):At m' b o cs:=fun j v e=>hm _ _ _ (h j v e)
theorem At.mid {m:Mem}{b o:Nat}{cs:List Value} (k n:Nat) (h:At m b o cs):At m b (o+k) ((cs.drop k).take n):=by
 intro j v e;rw [List.getElem?_take] at e
 split at e
 ·rw [List.getElem?_drop] at e;have:=h (k+j) v e
  rwa [←Nat.add_assoc] at this
 ·cases e
def i64 : Rep Int where
 n:=1
 ag:=false
 rel:=fun _ cs x=>cs = [.int .i64 x]
 mono:=fun _ h=>h
 len:=fun h=>by subst h; rfl
 cell:=fun h v hv=>by subst h; simp at hv; subst hv; rfl
 one:=fun _=>rfl
def un (k:IntKind) (w:Nat):Rep (BitVec w) where
 n:=1
 ag:=false
 rel:=fun _ cs x=>cs = [.int k (x.toNat:Int)]
 mono:=fun _ h=>h
 len:=fun h=>by subst h; rfl
 cell:=fun h v hv=>by subst h; simp at hv; subst hv; rfl
 one:=fun _=>rfl
abbrev u8 : Rep (BitVec 8):=un .u8 8
abbrev u32 : Rep (BitVec 32):=un .u32 32
abbrev u64 : Rep (BitVec 64):=un .u64 64
def bl : Rep Bool where
 n:=1
 ag:=false
 rel:=fun _ cs x=>cs = [.bool x]
 mono:=fun _ h=>h
 len:=fun h=>by subst h; rfl
 cell:=fun h v hv=>by subst h; simp at hv; subst hv; rfl
 one:=fun _=>rfl
def exv (v:Value):Rep Unit where
 n:=1
 ag:=false
 rel:=fun _ cs _=>cs = [v]∧v.oneCell'=true
 mono:=fun _ h=>h
 len:=fun h=>by rw [h.1]; rfl
 cell:=fun h' v' hv=>by rw [h'.1] at hv; simp at hv; subst hv; exact h'.2
 one:=fun _=>rfl
def vec (n:Nat) (R:Rep α):Rep (Vector α n) where
 n:=n*R.n
 ag:=true
 rel:=fun m cs x=>Zm R m cs x.toList
 mono:=fun hm h=>h.mono hm
 len:=fun h=>by rw [h.length,Vector.length_toList]
 cell:=fun h=>h.cell
 one:=fun h=>by cases h
def prod (R:Rep α) (S:Rep β):Rep (α×β) where
 n:=R.n+S.n
 ag:=true
 rel:=fun m cs x=>∃c d,cs=c++d∧R.rel m c x.1∧S.rel m d x.2
 mono:=fun hm ⟨c,d,e,p,q⟩=>⟨c,d,e,R.mono hm p,S.mono hm q⟩
 len:=fun ⟨c,d,e,p,q⟩=>by rw [e,List.length_append,R.len p,S.len q]
 cell:=fun ⟨c,d,e,p,q⟩ v hv=>by rw [e,List.mem_append] at hv; exact hv.elim (R.cell p v) (S.cell q v)
 one:=fun h=>by cases h
def only (R:Rep α):Rep α:={R with ag:=true,one:=fun h=>by cases h}
def sl (R:Rep α):Rep (List α) where
 n:=1
 ag:=false
 rel:=fun m cs l=>∃a cap,cs = [.slice a l.length cap]∧l.length≤cap∧(l = []∨∃b o row,a=some ⟨b,o,none⟩∧Zm R m row l∧At m b o row)
 mono:=fun hm ⟨a,cap,e,hc,h⟩=>⟨a,cap,e,hc,h.imp id fun ⟨b,o,row,e',p,q⟩=>⟨b,o,row,e',p.mono hm,q.mono hm⟩⟩
 len:=fun ⟨a,cap,e,_,_⟩=>by rw [e]; rfl
 cell:=fun ⟨a,cap,e,_,_⟩ v hv=>by rw [e] at hv; simp at hv; subst hv; rfl
 one:=fun _=>rfl
def ptr (R:Rep α):Rep (Option α) where
 n:=1
 ag:=false
 rel:=fun m cs x=>match x with
  | none=>cs = [.pointer none]
  | some y=>∃b o ds,cs = [.pointer (some ⟨b,o,none⟩)]∧R.rel m ds y∧At m b o ds
 mono:=fun {m m' cs x} hm h=>by
  cases x with
  | none=>exact h
  | some y=>obtain ⟨b,o,ds,e,p,q⟩:=h; exact ⟨b,o,ds,e,R.mono hm p,q.mono hm⟩
 len:=fun {m cs x} h=>by
  cases x with
  | none=>rw [h]; rfl
  | some y=>obtain ⟨b,o,ds,e,p,q⟩:=h; rw [e]; rfl
 cell:=fun {m cs x} h v hv=>by
  cases x with
  | none=>rw [h] at hv; simp at hv; subst hv; rfl
  | some y=>obtain ⟨b,o,ds,e,p,q⟩:=h; rw [e] at hv; simp at hv; subst hv; rfl
 one:=fun _=>rfl
def val (v:Value):Slot:=⟨fun _ u=>u=v,fun _ h=>h⟩
def any : Slot:=⟨fun _ _=>True,fun _ _=>trivial⟩
def QZ (R:Rep α) (x:α):Slot where
 p:=fun m v=>∃b o ds,v = .pointer (some ⟨b,o,none⟩)∧R.rel m ds x∧At m b o ds
 mono:=fun hm ⟨b,o,ds,e,p,q⟩=>⟨b,o,ds,e,R.mono hm p,q.mono hm⟩
def tup (ss:List Slot):Slot where
 p:=fun m v=>∃vs:List Value,v = .tuple vs.toArray∧BI m ss vs
 mono:=fun hm ⟨vs,e,h⟩=>⟨vs,e,h.mono hm⟩
abbrev ov (v:Value):Slot:=(exv v).slot ()
theorem Bv {v u:Value}{m:Mem}:(ov v).p m u↔u=v∧v.oneCell'=true:=by simp [Rep.slot,Rep.is,exv]
theorem qo {ad:Option Addr}{n cap:Nat}{m:Mem}:(ov (.slice ad n cap)).p m (.slice ad n cap):=Bv.2 ⟨rfl,rfl⟩
def Slot.flat (s:Slot):Prop:=∀m m' v,s.p m v→s.p m' v
def Rep.flat (R:Rep α):Prop:=∀m m' cs x,R.rel m cs x→R.rel m' cs x
theorem Rep.flat_slot {R:Rep α} (h:R.flat) (x:α):(R.slot x).flat:=by
 intro m m' v hv
 simp only [Rep.slot,Rep.is] at *
 cases hb:R.ag with
 | true=>simp only [hb] at hv ⊢; obtain ⟨cs,e,hr⟩:=hv; exact ⟨cs,e,h _ _ _ _ hr⟩
 | false=>simp only [hb] at hv ⊢; exact h _ _ _ _ hv
theorem UP : i64.flat:=fun _ _ _ _ h=>h
theorem Vi (k:IntKind) (w:Nat):(un k w).flat:=fun _ _ _ _ h=>h
theorem ZN : bl.flat:=fun _ _ _ _ h=>h
theorem Zm.flat {R:Rep α} (h:R.flat){m m':Mem}:∀ {xs:List α}{cs:List Value},Zm R m cs xs→Zm R m' cs xs
 | [],_,k=>k
 | _::_,_,⟨c,cs',e,p,q⟩=>⟨c,cs',e,h _ _ _ _ p,Zm.flat h q⟩
theorem Xo {R:Rep α} (n:Nat) (h:R.flat):(vec n R).flat:=fun _ _ _ _ k=>k.flat h
theorem Qfn (v:Value):(exv v).flat:=fun _ _ _ _ h=>h
theorem BI.flat {m m':Mem}:∀ {ss:List Slot}{vs:List Value},(∀s∈ss,s.flat)→BI m ss vs→BI m' ss vs
 | [],_,_,h=>h
 | s::_,_,hs,⟨v,vs',e,p,q⟩=>⟨v,vs',e,hs s (by simp) _ _ _ p,BI.flat (fun s h=>hs s (by simp [h])) q⟩
theorem Qdd {ss:List Slot} (h:∀s∈ss,s.flat):(tup ss).flat:=fun _ _ _ ⟨vs,e,k⟩=>⟨vs,e,k.flat h⟩
structure Path (R:Rep α) (off:Nat) (S:Rep β) (get:α→β) (set:α→β→α):Prop where
 fits:off+S.n≤R.n
 get_ok:∀ {m:Mem}{cs:List Value}{x:α},R.rel m cs x→S.rel m ((cs.drop off).take S.n) (get x)
 set_ok:∀ {m:Mem}{cs ds:List Value}{x:α}{y:β},R.rel m cs x→S.rel m ds y→R.rel m (cs.take off++ds++cs.drop (off+S.n)) (set x y)
theorem Path.all (R:Rep α):Path R 0 R (fun x=>x) (fun _ y=>y) where
 fits:=by simp
 get_ok:=fun {m cs x} h=>by
  have:=R.len h
  simpa [List.take_of_length_le (Nat.le_of_eq this)] using h
 set_ok:=fun {m cs ds x y} h k=>by
  have:=R.len h
  simpa [List.drop_of_length_le (Nat.le_of_eq this)] using k
theorem Path.fst (R:Rep α) (S:Rep β):Path (prod R S) 0 R (fun x=>x.1) (fun x y=>(y,x.2)) where
 fits:=by simp [prod]
 get_ok:=fun {m cs x} ⟨c,d,e,p,q⟩=>by
  have:=R.len p;subst e
  simpa [List.take_append,List.take_of_length_le (Nat.le_of_eq this),this] using p
 set_ok:=fun {m cs ds x y} ⟨c,d,e,p,q⟩ k=>by
  have:=R.len p;subst e;refine ⟨ds,d,?_,k,q⟩
  simp [List.drop_append,←this]
theorem Path.snd (R:Rep α) (S:Rep β):Path (prod R S) R.n S (fun x=>x.2) (fun x y=>(x.1,y)) where
 fits:=by simp [prod]
 get_ok:=fun {m cs x} ⟨c,d,e,p,q⟩=>by
  have h1:=R.len p;have h2:=S.len q;subst e
  simpa [List.drop_append,←h1,List.take_of_length_le (Nat.le_of_eq h2)] using q
 set_ok:=fun {m cs ds x y} ⟨c,d,e,p,q⟩ k=>by
  have h1:=R.len p;have h2:=S.len q;subst e;refine ⟨c,ds,?_,p,k⟩;rw [List.take_append,List.drop_append]
  simp [←h1,←h2,List.drop_of_length_le]
theorem Path.at (n:Nat) (R:Rep α) (i:Nat) (hi:i < n):Path (vec n R) (i*R.n) R (fun x=>x[i]) (fun x y=>x.set i y) where
 fits:=by
  show i*R.n+R.n≤n*R.n
  calc i*R.n+R.n=(i+1)*R.n:=by rw [Nat.add_mul,Nat.one_mul]
   _≤n*R.n:=Nat.mul_le_mul_right _ hi
 get_ok:=fun {m cs x} h=>by
  have:=Zm.get h (i:=i) (by simpa using hi)
  simpa using this
 set_ok:=fun {m cs ds x y} h k=>by
  have:=Zm.set (i:=i) h (by simpa using hi) k;show Zm R m _ (x.set i y).toList
  simpa [Vector.toList_set] using this
theorem Path.then {γ:Type}{R:Rep α}{S:Rep β}{T:Rep γ}{o1 o2:Nat}{g1:α→β}{s1:α→β→α}{g2:β→γ}{s2:β→γ→β}
  (h:Path R o1 S g1 s1) (k:Path S o2 T g2 s2):Path R (o1+o2) T (fun x=>g2 (g1 x)) (fun x z=>s1 x (s2 (g1 x) z)) where
 fits:=by have:=h.fits; have:=k.fits; omega
 get_ok:=fun {m cs x} hr=>by
  have:=k.get_ok (h.get_ok hr);rw [List.drop_take,List.drop_drop,List.take_take] at this;have hk:=k.fits
  rwa [Nat.min_eq_left (by omega)] at this
 set_ok:=fun {m cs ds x z} hr hz=>by
  have h1:=k.set_ok (h.get_ok hr) hz;have h2:=h.set_ok hr h1;have hl:=R.len hr;have hf:=h.fits;have kf:=k.fits;have dl:=T.len hz;have e:cs.take o1++(((cs.drop o1).take S.n).take o2++ds++((cs.drop o1).take S.n).drop (o2+T.n))++cs.drop (o1+S.n)=cs.take (o1+o2)++ds++cs.drop (o1+o2+T.n):=by
   rw [List.take_take,Nat.min_eq_left (by omega),List.take_add];have e2:((cs.drop o1).take S.n).drop (o2+T.n)++cs.drop (o1+S.n)=cs.drop (o1+o2+T.n):=by
    rw [List.drop_take,List.drop_drop];have:cs.drop (o1+S.n)=(cs.drop (o1+(o2+T.n))).drop (S.n - (o2+T.n)):=by rw [List.drop_drop]; congr 1; omega
    rw [this,List.take_append_drop]
    congr 1; omega
   simp only [List.append_assoc] at *
   rw [e2]
  rw [e] at h2;exact h2
def box (b:Nat) (T:TypeId) (R:Rep α) (x:α):Ent where
 p:=fun m hs=>∃cs,hs = [(b,T,cs)]∧R.rel m cs x
 mono:=fun hm ⟨cs,e,h⟩=>⟨cs,e,R.mono hm h⟩
def own (T:TypeId) (R:Rep α) (v:Value) (l:List α):Ent where
 p:=fun m hs=>(l = []∧hs = []∧∃a,v = .slice a 0 0)∨
  ∃b cap row spare,v = .slice (some ⟨b,0,none⟩) l.length cap∧hs = [(b,T,row++spare)]∧Zm R m row l∧l.length≤cap∧(row++spare).length=cap*R.n
 mono:=fun hm h=>h.imp id fun ⟨b,cap,row,spare,e,e',p,q⟩=>⟨b,cap,row,spare,e,e',p.mono hm,q⟩
theorem own.one {T:TypeId}{R:Rep α}{v:Value}{l:List α}{m:Mem}{hs:Hp} (h:(own T R v l).p m hs):v.oneCell'=true:=by
 rcases h with ⟨rfl,_,a,rfl⟩ | ⟨b,cap,row,spare,rfl,_⟩<;>rfl
theorem own.shape {T:TypeId}{R:Rep α}{v:Value}{l:List α}{m:Mem}{hs:Hp} (h:(own T R v l).p m hs):∃a cap,v = .slice a l.length cap∧l.length≤cap:=by
 rcases h with ⟨rfl,_,a,rfl⟩ | ⟨b,cap,row,spare,rfl,_,_,hc,_⟩
 ·exact ⟨a,0,rfl,Nat.le_refl _⟩
 ·exact ⟨_,cap,rfl,hc⟩
end
end Go.Sl
namespace Go.Sl
theorem Qid (n:Int):IntKind.i64.wrap n=w64 n:=IntKind.wrap_i64 n
theorem Wm {k:IntKind}{w:Nat} (hk:k.bits=w) (hs:k.signed=false) (n:Int):k.wrap n=((BitVec.ofInt w n).toNat:Int):=by
 simp only [IntKind.wrap,hs,Bool.false_and,Bool.false_eq_true,if_false,BitVec.toNat_ofInt,hk]
 rw [Int.toNat_of_nonneg (Int.emod_nonneg _ (by have:(0:Int) < 2^w:=Int.pow_pos (by decide); exact Int.ne_of_gt this))]
 norm_cast
theorem Yu {x:Int}{m:Mem}{v:Value}:(i64.slot x).p m v↔v = .int .i64 x:=by simp [Rep.slot,Rep.is,i64]
theorem Qex {n:Int}{m:Mem}:(i64.slot (w64 n)).p m (.int .i64 (IntKind.i64.wrap n)):=Yu.2 (by rw [Qid])
theorem Kh {k:IntKind}{w:Nat}{x:BitVec w}{m:Mem}{v:Value}:((un k w).slot x).p m v↔v = .int k (x.toNat:Int):=by simp [Rep.slot,Rep.is,un]
theorem U7 {x:Bool}{m:Mem}{v:Value}:(bl.slot x).p m v↔v = .bool x:=by simp [Rep.slot,Rep.is,bl]
section
variable {c : Ctx} {Γ : Env} {H H' : List Ent} {d : Option Tmp} {ty : TypeId} {pos : String} {aft : Array Edge} {g : Option (Nat × Bool)}
theorem Qe {n:Int}:Has Γ (.const (.int .i64 n)) (i64.slot n):=fun _ _ _=>Yu.2 rfl
theorem QT {k:IntKind}{w:Nat}{n:Int}{x:BitVec w} (h:n=(x.toNat:Int)):Has Γ (.const (.int k n)) ((un k w).slot x):=fun _ _ _=>Kh.2 (by rw [←h]; rfl)
theorem QD {b:Bool}:Has Γ (.const (.bool b)) (bl.slot b):=fun _ _ _=>U7.2 rfl
theorem QeM {v:Value}:Has Γ (.const v) (val v):=fun _ _ _=>rfl
theorem Qdg {f:FuncId}:Has Γ (.func f) (val (.func (.func f) #[] #[])):=fun _ _ _=>rfl
theorem qE {α:Type}{R:Rep α}:Has Γ (.const (.slice none 0 0)) ((sl R).slot []):=fun _ _ _=>⟨none,0,rfl,Nat.le_refl _, .inl rfl⟩
theorem Bs {α:Type}{R:Rep α}:Has Γ (.const (.pointer none)) ((ptr R).slot none):=fun _ _ _=>rfl
theorem XC {o:Oper}{s:Slot} (h:∀m hs a w,Zk m hs w→c.G.p m→Sat H m hs→QgH o Γ m a→∃v,(execOp a.eval o).run c.P w = .ok (.value v) w∧s.p m v):PJ c o Γ H s:=by
 intro m hs a w hg hG hsat ho;obtain ⟨v,e,hv⟩:=h m hs a w hg hG hsat ho;rw [e];exact ⟨m,hg,hv,Frm.refl _ _ _⟩
theorem PJ.imp {o:Oper}{s s':Slot} (h:PJ c o Γ H s) (k:∀m v,s.p m v→s'.p m v):PJ c o Γ H s':=by
 intro m hs a w hg hG hsat ho;exact (h m hs a w hg hG hsat ho).mono fun v w' ⟨m',hg',hv,hf⟩=>⟨m',hg',k _ _ hv,hf⟩
theorem QeO {x:Operand}{s:Slot} (hx:Has Γ x s):PJ c ⟨d, .move x,ty,pos,aft,g⟩ Γ H s:=
 XC fun m hs a w _ _ _ ho=>⟨_,rfl,hx m a (ho x (by simp [Op.operands]))⟩
theorem Qeg {x:Operand}{s:Slot} (hx:Has Γ x s):PJ c ⟨d, .assign x,ty,pos,aft,g⟩ Γ H s:=
 XC fun m hs a w _ _ _ ho=>⟨_,rfl,hx m a (ho x (by simp [Op.operands]))⟩
theorem QbO {x y z:Operand}{b:Bool}{s t:Slot} (hx:Has Γ x (bl.slot b)) (hy:b=true→Has Γ y s) (hz:b=false→Has Γ z s) :
  PJ c ⟨d, .pick x y z,ty,pos,aft,g⟩ Γ H s:=by
 refine XC fun m hs a w _ _ _ ho=>?_;have e:=U7.1 (hx m a (ho x (by simp [Op.operands])))
 cases b with
 | true=>exact ⟨a.eval y,by simp [execOp,e,asBool],hy rfl m a (ho y (by simp [Op.operands]))⟩
 | false=>exact ⟨a.eval z,by simp [execOp,e,asBool],hz rfl m a (ho z (by simp [Op.operands]))⟩
theorem Yq {op:BinOp}{t yt:TypeId}{x y:Operand}{s1 s2 s:Slot} (hx:Has Γ x s1) (hy:Has Γ y s2)
  (h:∀m u v w,s1.p m u→s2.p m v→∃r,(do eqGuard op t x y u v; binOp op t u v:Sem Value).run c.P w = .ok r w∧s.p m r) :
  PJ c ⟨d, .binOp op t x y yt,ty,pos,aft,g⟩ Γ H s:=by
 refine XC fun m hs a w _ _ _ ho=>?_;obtain ⟨r,e,hr⟩:=h m _ _ w (hx m a (ho x (by simp [Op.operands]))) (hy m a (ho y (by simp [Op.operands])));refine ⟨r,?_,hr⟩
 simp only [execOp]
 rw [Sem.run_bind,e]
 rfl
section
variable {t yt : TypeId} {x y : Operand} {p q : Int} (hx : Has Γ x (i64.slot p)) (hy : Has Γ y (i64.slot q))
include hx hy
theorem QN : PJ c ⟨d, .binOp .add t x y yt,ty,pos,aft,g⟩ Γ H (i64.slot (w64 (p+q))):=
 Yq hx hy fun m u v w hu hv=>by cases Yu.1 hu; cases Yu.1 hv; exact ⟨_,by simp [eqGuard_add,binOp_add,Op.intArith],Qex⟩
theorem Zb : PJ c ⟨d, .binOp .sub t x y yt,ty,pos,aft,g⟩ Γ H (i64.slot (w64 (p - q))):=
 Yq hx hy fun m u v w hu hv=>by cases Yu.1 hu; cases Yu.1 hv; exact ⟨_,by simp [eqGuard_sub,binOp_sub,Op.intArith],Qex⟩
theorem Yy : PJ c ⟨d, .binOp .mul t x y yt,ty,pos,aft,g⟩ Γ H (i64.slot (w64 (p*q))):=
 Yq hx hy fun m u v w hu hv=>by cases Yu.1 hu; cases Yu.1 hv; exact ⟨_,by simp [eqGuard_mul,binOp_mul,Op.intArith],Qex⟩
theorem K5 (hq:q≠0):PJ c ⟨d, .binOp .quo t x y yt,ty,pos,aft,g⟩ Γ H (i64.slot (w64 (p.tdiv q))):=
 Yq hx hy fun m u v w hu hv=>by cases Yu.1 hu; cases Yu.1 hv; exact ⟨_,by simp [eqGuard_quo,binOp_quo,Op.intDiv,hq],Qex⟩
theorem Bk (hq:q≠0):PJ c ⟨d, .binOp .rem t x y yt,ty,pos,aft,g⟩ Γ H (i64.slot (p.tmod q)):=
 Yq hx hy fun m u v w hu hv=>by cases Yu.1 hu; cases Yu.1 hv; exact ⟨_,by simp [eqGuard_rem,binOp_rem,Op.intDiv,hq],Yu.2 rfl⟩
theorem Q5 : PJ c ⟨d, .binOp .lss t x y yt,ty,pos,aft,g⟩ Γ H (bl.slot (decide (p < q))):=
 Yq hx hy fun m u v w hu hv=>by cases Yu.1 hu; cases Yu.1 hv; exact ⟨_,by simp [eqGuard_lss,binOp_lss],U7.2 rfl⟩
theorem WR : PJ c ⟨d, .binOp .leq t x y yt,ty,pos,aft,g⟩ Γ H (bl.slot (decide (p≤q))):=
 Yq hx hy fun m u v w hu hv=>by cases Yu.1 hu; cases Yu.1 hv; exact ⟨_,by simp [eqGuard_leq,binOp_leq],U7.2 rfl⟩
theorem Yh : PJ c ⟨d, .binOp .gtr t x y yt,ty,pos,aft,g⟩ Γ H (bl.slot (decide (q < p))):=
 Yq hx hy fun m u v w hu hv=>by cases Yu.1 hu; cases Yu.1 hv; exact ⟨_,by simp [eqGuard_gtr,binOp_gtr],U7.2 rfl⟩
theorem Xt : PJ c ⟨d, .binOp .geq t x y yt,ty,pos,aft,g⟩ Γ H (bl.slot (decide (q≤p))):=
 Yq hx hy fun m u v w hu hv=>by cases Yu.1 hu; cases Yu.1 hv; exact ⟨_,by simp [eqGuard_geq,binOp_geq],U7.2 rfl⟩
theorem JM : PJ c ⟨d, .binOp .eql t x y yt,ty,pos,aft,g⟩ Γ H (bl.slot (decide (p=q))):=
 Yq hx hy fun m u v w hu hv=>by cases Yu.1 hu; cases Yu.1 hv; exact ⟨_,by simp [eqGuard_at_int,binOp_eql]; rfl,U7.2 (by congr 1)⟩
theorem ZE : PJ c ⟨d, .binOp .neq t x y yt,ty,pos,aft,g⟩ Γ H (bl.slot (!decide (p=q))):=
 Yq hx hy fun m u v w hu hv=>by cases Yu.1 hu; cases Yu.1 hv; exact ⟨_,by simp [eqGuard_at_int,binOp_neq]; rfl,U7.2 (by simp [bne]; congr 1)⟩
theorem QjS : PJ c ⟨d, .binOp .and t x y yt,ty,pos,aft,g⟩ Γ H (i64.slot (Qiu p q)):=
 Yq hx hy fun m u v w hu hv=>by cases Yu.1 hu; cases Yu.1 hv; exact ⟨_,by simp only [Sem.run_bind,eqGuard_at_int,Sem.run_pure,Result.andThen_ok,binOp_and,Op.intBits]; rfl,Qex⟩
theorem Qm6 : PJ c ⟨d, .binOp .xor t x y yt,ty,pos,aft,g⟩ Γ H (i64.slot (Qow p q)):=
 Yq hx hy fun m u v w hu hv=>by cases Yu.1 hu; cases Yu.1 hv; exact ⟨_,by simp only [Sem.run_bind,eqGuard_at_int,Sem.run_pure,Result.andThen_ok,binOp_xor,Op.intBits]; rfl,Qex⟩
end
def Um (s:Slot) (n:Int):Prop:=∀m v,s.p m v→∃k,v = .int k n
theorem Qh {n:Int}:Um (i64.slot n) n:=fun _ _ h=>⟨_,Yu.1 h⟩
theorem JX {k:IntKind}{w:Nat}{n:BitVec w}:Um ((un k w).slot n) (n.toNat:Int):=fun _ _ h=>⟨_,Kh.1 h⟩
theorem WO {t yt:TypeId}{x y:Operand}{p q:Int}{s:Slot} (hx:Has Γ x (i64.slot p)) (hy:Has Γ y s) (hs:Um s q) (hq:0≤q) :
  PJ c ⟨d, .binOp .shl t x y yt,ty,pos,aft,g⟩ Γ H (i64.slot (KD p q)):=
 Yq hx hy fun m u v w hu hv=>by
  cases Yu.1 hu; obtain ⟨k,rfl⟩:=hs m v hv
  have:¬q < 0:=by omega
  exact ⟨_,by simp only [Sem.run_bind,eqGuard_at_int,Sem.run_pure,Result.andThen_ok,binOp_shl,Op.shift,this,if_false]; rfl,Qex⟩
theorem QaQ {t yt:TypeId}{x y:Operand}{p q:Int}{s:Slot} (hx:Has Γ x (i64.slot p)) (hy:Has Γ y s) (hs:Um s q) (hq:0≤q) :
  PJ c ⟨d, .binOp .shr t x y yt,ty,pos,aft,g⟩ Γ H (i64.slot (BX p q)):=
 Yq hx hy fun m u v w hu hv=>by
  cases Yu.1 hu; obtain ⟨k,rfl⟩:=hs m v hv
  have:¬q < 0:=by omega
  exact ⟨_,by simp only [Sem.run_bind,eqGuard_at_int,Sem.run_pure,Result.andThen_ok,binOp_shr,Op.shift,this,if_false]; rfl,Yu.2 rfl⟩
section
variable {k : IntKind} {b : Nat} {t yt : TypeId} {x y : Operand} {p q : BitVec b} (hk : k.bits = b) (hs : k.signed = false) (hx : Has Γ x ((un k b).slot p)) (hy : Has Γ y ((un k b).slot q))
include hk hs hx hy
theorem Xu : PJ c ⟨d, .binOp .add t x y yt,ty,pos,aft,g⟩ Γ H ((un k b).slot (p+q)):=
 Yq hx hy fun m u v w hu hv=>by
  cases Kh.1 hu; cases Kh.1 hv
  refine ⟨_,by simp [eqGuard_add,binOp_add,Op.intArith]; rfl,Kh.2 ?_⟩;rw [Wm hk hs,←Int.natCast_add,BitVec.ofInt_natCast,BitVec.toNat_ofNat,BitVec.toNat_add]
theorem QeG : PJ c ⟨d, .binOp .sub t x y yt,ty,pos,aft,g⟩ Γ H ((un k b).slot (p - q)):=
 Yq hx hy fun m u v w hu hv=>by
  cases Kh.1 hu; cases Kh.1 hv
  refine ⟨_,by simp [eqGuard_sub,binOp_sub,Op.intArith]; rfl,Kh.2 ?_⟩;rw [Wm hk hs]; congr 3;have e:(p.toNat:Int) - q.toNat=(p.toNat:Int) + - q.toNat:=by omega
  rw [e,BitVec.ofInt_add,BitVec.ofInt_neg,BitVec.ofInt_natCast,BitVec.ofInt_natCast,BitVec.ofNat_toNat,BitVec.ofNat_toNat,BitVec.setWidth_eq,BitVec.setWidth_eq,BitVec.sub_eq_add_neg]
theorem QeL : PJ c ⟨d, .binOp .mul t x y yt,ty,pos,aft,g⟩ Γ H ((un k b).slot (p*q)):=
 Yq hx hy fun m u v w hu hv=>by
  cases Kh.1 hu; cases Kh.1 hv
  refine ⟨_,by simp [eqGuard_mul,binOp_mul,Op.intArith]; rfl,Kh.2 ?_⟩;rw [Wm hk hs,←Int.natCast_mul,BitVec.ofInt_natCast,BitVec.toNat_ofNat,BitVec.toNat_mul]
theorem QgQ (hq:q.toNat≠0):PJ c ⟨d, .binOp .quo t x y yt,ty,pos,aft,g⟩ Γ H ((un k b).slot (p / q)):=
 Yq hx hy fun m u v w hu hv=>by
  cases Kh.1 hu; cases Kh.1 hv
  have:(q.toNat:Int)≠0:=by omega
  refine ⟨_,by simp only [Sem.run_bind,eqGuard_quo,Sem.run_pure,Result.andThen_ok,binOp_quo,Op.intDiv,this,if_false]; rfl,Kh.2 ?_⟩;have:p.toNat / q.toNat < 2^b:=Nat.lt_of_le_of_lt (Nat.div_le_self _ _) p.isLt;rw [Wm hk hs,←Int.ofNat_tdiv,BitVec.ofInt_natCast,BitVec.toNat_ofNat,Nat.mod_eq_of_lt this,BitVec.toNat_udiv]
omit hk hs in
theorem QeV (hq:q.toNat≠0):PJ c ⟨d, .binOp .rem t x y yt,ty,pos,aft,g⟩ Γ H ((un k b).slot (p % q)):=
 Yq hx hy fun m u v w hu hv=>by
  cases Kh.1 hu; cases Kh.1 hv
  have:(q.toNat:Int)≠0:=by omega
  refine ⟨_,by simp only [Sem.run_bind,eqGuard_rem,Sem.run_pure,Result.andThen_ok,binOp_rem,Op.intDiv,this,if_false]; rfl,Kh.2 ?_⟩;rw [←Int.ofNat_tmod]; simp
theorem Bp : PJ c ⟨d, .binOp .and t x y yt,ty,pos,aft,g⟩ Γ H ((un k b).slot (p&&& q)):=
 Yq hx hy fun m u v w hu hv=>by
  cases Kh.1 hu; cases Kh.1 hv
  subst hk;refine ⟨_,by simp only [Sem.run_bind,eqGuard_at_int,Sem.run_pure,Result.andThen_ok,binOp_and,Op.intBits]; rfl,Kh.2 ?_⟩;rw [Wm rfl hs]; congr 3; simp
theorem QaF : PJ c ⟨d, .binOp .or t x y yt,ty,pos,aft,g⟩ Γ H ((un k b).slot (p ||| q)):=
 Yq hx hy fun m u v w hu hv=>by
  cases Kh.1 hu; cases Kh.1 hv
  subst hk;refine ⟨_,by simp only [Sem.run_bind,eqGuard_at_int,Sem.run_pure,Result.andThen_ok,binOp_or,Op.intBits]; rfl,Kh.2 ?_⟩;rw [Wm rfl hs]; congr 3; simp
theorem Ke : PJ c ⟨d, .binOp .xor t x y yt,ty,pos,aft,g⟩ Γ H ((un k b).slot (p ^^^ q)):=
 Yq hx hy fun m u v w hu hv=>by
  cases Kh.1 hu; cases Kh.1 hv
  subst hk;refine ⟨_,by simp only [Sem.run_bind,eqGuard_at_int,Sem.run_pure,Result.andThen_ok,binOp_xor,Op.intBits]; rfl,Kh.2 ?_⟩;rw [Wm rfl hs]; congr 3; simp
omit hk hs
theorem QmY : PJ c ⟨d, .binOp .lss t x y yt,ty,pos,aft,g⟩ Γ H (bl.slot (decide (p < q))):=
 Yq hx hy fun m u v w hu hv=>by
  cases Kh.1 hu; cases Kh.1 hv
  exact ⟨_,by simp [eqGuard_lss,binOp_lss]; rfl,U7.2 (by simp [BitVec.lt_def])⟩
theorem QcT : PJ c ⟨d, .binOp .gtr t x y yt,ty,pos,aft,g⟩ Γ H (bl.slot (decide (q < p))):=
 Yq hx hy fun m u v w hu hv=>by
  cases Kh.1 hu; cases Kh.1 hv
  exact ⟨_,by simp [eqGuard_gtr,binOp_gtr]; rfl,U7.2 (by simp [BitVec.lt_def])⟩
theorem QeS : PJ c ⟨d, .binOp .geq t x y yt,ty,pos,aft,g⟩ Γ H (bl.slot (decide (q≤p))):=
 Yq hx hy fun m u v w hu hv=>by
  cases Kh.1 hu; cases Kh.1 hv
  exact ⟨_,by simp [eqGuard_geq,binOp_geq]; rfl,U7.2 (by simp [BitVec.le_def])⟩
theorem Qn0 : PJ c ⟨d, .binOp .eql t x y yt,ty,pos,aft,g⟩ Γ H (bl.slot (decide (p=q))):=
 Yq hx hy fun m u v w hu hv=>by
  cases Kh.1 hu; cases Kh.1 hv
  exact ⟨_,by simp [eqGuard_at_int,binOp_eql]; rfl,U7.2 (by congr 1; rw [Bool.eq_iff_iff]; simp [←BitVec.toNat_inj]; omega)⟩
theorem qW : PJ c ⟨d, .binOp .neq t x y yt,ty,pos,aft,g⟩ Γ H (bl.slot (!decide (p=q))):=
 Yq hx hy fun m u v w hu hv=>by
  cases Kh.1 hu; cases Kh.1 hv
  exact ⟨_,by simp [eqGuard_at_int,binOp_neq]; rfl,U7.2 (by congr 1; rw [Bool.eq_iff_iff]; simp [←BitVec.toNat_inj]; omega)⟩
end
theorem Qc8 {k:IntKind}{b:Nat}{t yt:TypeId}{x y:Operand}{p:BitVec b}{q:Int}{s:Slot} (hk:k.bits=b) (hsg:k.signed=false) (hx:Has Γ x ((un k b).slot p)) (hy:Has Γ y s) (hs:Um s q) (hq:0≤q) :
  PJ c ⟨d, .binOp .shl t x y yt,ty,pos,aft,g⟩ Γ H ((un k b).slot (p <<< q.toNat)):=
 Yq hx hy fun m u v w hu hv=>by
  cases Kh.1 hu; obtain ⟨k',rfl⟩:=hs m v hv
  have:¬q < 0:=by omega
  refine ⟨_,by simp only [Sem.run_bind,eqGuard_at_int,Sem.run_pure,Result.andThen_ok,binOp_shl,Op.shift,this,if_false]; rfl,Kh.2 ?_⟩;rw [Wm hk hsg,hk]; congr 3
  apply BitVec.eq_of_toNat_eq
  rw [show (2:Int)^min q.toNat b=((2^min q.toNat b:Nat):Int) by simp,←Int.natCast_mul,BitVec.ofInt_natCast,BitVec.toNat_ofNat,BitVec.toNat_shiftLeft,Nat.shiftLeft_eq]
  rcases Nat.le_total q.toNat b with h | h
  ·rw [Nat.min_eq_left h]
  ·rw [Nat.min_eq_right h,Nat.mul_mod_left];have:2^b∣p.toNat*2^q.toNat:=Nat.dvd_mul_left_of_dvd (Nat.pow_dvd_pow 2 h) _;exact (Nat.mod_eq_zero_of_dvd this).symm
theorem VP {k:IntKind}{b:Nat}{t yt:TypeId}{x y:Operand}{p:BitVec b}{q:Int}{s:Slot} (hk:k.bits=b) (hx:Has Γ x ((un k b).slot p)) (hy:Has Γ y s) (hs:Um s q) (hq:0≤q) :
  PJ c ⟨d, .binOp .shr t x y yt,ty,pos,aft,g⟩ Γ H ((un k b).slot (p >>> q.toNat)):=
 Yq hx hy fun m u v w hu hv=>by
  cases Kh.1 hu; obtain ⟨k',rfl⟩:=hs m v hv
  have:¬q < 0:=by omega
  refine ⟨_,by simp only [Sem.run_bind,eqGuard_at_int,Sem.run_pure,Result.andThen_ok,binOp_shr,Op.shift,this,if_false]; rfl,Kh.2 ?_⟩;rw [hk]; congr 1;rw [show (2:Int)^min q.toNat b=((2^min q.toNat b:Nat):Int) by simp,BitVec.toNat_ushiftRight,Nat.shiftRight_eq_div_pow];rw [Int.fdiv_eq_ediv_of_nonneg _ (Int.natCast_nonneg _)];rw [←Int.natCast_ediv]; congr 1
  rcases Nat.le_total q.toNat b with h | h
  ·rw [Nat.min_eq_left h]
  ·rw [Nat.min_eq_right h,Nat.div_eq_of_lt p.isLt,Nat.div_eq_of_lt (Nat.lt_of_lt_of_le p.isLt (Nat.pow_le_pow_right (by decide) h))]
theorem Zv {x:Operand}{b:Bool}{t:TypeId} (hx:Has Γ x (bl.slot b)):PJ c ⟨d, .unOp .not t x,ty,pos,aft,g⟩ Γ H (bl.slot (!b)):=
 XC fun m hs a w _ _ _ ho=>by
  have e:=U7.1 (hx m a (ho x (by simp [Op.operands])));exact ⟨.bool (!b),by simp [execOp,e,Op.unary],U7.2 rfl⟩
theorem QdX {P:Program}{t:TypeId} (ht:P.underlying t=some .bool) (n:Nat) (a b:Bool) (w:World):(Op.equalIn (n+1) t (.bool a) (.bool b)).run P w = .ok (a==b) w:=by
 simp only [Op.equalIn,Sem.run_bind,run_underlying ht,Result.andThen_ok]; rfl
theorem QgR {P:Program}{t:TypeId} (ht:P.underlying t=some .bool) (a b:Bool) (w:World):(binOp .neq t (.bool a) (.bool b)).run P w = .ok (.bool (!(a==b))) w:=by
 have h:=QdX ht 9999 a b w
 simp only [binOp,Op.equal,Op.maxDepth,Sem.run_bind,h]; rfl
theorem Wk {x y:Operand}{p q:Bool}{t yt:TypeId} (ht:c.P.underlying t=some .bool) (hx:Has Γ x (bl.slot p)) (hy:Has Γ y (bl.slot q)) :
  PJ c ⟨d, .binOp .neq t x y yt,ty,pos,aft,g⟩ Γ H (bl.slot (!(p==q))):=
 Yq hx hy fun m u v w hu hv=>by cases U7.1 hu; cases U7.1 hv; exact ⟨_,by simp [eqGuard_at_bool,QgR ht],U7.2 rfl⟩
def Qfc (P:Program) (src dst:TypeId) (k:IntKind):Bool:=
 (P.underlying src).isSome&&(match P.underlying dst with | some (.int k')=>k'==k | _=>false)
theorem Qmu {P:Program}{src dst:TypeId}{k:IntKind} (h:Qfc P src dst k=true):P.underlying dst=some (.int k)∧(P.underlying src).isSome=true:=by
 simp only [Qfc,Bool.and_eq_true] at h
 obtain ⟨h1,h2⟩:=h;refine ⟨?_,h1⟩
 split at h2
 ·rename_i k' e; have:k'=k:=by simpa using h2
  rw [e,this]
 ·cases h2
theorem Qf5 {P:Program}{src dst:TypeId}{k k':IntKind} (h:Qfc P src dst k=true) (n:Int) (w:World):(convert src dst (.int k' n)).run P w = .ok (.int k (k.wrap n)) w:=by
 obtain ⟨h1,h2⟩:=Qmu h;obtain ⟨ds,hs⟩:=Option.isSome_iff_exists.1 h2
 simp [convert,run_underlying hs,run_underlying h1,Conv.intToInt]
theorem QeQ {src dst:TypeId}{x:Operand}{s s':Slot}{k:IntKind}{n:Int} (h:Qfc c.P src dst k=true) (hx:Has Γ x s) (hs:Um s n) (hs':∀m,s'.p m (.int k (k.wrap n))) :
  PJ c ⟨d, .convert src dst x,ty,pos,aft,g⟩ Γ H s':=
 XC fun m hs2 a w _ _ _ ho=>by
  obtain ⟨k',e⟩:=hs m _ (hx m a (ho x (by simp [Op.operands])));exact ⟨_,by simp only [execOp,e,Sem.run_bind,Qf5 h]; rfl,hs' m⟩
theorem Y4 {src dst:TypeId}{x:Operand}{s:Slot}{n:Int} (h:Qfc c.P src dst .i64=true) (hx:Has Γ x s) (hs:Um s n) :
  PJ c ⟨d, .convert src dst x,ty,pos,aft,g⟩ Γ H (i64.slot (w64 n)):=QeQ h hx hs fun m=>Qex
theorem QjM {src dst:TypeId}{x:Operand}{s:Slot}{n:Int}{k:IntKind}{b:Nat} (hk:k.bits=b) (hsg:k.signed=false) (h:Qfc c.P src dst k=true) (hx:Has Γ x s) (hs:Um s n) :
  PJ c ⟨d, .convert src dst x,ty,pos,aft,g⟩ Γ H ((un k b).slot (BitVec.ofInt b n)):=QeQ h hx hs fun m=>Kh.2 (by rw [Wm hk hsg])
theorem QiU {src dst:TypeId}{x:Operand}{k k':IntKind}{b b':Nat}{n:BitVec b'} (hk:k.bits=b) (hsg:k.signed=false) (h:Qfc c.P src dst k=true) (hx:Has Γ x ((un k' b').slot n)) :
  PJ c ⟨d, .convert src dst x,ty,pos,aft,g⟩ Γ H ((un k b).slot (n.setWidth b)):=QeQ h hx JX fun m=>Kh.2 (by
   rw [Wm hk hsg]; congr 3; apply BitVec.eq_of_toNat_eq; simp)
theorem QiN {src dst:TypeId}{x:Operand}{k:IntKind}{b:Nat}{n:BitVec b} (hb:b < 64) (h:Qfc c.P src dst .i64=true) (hx:Has Γ x ((un k b).slot n)) :
  PJ c ⟨d, .convert src dst x,ty,pos,aft,g⟩ Γ H (i64.slot (n.toNat:Int)):=QeQ h hx JX fun m=>Yu.2 (by
   have h1:=n.isLt;have h2:2^b≤2^63:=Nat.pow_le_pow_right (by decide) (by omega);have h3:(2:Nat)^63=9223372036854775808:=by decide
   congr 1
   rw [Qid]; exact JA (by omega))
end
end Go.Sl
namespace Go.Sl
def tyB (P:Program) (T:TypeId) (ag:Bool) (n:Nat):Bool:=
 (match P.underlying T with | some (.struct _) | some (.array _ _)=>ag | some _=>!ag | none=>false)&&(match P.info? T with | some i=>i.size==n | none=>false)
def szB (P:Program) (T:TypeId) (n:Nat):Bool:=match P.info? T with | some i=>i.size==n | none=>false
def Qg0 (P:Program) (S f off:Nat):Bool:=
 match P.underlying S with
 | some (.struct fs)=>match fs[f]? with
  | some fd=>fd.offset==off&&(match P.info? fd.type with | some i=>i.size != 0 | none=>false)
  | none=>false
 | _=>false
def Qcs (P:Program) (T n sz:Nat):Bool:=
 match P.underlying T with
 | some (.array n' e)=>n'==n&&szB P e sz
 | _=>false
def slB (P:Program) (T sz:Nat):Bool:=
 match P.underlying T with
 | some (.slice e)=>szB P e sz
 | _=>false
theorem UC {P:Program}{T n:Nat} (h:szB P T n=true) (w:World):(sizeOf T).run P w = .ok n w:=by
 unfold szB at h
 cases hi:P.info? T with
 | none=>rw [hi] at h; cases h
 | some i=>
  rw [hi] at h;have:i.size=n:=by simpa using h
  simp [sizeOf,typeInfo,hi,this]
theorem Qdi {P:Program}{T n:Nat}{ag:Bool} (h:tyB P T ag n=true):szB P T n=true:=by
 simp only [tyB,Bool.and_eq_true] at h
 exact h.2
theorem Qj0 {P:Program}{T n:Nat}{ag:Bool} (h:tyB P T ag n=true) (w:World):(isAgg T).run P w = .ok ag w:=by
 simp only [tyB,Bool.and_eq_true] at h
 obtain ⟨h1,_⟩:=h;unfold isAgg
 cases hu:P.underlying T with
 | none=>rw [hu] at h1; cases h1
 | some d=>
  rw [hu] at h1;rw [Sem.run_bind,run_underlying hu]
  cases d<;>simp at h1<;>simp [h1]
theorem Qc4 {P:Program}{T n sz:Nat} (h:Qcs P T n sz=true):∃e,P.underlying T=some (.array n e)∧szB P e sz=true:=by
 unfold Qcs at h
 split at h
 ·rename_i n' e hu
  simp only [Bool.and_eq_true] at h
  have:n'=n:=by simpa using h.1
  exact ⟨e,by rw [hu,this],h.2⟩
 ·cases h
theorem Qbk {P:Program}{T sz:Nat} (h:slB P T sz=true):∃e,P.underlying T=some (.slice e)∧szB P e sz=true:=by
 unfold slB at h
 split at h
 ·rename_i e hu; exact ⟨e,hu,h⟩
 ·cases h
theorem QfY {P:Program}{S f off:Nat} (h:Qg0 P S f off=true) (b o:Nat) (w:World) :
  (Instr.fieldAt S (.pointer (some ⟨b,o,none⟩)) f).run P w = .ok (.pointer (some ⟨b,o+off,none⟩)) w:=by
 unfold Qg0 at h
 split at h
 ·rename_i fs hu
  split at h
  ·rename_i fd hf
   simp only [Bool.and_eq_true] at h
   obtain ⟨h1,h2⟩:=h;have e1:fd.offset=off:=by simpa using h1
   cases hi:P.info? fd.type with
   | none=>rw [hi] at h2; cases h2
   | some i=>
    rw [hi] at h2;have h3:i.size≠0:=by simpa using h2
    simp [Instr.fieldAt,run_underlying hu,hf,Instr.sureAddr,fieldPlace,sizeOf,typeInfo,hi,h3,Addr.add_lit,e1]
  ·cases h
 ·cases h
theorem Kt {P:Program}{w:World}{T:TypeId}{ag:Bool}{n b o:Nat}{cs:List Value} (hT:tyB P T ag n=true) (hl:cs.length=n) (h1:ag=false→n=1)
  (h:∀j v,cs[j]? = some v→w.cell? ⟨b,o+j,none⟩=some v):(Instr.loadAt T (.pointer (some ⟨b,o,none⟩))).run P w = .ok (Yg ag cs) w:=by
 have ha:=Qj0 hT w;have hs:=UC (Qdi hT) w
 simp only [Instr.loadAt,Instr.sureAddr,pure_bind,loadVar,Sem.run_bind,ha,Result.andThen_ok]
 cases ag with
 | true=>
  subst hl;have:=run_loadCells_list (P:=P) w ⟨b,o,none⟩ cs (fun j v e=>by rw [Addr.add_lit]; exact h j v e)
  simp [hs,this,Yg]
 | false=>
  rw [h1 rfl] at hl
  match cs,hl with
  | [v],_=>
   have:=h 0 v rfl;rw [Nat.add_zero] at this
   simp [run_load,this,Yg]
section
variable {c : Ctx} {Γ : Env} {H H' : List Ent} {d : Option Tmp} {ty : TypeId} {pos : String} {aft : Array Edge} {g : Option (Nat × Bool)} {α β : Type}
theorem Qct {T:TypeId}{x:Operand}{R:Rep α}{y:α} (hx:Has Γ x (QZ R y)) (hT:tyB c.P T R.ag R.n=true):PJ c ⟨d, .load T x,ty,pos,aft,g⟩ Γ H (R.slot y):=
 XC fun m hs a w hg _ _ ho=>by
  obtain ⟨b,o,ds,e,hr,hat⟩:=hx m a (ho x (by simp [Op.operands]));refine ⟨Yg R.ag ds,?_,Rep.is_of hr⟩
  simp only [execOp,e,Sem.run_bind,Kt hT (R.len hr) R.one (fun j v e=>hg.mem _ _ _ (hat j v e))]
  rfl
theorem Sat.box {m:Mem}{hs:Hp}{w:World}{b:Nat}{T0:TypeId}{R:Rep α}{x:α} (hsat:Sat H m hs) (hk:Pick H (box b T0 R x) H') :
  ∃cs,(b,T0,cs)∈hs∧R.rel m cs x:=by
 obtain ⟨h1,h2,hp,⟨cs,e,hr⟩,_⟩:=hsat.pick hk;exact ⟨cs,hp.mem_iff.2 (by simp [e]),hr⟩
theorem Zk.cells {m:Mem}{hs:Hp}{w:World} (hg:Zk m hs w){b:Nat}{T:TypeId}{cs:List Value} (h:(b,T,cs)∈hs) (j:Nat) (v:Value) (e:cs[j]? = some v):w.cell? ⟨b,j,none⟩=some v:=by
 have:=hg.blk _ h
 simp only [World.cell?,this]
 simpa using e
theorem QhJ {T T0:TypeId}{x:Operand}{b off:Nat}{R:Rep α}{S:Rep β}{y:α}{get:α→β}{set:α→β→α} (hx:Has Γ x (val (.pointer (some ⟨b,off,none⟩))))
  (hk:Pick H (box b T0 R y) H') (hp:Path R off S get set) (hT:tyB c.P T S.ag S.n=true):PJ c ⟨d, .load T x,ty,pos,aft,g⟩ Γ H (S.slot (get y)):=
 XC fun m hs a w hg _ hsat ho=>by
  have e:a.eval x=_:=hx m a (ho x (by simp [Op.operands]));obtain ⟨cs,hmem,hr⟩:=Sat.box (w:=w) hsat hk;have hr':=hp.get_ok hr;refine ⟨Yg S.ag ((cs.drop off).take S.n),?_,Rep.is_of hr'⟩
  simp only [execOp,e,Sem.run_bind]
  rw [Kt hT (S.len hr') S.one]
  ·rfl
  ·intro j v ev;rw [List.getElem?_take] at ev
   split at ev
   ·rw [List.getElem?_drop] at ev; exact hg.cells hmem _ _ ev
   ·cases ev
def GAt (n:Nat) (R:Rep α) (x:α) (m:Mem):Prop:=∃cs,R.rel m cs x∧At m n 0 cs
theorem QfD {T:TypeId}{n:Nat}{R:Rep α}{y:α} (h:∀m,c.G.p m→GAt n R y m) (hT:tyB c.P T R.ag R.n=true):PJ c ⟨d, .load T (.global n),ty,pos,aft,g⟩ Γ H (R.slot y):=
 XC fun m hs a w hg hG _ ho=>by
  obtain ⟨cs,hr,hat⟩:=h m hG;refine ⟨Yg R.ag cs,?_,Rep.is_of hr⟩;have e:a.eval (.global n) = .pointer (some ⟨n,0,none⟩):=rfl
  simp only [execOp,e,Sem.run_bind,Kt hT (R.len hr) R.one (fun j v e=>hg.mem _ _ _ (hat j v e))]
  rfl
theorem QhQ {S f off:Nat}{x:Operand}{R:Rep α}{Q:Rep β}{y:α}{get:α→β}{set:α→β→α} (hx:Has Γ x (QZ R y)) (hp:Path R off Q get set) (hf:Qg0 c.P S f off=true) :
  PJ c ⟨d, .fieldAddr S x f,ty,pos,aft,g⟩ Γ H (QZ Q (get y)):=
 XC fun m hs a w hg _ _ ho=>by
  obtain ⟨b,o,ds,e,hr,hat⟩:=hx m a (ho x (by simp [Op.operands]));exact ⟨_,by simp only [execOp,e,Sem.run_bind,QfY hf]; rfl,b,o+off,_,rfl,hp.get_ok hr,hat.mid _ _⟩
theorem Qg4 {S f off b o:Nat}{x:Operand} (hx:Has Γ x (val (.pointer (some ⟨b,o,none⟩)))) (hf:Qg0 c.P S f off=true) :
  PJ c ⟨d, .fieldAddr S x f,ty,pos,aft,g⟩ Γ H (val (.pointer (some ⟨b,o+off,none⟩))):=
 XC fun m hs a w hg _ _ ho=>by
  have e:a.eval x=_:=hx m a (ho x (by simp [Op.operands]));exact ⟨_,by simp only [execOp,e,Sem.run_bind,QfY hf]; rfl,rfl⟩
theorem Qlv {x:Operand}{R:Rep α}{y:α} (hx:Has Γ x ((ptr R).slot (some y))):Has Γ x (QZ R y):=by
 intro m a ho;obtain ⟨b,o,ds,e,hr,hat⟩:=hx m a ho
 simp only [List.cons.injEq,and_true] at e
 exact ⟨b,o,ds,e,hr,hat⟩
theorem BF {P:Program}{T n sz:Nat} (hT:Qcs P T n sz=true) (b o:Nat) (k:IntKind){i:Int} (h0:0≤i) (h1:i < n) (w:World) :
  (Instr.indexAt T (.pointer (some ⟨b,o,none⟩)) (.int k i)).run P w = .ok (.pointer (some ⟨b,o+i.toNat*sz,none⟩)) w:=by
 obtain ⟨e,hu,hs⟩:=Qc4 hT;have hr:=UC hs w;have:0≤i∧i < (n:Int):=⟨h0,h1⟩
 simp [Instr.indexAt,asIntOf,run_underlying hu,Instr.sureAddr,this,hr,Addr.add_lit]
theorem Qbe {P:Program}{T sz:Nat} (hT:slB P T sz=true) (b o n cap:Nat) (k:IntKind){i:Int} (h0:0≤i) (h1:i < n) (w:World) :
  (Instr.indexAt T (.slice (some ⟨b,o,none⟩) n cap) (.int k i)).run P w = .ok (.pointer (some ⟨b,o+i.toNat*sz,none⟩)) w:=by
 obtain ⟨e,hu,hs⟩:=Qbk hT;have hr:=UC hs w;have:0≤i∧i < (n:Int):=⟨h0,h1⟩
 simp [Instr.indexAt,asIntOf,run_underlying hu,this,hr,Addr.add_lit]
theorem Qip {T:TypeId}{x y:Operand}{R:Rep α}{l:List α}{i:Int}{s:Slot} (hx:Has Γ x ((sl R).slot l)) (hy:Has Γ y s) (hs:Um s i) (h0:0≤i) (h1:i.toNat < l.length) (hT:slB c.P T R.n=true) :
  PJ c ⟨d, .indexAddr T x y,ty,pos,aft,g⟩ Γ H (QZ R l[i.toNat]):=
 XC fun m hs2 a w hg _ _ ho=>by
  obtain ⟨a0,cap,e,hc,hrow⟩:=hx m a (ho x (by simp [Op.operands]));obtain ⟨k,ek⟩:=hs m _ (hy m a (ho y (by simp [Op.operands])))
  simp only [List.cons.injEq,and_true] at e
  rcases hrow with rfl | ⟨b,o,row,rfl,hr,hat⟩
  ·simp at h1
  ·refine ⟨_,by simp only [execOp,e,ek,Sem.run_bind,Qbe hT b o l.length cap k h0 (by omega)]; rfl,b,_,_,rfl,Zm.get hr h1,hat.mid _ _⟩
theorem QI {T n sz b o:Nat}{x y:Operand}{i:Int}{s:Slot} (hx:Has Γ x (val (.pointer (some ⟨b,o,none⟩)))) (hy:Has Γ y s) (hs:Um s i) (h0:0≤i) (h1:i < n) (hT:Qcs c.P T n sz=true:=by kernel_rfl) :
  PJ c ⟨d, .indexAddr T x y,ty,pos,aft,g⟩ Γ H (val (.pointer (some ⟨b,o+i.toNat*sz,none⟩))):=
 XC fun m hs2 a w hg _ _ ho=>by
  have e:a.eval x=_:=hx m a (ho x (by simp [Op.operands]));obtain ⟨k,ek⟩:=hs m _ (hy m a (ho y (by simp [Op.operands])));exact ⟨_,by simp only [execOp,e,ek,Sem.run_bind,BF hT b o k h0 h1]; rfl,rfl⟩
theorem Qib {T n:Nat}{x y:Operand}{R:Rep α}{v:Vector α n}{i:Int}{s:Slot} (hx:Has Γ x (QZ (vec n R) v)) (hy:Has Γ y s) (hs:Um s i) (h0:0≤i) (h1:i.toNat < n) (hT:Qcs c.P T n R.n=true) :
  PJ c ⟨d, .indexAddr T x y,ty,pos,aft,g⟩ Γ H (QZ R v[i.toNat]):=
 XC fun m hs2 a w hg _ _ ho=>by
  obtain ⟨b,o,ds,e,hr,hat⟩:=hx m a (ho x (by simp [Op.operands]));obtain ⟨k,ek⟩:=hs m _ (hy m a (ho y (by simp [Op.operands])));exact ⟨_,by simp only [execOp,e,ek,Sem.run_bind,BF hT b o k h0 (show i < (n:Int) by omega)]; rfl,b,_,_,rfl,(Path.at n R i.toNat h1).get_ok hr,hat.mid _ _⟩
theorem qw {P:Program}{T n off:Nat}{ag:Bool}{cs:List Value} (hT:tyB P T ag n=true) (h1:ag=false→n=1) (hf:off+n≤cs.length) (w:World) :
  (part T cs.toArray off).run P w = .ok (Yg ag ((cs.drop off).take n)) w:=by
 have ha:=Qj0 hT w;have hs:=UC (Qdi hT) w
 simp only [part,Sem.run_bind,ha,Result.andThen_ok]
 cases ag with
 | true=>
  simp [hs,Yg]
 | false=>
  have:=h1 rfl;subst this;have hlt:off < cs.length:=by omega
  simp only [Bool.false_eq_true,if_false]
  rw [show cs.toArray[off]? = some cs[off] by simp [hlt]]
  simp only [Yg,Sem.run_pure]
  rw [List.drop_eq_getElem_cons hlt]
  rfl
theorem QgI {T n e:Nat}{x y:Operand}{R:Rep α}{v:Vector α n}{i:Int}{s:Slot} (hx:Has Γ x ((vec n R).slot v)) (hy:Has Γ y s) (hs:Um s i) (h0:0≤i) (h1:i.toNat < n)
  (hT:c.P.underlying T=some (.array n e)) (he:tyB c.P e R.ag R.n=true):PJ c ⟨d, .index T x y,ty,pos,aft,g⟩ Γ H (R.slot v[i.toNat]):=
 XC fun m hs2 a w hg _ _ ho=>by
  obtain ⟨cs,e',hr⟩:=hx m a (ho x (by simp [Op.operands]));obtain ⟨k,ek⟩:=hs m _ (hy m a (ho y (by simp [Op.operands])));have hp:=Path.at n R i.toNat h1;have hr':=hp.get_ok hr;refine ⟨Yg R.ag ((cs.drop (i.toNat*R.n)).take R.n),?_,Rep.is_of hr'⟩;have hz:=UC (Qdi he) w;have:0≤i∧i < (n:Int):=⟨h0,by omega⟩;have hpt:=qw (cs:=cs) (off:=i.toNat*R.n) he R.one (by rw [(vec n R).len hr]; exact hp.fits) w;have hrun:(Instr.index T (.agg cs.toArray) (.int k i)).run c.P w = .ok (Yg R.ag ((cs.drop (i.toNat*R.n)).take R.n)) w:=by
   simp only [Instr.index,asIntOf,Sem.run_bind,Sem.run_pure,run_underlying hT,Result.andThen_ok,if_pos this,hz,hpt]
  simp only [execOp,e',ek,Sem.run_bind,hrun]
  rfl
theorem Qni {P:Program}{T ty:TypeId}{sz:Nat} (hT:slB P T sz=true) (a:Option Addr) (n cap:Nat) (w:World) :
  (Builtin.len_ #[T] ty #[.slice a n cap]).run P w = .ok (goInt n) w:=by
 obtain ⟨e,hu,_⟩:=Qbk hT
 simp [Builtin.len_,run_underlying hu]
theorem Qd8 {T:TypeId}{x:Operand}{n:Nat}{s:Slot}{sz:Nat} (hx:Has Γ x s) (hs:∀m hs v,Sat H m hs→s.p m v→∃a cap,v = .slice a n cap) (hT:slB c.P T sz=true) :
  PJ c ⟨d, .call {callee:= .builtin .len,args:=#[x],argTypes:=#[T]},ty,pos,aft,g⟩ Γ H (i64.slot (n:Int)):=
 XC fun m hs2 a w hg _ hsat ho=>by
  obtain ⟨a0,cap,e⟩:=hs m hs2 _ hsat (hx m a (ho x (by simp [Op.operands,Call.operands])));refine ⟨goInt n,?_,Yu.2 rfl⟩;have hl:=Qni (ty:=ty) hT a0 n cap w
  simp only [execOp,resolve,Sem.run_bind,Sem.run_pure,Result.andThen_ok,invoke,builtin]
  simp only [List.map_toArray,List.map_cons,List.map_nil,e,hl,Result.andThen_ok]
theorem QR {T:TypeId}{x:Operand}{R:Rep α}{l:List α}{sz:Nat} (hx:Has Γ x ((sl R).slot l)) (hT:slB c.P T sz=true:=by kernel_rfl) :
  PJ c ⟨d, .call {callee:= .builtin .len,args:=#[x],argTypes:=#[T]},ty,pos,aft,g⟩ Γ H (i64.slot (l.length:Int)):=
 Qd8 hx (fun m hs v _ ⟨a,cap,e,_⟩=>by simp only [List.cons.injEq,and_true] at e; exact ⟨a,cap,e⟩) hT
theorem ZY {T T0:TypeId}{x:Operand}{v:Value}{R:Rep α}{l:List α}{sz:Nat} (hx:Has Γ x (ov v)) (hk:Pick H (own T0 R v l) H') (hT:slB c.P T sz=true:=by kernel_rfl) :
  PJ c ⟨d, .call {callee:= .builtin .len,args:=#[x],argTypes:=#[T]},ty,pos,aft,g⟩ Γ H (i64.slot (l.length:Int)):=
 Qd8 hx (fun m hs u hsat hu=>by
  obtain ⟨h1,h2,_,ho,_⟩:=hsat.pick hk;obtain ⟨a,cap,e,_⟩:=own.shape ho;exact ⟨a,cap,(Bv.1 hu).1.trans e⟩) hT
theorem Qft {T:TypeId}{x:Operand}{a0:Option Addr}{n cap:Nat}{sz:Nat} (hx:Has Γ x (val (.slice a0 n cap))) (hT:slB c.P T sz=true) :
  PJ c ⟨d, .call {callee:= .builtin .len,args:=#[x],argTypes:=#[T]},ty,pos,aft,g⟩ Γ H (i64.slot (n:Int)):=
 Qd8 hx (fun m hs u _ hu=>⟨a0,cap,hu⟩) hT
inductive OptI (Γ:Env):Option Operand→Option Int→Prop
 | no:OptI Γ none none
 | yes {x:Operand}{s:Slot}{i:Int}:Has Γ x s→Um s i→OptI Γ (some x) (some i)
theorem OptI.val {x:Option Operand}{i:Option Int} (h:OptI Γ x i){m:Mem}{a:Act} (ho:∀y,x=some y→Opd Γ m a y) :
  (x.map a.eval=none∧i=none)∨∃k n,x.map a.eval=some (.int k n)∧i=some n:=by
 cases h with
 | no=>exact .inl ⟨rfl,rfl⟩
 | yes h k=>
  obtain ⟨kk,e⟩:=k _ _ (h m a (ho _ rfl));exact .inr ⟨kk,_,by simp [e],rfl⟩
theorem BG {P:Program}{isS:Bool}{len cap:Nat}{lo hi:Option Value}{l h:Option Int} (hlo:(lo=none∧l=none)∨∃k n,lo=some (.int k n)∧l=some n)
  (hhi:(hi=none∧h=none)∨∃k n,hi=some (.int k n)∧h=some n) (h0:0≤l.getD 0) (h1:l.getD 0≤h.getD len) (h2:h.getD len≤cap) (w:World) :
  (Instr.sliceBounds isS len cap lo hi none).run P w = .ok ((l.getD 0).toNat,(h.getD len).toNat,cap) w:=by
 have hb:∀(k:IntKind) (n:Int) (y:Nat) (code:BoundsCode),0≤n→n≤y→(Instr.sliceBound (.int k n) y code).run P w = .ok n.toNat w:=by
  intro k n y code h0 h1
  simp [Instr.sliceBound,asIntOf,h0,h1]
 unfold Instr.sliceBounds
 rcases hhi with ⟨rfl,rfl⟩ | ⟨k,n,rfl,rfl⟩<;>rcases hlo with ⟨rfl,rfl⟩ | ⟨k',n',rfl,rfl⟩
 ·simp
 ·simp only [Option.getD_some,Option.getD_none] at h0 h1 h2 ⊢
  simp [hb k' n' len _ h0 h1]
 ·simp only [Option.getD_some,Option.getD_none] at h0 h1 h2 ⊢
  simp [hb k n cap _ (by omega) h2]
 ·simp only [Option.getD_some,Option.getD_none] at h0 h1 h2 ⊢
  have e1:=hb k n cap (if isS=true then .sliceAcap else .sliceAlen) (by omega) h2;have e2:=hb k' n' n.toNat .sliceB h0 (by omega)
  simp [e1,e2]
theorem UY {P:Program}{T sz:Nat} (hT:slB P T sz=true){a:Option Addr}{len cap:Nat}{lo hi:Option Value}{l h:Option Int}
  (hlo:(lo=none∧l=none)∨∃k n,lo=some (.int k n)∧l=some n)
  (hhi:(hi=none∧h=none)∨∃k n,hi=some (.int k n)∧h=some n) (h0:0≤l.getD 0) (h1:l.getD 0≤h.getD len) (h2:h.getD len≤cap) (w:World) :
  (Instr.sliceAt T (.slice a len cap) lo hi none).run P w =
   .ok (.slice (if cap=(l.getD 0).toNat then a else a.map (·.add ((l.getD 0).toNat*sz))) ((h.getD len).toNat - (l.getD 0).toNat) (cap - (l.getD 0).toNat)) w:=by
 obtain ⟨e,hu,hs⟩:=Qbk hT;have hz:=UC hs w;have hb:=BG (P:=P) (isS:=true) hlo hhi h0 h1 h2 w
 simp only [Instr.sliceAt,Sem.run_bind,run_underlying hu,Result.andThen_ok,Instr.slice,hb,hz,Sem.run_pure]
theorem QhC {T:TypeId}{x:Operand}{lo hi:Option Operand}{R:Rep α}{xs:List α}{l h:Option Int} (hx:Has Γ x ((sl R).slot xs)) (hlo:OptI Γ lo l) (hhi:OptI Γ hi h)
  (h0:0≤l.getD 0) (h1:l.getD 0≤h.getD xs.length) (h2:h.getD xs.length≤xs.length) (hT:slB c.P T R.n=true) :
  PJ c ⟨d, .slice T x lo hi none,ty,pos,aft,g⟩ Γ H ((sl R).slot ((xs.take (h.getD xs.length).toNat).drop (l.getD 0).toNat)):=
 XC fun m hs2 a w hg _ _ ho=>by
  obtain ⟨a0,cap,e,hc,hrow⟩:=hx m a (ho x (by simp [Op.operands]))
  simp only [List.cons.injEq,and_true] at e
  have hlo':=hlo.val (m:=m) (a:=a) (fun y hy=>ho y (by subst hy; simp [Op.operands]));have hhi':=hhi.val (m:=m) (a:=a) (fun y hy=>ho y (by subst hy; simp [Op.operands]));have hr:=UY (P:=c.P) hT (a:=a0) (cap:=cap) hlo' hhi' h0 h1 (by omega) w;refine ⟨_,by simp only [execOp,e,Option.map_none,Sem.run_bind,hr]; rfl,?_⟩;have hlen:((xs.take (h.getD xs.length).toNat).drop (l.getD 0).toNat).length=(h.getD xs.length).toNat - (l.getD 0).toNat:=by
   rw [List.length_drop,List.length_take,Nat.min_eq_left (by omega)]
  refine ⟨_,_,by rw [hlen],by rw [hlen]; omega,?_⟩
  by_cases hE:(xs.take (h.getD xs.length).toNat).drop (l.getD 0).toNat = []
  ·exact .inl hE
  ·refine .inr ?_;have hpos:(l.getD 0).toNat < (h.getD xs.length).toNat:=by
    rcases Nat.lt_or_ge (l.getD 0).toNat (h.getD xs.length).toNat with h | h
    ·exact h
    ·exact absurd (List.length_eq_zero_iff.1 (by rw [hlen]; omega)) hE
   rcases hrow with rfl | ⟨b,o,row,rfl,hrw,hat⟩
   ·simp at hE
   ·refine ⟨b,o+(l.getD 0).toNat*R.n,(row.take ((h.getD xs.length).toNat*R.n)).drop ((l.getD 0).toNat*R.n),?_,(hrw.take _).drop _,?_⟩
    ·rw [if_neg (by omega)]; simp [Addr.add_lit]
    ·rw [List.drop_take]; exact hat.mid _ _
theorem QgW {T n sz b o:Nat}{x:Operand}{lo hi:Option Operand}{l h:Option Int} (hx:Has Γ x (val (.pointer (some ⟨b,o,none⟩)))) (hlo:OptI Γ lo l) (hhi:OptI Γ hi h)
  (h0:0≤l.getD 0) (h1:l.getD 0≤h.getD n) (h2:h.getD n≤n) (h3:l.getD 0 < n) (hT:Qcs c.P T n sz=true) :
  PJ c ⟨d, .slice T x lo hi none,ty,pos,aft,g⟩ Γ H (val (.slice (some ⟨b,o+(l.getD 0).toNat*sz,none⟩) ((h.getD n).toNat - (l.getD 0).toNat) (n - (l.getD 0).toNat))):=
 XC fun m hs2 a w hg _ _ ho=>by
  have e:a.eval x=_:=hx m a (ho x (by simp [Op.operands]));have hlo':=hlo.val (m:=m) (a:=a) (fun y hy=>ho y (by subst hy; simp [Op.operands]));have hhi':=hhi.val (m:=m) (a:=a) (fun y hy=>ho y (by subst hy; simp [Op.operands]));obtain ⟨el,hu,hs⟩:=Qc4 hT;have hz:=UC hs w;have hb:=BG (P:=c.P) (isS:=false) hlo' hhi' h0 h1 h2 w;refine ⟨_,by
   simp only [execOp,e,Option.map_none,Sem.run_bind,Instr.sliceAt,run_underlying hu,Result.andThen_ok,Instr.sureAddr,Sem.run_pure,hb,hz]
   rw [if_neg (by omega)],?_⟩
  simp [val,Addr.add_lit]
theorem Qoa {T n e:Nat}{x:Operand}{R:Rep α}{l:List α} (hx:Has Γ x ((sl R).slot l)) (hl:n≤l.length) (hn:0 < n) (hT:c.P.underlying T=some (.array n e)) :
  PJ c ⟨d, .sliceToArrayPointer T x,ty,pos,aft,g⟩ Γ H (QZ (vec n R) (QgC n l hl)):=
 XC fun m hs2 a w hg _ _ ho=>by
  obtain ⟨a0,cap,e,hc,hrow⟩:=hx m a (ho x (by simp [Op.operands]))
  simp only [List.cons.injEq,and_true] at e
  rcases hrow with rfl | ⟨b,o,row,rfl,hrw,hat⟩
  ·simp at hl; omega
  ·refine ⟨_,?_,b,o,row.take (n*R.n),rfl,?_,?_⟩
   ·have:¬l.length < n:=by omega
    simp only [execOp,e,Sem.run_bind,Instr.arrayAt,run_underlying hT,Result.andThen_ok,this,if_false,Sem.run_pure]
   ·show Zm R m _ (QgC n l hl).toList;rw [QaM]; exact hrw.take n
   ·have:=hat.mid 0 (n*R.n)
    simpa using this
theorem Ub {x:Operand}{i:Nat}{ss:List Slot}{s:Slot} (hx:Has Γ x (tup ss)) (hi:ss[i]? = some s):PJ c ⟨d, .extract x i,ty,pos,aft,g⟩ Γ H s:=
 XC fun m hs a w _ _ _ ho=>by
  obtain ⟨vs,e,hv⟩:=hx m a (ho x (by simp [Op.operands]));have key:∀(ss:List Slot) (vs:List Value) (i:Nat),BI m ss vs→ss[i]? = some s→∃v,vs[i]? = some v∧s.p m v:=by
   intro ss
   induction ss with
   | nil=>intro vs i _ h; simp at h
   | cons t ts ih=>
    intro vs i ⟨v,vs',e,p,q⟩ h;subst e
    cases i with
    | zero=>simp at h; subst h; exact ⟨v,rfl,p⟩
    | succ i=>exact ih vs' i q (by simpa using h)
  obtain ⟨v,hv',hp⟩:=key ss vs i hv hi;exact ⟨v,by simp [execOp,e,Instr.extract,hv'],hp⟩
theorem Qu {x:Operand}{a0:Addr} (hx:Has Γ x (val (.pointer (some a0)))):PJ c ⟨d, .nilCheck x,ty,pos,aft,g⟩ Γ H (val (.pointer (some a0))):=
 XC fun m hs a w _ _ _ ho=>by
  have e:a.eval x=_:=hx m a (ho x (by simp [Op.operands]));exact ⟨_,by simp only [execOp,e]; rfl,rfl⟩
theorem QfQ {x:Operand}{R:Rep α}{y:α} (hx:Has Γ x (QZ R y)):PJ c ⟨d, .nilCheck x,ty,pos,aft,g⟩ Γ H (QZ R y):=
 XC fun m hs a w _ _ _ ho=>by
  obtain ⟨b,o,ds,e,hr⟩:=hx m a (ho x (by simp [Op.operands]));exact ⟨_,by simp only [execOp,e]; rfl,b,o,ds,rfl,hr⟩
end
end Go.Sl
namespace Go.Sl
theorem Zk.lt {m:Mem}{hs:Hp}{w:World} (hg:Zk m hs w){b o:Nat}{v:Value} (h:m b o=some v):b < w.heap.size:=
 World.block_lt_of_cell? w ⟨b,o,none⟩ (hg.mem b o v h)
theorem Zk.ltb {m:Mem}{hs:Hp}{w:World} (hg:Zk m hs w){b:Nat} (h:b∈hs.bs):b < w.heap.size:=by
 obtain ⟨x,hx,rfl⟩:=List.mem_map.1 h;have:=hg.blk x hx
 rcases Nat.lt_or_ge x.1 w.heap.size with h | h
 ·exact h
 ·rw [Array.getElem?_eq_none h] at this; cases this
theorem KY {w:World}{o:Obj}{b:Nat} (h:b < w.heap.size):(w.alloc o).heap[b]? = w.heap[b]?:=by
 show (w.heap.push o)[b]? = _;rw [Array.getElem?_push,if_neg (by omega)]
theorem QeW {w:World}{o:Obj}:(w.alloc o).heap[w.heap.size]? = some o:=by
 show (w.heap.push o)[w.heap.size]? = _;rw [Array.getElem?_push,if_pos rfl]
theorem Zk.drew {m:Mem}{hs:Hp}{w:World} (hg:Zk m hs w):Zk m hs w.drew:=⟨hg.mem,hg.nodup,hg.blk,hg.free⟩
theorem Zk.newOwn {m:Mem}{hs:Hp}{w:World} (hg:Zk m hs w) (T:TypeId) (cs:List Value):Zk m ((w.heap.size,T,cs)::hs) (w.alloc (.cells cs.toArray T)) where
 mem:=fun b o v h=>(World.cell?_alloc_lt w _ ⟨b,o,none⟩ (hg.lt h)).trans (hg.mem b o v h)
 nodup:=by
  simp only [Hp.bs,List.map_cons,List.nodup_cons]
  exact ⟨fun h=>Nat.lt_irrefl _ (hg.ltb h),hg.nodup⟩
 blk:=fun x hx=>by
  rcases List.mem_cons.1 hx with rfl | hx
  ·exact QeW
  ·rw [KY (hg.ltb (List.mem_map_of_mem (f:=(·.1)) hx))]; exact hg.blk x hx
 free:=fun x hx o=>by
  rcases List.mem_cons.1 hx with rfl | hx
  ·cases h:m w.heap.size o with
   | none=>rfl
   | some v=>exact absurd (hg.lt h) (Nat.lt_irrefl _)
  ·exact hg.free x hx o
theorem Frm.alloc (w:World) (m:Mem) (bs:List Nat) (o:Obj):Frm w (w.alloc o) m m bs (w.heap.size::bs) where
 os:=rfl
 tape:=rfl
 output:=rfl
 size:=by simp
 old:=fun b hb _=>⟨KY hb,fun _=>rfl⟩
 own:=fun b hb=>by
  rcases List.mem_cons.1 hb with rfl | hb
  ·exact .inr (Nat.le_refl _)
  ·exact .inl hb
 le:=Mle.refl m
theorem Frm.drew (w:World) (m:Mem) (bs:List Nat):Frm w w.drew m m bs bs:=⟨rfl,rfl,rfl,Nat.le_refl _,fun _ _ _=>⟨rfl,fun _=>rfl⟩,fun _ h=> .inl h,Mle.refl m⟩
def Mem.put (m:Mem) (b:Nat) (cs:List Value):Mem:=fun b' o=>if b'=b then cs[o]? else m b' o
theorem Mem.le_put {m:Mem}{b:Nat}{cs:List Value} (h:∀o,m b o=none):Mle m (m.put b cs):=by
 intro b' o v e;unfold Mem.put
 split
 ·rename_i hb; subst hb; rw [h o] at e; cases e
 ·exact e
theorem Mem.at_put (m:Mem) (b:Nat) (cs:List Value):At (m.put b cs) b 0 cs:=by
 intro j v e
 simp [Mem.put,e]
theorem Zk.freeze {m:Mem}{hs:Hp}{w:World}{b:Nat}{T:TypeId}{cs:List Value} (hg:Zk m ((b,T,cs)::hs) w):Zk (m.put b cs) hs w where
 mem:=fun b' o v h=>by
  unfold Mem.put at h
  split at h
  ·rename_i hb; subst hb; exact hg.cells (T:=T) (cs:=cs) (by simp) o v h
  ·exact hg.mem b' o v h
 nodup:=by
  have:=hg.nodup
  simp only [Hp.bs,List.map_cons,List.nodup_cons] at this
  exact this.2
 blk:=fun x hx=>hg.blk x (List.mem_cons_of_mem _ hx)
 free:=fun x hx o=>by
  have:=hg.nodup
  simp only [Hp.bs,List.map_cons,List.nodup_cons] at this
  have hne:x.1≠b:=fun e=>this.1 (by rw [←e]; exact List.mem_map_of_mem (f:=(·.1)) hx)
  simp only [Mem.put,if_neg hne]
  exact hg.free x (List.mem_cons_of_mem _ hx) o
theorem Zk.le_put {m:Mem}{hs:Hp}{w:World}{b:Nat}{T:TypeId}{cs:List Value} (hg:Zk m ((b,T,cs)::hs) w):Mle m (m.put b cs):=Mem.le_put (hg.free (b,T,cs) (by simp))
theorem Frm.freeze {w w1:World}{m m1:Mem}{b0 bs:List Nat}{b:Nat}{cs:List Value} (h:Frm w w1 m m1 b0 (b::bs)) (hl:Mle m1 (m1.put b cs)):Frm w w1 m (m1.put b cs) b0 bs where
 os:=h.os
 tape:=h.tape
 output:=h.output
 size:=h.size
 old:=fun b' hb hn=>⟨(h.old b' hb hn).1,fun o=>by
  have hne:b'≠b:=fun e=>by
   subst e;exact (h.own b' (by simp)).elim hn (fun e=>absurd hb (Nat.not_lt.2 e))
  simp only [Mem.put,if_neg hne]
  exact (h.old b' hb hn).2 o⟩
 own:=fun b' hb=>h.own b' (List.mem_cons_of_mem _ hb)
 le:=h.le.trans hl
def setBlk (w:World) (b:Nat) (T:TypeId) (cs:List Value):World:={w with heap:=w.heap.setIfInBounds b (.cells cs.toArray T (0,0))}
theorem QiG {w:World}{b:Nat}{T:TypeId}{cs:List Value} (h:w.heap[b]? = some (.cells cs.toArray T (0,0))):setBlk w b T cs=w:=by
 unfold setBlk;have hlt:b < w.heap.size:=by
  rcases Nat.lt_or_ge b w.heap.size with h' | h'
  ·exact h'
  ·rw [Array.getElem?_eq_none h'] at h; cases h
 have:w.heap.setIfInBounds b (.cells cs.toArray T (0,0))=w.heap:=by
  apply Array.ext_getElem?
  intro i;rw [Array.getElem?_setIfInBounds]
  split
  ·rename_i e; subst e; rw [h]
  ·rfl
 rw [this]
theorem Qi6 {w:World}{b k:Nat}{T:TypeId}{cs:List Value}{v:Value} (h:w.heap[b]? = some (.cells cs.toArray T (0,0))) :
  w.setCell ⟨b,k,none⟩ v=setBlk w b T (cs.set k v):=by
 unfold World.setCell setBlk
 congr 1
 apply Array.ext_getElem?
 intro i;rw [Array.getElem?_modify,Array.getElem?_setIfInBounds]
 by_cases hi:b=i
 ·subst hi;have hlt:b < w.heap.size:=by
   rcases Nat.lt_or_ge b w.heap.size with h' | h'
   ·exact h'
   ·rw [Array.getElem?_eq_none h'] at h; cases h
  have h':w.heap[b] = .cells cs.toArray T (0,0):=by simpa [hlt] using h
  simp [hlt,h']
 ·simp [hi]
theorem Qfz {w:World}{b:Nat}{T:TypeId}{cs cs':List Value} (h:w.heap[b]? = some (.cells cs.toArray T (0,0))):(setBlk w b T cs').heap[b]? = some (.cells cs'.toArray T (0,0)):=by
 have hlt:b < w.heap.size:=by
  rcases Nat.lt_or_ge b w.heap.size with h' | h'
  ·exact h'
  ·rw [Array.getElem?_eq_none h'] at h; cases h
 simp [setBlk,Array.getElem?_setIfInBounds,hlt]
theorem Qgb {w:World}{b:Nat}{T:TypeId}{cs cs':List Value}:setBlk (setBlk w b T cs) b T cs'=setBlk w b T cs':=by
 unfold setBlk
 congr 1
 simp
theorem UJ {P:Program}{b o:Nat}{T:TypeId}:∀(ds:List Value) (i:Nat) (cs:List Value) (w:World),(∀v∈ds,v.oneCell'=true)→
  w.heap[b]? = some (.cells cs.toArray T (0,0))→o+i+ds.length≤cs.length→
  (storeCells ⟨b,o,none⟩ ds i).run P w = .ok () (setBlk w b T (cs.take (o+i)++ds++cs.drop (o+i+ds.length)))
 | [],i,cs,w,_,hb,_=>by
  simp only [storeCells,Sem.run_pure,List.append_nil,List.length_nil,Nat.add_zero,List.take_append_drop]
  rw [QiG hb]
 | v::ds,i,cs,w,hv,hb,hl=>by
  simp only [List.length_cons] at hl
  have hlt:o+i < cs.length:=by omega
  have hc:w.cell? ⟨b,o+i,none⟩=some cs[o+i]:=by simp [World.cell?,hb,hlt]
  have hf:w.frozen? ⟨b,o+i,none⟩=false:=by simp [World.frozen?,hb]
  have ih:=UJ (P:=P) (b:=b) (o:=o) (T:=T) ds (i+1) (cs.set (o+i) v) (setBlk w b T (cs.set (o+i) v)) (fun u hu=>hv u (List.mem_cons_of_mem _ hu)) (Qfz hb) (by simp; omega)
  simp only [storeCells,Sem.run_bind,Addr.add_lit]
  rw [run_store P w _ v .plain (hv v (by simp)),hc]
  simp only [hf,Bool.false_eq_true,if_false,Result.andThen_ok,Qi6 hb,ih,Qgb]
  congr 2
  have e1:(cs.set (o+i) v).take (o+(i+1))=cs.take (o+i)++ [v]:=by
   rw [show o+(i+1)=(o+i)+1 by omega,List.take_succ_eq_append_getElem (by simpa using hlt)];rw [List.take_set,List.set_eq_of_length_le (by simp; omega)]; simp
  have e2:(cs.set (o+i) v).drop (o+(i+1)+ds.length)=cs.drop (o+i+(v::ds).length):=by
   rw [List.drop_set_of_lt (by omega)]; congr 1; simp; omega
  rw [e1,e2]; simp
theorem Zk.setBlk {m:Mem}{hs:Hp}{w:World}{b:Nat}{T:TypeId}{cs:List Value} (cs':List Value) (hg:Zk m ((b,T,cs)::hs) w):Zk m ((b,T,cs')::hs) (setBlk w b T cs') where
 mem:=fun b' o v h=>by
  have hne:b'≠b:=fun e=>by subst e; rw [hg.free (b',T,cs) (by simp) o] at h; cases h
  have:=hg.mem b' o v h;have hbk:(Sl.setBlk w b T cs').heap[b']? = w.heap[b']?:=by
   have hne':b≠b':=fun e=>hne e.symm
   simp [Sl.setBlk,Array.getElem?_setIfInBounds,hne']
  exact (World.cell?_of_block (w:=w) (a:=⟨b',o,none⟩) hbk).trans this
 nodup:=hg.nodup
 blk:=fun x hx=>by
  rcases List.mem_cons.1 hx with rfl | hx
  ·exact Qfz (hg.blk (b,T,cs) (by simp))
  ·have hn:=hg.nodup
   simp only [Hp.bs,List.map_cons,List.nodup_cons] at hn
   have hne:b≠x.1:=fun e=>hn.1 (by rw [e]; exact List.mem_map_of_mem (f:=(·.1)) hx)
   simp only [Sl.setBlk,Array.getElem?_setIfInBounds,if_neg hne]
   exact hg.blk x (List.mem_cons_of_mem _ hx)
 free:=fun x hx o=>by
  rcases List.mem_cons.1 hx with rfl | hx
  ·exact hg.free (b,T,cs) (by simp) o
  ·exact hg.free x (List.mem_cons_of_mem _ hx) o
theorem Frm.setBlk {w:World}{m:Mem}{b:Nat}{T:TypeId}{cs:List Value}{bs:List Nat} (hb:b∈bs):Frm w (setBlk w b T cs) m m bs bs where
 os:=rfl
 tape:=rfl
 output:=rfl
 size:=by simp [Sl.setBlk]
 old:=fun b' hb' hn=>by
  have hne:b≠b':=fun e=>hn (e▸hb)
  simp [Sl.setBlk,Array.getElem?_setIfInBounds,hne]
 own:=fun b' h=> .inl h
 le:=Mle.refl m
theorem UT {P:Program}{w:World}{T T0:TypeId}{n b o:Nat}{v:Value}{ds cs:List Value} (hT:szB P T n=true) (hv:v.cells=ds.toArray) (hl:ds.length=n) (h1:∀v∈ds,v.oneCell'=true)
  (hb:w.heap[b]? = some (.cells cs.toArray T0 (0,0))) (hn:o+n≤cs.length) :
  (Instr.storeAt T (.pointer (some ⟨b,o,none⟩)) v).run P w = .ok () (setBlk w b T0 (cs.take o++ds++cs.drop (o+n))):=by
 have hs:=UC hT w;have hst:=UJ (P:=P) (o:=o) ds 0 cs w h1 hb (by omega)
 simp only [Nat.add_zero,hl] at hst
 simp [Instr.storeAt,Instr.sureAddr,storeVar,hv,hs,hl,hst]
section
variable {c : Ctx} {full : Array Oper} {l : List Oper} {Γ Γ' : Env} {H H' : List Ent} {K : Act → World → Prop} {d : Tmp} {od : Option Tmp} {ty : TypeId} {pos : String} {aft : Array Edge} {α β : Type}
theorem Qbd {o:Oper}{Γ2:Env}{H2:List Ent} (hg:o.guard=none)
  (h:∀m hs a w,Zk m hs w→c.G.p m→Sat H m hs→Vg Γ m a→a.tmps.size=c.N→
   q7 c.P (fun v w'=>∃m' hs',Zk m' hs' w'∧Vg Γ2 m' (a.put o.dst v)∧Sat H2 m' hs'∧Frm w w' m m' hs.bs hs'.bs) ((execOp a.eval o).run c.P w))
  (k:J9 c full l Γ2 H2 K):J9 c full (o::l) Γ H K:=by
 intro a w Q hQ ⟨hdf,hn,m,hs,hgd,hG,he,hsat,hf⟩;refine wpListIn_plain hg fun K' hK'=>?_;refine q7.wp (h m hs a w hgd hG hsat he hn) ?_;rintro v w' ⟨m',hs',hgd',he',hsat',hfr⟩;exact hK' _ _ (k _ w' Q hQ ⟨by rw [XG]; exact hdf.step hgd hfr,by rw [Ku]; exact hn,m',hs',hgd',c.G.mono hfr.le hG,he',hsat',hf.trans hfr⟩)
theorem Ur {ι:Type}{o:Oper}{Γ2:ι→Env}{H2:ι→List Ent} (hg:o.guard=none)
  (h:∀m hs a w,Zk m hs w→c.G.p m→Sat H m hs→Vg Γ m a→a.tmps.size=c.N→
   q7 c.P (fun v w'=>∃i m' hs',Zk m' hs' w'∧Vg (Γ2 i) m' (a.put o.dst v)∧Sat (H2 i) m' hs'∧Frm w w' m m' hs.bs hs'.bs) ((execOp a.eval o).run c.P w))
  (k:∀i,J9 c full l (Γ2 i) (H2 i) K):J9 c full (o::l) Γ H K:=by
 intro a w Q hQ ⟨hdf,hn,m,hs,hgd,hG,he,hsat,hf⟩;refine wpListIn_plain hg fun K' hK'=>?_;refine q7.wp (h m hs a w hgd hG hsat he hn) ?_;rintro v w' ⟨i,m',hs',hgd',he',hsat',hfr⟩;exact hK' _ _ (k i _ w' Q hQ ⟨by rw [XG]; exact hdf.step hgd hfr,by rw [Ku]; exact hn,m',hs',hgd',c.G.mono hfr.le hG,he',hsat',hf.trans hfr⟩)
def KH (R:Rep α) (x:α) (cs:List Value):Prop:=∀m,R.rel m cs x
def Wx (P:Program) (T:TypeId):Option (List Value):=((P.info? T).bind (·.zero)).map fun v=>v.cells.toList
theorem Qv : KH i64 0 [.int .i64 0]:=fun _=>rfl
theorem QH {k:IntKind}{w:Nat}:KH (un k w) 0#w [.int k 0]:=fun _=>by simp [un]
theorem QaG : KH bl false [.bool false]:=fun _=>rfl
theorem Jw {R:Rep α}:KH (sl R) [] [.slice none 0 0]:=fun _=>⟨none,0,rfl,Nat.le_refl _, .inl rfl⟩
theorem Qh2 {R:Rep α}:KH (ptr R) none [.pointer none]:=fun _=>rfl
theorem Ql {R:Rep α}{S:Rep β}{x:α}{y:β}{cs ds:List Value} (h:KH R x cs) (k:KH S y ds):KH (prod R S) (x,y) (cs++ds):=fun m=>⟨cs,ds,rfl,h m,k m⟩
theorem Qw {R:Rep α}{x:α}{cs:List Value} (n:Nat) (h:KH R x cs):KH (vec n R) (Vector.replicate n x) (List.replicate n cs).flatten:=by
 intro m;show Zm R m _ (Vector.replicate n x).toList;have e:(Vector.replicate n x).toList=List.replicate n x:=Vector.toList_replicate;rw [e];clear e
 induction n with
 | zero=>rfl
 | succ n ih=>exact ⟨cs,_,rfl,h m,ih⟩
theorem Qad {P:Program}{T:TypeId}{cs:List Value} (h:Wx P T=some cs) (w:World):∃v,(zeroValue T).run P w = .ok v w∧v.cells=cs.toArray:=by
 unfold Wx at h
 cases hi:P.info? T with
 | none=>simp [hi] at h
 | some i=>
  cases hz:i.zero with
  | none=>simp [hi,hz] at h
  | some v=>
   simp [hi,hz] at h
   exact ⟨v,by simp [zeroValue,typeInfo,hi,hz],by rw [←h]⟩
theorem Qnf {T:TypeId}{R:Rep α}{x:α}{cs:List Value} (hz:KH R x cs) (hT:Wx c.P T=some cs) (hN:Nat.blt d c.N=true)
  (k:∀b,J9 c full l ((d,val (.pointer (some ⟨b,0,none⟩)))::Γ) (box b T R x::H) K):J9 c full (⟨some d, .alloc T,ty,pos,aft,none⟩::l) Γ H K:=by
 refine Ur (Γ2:=fun b=>(d,val (.pointer (some ⟨b,0,none⟩)))::Γ) (H2:=fun b=>box b T R x::H) rfl ?_ k;intro m hs a w hg _ hsat he hn;obtain ⟨v,hv,hc⟩:=Qad hT w;have hr:(execOp a.eval ⟨some d, .alloc T,ty,pos,aft,none⟩).run c.P w = .ok (.value (.pointer (some ⟨w.heap.size,0,none⟩))) (w.alloc (.cells cs.toArray T)):=by
  simp [execOp,Instr.alloc,hv,newVar,newRow,hc]
 rw [hr];exact ⟨w.heap.size,m,_,hg.newOwn T cs,he.put (by rw [hn]; simpa [Nat.blt_eq] using hN) rfl,⟨[(w.heap.size,T,cs)],hs,rfl,⟨cs,rfl,hz m⟩,hsat⟩,Frm.alloc _ _ _ _⟩
theorem qQ {T:TypeId}{R:Rep α}{x:α}{y:Operand} (hy:Has Γ y (R.slot x)) (hN:Nat.blt d c.N=true)
  (k:∀b,J9 c full l ((d,val (.pointer (some ⟨b,0,none⟩)))::Γ) (box b T R x::H) K):J9 c full (⟨some d, .box T y,ty,pos,aft,none⟩::l) Γ H K:=by
 refine Ur (Γ2:=fun b=>(d,val (.pointer (some ⟨b,0,none⟩)))::Γ) (H2:=fun b=>box b T R x::H) rfl ?_ k;intro m hs a w hg _ hsat he hn;obtain ⟨cs,hc,hr⟩:=Rep.is_cells (hy m a (he.opd y));have hrun:(execOp a.eval ⟨some d, .box T y,ty,pos,aft,none⟩).run c.P w = .ok (.value (.pointer (some ⟨w.heap.size,0,none⟩))) (w.alloc (.cells cs.toArray T)):=by
  simp [execOp,Instr.box,newVar,newRow,hc]
 rw [hrun];exact ⟨w.heap.size,m,_,hg.newOwn T cs,he.put (by rw [hn]; simpa [Nat.blt_eq] using hN) rfl,⟨[(w.heap.size,T,cs)],hs,rfl,⟨cs,rfl,hr⟩,hsat⟩,Frm.alloc _ _ _ _⟩
theorem Frm.ofPerm {w w':World}{m m':Mem}{hs hs1:Hp}{bs':List Nat} (p:hs.Perm hs1) (h:Frm w w' m m' hs1.bs bs'):Frm w w' m m' hs.bs bs':=by
 have e:∀b,b∈hs.bs↔b∈hs1.bs:=fun b=>(p.map _).mem_iff;exact {h with old:=fun b hb hn=>h.old b hb (fun e'=>hn ((e b).2 e')),own:=fun b hb=>(h.own b hb).imp (e b).2 id}
theorem Qh6 {T T0:TypeId}{x y:Operand}{b off:Nat}{R:Rep α}{S:Rep β}{r:α}{z:β}{get:α→β}{set:α→β→α} (hx:Has Γ x (val (.pointer (some ⟨b,off,none⟩))))
  (hy:Has Γ y (S.slot z)) (hk:Pick H (box b T0 R r) H') (hp:Path R off S get set) (hT:szB c.P T S.n=true)
  (k:J9 c full l Γ (box b T0 R (set r z)::H') K):J9 c full (⟨none, .store T x y,ty,pos,aft,none⟩::l) Γ H K:=by
 refine Qbd rfl ?_ k;intro m hs a w hg _ hsat he hn;have e:a.eval x=_:=hx m a (he.opd x);obtain ⟨ds,hc,hd⟩:=Rep.is_cells (hy m a (he.opd y));obtain ⟨h1,h2,hpm,⟨cs,rfl,hr⟩,hs2⟩:=hsat.pick hk;have hg':=hg.perm hpm;have hlen:off+S.n≤cs.length:=by rw [R.len hr]; exact hp.fits
 have hrun:(execOp a.eval ⟨none, .store T x y,ty,pos,aft,none⟩).run c.P w = .ok .skip (setBlk w b T0 (cs.take off++ds++cs.drop (off+S.n))):=by
  simp only [execOp,e,Sem.run_bind,UT hT hc (S.len hd) (S.cell hd) (hg'.blk (b,T0,cs) (by simp)) hlen]
  rfl
 rw [hrun];refine ⟨m,(b,T0,cs.take off++ds++cs.drop (off+S.n))::h2,hg'.setBlk _,he,⟨[_],h2,rfl,⟨_,rfl,hp.set_ok hr hd⟩,hs2⟩,?_⟩;exact Frm.ofPerm hpm (Frm.setBlk (by simp [Hp.bs]))
end
end Go.Sl
namespace Go.Sl
section
variable {c : Ctx} {full : Array Oper} {l : List Oper} {Γ Γ' : Env} {H H' : List Ent} {K : Act → World → Prop} {d : Tmp} {od : Option Tmp} {ty : TypeId} {pos : String} {aft : Array Edge} {g : Option (Nat × Bool)} {α β : Type}
theorem St.own_nil {a:Act}{w:World} (T:TypeId) (R:Rep α) (ad:Option Addr) (h:St c Γ H a w):St c Γ (own T R (.slice ad 0 0) []::H) a w:=by
 obtain ⟨hd,hn,m,hs,hg,hG,he,hsat,hf⟩:=h;exact ⟨hd,hn,m,hs,hg,hG,he,⟨[],hs,rfl, .inl ⟨rfl,rfl,ad,rfl⟩,hsat⟩,hf⟩
theorem VX {Γ:Env} (T:TypeId) (R:Rep α) (ad:Option Addr) (k:J9 c full l Γ (own T R (.slice ad 0 0) []::H) K):J9 c full l Γ H K:=
 fun a w Q hQ hst=>k a w Q hQ (hst.own_nil T R ad)
theorem own.froze {T:TypeId}{R:Rep α}{v:Value}{xs:List α}{m:Mem}{h1 h2:Hp}{w:World}{w0:World}{m0:Mem}{b0:List Nat} (ho:(own T R v xs).p m h1) (hg:Zk m (h1++h2) w) (hf:Frm w0 w m0 m b0 (Hp.bs (h1++h2))) :
  ∃m',Mle m m'∧Zk m' h2 w∧((sl R).slot xs).p m' v∧Frm w0 w m0 m' b0 h2.bs∧(∀b,b∉h1.bs→∀o,m' b o=m b o):=by
 rcases ho with ⟨rfl,rfl,a,rfl⟩ | ⟨b,cap,row,spare,rfl,rfl,hr,hc,hl⟩
 ·exact ⟨m,Mle.refl m,hg,⟨a,0,rfl,Nat.le_refl _, .inl rfl⟩,hf,fun _ _ _=>rfl⟩
 ·have hle:=hg.le_put;refine ⟨m.put b (row++spare),hle,hg.freeze,⟨_,cap,rfl,hc, .inr ⟨b,0,row,rfl,hr.mono hle,?_⟩⟩,hf.freeze hle,?_⟩
  ·intro j v e;have:=Mem.at_put m b (row++spare) j v (by rw [List.getElem?_append_left]; exact e; exact (List.getElem?_eq_some_iff.1 e).1);exact this
  ·intro b' hb o;have hne:b'≠b:=fun e=>hb (by simp [Hp.bs,e])
   simp [Mem.put,hne]
theorem Qd3 {Γ:Env}{m:Mem}{a:Act}{s s':Slot}:∀(ts:List Nat),Vg Γ m a→(∀t∈ts,s'.p m (a.tmps.getD t undef))→Vg (ts.map (fun t=>(t,s'))++Γ) m a
 | [],h,_=>h
 | t::ts,h,k=>by
  intro t' s2 e
  by_cases ht:t=t'
  ·subst ht
   simp only [List.map_cons,List.cons_append,Yc] at e
   cases e
   exact k t (by simp)
  ·simp only [List.map_cons,List.cons_append] at e
   rw [XF ht] at e;exact Qd3 (s:=s) ts h (fun u hu=>k u (by simp [hu])) t' s2 e
theorem St.freeze {a:Act}{w:World}{T:TypeId}{R:Rep α}{v:Value}{xs:List α} (ts:List Nat) (hk:Pick H (own T R v xs) H') (ht:∀t∈ts,Imp Γ t (ov v)) (h:St c Γ H a w) :
  St c (ts.map (fun t=>(t,(sl R).slot xs))++Γ) H' a w:=by
 obtain ⟨hd,hn,m,hs,hg,hG,he,⟨h1,h2,rfl,ho,hsat⟩,hf⟩:=h.pick hk;obtain ⟨m',hle,hg',hv,hf',_⟩:=own.froze ho hg hf;refine ⟨hd,hn,m',h2,hg',c.G.mono hle hG,Qd3 (s:=ov v) ts (he.mono hle) (fun t h=>?_),hsat.mono hle,hf'⟩;have:a.tmps.getD t undef=v:=(Bv.1 (ht t h m a he)).1;rw [this]; exact hv
theorem Qdz {T:TypeId}{R:Rep α}{v:Value}{xs:List α} (ts:List Nat) (hk:Pick H (own T R v xs) H') (ht:∀t∈ts,Imp Γ t (ov v))
  (k:J9 c full l (ts.map (fun t=>(t,(sl R).slot xs))++Γ) H' K):J9 c full l Γ H K:=fun a w Q hQ hst=>k a w Q hQ (hst.freeze ts hk ht)
theorem St.freezeBox {a:Act}{w:World}{T:TypeId}{R:Rep α}{b:Nat}{x:α} (ts:List Nat) (hk:Pick H (box b T R x) H') (ht:∀t∈ts,Imp Γ t (val (.pointer (some ⟨b,0,none⟩)))) (h:St c Γ H a w) :
  St c (ts.map (fun t=>(t,(ptr R).slot (some x)))++Γ) H' a w:=by
 obtain ⟨hd,hn,m,hs,hg,hG,he,⟨h1,h2,rfl,⟨cs,rfl,hr⟩,hsat⟩,hf⟩:=h.pick hk;have hle:=hg.le_put;refine ⟨hd,hn,m.put b cs,h2,hg.freeze,c.G.mono hle hG,Qd3 (s:=val (.pointer (some ⟨b,0,none⟩))) ts (he.mono hle) (fun t h=>?_),hsat.mono hle,hf.freeze hle⟩;have:a.tmps.getD t undef=_:=ht t h m a he;rw [this];exact ⟨b,0,cs,rfl,R.mono hle hr,Mem.at_put m b cs⟩
def Src (c:Ctx) (Γ:Env) (H:List Ent) (x:Operand) (R:Rep α) (xs:List α):Prop:=
 ∀m hs a w,Zk m hs w→Sat H m hs→Opd Γ m a x→∃a0 cap,a.eval x = .slice a0 xs.length cap∧(xs = []∨∃b o row,a0=some ⟨b,o,none⟩∧Zm R m row xs∧∀j v,row[j]? = some v→w.cell? ⟨b,o+j,none⟩=some v)
theorem Je {x:Operand}{R:Rep α}{xs:List α} (hx:Has Γ x ((sl R).slot xs)):Src c Γ H x R xs:=by
 intro m hs a w hg _ he;obtain ⟨a0,cap,e,hc,h⟩:=hx m a he
 simp only [List.cons.injEq,and_true] at e
 exact ⟨a0,cap,e,h.imp id fun ⟨b,o,row,e',p,q⟩=>⟨b,o,row,e',p,fun j v ev=>hg.mem _ _ _ (q j v ev)⟩⟩
theorem Qnx {x:Operand}{T:TypeId}{v:Value}{R:Rep α}{xs:List α} (hx:Has Γ x (ov v)) (hk:Pick H (own T R v xs) H'):Src c Γ H x R xs:=by
 intro m hs a w hg hsat he;have e:a.eval x=v:=(Bv.1 (hx m a he)).1;obtain ⟨h1,h2,hp,ho,_⟩:=hsat.pick hk;rw [e]
 rcases ho with ⟨rfl,_,ad,rfl⟩ | ⟨b,cap,row,spare,rfl,rfl,hr,hc,hl⟩
 ·exact ⟨ad,0,rfl, .inl rfl⟩
 ·refine ⟨_,cap,rfl, .inr ⟨b,0,row,rfl,hr,fun j u ev=>?_⟩⟩;have hmem:(b,T,row++spare)∈hs:=hp.mem_iff.2 (by simp);rw [Nat.zero_add];exact hg.cells hmem j u (by rw [List.getElem?_append_left]; exact ev; exact (List.getElem?_eq_some_iff.1 ev).1)
theorem QmW {x:Operand}{T b lo n cap N:Nat}{R:Rep α}{v:Vector α N} (hx:Has Γ x (val (.slice (some ⟨b,lo*R.n,none⟩) n cap))) (hk:Pick H (box b T (vec N R) v) H') (hn:lo+n≤N) :
  Src c Γ H x R ((v.toList.drop lo).take n):=by
 intro m hs a w hg hsat he;have e:a.eval x=_:=hx m a he;obtain ⟨cs,hmem,hr⟩:=Sat.box (w:=w) hsat hk;have hlen:((v.toList.drop lo).take n).length=n:=by simp; omega
 refine ⟨_,cap,by rw [e,hlen], .inr ⟨b,lo*R.n,(cs.drop (lo*R.n)).take (n*R.n),rfl,(Zm.drop lo hr).take n,fun j u ev=>?_⟩⟩;rw [List.getElem?_take] at ev
 split at ev
 ·rw [List.getElem?_drop] at ev; exact hg.cells hmem _ _ ev
 ·cases ev
theorem Src.run {R:Rep α}{xs:List α}{P:Program}{a0:Option Addr}{m:Mem}{w:World}{cap:Nat}
  (h:xs = []∨∃b o row,a0=some ⟨b,o,none⟩∧Zm R m row xs∧∀j v,row[j]? = some v→w.cell? ⟨b,o+j,none⟩=some v) (k:Nat) (hk:k≤xs.length) :
  ∃row,(Builtin.firstCells R.n k (.slice a0 k cap)).run P w = .ok row.toArray w∧Zm R m row (xs.take k)∧(Builtin.firstCells R.n k (.slice a0 xs.length cap)).run P w = .ok row.toArray w:=by
 rcases h with rfl | ⟨b,o,row,rfl,hr,hcl⟩
 ·have:k=0:=by simpa using hk
  subst this;refine ⟨[],?_,rfl,?_⟩<;>(cases a0<;>simp [Builtin.firstCells,loadCells,loadCellsFrom])
 ·have hr':=hr.take k;have hl:(row.take (k*R.n)).length=k*R.n:=by
   rw [hr'.length,List.length_take,Nat.min_eq_left hk]
  have hrun:(loadCells ⟨b,o,none⟩ (k*R.n)).run P w = .ok (row.take (k*R.n)).toArray w:=by
   have:=run_loadCells_list (P:=P) w ⟨b,o,none⟩ (row.take (k*R.n)) (fun j v e=>by
    rw [Addr.add_lit];rw [List.getElem?_take] at e
    split at e
    ·exact hcl j v e
    ·cases e)
   rwa [hl] at this
  exact ⟨_,hrun,hr',hrun⟩
def slE (P:Program) (ST T n:Nat):Bool:=
 (match P.underlying ST with
  | some (.slice e)=>e==T
  | _=>false)&&(match P.info? T with
  | some i=>i.size==n&&decide (0 < i.bytes)&&decide (i.bytes≤4096)&&(match i.zero with | some v=>v.cells.size==n | none=>false)
  | none=>false)
theorem Qcv {P:Program}{ST T n:Nat} (h:slE P ST T n=true) :
  P.underlying ST=some (.slice T)∧∃i v,P.info? T=some i∧i.size=n∧0 < i.bytes∧i.bytes≤4096∧i.zero=some v∧v.cells.size=n:=by
 simp only [slE,Bool.and_eq_true] at h
 obtain ⟨h1,h2⟩:=h
 constructor
 ·split at h1
  ·rename_i e hu; have:e=T:=by simpa using h1
   rw [hu,this]
  ·cases h1
 ·split at h2
  ·rename_i i hi
   simp only [Bool.and_eq_true,decide_eq_true_eq] at h2
   obtain ⟨⟨⟨h3,h4⟩,h5⟩,h6⟩:=h2
   split at h6
   ·rename_i v hv
    exact ⟨i,v,hi,by simpa using h3,h4,h5,hv,by simpa using h6⟩
   ·cases h6
  ·cases h2
theorem Wl (need old:Nat) (h:old < need):Builtin.nextslicecap need old≤4*need+4096:=by
 unfold Builtin.nextslicecap
 split
 ·omega
 ·split
  ·omega
  ·have key:∀r c,c≤2*need+1000→Builtin.growBy need r c≤3*need+2000:=by
    intro r
    induction r with
    | zero=>intro c hc; unfold Builtin.growBy; omega
    | succ r ih=>
     intro c hc;unfold Builtin.growBy
     split
     ·omega
     ·exact ih _ (by omega)
   have:=key 4 old (by omega)
   omega
theorem Qeu {P:Program}{w w':World}{ST XT T rt E:TypeId}{size sLen sCap n c0:Nat}{base a0:Option Addr}{new:Array Value}
  (hu:P.underlying ST=some (.slice T)) (hX:P.underlying XT=some (.slice E)) (hsize:(sizeOf T).run P w = .ok size w) (hfit:sLen+n≤sCap)
  (hrun:(Builtin.firstCells size n (.slice a0 n c0)).run P w = .ok new w)
  (hst:(match base with | some a=>storeCells (a.add (sLen*size)) new.toList | none=>pure ()).run P w = .ok () w') :
  (Builtin.append_ #[ST,XT] rt #[.slice base sLen sCap, .slice a0 n c0]).run P w = .ok (.slice base (sLen+n) sCap) w':=by
 simp only [Builtin.append_,List.getElem?_toArray,List.getElem?_cons_zero,List.getElem?_cons_succ]
 simp only [Sem.run_bind,run_underlying hu,run_underlying hX,Result.andThen_ok,hsize,Sem.run_pure,Bool.false_eq_true,if_false,Builtin.lenOf,Bool.not_false,if_true,hfit,hrun]
 cases base with
 | none=>simp only [Sem.run_pure,Result.ok.injEq,true_and] at hst; subst hst; rfl
 | some ad=>simp only [Sem.run_bind,hst,Result.andThen_ok,Sem.run_pure]
theorem Qde {P:Program}{w:World}{ST XT T rt E:TypeId}{size sLen sCap n c0:Nat}{base a0:Option Addr}{old new:Array Value}{i:TypeInfo}{z:Value}
  (hu:P.underlying ST=some (.slice T)) (hX:P.underlying XT=some (.slice E)) (hi:P.info? T=some i) (hsz:i.size=size) (hz:i.zero=some z) (hb0:0 < i.bytes) (hfit:¬sLen+n≤sCap)
  (hcap:¬(Builtin.nextslicecap (sLen+n) sCap*i.bytes > 2^48))
  (hold:(Builtin.firstCells size sLen (.slice base sLen sCap)).run P w.drew = .ok old w.drew)
  (hnew:(Builtin.firstCells size n (.slice a0 n c0)).run P w.drew = .ok new w.drew) :
  ∃newCap,sLen+n≤newCap∧(Builtin.append_ #[ST,XT] rt #[.slice base sLen sCap, .slice a0 n c0]).run P w =
   .ok (.slice (some ⟨w.heap.size,0,none⟩) (sLen+n) newCap) (w.drew.alloc (.cells (old++new++Builtin.zeroCells z.cells (newCap - (sLen+n))) T)):=by
 refine ⟨(Question.appendCap (sLen+n) sCap T).cut (w.tape w.drawn (.appendCap (sLen+n) sCap T)),Nat.le_add_right _ _,?_⟩;have hnm:¬(((sLen+n:Nat):Int) > IntKind.i64.max∧(False∨i.bytes=0)):=by
  rintro ⟨_,h | h⟩
  ·exact h
  ·omega
 have hti:∀w:World,(typeInfo T).run P w = .ok i w:=fun w=>by simp [typeInfo,hi]
 have hzv:∀w:World,(zeroValue T).run P w = .ok z w:=fun w=>by simp [zeroValue,hti,hz]
 have hsize:∀w:World,(sizeOf T).run P w = .ok size w:=fun w=>by simp [sizeOf,hti,hsz]
 have hch:(choose (.appendCap (sLen+n) sCap T)).run P w = .ok ((Question.appendCap (sLen+n) sCap T).cut (w.tape w.drawn (.appendCap (sLen+n) sCap T))) w.drew:=by
  rw [run_choose]; rfl
 have hnm2:¬(((sLen+n:Nat):Int) > IntKind.i64.max∧((false=true)∨i.bytes=0)):=by simpa using hnm
 simp only [Builtin.append_,List.getElem?_toArray,List.getElem?_cons_zero,List.getElem?_cons_succ]
 simp only [Sem.run_bind,run_underlying hu,run_underlying hX,Result.andThen_ok,hsize,Sem.run_pure,Bool.false_eq_true,if_false,Builtin.lenOf,Bool.not_false,if_true,hfit,hti,hcap,hch,run_askRoom,hold,hnew,hzv,newRow]
 have hnm3:¬(((sLen+n:Nat):Int) > IntKind.i64.max∧(False∨i.bytes=0)):=hnm
 simp only [hnm3,if_false,Sem.run_bind,hti,Result.andThen_ok,hcap,hch,run_askRoom,hold,hnew,hzv,run_newObj,Sem.run_pure,Sem.run_ite]
 rfl
theorem Qe0 {P:Program}{w:World}{m:Mem}{h1 h2:Hp}{ST XT T rt E:TypeId}{R:Rep α}{v:Value}{ys xs:List α}{a0:Option Addr}{cap0:Nat}
  (hT:slE P ST T R.n=true) (hX:P.underlying XT=some (.slice E)) (hg:Zk m (h1++h2) w) (ho:(own T R v ys).p m h1)
  (hsrc:xs = []∨∃b o row,a0=some ⟨b,o,none⟩∧Zm R m row xs∧∀j v,row[j]? = some v→w.cell? ⟨b,o+j,none⟩=some v) (hb:ys.length+xs.length≤4294967296) :
  ∃v' h1' w',(Builtin.append_ #[ST,XT] rt #[v, .slice a0 xs.length cap0]).run P w = .ok v' w'∧(own T R v' (ys++xs)).p m h1'∧Zk m (h1'++h2) w'∧Frm w w' m m (Hp.bs (h1++h2)) (Hp.bs (h1'++h2)):=by
 obtain ⟨hu,i,z,hi,hsz,hb0,hb1,hz,hzc⟩:=Qcv hT;obtain ⟨rx,hrunT,hrx,hrun⟩:=Src.run (P:=P) (R:=R) (cap:=cap0) hsrc xs.length (Nat.le_refl _);rw [List.take_length] at hrx;obtain ⟨av,capv,hv,hcv⟩:=own.shape ho;have hsize:(sizeOf T).run P w = .ok R.n w:=by simp [sizeOf,typeInfo,hi,hsz]
 by_cases hfit:ys.length+xs.length≤capv
 ·rcases ho with ⟨rfl,rfl,ad,hv2⟩ | ⟨b,cap,row,spare,hv2,rfl,hr,hc,hl⟩
  ·rw [hv2] at hv ⊢
   simp only [List.length_nil,Value.slice.injEq] at hv
   obtain ⟨_,_,rfl⟩:=hv;have hx0:xs = []:=by simpa using hfit
   subst hx0;have hrx0:rx = []:=by simpa [Zm] using hrx
   subst hrx0;refine ⟨.slice ad 0 0, [],w,?_, .inl ⟨rfl,rfl,ad,rfl⟩,by simpa using hg,by simpa using Frm.refl w m h2.bs⟩;exact Qeu hu hX hsize (by simp) hrun (by cases ad<;>simp [storeCells])
  ·rw [hv2] at hv ⊢
   simp only [Value.slice.injEq] at hv
   obtain ⟨_,_,rfl⟩:=hv;have hlr:=hr.length;have hlx:=hrx.length;have hcells:(ys.length+xs.length)*R.n≤(row++spare).length:=by rw [hl]; exact Nat.mul_le_mul_right _ hfit
   rw [Nat.add_mul] at hcells;have hblk:=hg.blk (b,T,row++spare) (by simp);have hst:=UJ (P:=P) (b:=b) (o:=ys.length*R.n) (T:=T) rx 0 (row++spare) w hrx.cell hblk (by rw [hlx]; omega)
   simp only [Nat.add_zero] at hst
   have etake:(row++spare).take (ys.length*R.n)=row:=by rw [←hlr,List.take_left']; rfl
   rw [etake,List.append_assoc] at hst;refine ⟨.slice (some ⟨b,0,none⟩) (ys.length+xs.length) cap, [(b,T,row++(rx++(row++spare).drop (ys.length*R.n+rx.length)))],_,?_,?_,hg.setBlk _,Frm.setBlk (by simp [Hp.bs])⟩
   ·exact Qeu hu hX hsize hfit hrun (by simpa [Addr.add_lit] using hst)
   ·refine .inr ⟨b,cap,row++rx,(row++spare).drop (ys.length*R.n+rx.length),by simp,by simp,hr.append hrx,by simpa using hfit,?_⟩;rw [List.length_append,List.length_append,List.length_drop,hlx,hlr,hl];rw [hl] at hcells
    omega
 ·have hro:(∃rowo,Zm R m rowo ys∧(Builtin.firstCells R.n ys.length (.slice av ys.length capv)).run P (w.drew) = .ok rowo.toArray w.drew):=by
   rcases ho with ⟨rfl,rfl,ad,hv2⟩ | ⟨b,cap,row,spare,hv2,rfl,hr,hc,hl⟩
   ·refine ⟨[],rfl,?_⟩
    cases av<;>simp [Builtin.firstCells,loadCells,loadCellsFrom]
   ·rw [hv2] at hv
    simp only [Value.slice.injEq] at hv
    obtain ⟨rfl,_,rfl⟩:=hv;refine ⟨row,hr,?_⟩;have:=run_loadCells_list (P:=P) w.drew ⟨b,0,none⟩ row (fun j u e=>by
     rw [Addr.add_lit,Nat.zero_add];exact hg.drew.cells (T:=T) (cs:=row++spare) (by simp) j u (by rw [List.getElem?_append_left]; exact e; exact (List.getElem?_eq_some_iff.1 e).1))
    rw [hr.length] at this;exact this
  obtain ⟨rowo,hro,hrunO⟩:=hro;obtain ⟨rx',_,hrx',hrun'⟩:=Src.run (P:=P) (R:=R) (w:=w.drew) (cap:=cap0) (m:=m) (a0:=a0) (xs:=xs) hsrc xs.length (Nat.le_refl _);rw [List.take_length] at hrx';have hcap:=Wl (ys.length+xs.length) capv (by omega);have hnb:¬(Builtin.nextslicecap (ys.length+xs.length) capv*i.bytes > 2^48):=by
   have h1:Builtin.nextslicecap (ys.length+xs.length) capv≤4*4294967296+4096:=by omega
   have h2:Builtin.nextslicecap (ys.length+xs.length) capv*i.bytes≤(4*4294967296+4096)*4096:=Nat.mul_le_mul h1 hb1;have h3:(4*4294967296+4096)*4096≤2^48:=by decide
   omega
  obtain ⟨newCap,hnc,happ⟩:=Qde (P:=P) (rt:=rt) (z:=z) hu hX hi hsz hz hb0 hfit hnb hrunO hrun';rw [hv];have hzc':z.cells.size=R.n:=hzc
  let rest:=(Builtin.zeroCells z.cells (newCap - (ys.length+xs.length))).toList
  have hrl:rest.length=(newCap - (ys.length+xs.length))*R.n:=by simp [rest,Builtin.zeroCells,hzc']
  have hcs:rowo.toArray++rx'.toArray++Builtin.zeroCells z.cells (newCap - (ys.length+xs.length))=((rowo++rx')++rest).toArray:=by
   simp [rest]
  rw [hcs] at happ;refine ⟨_, [(w.heap.size,T,(rowo++rx')++rest)],_,happ, .inr ⟨w.heap.size,newCap,rowo++rx',rest,by simp,rfl,hro.append hrx',by simpa using hnc,?_⟩,?_,?_⟩
  ·rw [List.length_append,List.length_append,hro.length,hrx'.length,hrl,←Nat.add_mul,←Nat.add_mul]
   congr 1; omega
  ·exact (Zk.sub hg).drew.newOwn T _
  ·have h3:=Frm.alloc w.drew m h2.bs (.cells ((rowo++rx')++rest).toArray T);have h4:Frm w w.drew m m (Hp.bs (h1++h2)) h2.bs:=(Frm.drew w m _).sub fun b hb=>by rw [Hp.bs_append]; exact List.mem_append.2 (.inr hb)
   exact h4.trans h3
theorem Qmb {ST XT T E:TypeId}{x y:Operand}{R:Rep α}{v:Value}{ys xs:List α} (hx:Has Γ x (ov v)) (hk:Pick H (own T R v ys) H') (hy:Src c Γ H y R xs)
  (hT:slE c.P ST T R.n=true) (hX:c.P.underlying XT=some (.slice E)) (hb:ys.length+xs.length≤4294967296) (hN:Nat.blt d c.N=true)
  (k:∀v',J9 c full l ((d,ov v')::Γ) (own T R v' (ys++xs)::H') K) :
  J9 c full (⟨some d, .call {callee:= .builtin .append,args:=#[x,y],argTypes:=#[ST,XT]},ty,pos,aft,none⟩::l) Γ H K:=by
 refine Ur (Γ2:=fun v'=>(d,ov v')::Γ) (H2:=fun v'=>own T R v' (ys++xs)::H') rfl ?_ k;intro m hs a w hg _ hsat he hn;have ex:a.eval x=v:=(Bv.1 (hx m a (he.opd x))).1;obtain ⟨a0,cap0,ey,hsrc⟩:=hy m hs a w hg hsat (he.opd y);obtain ⟨h1,h2,hpm,ho,hs2⟩:=hsat.pick hk;have hsrc':xs = []∨∃b o row,a0=some ⟨b,o,none⟩∧Zm R m row xs∧∀j v,row[j]? = some v→w.cell? ⟨b,o+j,none⟩=some v:=hsrc;obtain ⟨v',h1',w',hrun,ho',hg',hf'⟩:=Qe0 (rt:=ty) (cap0:=cap0) hT hX (hg.perm hpm) ho hsrc' hb;have hr:(execOp a.eval ⟨some d, .call {callee:= .builtin .append,args:=#[x,y],argTypes:=#[ST,XT]},ty,pos,aft,none⟩).run c.P w = .ok (.value v') w':=by
  simp only [execOp,resolve,Sem.run_bind,Sem.run_pure,Result.andThen_ok,invoke,builtin]
  simp only [List.map_toArray,List.map_cons,List.map_nil,ex,ey,hrun,Result.andThen_ok]
 rw [hr];exact ⟨v',m,h1'++h2,hg',he.put (by rw [hn]; simpa [Nat.blt_eq] using hN) (Bv.2 ⟨rfl,own.one ho'⟩),⟨h1',h2,rfl,ho',hs2⟩,Frm.ofPerm hpm hf'⟩
end
end Go.Sl
