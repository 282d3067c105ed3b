/- Parts of a proof, one behind the other: B3, B4, B5, H1, H2, B6, B7, C1, C2, C3, C4, D1, D2. -/
import Derived.Test.YtohikcplmbkmeaaGreatDoorW03
open List renaming length_append → a₀,length_drop → a₂,replicate → a₃,append_assoc → a₄,length_take → a₅,length_cons → a₆,length_singleton → b₀,take_of_length_le → b₁,length_eq_zero_iff → b₄,length_set → b₅,drop_append_of_le_length → b₆,range → b₇,take_succ_eq_append_getElem → c₀,length_map → c₁,map_append → c₂,append_nil → c₄,drop_zero → c₉,drop_drop → d₀,mem_of_mem_take → d₁,mem_of_mem_drop → d₂,flatten_append → d₄,mem_singleton → d₇,getElem_mem → d₈,take_length → d₉,length_nil → e₂,nil_append → e₃,take_zero → e₄
open And renaming intro → a₁
open Prod.mk renaming injEq → a₇
open Nat renaming zero_le → a₈,le_refl → a₉,pow_le_pow_right → b₂,lt_or_ge → c₃,ble → c₅,le_of_lt → c₇,mul_le_mul_right → d₃,le_of_eq → d₅,zero_add → d₆,div_le_self → e₀,min_eq_left → e₁
open Bool renaming noConfusion → b₃
open Int renaming fdiv_eq_ediv_of_nonneg → b₈,natCast_ediv → b₉,natCast_emod → c₆,natCast_pow → c₈
set_option maxRecDepth 20000
set_option maxHeartbeats 16000000
set_option linter.unusedVariables false
set_option linter.unusedSimpArgs false
namespace Go.Proofs.YtohikcplmbkmeaaGreatDoor
open Go.RowKit
section
variable {G:GS}
attribute [local irreducible] ak aB aD aI aN vC aW aw
def bR (f:eE):MV:= .st [.int .i64 f.num, .int .i64 f.kind, .int .u64 f.val, .sl f.bytes.length (u8s f.bytes)]
theorem cut_u8 (b:List UInt8) (x y:Nat):cutL (u8s b) x y=u8s ((b.drop x).take (y - x)):=by simp [cutL,u8s]
theorem pG (b:List UInt8) (x y:Nat):aY (cutL (u8s b) x y) 1=true:=by rw [cut_u8];exact bP _
theorem fW {n k:Nat} {κ:IntKind} (h:k≤n):dz n (some (.int κ (k:Int))) none=some (k,n):=by
 unfold dz;dsimp only;rw [if_pos ⟨om,om⟩];simp
theorem jo {n k:Nat} {κ:IntKind} (h:k≤n):dz n none (some (.int κ (k:Int)))=some (0,k):=by
 unfold dz;dsimp only;rw [if_pos ⟨om,om⟩];simp
theorem L7 {n lo hi:Nat} {a c:Int} {κ κ':IntKind} (ha:a=lo) (hc:c=hi) (h1:lo≤hi) (h2:hi≤n):dz n (some (.int κ a)) (some (.int κ' c))=some (lo,hi):=by
 subst ha hc;unfold dz;dsimp only;rw [if_pos ⟨om,om⟩];dsimp only;rw [if_pos ⟨om,by simp;omega⟩];simp
theorem Lw (a b:Nat):(a:Int).tmod (b:Int)=((a % b:Nat):Int):=by
 rw [Int.tmod_eq_emod_of_nonneg om];exact(c₆ a b).symm
theorem zP {a:Nat} (b:Nat) (ha:a < 18446744073709551616):IntKind.u64.wrap ((a:Int).tdiv (b:Int))=((a / b:Nat):Int):=by
 have:=e₀ a b;rw [Int.tdiv_eq_ediv_of_nonneg om,← b₉,wu64];generalize a / b=c at *;omega
theorem Hi {b:List UInt8} (hb:b.length < 4000000000) {n:Nat} {r:Nat×Nat×Nat} (h:readS (b.drop n) 0 0=r):aE Tryz.prog G 251 [.sl (b.length - n) (cutL (u8s b) n b.length)] (nL r):=by
 have:=Hh (G:=G) (b.drop n) (by rw [a₂];omega);rw [h,a₂] at this;rw [cut_u8,b₁ (by rw [a₂];omega)];exact this
theorem NO (b:List UInt8) (hb:b.length < 1000000000):aQ Tryz.prog G 202 [.sl b.length (u8s b)] [] 0 (.tup [bR (fF b).1, .int .i64 (fF b).2.1, .int .i64 (fF b).2.2]) [] 0:=by
  have c1:=Hh (G:=G) b om;have h1ok:=kY b 0 0 om om;generalize hr:fF b=r at *;obtain⟨f,m,e⟩:=r;have hR:=hr;unfold fF at hR;generalize readS b 0 0=t at *;obtain⟨T,n,e1⟩:=t;dsimp only at hR h1ok;unfold nL at c1;unfold bR;dsimp only at c1;dsimp only;refine dw seat Tryz.func202 98 ?_;refine aa ?_;refine dL (c1) ?_;refine ad rfl ?_ ?_ <;> intro h
  · have he1:e1≠0:=by intro h0;subst h0;cases h
    rw [if_pos he1] at hR;simp only [a₇] at hR;obtain⟨rfl,rfl,rfl⟩:=hR;refine aa ?_;refine au ?_;exact en [_,_,_]
  have he1:e1=0:=by
    have:(e1:Int)=0:=by simpa using h
    omega
  subst he1;have hT:=(h1ok rfl).2.2;rw [if_neg sm] at hR;have hmod:(T:Int).tmod 8=((T % 8:Nat):Int):=Lw T 8;have hdiv:IntKind.u64.wrap ((T:Int).tdiv 8)=((T / 8:Nat):Int):=zP 8 hT;have h2ok:=kY (b.drop n) 0 0 om om;generalize hr2:readS (b.drop n) 0 0=t2 at *;obtain⟨v,k,e2⟩:=t2;have c2:=Hi (G:=G) (b:=b) om hr2;unfold nL at c2;dsimp only at hR c2 h2ok;generalize hD:T / 8=D at *;generalize hK:T % 8=K at *;(have fct:=aU.mk (hmod);have fct:=aU.mk (hdiv);refine aa ?_);refine ag rfl rfl ?_ rfl ?_ <;> intro h
  · have hD1: ¬ (D:Int) < 1:=by simpa using h
    (have fct:=aU.mk (hdiv);refine aa ?_);refine ag rfl rfl ?_ rfl ?_ <;> intro h
    · have hD3: ¬ (536870911:Int) < D:=by simpa using h
      refine aa ?_;refine ag rfl rfl ?_ rfl ?_ <;> intro h
      · have hK0:K≠0:=by
          have: ¬ (K:Int)=0:=by simpa using h
          omega
        refine aa ?_;refine ad rfl ?_ ?_ <;> intro h
        · have hK2:K≠2:=by
            have: ¬ (K:Int)=2:=by simpa using h
            omega
          rw [if_pos om] at hR;simp only [a₇] at hR;obtain⟨rfl,rfl,rfl⟩:=hR;refine aa ?_;refine au ?_;exact en [_,_,_]
        have hK2:K=2:=by
          have:(K:Int)=2:=by simpa using h
          omega
        subst hK2;rw [if_neg om] at hR;have hD2:IntKind.u64.wrap ((T:Int).tdiv 8)=(D:Int):=hdiv;have hnb:n≤b.length:=by have:=h1ok rfl;omega
        (have fct:=aU.mk (hdiv);have fct:=aj.mk (fW (κ:= .i64) hnb);have fct:=bE.mk (bP b);refine aa ?_);refine dL (c2) ?_;refine ad rfl ?_ ?_ <;> intro h
        · have he2:e2≠0:=by intro h0;subst h0;cases h
          rw [if_pos he2] at hR;simp only [a₇] at hR;obtain⟨rfl,rfl,rfl⟩:=hR;refine aa ?_;refine au ?_;exact en [_,_,_]
        have he2:e2=0:=by
          have:(e2:Int)=0:=by simpa using h
          omega
        subst he2;have hk:=h2ok rfl;rw [a₂] at hk;rw [if_neg sm] at hR;rw [if_neg om] at hR;refine aa ?_;refine ad rfl ?_ ?_ <;> intro h
        · have hv:=ot h;rw [if_pos om] at hR;simp only [a₇] at hR;obtain⟨rfl,rfl,rfl⟩:=hR;refine aa ?_;refine au ?_;exact en [_,_,_]
        have hv:=oF h;rw [if_neg om] at hR;simp only [a₇] at hR;obtain⟨rfl,rfl,rfl⟩:=hR;have hbn:dz b.length (some (.int .i64 ((n:Int) + k))) (some (.int .i64 ((n:Int) + k + v)))=some (n + k,n + k + v):=L7 om om om om;have hl:((b.drop (n + k)).take v).length=v:=by rw [a₅,a₂];omega
        (have fct:=aj.mk (hbn);have fct:=bE.mk (bP b);refine aa ?_);refine aL rfl rfl (by intro R hR;refine cI hR ?_;refine a₁ (pG b _ _) ?_;refine a₁ ⟨sm,ai (by kernel_rfl) pf⟩ ?_;refine⟨u8s ((b.drop (n + k)).take v),sv (by rw [cut_u8,show n + k + v - (n + k)=v by omega];simp),v,sv pf,?_⟩;exact hR) rfl ?_;refine aa ?_;refine au ?_;rw [show ((n + k + v:Nat):Int)=(n:Int) + k + v by omega];dsimp only;rw [hl];refine⟨[_,_,_],[],[(75,v)],rfl,rfl,?_,rfl,⟨?_,?_,?_,trivial⟩,?_⟩
        · exact⟨by show v≤(u8s ((b.drop (n + k)).take v)).length;rw [show (u8s ((b.drop (n + k)).take v)).length=v by simp only [u8s,c₁];exact hl];exact a₉ _,trivial⟩
        · exact .inr ⟨_,rfl,⟨rfl,rfl⟩,⟨rfl,rfl⟩,⟨rfl,rfl⟩, .inr ⟨rfl,rfl,rfl,d₅ (d₆ _),by simp [cutL,u8s,List.take_take]⟩,trivial⟩
        · exact rv
        · exact rv
        · exact mm
      · have hK0:K=0:=by
          have:(K:Int)=0:=by simpa using h
          omega
        subst hK0;rw [if_neg om] at hR;have hD2:IntKind.u64.wrap ((T:Int).tdiv 8)=(D:Int):=hdiv;have hnb:n≤b.length:=by have:=h1ok rfl;omega
        (have fct:=aU.mk (hdiv);have fct:=aj.mk (fW (κ:= .i64) hnb);have fct:=bE.mk (bP b);refine aa ?_);refine dL (c2) ?_;refine ad rfl ?_ ?_ <;> intro h
        · have he2:e2≠0:=by intro h0;subst h0;cases h
          rw [if_pos he2] at hR;simp only [a₇] at hR;obtain⟨rfl,rfl,rfl⟩:=hR;refine aa ?_;refine au ?_;exact en [_,_,_]
        have he2:e2=0:=by
          have:(e2:Int)=0:=by simpa using h
          omega
        subst he2;have hk:=h2ok rfl;rw [a₂] at hk;rw [if_neg sm] at hR;rw [if_pos rfl] at hR;simp only [a₇] at hR;obtain⟨rfl,rfl,rfl⟩:=hR;refine aa ?_;refine au ?_;exact en [_,_,_]
    · have hD3:(536870911:Int) < D:=by simpa using h
      rw [if_pos om] at hR;refine aa ?_;simp only [a₇] at hR;obtain⟨rfl,rfl,rfl⟩:=hR;refine aa ?_;refine au ?_;exact en [_,_,_]
  · have hD1:(D:Int) < 1:=by simpa using h
    rw [if_pos om] at hR;refine aa ?_;simp only [a₇] at hR;obtain⟨rfl,rfl,rfl⟩:=hR;refine aa ?_;refine au ?_;exact en [_,_,_]
end
section
variable {G:GS}
attribute [local irreducible] ak aB aD aI aN vC aW aw
theorem JZ {b:List UInt8} (hb:b.length < 1000000000) {n:Nat}:aQ Tryz.prog G 202 [.sl (b.length - n) (cutL (u8s b) n b.length)] [] 0 (.tup [bR (fF (b.drop n)).1, .int .i64 (fF (b.drop n)).2.1, .int .i64 (fF (b.drop n)).2.2]) [] 0:=by
 have:=NO (G:=G) (b.drop n) (by rw [a₂];omega);rw [a₂] at this;rw [cut_u8,b₁ (by rw [a₂];omega)];exact this
theorem mg (k at_:Nat) (acc:List eE):fP k [] at_ acc=(acc,0,0):=by cases k <;> rfl
theorem kZ {b:List UInt8} (h:b≠ []) (at_:Nat) (acc:List eE):fP 0 b at_ acc=([],at_,3):=by
 cases b with
 | nil=>exact absurd rfl h
 | cons x b=>rfl
theorem k8 {b:List UInt8} (h:b≠ []) (k at_:Nat) (acc:List eE):fP (k + 1) b at_ acc=if (fF b).2.2≠0 then([],at_,(fF b).2.2) else fP k (b.drop (fF b).2.1) (at_ + (fF b).2.1) (acc ++ [(fF b).1]):=by
 cases b with
 | nil=>exact absurd rfl h
 | cons x b=>rw [fP]
theorem CT {b:List UInt8} {n:Nat} (h:n < b.length):b.drop n≠ [] :=by
 intro h0;have:=congrArg List.length h0;rw [a₂] at this;simp at this;omega
theorem pH (b:List UInt8) (hb:b.length < 1000000000):aQ Tryz.prog G 140 [.sl b.length (u8s b)] [] 0 (.tup [.sl (aC b).1.length ((aC b).1.map bR), .int .i64 (aC b).2.1, .int .i64 (aC b).2.2]) [] 0:=by
  generalize hr:aC b=r;obtain⟨l,at1,e1⟩:=r;dsimp only;refine dw seat Tryz.func140 38 ?_;refine aa ?_;refine av (Nat×List eE) (fun x=> [(6, .int .i64 x.1),(5, .ms 0 4 0 x.2.length),(0, .sl b.length (u8s b))]) (fun x=> [(0,⟨183,4,true,0,x.2.map bR⟩)]) 1 (fun x=>x.1≤b.length∧x.2.length≤1024∧fP (1024 - x.2.length) (b.drop x.1) x.1 x.2=(l,at1,e1)) (fun x=>b.length - x.1) (0,[]) ⟨a₈ _,a₈ _,by dsimp only;rw [c₉];exact hr⟩ (by dsimp only;exact(vm [] [])) ?_;rintro⟨i,acc⟩ ⟨hi,ha,hG⟩;try dsimp only
  dsimp only at hi ha hG;refine aa ?_;refine ad rfl ?_ ?_ <;> intro h
  · have hi':i < b.length:=by have:=ot h;omega
    have hne:=CT hi';refine aa ?_;refine ad rfl ?_ ?_ <;> intro h
    · have h4:acc.length=1024:=by have:=ot h;omega
      rw [h4,Nat.sub_self,kZ hne] at hG;simp only [a₇] at hG;obtain⟨rfl,rfl,rfl⟩:=hG;refine aa ?_;exact en [_,_,_]
    · have h4:acc.length < 1024:=by have:=oF h;omega
      have c1:=JZ (G:=G) hb (n:=i);have hok:=BG (b:=b.drop i);rw [show 1024 - acc.length=(1023 - acc.length) + 1 by omega,k8 hne] at hG;generalize fF (b.drop i)=o at *;obtain⟨f,m,e⟩:=o;dsimp only at c1 hok hG;(have fct:=aj.mk (fW (κ:= .i64) hi);have fct:=bE.mk (bP b);refine aa ?_);refine jW (c1) ?_;refine ad rfl ?_ ?_ <;> intro h
      · have he:e≠0:=by intro h0;subst h0;cases h
        rw [if_pos he] at hG;simp only [a₇] at hG;obtain⟨rfl,rfl,rfl⟩:=hG;refine aa ?_;exact en [_,_,_]
      · have he:e=0:=by
          have:(e:Int)=0:=by simpa using h
          omega
        subst he;rw [if_neg sm,d₀] at hG;have hok:=hok rfl;rw [a₂] at hok;refine aa ?_;refine aL rfl rfl (by intro R hR;refine cI hR ?_;(refine a₁ (a₉ _) ?_;refine⟨_,rfl,?_⟩;refine a₁ ⟨sm,ai (by kernel_rfl) pf⟩ ?_;refine⟨(acc ++ [f]).map bR,sv (by simp;rfl),acc.length + 1,sv pf,?_⟩);exact hR) rfl ?_;refine aa ?_;refine⟨(i + m,acc ++ [f]),⟨dm,by dsimp only;rw [a₀,b₀];omega,?_⟩,by show b.length - (i + m) < b.length - i;omega,?_⟩
        · dsimp only;rw [a₀,b₀,show 1024 - (acc.length + 1)=1023 - acc.length by omega];exact hG
        · dsimp only;rw [a₀,b₀];exact(vm [(0,_)] [])
  · have hi':b.length≤i:=by have:=oF h;omega
    rw [List.drop_eq_nil_of_le hi',mg] at hG;simp only [a₇] at hG;obtain⟨rfl,rfl,rfl⟩:=hG;refine aa ?_;refine⟨[_,_,_],[],[(0,acc.length)],rfl,rfl,?_,rfl,⟨?_,?_,?_,trivial⟩,?_⟩
    · exact⟨by show acc.length≤(acc.map bR).length;simp,trivial⟩
    · exact .inr ⟨rfl,rfl,rfl,d₅ (d₆ _),bc bR acc⟩
    · exact rv
    · exact rv
    · exact mm
end
section
variable {G:GS}
attribute [local irreducible] ak aB aD aI aN vC aW aw
theorem zQ {f:eE} (h:f.kind=0):aV f=cX (f.num * 8 + f.kind) ++ cX f.val:=by unfold aV;rw [if_pos h]
theorem zR {f:eE} (h:f.kind=2):aV f=cX (f.num * 8 + f.kind) ++ (cX f.bytes.length ++ f.bytes):=by unfold aV;rw [if_neg om]
theorem J0 (f:eE) (hf:iz f):aE Tryz.prog G 237 [bR f] (.bool true):=by
 obtain⟨num,kind,val,bytes⟩:=f;obtain⟨h1,h2,h3⟩:=hf;dsimp only at h1 h2 h3;unfold bR;dsimp only;refine bA seat Tryz.func237 30 ?_;refine aa ?_;refine ag rfl rfl ?_ rfl ?_ <;> intro h
 rotate_left
 ·exfalso;have:(num:Int) < 1:=by simpa using h
  omega
 refine aa ?_;refine ad rfl ?_ ?_ <;> intro h
 ·exfalso;have:=ot h;omega
 rcases h3 with ⟨rfl,rfl,hv⟩ | ⟨rfl,rfl,hv⟩
 ·refine aa ?_;refine au ?_;rfl
 ·refine aa ?_;refine au ?_;rfl
theorem Hj (f:eE) (hf:iz f):aE Tryz.prog G 209 [bR f] (.bool true):=by
 obtain⟨num,kind,val,bytes⟩:=f;obtain⟨h1,h2,h3⟩:=hf;dsimp only at h1 h2 h3;unfold bR;dsimp only;refine bA seat Tryz.func209 30 ?_;refine aa ?_;refine ag rfl rfl ?_ rfl ?_ <;> intro h
 rotate_left
 ·exfalso;have:(num:Int) < 1:=by simpa using h
  omega
 refine aa ?_;refine ad rfl ?_ ?_ <;> intro h
 ·exfalso;have:=ot h;omega
 rcases h3 with ⟨rfl,rfl,hv⟩ | ⟨rfl,rfl,hv⟩
 ·refine aa ?_;refine au ?_;rfl
 ·refine aa ?_;refine au ?_;rfl
theorem L8 (f:eE) (hf:iz f):aE Tryz.prog G 211 [bR f] (.int .u64 ((f.num * 8 + f.kind:Nat):Int)):=by
 obtain⟨num,kind,val,bytes⟩:=f;obtain⟨h1,h2,h3⟩:=hf;dsimp only at h1 h2 h3;unfold bR;dsimp only;refine bA seat Tryz.func211 10 ?_;refine aa ?_;refine au ?_;exact congrArg (MV.int .u64) om
theorem ui (b:List UInt8) (n:Nat) (hb:b.length < 500000000) (hn:n < 18446744073709551616) :
  aQ Tryz.prog G 238 [.sl b.length (u8s b), .int .u64 n] [] 0 (.ms 0 1 0 (b ++ cX n).length) (jn (b ++ cX n)) 1:=by
 rw [a₀];exact zN b n hb hn
theorem qO (b:List UInt8) (n:Nat) (hb:b.length < 500000000) (hn:n < 18446744073709551616) :
  aQ Tryz.prog G 210 [.sl b.length (u8s b), .int .u64 n] [] 0 (.ms 0 1 0 (b ++ cX n).length) (jn (b ++ cX n)) 1:=by
 rw [a₀];exact EM b n hb hn
theorem CU (b:List UInt8) (f:eE) (hf:iz f) (hb:b.length + f.bytes.length < 400000000) :
  aQ Tryz.prog G 177 [.sl b.length (u8s b),bR f] [] 0 (.tup [.ms 0 1 0 (b ++ aV f).length, .int .i64 0]) (jn (b ++ aV f)) 1:=by
 have hr:=J0 (G:=G) f hf
 obtain⟨num,kind,val,bytes⟩:=f
 obtain⟨h1,h2,h3⟩:=hf
 dsimp only at h1 h2 h3
 have l1:=dF (n:=num * 8 + kind) om
 have c1:=ui (G:=G) b (num * 8 + kind) (by dsimp only at hb;omega) om
 have e0:=zQ (f:=⟨num,kind,val,bytes⟩)
 have e2:=zR (f:=⟨num,kind,val,bytes⟩)
 unfold jn at *
 unfold bR at *
 dsimp only at hr hb e0 e2
 dsimp only
 generalize hp:b ++ cX (num * 8 + kind)=p at *
 refine dw seat Tryz.func177 36 ?_
 refine aa ?_
 refine yv (hr) ?_
 have hpl:p.length≤b.length + 10:=by rw [← hp,a₀];omega
 refine aa ?_
 refine yc (c1) [] ?_
 refine aa ?_
 rcases h3 with ⟨rfl,rfl,hv⟩ | ⟨rfl,rfl,hv⟩
 ·have c2:=ui (G:=G) p val om hv
  rw [e0 rfl,← a₄,hp]
  unfold jn at c2
  generalize p ++ cX val=q at *
  refine aa ?_
  refine bC rfl (fun _ h=>h) rfl (c2) [] [(14,p.length)] ⟨rfl,mm,rfl,lm,mm⟩ rfl rfl ?_
  refine aa ?_
  exact eb [_,_] [(0,22)] []
 ·have c2:=ui (G:=G) p bytes.length om hv
  rw [e2 rfl,← a₄,hp,← a₄]
  have hql:(p ++ cX bytes.length).length≤p.length + 10:=by rw [a₀];have:=(dF hv).2;omega
  unfold jn at c2
  generalize p ++ cX bytes.length=q at *
  refine aa ?_
  refine al [ae 0,ae 1,ae 2,ae 3,ae 4,dj 5,ae 6,ae 7,ae 8,ae 9,ae 10] ?_
  refine aa ?_
  refine cK rfl (fun _ h=>h) rfl [14] (c2) [] [(14,p.length)] ⟨rfl,mm,rfl,lm,mm⟩ rfl rfl rfl rfl ?_
  refine aa ?_
  refine aZ rfl (by intro R hR;refine cI hR ?_;refine a₁ (bP bytes) ?_;refine a₁ ⟨(by simp [u8s]),ai (by kernel_rfl) pf⟩ ?_;refine⟨u8s (q ++ bytes),sv (by simp [u8s]),(q ++ bytes).length,sv pf,?_⟩;exact hR) rfl ?_
  refine aa ?_
  exact eb [_,_] [(0,27)] []
theorem mh (b:List UInt8) (f:eE) (hf:iz f) (hb:b.length + f.bytes.length < 400000000) :
  aQ Tryz.prog G 152 [.sl b.length (u8s b),bR f] [] 0 (.tup [.ms 0 1 0 (b ++ aV f).length, .int .i64 0]) (jn (b ++ aV f)) 1:=by
 have hr:=Hj (G:=G) f hf
 have ht:=L8 (G:=G) f hf
 obtain⟨num,kind,val,bytes⟩:=f
 obtain⟨h1,h2,h3⟩:=hf
 dsimp only at h1 h2 h3
 have l1:=dF (n:=num * 8 + kind) om
 have c1:=qO (G:=G) b (num * 8 + kind) (by dsimp only at hb;omega) om
 have e0:=zQ (f:=⟨num,kind,val,bytes⟩)
 have e2:=zR (f:=⟨num,kind,val,bytes⟩)
 unfold jn at *
 unfold bR at *
 dsimp only at hr ht hb e0 e2
 dsimp only
 generalize hp:b ++ cX (num * 8 + kind)=p at *
 refine dw seat Tryz.func152 30 ?_
 refine aa ?_
 refine dL (hr) ?_
 refine yv (ht) ?_
 have hpl:p.length≤b.length + 10:=by rw [← hp,a₀];omega
 refine aa ?_
 refine yc (c1) [] ?_
 refine aa ?_
 rcases h3 with ⟨rfl,rfl,hv⟩ | ⟨rfl,rfl,hv⟩
 ·have c2:=qO (G:=G) p val om hv
  rw [e0 rfl,← a₄,hp]
  unfold jn at c2
  generalize p ++ cX val=q at *
  refine aa ?_
  refine bC rfl (fun _ h=>h) rfl (c2) [] [(7,p.length)] ⟨rfl,mm,rfl,lm,mm⟩ rfl rfl ?_
  refine aa ?_
  exact eb [_,_] [(0,15)] []
 ·have c2:=qO (G:=G) p bytes.length om hv
  rw [e2 rfl,← a₄,hp,← a₄]
  have hql:(p ++ cX bytes.length).length≤p.length + 10:=by rw [a₀];have:=(dF hv).2;omega
  unfold jn at c2
  generalize p ++ cX bytes.length=q at *
  refine aa ?_
  refine al [ae 0,ae 1,ae 2,ae 3,ae 4,dj 5,ae 6,ae 7,ae 8,ae 9,ae 10] ?_
  refine aa ?_
  refine cK rfl (fun _ h=>h) rfl [7] (c2) [] [(7,p.length)] ⟨rfl,mm,rfl,lm,mm⟩ rfl rfl rfl rfl ?_
  refine aa ?_
  refine aZ rfl (by intro R hR;refine cI hR ?_;refine a₁ (bP bytes) ?_;refine a₁ ⟨(by simp [u8s]),ai (by kernel_rfl) pf⟩ ?_;refine⟨u8s (q ++ bytes),sv (by simp [u8s]),(q ++ bytes).length,sv pf,?_⟩;exact hR) rfl ?_
  refine aa ?_
  exact eb [_,_] [(0,20)] []
end
section
variable {G:GS}
structure W8 where
 a:UInt32
 b:UInt32
 c:UInt32
 d:UInt32
 e:UInt32
 f:UInt32
 g:UInt32
 h:UInt32
def W8.toM (s:W8):MV:= .arr 8 1 [dZ s.a,dZ s.b,dZ s.c,dZ s.d,dZ s.e,dZ s.f,dZ s.g,dZ s.h]
def gQ (x:UInt32) (n:Nat):UInt32:=(x >>> UInt32.ofNat n) ||| (x <<< UInt32.ofNat (32 - n))
def kL:List UInt32:= [1116352408,1899447441,3049323471,3921009573,961987163,1508970993,2453635748,2870763221,3624381080,310598401,607225278,1426881987,1925078388,2162078206,2614888103,3248222580,3835390401,4022224774,264347078,604807628,770255983,1249150122,1555081692,1996064986,2554220882,2821834349,2952996808,3210313671,3336571891,3584528711,113926993,338241895,666307205,773529912,1294757372,1396182291,1695183700,1986661051,2177026350,2456956037,2730485921,2820302411,3259730800,3345764771,3516065817,3600352804,4094571909,275423344,430227734,506948616,659060556,883997877,958139571,1322822218,1537002063,1747873779,1955562222,2024104815,2227730452,2361852424,2428436474,2756734187,3204031479,3329325298]
def wsM (l:List UInt32):MV:= .arr 64 1 (l.map dZ)
def Pt (b:List UInt8) (k:Nat):UInt32:=(b.getD (4 * k) 0).toUInt32 <<< UInt32.ofNat 24 ||| (b.getD (4 * k + 1) 0).toUInt32 <<< UInt32.ofNat 16 ||| (b.getD (4 * k + 2) 0).toUInt32 <<< UInt32.ofNat 8 ||| (b.getD (4 * k + 3) 0).toUInt32
def uj (b:List UInt8):Nat→List UInt32
 | 0=>a₃ 64 0
 | t + 1=>(uj b t).set t (Pt b t)
def NP (l:List UInt32) (t:Nat):UInt32:=
 (gQ (l.getD (t - 2) 0) 17 ^^^ gQ (l.getD (t - 2) 0) 19 ^^^ l.getD (t - 2) 0 >>> UInt32.ofNat 10) + l.getD (t - 7) 0 + (gQ (l.getD (t - 15) 0) 7 ^^^ gQ (l.getD (t - 15) 0) 18 ^^^ l.getD (t - 15) 0 >>> UInt32.ofNat 3) + l.getD (t - 16) 0
def nM (b:List UInt8):Nat→List UInt32
 | 0=>uj b 16
 | t + 1=>(nM b t).set (16 + t) (NP (nM b t) (16 + t))
theorem nd (b:List UInt8): ∀t,(uj b t).length=64
 | 0=>by simp [uj]
 | t + 1=>by simp [uj,nd b t]
theorem kv (b:List UInt8): ∀t,(nM b t).length=64
 | 0=>nd b 16
 | t + 1=>by simp [nM,kv b t]
def J1 (k w:UInt32) (s:W8):UInt32:=s.h + (gQ s.e 6 ^^^ gQ s.e 11 ^^^ gQ s.e 25) + (s.e &&& s.f ^^^ ~~~s.e &&& s.g) + k + w
def NQ (s:W8):UInt32:=(gQ s.a 2 ^^^ gQ s.a 13 ^^^ gQ s.a 22) + (s.a &&& s.b ^^^ s.a &&& s.c ^^^ s.b &&& s.c)
def BJ (k w:UInt32) (s:W8):W8:=⟨J1 k w s + NQ s,s.a,s.b,s.c,s.d + J1 k w s,s.e,s.f,s.g⟩
def jq (k w:List UInt32) (s:W8):Nat→W8
 | 0=>s
 | t + 1=>BJ (k.getD t 0) (w.getD t 0) (jq k w s t)
def EN (h s:W8):Nat→W8
 | 0=>h
 | 1=>⟨h.a + s.a,h.b,h.c,h.d,h.e,h.f,h.g,h.h⟩
 | 2=>⟨h.a + s.a,h.b + s.b,h.c,h.d,h.e,h.f,h.g,h.h⟩
 | 3=>⟨h.a + s.a,h.b + s.b,h.c + s.c,h.d,h.e,h.f,h.g,h.h⟩
 | 4=>⟨h.a + s.a,h.b + s.b,h.c + s.c,h.d + s.d,h.e,h.f,h.g,h.h⟩
 | 5=>⟨h.a + s.a,h.b + s.b,h.c + s.c,h.d + s.d,h.e + s.e,h.f,h.g,h.h⟩
 | 6=>⟨h.a + s.a,h.b + s.b,h.c + s.c,h.d + s.d,h.e + s.e,h.f + s.f,h.g,h.h⟩
 | 7=>⟨h.a + s.a,h.b + s.b,h.c + s.c,h.d + s.d,h.e + s.e,h.f + s.f,h.g + s.g,h.h⟩
 | _=>⟨h.a + s.a,h.b + s.b,h.c + s.c,h.d + s.d,h.e + s.e,h.f + s.f,h.g + s.g,h.h + s.h⟩
def oh (h:W8) (b:List UInt8):W8:=EN h (jq kL (nM b 48) h 64) 8
theorem iA {l:List MV} {n:Nat} {j:Int} {x:MV} (k:Nat) (hj:j=k) (hk:k < n) (hx:l[k]? =some x):bF l n j=some x:=by
 subst hj;exact cO hk hx
theorem gy {n:Nat} {j:Int} (k:Nat) (hj:j=k) (hk:k < n):A4 n j=some k:=by
 subst hj;exact cE hk
theorem nN {b:List UInt8} {k:Nat} (h:k < b.length):(u8s b)[k]? =some (BF (b.getD k 0)):=by simp [u8s,h]
theorem iK {l:List UInt32} {k:Nat} (h:k < l.length):fc (wsM l) ([] ++ [k]) (0 + k * 1)=some (dZ (l.getD k 0)):=by
 show(match bW (l.map dZ) k with | some m=>bif c₅ (k * 1) (0 + k * 1) then fc m [] (0 + k * 1 - k * 1) else none | none=>none)=_
 have e:bW (l.map dZ) k=some (dZ (l.getD k 0)):=by rw [bS];simp [h]
 rw [e];have e2:c₅ (k * 1) (0 + k * 1)=true:=sm;simp only [e2,cond_true];simp [fc]
theorem xG {l:List UInt32} {k:Nat} (h:k < l.length) (x:UInt32):ff (wsM l) ([] ++ [k]) (0 + k * 1) (dZ x)=some (wsM (l.set k x)):=by
 show(match bW (l.map dZ) k with | some m=>bif c₅ (k * 1) (0 + k * 1) && (dZ x).idFree then(match ff m [] (0 + k * 1 - k * 1) (dZ x) with | some m'=>some (MV.arr 64 1 (setL (l.map dZ) k m')) | none=>none) else none | none=>none)=_
 have e:bW (l.map dZ) k=some (dZ (l.getD k 0)):=by rw [bS];simp [h]
 rw [e];have e2:c₅ (k * 1) (0 + k * 1)=true:=sm;simp only [e2];simp [ff,setL_eq,MV.idFree,MV.size,MV.isAgg,wsM,List.map_set]
def W8.nth (s:W8):Nat→UInt32
 | 0=>s.a
 | 1=>s.b
 | 2=>s.c
 | 3=>s.d
 | 4=>s.e
 | 5=>s.f
 | 6=>s.g
 | _=>s.h
theorem Hk (s:W8) {i:Nat} (hi:i < 8):fc s.toM ([] ++ [i]) (0 + i * 1)=some (dZ (s.nth i)):=by
 have h8:i=0∨i=1∨i=2∨i=3∨i=4∨i=5∨i=6∨i=7:=om;rcases h8 with rfl | rfl | rfl | rfl | rfl | rfl | rfl | rfl <;> rfl
theorem NR (h s:W8) {i:Nat} (hi:i < 8):ff (EN h s i).toM ([] ++ [i]) (0 + i * 1) (dZ ((EN h s i).nth i + s.nth i))=some (EN h s (i + 1)).toM:=by
 have h8:i=0∨i=1∨i=2∨i=3∨i=4∨i=5∨i=6∨i=7:=om;rcases h8 with rfl | rfl | rfl | rfl | rfl | rfl | rfl | rfl <;> rfl
theorem jP (x:UInt32) (n:Nat) (h0:0 < n) (h1:n < 32):aE Tryz.prog G 175 [dZ x, .int .i64 n] (dZ (gQ x n)):=by
 refine bA seat Tryz.func175 13 ?_;refine aP ?_;refine⟨[ae 0,ae 1,ae 2,ae 3,ae 4,ae 5,ae 6,ae 7,ae 8],?_⟩;refine⟨om,_,sv (ug x n h1),?_⟩;refine⟨((32 - n:Nat):Int),sv ((eo _ om om).trans om),?_⟩;refine⟨om,_,sv (Hb x (32 - n) om),?_⟩;refine aP ?_;rfl
theorem constants_m:aE Tryz.prog G 176 [] (wsM kL):=by
 refine bA seat Tryz.func176 2 ?_;refine aP ?_;rfl
theorem J2 (h:W8) (b:List UInt8) (hb:b.length=64):aE Tryz.prog G 118 [h.toM, .sl 64 (u8s b)] (oh h b).toM:=by
 unfold oh;refine bA seat Tryz.func118 193 ?_;refine aP ?_;refine⟨Nat,fun t=> [(6, .int .i64 t),(5, .ptr 2 64 0 0 []),(4, .ptr 1 8 0 0 []),(2, .ptr 0 8 0 0 []),(1, .sl 64 (u8s b))],fun t=> [(0,⟨179,8,false,0,[h.toM]⟩),(1,⟨179,8,false,0,[W8.toM ⟨0,0,0,0,0,0,0,0⟩]⟩),(2,⟨233,64,false,0,[wsM (uj b t)]⟩)],3,fun t=>t≤16,fun t=>16 - t,⟨0,om,(vm [(0,0),(1,1),(2,2)] [])⟩,?_⟩;intro t ht;refine aP ?_;refine⟨fun hc=>?_,fun hc=>?_⟩
 ·have ht':t < 16:=by have:=ot hc;omega
  have hl:=nd b t;refine aP ?_;refine⟨[ae 0,ae 1,ae 2,ae 3,ae 4,ae 5,ae 6,ae 7,ae 8,ae 9,ae 10,ae 11,ae 12,ae 13,ae 14,ae 15,ae 16,ae 17,ae 18,ae 19,ae 20,ae 21,ae 22,ae 23,ae 24,ae 25,ae 26,ae 27,ae 28,ae 29,ae 30,ae 31,ae 32,ae 33,ae 34,ae 35],?_⟩;refine aP ?_;refine⟨_,iA (4 * t) om om (nN om),?_⟩;refine aP ?_;refine⟨_,iA (4 * t + 1) om om (nN om),?_⟩;refine aP ?_;refine⟨_,iA (4 * t + 2) om om (nN om),?_⟩;refine aP ?_;refine⟨_,iA (4 * t + 3) om om (nN om),?_⟩;refine aP ?_;refine⟨_,cE om,?_⟩;refine aP ?_;refine⟨_,xG om _,?_⟩;refine aP ?_;exact⟨t + 1,om,by show 16 - (t + 1) < 16 - t;omega,(vm [(0,0),(1,1),(2,2)] [])⟩
 ·have ht':t=16:=by have:=oF hc;omega
  subst ht';refine aP ?_;refine⟨Nat,fun t=> [(7, .int .i64 ((16 + t:Nat):Int)),(5, .ptr 2 64 0 0 []),(4, .ptr 1 8 0 0 []),(2, .ptr 0 8 0 0 [])],fun t=> [(0,⟨179,8,false,0,[h.toM]⟩),(1,⟨179,8,false,0,[W8.toM ⟨0,0,0,0,0,0,0,0⟩]⟩),(2,⟨233,64,false,0,[wsM (nM b t)]⟩)],3,fun t=>t≤48,fun t=>48 - t,⟨0,om,(vm [(0,0),(1,1),(2,2)] [])⟩,?_⟩;intro t ht;refine aP ?_;refine⟨fun hc=>?_,fun hc=>?_⟩
  ·have ht':t < 48:=by have:=ot hc;omega
   have hl:=kv b t;refine aP ?_;refine⟨[ae 0,ae 1,ae 2,ae 3,ae 4,ae 5,ae 6,ae 7,ae 8,ae 9],?_⟩;refine aP ?_;refine⟨_,gy (16 + t - 15) om om,?_⟩;refine aP ?_;refine⟨_,iK om,?_⟩;refine aP ?_;refine⟨_,gy (16 + t - 2) om om,?_⟩;refine aP ?_;refine⟨_,iK om,?_⟩;refine aP ?_;refine⟨[ae 0,ae 1,ae 2,ae 3,ae 4,ae 5,ae 6,ae 7,ae 8,ae 9,ae 10,ae 11,ae 12,ae 13,ae 14,ae 15,ae 16,ae 17,ae 18,ae 19,ae 20,ae 21,ae 22,ae 23,ae 24,ae 25,ae 26,ae 27,ae 28,ae 29],?_⟩;refine⟨_,jP _ 17 om om,?_⟩;refine⟨_,jP _ 19 om om,?_⟩;refine aP ?_;refine⟨_,gy (16 + t - 7) om om,?_⟩;refine aP ?_;refine⟨_,iK om,?_⟩;refine aP ?_;refine⟨_,jP _ 7 om om,?_⟩;refine⟨_,jP _ 18 om om,?_⟩;refine aP ?_;refine⟨_,gy (16 + t - 16) om om,?_⟩;refine aP ?_;refine⟨_,iK om,?_⟩;refine aP ?_;refine⟨_,gy (16 + t) om om,?_⟩;refine aP ?_;refine⟨_,xG om _,?_⟩;refine aP ?_;exact⟨t + 1,by show t + 1≤48;omega,by show 48 - (t + 1) < 48 - t;omega,(vm [(0,0),(1,1),(2,2)] [])⟩
  ·have ht':t=48:=by have:=oF hc;omega
   subst ht';refine aP ?_;refine .inl ⟨_,constants_m,?_⟩;refine aP ?_;have hl:=kv b 48;have hk:kL.length=64:=rfl;dsimp only;generalize nM b 48=ws at *;generalize kL=kl at *;refine aP ?_;refine⟨Nat,fun t=> [(12, .int .i64 t),(11, .ptr 4 8 0 0 []),(10, .ptr 3 64 0 0 []),(5, .ptr 2 64 0 0 []),(4, .ptr 1 8 0 0 []),(2, .ptr 0 8 0 0 [])],fun t=> [(0,⟨179,8,false,0,[h.toM]⟩),(1,⟨179,8,false,0,[W8.toM ⟨0,0,0,0,0,0,0,0⟩]⟩),(2,⟨233,64,false,0,[wsM ws]⟩),(3,⟨233,64,false,0,[wsM kl]⟩),(4,⟨179,8,false,0,[(jq kl ws h t).toM]⟩)],5,fun t=>t≤64,fun t=>64 - t,⟨0,om,(vm [(0,0),(1,1),(2,2),(3,6),(4,9)] [])⟩,?_⟩;intro t ht;refine aP ?_;refine⟨fun hc=>?_,fun hc=>?_⟩
   ·have ht':t < 64:=by have:=ot hc;omega
    refine aP ?_;refine⟨[ae 0,ae 1,ae 2,ae 3,ae 4,ae 5],?_⟩;refine aP ?_;refine⟨[ae 0,ae 1,ae 2,ae 3,ae 4,ae 5,ae 6,ae 7,ae 8,ae 9,ae 10,ae 11,ae 12,ae 13,ae 14,ae 15,ae 16,ae 17,ae 18,ae 19,ae 20,ae 21,ae 22,ae 23,ae 24,ae 25,ae 26,ae 27,ae 28,ae 29,ae 30],?_⟩;refine aP ?_;refine⟨_,jP _ 6 om om,?_⟩;refine⟨_,jP _ 11 om om,?_⟩;refine aP ?_;refine⟨_,jP _ 25 om om,?_⟩;refine aP ?_;refine⟨_,cE om,?_⟩;refine aP ?_;refine⟨_,iK om,?_⟩;refine aP ?_;refine⟨_,cE om,?_⟩;refine aP ?_;refine⟨_,iK om,?_⟩;refine aP ?_;refine⟨[ae 0,ae 1,ae 2,ae 3,ae 4,ae 5,ae 6,ae 7,ae 8,ae 9,ae 10,ae 11,ae 12,ae 13,ae 14,ae 15,ae 16,ae 17,ae 18,ae 19,ae 20,ae 21,ae 22,ae 23,ae 24],?_⟩;refine⟨_,jP _ 2 om om,?_⟩;refine⟨_,jP _ 13 om om,?_⟩;refine aP ?_;refine⟨_,jP _ 22 om om,?_⟩;refine aP ?_;exact⟨t + 1,by show t + 1≤64;omega,by show 64 - (t + 1) < 64 - t;omega,(vm [(0,0),(1,1),(2,2),(3,3),(4,4)] [])⟩
   ·have ht':t=64:=by have:=oF hc;omega
    subst ht';refine aP ?_;refine⟨Nat,fun i=> [(180, .int .i64 i),(11, .ptr 2 8 0 0 []),(4, .ptr 1 8 0 0 []),(2, .ptr 0 8 0 0 [])],fun i=> [(0,⟨179,8,false,0,[(EN h (jq kl ws h 64) i).toM]⟩),(1,⟨179,8,false,0,[W8.toM ⟨0,0,0,0,0,0,0,0⟩]⟩),(2,⟨179,8,false,0,[(jq kl ws h 64).toM]⟩)],3,fun i=>i≤8,fun i=>8 - i,⟨0,om,(vm [(0,0),(1,1),(2,4)] [])⟩,?_⟩;intro i hi;refine aP ?_;refine⟨fun hc=>?_,fun hc=>?_⟩
    ·have hi':i < 8:=by have:=ot hc;omega
     refine aP ?_;refine⟨[ae 0,ae 1,ae 2,ae 3,ae 4,ae 5,ae 6,ae 7,ae 8],?_⟩;generalize jq kl ws h 64=s at *;refine aP ?_;refine⟨_,cE om,?_⟩;refine aP ?_;refine⟨_,Hk _ hi',?_⟩;refine aP ?_;refine⟨_,cE om,?_⟩;refine aP ?_;refine⟨_,Hk _ hi',?_⟩;refine aP ?_;refine⟨_,cE om,?_⟩;refine aP ?_;refine⟨_,NR h s hi',?_⟩;refine aP ?_;exact⟨i + 1,by show i + 1≤8;omega,by show 8 - (i + 1) < 8 - i;omega,(vm [(0,0),(1,1),(2,2)] [])⟩
    ·have hi':i=8:=by have:=oF hc;omega
     subst hi';refine aP ?_;rfl
end
section
theorem aA {α:Type} {x:α}: ∀R:α→Prop,R x→R x:=fun _ h=>h
theorem seq' {Pg:Program} {T:bB} {ents:List FuncId} {G:GS} (hS:Seat Pg T ents) {f:FuncId} {fn:Func} (hf:Pg.funcs[f]? =some fn) (N:Nat) {c:Code} {rs:List ResultVar} {args:List MV} {M0:VM} {n0:Nat} {Φ:MV→VM→Nat→Prop} (h:vC Pg T N ents G n0 c (tJ T n0 rs Φ) (qz 0 args) M0 n0) (hb:fn.body=some c:=by rfl) (hrs:fn.results=rs.toArray:=by rfl) (h5:rs.length≤6:=by exact Nat.le_of_ble_eq_true rfl) (hn:args.length≤fn.ntmps:=by exact Nat.le_of_ble_eq_true rfl) (hN:fn.ntmps=N:=by rfl) (hM0:M0.all (fun x=>Nat.blt x.1 n0)=true:=by rfl):ti Pg G f args M0 n0 Φ:=BC hS hf hb hrs h5 hn hN hM0 h
theorem src {Pg:Program} {G:GS} {f:FuncId} {args:List MV} {res:MV} (h:aE Pg G f args res):aQ Pg G f args [] 0 res [] 0:=du h
variable {G:GS}
theorem J3 (i n:Nat) (h:i < 4611686018427387904):IntKind.i64.wrap ((i:Int).tdiv (n:Int))=((i / n:Nat):Int):=by
 have e:(i:Int).tdiv (n:Int)=((i / n:Nat):Int):=rfl;have:=e₀ i n;generalize i / n=q at *;rw [e,eo _ om om]
theorem EO {n a c:Nat} {k k':IntKind} {lo hi:Int} (ha:lo=(a:Int)) (hc:hi=(c:Int)) (h1:a≤c) (h2:c≤n):dz n (some (.int k lo)) (some (.int k' hi))=some (a,c):=by
 subst ha;subst hc;unfold dz;simp only;rw [if_pos om];simp only [Int.toNat_natCast];rw [if_pos om]
theorem CW (m:List UInt8):aY (u8s m) 1=true:=by cases m <;> rfl
def gO (n:Nat):Nat:=(119 - n % 64) % 64
def byteAt (n k:Nat):UInt8:=UInt8.ofNat (n / 2 ^ (8 * (7 - k)))
def Hl (n:Nat):List UInt8:=(b₇ 8).map (byteAt n)
def nF (b:List UInt8):List UInt8:=b ++ [128] ++ a₃ (gO b.length) 0 ++ Hl (8 * b.length)
def fX:W8:=⟨1779033703,3144134277,1013904242,2773480762,1359893119,2600822924,528734635,1541459225⟩
def absorb (s:W8) (m:List UInt8):Nat→W8
 | 0=>s
 | k + 1=>oh (absorb s m k) ((m.drop (64 * k)).take 64)
def wg (s:W8) (i:Nat):UInt8:=(s.nth (i / 4) >>> UInt32.ofNat (24 - i % 4 * 8)).toUInt8
def si (s:W8):Nat→List UInt8
 | 0=>a₃ 32 0
 | i + 1=>(si s i).set i (wg s i)
theorem pI (s:W8): ∀i,(si s i).length=32
 | 0=>by simp [si]
 | i + 1=>by simp [si,pI s i]
def gP (b:List UInt8):List UInt8:=si (absorb fX (nF b) ((nF b).length / 64)) 32
theorem eJ (b:List UInt8):(gP b).length=32:=pI _ _
def keyM (k:List UInt8):MV:= .arr 32 1 (u8s k)
theorem uk (b:List UInt8):(nF b).length=b.length + 9 + gO b.length:=by simp [nF,Hl];omega
theorem zS (b:List UInt8):(nF b).length=64 * ((nF b).length / 64):=by rw [uk];unfold gO;omega
theorem J4 {k:List UInt8} {i:Nat} (h:i < k.length):fc (keyM k) ([] ++ [i]) (0 + i * 1)=some (BF (k.getD i 0)):=by
 show(match bW (u8s k) i with | some m=>bif c₅ (i * 1) (0 + i * 1) then fc m [] (0 + i * 1 - i * 1) else none | none=>none)=_
 have e:bW (u8s k) i=some (BF (k.getD i 0)):=by rw [bS];exact nN h
 rw [e];have e2:c₅ (i * 1) (0 + i * 1)=true:=sm;simp only [e2,cond_true];simp [fc]
theorem k9 {k:List UInt8} {i:Nat} (h:i < k.length) (x:UInt8):ff (keyM k) ([] ++ [i]) (0 + i * 1) (BF x)=some (keyM (k.set i x)):=by
 show(match bW (u8s k) i with | some m=>bif c₅ (i * 1) (0 + i * 1) && (BF x).idFree then(match ff m [] (0 + i * 1 - i * 1) (BF x) with | some m'=>some (MV.arr 32 1 (setL (u8s k) i m')) | none=>none) else none | none=>none)=_
 have e:bW (u8s k) i=some (BF (k.getD i 0)):=by rw [bS];exact nN h
 rw [e];have e2:c₅ (i * 1) (0 + i * 1)=true:=sm;simp only [e2];simp [ff,setL_eq,MV.idFree,MV.size,MV.isAgg,keyM,u8s,List.map_set]
theorem EP (n k:Nat) (hk:k < 8):IntKind.u8.wrap (((n:Int) * 8).fdiv (2 ^ (min (8 * (7 - (k:Int))).toNat IntKind.u64.bits)))=((byteAt (8 * n) k).toNat:Int):=by
 have e:min (8 * (7 - (k:Int))).toNat IntKind.u64.bits=8 * (7 - k):=by simp [IntKind.bits];omega
 have e2:((n:Int) * 8)=((8 * n:Nat):Int):=om;rw [e,e2,b₈ _ (Int.le_of_lt (Int.pow_pos om)),w8,byteAt,UInt8.toNat_ofNat'];have e3:(2:Int) ^ (8 * (7 - k))=((2 ^ (8 * (7 - k)):Nat):Int):=by rw [c₈];rfl
 rw [e3,← b₉];exact(c₆ _ 256).symm
theorem mj (b:List UInt8) (hb:b.length < 536870912):aE Tryz.prog G 69 [.sl b.length (u8s b)] (keyM (gP b)):=by
 have hp:gO b.length < 64:=by unfold gO;omega
 refine bA seat Tryz.func69 69 ?_;refine aP ?_;refine⟨CW b,?_⟩;refine aP ?_;(refine a₁ ⟨pf,ai (by kernel_rfl) pf⟩ ?_;refine⟨u8s b,sv pf,b.length,sv pf,?_⟩);refine aP ?_;(refine a₁ (a₉ _) ?_;refine⟨_,rfl,?_⟩;refine a₁ ⟨pf,ai (by kernel_rfl) pf⟩ ?_;refine⟨u8s (b ++ [128]),sv pf,b.length + 1,sv pf,?_⟩);refine aP ?_;refine⟨Nat,fun k=> [(3, .ms 1 1 0 (b.length + 1 + k)),(2, .ptr 0 32 0 0 []),(0, .sl b.length (u8s b))],fun k=> [(0,⟨68,32,false,0,[keyM (a₃ 32 0)]⟩),(1,⟨5,1,true,0,u8s (b ++ [128] ++ a₃ k 0)⟩)],2,fun k=>k≤gO b.length,fun k=>gO b.length - k,⟨0,a₈ _,(vm [(0,_),(1,_)] [])⟩,?_⟩;intro k hk;refine aP ?_;refine⟨fun hc=>?_,fun hc=>?_⟩
 ·have hk':k < gO b.length:=by
   have hc:((b.length + 1 + k:Nat):Int).tmod (64:Int)≠56:=by simpa using hc
   have e:((b.length + 1 + k:Nat):Int).tmod (64:Int)=(((b.length + 1 + k) % 64:Nat):Int):=rfl;unfold gO at hk ⊢;omega
  refine aP ?_;(refine a₁ (a₉ _) ?_;refine⟨_,rfl,?_⟩;refine a₁ ⟨pf,ai (by kernel_rfl) pf⟩ ?_;refine⟨u8s (b ++ [128] ++ a₃ (k + 1) 0),sv pf,b.length + 1 + (k + 1),sv pf,?_⟩);refine aP ?_;exact⟨k + 1,by show k + 1≤gO b.length;omega,by show gO b.length - (k + 1) < gO b.length - k;omega,(vm [(0,_),(1,_)] [])⟩
 ·have hk':k=gO b.length:=by
   have hc:((b.length + 1 + k:Nat):Int).tmod (64:Int)=56:=by simpa using hc
   have e:((b.length + 1 + k:Nat):Int).tmod (64:Int)=(((b.length + 1 + k) % 64:Nat):Int):=rfl;unfold gO at hk ⊢;omega
  subst hk';refine aP ?_;refine⟨Nat,fun k=> [(5, .int .i64 (7 - (k:Int))),(4, .int .u64 ((b.length:Int) * 8)),(3, .ms 1 1 0 (b.length + 1 + gO b.length + k)),(2, .ptr 0 32 0 0 [])],fun k=> [(0,⟨68,32,false,0,[keyM (a₃ 32 0)]⟩),(1,⟨5,1,true,0,u8s (b ++ [128] ++ a₃ (gO b.length) 0 ++ (b₇ k).map (byteAt (8 * b.length)))⟩)],2,fun k=>k≤8,fun k=>8 - k,⟨0,a₈ _,(vm [(0,_),(1,_)] [])⟩,?_⟩;intro k hk;refine aP ?_;refine⟨fun hc=>?_,fun hc=>?_⟩
  ·have hk':k < 8:=by have:=ot hc;omega
   (repeat((try conv=>whnf);first | (with_reducible refine⟨_,sv (EP _ _ hk'),?_⟩) | (with_reducible refine Rt.go ?_) | (with_reducible refine Rs.go ?_) | (with_reducible refine tR ?_) | (with_reducible refine a₁ (a₈ _) ?_) | (with_reducible refine a₁ rfl ?_) | (with_reducible refine⟨fun _=>?_,fun h=>b₃ h⟩) | (with_reducible refine⟨fun h=>b₃ h,fun _=>?_⟩) | (with_reducible refine⟨_,sv (zH _ _),?_⟩) | (with_reducible refine⟨_,sv (we _ _),?_⟩) | (with_reducible refine⟨_,sv (zI _ _),?_⟩) | (with_reducible refine⟨_,sv (Ha _ _),?_⟩) | (with_reducible refine⟨_,sv (zJ _),?_⟩) | (with_reducible refine⟨_,sv (Hc _ _ (by omega) (by omega)),?_⟩) | (with_reducible refine⟨_,sv (Hd _ _ (by omega) (by omega)),?_⟩) | (with_reducible refine⟨_,sv (pE _),?_⟩) | (with_reducible refine⟨_,sv (iY _),?_⟩) | (with_reducible refine⟨_,sv (eo _ (by omega) (by omega)),?_⟩) | (with_reducible refine⟨_,sv (bM _ (by omega) (by omega)),?_⟩) | (with_reducible refine⟨_,sv (gF _ (by omega) (by omega)),?_⟩) | refine⟨_,rfl,?_⟩ | refine a₁ (show gK _ _=true by kernel_rfl) ?_ | refine a₁ (by omega) ?_));(refine a₁ (a₉ _) ?_;refine⟨_,rfl,?_⟩;refine a₁ ⟨pf,ai (by kernel_rfl) pf⟩ ?_;refine⟨u8s (b ++ [128] ++ a₃ (gO b.length) 0 ++ (b₇ (k + 1)).map (byteAt (8 * b.length))),sv pf,b.length + 1 + gO b.length + (k + 1),sv pf,?_⟩);refine aP ?_;exact⟨k + 1,by show k + 1≤8;omega,by show 8 - (k + 1) < 8 - k;omega,(vm [(0,_),(1,_)] [])⟩
  ·have hk':k=8:=by have:=oF hc;omega
   subst hk';have hm:b ++ [128] ++ a₃ (gO b.length) 0 ++ (b₇ 8).map (byteAt (8 * b.length))=nF b:=rfl;have hl:=uk b;have hd:=zS b;have hlm:b.length + 1 + gO b.length + 8=(nF b).length:=om;unfold gP;dsimp only;rw [hm,hlm];generalize (nF b).length / 64=q at *;have hq:(nF b).length < 2000000000:=om;generalize nF b=m at *;refine aP ?_;refine⟨Nat,fun k=> [(7, .int .i64 ((64 * k:Nat):Int)),(6, .ptr 1 8 0 0 []),(3, .sl m.length (u8s m)),(2, .ptr 0 32 0 0 [])],fun k=> [(0,⟨68,32,false,0,[keyM (a₃ 32 0)]⟩),(1,⟨179,8,false,0,[(absorb fX m k).toM]⟩)],2,fun k=>k≤q,fun k=>q - k,⟨0,a₈ _,(vm [(0,_),(1,_)] [(1,m.length)])⟩,?_⟩;intro k hk;refine aP ?_;refine⟨fun hc=>?_,fun hc=>?_⟩
   ·have hk':k < q:=by have:=ot hc;omega
    refine aP ?_;refine⟨[ae 0,ae 1,ae 2,ae 3,ae 4,ae 5,ae 6,ae 7],?_⟩;refine aP ?_;refine⟨_,EO (a:=64 * k) (c:=64 * k + 64) rfl om om om,CW m,?_⟩;refine⟨u8s ((m.drop (64 * k)).take 64),sv ((cut_u8 _ _ _).trans (by rw [show 64 * k + 64 - 64 * k=64 by omega])),64,sv om,?_⟩;refine⟨_,J2 _ _ (by simp;omega),?_⟩;refine aP ?_;exact⟨k + 1,by show k + 1≤q;omega,by show q - (k + 1) < q - k;omega,(vm [(0,_),(1,_)] [])⟩
   ·have hk':k=q:=by have:=oF hc;omega
    subst hk';dsimp only;generalize absorb fX m k=s at *;refine aP ?_;refine⟨Nat,fun i=> [(52, .int .i64 i),(8, .ptr 2 32 0 0 []),(6, .ptr 1 8 0 0 []),(2, .ptr 0 32 0 0 [])],fun i=> [(0,⟨68,32,false,0,[keyM (a₃ 32 0)]⟩),(1,⟨179,8,false,0,[s.toM]⟩),(2,⟨68,32,false,0,[keyM (si s i)]⟩)],3,fun i=>i≤32,fun i=>32 - i,⟨0,a₈ _,(vm [(0,_),(1,_),(2,_)] [])⟩,?_⟩;intro i hi;refine aP ?_;refine⟨fun hc=>?_,fun hc=>?_⟩
    ·have hi':i < 32:=by have:=ot hc;omega
     have hl:=pI s i;have e1:IntKind.i64.wrap ((i:Int).tmod 4 * 8)=((i % 4 * 8:Nat):Int):=by
      have e:(i:Int).tmod 4=((i % 4:Nat):Int):=rfl;rw [e,eo _ om om];omega
     have e2:IntKind.i64.wrap (24 - ((i % 4 * 8:Nat):Int))=((24 - i % 4 * 8:Nat):Int):=by
      rw [eo _ om om];omega
     (repeat((try conv=>whnf);first | (with_reducible refine⟨_,sv (J3 i 4 (by omega)),?_⟩) | (with_reducible refine Rt.go ?_) | (with_reducible refine Rs.go ?_) | (with_reducible refine tR ?_) | (with_reducible refine a₁ (a₈ _) ?_) | (with_reducible refine a₁ rfl ?_) | (with_reducible refine⟨fun _=>?_,fun h=>b₃ h⟩) | (with_reducible refine⟨fun h=>b₃ h,fun _=>?_⟩) | (with_reducible refine⟨_,sv (zH _ _),?_⟩) | (with_reducible refine⟨_,sv (we _ _),?_⟩) | (with_reducible refine⟨_,sv (zI _ _),?_⟩) | (with_reducible refine⟨_,sv (Ha _ _),?_⟩) | (with_reducible refine⟨_,sv (zJ _),?_⟩) | (with_reducible refine⟨_,sv (Hc _ _ (by omega) (by omega)),?_⟩) | (with_reducible refine⟨_,sv (Hd _ _ (by omega) (by omega)),?_⟩) | (with_reducible refine⟨_,sv (pE _),?_⟩) | (with_reducible refine⟨_,sv (iY _),?_⟩) | (with_reducible refine⟨_,sv (eo _ (by omega) (by omega)),?_⟩) | (with_reducible refine⟨_,sv (bM _ (by omega) (by omega)),?_⟩) | (with_reducible refine⟨_,sv (gF _ (by omega) (by omega)),?_⟩) | refine⟨_,rfl,?_⟩ | refine a₁ (show gK _ _=true by kernel_rfl) ?_ | refine a₁ (by omega) ?_));refine⟨_,gy (i / 4) rfl om,?_⟩;refine aP ?_;refine⟨_,Hk _ om,?_⟩;(repeat((try conv=>whnf);first | (with_reducible refine⟨_,sv e1,?_⟩) | (with_reducible refine⟨_,sv e2,?_⟩) | (with_reducible refine⟨_,sv (ug _ (24 - i % 4 * 8) (by omega)),?_⟩) | (with_reducible refine Rt.go ?_) | (with_reducible refine Rs.go ?_) | (with_reducible refine tR ?_) | (with_reducible refine a₁ (a₈ _) ?_) | (with_reducible refine a₁ rfl ?_) | (with_reducible refine⟨fun _=>?_,fun h=>b₃ h⟩) | (with_reducible refine⟨fun h=>b₃ h,fun _=>?_⟩) | (with_reducible refine⟨_,sv (zH _ _),?_⟩) | (with_reducible refine⟨_,sv (we _ _),?_⟩) | (with_reducible refine⟨_,sv (zI _ _),?_⟩) | (with_reducible refine⟨_,sv (Ha _ _),?_⟩) | (with_reducible refine⟨_,sv (zJ _),?_⟩) | (with_reducible refine⟨_,sv (Hc _ _ (by omega) (by omega)),?_⟩) | (with_reducible refine⟨_,sv (Hd _ _ (by omega) (by omega)),?_⟩) | (with_reducible refine⟨_,sv (pE _),?_⟩) | (with_reducible refine⟨_,sv (iY _),?_⟩) | (with_reducible refine⟨_,sv (eo _ (by omega) (by omega)),?_⟩) | (with_reducible refine⟨_,sv (bM _ (by omega) (by omega)),?_⟩) | (with_reducible refine⟨_,sv (gF _ (by omega) (by omega)),?_⟩) | refine⟨_,rfl,?_⟩ | refine a₁ (show gK _ _=true by kernel_rfl) ?_ | refine a₁ (by omega) ?_));refine⟨_,cE om,?_⟩;refine aP ?_;refine⟨_,k9 om _,?_⟩;refine aP ?_;exact⟨i + 1,by show i + 1≤32;omega,by show 32 - (i + 1) < 32 - i;omega,(vm [(0,_),(1,_),(2,_)] [])⟩
    ·have hi':i=32:=by have:=oF hc;omega
     subst hi';refine aP ?_;rfl
end
section
variable {G:GS}
attribute [local irreducible] ak aB aD aI aN vC aW aw
theorem nf {l:List eE} {k:Nat} (hk:k < l.length):bF (l.map bR) l.length (k:Int)=some (bR l[k]):=cO hk (by simp [hk])
theorem ng (l:List eE) {k:Nat} (hk:k < l.length):aF (l.take (k + 1))=aF (l.take k) ++ aV l[k] :=by
 unfold aF;rw [c₀ hk,c₂,d₄];simp
theorem ni (l:List eE) (k:Nat):(aF (l.take k)).length≤(aF l).length:=by
 have:aF (l.take k) ++ aF (l.drop k)=aF l:=by
  unfold aF;rw [← d₄,← c₂,List.take_append_drop]
 rw [← this,a₀];omega
theorem la {f:eE} (hf:iz f):f.bytes.length≤(aV f).length:=by
 unfold iz at hf;unfold aV;split
 ·have:f.bytes= [] :=by
   rcases hf.2.2 with h | h
   ·exact h.2.1
   ·omega
  rw [this];simp
 ·simp only [a₀];omega
theorem nj (l:List eE) (hl: ∀f∈l,iz f) (hm:(aF l).length < 200000000) (hll:l.length < 1000000):aQ Tryz.prog G 119 [.sl l.length (l.map bR)] [] 0 (.sl (aF l).length (u8s (aF l))) [] 0:=by
 refine dw seat Tryz.func119 20 ?_;refine aa ?_;refine av Nat (fun k=> [(8, .int .i64 k),(7, .int .i64 l.length),(6, .sl l.length (l.map bR)),(3, .ms 0 1 0 (aF (l.take k)).length)]) (fun k=> [(0,⟨5,1,true,0,u8s (aF (l.take k))⟩)]) 1 (fun k=>k≤l.length) (fun k=>l.length - k) 0 (a₈ _) (by rw [e₄];exact(vm [] [])) ?_;intro k hk;try dsimp only
 refine aa ?_;refine ad rfl ?_ ?_ <;> intro h
 ·have hk':k < l.length:=by have:=ot h;omega
  have hs:=ng l hk';have hle:=ni l (k + 1);have hfo:=hl _ (d₈ hk');have hfb:=la hfo;have hel:=nf hk';generalize l[k] =f at *;have hlen:(aF (l.take (k + 1))).length=(aF (l.take k)).length + (aV f).length:=by rw [hs,a₀]
  have c1:=CU (G:=G) (aF (l.take k)) f hfo om;rw [← hs] at c1;unfold jn at c1;generalize aF (l.take k)=p at *;(have fct:=aj.mk (hel);refine aa ?_);refine bC rfl aA rfl (c1) [] [(0,p.length)] ⟨rfl,mm,rfl,lm,mm⟩ rfl rfl ?_;refine aa ?_;exact⟨k + 1,by show k + 1≤l.length;omega,by show l.length - (k + 1) < l.length - k;omega,(by dsimp only;exact(vm [(0,_)] []))⟩
 ·have hk':k=l.length:=by have:=oF h;omega
  subst hk';rw [d₉];generalize aF l=p at *;refine aa ?_;refine⟨[_],[],[(0,p.length)],rfl,rfl,?_,rfl,⟨?_,trivial⟩,?_⟩
  ·exact⟨by show p.length≤(u8s p).length;simp [u8s],trivial⟩
  ·exact rv
  ·exact mm
def ml:Nat→Nat→Nat→Nat
 | 0,_,k=>k
 | f + 1,n,k=>if k < n - k then ml f n (k * 2) else k
theorem zT: ∀(f n k:Nat),k < n→1≤k→1≤ml f n k∧ml f n k < n
 | 0,n,k,h,h1=>⟨h1,h⟩
 | f + 1,n,k,h,h1=>by
  rw [ml]
  split
  ·exact zT f n (k * 2) om om
  ·exact⟨h1,h⟩
def hlf (n:Nat):Nat:=ml n n 1
theorem xH {n:Nat} (h:2≤n):1≤hlf n∧hlf n < n:=zT n n 1 om om
theorem L9 (n:Nat) (h2:1≤n) (hn:n < 4000000000):aE Tryz.prog G 169 [.int .i64 n] (.int .i64 (hlf n)):=by
 generalize hr:hlf n=r;unfold hlf at hr;refine bA seat Tryz.func169 12 ?_;refine aa ?_;refine av (Nat×Nat) (fun x=> [(3, .int .i64 x.2),(0, .int .i64 n)]) (fun _=> []) 0 (fun x=>ml x.1 n x.2=r∧1≤x.2∧x.2≤n∧n≤x.1 + x.2) (fun x=>x.1) (n,1) ⟨hr,dm,dm,dm⟩ (by dsimp only;exact(vm [] [])) ?_;rintro⟨f,k⟩ ⟨hk,h1,h3,h4⟩;try dsimp only
 dsimp only at hk h1 h3 h4;refine aa ?_;refine ad rfl ?_ ?_ <;> intro h
 ·have hlt:k < n - k:=by have:=ot h;omega
  match f,hk,h4 with
  | 0,hk,h4=>exfalso;omega
  | f + 1,hk,h4=>
  rw [ml,if_pos hlt] at hk;refine aa ?_;refine⟨(f,k * 2),⟨hk,dm,dm,dm⟩,by show f < f + 1;omega,?_⟩;dsimp only;rw [show ((k * 2:Nat):Int)=(k:Int) * 2 by omega];exact(vm [] [])
 ·have hlt: ¬ k < n - k:=by have:=oF h;omega
  have:ml f n k=k:=by cases f with | zero=>rfl | succ f=>rw [ml,if_neg hlt]
  rw [this] at hk;subst hk;refine aa ?_;refine au ?_;rfl
theorem J5 (b:List UInt8) (hb:b.length < 400000000):aE Tryz.prog G 168 [.sl b.length (u8s b)] (keyM (gP (0 :: b))):=by
 have c1:=mj (G:=G) (0 :: b) (by simp only [a₆];omega);rw [a₆] at c1;refine bA seat Tryz.func168 7 ?_;refine aa ?_;refine aL rfl rfl (by intro R hR;refine cI hR ?_;refine a₁ (bP b) ?_;refine a₁ ⟨(by simp [setL,repM]),ai (by kernel_rfl) pf⟩ ?_;refine⟨u8s (0 :: b),sv (by simp [u8s,setL,repM]),b.length + 1,sv pf,?_⟩;exact hR) rfl ?_;refine aa ?_;refine bX rfl aA rfl (src (c1)) rfl [(3,b.length + 1)] mm lm ?_;refine aa ?_;refine au ?_;rfl
end
section
variable {G:GS}
attribute [local irreducible] ak aB aD aI aN vC aW aw
theorem dQ {a:List UInt8} (ha:a.length=32):cutL (u8s a) 0 32=u8s a:=by rw [cut_u8,List.drop_zero,List.take_of_length_le om]
theorem Hm (a b:List UInt8) (ha:a.length=32) (hb:b.length=32):aE Tryz.prog G 170 [keyM a,keyM b] (keyM (gP (1 :: (a ++ b)))):=by
 have c1:=mj (G:=G) (1 :: (a ++ b)) (by simp only [a₆,a₀];omega);have hql:(1 :: (a ++ b):List UInt8).length=65:=by simp only [a₆,a₀];omega
 generalize hq:(1 :: (a ++ b):List UInt8)=q at *;refine bA seat Tryz.func170 11 ?_;refine aa ?_;refine al [ae 0,ae 1,ae 2,ae 3,ae 4,dj 5,ae 6] ?_;refine aa ?_;refine aZ rfl (by intro R hR;refine cI hR ?_;refine a₁ (pG a 0 32) ?_;refine a₁ ⟨(by simp [setL,repM]),ai (by kernel_rfl) pf⟩ ?_;refine⟨u8s (1 :: a),sv (by rw [dQ ha];simp [u8s,setL,repM]),33,sv pf,?_⟩;exact hR) rfl ?_;refine aa ?_;refine aZ rfl (by intro R hR;refine cI hR ?_;refine a₁ (pG b 0 32) ?_;refine a₁ ⟨(by simp [u8s,ha]),ai (by kernel_rfl) pf⟩ ?_;refine⟨u8s q,sv (by rw [dQ hb,← hq];simp [u8s]),q.length,sv pf,?_⟩;exact hR) rfl ?_;refine aa ?_;refine bQ rfl aA rfl [7] (src (c1)) rfl [(7,q.length)] mm lm rfl ?_;refine aa ?_;refine au ?_;rfl
def bk (b:List UInt8):MV:= .sl b.length (u8s b)
def pJ:Nat→List (List UInt8)→List UInt8
 | 0,_=>gP []
 | f + 1,l=>match l with
  | [] =>gP []
  | [b] =>gP (0 :: b)
  | l=>gP (1 :: (pJ f (l.take (hlf l.length)) ++ pJ f (l.drop (hlf l.length))))
def ee (l:List (List UInt8)):List UInt8:=pJ l.length l
theorem qP (f:Nat) {l:List (List UInt8)} (h:2≤l.length):pJ (f + 1) l=gP (1 :: (pJ f (l.take (hlf l.length)) ++ pJ f (l.drop (hlf l.length)))):=by
 match l,h with
 | a :: b :: r,_=>rfl
theorem ER: ∀(f:Nat) (l:List (List UInt8)),(pJ f l).length=32
 | 0,_=>eJ _
 | f + 1,l=>match l with
  | [] =>eJ _
  | [_] =>eJ _
  | _ :: _ :: _=>eJ _
theorem lf: ∀(f g:Nat) (l:List (List UInt8)),l.length≤f→l.length≤g→pJ f l=pJ g l
 | 0,g,l,h,_=>by
  obtain rfl:=b₄.1 (by omega:l.length=0)
  cases g <;> rfl
 | f + 1,0,l,_,h=>by
  obtain rfl:=b₄.1 (by omega:l.length=0)
  rfl
 | f + 1,g + 1,l,hf,hg=>by
  match l with
  | [] =>rfl
  | [b] =>rfl
  | a :: b :: r=>
   have h2:2≤(a :: b :: r).length:=by simp only [a₆];omega
   rw [qP f h2,qP g h2]
   have:=xH h2
   rw [lf f g _ (by rw [a₅];omega) (by rw [a₅];omega),lf f g _ (by rw [a₂];omega) (by rw [a₂];omega)]
theorem wh {l:List (List UInt8)} (h:2≤l.length):ee l=gP (1 :: (ee (l.take (hlf l.length)) ++ ee (l.drop (hlf l.length)))):=by
 obtain⟨f,hf⟩: ∃f,l.length=f + 1:=⟨l.length - 1,om⟩
 have:=xH h;unfold ee;rw [hf,qP f h];rw [lf f (l.take (hlf l.length)).length _ (by rw [a₅];omega) (a₉ _),lf f (l.drop (hlf l.length)).length _ (by rw [a₂];omega) (a₉ _),← hf]
theorem fQ (l:List (List UInt8)):(ee l).length=32:=ER _ _
theorem cut_take {α:Type} (f:α→MV) (l:List α) (k:Nat):cutL (l.map f) 0 k=(l.take k).map f:=by simp [cutL,List.map_take]
theorem dN {α:Type} (f:α→MV) (l:List α) (k:Nat):cutL (l.map f) k l.length=(l.drop k).map f:=by
 unfold cutL;rw [b₁ (by rw [a₂,c₁];omega),List.map_drop]
theorem pK: ∀(l:List (List UInt8)),aY (l.map bk) 1=true
 | [] =>rfl
 | _ :: _=>rfl
theorem gM {l:List (List UInt8)} {k:Nat} (hk:k < l.length):bF (l.map bk) l.length (k:Int)=some (bk l[k]):=cO hk (by simp [hk])
theorem sE: ∀(f:Nat) (l:List (List UInt8)),l.length≤f→l.length < 1000000→(∀b∈l,b.length < 300000000)→aE Tryz.prog G 114 [.sl l.length (l.map bk)] (keyM (ee l)):=by
 intro f
 induction f with
 | zero=>
  intro l hl _ _;obtain rfl:=b₄.1 (by omega:l.length=0);have c1:=mj (G:=G) [] sm;refine bA seat Tryz.func114 27 ?_;refine aa ?_;refine dL (c1) ?_;refine au ?_;rfl
 | succ f ih=>
  intro l hl hn hb
  match hh:l with
  | [] =>
   have c1:=mj (G:=G) [] sm;refine bA seat Tryz.func114 27 ?_;refine aa ?_;refine dL (c1) ?_;refine au ?_;rfl
  | [b] =>
   have c1:=J5 (G:=G) b (by have:=hb b sm;omega);refine bA seat Tryz.func114 27 ?_;refine aa ?_;refine dL (c1) ?_;refine au ?_;rfl
  | a :: b :: r=>
   rw [← hh] at hl hn hb ⊢;have h2:2≤l.length:=by rw [hh];simp only [a₆];omega
   clear hh;obtain⟨k1,k2⟩:=xH h2;have ch:=L9 (G:=G) l.length om om;have c1:=ih (l.take (hlf l.length)) (by rw [a₅];omega) (by rw [a₅];omega) fun x hx=>hb x (d₁ hx)
   have c2:=ih (l.drop (hlf l.length)) (by rw [a₂];omega) (by rw [a₂];omega) fun x hx=>hb x (d₂ hx)
   have c3:=Hm (G:=G) (ee (l.take (hlf l.length))) (ee (l.drop (hlf l.length))) (fQ _) (fQ _);rw [wh h2];rw [a₅,e₁ om,← cut_take] at c1;rw [a₂,← dN] at c2;generalize hlf l.length=k at *;refine bA seat Tryz.func114 27 ?_;refine aa ?_;refine ad rfl ?_ ?_ <;> intro h
   ·exfalso;have:(l.length:Int)=0:=by simpa using h
    omega
   refine aa ?_;refine ad rfl ?_ ?_ <;> intro h
   ·exfalso;have:(l.length:Int)=1:=by simpa using h
    omega
   refine aa ?_;refine dL (ch) ?_;refine al [ae 0,ae 1,ae 2,dj 3,ae 4,ae 5,ae 6,dj 7,dj 8,ae 9] ?_;(have fct:=aj.mk (jo (κ:= .i64) (c₇ k2));have fct:=aj.mk (fW (κ:= .i64) (c₇ k2));have fct:=bE.mk (pK l);refine aa ?_);refine cW (c1) ?_;refine cW (c2) ?_;refine cW (c3) ?_;refine au ?_;rfl
end
section
variable {G:GS}
attribute [local irreducible] ak aB aD aI aN vC aW aw
theorem J6 {n:Nat} (h0:0 < n) (h1:n < 32):IntKind.u64.wrap (0 - (n:Int))=((18446744073709551616 - n:Nat):Int):=by rw [wu64];omega
theorem NS {n:Nat} (h0:0 < n) (h1:n < 32):IntKind.u64.wrap ((BitVec.ofInt IntKind.u64.bits ((18446744073709551616 - n:Nat):Int) &&& BitVec.ofInt IntKind.u64.bits (31:Int)).toNat:Int)=((32 - n:Nat):Int):=by
 have e:(18446744073709551616 - n) &&& 31=32 - n:=by
  have:=Nat.and_two_pow_sub_one_eq_mod (18446744073709551616 - n) 5;rw [show (2 ^ 5 - 1:Nat)=31 by rfl] at this;rw [this];omega
 rw [BitVec.toNat_and,eU _ _ (show 18446744073709551616 - n < 2 ^ IntKind.u64.bits by show _ < 18446744073709551616;omega),show (BitVec.ofInt IntKind.u64.bits (31:Int)).toNat=31 by rfl,e,wu64];omega
theorem NT {n:Nat} (h0:0 < n) (h1:n < 32):IntKind.u64.wrap (32 - ((32 - n:Nat):Int))=(n:Int):=by rw [wu64];omega
theorem NU (x:UInt32) (n:Nat) (h0:0 < n) (h1:n < 32):aE Tryz.prog G 274 [dZ x, .int .i64 (0 - (n:Int))] (dZ (gQ x n)):=by
 have e:gQ x n=(x <<< UInt32.ofNat (32 - n)) ||| (x >>> UInt32.ofNat n):=by unfold gQ;rw [UInt32.or_comm]
 refine bA seat Tryz.func274 17 ?_;(have fct:=aU.mk (J6 h0 h1);have fct:=aU.mk (NS h0 h1);have fct:=aU.mk (NT h0 h1);have fct:=aU.mk (Hb x (32 - n) om);have fct:=aU.mk (ug x n h1);refine JX ?_);refine au ?_;exact congrArg dZ e.symm
theorem gh (x:UInt32) (n:Nat) (h0:0 < n) (h1:n < 32):aE Tryz.prog G 254 [dZ x, .int .i64 n] (dZ (gQ x n)):=by
 have c1:=NU (G:=G) x n h0 h1;refine bA seat Tryz.func254 9 ?_;refine aa ?_;refine dL (c1) ?_;refine au ?_;rfl
def nO (n:Nat):Nat:=if n=0 then 0 else n.log2 + 1
theorem Hn {l:List UInt8} (hl:l=(b₇ 256).map fun i=>UInt8.ofNat (nO i)) {j:Nat} (hj:j < 256):yE l (j:Int)=some (UInt8.ofNat (nO j)):=by
 subst hl;unfold yE;rw [if_pos om];simp [hj]
theorem oi {n:Nat} (h:0 < n): ∃k,nO n=k + 1∧2 ^ k≤n∧n < 2 ^ (k + 1):=⟨n.log2,by unfold nO;rw [if_neg om],Nat.log2_self_le om,Nat.lt_log2_self⟩
theorem rQ {n:Nat} (h:n < 256):nO n≤8:=by
 rcases Nat.eq_zero_or_pos n with rfl | h0
 ·decide
 ·obtain⟨k,h1,h2,_⟩:=oi h0;rw [h1];rcases c₃ k 8 with h3 | h3
  ·omega
  ·have:2 ^ 8≤2 ^ k:=b₂ om h3;omega
theorem J7 (m:Nat):((m:Int).fdiv (2 ^ (min (8:Int).toNat IntKind.u64.bits)))=((m / 256:Nat):Int):=by
 rw [show min (8:Int).toNat IntKind.u64.bits=8 by rfl,b₈ _ (by decide)];exact(b₉ m 256).symm
theorem J8 (x:Nat) (h0:0 < x) (hx:x < 65536): ∃k,2 ^ k≤x∧x < 2 ^ (k + 1)∧aE Tryz.prog G 189 [.int .u64 x] (.int .i64 ((k + 1:Nat):Int)):=by
 by_cases hs:x < 256
 ·obtain⟨k,hk,h1,h2⟩:=oi h0;have hy:x < 256:=hs;have hb:=rQ hs;refine⟨k,h1,h2,?_⟩;rw [← hk];have hn:(UInt8.ofNat (nO x)).toNat=nO x:=jK om;refine bA seat Tryz.func189 25 ?_;refine aa ?_;refine ad rfl ?_ ?_ <;> intro h
  ·exfalso;have:=ot h;omega
  refine aa ?_;refine ad rfl ?_ ?_ <;> intro h
  ·exfalso;have:=ot h;omega
  refine aa ?_;refine ad rfl ?_ ?_ <;> intro h
  ·exfalso;have:=ot h;omega
  refine aa ?_;((with_reducible apply py);(case hq=>exact rfl);(case hv=>exact rfl);(case he=>(intro R hR;(try conv=>whnf);refine⟨_,Hn (by kernel_rfl) hy,?_⟩;exact hR));(case hd=>exact rfl));rw [hn];refine aa ?_;refine au ?_;exact congrArg (MV.int .i64) om
 ·have hd0:0 < x / 256:=om;have hy:x / 256 < 256:=om;obtain⟨k,hk,h1,h2⟩:=oi hd0;have hb:=rQ hy;have p1:2 ^ (k + 8)=2 ^ k * 256:=by rw [Nat.pow_add]
  have p2:2 ^ (k + 8 + 1)=2 ^ (k + 1) * 256:=by rw [show k + 8 + 1=k + 1 + 8 by omega,Nat.pow_add]
  refine⟨k + 8,by rw [p1];omega,by rw [p2];omega,?_⟩;rw [show k + 8 + 1=8 + nO (x / 256) by omega];have hn:(UInt8.ofNat (nO (x / 256))).toNat=nO (x / 256):=jK om;have hsh:=J7 x;generalize x / 256=y at *;refine bA seat Tryz.func189 25 ?_;refine aa ?_;refine ad rfl ?_ ?_ <;> intro h
  ·exfalso;have:=ot h;omega
  refine aa ?_;refine ad rfl ?_ ?_ <;> intro h
  ·exfalso;have:=ot h;omega
  refine aa ?_;refine ad rfl ?_ ?_ <;> intro h
  rotate_left
  ·exfalso;have:=oF h;omega
  (have fct:=aU.mk (hsh);refine aa ?_);((with_reducible apply py);(case hq=>exact rfl);(case hv=>exact rfl);(case he=>(intro R hR;(try conv=>whnf);refine⟨_,Hn (by kernel_rfl) hy,?_⟩;exact hR));(case hd=>exact rfl));rw [hn];refine aa ?_;refine au ?_;exact congrArg (MV.int .i64) om
theorem wi: ∀(f n k:Nat),k < n→1≤k→n≤f + k→∃m,ml f n k=k * 2 ^ m∧k * 2 ^ m < n∧n≤2 * (k * 2 ^ m)
 | 0,n,k,h,h1,hf=>by omega
 | f + 1,n,k,h,h1,hf=>by
  rw [ml]
  split
  ·obtain⟨m,q1,q2,q3⟩:=wi f n (k * 2) om om om
   have e:k * 2 * 2 ^ m=k * 2 ^ (m + 1):=by rw [Nat.pow_succ,Nat.mul_assoc,Nat.mul_comm 2]
   rw [e] at q1 q2 q3
   exact⟨m + 1,q1,q2,q3⟩
  ·exact⟨0,sm,by simpa using h,by simp;omega⟩
theorem J9 {n k:Nat} (h2:2≤n) (h1:2 ^ k≤n - 1) (h3:n - 1 < 2 ^ (k + 1)):hlf n=2 ^ k:=by
 obtain⟨m,q1,q2,q3⟩:=wi n n 1 om om om;rw [Nat.one_mul] at q1 q2 q3;unfold hlf;rw [q1];have e:m=k:=by
  rcases Nat.lt_trichotomy m k with h | h | h
  ·have h4:2 ^ (m + 1)≤2 ^ k:=b₂ om h;rw [Nat.pow_succ] at h4;omega
  ·exact h
  ·have h4:2 ^ (k + 1)≤2 ^ m:=b₂ om h;omega
 rw [e]
theorem OV {k:Nat} (h:k < 62):IntKind.i64.wrap (1 * 2 ^ (min (k:Int).toNat IntKind.i64.bits))=((2 ^ k:Nat):Int):=by
 have e:min (k:Int).toNat IntKind.i64.bits=k:=by simp [IntKind.bits];omega
 have h4:2 ^ k≤2 ^ 61:=b₂ om om;have e2:(1 * 2 ^ k:Int)=((2 ^ k:Nat):Int):=by rw [Int.one_mul,c₈];rfl
 rw [e,e2];generalize 2 ^ k=p at *;exact eo _ om om
theorem Ka (n:Nat) (h2:2≤n) (hn:n < 65536):aE Tryz.prog G 173 [.int .i64 n] (.int .i64 (hlf n)):=by
 obtain⟨k,h1,h3,c1⟩:=J8 (G:=G) (n - 1) om om;rw [J9 h2 h1 h3];have hk:k < 62:=by
  rcases c₃ k 62 with h | h
  ·exact h
  ·have:2 ^ 62≤2 ^ k:=b₂ om h;omega
 have c2:aE Tryz.prog G 125 [.int .u64 ((n - 1:Nat):Int)] (.int .i64 ((k + 1:Nat):Int)):=by
  refine bA seat Tryz.func125 8 ?_;refine aa ?_;refine dL (c1) ?_;refine au ?_;rfl
 have e:(((k + 1:Nat):Int)) - 1=(k:Int):=om;have hs:=OV hk;refine bA seat Tryz.func173 9 ?_;refine aa ?_;refine yv (c2) ?_;have ew:IntKind.i64.wrap (((k + 1:Nat):Int) - 1)=(k:Int):=(eo _ om om).trans e;(have fct:=aU.mk (ew);have fct:=aU.mk (hs);refine aa ?_);refine au ?_;rfl
end
section
variable {G:GS}
theorem BK (b:List UInt8) (hb:b.length=64):aE Tryz.prog G 252 [.sl 64 (u8s b)] (wsM (nM b 48)):=by
 refine bA seat Tryz.func252 93 ?_;refine aP ?_;refine⟨Nat,fun t=> [(10, .int .i64 t),(3, .ptr 1 64 0 0 []),(2, .ptr 0 64 0 0 []),(0, .sl 64 (u8s b))],fun t=> [(0,⟨233,64,false,0,[wsM (a₃ 64 0)]⟩),(1,⟨233,64,false,0,[wsM (uj b t)]⟩)],2,fun t=>t≤16,fun t=>16 - t,⟨0,om,(vm [(0,_),(1,_)] [])⟩,?_⟩;intro t ht;refine aP ?_;refine⟨fun hc=>?_,fun hc=>?_⟩
 ·have ht':t < 16:=by have:=ot hc;omega
  have hl:=nd b t;refine aP ?_;refine⟨[ae 0,ae 1,ae 2,ae 3,ae 4,ae 5,ae 6,ae 7,ae 8,ae 9,ae 10,ae 11,ae 12,ae 13,ae 14,ae 15,ae 16,ae 17,ae 18,ae 19,ae 20,ae 21,ae 22,ae 23,ae 24,ae 25,ae 26,ae 27,ae 28,ae 29,ae 30,ae 31,ae 32,ae 33,ae 34,ae 35],?_⟩;refine aP ?_;refine⟨_,iA (4 * t) om om (nN om),?_⟩;refine aP ?_;refine⟨_,iA (4 * t + 1) om om (nN om),?_⟩;refine aP ?_;refine⟨_,iA (4 * t + 2) om om (nN om),?_⟩;refine aP ?_;refine⟨_,iA (4 * t + 3) om om (nN om),?_⟩;refine aP ?_;refine⟨_,cE om,?_⟩;refine aP ?_;refine⟨_,xG om _,?_⟩;refine aP ?_;exact⟨t + 1,om,by show 16 - (t + 1) < 16 - t;omega,(vm [(0,_),(1,_)] [])⟩
 ·have ht':t=16:=by have:=oF hc;omega
  subst ht';refine aP ?_;refine⟨Nat,fun t=> [(5, .int .i64 ((16 + t:Nat):Int)),(3, .ptr 1 64 0 0 []),(2, .ptr 0 64 0 0 [])],fun t=> [(0,⟨233,64,false,0,[wsM (a₃ 64 0)]⟩),(1,⟨233,64,false,0,[wsM (nM b t)]⟩)],2,fun t=>t≤48,fun t=>48 - t,⟨0,om,(vm [(0,_),(1,_)] [])⟩,?_⟩;intro t ht;refine aP ?_;refine⟨fun hc=>?_,fun hc=>?_⟩
  ·have ht':t < 48:=by have:=ot hc;omega
   have hl:=kv b t;refine aP ?_;refine⟨[ae 0,ae 1,ae 2,ae 3,ae 4,ae 5,ae 6,ae 7,ae 8,ae 9],?_⟩;refine aP ?_;refine⟨_,gy (16 + t - 15) om om,?_⟩;refine aP ?_;refine⟨_,iK om,?_⟩;refine aP ?_;refine⟨_,gy (16 + t - 2) om om,?_⟩;refine aP ?_;refine⟨_,iK om,?_⟩;refine aP ?_;refine .inl ⟨_,gh _ 7 om om,?_⟩;refine aP ?_;refine .inl ⟨_,gh _ 18 om om,?_⟩;refine aP ?_;refine .inl ⟨_,gh _ 17 om om,?_⟩;refine aP ?_;refine .inl ⟨_,gh _ 19 om om,?_⟩;refine aP ?_;refine⟨[ae 0,ae 1,ae 2,ae 3,ae 4,ae 5,ae 6,ae 7,ae 8,ae 9,ae 10,ae 11,ae 12,ae 13,ae 14,ae 15],?_⟩;refine aP ?_;refine⟨_,gy (16 + t - 7) om om,?_⟩;refine aP ?_;refine⟨_,iK om,?_⟩;refine aP ?_;refine⟨_,gy (16 + t - 16) om om,?_⟩;refine aP ?_;refine⟨_,iK om,?_⟩;refine aP ?_;refine⟨_,gy (16 + t) om om,?_⟩;refine aP ?_;refine⟨_,xG om _,?_⟩;refine aP ?_;exact⟨t + 1,by show t + 1≤48;omega,by show 48 - (t + 1) < 48 - t;omega,(vm [(0,_),(1,_)] [])⟩
  ·have ht':t=48:=by have:=oF hc;omega
   subst ht';refine aP ?_;rfl
set_option maxRecDepth 40000 in
theorem Ho:aQ Tryz.prog G 253 [] [] 0 (.ptr 0 64 0 0 []) [(0,⟨233,64,false,0,[wsM kL]⟩)] 1:=by
 refine dw seat Tryz.func253 3 ?_;refine aa ?_;exact eb [_] [(0,2)] []
set_option maxRecDepth 40000 in
theorem begin_m:aE Tryz.prog G 207 [] fX.toM:=by
 refine bA seat Tryz.func207 2 ?_;refine aa ?_;refine au ?_;rfl
def BL (k w:UInt32) (s:W8):W8:=⟨J1 k w s + (gQ s.a 2 ^^^ gQ s.a 13 ^^^ gQ s.a 22) + (s.a &&& s.b ^^^ s.a &&& s.c ^^^ s.b &&& s.c),s.a,s.b,s.c,s.d + J1 k w s,s.e,s.f,s.g⟩
theorem ES (k w:UInt32) (s:W8):BJ k w s=BL k w s:=by
 unfold BJ BL NQ;rw [UInt32.add_assoc]
theorem zU (h:W8) (b:List UInt8) (hb:b.length=64):aE Tryz.prog G 208 [h.toM, .sl 64 (u8s b)] (oh h b).toM:=by
 have c1:=BK (G:=G) b hb;have hl:=kv b 48;have hk:kL.length=64:=rfl;have c2:=Ho (G:=G);unfold oh;generalize nM b 48=ws at *;generalize kL=kl at *;refine bA seat Tryz.func208 119 ?_;refine JX ?_;refine yv (c1) ?_;refine JX ?_;refine yc (c2) [] ?_;refine JX ?_;refine⟨Nat,fun t=> [(21, .int .i64 t),(7, .ptr 4 8 0 0 []),(6, .ptr 3 64 0 0 []),(5, .ptr 2 64 0 0 []),(4, .ptr 1 8 0 0 []),(2, .ptr 0 8 0 0 [])],fun t=> [(0,⟨262,8,false,0,[h.toM]⟩),(1,⟨262,8,false,0,[W8.toM ⟨0,0,0,0,0,0,0,0⟩]⟩),(2,⟨233,64,false,0,[wsM ws]⟩),(3,⟨233,64,false,0,[wsM kl]⟩),(4,⟨262,8,false,0,[(jq kl ws h t).toM]⟩)],5,fun t=>t≤64,fun t=>64 - t,⟨0,om,(vm [(0,0),(1,1),(2,4),(3,3),(4,8)] [])⟩,?_⟩;intro t ht;refine aP ?_;refine⟨fun hc=>?_,fun hc=>?_⟩
 ·have ht':t < 64:=by have:=ot hc;omega
  have hr:jq kl ws h (t + 1)=BL (kl.getD t 0) (ws.getD t 0) (jq kl ws h t):=ES _ _ _;dsimp only;generalize jq kl ws h t=s at *;refine aP ?_;refine⟨[ae 0,ae 1,ae 2,ae 3,ae 4,ae 5],?_⟩;refine aP ?_;refine .inl ⟨_,gh _ 6 om om,?_⟩;refine aP ?_;refine .inl ⟨_,gh _ 11 om om,?_⟩;refine aP ?_;refine .inl ⟨_,gh _ 25 om om,?_⟩;refine aP ?_;refine⟨[ae 0,ae 1,ae 2,ae 3,ae 4,ae 5,ae 6,ae 7,ae 8,ae 9,ae 10,ae 11,ae 12,ae 13,ae 14,ae 15,ae 16],?_⟩;refine aP ?_;refine⟨_,cE om,?_⟩;refine aP ?_;refine⟨_,iK om,?_⟩;refine aP ?_;refine⟨_,cE om,?_⟩;refine aP ?_;refine⟨_,iK om,?_⟩;refine aP ?_;refine .inl ⟨_,gh _ 2 om om,?_⟩;refine aP ?_;refine .inl ⟨_,gh _ 13 om om,?_⟩;refine aP ?_;refine .inl ⟨_,gh _ 22 om om,?_⟩;refine aP ?_;exact⟨t + 1,by show t + 1≤64;omega,by show 64 - (t + 1) < 64 - t;omega,(by dsimp only;rw [hr];exact(vm [(0,_),(1,_),(2,_),(3,_),(4,_)] []))⟩
 ·have ht':t=64:=by have:=oF hc;omega
  subst ht';dsimp only;generalize jq kl ws h 64=s at *;refine aP ?_;refine⟨Nat,fun i=> [(106, .int .i64 i),(7, .ptr 2 8 0 0 []),(4, .ptr 1 8 0 0 []),(2, .ptr 0 8 0 0 [])],fun i=> [(0,⟨262,8,false,0,[(EN h s i).toM]⟩),(1,⟨262,8,false,0,[W8.toM ⟨0,0,0,0,0,0,0,0⟩]⟩),(2,⟨262,8,false,0,[s.toM]⟩)],3,fun i=>i≤8,fun i=>8 - i,⟨0,om,(vm [(0,0),(1,1),(2,4)] [])⟩,?_⟩;intro i hi;refine aP ?_;refine⟨fun hc=>?_,fun hc=>?_⟩
  ·have hi':i < 8:=by have:=ot hc;omega
   refine aP ?_;refine⟨[ae 0,ae 1,ae 2,ae 3,ae 4,ae 5,ae 6,ae 7,ae 8],?_⟩;refine aP ?_;refine⟨_,cE om,?_⟩;refine aP ?_;refine⟨_,Hk _ hi',?_⟩;refine aP ?_;refine⟨_,cE om,?_⟩;refine aP ?_;refine⟨_,Hk _ hi',?_⟩;refine aP ?_;refine⟨_,cE om,?_⟩;refine aP ?_;refine⟨_,NR h s hi',?_⟩;refine aP ?_;exact⟨i + 1,by show i + 1≤8;omega,by show 8 - (i + 1) < 8 - i;omega,(vm [(0,_),(1,_),(2,_)] [])⟩
  ·have hi':i=8:=by have:=oF hc;omega
   subst hi';refine aP ?_;rfl
end
section
variable {G:GS}
attribute [local irreducible] ak aB aD aI aN vC aW aw
theorem oo (s:W8) (m b:List UInt8): ∀q,64 * q≤m.length→absorb s (m ++ b) q=absorb s m q
 | 0,_=>rfl
 | q + 1,h=>by
  rw [absorb,absorb,oo s m b q om]
  congr 1
  rw [b₆ om,List.take_append_of_le_length (by rw [a₂];omega)]
def Kb (m:List UInt8):MV:= .st [(absorb fX m (m.length / 64)).toM, .sl (m.length % 64) (u8s (m.drop (64 * (m.length / 64)))), .int .i64 m.length]
def qQ (m:List UInt8):VM:= [(0,⟨265,10,false,0,[Kb m]⟩)]
abbrev digP:MV:= .ptr 0 10 0 0 []
set_option maxRecDepth 40000 in
theorem Hp:aQ Tryz.prog G 149 [] [] 0 digP (qQ []) 1:=by
 unfold qQ Kb;refine dw seat Tryz.func149 4 ?_;refine aa ?_;refine dL (begin_m) ?_;refine⟨[_],[(0,2)],[],rfl,rfl,trivial,rfl,⟨?_,trivial⟩,?_⟩
 ·exact rv
 ·exact⟨.inr ⟨_,_,rfl,rfl,rfl,rfl, .inl rfl, .inl rfl, .inr ⟨.inr ⟨_,rfl,⟨rfl,rfl⟩, .inr ⟨rfl,rfl⟩,⟨rfl,rfl⟩,trivial⟩,trivial⟩⟩,trivial⟩
theorem Kc (m b:List UInt8) (hm:m.length + b.length < 1000000000):aQ Tryz.prog G 150 [digP, .sl b.length (u8s b)] (qQ m) 1 (.tup []) (qQ (m ++ b)) 1:=by
 have hq:64 * (m.length / 64)≤m.length:=om;have hz:m.drop (64 * (m.length / 64)) ++ b=(m ++ b).drop (64 * (m.length / 64)):=(b₆ hq).symm;have hl0:(m.drop (64 * (m.length / 64))).length=m.length % 64:=by rw [a₂];omega
 have hab:=oo fX m b (m.length / 64) hq;have hlen:(m ++ b).length=m.length + b.length:=a₀;unfold qQ Kb;rw [← hab];generalize hM:m ++ b=M at *;generalize hqq:m.length / 64=q at *;generalize hr0:m.drop (64 * q)=r0 at *;rw [← hl0];refine dw seat Tryz.func150 43 ?_;refine aa ?_;refine aL rfl rfl (by intro R hR;refine cI hR ?_;refine a₁ (bP r0) ?_;refine a₁ (pD (by kernel_rfl) om) ?_;exact hR) rfl ?_;refine aa ?_;have hw0:(M.drop (64 * q)).length=r0.length + b.length:=by rw [← hz,a₀]
 refine aL rfl rfl (by intro R hR;refine cI hR ?_;refine a₁ (bP b) ?_;refine a₁ ⟨(by simp [u8s]),ai (by kernel_rfl) pf⟩ ?_;refine⟨u8s (M.drop (64 * q)),sv (by rw [← hz];simp [u8s]),(M.drop (64 * q)).length,sv pf,?_⟩;exact hR) rfl ?_;refine aa ?_;refine av Nat (fun k=> [(4, .sl (M.drop (64 * (q + k))).length (u8s (M.drop (64 * (q + k))))),(0,digP)]) (fun k=> [(0,⟨265,10,false,0,[.st [(absorb fX M (q + k)).toM, .sl r0.length (u8s r0), .int .i64 M.length]]⟩)]) 1 (fun k=>64 * (q + k)≤M.length) (fun k=>M.length - k) 0 om ?_ ?_
 ·rw [Nat.add_zero,hlen,Int.natCast_add];exact(vm [] [(19,(M.drop (64 * q)).length)])
 intro k hk;try dsimp only
 have hwl:(M.drop (64 * (q + k))).length=M.length - 64 * (q + k):=a₂;have hnext:(M.drop (64 * (q + k))).drop 64=M.drop (64 * (q + (k + 1))):=by rw [d₀,show 64 * (q + k) + 64=64 * (q + (k + 1)) by omega]
 have habs:absorb fX M (q + (k + 1))=oh (absorb fX M (q + k)) ((M.drop (64 * (q + k))).take 64):=rfl;by_cases hlast:64≤M.length - 64 * (q + k)
 ·generalize absorb fX M (q + k)=S at *;generalize hw:M.drop (64 * (q + k))=w at *;have hb1:dz w.length none (some (.int .i64 64))=some (0,64):=jo (k:=64) om;have hb2:dz w.length (some (.int .i64 64)) none=some (64,w.length):=fW (k:=64) om;have hc1:cutL (u8s w) 0 64=u8s (w.take 64):=by rw [cut_u8,c₉]
  have hc2:cutL (u8s w) 64 w.length=u8s (w.drop 64):=by rw [cut_u8,b₁ (by rw [a₂];omega)]
  have hc3:w.length - 64=(w.drop 64).length:=List.length_drop.symm;have c1:=zU (G:=G) S (w.take 64) (by rw [a₅];omega);refine aa ?_;refine ad rfl ?_ ?_ <;> intro h
  rotate_left
  ·exfalso;have:=oF h;omega
  refine aa ?_;refine al [ae 0,ae 1,ae 2,ae 3,ae 4,ae 5,ae 6,dj 7,ae 8,ae 9,ae 10] ?_;(have fct:=aj.mk (hb1);have fct:=aj.mk (hb2);have fct:=aU.mk (hc1);have fct:=aU.mk (hc2);have fct:=aU.mk (hc3);have fct:=bE.mk (bP w);refine aa ?_);refine OT (c1) ?_;(have fct:=aj.mk (hb1);have fct:=aj.mk (hb2);have fct:=aU.mk (hc1);have fct:=aU.mk (hc2);have fct:=aU.mk (hc3);have fct:=bE.mk (bP w);refine aa ?_);exact⟨k + 1,by show 64 * (q + (k + 1))≤M.length;omega,by show M.length - (k + 1) < M.length - k;omega,(by dsimp only;rw [← hnext,habs];exact(vm [] []))⟩
 ·have e1:M.length / 64=q + k:=om;have e2:M.length % 64=(M.drop (64 * (q + k))).length:=om;rw [e1,e2];generalize absorb fX M (q + k)=S at *;generalize hw:M.drop (64 * (q + k))=w at *;refine aa ?_;refine ad rfl ?_ ?_ <;> intro h
  ·exfalso;have:=ot h;omega
  refine aa ?_;refine aL rfl rfl (by intro R hR;refine cI hR ?_;refine a₁ (bP w) ?_;refine a₁ (pD (by kernel_rfl) om) ?_;exact hR) rfl ?_;refine aa ?_;refine⟨[],[],[(6,w.length)],rfl,rfl,?_,rfl,trivial,?_⟩
  ·exact⟨by show w.length≤(u8s w).length;simp [u8s],trivial⟩
  ·exact⟨.inr ⟨_,_,rfl,rfl,rfl,rfl, .inl rfl, .inl rfl, .inr ⟨.inr ⟨_,rfl,⟨rfl,rfl⟩, .inr ⟨rfl,rfl,rfl,d₅ (d₆ _),bc _ _⟩,⟨rfl,rfl⟩,trivial⟩,trivial⟩⟩,trivial⟩
theorem NV (n:Nat):(n:Int).tmod 64=((n % 64:Nat):Int):=rfl
theorem OW (n k:Nat) (hk:k < 8):IntKind.u8.wrap (((n:Nat):Int).fdiv (2 ^ (min (56 - 8 * (k:Int)).toNat IntKind.u64.bits)))=((byteAt n k).toNat:Int):=by
 have e:min (56 - 8 * (k:Int)).toNat IntKind.u64.bits=8 * (7 - k):=by simp [IntKind.bits];omega
 rw [e,b₈ _ (Int.le_of_lt (Int.pow_pos om)),w8,byteAt,UInt8.toNat_ofNat'];have e3:(2:Int) ^ (8 * (7 - k))=((2 ^ (8 * (7 - k)):Nat):Int):=by rw [c₈];rfl
 rw [e3,← b₉];exact(c₆ _ 256).symm
theorem Hq (m:List UInt8) (q:Nat) (hq:64 * q≤m.length):(nF m).drop (64 * q)=m.drop (64 * q) ++ [128] ++ a₃ (gO m.length) 0 ++ Hl (8 * m.length):=by
 unfold nF;rw [a₄,a₄,b₆ hq,← a₄,← a₄]
theorem BM (m:List UInt8) (q:Nat) (hq:64 * q≤m.length):absorb fX (nF m) q=absorb fX m q:=by
 unfold nF;rw [a₄,a₄];exact oo _ _ _ _ hq
theorem OX (S:W8) {i:Nat} (h:i < 8):bF [dZ S.a,dZ S.b,dZ S.c,dZ S.d,dZ S.e,dZ S.f,dZ S.g,dZ S.h] 8 (i:Int)=some (dZ (S.nth i)):=by
 have h8:i=0∨i=1∨i=2∨i=3∨i=4∨i=5∨i=6∨i=7:=om;rcases h8 with rfl | rfl | rfl | rfl | rfl | rfl | rfl | rfl <;> rfl
theorem OY (S:W8) (i:Nat):si S (4 * (i + 1))=((((si S (4 * i)).set (4 * i) (S.nth i >>> UInt32.ofNat 24).toUInt8).set (4 * i + 1) (S.nth i >>> UInt32.ofNat 16).toUInt8).set (4 * i + 2) (S.nth i >>> UInt32.ofNat 8).toUInt8).set (4 * i + 3) (S.nth i).toUInt8:=by
 have e:si S (4 * (i + 1))=((((si S (4 * i)).set (4 * i) (wg S (4 * i))).set (4 * i + 1) (wg S (4 * i + 1))).set (4 * i + 2) (wg S (4 * i + 2))).set (4 * i + 3) (wg S (4 * i + 3)):=rfl;rw [e];unfold wg;rw [show 4 * i / 4=i by omega,show (4 * i + 1) / 4=i by omega,show (4 * i + 2) / 4=i by omega,show (4 * i + 3) / 4=i by omega,show 24 - 4 * i % 4 * 8=24 by omega,show 24 - (4 * i + 1) % 4 * 8=16 by omega,show 24 - (4 * i + 2) % 4 * 8=8 by omega,show 24 - (4 * i + 3) % 4 * 8=0 by omega];rw [show UInt32.ofNat 0=0 by rfl,UInt32.shiftRight_zero]
theorem Hr (m:List UInt8) (hm:m.length < 1000000000):aQ Tryz.prog G 151 [digP] (qQ m) 1 (keyM (gP m)) (qQ m) 1:=by
 have hq:64 * (m.length / 64)≤m.length:=om;have hl0:(m.drop (64 * (m.length / 64))).length=m.length % 64:=by rw [a₂];omega
 have hpd:=Hq m _ hq;have hpa:=BM m _ hq;have hpl:=uk m;have hpv:=zS m;have hp:gO m.length < 64:=by unfold gO;omega
 have hpn:(m.length % 64 + 1 + gO m.length) % 64=56:=by unfold gO;omega
 have hpf: ∀k,k < gO m.length→(m.length % 64 + 1 + k) % 64≠56:=by unfold gO;intro k hk;omega
 unfold qQ Kb gP;rw [← hl0] at hpn hpf ⊢;generalize hqq:m.length / 64=q at *;generalize hr0:m.drop (64 * q)=r0 at *;generalize hpN:gO m.length=pn at *;generalize hP:nF m=P at *;rw [← hpa];refine dw seat Tryz.func151 90 ?_;refine aa ?_;refine aL rfl rfl (by intro R hR;refine cI hR ?_;refine a₁ (bP r0) ?_;refine a₁ (pD (by kernel_rfl) om) ?_;exact hR) rfl ?_;refine aa ?_;refine aL rfl rfl (by intro R hR;refine cI hR ?_;(refine a₁ (a₉ _) ?_;refine⟨_,rfl,?_⟩;refine a₁ ⟨(by simp [u8s]),ai (by kernel_rfl) pf⟩ ?_;refine⟨u8s (r0 ++ [128]),sv (by simp [u8s,setL,repM,cutL]),r0.length + 1,sv pf,?_⟩);exact hR) rfl ?_;refine aa ?_;have hTl:r0.length + 1 + pn + 8=(P.drop (64 * q)).length:=by rw [hpd];simp [Hl];omega
 refine av Nat (fun k=> [(4, .ms 3 1 0 (r0.length + 1 + k)),(3, .ptr 2 32 0 0 []),(2, .ptr 1 32 0 0 []),(0,digP)]) (fun k=> [(0,⟨265,10,false,0,[.st [(absorb fX P q).toM, .sl r0.length (u8s r0), .int .i64 m.length]]⟩),(1,⟨68,32,false,0,[keyM (a₃ 32 0)]⟩),(2,⟨68,32,false,0,[keyM (a₃ 32 0)]⟩),(3,⟨5,1,true,0,u8s (r0 ++ [128] ++ a₃ k 0)⟩)]) 4 (fun k=>k≤pn) (fun k=>pn - k) 0 (a₈ _) (vm [(1,_),(2,_),(3,_)] []) ?_;intro k hk;try dsimp only
 (have fct:=aU.mk (NV (r0.length + 1 + k));refine aa ?_);refine ad rfl ?_ ?_ <;> intro h
 ·have hk':k < pn:=by
   have h1:(((r0.length + 1 + k) % 64:Nat):Int)≠56:=by simpa using h
   rcases c₃ k pn with h2 | h2
   ·exact h2
   ·have:k=pn:=om;subst this;rw [hpn] at h1;exact absurd rfl h1
  refine aa ?_;refine aL rfl rfl (by intro R hR;refine cI hR ?_;(refine a₁ (a₉ _) ?_;refine⟨_,rfl,?_⟩;refine a₁ ⟨pf,ai (by kernel_rfl) pf⟩ ?_;refine⟨u8s (r0 ++ [128] ++ a₃ (k + 1) 0),sv pf,r0.length + 1 + (k + 1),sv pf,?_⟩);exact hR) rfl ?_;refine aa ?_;exact⟨k + 1,by show k + 1≤pn;omega,by show pn - (k + 1) < pn - k;omega,(by dsimp only;exact(vm [(1,_),(2,_),(3,_)] []))⟩
 ·have hk':k=pn:=by
   have h1:(((r0.length + 1 + k) % 64:Nat):Int)=56:=by simpa using h
   rcases c₃ k pn with h2 | h2
   ·have:=hpf k h2;omega
   ·omega
  subst hk';refine aa ?_;refine av Nat (fun j=> [(6, .int .i64 (56 - 8 * (j:Int))),(5, .int .u64 ((8 * m.length:Nat):Int)),(4, .ms 3 1 0 (r0.length + 1 + k + j)),(3, .ptr 2 32 0 0 []),(2, .ptr 1 32 0 0 []),(0,digP)]) (fun j=> [(0,⟨265,10,false,0,[.st [(absorb fX P q).toM, .sl r0.length (u8s r0), .int .i64 m.length]]⟩),(1,⟨68,32,false,0,[keyM (a₃ 32 0)]⟩),(2,⟨68,32,false,0,[keyM (a₃ 32 0)]⟩),(3,⟨5,1,true,0,u8s (r0 ++ [128] ++ a₃ k 0 ++ (b₇ j).map (byteAt (8 * m.length)))⟩)]) 4 (fun j=>j≤8) (fun j=>8 - j) 0 (a₈ _) (by rw [List.range_zero,List.map_nil,c₄];exact(vm [(1,_),(2,_),(3,_)] [])) ?_;intro j hj;try dsimp only
  refine aa ?_;refine ad rfl ?_ ?_ <;> intro h
  ·have hj':j < 8:=by have:=ot h;omega
   (have fct:=aU.mk (OW (8 * m.length) j hj');refine aa ?_);refine aL rfl rfl (by intro R hR;refine cI hR ?_;(refine a₁ (a₉ _) ?_;refine⟨_,rfl,?_⟩;refine a₁ ⟨pf,ai (by kernel_rfl) pf⟩ ?_;refine⟨u8s (r0 ++ [128] ++ a₃ k 0 ++ (b₇ (j + 1)).map (byteAt (8 * m.length))),sv pf,r0.length + 1 + k + (j + 1),sv pf,?_⟩);exact hR) rfl ?_;refine aa ?_;exact⟨j + 1,by show j + 1≤8;omega,by show 8 - (j + 1) < 8 - j;omega,(by dsimp only;exact(vm [(1,_),(2,_),(3,_)] []))⟩
  ·have hj':j=8:=by have:=oF h;omega
   subst hj';have hbe:(b₇ 8).map (byteAt (8 * m.length))=Hl (8 * m.length):=rfl;rw [hbe,← hpd,hTl];refine aa ?_;refine av Nat (fun k=> [(7, .ptr 3 8 0 0 []),(4, .sl (P.drop (64 * (q + k))).length (u8s (P.drop (64 * (q + k))))),(3, .ptr 2 32 0 0 []),(2, .ptr 1 32 0 0 []),(0,digP)]) (fun k=> [(0,⟨265,10,false,0,[.st [(absorb fX P q).toM, .sl r0.length (u8s r0), .int .i64 m.length]]⟩),(1,⟨68,32,false,0,[keyM (a₃ 32 0)]⟩),(2,⟨68,32,false,0,[keyM (a₃ 32 0)]⟩),(3,⟨262,8,false,0,[(absorb fX P (q + k)).toM]⟩)]) 4 (fun k=>64 * (q + k)≤P.length) (fun k=>P.length - k) 0 om (by rw [Nat.add_zero];exact(vm [(1,_),(2,_),(3,_)] [(3,(P.drop (64 * q)).length)])) ?_;intro k hk;try dsimp only
   have hwl:(P.drop (64 * (q + k))).length=P.length - 64 * (q + k):=a₂;have hnext:(P.drop (64 * (q + k))).drop 64=P.drop (64 * (q + (k + 1))):=by rw [d₀,show 64 * (q + k) + 64=64 * (q + (k + 1)) by omega]
   have habs:absorb fX P (q + (k + 1))=oh (absorb fX P (q + k)) ((P.drop (64 * (q + k))).take 64):=rfl;by_cases hlast:64 * (q + k) < P.length
   ·generalize absorb fX P (q + k)=S at *;generalize hw:P.drop (64 * (q + k))=w at *;have hb1:dz w.length none (some (.int .i64 64))=some (0,64):=jo (k:=64) om;have hb2:dz w.length (some (.int .i64 64)) none=some (64,w.length):=fW (k:=64) om;have hc1:cutL (u8s w) 0 64=u8s (w.take 64):=by rw [cut_u8,c₉]
    have hc2:cutL (u8s w) 64 w.length=u8s (w.drop 64):=by rw [cut_u8,b₁ (by rw [a₂];omega)]
    have hc3:w.length - 64=(w.drop 64).length:=List.length_drop.symm;have c1:=zU (G:=G) S (w.take 64) (by rw [a₅];omega);refine aa ?_;refine ad rfl ?_ ?_ <;> intro h
    rotate_left
    ·exfalso;have:=oF h;omega
    refine aa ?_;refine al [ae 0,ae 1,ae 2,dj 3,ae 4] ?_;(have fct:=aj.mk (hb1);have fct:=aj.mk (hb2);have fct:=aU.mk (hc1);have fct:=aU.mk (hc2);have fct:=aU.mk (hc3);have fct:=bE.mk (bP w);refine aa ?_);refine OT (c1) ?_;(have fct:=aj.mk (hb1);have fct:=aj.mk (hb2);have fct:=aU.mk (hc1);have fct:=aU.mk (hc2);have fct:=aU.mk (hc3);have fct:=bE.mk (bP w);refine aa ?_);exact⟨k + 1,by show 64 * (q + (k + 1))≤P.length;omega,by show P.length - (k + 1) < P.length - k;omega,(by dsimp only;rw [← hnext,habs];exact(vm [(1,_),(2,_),(3,_)] []))⟩
   ·have e1:P.length / 64=q + k:=om;rw [e1];generalize absorb fX P (q + k)=S at *;generalize hw:P.drop (64 * (q + k))=w at *;refine aa ?_;refine ad rfl ?_ ?_ <;> intro h
    ·exfalso;have:=ot h;omega
    refine aa ?_;refine av Nat (fun i=> [(58, .int .i64 i),(57,S.toM),(3, .ptr 2 32 0 0 []),(2, .ptr 1 32 0 0 []),(0,digP)]) (fun i=> [(0,⟨265,10,false,0,[.st [(absorb fX P q).toM, .sl r0.length (u8s r0), .int .i64 m.length]]⟩),(1,⟨68,32,false,0,[keyM (a₃ 32 0)]⟩),(2,⟨68,32,false,0,[keyM (si S (4 * i))]⟩)]) 3 (fun i=>i≤8) (fun i=>8 - i) 0 (a₈ _) (vm [(1,_),(2,_)] []) ?_;intro i hi;try dsimp only
    refine aa ?_;refine ad rfl ?_ ?_ <;> intro h
    ·have hi':i < 8:=by have:=ot h;omega
     have hix:bF [dZ S.a,dZ S.b,dZ S.c,dZ S.d,dZ S.e,dZ S.f,dZ S.g,dZ S.h] 8 (i:Int)=some (dZ (S.nth i)):=OX S hi';have hol:=pI S (4 * i);have hout:=OY S i;generalize S.nth i=x at *;generalize si S (4 * i)=ok at *;have s24:(x.toNat:Int).fdiv (2 ^ (min (24:Int).toNat IntKind.u32.bits))=((x >>> UInt32.ofNat 24).toNat:Int):=ug x 24 om;have s16:(x.toNat:Int).fdiv (2 ^ (min (16:Int).toNat IntKind.u32.bits))=((x >>> UInt32.ofNat 16).toNat:Int):=ug x 16 om;have s8:(x.toNat:Int).fdiv (2 ^ (min (8:Int).toNat IntKind.u32.bits))=((x >>> UInt32.ofNat 8).toNat:Int):=ug x 8 om;have v24:=iY (x >>> UInt32.ofNat 24);have v16:=iY (x >>> UInt32.ofNat 16);have v8:=iY (x >>> UInt32.ofNat 8);have v0:=iY x;generalize (x >>> UInt32.ofNat 24)=y24 at *;generalize (x >>> UInt32.ofNat 16)=y16 at *;generalize (x >>> UInt32.ofNat 8)=y8 at *;have j0:A4 32 (4 * (i:Int))=some (4 * i):=gy (4 * i) om om;have j1:A4 32 (4 * (i:Int) + 1)=some (4 * i + 1):=gy (4 * i + 1) om om;have j2:A4 32 (4 * (i:Int) + 2)=some (4 * i + 2):=gy (4 * i + 2) om om;have j3:A4 32 (4 * (i:Int) + 3)=some (4 * i + 3):=gy (4 * i + 3) om om;have k0:=k9 (k:=ok) (i:=4 * i) om y24.toUInt8;have k1:=k9 (k:=ok.set (4 * i) y24.toUInt8) (i:=4 * i + 1) (by rw [b₅];omega) y16.toUInt8;have k2:=k9 (k:=(ok.set (4 * i) y24.toUInt8).set (4 * i + 1) y16.toUInt8) (i:=4 * i + 2) (by rw [b₅,b₅];omega) y8.toUInt8;have k3:=k9 (k:=((ok.set (4 * i) y24.toUInt8).set (4 * i + 1) y16.toUInt8).set (4 * i + 2) y8.toUInt8) (i:=4 * i + 3) (by rw [b₅,b₅,b₅];omega) x.toUInt8;(have fct:=aj.mk (hix);have fct:=aU.mk (s24);have fct:=aU.mk (s16);have fct:=aU.mk (s8);have fct:=aU.mk (v24);have fct:=aU.mk (v16);have fct:=aU.mk (v8);have fct:=aU.mk (v0);have fct:=aj.mk (j0);have fct:=aj.mk (j1);have fct:=aj.mk (j2);have fct:=aj.mk (j3);have fct:=aj.mk (k0);have fct:=aj.mk (k1);have fct:=aj.mk (k2);have fct:=aj.mk (k3);refine aa ?_);exact⟨i + 1,by show i + 1≤8;omega,by show 8 - (i + 1) < 8 - i;omega,(by dsimp only;rw [hout];exact(vm [(1,_),(2,_)] []))⟩
    ·have hi':i=8:=by have:=oF h;omega
     subst hi';refine aa ?_;refine au ?_;exact en [_]
end
section
variable {G:GS}
attribute [local irreducible] ak aB aD aI aN vC aW aw
theorem nk (m b M:List UInt8) (hM:m ++ b=M) (hm:m.length + b.length < 1000000000):aQ Tryz.prog G 150 [digP, .sl b.length (u8s b)] (qQ m) 1 (.tup []) (qQ M) 1:=by
 subst hM;exact Kc m b hm
theorem xI (b:List UInt8) (hb:b.length < 500000000):aE Tryz.prog G 97 [.sl b.length (u8s b)] (keyM (gP b)):=by
 have c1:=Hp (G:=G);have c2:=nk (G:=G) [] b b rfl (by simp;omega);have c3:=Hr (G:=G) b om;unfold qQ at c1 c2 c3;refine bA seat Tryz.func97 10 ?_;refine aa ?_;refine yc (c1) [] ?_;refine aa ?_;refine yc (c2) [(0,1)] ?_;refine aa ?_;refine yc (c3) [(0,1)] ?_;refine aa ?_;refine au ?_;rfl
theorem Kd (b:List UInt8) (hb:b.length < 500000000):aE Tryz.prog G 172 [.sl b.length (u8s b)] (keyM (gP (0 :: b))):=by
 have c1:=Hp (G:=G);have c2:=nk (G:=G) [] [0] [0] rfl sm;have c3:=nk (G:=G) [0] b (0 :: b) rfl (by simp only [a₆,e₂];omega);have c4:=Hr (G:=G) (0 :: b) (by simp only [a₆];omega);unfold qQ at c1 c2 c3 c4;refine bA seat Tryz.func172 13 ?_;refine aa ?_;refine yc (c1) [] ?_;refine aa ?_;refine bC rfl aA rfl (c2) [(0,1)] [(4,1)] ⟨rfl,mm,rfl,lm,mm⟩ rfl rfl ?_;refine aa ?_;refine yc (c3) [(0,1)] ?_;refine aa ?_;refine yc (c4) [(0,1)] ?_;refine aa ?_;refine au ?_;rfl
theorem Hs (a b:List UInt8) (ha:a.length=32) (hb:b.length=32):aE Tryz.prog G 174 [keyM a,keyM b] (keyM (gP (1 :: (a ++ b)))):=by
 have c1:=Hp (G:=G);have c2:=nk (G:=G) [] [1] [1] rfl sm;have c3:=nk (G:=G) [1] a (1 :: a) rfl (by simp only [a₆,e₂];omega);have c4:=nk (G:=G) (1 :: a) b (1 :: (a ++ b)) rfl (by simp only [a₆];omega);have c5:=Hr (G:=G) (1 :: (a ++ b)) (by simp only [a₆,a₀];omega);rw [ha,← dQ ha] at c3;rw [hb,← dQ hb] at c4;unfold qQ at c1 c2 c3 c4 c5;refine bA seat Tryz.func174 18 ?_;refine aa ?_;refine yc (c1) [] ?_;refine aa ?_;refine bC rfl aA rfl (c2) [(0,3)] [(6,1)] ⟨rfl,mm,rfl,lm,mm⟩ rfl rfl ?_;refine aa ?_;refine yc (c3) [(0,3)] ?_;refine aa ?_;refine yc (c4) [(0,3)] ?_;refine aa ?_;refine yc (c5) [(0,3)] ?_;refine aa ?_;refine au ?_;rfl
theorem xJ: ∀(f:Nat) (l:List (List UInt8)),l.length≤f→l.length < 60000→(∀b∈l,b.length < 300000000)→aE Tryz.prog G 116 [.sl l.length (l.map bk)] (keyM (ee l)):=by
 intro f
 induction f with
 | zero=>
  intro l hl _ _;obtain rfl:=b₄.1 (by omega:l.length=0);have c1:=xI (G:=G) [] sm;refine bA seat Tryz.func116 27 ?_;refine aa ?_;refine dL (c1) ?_;refine au ?_;rfl
 | succ f ih=>
  intro l hl hn hb
  match hh:l with
  | [] =>
   have c1:=xI (G:=G) [] sm;refine bA seat Tryz.func116 27 ?_;refine aa ?_;refine dL (c1) ?_;refine au ?_;rfl
  | [b] =>
   have c1:=Kd (G:=G) b (by have:=hb b sm;omega);refine bA seat Tryz.func116 27 ?_;refine aa ?_;refine dL (c1) ?_;refine au ?_;rfl
  | a :: b :: r=>
   rw [← hh] at hl hn hb ⊢;have h2:2≤l.length:=by rw [hh];simp only [a₆];omega
   clear hh;obtain⟨k1,k2⟩:=xH h2;have ch:=Ka (G:=G) l.length om om;have c1:=ih (l.take (hlf l.length)) (by rw [a₅];omega) (by rw [a₅];omega) fun x hx=>hb x (d₁ hx)
   have c2:=ih (l.drop (hlf l.length)) (by rw [a₂];omega) (by rw [a₂];omega) fun x hx=>hb x (d₂ hx)
   have c3:=Hs (G:=G) (ee (l.take (hlf l.length))) (ee (l.drop (hlf l.length))) (fQ _) (fQ _);rw [wh h2];rw [a₅,e₁ om,← cut_take] at c1;rw [a₂,← dN] at c2;generalize hlf l.length=k at *;refine bA seat Tryz.func116 27 ?_;refine aa ?_;refine ad rfl ?_ ?_ <;> intro h
   ·exfalso;have:(l.length:Int)=0:=by simpa using h
    omega
   refine aa ?_;refine ad rfl ?_ ?_ <;> intro h
   ·exfalso;have:(l.length:Int)=1:=by simpa using h
    omega
   refine aa ?_;refine dL (ch) ?_;refine al [ae 0,ae 1,ae 2,dj 3,ae 4,ae 5,ae 6,dj 7,dj 8,ae 9] ?_;(have fct:=aj.mk (jo (κ:= .i64) (c₇ k2));have fct:=aj.mk (fW (κ:= .i64) (c₇ k2));have fct:=bE.mk (pK l);refine aa ?_);refine cW (c1) ?_;refine cW (c2) ?_;refine cW (c3) ?_;refine au ?_;rfl
end
section
section
variable {Pg:Program} {G:GS} {f:FuncId} {args:List MV} {M0:VM}
theorem wj {b:MB} {es n:Nat} (hrow:b.row=true) (h:aQ Pg G f args M0 1 (.ms 0 es 0 n) [(0,b)] 1):aQ Pg G f args M0 1 (.ms 1 es 0 n) [(1,b)] 2:=by
 intro w P adr vals h1 h2 h3 h4 h5;refine(h w P adr vals h1 h2 h3 h4 h5).mono ?_;rintro e w' ⟨v,rfl,P',adr',j1,j2,j3,j4,j5,j6,j7,j8⟩;have get1: ∀{c b'},VM.get [(1,b)] c=some b'→c=1∧b'=b:=fun {c b'} hc=>by
  rw [VM.get_cons] at hc;split at hc
  ·rename_i e;injection hc with hc;exact⟨e.symm,hc.symm⟩
  ·cases hc
 have get0:VM.get [(0,b)] 0=some b:=rfl;have only0: ∀{c g},adr c=some g→c=0:=fun {c g} hc=>by
  rcases c₃ c 1 with h | h
  ·omega
  ·rw [h3 c h] at hc;cases hc
 refine⟨v,rfl,P',fun c=>if c=1 then adr' 0 else adr' c,⟨fun c b' hc=>?_,fun c c' b1 b2 g hc hc' _ _=>?_,j1.prot⟩,?_,⟨j3.prot,j3.cell,fun c g hc=>?_,j3.size⟩,fun c hc=>?_,fun c hc=>?_,fun c g hc=>?_,j7,j8⟩
 ·obtain⟨rfl,rfl⟩:=get1 hc;rcases j1.blk 0 b' get0 with q | ⟨g,q1,q2⟩
  ·exact .inl ⟨q.1,q.2.1,by simpa using q.2.2.1,q.2.2.2⟩
  ·refine .inr ⟨g,by simpa using q1,?_⟩;obtain⟨cur,parts,c1,c2,c3,c4,c5⟩:=q2.ofR hrow;exact⟨.inl ⟨cur,parts,c1,c2,c3,fun j x p hx hp=>by have:=c4 j x p hx hp;rw [hrow] at this ⊢;exact this,c5⟩,q2.pe,q2.le⟩
 ·rw [(get1 hc).1,(get1 hc').1]
 ·rcases j2.ms_ with ⟨rfl,_,rfl⟩ | ⟨g,o,cap,q1,rfl,q2,q3,q4,q5⟩
  ·exact .val [_] .ms0
  ·exact .val [_] (.ms g o cap (by simpa using q1) q2 q3 q4 q5)
 ·obtain rfl:=only0 hc;exact j3.num 0 g hc
 ·obtain rfl:c=0:=om;exact j4 0 om
 ·have:c≠1:=om;simp only [this,if_false];exact j5 c om
 ·by_cases h:c=1
  ·simp only [h,if_true] at hc;exact j6 0 g hc
  ·simp only [h,if_false] at hc;exact j6 c g hc
end
theorem zV {σ:Nat→Option Nat} {fz:Fz} {a b:MV}: ∀(l:List MV),(∀x∈l,eu σ fz x x)→eu σ fz a b→eu.relVs σ fz (l ++ [a]) (l ++ [b])
 | [],_,h=>⟨h,trivial⟩
 | x :: l,hl,h=>⟨hl x sm,zV l (fun y hy=>hl y (by simp [hy])) h⟩
variable {G:GS}
attribute [local irreducible] ak aB aD aI aN vC aW aw
def xK (l:List eE):MB:=⟨183,4,true,0,l.map bR⟩
def bJ (n:Nat) (s:List UInt8):List eE:=if s= [] then [] else [⟨n,2,0,s⟩]
def db (n:Nat) (v:Nat):List eE:=if v=0 then [] else [⟨n,0,v,[]⟩]
theorem xL (l:List eE) (n:Nat) (s:List UInt8) (hl:l.length < 100000000) (hs:s.length < 100000000):aQ Tryz.prog G 121 [.ms 0 4 0 l.length, .int .i64 n, .str s] [(0,xK l)] 1 (.ms 1 4 0 (l ++ bJ n s).length) [(1,xK (l ++ bJ n s))] 2:=by
 unfold xK bJ;by_cases h0:s= []
 ·rw [if_pos h0,c₄];subst h0;refine wj rfl ?_;refine dw seat Tryz.func121 17 ?_;refine aa ?_;exact en [_]
 ·rw [if_neg h0,a₀,b₀];refine dw seat Tryz.func121 17 ?_;refine aa ?_;refine ad rfl ?_ ?_ <;> intro h
  ·exact absurd h (by simp;intro h;exact absurd h h0)
  ·refine aa ?_;refine aL rfl rfl (by intro R hR;refine cI hR ?_;(refine a₁ (a₉ _) ?_;refine⟨_,rfl,?_⟩;refine a₁ ⟨sm,ai (by kernel_rfl) pf⟩ ?_;refine⟨(l ++ [(⟨n,2,0,s⟩:eE)]).map bR,sv (by simp;rfl),l.length + 1,sv pf,?_⟩);exact hR) rfl ?_;refine aa ?_;exact eb [_] [(1,10)] []
theorem mn (l:List eE) (n:Nat) (v:Nat) (hl:l.length < 100000000):aQ Tryz.prog G 122 [.ms 0 4 0 l.length, .int .i64 n, .int .u64 v] [(0,xK l)] 1 (.ms 1 4 0 (l ++ db n v).length) [(1,xK (l ++ db n v))] 2:=by
 unfold xK db;by_cases h0:v=0
 ·rw [if_pos h0,c₄];subst h0;refine wj rfl ?_;refine dw seat Tryz.func122 16 ?_;refine aa ?_;exact en [_]
 ·rw [if_neg h0,a₀,b₀];refine dw seat Tryz.func122 16 ?_;refine aa ?_;refine ad rfl ?_ ?_ <;> intro h
  ·exfalso;have:(v:Int)=0:=by simpa using h
   omega
  ·refine aa ?_;refine aL rfl rfl (by intro R hR;refine cI hR ?_;(refine a₁ (a₉ _) ?_;refine⟨_,rfl,?_⟩;refine a₁ ⟨sm,ai (by kernel_rfl) pf⟩ ?_;refine⟨l.map bR ++ [.st [.int .i64 n, .int .i64 0, .int .u64 v, .nils]],sv (by simp [cutL,setL,repM]),l.length + 1,sv pf,?_⟩);exact hR) rfl ?_;refine aa ?_;refine⟨[_],[(1,9)],[],rfl,rfl,trivial,rfl,⟨?_,trivial⟩,?_⟩
   ·exact rv
   ·refine⟨.inr ⟨_,_,rfl,rfl,rfl,rfl, .inl rfl, .inl rfl, .inr ?_⟩,trivial⟩;rw [c₂];exact zV _ (fun x hx=>by obtain⟨f,_,rfl⟩:=List.mem_map.1 hx;exact .inl ⟨rfl,rfl⟩) (.inr ⟨_,rfl,⟨rfl,rfl⟩,⟨rfl,rfl⟩,⟨rfl,rfl⟩, .inr ⟨rfl,rfl⟩,trivial⟩)
end
section
variable {G:GS}
attribute [local irreducible] ak aB aD aI aN vC aW aw
structure lh where
 to_:List UInt8
 amt:Nat
 deriving DecidableEq
structure je where
 sender:List UInt8
 seq:Nat
 gas:Nat
 fee:Nat
 memo:List UInt8
 trs:List lh
 deriving DecidableEq
def lC (x:lh):MV:= .st [.str x.to_, .int .u64 x.amt]
def nP (t:je):MV:= .st [.str t.sender, .int .u64 t.seq, .int .u64 t.gas, .int .u64 t.fee, .str t.memo, .sl t.trs.length (t.trs.map lC)]
abbrev bo (n:Nat):Prop:=n < 18446744073709551616
def mo (x:lh):Prop:=x.to_.length≤5000∧bo x.amt
def iL (t:je):Prop:=t.sender.length≤5000∧bo t.seq∧bo t.gas∧bo t.fee∧t.memo.length≤5000∧t.trs.length≤5000∧∀x∈t.trs,mo x
def mq (x:lh):eE:=⟨6,2,0,aF (bJ 1 x.to_ ++ db 2 x.amt)⟩
def iB (t:je):List eE:=bJ 1 t.sender ++ db 2 t.seq ++ db 3 t.gas ++ db 4 t.fee ++ bJ 5 t.memo ++ t.trs.map mq
def fk (t:je):List UInt8:=aF (iB t)
theorem gW {f:eE} (hf:iz f):(aV f).length≤f.bytes.length + 20:=by
 have h1:=(dF (n:=f.num * 8 + f.kind) (by unfold iz at hf;omega)).2;unfold aV;rw [a₀];split
 ·have h2:=(dF (n:=f.val) (by unfold iz at hf;omega)).2;omega
 ·rename_i hk;have h2:=(dF (n:=f.bytes.length) (by unfold iz at hf;omega)).2;rw [a₀];omega
theorem eO (B:Nat): ∀(l:List eE),(∀f∈l,iz f∧f.bytes.length≤B)→(aF l).length≤l.length * (B + 20)
 | [],_=>by simp [aF]
 | f :: l,h=>by
  have h1:=gW (h f sm).1
  have h2:=(h f sm).2
  have ih:=eO B l fun g hg=>h g (by simp [hg])
  have e:aF (f :: l)=aV f ++ aF l:=by simp [aF]
  rw [e,a₀,a₆,Nat.add_mul]
  omega
theorem jr {n:Nat} {s:List UInt8} (h1:1≤n) (h2:n≤100) (B:Nat) (hs:s.length≤B) (hB:B < 18446744073709551616):(∀f∈bJ n s,iz f∧f.bytes.length≤B)∧(bJ n s).length≤1:=by
 unfold bJ;split
 ·simp
 ·refine⟨fun f hf=>?_,sm⟩;rw [d₇.1 hf];exact⟨⟨dm,dm, .inr ⟨rfl,rfl,dm⟩⟩,hs⟩
theorem lj {n v:Nat} (h1:1≤n) (h2:n≤100) (B:Nat) (hv:bo v):(∀f∈db n v,iz f∧f.bytes.length≤B)∧(db n v).length≤1:=by
 unfold db;split
 ·simp
 ·refine⟨fun f hf=>?_,sm⟩;rw [d₇.1 hf];exact⟨⟨dm,dm, .inl ⟨rfl,rfl,hv⟩⟩,sm⟩
theorem ez {α:Type} {p:α→Prop} {a b:List α} (ha: ∀x∈a,p x) (hb: ∀x∈b,p x): ∀x∈a ++ b,p x:=fun x hx=>(List.mem_append.1 hx).elim (ha x) (hb x)
theorem pL {x:lh} (h:mo x):(∀f∈bJ 1 x.to_ ++ db 2 x.amt,iz f∧f.bytes.length≤5000)∧(bJ 1 x.to_ ++ db 2 x.amt).length≤2:=by
 have h1:=jr (n:=1) (s:=x.to_) om om 5000 h.1 om;have h2:=lj (n:=2) (v:=x.amt) om om 5000 h.2;exact⟨ez h1.1 h2.1,by rw [a₀];omega⟩
theorem np {x:lh} (h:mo x):(aF (bJ 1 x.to_ ++ db 2 x.amt)).length≤10040:=by
 have h1:=pL h;have h2:=eO 5000 _ h1.1;have h3:=d₃ (5000 + 20) h1.2;omega
theorem Ma {x:lh} (h:mo x):iz (mq x)∧(mq x).bytes.length≤10040:=by
 have:=np h;exact⟨⟨by unfold mq;dsimp only;omega,by unfold mq;dsimp only;omega, .inr ⟨rfl,rfl,by unfold mq;dsimp only;omega⟩⟩,this⟩
theorem um {t:je} (h:iL t):(∀f∈iB t,iz f∧f.bytes.length≤10040)∧(iB t).length≤5005:=by
 obtain⟨h1,h2,h3,h4,h5,h6,h7⟩:=h;have a1:=jr (n:=1) (s:=t.sender) om om 10040 om om;have a2:=lj (n:=2) (v:=t.seq) om om 10040 h2;have a3:=lj (n:=3) (v:=t.gas) om om 10040 h3;have a4:=lj (n:=4) (v:=t.fee) om om 10040 h4;have a5:=jr (n:=5) (s:=t.memo) om om 10040 om om;unfold iB;refine⟨ez (ez (ez (ez (ez a1.1 a2.1) a3.1) a4.1) a5.1) fun f hf=>?_,?_⟩
 ·obtain⟨x,hx,rfl⟩:=List.mem_map.1 hf;exact Ma (h7 x hx)
 ·simp only [a₀,c₁];omega
theorem qR {t:je} (h:iL t):(fk t).length≤50350300:=by
 have h1:=um h;have h2:=eO 10040 _ h1.1;have h3:=d₃ (10040 + 20) h1.2;unfold fk;omega
theorem ll {l:List lh} {k:Nat} (hk:k < l.length):bF (l.map lC) l.length (k:Int)=some (lC l[k]):=cO hk (by simp [hk])
theorem Ht (t:je) (ht:iL t):aQ Tryz.prog G 72 [nP t] [] 0 (.sl (fk t).length (u8s (fk t))) [] 0:=by
 have hok:=um ht;have hfl:=qR ht;obtain⟨sender,seq,gas,fee,memo,trs⟩:=t;obtain⟨h1,h2,h3,h4,h5,h6,h7⟩:=ht;dsimp only at h1 h2 h3 h4 h5 h6 h7;have cm:=nj (G:=G) _ (fun f hf=>(hok.1 f hf).1) (show(aF _).length < 200000000 from Nat.lt_of_le_of_lt hfl om) om;have a1:=(jr (n:=1) (s:=sender) om om 10040 om om).2;have a2:=(lj (n:=2) (v:=seq) om om 10040 h2).2;have a3:=(lj (n:=3) (v:=gas) om om 10040 h3).2;have a4:=(lj (n:=4) (v:=fee) om om 10040 h4).2;have a5:=(jr (n:=5) (s:=memo) om om 10040 om om).2;unfold fk iB at *;unfold nP;dsimp only at *;have c1:=xL (G:=G) [] 1 sender sm om;rw [e₃] at c1;generalize bJ 1 sender=l1 at *;have c2:=mn (G:=G) l1 2 seq om;have q2:(l1 ++ db 2 seq).length≤2:=by rw [a₀];omega
 generalize l1 ++ db 2 seq=l2 at *;have c3:=mn (G:=G) l2 3 gas om;have q3:(l2 ++ db 3 gas).length≤3:=by rw [a₀];omega
 generalize l2 ++ db 3 gas=l3 at *;have c4:=mn (G:=G) l3 4 fee om;have q4:(l3 ++ db 4 fee).length≤4:=by rw [a₀];omega
 generalize l3 ++ db 4 fee=l4 at *;have c5:=xL (G:=G) l4 5 memo om om;have q5:(l4 ++ bJ 5 memo).length≤5:=by rw [a₀];omega
 generalize l4 ++ bJ 5 memo=l5 at *;unfold xK at c1 c2 c3 c4 c5;refine dw seat Tryz.func72 46 ?_;refine aa ?_;refine yc (c1) [] ?_;refine aa ?_;refine bC rfl aA rfl (c2) [(0,_)] [] ⟨rfl,trivial,rfl,lm,mm⟩ rfl rfl ?_;refine aa ?_;refine bC rfl aA rfl (c3) [(0,_)] [] ⟨rfl,trivial,rfl,lm,mm⟩ rfl rfl ?_;refine aa ?_;refine bC rfl aA rfl (c4) [(0,_)] [] ⟨rfl,trivial,rfl,lm,mm⟩ rfl rfl ?_;refine aa ?_;refine bC rfl aA rfl (c5) [(0,_)] [] ⟨rfl,trivial,rfl,lm,mm⟩ rfl rfl ?_;refine aa ?_;refine av Nat (fun k=> [(28, .int .i64 k),(27, .int .i64 trs.length),(26, .sl trs.length (trs.map lC)),(3, .ms 0 4 0 (l5 ++ (trs.take k).map mq).length)]) (fun k=> [(0,⟨183,4,true,0,(l5 ++ (trs.take k).map mq).map bR⟩)]) 1 (fun k=>k≤trs.length) (fun k=>trs.length - k) 0 (a₈ _) (by rw [e₄,List.map_nil,c₄];exact(vm [(0,_)] [])) ?_;intro k hk;try dsimp only
 refine aa ?_;refine ad rfl ?_ ?_ <;> intro h
 ·have hk':k < trs.length:=by have:=ot h;omega
  have hx:=h7 _ (d₈ hk');have hel:=ll hk';have hsucc:l5 ++ (trs.take (k + 1)).map mq=(l5 ++ (trs.take k).map mq) ++ [mq trs[k]] :=by rw [c₀ hk',c₂,a₄];rfl
  have hll:(l5 ++ (trs.take k).map mq).length≤5005:=by rw [a₀,c₁,a₅];omega
  generalize trs[k] =x at *;generalize l5 ++ (trs.take k).map mq=lk at *;have hio:=pL hx;have hil:=np hx;have hto:=jr (n:=1) (s:=x.to_) om om 5000 hx.1 om;have d1:=xL (G:=G) [] 1 x.to_ sm (by have:=hx.1;omega);rw [e₃] at d1;have d2:=mn (G:=G) (bJ 1 x.to_) 2 x.amt om;have d3:=nj (G:=G) (bJ 1 x.to_ ++ db 2 x.amt) (fun f hf=>(hio.1 f hf).1) om om;unfold xK at d1 d2;have htr:mq x=⟨6,2,0,aF (bJ 1 x.to_ ++ db 2 x.amt)⟩:=rfl;generalize bJ 1 x.to_ ++ db 2 x.amt=li at *;generalize bJ 1 x.to_=lt at *;generalize aF li=mi at *;(have fct:=aj.mk (hel);refine aa ?_);refine al [ae 0,ae 1,ae 2,dj 3,ae 4,ae 5,dj 6,dj 7,ae 8,ae 9,ae 10,ae 11] ?_;refine aa ?_;refine cK rfl aA rfl [] (d1) [] [] ⟨rfl,trivial,rfl,lm,mm⟩ rfl rfl rfl rfl ?_;refine aa ?_;refine cK rfl aA rfl [9] (d2) [(0,9)] [] ⟨rfl,trivial,rfl,lm,mm⟩ rfl rfl rfl rfl ?_;refine aa ?_;refine bQ rfl aA rfl [12] (d3) rfl [(12,li.length)] mm lm rfl ?_;refine aa ?_;refine aZ rfl (by intro R hR;refine cI hR ?_;(refine a₁ (a₉ _) ?_;refine⟨_,rfl,?_⟩;refine a₁ ⟨sm,ai (by kernel_rfl) pf⟩ ?_;refine⟨(lk ++ [(⟨6,2,0,mi⟩:eE)]).map bR,sv (by simp;rfl),lk.length + 1,sv pf,?_⟩);exact hR) rfl ?_;refine aa ?_;exact⟨k + 1,by show k + 1≤trs.length;omega,by show trs.length - (k + 1) < trs.length - k;omega,(by dsimp only;rw [hsucc,htr,a₀,b₀];exact(vm [(0,_)] []))⟩
 ·have hk':k=trs.length:=by have:=oF h;omega
  subst hk';rw [d₉];generalize l5 ++ trs.map mq=lk at *;generalize aF lk=mk at *;refine aa ?_;refine bX rfl aA rfl (cm) rfl [(0,lk.length)] mm lm ?_;refine aa ?_;exact en [_]
end
end Go.Proofs.YtohikcplmbkmeaaGreatDoor
