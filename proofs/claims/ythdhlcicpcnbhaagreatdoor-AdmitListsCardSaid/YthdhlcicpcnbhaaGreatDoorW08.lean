/- Parts of a proof, one behind the other: W2, Shelf, W6, W7, Bt, W1, W8, W9, WA. -/
import Derived.Test.YthdhlcicpcnbhaaGreatDoorW07
open Prod.mk renaming injEq → a₀
open List renaming length_drop → a₁,drop_eq_getElem_cons → a₄,drop_zero → a₈,take_of_length_le → a₉,length_singleton → b₀,length_append → b₄,drop_length → b₇,take_succ_eq_append_getElem → b₉,getElem_mem → c₀,take_length → c₈,length_take → d₀,drop_eq_nil_of_le → d₂,all_append → e₂,length_map → e₃,map_append → e₆,take_zero → e₇
open Nat renaming mul_le_mul_right → a₂,div_add_mod → a₃,zero_le → a₅,mul_comm → a₆,div_lt_iff_lt_mul → a₇,mod_eq_of_lt → b₂,mod_lt → b₅,le_mul_of_pos_left → b₆,mul_assoc → b₈,zero_add → c₁,succ_mul → c₂,two_pow_pos → c₃,zero_mul → c₄,le_refl → c₅,one_mul → c₆,pow_succ → c₉,lt_trans → d₁,add_mul → d₃,sub_mul → d₄,le_div_iff_mul_le → d₅,mul_le_mul → d₆,le_of_lt → d₇,lt_of_le_of_lt → d₈,mul_add → d₉,pow_add → e₀,min_eq_left → e₄
open Int renaming natCast_mul → b₁,fdiv_eq_ediv_of_nonneg → c₇,natCast_ediv → e₁,natCast_pow → e₅
open And renaming intro → b₃
set_option maxRecDepth 20000
set_option maxHeartbeats 16000000
set_option linter.unusedVariables false
set_option linter.unusedSimpArgs false
namespace Go.Proofs.YthdhlcicpcnbhaaGreatDoor
open Go.RowKit
section
variable {G:GS}
attribute [local irreducible] aj aC aG aL aO vC aU au
theorem rX (s:List UInt8) (hs:s.length≤140737488355328):aD Tryz.prog G 120 [.str s] (.bool (dj s)):=by
 generalize hr:dj s=r;unfold dj at hr;refine aZ seat Tryz.func120 40 ?_;refine ae ?_;refine ar Nat (fun i=> [(7, .int .i64 i),(6, .int .i64 s.length),(0, .str s)]) (fun _=> []) 0 (fun i=>i≤s.length∧(s.take i).all mf=true) (fun i=>s.length - i) 0 ⟨a₅ _,sm⟩ (vm [] []) ?_;rintro i ⟨hi,hp⟩;try dsimp only
 refine ae ?_;refine ad rfl ?_ ?_ <;> intro h
 ·have hi':i < s.length:=by have:=ot h;omega
  have f0:=al.mk (o7 hi');have hsu:(s.take (i + 1)).all mf=((s.take i).all mf && mf (s.getD i 0)):=by
   rw [b₉ hi',e₂];simp [hi']
  have hall:mf (s.getD i 0)=false→s.all mf=false:=fun h=>by
   rw [← List.take_append_drop (i + 1) s,e₂,hsu,h];simp
  generalize s.getD i 0=c at *;by_cases hc:mf c=true
  ·rw [hp,hc] at hsu;have hc':=ot hc;(iterate 8 ((all_goals(refine ae ?_));(all_goals(first | ((first | refine ah rfl rfl ?_ rfl ?_ | refine ad rfl ?_ ?_);all_goals(intro h;(try simp only [pl] at h);(try (exfalso;omega)))) | skip))));all_goals exact⟨i + 1,⟨by omega,by rw [hsu];rfl⟩,by show s.length - (i + 1) < s.length - i;omega,(by dsimp only;exact(vm [] []))⟩
  ·have hcf:mf c=false:=by simpa using hc
   rw [hall hcf,Bool.false_and] at hr;subst hr;have hc':=oF hcf;(iterate 8 ((all_goals(refine ae ?_));(all_goals(first | ((first | refine ah rfl rfl ?_ rfl ?_ | refine ad rfl ?_ ?_);all_goals(intro h;(try simp only [pl] at h);(try (exfalso;omega)))) | skip))));all_goals(refine av ?_;rfl)
 ·have hi':i=s.length:=by have:=oF h;omega
  subst hi';rw [c₈] at hp;rw [hp,Bool.true_and] at hr;subst hr;(iterate 4 ((all_goals(refine ae ?_));(all_goals(first | ((first | refine ah rfl rfl ?_ rfl ?_ | refine ad rfl ?_ ?_);all_goals(intro h;(try simp only [pl] at h);(try (exfalso;omega)))) | skip))));all_goals(refine av ?_;exact congrArg MV.bool (by first | exact decide_eq_decide.2 (by omega) | exact(decide_eq_false (by omega)).symm))
theorem Ec (b:List UInt8) (hb:b.length < 4000000000):aD Tryz.prog G 246 [.sl b.length (u8s b)] (nr (readS b 0 0)):=by
  unfold nr;generalize hr:readS b 0 0=r at *;obtain⟨r1,r2,r3⟩:=r;dsimp only;refine aZ seat Tryz.func246 52 ?_;refine ae ?_;refine ar (Nat×Nat) (fun x=> [(0, .sl b.length (u8s b)),(2, .int .u64 x.2),(5, .int .i64 x.1)]) (fun _=> []) 0 (fun x=>x.1≤9∧x.1≤b.length∧x.2 < 128 ^ x.1∧readS (b.drop x.1) x.1 x.2=(r1,r2,r3)) (fun x=>b.length - x.1) (0,0) ⟨dm,dm,dm,by dsimp only;rw [a₈];exact hr⟩ (by dsimp only;exact(vm [] [])) ?_;rintro⟨i,n⟩ ⟨hi,hib,hn,hR⟩;try dsimp only
  dsimp only at hi hib hn hR;refine ae ?_;refine ad rfl ?_ ?_ <;> intro h
  · have hi':i=b.length:=by have:=ot h;omega
    rw [d₂ om,readS] at hR;simp only [a₀] at hR;obtain⟨rfl,rfl,rfl⟩:=hR;refine ae ?_;refine av ?_;rfl
  · have hi':i < b.length:=by have:=oF h;omega
    have hel:=HQ hi';rw [a₄ hi',readS] at hR;generalize b[i] =x at *;have hx256:=x.toNat_lt;refine ae ?_;refine ah rfl rfl ?_ rfl ?_ <;> intro h
    · have h9:i=9:=by
        have:(i:Int)=9:=by simpa using h
        omega
      (have fct:=al.mk (hel);refine ae ?_);refine ad rfl ?_ ?_ <;> intro h
      · have hx:=ot h;rw [if_pos om] at hR;simp only [a₀] at hR;obtain⟨rfl,rfl,rfl⟩:=hR;refine ae ?_;refine av ?_;rfl
      · have hx:=oF h;rw [if_neg om] at hR;refine ae ?_;refine ah rfl rfl ?_ rfl ?_ <;> intro h
        · have h0:=ot h;(have fct:=al.mk (hel);refine ae ?_);refine ad rfl ?_ ?_ <;> intro h
          · have hx:x.toNat=0:=by simpa using h
            rw [if_pos om] at hR;simp only [a₀] at hR;obtain⟨rfl,rfl,rfl⟩:=hR;refine ae ?_;refine av ?_;rfl
          · have hx:x.toNat≠0:=by simpa using h
            rw [if_neg om] at hR;have hv:i≤8∧x.toNat % 128 < 128∨i=9∧x.toNat % 128≤1:=om;(have fct:=aT.mk (lV x);have fct:=aT.mk (Ac hv);have fct:=aT.mk (Md hn hv);have fct:=al.mk (hel);refine ae ?_);refine ad rfl ?_ ?_ <;> intro h
            · have hx:=ot h;rw [if_pos om] at hR;simp only [a₀] at hR;obtain⟨rfl,rfl,rfl⟩:=hR;refine ae ?_;refine av ?_;rw [b₂ (show x.toNat < 128 by omega)];rfl
            · have hx:=oF h;rw [if_neg om] at hR;refine ae ?_;refine⟨(i + 1,n + x.toNat % 128 * 128 ^ i),⟨dm,dm,?_,?_⟩,by show b.length - (i + 1) < b.length - i;omega,(by dsimp only;exact(vm [] []))⟩
              · have h3:x.toNat % 128 * 128 ^ i≤127 * 128 ^ i:=a₂ _ om;dsimp only;rw [c₉];omega
              · dsimp only;rw [show x.toNat % 128=x.toNat - 128 by omega];exact hR
        · have h0: ¬ (0:Int) < i:=by simpa using h
          rw [if_neg om] at hR;have hv:i≤8∧x.toNat % 128 < 128∨i=9∧x.toNat % 128≤1:=om;(have fct:=aT.mk (lV x);have fct:=aT.mk (Ac hv);have fct:=aT.mk (Md hn hv);have fct:=al.mk (hel);refine ae ?_);refine ad rfl ?_ ?_ <;> intro h
          · have hx:=ot h;rw [if_pos om] at hR;simp only [a₀] at hR;obtain⟨rfl,rfl,rfl⟩:=hR;refine ae ?_;refine av ?_;rw [b₂ (show x.toNat < 128 by omega)];rfl
          · have hx:=oF h;rw [if_neg om] at hR;refine ae ?_;refine⟨(i + 1,n + x.toNat % 128 * 128 ^ i),⟨dm,dm,?_,?_⟩,by show b.length - (i + 1) < b.length - i;omega,(by dsimp only;exact(vm [] []))⟩
            · have h3:x.toNat % 128 * 128 ^ i≤127 * 128 ^ i:=a₂ _ om;dsimp only;rw [c₉];omega
            · dsimp only;rw [show x.toNat % 128=x.toNat - 128 by omega];exact hR
    · have h9:i≠9:=by
        have: ¬ (i:Int)=9:=by simpa using h
        omega
      rw [if_neg om] at hR;refine ae ?_;refine ah rfl rfl ?_ rfl ?_ <;> intro h
      · have h0:=ot h;(have fct:=al.mk (hel);refine ae ?_);refine ad rfl ?_ ?_ <;> intro h
        · have hx:x.toNat=0:=by simpa using h
          rw [if_pos om] at hR;simp only [a₀] at hR;obtain⟨rfl,rfl,rfl⟩:=hR;refine ae ?_;refine av ?_;rfl
        · have hx:x.toNat≠0:=by simpa using h
          rw [if_neg om] at hR;have hv:i≤8∧x.toNat % 128 < 128∨i=9∧x.toNat % 128≤1:=om;(have fct:=aT.mk (lV x);have fct:=aT.mk (Ac hv);have fct:=aT.mk (Md hn hv);have fct:=al.mk (hel);refine ae ?_);refine ad rfl ?_ ?_ <;> intro h
          · have hx:=ot h;rw [if_pos om] at hR;simp only [a₀] at hR;obtain⟨rfl,rfl,rfl⟩:=hR;refine ae ?_;refine av ?_;rw [b₂ (show x.toNat < 128 by omega)];rfl
          · have hx:=oF h;rw [if_neg om] at hR;refine ae ?_;refine⟨(i + 1,n + x.toNat % 128 * 128 ^ i),⟨dm,dm,?_,?_⟩,by show b.length - (i + 1) < b.length - i;omega,(by dsimp only;exact(vm [] []))⟩
            · have h3:x.toNat % 128 * 128 ^ i≤127 * 128 ^ i:=a₂ _ om;dsimp only;rw [c₉];omega
            · dsimp only;rw [show x.toNat % 128=x.toNat - 128 by omega];exact hR
      · have h0: ¬ (0:Int) < i:=by simpa using h
        rw [if_neg om] at hR;have hv:i≤8∧x.toNat % 128 < 128∨i=9∧x.toNat % 128≤1:=om;(have fct:=aT.mk (lV x);have fct:=aT.mk (Ac hv);have fct:=aT.mk (Md hn hv);have fct:=al.mk (hel);refine ae ?_);refine ad rfl ?_ ?_ <;> intro h
        · have hx:=ot h;rw [if_pos om] at hR;simp only [a₀] at hR;obtain⟨rfl,rfl,rfl⟩:=hR;refine ae ?_;refine av ?_;rw [b₂ (show x.toNat < 128 by omega)];rfl
        · have hx:=oF h;rw [if_neg om] at hR;refine ae ?_;refine⟨(i + 1,n + x.toNat % 128 * 128 ^ i),⟨dm,dm,?_,?_⟩,by show b.length - (i + 1) < b.length - i;omega,(by dsimp only;exact(vm [] []))⟩
          · have h3:x.toNat % 128 * 128 ^ i≤127 * 128 ^ i:=a₂ _ om;dsimp only;rw [c₉];omega
          · dsimp only;rw [show x.toNat % 128=x.toNat - 128 by omega];exact hR
theorem FY {b:List UInt8} (hb:b.length < 4000000000) {n:Nat} {r:Nat×Nat×Nat} (h:readS (b.drop n) 0 0=r):aD Tryz.prog G 246 [.sl (b.length - n) (cutL (u8s b) n b.length)] (nr r):=by
 have:=Ec (G:=G) (b.drop n) (by rw [a₁];omega);rw [h,a₁] at this;rw [cut_u8,a₉ (by rw [a₁];omega)];exact this
theorem Pp {m:Nat} (hm:m < 18446744073709551616):IntKind.u64.wrap ((BitVec.ofInt IntKind.u64.bits (m:Int) &&& BitVec.ofInt IntKind.u64.bits (7:Int)).toNat:Int)=((m % 8:Nat):Int):=by
 have e:=Nat.and_two_pow_sub_one_eq_mod m 3;rw [BitVec.toNat_and,ei _ _ (show m < 2 ^ IntKind.u64.bits from hm),show (7:Int)=((7:Nat):Int) by rfl,ei _ _ (show 7 < 2 ^ IntKind.u64.bits by decide),show (7:Nat)=2 ^ 3 - 1 by rfl,e,wu64];omega
theorem Pq (m:Nat):((m:Int).fdiv (2 ^ (min (3:Int).toNat IntKind.u64.bits)))=((m / 8:Nat):Int):=by
 rw [show min (3:Int).toNat IntKind.u64.bits=3 by rfl,c₇ _ (by decide)];exact(e₁ m 8).symm
theorem Nn (b:List UInt8) (hb:b.length < 1000000000):aH Tryz.prog G 231 [.sl b.length (u8s b)] [] 0 (.tup [db (eL b).1, .int .i64 (eL b).2.1, .int .i64 (eL b).2.2]) [] 0:=by
  have c1:=Ec (G:=G) b om;have h1ok:=kH b 0 0 om om;generalize hr:eL b=r at *;obtain⟨f,m,e⟩:=r;have hR:=hr;unfold eL at hR;generalize readS b 0 0=t at *;obtain⟨T,n,e1⟩:=t;dsimp only at hR h1ok;unfold nr at c1;unfold db;dsimp only at c1;dsimp only;refine bR seat Tryz.func231 85 ?_;refine ae ?_;refine cC (c1) ?_;refine ad rfl ?_ ?_ <;> intro h
  · have he1:e1≠0:=by intro h0;subst h0;cases h
    rw [if_pos he1] at hR;simp only [a₀] at hR;obtain⟨rfl,rfl,rfl⟩:=hR;refine ae ?_;refine av ?_;exact en [_,_,_]
  have he1:e1=0:=by
    have:(e1:Int)=0:=by simpa using h
    omega
  subst he1;have hT:=(h1ok rfl).2.2;rw [if_neg sm] at hR;have hmod:=Pp hT;have hdiv:=Pq T;have h2ok:=kH (b.drop n) 0 0 om om;generalize hr2:readS (b.drop n) 0 0=t2 at *;obtain⟨v,k,e2⟩:=t2;have c2:=FY (G:=G) (b:=b) om hr2;unfold nr at c2;dsimp only at hR c2 h2ok;generalize hD:T / 8=D at *;generalize hK:T % 8=K at *;(have fct:=aT.mk (hmod);have fct:=aT.mk (hdiv);refine ae ?_);refine ah rfl rfl ?_ rfl ?_ <;> intro h
  · have hD1: ¬ (D:Int) < 1:=by simpa using h
    refine ae ?_;refine ah rfl rfl ?_ rfl ?_ <;> intro h
    · have hD3: ¬ (536870911:Int) < D:=by simpa using h
      refine ae ?_;refine ah rfl rfl ?_ rfl ?_ <;> intro h
      · have hK0:K≠0:=by
          have: ¬ (K:Int)=0:=by simpa using h
          omega
        refine ae ?_;refine ad rfl ?_ ?_ <;> intro h
        · have hK2:K≠2:=by
            have: ¬ (K:Int)=2:=by simpa using h
            omega
          rw [if_pos om] at hR;simp only [a₀] at hR;obtain⟨rfl,rfl,rfl⟩:=hR;refine ae ?_;refine av ?_;exact en [_,_,_]
        have hK2:K=2:=by
          have:(K:Int)=2:=by simpa using h
          omega
        subst hK2;rw [if_neg om] at hR;have hnb:n≤b.length:=by have:=h1ok rfl;omega
        (have fct:=al.mk (gm (κ:= .i64) hnb);have fct:=bN.mk (cG b);refine ae ?_);refine cC (c2) ?_;refine ad rfl ?_ ?_ <;> intro h
        · have he2:e2≠0:=by intro h0;subst h0;cases h
          rw [if_pos he2] at hR;simp only [a₀] at hR;obtain⟨rfl,rfl,rfl⟩:=hR;refine ae ?_;refine av ?_;exact en [_,_,_]
        have he2:e2=0:=by
          have:(e2:Int)=0:=by simpa using h
          omega
        subst he2;have hk:=h2ok rfl;rw [a₁] at hk;rw [if_neg sm] at hR;rw [if_neg om] at hR;have hnk:n + k≤b.length:=om;have hlo:cF b.length (some (.int .i64 ((n:Int) + k))) none=some (n + k,b.length):=by
          rw [show (n:Int) + k=((n + k:Nat):Int) by omega];exact gm hnk
        (have fct:=al.mk (hlo);have fct:=bN.mk (cG b);refine ae ?_);refine ad rfl ?_ ?_ <;> intro h
        · have hv:=ot h;rw [if_pos om] at hR;simp only [a₀] at hR;obtain⟨rfl,rfl,rfl⟩:=hR;refine ae ?_;refine av ?_;exact en [_,_,_]
        have hv:=oF h;rw [if_neg om] at hR;simp only [a₀] at hR;obtain⟨rfl,rfl,rfl⟩:=hR;have hhi:cF (b.length - (n + k)) none (some (.int .u64 (v:Int)))=some (0,v):=nt om;have hl:((b.drop (n + k)).take v).length=v:=by rw [d₀,a₁];omega
        (have fct:=al.mk (hhi);have fct:=bN.mk (Ad b (n + k) b.length);refine ae ?_);refine aY rfl rfl (by intro R hR;refine dM hR ?_;refine b₃ ((by(try dsimp only);rw [cut_u8,cut_u8];exact cG _)) ?_;refine b₃ (oX (by kernel_rfl) (by dsimp only;omega)) ?_;exact hR) rfl ?_;refine ae ?_;refine av ?_;rw [show ((n + k + v:Nat):Int)=(n:Int) + k + v by omega];dsimp only;rw [hl];refine⟨[_,_,_],[],[(69,v)],rfl,rfl,?_,rfl,⟨?_,?_,?_,trivial⟩,?_⟩
        · refine⟨?_,trivial⟩
          show v≤List.length _
          dsimp only;rw [cut_u8,cut_u8];simp only [u8s,e₃,d₀,a₁];omega
        · refine .inr ⟨_,rfl,⟨rfl,rfl⟩,⟨rfl,rfl⟩,⟨rfl,rfl⟩, .inr ⟨rfl,rfl,rfl,?_,?_⟩,trivial⟩
          · exact Nat.le_of_eq sm
          · dsimp only;rw [cut_u8,cut_u8];simp only [cutL,u8s];simp only [Nat.sub_zero,c₁,a₈];rw [a₉ (l:=b.drop (n + k)) sm,a₉ (by rw [e₃,d₀];omega)]
        · exact rv
        · exact rv
        · exact mm
      · have hK0:K=0:=by
          have:(K:Int)=0:=by simpa using h
          omega
        subst hK0;rw [if_neg om] at hR;have hnb:n≤b.length:=by have:=h1ok rfl;omega
        (have fct:=al.mk (gm (κ:= .i64) hnb);have fct:=bN.mk (cG b);refine ae ?_);refine cC (c2) ?_;refine ad rfl ?_ ?_ <;> intro h
        · have he2:e2≠0:=by intro h0;subst h0;cases h
          rw [if_pos he2] at hR;simp only [a₀] at hR;obtain⟨rfl,rfl,rfl⟩:=hR;refine ae ?_;refine av ?_;exact en [_,_,_]
        have he2:e2=0:=by
          have:(e2:Int)=0:=by simpa using h
          omega
        subst he2;have hk:=h2ok rfl;rw [a₁] at hk;rw [if_neg sm] at hR;rw [if_pos rfl] at hR;simp only [a₀] at hR;obtain⟨rfl,rfl,rfl⟩:=hR;refine ae ?_;refine av ?_;exact en [_,_,_]
    · have hD3:(536870911:Int) < D:=by simpa using h
      rw [if_pos om] at hR;refine ae ?_;simp only [a₀] at hR;obtain⟨rfl,rfl,rfl⟩:=hR;refine ae ?_;refine av ?_;exact en [_,_,_]
  · have hD1:(D:Int) < 1:=by simpa using h
    rw [if_pos om] at hR;refine ae ?_;simp only [a₀] at hR;obtain⟨rfl,rfl,rfl⟩:=hR;refine ae ?_;refine av ?_;exact en [_,_,_]
theorem IJ {b:List UInt8} (hb:b.length < 1000000000) {n:Nat}:aH Tryz.prog G 231 [.sl (b.length - n) (cutL (u8s b) n b.length)] [] 0 (.tup [db (eL (b.drop n)).1, .int .i64 (eL (b.drop n)).2.1, .int .i64 (eL (b.drop n)).2.2]) [] 0:=by
 have:=Nn (G:=G) (b.drop n) (by rw [a₁];omega);rw [a₁] at this;rw [cut_u8,a₉ (by rw [a₁];omega)];exact this
theorem wG (b:List UInt8) (hb:b.length < 1000000000):aH Tryz.prog G 194 [.sl b.length (u8s b)] [] 0 (.tup [.sl (aJ b).1.length ((aJ b).1.map db), .int .i64 (aJ b).2.1, .int .i64 (aJ b).2.2]) [] 0:=by
  generalize hr:aJ b=r;obtain⟨l,at1,e1⟩:=r;dsimp only;refine bR seat Tryz.func194 36 ?_;refine ae ?_;refine ar (Nat×List fA) (fun x=> [(3, .int .i64 x.1),(2, .ms 0 4 0 x.2.length),(0, .sl b.length (u8s b))]) (fun x=> [(0,⟨188,4,true,0,x.2.map db⟩)]) 1 (fun x=>x.1≤b.length∧x.2.length≤1024∧eU (1024 - x.2.length) (b.drop x.1) x.1 x.2=(l,at1,e1)) (fun x=>b.length - x.1) (0,[]) ⟨a₅ _,a₅ _,by dsimp only;rw [a₈];exact hr⟩ (by dsimp only;exact(vm [] [])) ?_;rintro⟨i,acc⟩ ⟨hi,ha,hG⟩;try dsimp only
  dsimp only at hi ha hG;refine ae ?_;refine ad rfl ?_ ?_ <;> intro h
  · have hi':i < b.length:=by have:=ot h;omega
    have hne:=DH hi';refine ae ?_;refine ad rfl ?_ ?_ <;> intro h
    · have h4:acc.length=1024:=by have:=eq_of_beq h;omega
      rw [h4,Nat.sub_self,kJ hne] at hG;simp only [a₀] at hG;obtain⟨rfl,rfl,rfl⟩:=hG;refine ae ?_;exact en [_,_,_]
    · have h4:acc.length < 1024:=by
        have: ¬ (acc.length:Int)=1024:=by simpa using h
        omega
      have c1:=IJ (G:=G) hb (n:=i);have hok:=Ce (b:=b.drop i);rw [show 1024 - acc.length=(1023 - acc.length) + 1 by omega,kK hne] at hG;generalize eL (b.drop i)=o at *;obtain⟨f,m,e⟩:=o;dsimp only at c1 hok hG;(have fct:=al.mk (gm (κ:= .i64) hi);have fct:=bN.mk (cG b);refine ae ?_);refine jS (c1) ?_;refine ad rfl ?_ ?_ <;> intro h
      · have he:e≠0:=by intro h0;subst h0;cases h
        rw [if_pos he] at hG;simp only [a₀] at hG;obtain⟨rfl,rfl,rfl⟩:=hG;refine ae ?_;exact en [_,_,_]
      · have he:e=0:=by
          have:(e:Int)=0:=by simpa using h
          omega
        subst he;rw [if_neg sm,List.drop_drop] at hG;have hok:=hok rfl;rw [a₁] at hok;refine ae ?_;refine aY rfl rfl (by intro R hR;refine dM hR ?_;(refine b₃ (c₅ _) ?_;refine⟨_,rfl,?_⟩;refine b₃ ⟨sm,aE (by kernel_rfl) pf⟩ ?_;refine⟨(acc ++ [f]).map db,sv (by simp;rfl),acc.length + 1,sv pf,?_⟩);exact hR) rfl ?_;refine ae ?_;refine⟨(i + m,acc ++ [f]),⟨dm,by dsimp only;rw [b₄,b₀];omega,?_⟩,by show b.length - (i + m) < b.length - i;omega,?_⟩
        · dsimp only;rw [b₄,b₀,show 1024 - (acc.length + 1)=1023 - acc.length by omega];exact hG
        · dsimp only;rw [b₄,b₀];exact(vm [(0,_)] [])
  · have hi':b.length≤i:=by have:=oF h;omega
    rw [d₂ hi',lW] at hG;simp only [a₀] at hG;obtain⟨rfl,rfl,rfl⟩:=hG;refine ae ?_;refine⟨[_,_,_],[],[(0,acc.length)],rfl,rfl,?_,rfl,⟨?_,?_,?_,trivial⟩,?_⟩
    · exact⟨by show acc.length≤(acc.map db).length;simp,trivial⟩
    · exact .inr ⟨rfl,rfl,rfl,Nat.le_of_eq (c₁ _),bT db acc⟩
    · exact rv
    · exact rv
    · exact mm
end
end Go.Proofs.YthdhlcicpcnbhaaGreatDoor
namespace Go.Proofs
open Go.Shelf
def Tryz.lays134_ren:Go.Shelf.Ren:=⟨fun | 134=>249 | 129=>188 | n=>n,fun | 53=>22 | 3=>3 | 4=>4 | 46=>160 | 5=>5 | 9=>9 | n=>n,fun | n=>n⟩
theorem Tryz.lays134:Go.Proofs.Lays.n134 Tryz.prog Tryz.lays134_ren:={
 mixed:=by kernel_rfl
 f129:=Tryz.func188.trans (congrArg some (by kernel_rfl))
 f134:=Tryz.func249.trans (congrArg some (by kernel_rfl))
 t3:=Tryz.underlying3
 a3:=Tryz.isAgg3
 z3:=Tryz.sizeOf3
 v3:=Tryz.zeroValue3
 t4:=Tryz.underlying4
 a4:=Tryz.isAgg4
 z4:=Tryz.sizeOf4
 v4:=Tryz.zeroValue4
 t5:=Tryz.underlying5
 a5:=Tryz.isAgg5
 z5:=Tryz.sizeOf5
 v5:=Tryz.zeroValue5
 t9:=Tryz.underlying9
 a9:=Tryz.isAgg9
 z9:=Tryz.sizeOf9
 v9:=Tryz.zeroValue9
 t46:=Tryz.underlying160
 a46:=Tryz.isAgg160
 z46:=Tryz.sizeOf160
 v46:=Tryz.zeroValue160
 t53:=Tryz.underlying22
 a53:=Tryz.isAgg22
 z53:=Tryz.sizeOf22
 v53:=Tryz.zeroValue22 }
theorem Tryz.bits_LeadingZeros64 (x:Int) (w:World) (h0:0≤x) (h1:x≤18446744073709551615) :
  Calls Tryz.prog 249 #[.int .u64 x] w fun e w'=>e= .returned (.int .i64 (64 - (Lib.bitLen x.toNat:Int)))∧w'=w:=Any.bits_LeadingZeros64 Tryz.lays134 x w h0 h1
def Tryz.lays197_ren:Go.Shelf.Ren:=⟨fun | 197=>248 | 260=>255 | n=>n,fun | 9=>9 | 21=>21 | 3=>3 | 4=>4 | 5=>5 | 105=>292 | 119=>298 | 0=>0 | 46=>160 | 139=>301 | 138=>300 | n=>n,fun | 3=>2 | 4=>3 | n=>n⟩
theorem Tryz.lays197:Go.Proofs.Lays.n197 Tryz.prog Tryz.lays197_ren:={
 mixed:=by kernel_rfl
 f197:=Tryz.func248.trans (congrArg some (by kernel_rfl))
 f260:=Tryz.func255.trans (congrArg some (by kernel_rfl))
 t0:=Tryz.underlying0
 a0:=Tryz.isAgg0
 z0:=Tryz.sizeOf0
 v0:=Tryz.zeroValue0
 t3:=Tryz.underlying3
 a3:=Tryz.isAgg3
 z3:=Tryz.sizeOf3
 v3:=Tryz.zeroValue3
 t4:=Tryz.underlying4
 a4:=Tryz.isAgg4
 z4:=Tryz.sizeOf4
 v4:=Tryz.zeroValue4
 t5:=Tryz.underlying5
 a5:=Tryz.isAgg5
 z5:=Tryz.sizeOf5
 v5:=Tryz.zeroValue5
 t9:=Tryz.underlying9
 a9:=Tryz.isAgg9
 z9:=Tryz.sizeOf9
 v9:=Tryz.zeroValue9
 t21:=Tryz.underlying21
 a21:=Tryz.isAgg21
 z21:=Tryz.sizeOf21
 v21:=Tryz.zeroValue21
 t46:=Tryz.underlying160
 a46:=Tryz.isAgg160
 z46:=Tryz.sizeOf160
 v46:=Tryz.zeroValue160
 t105:=Tryz.underlying292
 a105:=Tryz.isAgg292
 z105:=Tryz.sizeOf292
 v105:=Tryz.zeroValue292
 t119:=Tryz.underlying298
 a119:=Tryz.isAgg298
 z119:=Tryz.sizeOf298
 t138:=Tryz.underlying300
 a138:=Tryz.isAgg300
 z138:=Tryz.sizeOf300
 v138:=Tryz.zeroValue300
 t139:=Tryz.underlying301
 a139:=Tryz.isAgg301
 z139:=Tryz.sizeOf301
 v139:=Tryz.zeroValue301
 g3:=by kernel_rfl
 g4:=by kernel_rfl }
open Go.RowKit Go.Lib in
theorem Tryz.utf8_DecodeRuneInString (s:ByteArray) (w:World) (hT:Lib.Utf8Tabs 2 3 w) :
  Calls Tryz.prog 248 #[.string s] w fun e w'=>e= .returned (.tuple #[.int .i32 (Lib.decodeGo s).1, .int .i64 (Lib.decodeGo s).2])∧Below w.heap.size w w':=Any.utf8_DecodeRuneInString Tryz.lays197 s w hT
end Go.Proofs
namespace Go.Proofs.YthdhlcicpcnbhaaGreatDoor
open Go.RowKit
section
def LU (g:Nat):Prop:=g=2∨g=3
def UtfOK (w:World):Prop:=Lib.Utf8Tabs 2 3 w
theorem UtfOK.same {w w':World} (h:UtfOK w) (hs: ∀g,LU g→w'.heap[g]? =w.heap[g]?):UtfOK w':=
 ⟨fun c hc=>(gw (hs _ (.inl rfl))).trans (h.1 c hc),fun i hi=>⟨(gw (hs _ (.inr rfl))).trans (h.2 i hi).1,(gw (hs _ (.inr rfl))).trans (h.2 i hi).2⟩⟩
theorem UtfOK.lt {w:World} (h:UtfOK w) {g:Nat} (hg:LU g):g < w.heap.size:=by
 rcases hg with rfl | rfl
 ·exact World.block_lt_of_cell? _ _ (h.1 0 om)
 ·exact World.block_lt_of_cell? _ _ (h.2 0 om).1
def GU:GS:=⟨UtfOK,LU,fun _ _ h hg=>h.lt hg,fun _ _ _ h hx hs=>h.same fun _ hg=>hs.block _ (h.lt hg) (fun e=>hx _ e hg)⟩
theorem Li (s:List UInt8):aD Tryz.prog GU 248 [.str s] (.tup [.int .i32 (Lib.decodeGo ⟨s.toArray⟩).1, .int .i64 (Lib.decodeGo ⟨s.toArray⟩).2]):=by
 intro w P vals hg hP hargs;cases hargs with
 | cons h t=>
  cases t with
  | nil=>
   obtain rfl:=h.str_;refine(Tryz.utf8_DecodeRuneInString ⟨s.toArray⟩ w hg).mono ?_;rintro e w' ⟨rfl,hb⟩;refine⟨_,rfl, .tup [.int .i32 (Lib.decodeGo ⟨s.toArray⟩).1, .int .i64 (Lib.decodeGo ⟨s.toArray⟩).2] rfl fun j m u hm hu=>?_,hb⟩
   match j with
   | 0=>simp at hm hu;subst hm hu;exact⟨_, .int,rfl⟩
   | 1=>simp at hm hu;subst hm hu;exact⟨_, .int,rfl⟩
   | j + 2=>simp at hm
def gh (n b0 b1 b2 b3:Nat):Nat:=
 if b0 < 128 then 1 else
 if 194≤b0∧b0 < 224∧(1 < n∧128≤b1∧b1 < 192) then 2 else
 if 224≤b0∧b0 < 240∧(1 < n∧128≤b1∧b1 < 192)∧(2 < n∧128≤b2∧b2 < 192) then
  (if b0=224∧b1 < 160∨b0=237∧160≤b1 then 0 else 3) else
 if 240≤b0∧b0 < 245∧(1 < n∧128≤b1∧b1 < 192)∧(2 < n∧128≤b2∧b2 < 192)∧(3 < n∧128≤b3∧b3 < 192) then
  (if b0=240∧b1 < 144∨b0=244∧144≤b1 then 0 else 4) else 0
theorem FZ (n b0 b1 b2 b3:Nat) (h0:b0 < 256) (h1:b1 < 256) (h2:b2 < 256) (h3:b3 < 256) :
  (gh n b0 b1 b2 b3=0→Lib.decodeN n b0 b1 b2 b3=(65533,1))∧(gh n b0 b1 b2 b3≠0→(Lib.decodeN n b0 b1 b2 b3).2=gh n b0 b1 b2 b3∧¬ ((Lib.decodeN n b0 b1 b2 b3).1=65533∧(Lib.decodeN n b0 b1 b2 b3).2=1)):=by
 have key: ∀(r:Nat) (d:Nat×Nat),gh n b0 b1 b2 b3=r→Lib.decodeN n b0 b1 b2 b3=d→(r=0→d=(65533,1))→(r≠0→d.2=r∧¬ (d.1=65533∧d.2=1))→(gh n b0 b1 b2 b3=0→Lib.decodeN n b0 b1 b2 b3=(65533,1))∧(gh n b0 b1 b2 b3≠0→(Lib.decodeN n b0 b1 b2 b3).2=gh n b0 b1 b2 b3∧¬ ((Lib.decodeN n b0 b1 b2 b3).1=65533∧(Lib.decodeN n b0 b1 b2 b3).2=1)):=by
  intro r d e1 e2 e3 e4
  rw [e1,e2]
  exact⟨e3,e4⟩
 have bad:gh n b0 b1 b2 b3=0→Lib.decodeN n b0 b1 b2 b3=(65533,1)→_:=fun e1 e2=>key 0 _ e1 e2 (fun _=>rfl) (fun h=>absurd rfl h)
 by_cases a0:b0 < 128
 ·refine key 1 (b0,1) (by unfold gh;rw [if_pos a0]) (by unfold Lib.decodeN;rw [if_pos a0]) (fun h=>by cases h) (fun _=>⟨rfl,dm⟩)
 by_cases a1:b0 < 224
 ·by_cases c1:194≤b0∧1 < n∧b1 / 64=2
  ·refine key 2 (b0 % 32 * 64 + b1 % 64,2) ?_ ?_ (fun h=>by cases h) (fun _=>⟨rfl,dm⟩)
   ·unfold gh
    (repeat(first | rw [if_pos (by omega)] | rw [if_neg (by omega)]))
   ·unfold Lib.decodeN
    (repeat(first | rw [if_pos (by omega)] | rw [if_neg (by omega)]))
  ·refine bad ?_ ?_
   ·unfold gh
    (repeat(first | rw [if_pos (by omega)] | rw [if_neg (by omega)]))
   ·unfold Lib.decodeN
    by_cases c2:b0 / 32=6∧1 < n∧b1 / 64=2
    ·(repeat(first | rw [if_pos (by omega)] | rw [if_neg (by omega)]))
    ·(repeat(first | rw [if_pos (by omega)] | rw [if_neg (by omega)]))
 by_cases a2:b0 < 240
 ·by_cases c1:(1 < n∧b1 / 64=2)∧2 < n∧b2 / 64=2
  ·by_cases c2:b0=224∧b1 < 160∨b0=237∧160≤b1
   ·refine bad ?_ ?_
    ·unfold gh
     (repeat(first | rw [if_pos (by omega)] | rw [if_neg (by omega)]))
    ·unfold Lib.decodeN
     (repeat(first | rw [if_pos (by omega)] | rw [if_neg (by omega)]))
   ·refine key 3 (b0 % 16 * 4096 + b1 % 64 * 64 + b2 % 64,3) ?_ ?_ (fun h=>by cases h) (fun _=>⟨rfl,dm⟩)
    ·unfold gh
     (repeat(first | rw [if_pos (by omega)] | rw [if_neg (by omega)]))
    ·unfold Lib.decodeN
     (repeat(first | rw [if_pos (by omega)] | rw [if_neg (by omega)]))
  ·refine bad ?_ ?_
   ·unfold gh
    (repeat(first | rw [if_pos (by omega)] | rw [if_neg (by omega)]))
   ·unfold Lib.decodeN
    (repeat(first | rw [if_pos (by omega)] | rw [if_neg (by omega)]))
 by_cases c1:(1 < n∧b1 / 64=2)∧(2 < n∧b2 / 64=2)∧3 < n∧b3 / 64=2
 ·by_cases c2:b0 < 245∧¬ (b0=240∧b1 < 144∨b0=244∧144≤b1)
  ·refine key 4 (b0 % 8 * 262144 + b1 % 64 * 4096 + b2 % 64 * 64 + b3 % 64,4) ?_ ?_ (fun h=>by cases h) (fun _=>⟨rfl,dm⟩)
   ·unfold gh
    (repeat(first | rw [if_pos (by omega)] | rw [if_neg (by omega)]))
   ·unfold Lib.decodeN
    (repeat(first | rw [if_pos (by omega)] | rw [if_neg (by omega)]))
  ·refine bad ?_ ?_
   ·unfold gh
    by_cases c3:b0 < 245
    ·(repeat(first | rw [if_pos (by omega)] | rw [if_neg (by omega)]))
    ·(repeat(first | rw [if_pos (by omega)] | rw [if_neg (by omega)]))
   ·unfold Lib.decodeN
    by_cases c3:b0 / 8=30
    ·(repeat(first | rw [if_pos (by omega)] | rw [if_neg (by omega)]))
    ·(repeat(first | rw [if_pos (by omega)] | rw [if_neg (by omega)]))
 ·refine bad ?_ ?_
  ·unfold gh
   (repeat(first | rw [if_pos (by omega)] | rw [if_neg (by omega)]))
  ·unfold Lib.decodeN
   (repeat(first | rw [if_pos (by omega)] | rw [if_neg (by omega)]))
theorem OE (s:List UInt8) (i:Nat):(⟨s.toArray⟩:ByteArray).get! i=s.getD i 0:=by
 show s.toArray[i]! =_
 rw [Array.getElem!_eq_getD,Array.getD_eq_getD_getElem?];simp [default]
theorem CC {s:List UInt8} {i k:Nat}:dY s (i + k)=true↔(k < s.length - i∧128≤(s.getD (i + k) 0).toNat∧(s.getD (i + k) 0).toNat < 192):=by
 unfold dY;simp only [Bool.and_eq_true,decide_eq_true_eq];omega
theorem Lj (s:List UInt8) (i:Nat):mc s i=gh (s.length - i) (s.getD i 0).toNat (s.getD (i + 1) 0).toNat (s.getD (i + 2) 0).toNat (s.getD (i + 3) 0).toNat:=by
 unfold mc gh;simp only [CC]
theorem dec_at (s:List UInt8) (i:Nat):Utf8.decode ⟨s.toArray⟩ i=Lib.decodeN (s.length - i) (s.getD i 0).toNat (s.getD (i + 1) 0).toNat (s.getD (i + 2) 0).toNat (s.getD (i + 3) 0).toNat:=by
 rw [Lib.decode_at];simp only [OE];rw [show (⟨s.toArray⟩:ByteArray).size=s.length by simp [ByteArray.size]]
theorem CD {s:List UInt8} {i:Nat} (hi:i < s.length):Lib.decodeGo ⟨(s.drop i).toArray⟩=Utf8.decode ⟨s.toArray⟩ i:=by
 have hsz:(⟨(s.drop i).toArray⟩:ByteArray).size=s.length - i:=by simp [ByteArray.size]
 unfold Lib.decodeGo;rw [if_neg (by rw [hsz];omega),dec_at,dec_at];simp only [a₁,Nat.sub_zero,List.getD_eq_getElem?_getD,List.getElem?_drop,Nat.add_zero,c₁]
theorem Lk (n:Nat):yV (n:Int)=some n:=by unfold yV;rw [if_pos om];rfl
theorem Ll {s:List UInt8} {pos:Nat} (h:pos < s.length):sw s pos=some (Utf8.decode ⟨s.toArray⟩ pos):=by unfold sw;rw [if_pos h]
theorem Lm {s:List UInt8} {pos:Nat} (h: ¬ pos < s.length):sw s pos=none:=by unfold sw;rw [if_neg h]
attribute [local irreducible] aj aC aG aL aO vC aU au
attribute [local irreducible] yV sw
theorem Ln (s:List UInt8) (hs:s.length < 500000000):aD Tryz.prog GU 234 [.str s] (.bool (ra s)):=by
 generalize hr:ra s=r;unfold ra me at hr;generalize hv:iX s.length s 0 0=v at hr;obtain⟨V,ok⟩:=v;dsimp only at hr;refine aZ seat Tryz.func234 31 ?_;refine ae ?_;refine ar (Nat×Nat×Nat) (fun x=> [(9, .ptr 0 0 0 0 []),(3, .int .i64 x.2.2),(0, .str s)]) (fun x=> [(0,⟨9,0,false,0,[.mpv [.str s] [.nilp, .int .i64 (x.2.1:Nat)]]⟩)]) 1 (fun x=>iX x.1 s x.2.1 x.2.2=(V,ok)∧s.length≤x.2.1 + x.1∧x.2.2≤x.2.1∧x.2.1≤s.length + 4) (fun x=>x.1) (s.length,0,0) ⟨hv,dm,dm,dm⟩ (by dsimp only;exact(vm [(0,_)] [])) ?_;clear hv;rintro⟨f,pos,cnt⟩ ⟨hR,hf,hc,hp⟩;try dsimp only
 dsimp only at hR hf hc hp;have f0:=al.mk (Lk pos);by_cases hi:pos < s.length
 ·have c0:=Li (s.drop pos);rw [CD hi,← a₉ (l:=s.drop pos) (i:=s.length - pos) (by rw [a₁];omega)] at c0;have hlaw:=FZ (s.length - pos) (s.getD pos 0).toNat (s.getD (pos + 1) 0).toNat (s.getD (pos + 2) 0).toNat (s.getD (pos + 3) 0).toNat (UInt8.toNat_lt _) (UInt8.toNat_lt _) (UInt8.toNat_lt _) (UInt8.toNat_lt _);rw [← Lj,← dec_at] at hlaw;have f1:=Ll hi;have hle:=Am s pos;obtain⟨f',rfl⟩: ∃f',f=f' + 1:=⟨f - 1,om⟩
  rw [iX,if_pos hi] at hR;generalize mc s pos=k at *;generalize Utf8.decode ⟨s.toArray⟩ pos=cw at *;obtain⟨c,wd⟩:=cw;dsimp only at c0 hlaw;have f1:=aT.mk f1;have hlo:=gm (κ:= .i64) (d₇ hi);have f2:=al.mk hlo;by_cases hk:k=0
  ·rw [if_pos hk] at hR;have h2:=hlaw.1 hk;simp only [a₀] at h2 hR;obtain⟨rfl,rfl⟩:=h2;obtain⟨rfl,rfl⟩:=hR;refine ae ?_;refine cC (c0) ?_;subst hr;refine av ?_;rfl
  ·rw [if_neg hk] at hR;have h2:=hlaw.2 hk;obtain⟨rfl,h3⟩:=h2;refine ae ?_;refine cC (c0) ?_;refine ah rfl rfl ?_ rfl ?_ <;> intro h
   ·have hc2:c=65533:=by have:=eq_of_beq h;omega
    refine ae ?_;refine ad rfl ?_ ?_ <;> intro h
    ·exact absurd ⟨hc2,by have:=eq_of_beq h;omega⟩ h3
    refine ae ?_;exact⟨(f',pos + wd,cnt + 1),⟨hR,dm,dm,dm⟩,by show f' < f' + 1;omega,(by dsimp only;exact(vm [(0,_)] []))⟩
   ·refine ae ?_;exact⟨(f',pos + wd,cnt + 1),⟨hR,dm,dm,dm⟩,by show f' < f' + 1;omega,(by dsimp only;exact(vm [(0,_)] []))⟩
 ·have f1:=aT.mk (Lm hi);have:iX f s pos cnt=(cnt,true):=by cases f with | zero=>rfl | succ f=>rw [iX,if_neg hi]
  rw [this] at hR;simp only [a₀] at hR;obtain⟨rfl,rfl⟩:=hR;subst hr;refine ae ?_;refine av ?_;exact congrArg MV.bool (decide_eq_decide.2 om)
end
section
attribute [local irreducible] aj aC aG aL aO vC aU au
theorem CE (t:iJ) (ht:gE t):aD Tryz.prog GU 198 [nh t] (.int .i64 (cU t)):=by
 obtain⟨sender,seq,gas,fee,memo,trs⟩:=t;obtain⟨h1,h2,h3,h4,h5,h6,h7⟩:=ht;dsimp only at h1 h2 h3 h4 h5 h6 h7;have c1:=rX (G:=GU) sender om;have c2:=Ln memo om;generalize hr:cU _=r;unfold cU at hr;unfold nh;dsimp only at hr ⊢;generalize dj sender=b1 at *;generalize ra memo=b2 at *;cases b1 with
 | false=>
  rw [if_pos rfl] at hr;subst hr;refine aZ seat Tryz.func198 45 ?_;(iterate 2 ((all_goals(refine ae ?_));(all_goals(first | (refine ai rfl (fun _ h=>h) rfl (aa (c1)) rfl rfl ?_) | ((first | refine ah rfl rfl ?_ rfl ?_ | refine ad rfl ?_ ?_);all_goals(intro h;(try simp only [pl] at h);(try (exfalso;omega)))) | skip))));refine av ?_;rfl
 | true=>
 rw [if_neg sm] at hr;by_cases hg:gas=0
 ·rw [if_pos hg] at hr;subst hr;refine aZ seat Tryz.func198 45 ?_;(iterate 3 ((all_goals(refine ae ?_));(all_goals(first | (refine ai rfl (fun _ h=>h) rfl (aa (c1)) rfl rfl ?_) | ((first | refine ah rfl rfl ?_ rfl ?_ | refine ad rfl ?_ ?_);all_goals(intro h;(try simp only [pl] at h);(try (exfalso;omega)))) | skip))));refine av ?_;rfl
 rw [if_neg hg] at hr;cases b2 with
 | false=>
  rw [if_pos rfl] at hr;subst hr;refine aZ seat Tryz.func198 45 ?_;(iterate 4 ((all_goals(refine ae ?_));(all_goals(first | (refine ai rfl (fun _ h=>h) rfl (aa (c1)) rfl rfl ?_) | (refine ai rfl (fun _ h=>h) rfl (aa (c2)) rfl rfl ?_) | ((first | refine ah rfl rfl ?_ rfl ?_ | refine ad rfl ?_ ?_);all_goals(intro h;(try simp only [pl] at h);(try (exfalso;omega)))) | skip))));refine av ?_;rfl
 | true=>
 rw [if_neg sm] at hr;by_cases hl:trs.length=0∨16 < trs.length
 ·rw [if_pos hl] at hr;subst hr;refine aZ seat Tryz.func198 45 ?_;(iterate 6 ((all_goals(refine ae ?_));(all_goals(first | (refine ai rfl (fun _ h=>h) rfl (aa (c1)) rfl rfl ?_) | (refine ai rfl (fun _ h=>h) rfl (aa (c2)) rfl rfl ?_) | ((first | refine ah rfl rfl ?_ rfl ?_ | refine ad rfl ?_ ?_);all_goals(intro h;(try simp only [pl] at h);(try (exfalso;omega)))) | skip))));all_goals(refine av ?_;rfl)
 rw [if_neg hl] at hr;refine aZ seat Tryz.func198 45 ?_;(iterate 6 ((all_goals(refine ae ?_));(all_goals(first | (refine ai rfl (fun _ h=>h) rfl (aa (c1)) rfl rfl ?_) | (refine ai rfl (fun _ h=>h) rfl (aa (c2)) rfl rfl ?_) | ((first | refine ah rfl rfl ?_ rfl ?_ | refine ad rfl ?_ ?_);all_goals(intro h;(try simp only [pl] at h);(try (exfalso;omega)))) | skip))));refine ar Nat (fun k=> [(33, .int .i64 k),(32, .int .i64 trs.length),(31, .sl trs.length (trs.map lh))]) (fun _=> []) 0 (fun k=>k≤trs.length∧tP (trs.drop k)=r) (fun k=>trs.length - k) 0 ⟨a₅ _,by rw [a₈];exact hr⟩ (vm [] []) ?_;rintro k ⟨hk,hR⟩;try dsimp only
 refine ae ?_;refine ad rfl ?_ ?_ <;> intro h
 ·have hk':k < trs.length:=by have:=ot h;omega
  have hx:=h7 _ (c₀ hk');have hel:=al.mk (kP hk');rw [a₄ hk',tP] at hR;generalize trs[k] =x at *;have d1:=rX (G:=GU) x.to_ (by have:=hx.1;omega);generalize dj x.to_=b at *;cases b with
  | false=>
   rw [if_pos rfl] at hR;subst hR;(iterate 3 ((all_goals(refine ae ?_));(all_goals(first | (refine ai rfl (fun _ h=>h) rfl (aa (d1)) rfl rfl ?_) | ((first | refine ah rfl rfl ?_ rfl ?_ | refine ad rfl ?_ ?_);all_goals(intro h;(try simp only [pl] at h);(try (exfalso;omega)))) | skip))));refine av ?_;rfl
  | true=>
   rw [if_neg sm] at hR;by_cases hz:x.amt=0
   ·rw [if_pos hz] at hR;subst hR;(iterate 4 ((all_goals(refine ae ?_));(all_goals(first | (refine ai rfl (fun _ h=>h) rfl (aa (d1)) rfl rfl ?_) | ((first | refine ah rfl rfl ?_ rfl ?_ | refine ad rfl ?_ ?_);all_goals(intro h;(try simp only [pl] at h);(try (exfalso;omega)))) | skip))));refine av ?_;rfl
   ·rw [if_neg hz] at hR;(iterate 4 ((all_goals(refine ae ?_));(all_goals(first | (refine ai rfl (fun _ h=>h) rfl (aa (d1)) rfl rfl ?_) | ((first | refine ah rfl rfl ?_ rfl ?_ | refine ad rfl ?_ ?_);all_goals(intro h;(try simp only [pl] at h);(try (exfalso;omega)))) | skip))));exact⟨k + 1,⟨om,hR⟩,by show trs.length - (k + 1) < trs.length - k;omega,(by dsimp only;exact(vm [] []))⟩
 ·have hk':k=trs.length:=by have:=oF h;omega
  subst hk';rw [b₇,tP] at hR;subst hR;refine ae ?_;refine av ?_;rfl
theorem F0 (a b:List UInt8):aD Tryz.prog GU 196 [.sl a.length (u8s a), .sl b.length (u8s b)] (.bool (a == b)):=by
 have f1:=al.mk (er a);have f2:=al.mk (er b);refine aZ seat Tryz.func196 10 ?_;refine ae ?_;refine av ?_;rfl
theorem AO (b:List UInt8) (hb:b.length≤5000):aH Tryz.prog GU 232 [.sl b.length (u8s b)] [] 0 (lh (gQ b)) [] 0:=by
 have c0:=wG (G:=GU) b om;have hfo:=eX b;generalize hr:gQ b=r;unfold gQ at hr;generalize aJ b=t at *;obtain⟨l,at1,e⟩:=t;dsimp only at hr hfo c0;unfold lh;refine bR seat Tryz.func232 36 ?_;refine ae ?_;refine jS (c0) ?_;refine ar (Nat×kM) (fun x=> [(17, .int .i64 x.1),(16, .int .i64 l.length),(15, .sl l.length (l.map db)),(3, .ptr 1 2 0 0 []),(2, .ptr 0 2 0 0 [])]) (fun x=> [(0,⟨129,2,false,0,[.st [.str [], .int .u64 0]]⟩),(1,⟨129,2,false,0,[.st [.str x.2.to_, .int .u64 x.2.amt]]⟩)]) 2 (fun x=>x.1≤l.length∧uw (l.drop x.1) x.2=r) (fun x=>l.length - x.1) (0,⟨[],0⟩) ⟨a₅ _,by dsimp only;rw [a₈];exact hr⟩ (by dsimp only;exact(vm [(0,_),(1,_)] [])) ?_;rintro⟨k,x⟩ ⟨hk,hR⟩;obtain⟨to_,amt⟩:=x;try dsimp only
 dsimp only at hk hR;refine ae ?_;refine ad rfl ?_ ?_ <;> intro h
 ·have hk':k < l.length:=by have:=ot h;omega
  have hel:=o5 hk';rw [a₄ hk'] at hR;generalize l[k] =f at *;obtain⟨num,kind,val,bytes⟩:=f;replace hel:cS (l.map db) l.length (k:Int)=some (.st [.int .i64 num, .int .i64 kind, .int .u64 val, .sl bytes.length (u8s bytes)]):=hel;have hel:=al.mk hel;have hby:=al.mk (er bytes);rw [uw] at hR;dsimp only at hR;by_cases g1:num=1
  ·rw [if_pos g1] at hR;subst g1;(iterate 6 ((all_goals(refine ae ?_));(all_goals(first | ((first | refine ah rfl rfl ?_ rfl ?_ | refine ad rfl ?_ ?_);all_goals(intro h;(try simp only [pl] at h);(try (exfalso;omega)))) | skip))));exact⟨(k + 1,⟨bytes,amt⟩),⟨dm,hR⟩,by show l.length - (k + 1) < l.length - k;omega,(by dsimp only;exact(vm [(0,_),(1,_)] []))⟩
  rw [if_neg g1] at hR;by_cases g2:num=2
  ·rw [if_pos g2] at hR;subst g2;(iterate 6 ((all_goals(refine ae ?_));(all_goals(first | ((first | refine ah rfl rfl ?_ rfl ?_ | refine ad rfl ?_ ?_);all_goals(intro h;(try simp only [pl] at h);(try (exfalso;omega)))) | skip))));exact⟨(k + 1,⟨to_,val⟩),⟨dm,hR⟩,by show l.length - (k + 1) < l.length - k;omega,(by dsimp only;exact(vm [(0,_),(1,_)] []))⟩
  ·rw [if_neg g2] at hR;(iterate 6 ((all_goals(refine ae ?_));(all_goals(first | ((first | refine ah rfl rfl ?_ rfl ?_ | refine ad rfl ?_ ?_);all_goals(intro h;(try simp only [pl] at h);(try (exfalso;omega)))) | skip))));exact⟨(k + 1,⟨to_,amt⟩),⟨dm,hR⟩,by show l.length - (k + 1) < l.length - k;omega,(by dsimp only;exact(vm [(0,_),(1,_)] []))⟩
 ·have hk':k=l.length:=by have:=oF h;omega
  subst hk';rw [b₇,uw] at hR;subst hR;refine ae ?_;refine av ?_;refine⟨[_],[],[],rfl,rfl,trivial,rfl,⟨?_,trivial⟩,?_⟩
  ·exact .inl ⟨rfl,rfl⟩
  ·exact mm
theorem Lo (l:List fA) (hl: ∀f∈l,jw f∧f.bytes.length≤5000) (hn:l.length≤1024):aH Tryz.prog GU 195 [.sl l.length (l.map db)] [] 0 (nh (fm l tx0)) [] 0:=by
 generalize hr:fm l tx0=R;refine bR seat Tryz.func195 53 ?_;refine ae ?_;refine ar (Nat×iJ) (fun x=> [(8, .int .i64 x.1),(7, .int .i64 l.length),(6, .sl l.length (l.map db)),(3, .ptr 1 6 0 0 []),(2, .ptr 0 6 0 0 [])]) (fun x=> [(0,⟨100,6,false,0,[.st [.str [], .int .u64 0, .int .u64 0, .int .u64 0, .str [], .nils]]⟩),(1,⟨100,6,false,0,[.st [.str x.2.sender, .int .u64 x.2.seq, .int .u64 x.2.gas, .int .u64 x.2.fee, .str x.2.memo, .ms 2 2 0 x.2.trs.length]]⟩),(2,⟨129,2,true,0,x.2.trs.map lh⟩)]) 3 (fun x=>x.1≤l.length∧x.2.trs.length≤x.1∧fm (l.drop x.1) x.2=R) (fun x=>l.length - x.1) (0,tx0) ⟨a₅ _,a₅ _,by dsimp only;rw [a₈];exact hr⟩ (by dsimp only;exact(vm [(0,_),(1,_)] [])) ?_;rintro⟨k,t⟩ ⟨hk,ht,hR⟩;obtain⟨sender,seq,gas,fee,memo,trs⟩:=t;try dsimp only
 dsimp only at hk ht hR;refine ae ?_;refine ad rfl ?_ ?_ <;> intro h
 ·have hk':k < l.length:=by have:=ot h;omega
  have hok:=hl _ (c₀ hk');have hel:=o5 hk';rw [a₄ hk'] at hR;generalize l[k] =f at *;obtain⟨num,kind,val,bytes⟩:=f;replace hel:cS (l.map db) l.length (k:Int)=some (.st [.int .i64 num, .int .i64 kind, .int .u64 val, .sl bytes.length (u8s bytes)]):=hel;have hel:=al.mk hel;have hby:=al.mk (er bytes);rw [fm] at hR;dsimp only at hR hok;by_cases g1:num=1
  ·rw [if_pos g1] at hR;subst g1;(iterate 4 ((all_goals(refine ae ?_));(all_goals(first | ((first | refine ah rfl rfl ?_ rfl ?_ | refine ad rfl ?_ ?_);all_goals(intro h;(try simp only [pl] at h);(try (exfalso;omega)))) | skip))));exact⟨(k + 1,⟨bytes,seq,gas,fee,memo,trs⟩),⟨dm,dm,hR⟩,by show l.length - (k + 1) < l.length - k;omega,(by dsimp only;exact(vm [(0,_),(1,_),(2,_)] []))⟩
  rw [if_neg g1] at hR;by_cases g2:num=2
  ·rw [if_pos g2] at hR;subst g2;(iterate 6 ((all_goals(refine ae ?_));(all_goals(first | ((first | refine ah rfl rfl ?_ rfl ?_ | refine ad rfl ?_ ?_);all_goals(intro h;(try simp only [pl] at h);(try (exfalso;omega)))) | skip))));exact⟨(k + 1,⟨sender,val,gas,fee,memo,trs⟩),⟨dm,dm,hR⟩,by show l.length - (k + 1) < l.length - k;omega,(by dsimp only;exact(vm [(0,_),(1,_),(2,_)] []))⟩
  rw [if_neg g2] at hR;by_cases g3:num=3
  ·rw [if_pos g3] at hR;subst g3;(iterate 8 ((all_goals(refine ae ?_));(all_goals(first | ((first | refine ah rfl rfl ?_ rfl ?_ | refine ad rfl ?_ ?_);all_goals(intro h;(try simp only [pl] at h);(try (exfalso;omega)))) | skip))));exact⟨(k + 1,⟨sender,seq,val,fee,memo,trs⟩),⟨dm,dm,hR⟩,by show l.length - (k + 1) < l.length - k;omega,(by dsimp only;exact(vm [(0,_),(1,_),(2,_)] []))⟩
  rw [if_neg g3] at hR;by_cases g4:num=4
  ·rw [if_pos g4] at hR;subst g4;(iterate 10 ((all_goals(refine ae ?_));(all_goals(first | ((first | refine ah rfl rfl ?_ rfl ?_ | refine ad rfl ?_ ?_);all_goals(intro h;(try simp only [pl] at h);(try (exfalso;omega)))) | skip))));exact⟨(k + 1,⟨sender,seq,gas,val,memo,trs⟩),⟨dm,dm,hR⟩,by show l.length - (k + 1) < l.length - k;omega,(by dsimp only;exact(vm [(0,_),(1,_),(2,_)] []))⟩
  rw [if_neg g4] at hR;by_cases g5:num=5
  ·rw [if_pos g5] at hR;subst g5;(iterate 12 ((all_goals(refine ae ?_));(all_goals(first | ((first | refine ah rfl rfl ?_ rfl ?_ | refine ad rfl ?_ ?_);all_goals(intro h;(try simp only [pl] at h);(try (exfalso;omega)))) | skip))));exact⟨(k + 1,⟨sender,seq,gas,fee,bytes,trs⟩),⟨dm,dm,hR⟩,by show l.length - (k + 1) < l.length - k;omega,(by dsimp only;exact(vm [(0,_),(1,_),(2,_)] []))⟩
  rw [if_neg g5] at hR;by_cases g6:num=6
  ·rw [if_pos g6] at hR;subst g6;have c1:=AO bytes hok.2;generalize gQ bytes=x at *;(iterate 13 ((all_goals(refine ae ?_));(all_goals(first | ((first | refine ah rfl rfl ?_ rfl ?_ | refine ad rfl ?_ ?_);all_goals(intro h;(try simp only [pl] at h);(try (exfalso;omega)))) | skip))));refine aw [ag 0,ag 1,ag 2,ag 3,de 4,ag 5,ag 6,ag 7,ag 8] ?_;refine ae ?_;refine jT (c1) ?_;refine bO rfl (by intro R hR;refine dM hR ?_;(refine b₃ (c₅ _) ?_;refine⟨_,rfl,?_⟩;refine b₃ ⟨sm,aE (by kernel_rfl) pf⟩ ?_;refine⟨(trs ++ [x]).map lh,sv (by simp;rfl),trs.length + 1,sv pf,?_⟩);exact hR) rfl ?_;refine ae ?_;exact⟨(k + 1,⟨sender,seq,gas,fee,memo,trs ++ [x]⟩),⟨dm,by dsimp only;rw [b₄,b₀];omega,hR⟩,by show l.length - (k + 1) < l.length - k;omega,(by dsimp only;rw [b₄,b₀];exact(vm [(0,_),(1,_),(2,_)] []))⟩
  ·rw [if_neg g6] at hR;(iterate 14 ((all_goals(refine ae ?_));(all_goals(first | ((first | refine ah rfl rfl ?_ rfl ?_ | refine ad rfl ?_ ?_);all_goals(intro h;(try simp only [pl] at h);(try (exfalso;omega)))) | skip))));exact⟨(k + 1,⟨sender,seq,gas,fee,memo,trs⟩),⟨dm,dm,hR⟩,by show l.length - (k + 1) < l.length - k;omega,(by dsimp only;exact(vm [(0,_),(1,_),(2,_)] []))⟩
 ·have hk':k=l.length:=by have:=oF h;omega
  subst hk';rw [b₇,fm] at hR;subst hR;refine ae ?_;refine av ?_;refine⟨[_],[],[(2,trs.length)],rfl,rfl,?_,rfl,⟨?_,trivial⟩,?_⟩
  ·exact⟨(show trs.length≤(trs.map lh).length by simp),trivial⟩
  ·exact .inr ⟨_,rfl,lm⟩
  ·exact mm
theorem F5 (raw:List UInt8) (hraw:raw.length≤140737488355328):aH Tryz.prog GU 163 [.sl raw.length (u8s raw)] [] 0 (.tup [nh (aS raw).1, .int .i64 (aS raw).2]) [] 0:=by
 generalize hr:aS raw=r;obtain⟨R,code⟩:=r;dsimp only;rw [FV] at hr;by_cases h1:4096 < raw.length
 ·rw [if_pos h1] at hr;simp only [a₀] at hr;obtain⟨rfl,rfl⟩:=hr;refine bR seat Tryz.func163 38 ?_;refine ae ?_;(iterate 4 ((all_goals(refine ae ?_));(all_goals(first | ((first | refine ah rfl rfl ?_ rfl ?_ | refine ad rfl ?_ ?_);all_goals(intro h;(try simp only [pl] at h);(try (exfalso;omega)))) | skip))));all_goals(refine av ?_;exact en [_,_])
 rw [if_neg h1] at hr;have c1:=wG (G:=GU) raw om;have hf:=eX raw;have c2:=Lo (aJ raw).1 (fun f hm=>⟨(hf.1 f hm).1,by have:=(hf.1 f hm).2;omega⟩) hf.2;have hsm:=uy (raw:=raw) om;have c3:=FW (G:=GU) _ hsm;have c4:=F0 (eE (fm (aJ raw).1 tx0)) raw;have c5:=CE _ hsm;clear hf hsm;generalize aJ raw=F at *;obtain⟨l,at_,e⟩:=F;dsimp only at c1 c2 c3 c4 c5 hr;generalize fm l tx0=t at *;generalize eE t=fs at *;generalize cU t=vt at *;have hb:(fs == raw)=true↔fs=raw:=sm;generalize (fs == raw)=b at *;by_cases he:e=0
 ·subst he;cases b with
  | false=>
   have hne:fs≠raw:=fun e=>by have:=hb.2 e;simp at this
   rw [if_pos (by simp [hne])] at hr;simp only [a₀] at hr;obtain⟨rfl,rfl⟩:=hr;refine bR seat Tryz.func163 38 ?_;refine ae ?_;(iterate 12 ((all_goals(refine ae ?_));(all_goals(first | (refine ai rfl (fun _ h=>h) rfl (c1) rfl rfl ?_) | (refine ai rfl (fun _ h=>h) rfl (c2) rfl rfl ?_) | (refine ai rfl (fun _ h=>h) rfl (c3) rfl rfl ?_) | (refine ai rfl (fun _ h=>h) rfl (aa (c4)) rfl rfl ?_) | (refine ai rfl (fun _ h=>h) rfl (aa (c5)) rfl rfl ?_) | ((first | refine ah rfl rfl ?_ rfl ?_ | refine ad rfl ?_ ?_);all_goals(intro h;(try simp only [pl] at h);(try (exfalso;omega)))) | skip))));all_goals(refine av ?_;exact en [_,_])
  | true=>
   have heq:fs=raw:=hb.1 rfl;rw [if_neg (by simp [heq])] at hr;by_cases hv:vt=0
   ·subst hv;rw [if_neg sm] at hr;simp only [a₀] at hr;obtain⟨rfl,rfl⟩:=hr;refine bR seat Tryz.func163 38 ?_;refine ae ?_;(iterate 12 ((all_goals(refine ae ?_));(all_goals(first | (refine ai rfl (fun _ h=>h) rfl (c1) rfl rfl ?_) | (refine ai rfl (fun _ h=>h) rfl (c2) rfl rfl ?_) | (refine ai rfl (fun _ h=>h) rfl (c3) rfl rfl ?_) | (refine ai rfl (fun _ h=>h) rfl (aa (c4)) rfl rfl ?_) | (refine ai rfl (fun _ h=>h) rfl (aa (c5)) rfl rfl ?_) | ((first | refine ah rfl rfl ?_ rfl ?_ | refine ad rfl ?_ ?_);all_goals(intro h;(try simp only [pl] at h);(try (exfalso;omega)))) | skip))));all_goals(refine av ?_;exact en [_,_])
   ·rw [if_pos hv] at hr;simp only [a₀] at hr;obtain⟨rfl,rfl⟩:=hr;refine bR seat Tryz.func163 38 ?_;refine ae ?_;(iterate 12 ((all_goals(refine ae ?_));(all_goals(first | (refine ai rfl (fun _ h=>h) rfl (c1) rfl rfl ?_) | (refine ai rfl (fun _ h=>h) rfl (c2) rfl rfl ?_) | (refine ai rfl (fun _ h=>h) rfl (c3) rfl rfl ?_) | (refine ai rfl (fun _ h=>h) rfl (aa (c4)) rfl rfl ?_) | (refine ai rfl (fun _ h=>h) rfl (aa (c5)) rfl rfl ?_) | ((first | refine ah rfl rfl ?_ rfl ?_ | refine ad rfl ?_ ?_);all_goals(intro h;(try simp only [pl] at h);(try (exfalso;omega)))) | skip))));all_goals(refine av ?_;exact en [_,_])
 ·rw [if_pos (.inl he)] at hr;simp only [a₀] at hr;obtain⟨rfl,rfl⟩:=hr;refine bR seat Tryz.func163 38 ?_;refine ae ?_;(iterate 12 ((all_goals(refine ae ?_));(all_goals(first | (refine ai rfl (fun _ h=>h) rfl (c1) rfl rfl ?_) | (refine ai rfl (fun _ h=>h) rfl (c2) rfl rfl ?_) | (refine ai rfl (fun _ h=>h) rfl (c3) rfl rfl ?_) | (refine ai rfl (fun _ h=>h) rfl (aa (c4)) rfl rfl ?_) | (refine ai rfl (fun _ h=>h) rfl (aa (c5)) rfl rfl ?_) | ((first | refine ah rfl rfl ?_ rfl ?_ | refine ad rfl ?_ ?_);all_goals(intro h;(try simp only [pl] at h);(try (exfalso;omega)))) | skip))));all_goals(refine av ?_;exact en [_,_])
end
section
def Mk (y1 y0 u1:Nat):Nat→Nat→Nat→Nat
 | 0,q,_=>q
 | f + 1,q,r=>if 4294967296≤q∨4294967296 * r + u1 < q * y0 then(if 4294967296≤r + y1 then q - 1 else Mk y1 y0 u1 f (q - 1) (r + y1)) else q
theorem Ed {y1 y0 u1 u:Nat} (h1:y1 < 4294967296) (h0:y0 < 4294967296) (hu:u < y1 * 4294967296 + y0) (hu1:u1 < 4294967296): ∀(f q r:Nat),q * y1 + r=u→r < 4294967296→(u * 4294967296 + u1) / (y1 * 4294967296 + y0)≤q→4294967296≤r + f * y1→Mk y1 y0 u1 f q r=(u * 4294967296 + u1) / (y1 * 4294967296 + y0)
 | 0,q,r,_,hr,_,hf=>by omega
 | f + 1,q,r,he,hr,hq,hf=>by
  have hy:0 < y1 * 4294967296 + y0:=om
  have ex:q * (y1 * 4294967296 + y0)=q * y1 * 4294967296 + q * y0:=by rw [d₉,b₈]
  unfold Mk
  by_cases hc:4294967296≤q∨4294967296 * r + u1 < q * y0
  ·rw [if_pos hc]
   have hlt:(u * 4294967296 + u1) / (y1 * 4294967296 + y0) < q:=by
    rw [a₇ hy]
    rcases hc with hc | hc
    ·have:=a₂ (y1 * 4294967296 + y0) hc
     omega
    ·rw [ex]
     generalize q * y1=A at *
     generalize q * y0=C at *
     omega
   have hq1:1≤q:=d₈ (a₅ _) hlt
   have e1:(q - 1) * y1 + (r + y1)=u:=by
    have:(q - 1) * y1 + y1=q * y1:=by rw [← c₂];congr 1;omega
    omega
   by_cases hb:4294967296≤r + y1
   ·rw [if_pos hb]
    have hle:q - 1≤(u * 4294967296 + u1) / (y1 * 4294967296 + y0):=by
     rw [d₅ hy]
     have hlt2:q - 1 < 4294967296:=by
      rcases Nat.lt_or_ge (q - 1) 4294967296 with h | h
      ·exact h
      ·have:=a₂ y1 h
       omega
     have h3:(q - 1) * y0≤4294967295 * 4294967295:=d₆ om om
     have ey:(q - 1) * (y1 * 4294967296 + y0)=(q - 1) * y1 * 4294967296 + (q - 1) * y0:=by rw [d₉,b₈]
     rw [ey]
     generalize (q - 1) * y1=A at *
     generalize (q - 1) * y0=C at *
     omega
    omega
   ·rw [if_neg hb]
    refine Ed h1 h0 hu hu1 f (q - 1) (r + y1) e1 om om ?_
    rw [c₂] at hf
    omega
  ·rw [if_neg hc]
   have hle:q≤(u * 4294967296 + u1) / (y1 * 4294967296 + y0):=by
    rw [d₅ hy,ex]
    have hc1:q * y0≤4294967296 * r + u1:=by
     rcases Nat.lt_or_ge (4294967296 * r + u1) (q * y0) with h | h
     ·exact absurd (.inr h) hc
     ·exact h
    generalize q * y1=A at *
    generalize q * y0=C at *
    omega
   omega
theorem IK {y1 y0 u1 u:Nat} (h1:y1 < 4294967296) (h2:2147483648≤y1) (h0:y0 < 4294967296) (hu:u < y1 * 4294967296 + y0) (hu1:u1 < 4294967296):Mk y1 y0 u1 2 (u / y1) (u % y1)=(u * 4294967296 + u1) / (y1 * 4294967296 + y0):=by
 have hy:0 < y1 * 4294967296 + y0:=om;refine Ed h1 h0 hu hu1 2 _ _ (by rw [a₆];exact a₃ u y1) (d₁ (b₅ _ om) h1) ?_ om
 -- the guess is never too small
 have hm:=a₃ u y1;have hlt:=b₅ u (show 0 < y1 by omega);have:(u * 4294967296 + u1) / (y1 * 4294967296 + y0) < u / y1 + 1:=by
  rw [a₇ hy];have e:(u / y1 + 1) * (y1 * 4294967296 + y0)=(y1 * (u / y1) + y1) * 4294967296 + (u / y1 + 1) * y0:=by
   rw [d₉,← b₈,d₃ (u / y1) 1 y1,c₆,a₆ (u / y1) y1]
  rw [e];generalize y1 * (u / y1)=A at *;generalize (u / y1 + 1) * y0=C at *;omega
 omega
theorem IL (b y u u1 u0:Nat):u * (b * b) + (u1 * b + u0)=(u * b + u1) % y * b + u0 + y * ((u * b + u1) / y * b):=by
 have h:=a₃ (u * b + u1) y;have e1:u * (b * b) + (u1 * b + u0)=(u * b + u1) * b + u0:=by rw [d₃,← b₈,Nat.add_assoc]
 have e2:(y * ((u * b + u1) / y) + (u * b + u1) % y) * b=y * ((u * b + u1) / y * b) + (u * b + u1) % y * b:=by rw [d₃,b₈]
 rw [h] at e2;rw [e1,e2];omega
theorem Lp (b y u u1 u0:Nat) (hy:0 < y):(u * b + u1) / y * b + ((u * b + u1) % y * b + u0) / y=(u * (b * b) + (u1 * b + u0)) / y:=by
 rw [IL b y u u1 u0,Nat.add_mul_div_left _ _ hy,Nat.add_comm]
theorem AP (b y u u1 u0:Nat):((u * b + u1) % y * b + u0) % y=(u * (b * b) + (u1 * b + u0)) % y:=by
 rw [IL b y u u1 u0,Nat.add_mul_mod_self_left]
theorem F6 (n y s:Nat):n * 2 ^ s / (y * 2 ^ s)=n / y:=Nat.mul_div_mul_right n y (c₃ s)
theorem F7 (n y s:Nat):n * 2 ^ s % (y * 2 ^ s) / 2 ^ s=n % y:=by
 rw [Nat.mul_mod_mul_right,Nat.mul_div_cancel _ (c₃ s)]
end
section
variable {G:GS}
attribute [local irreducible] aj aC aG aL aO vC aU au
theorem Lq (a b:Nat):BF Tryz.prog G 222 [.int .u64 a, .int .u64 b, .int .u64 0] [] 0 (.tup [.int .u64 ((a + b) % 18446744073709551616:Nat), .int .u64 ((a + b) / 18446744073709551616:Nat)]) [] 0:=by
 intro w P adr vals hg hI hn hL hargs;cases hargs with | cons a1 hargs=>cases hargs with | cons a2 hargs=>cases hargs with | cons a3 hargs=>
 cases hargs;have e1:=a1.int_;have e2:=a2.int_;have e3:=a3.int_;subst e1 e2 e3;have hf:(callFunc 222 #[.int .u64 a, .int .u64 b, .int .u64 0]).run Tryz.prog w=_:=
  run_callFunc_extern Tryz.func222 (by kernel_rfl) (by kernel_rfl) (by kernel_rfl) (e:=add64Entry) (by kernel_rfl) _ w
 refine⟨.tuple #[.int .u64 ((a + b) % 18446744073709551616:Nat), .int .u64 ((a + b) / 18446744073709551616:Nat)],w,hf.trans ?_,_,rfl,P,adr,hI, .tup [.int .u64 ((a + b) % 18446744073709551616:Nat), .int .u64 ((a + b) / 18446744073709551616:Nat)] rfl (fun j m u hj hu=>?_),bg.refl _ _ _,fun _ _=>rfl,hn,fun c g hc=> .inr ⟨c,hc⟩,fun b o ho=> .inl ho,bl.refl _ _⟩
 ·have h:=run_add64 (P:=Tryz.prog) (a:Int) (b:Int) 0 om om om om w;rw [h];have e1:((a:Int) + b + 0) % 18446744073709551616=((a + b) % 18446744073709551616:Nat):=om;have e2:((a:Int) + b + 0) / 18446744073709551616=((a + b) / 18446744073709551616:Nat):=om;rw [e1,e2];rfl
 ·match j with
  | 0=>simp at hj hu;subst hj;subst hu;exact⟨_, .int,rfl⟩
  | 1=>simp at hj hu;subst hj;subst hu;exact⟨_, .int,rfl⟩
  | j + 2=>simp at hj
theorem IM (n:Nat) (ok:Bool):aD Tryz.prog G 223 [.int .u64 n, .bool ok] (.tup [.int .u64 (if ok then n else 0:Nat), .bool ok]):=by
 cases ok
 ·refine aZ seat Tryz.func223 9 ?_;refine ae ?_;(iterate 4 ((all_goals(refine ae ?_));(all_goals(first | ((first | refine ah rfl rfl ?_ rfl ?_ | refine ad rfl ?_ ?_);all_goals(intro h;(try simp only [pl] at h);(try (exfalso;omega)))) | skip))));all_goals(refine av ?_)
  all_goals rfl
 ·refine aZ seat Tryz.func223 9 ?_;refine ae ?_;(iterate 4 ((all_goals(refine ae ?_));(all_goals(first | ((first | refine ah rfl rfl ?_ rfl ?_ | refine ad rfl ?_ ?_);all_goals(intro h;(try simp only [pl] at h);(try (exfalso;omega)))) | skip))));all_goals(refine av ?_)
  all_goals rfl
theorem No (a b:Nat) (ha:bh a) (hb:bh b):aD Tryz.prog G 178 [.int .u64 a, .int .u64 b] (.tup [.int .u64 (iz a b).1, .bool (iz a b).2]):=by
 unfold bh at ha hb;have c0:=Lq (G:=G) a b;have c1:=IM (G:=G) ((a + b) % 18446744073709551616) (((a + b) / 18446744073709551616:Nat) == (0:Int));have hres:(.tup [.int .u64 (if (((a + b) / 18446744073709551616:Nat) == (0:Int)) then(a + b) % 18446744073709551616 else 0:Nat), .bool (((a + b) / 18446744073709551616:Nat) == (0:Int))] :MV)= .tup [.int .u64 (iz a b).1, .bool (iz a b).2] :=by
  unfold iz;by_cases h:a + b < 18446744073709551616
  ·have e1:(a + b) / 18446744073709551616=0:=om;have e2:(a + b) % 18446744073709551616=a + b:=om;simp [h,e1,e2]
  ·have e1:(((a + b) / 18446744073709551616:Nat) == (0:Int))=false:=by rw [beq_eq_false_iff_ne];omega
   rw [e1];simp [h]
 rw [hres] at c1;generalize iz a b=p at *;obtain⟨v,ok⟩:=p;refine aZ seat Tryz.func178 20 ?_;refine ae ?_;refine dG rfl (fun _ h=>h) rfl (c0) [] [] ⟨rfl,trivial,rfl,lm,mm⟩ rfl rfl ?_;refine ae ?_;refine cC (c1) ?_;refine av ?_;rfl
theorem Ee (a b:Nat) (ha:bh a) (hb:bh b):aD Tryz.prog G 239 [.int .u64 a, .int .u64 b] (.tup [.int .u64 (a * b / 18446744073709551616:Nat), .int .u64 (a * b % 18446744073709551616:Nat)]):=by
 obtain⟨w,p,q,r,hw,hp,hq,hr,bw,bp,bq,br,hab,hhi⟩:=Cn a b ha hb;unfold bh at ha hb;have mk: ∀x y z:Nat,x * y=z→z < 18446744065119617026→IntKind.u64.wrap ((x:Int) * (y:Int))=(z:Int):=fun x y z h hz=>by
  rw [← b₁,h];exact bt _ om om
 have m1:=aT.mk (mk _ _ _ hw bw);have m2:=aT.mk (mk _ _ _ hp bp);have m3:=aT.mk (mk _ _ _ hq bq);have m4:=aT.mk (mk _ _ _ hr br);have m5:=aT.mk (show IntKind.u64.wrap ((a:Int) * (b:Int))=((a * b % 18446744073709551616:Nat):Int) by rw [wu64,← b₁];omega);have s1:=aT.mk (gG a);have s2:=aT.mk (gG b);have s3:=aT.mk (gG p);have l1:=aT.mk (gP (m:=a) ha);have l2:=aT.mk (gP (m:=b) hb);clear hw hp hq hr mk;generalize a * b=n at *;subst hab;have a1:=aT.mk (show IntKind.u64.wrap ((q:Int) + ((p / 4294967296:Nat):Int))=((q + p / 4294967296:Nat):Int) from bt _ om om);have l3:=aT.mk (gP (m:=q + p / 4294967296) om);have s4:=aT.mk (gG (q + p / 4294967296));have a2:=aT.mk (show IntKind.u64.wrap ((((q + p / 4294967296) % 4294967296:Nat):Int) + (r:Int))=(((q + p / 4294967296) % 4294967296 + r:Nat):Int) from bt _ om om);have s5:=aT.mk (gG ((q + p / 4294967296) % 4294967296 + r));have a3:=aT.mk (show IntKind.u64.wrap ((w:Int) + (((q + p / 4294967296) / 4294967296:Nat):Int))=((w + (q + p / 4294967296) / 4294967296:Nat):Int) from bt _ om om);have a4:=aT.mk (show IntKind.u64.wrap (((w + (q + p / 4294967296) / 4294967296:Nat):Int) + ((((q + p / 4294967296) % 4294967296 + r) / 4294967296:Nat):Int))=((w + (q + p / 4294967296) / 4294967296 + ((q + p / 4294967296) % 4294967296 + r) / 4294967296:Nat):Int) from bt _ om om);refine aZ seat Tryz.func239 51 ?_;refine ae ?_;refine av ?_;refine congrArg MV.tup ?_;refine List.cons_eq_cons.2 ⟨congrArg (MV.int .u64) ?_,rfl⟩;omega
theorem Np (a b:Nat) (ha:bh a) (hb:bh b):aD Tryz.prog G 238 [.int .u64 a, .int .u64 b] (.tup [.int .u64 (jW a b).1, .bool (jW a b).2]):=by
 have c0:=Ee (G:=G) a b ha hb;have c1:=IM (G:=G) (a * b % 18446744073709551616) ((a * b / 18446744073709551616:Nat) == (0:Int));have hres:(.tup [.int .u64 (if ((a * b / 18446744073709551616:Nat) == (0:Int)) then a * b % 18446744073709551616 else 0:Nat), .bool ((a * b / 18446744073709551616:Nat) == (0:Int))] :MV)= .tup [.int .u64 (jW a b).1, .bool (jW a b).2] :=by
  unfold jW;generalize a * b=n;by_cases h:n < 18446744073709551616
  ·have e1:n / 18446744073709551616=0:=om;have e2:n % 18446744073709551616=n:=om;simp [h,e1,e2]
  ·have e1:((n / 18446744073709551616:Nat) == (0:Int))=false:=by rw [beq_eq_false_iff_ne];omega
   rw [e1];simp [h]
 rw [hres] at c1;generalize jW a b=p at *;generalize a * b=n at *;obtain⟨v,ok⟩:=p;refine aZ seat Tryz.func238 20 ?_;refine ae ?_;refine cC (c0) ?_;refine cC (c1) ?_;refine av ?_;rfl
theorem CF (l:List Nat) (hl:l.length≤1000000) (hs: ∀a∈l,bh a):aD Tryz.prog G 152 [.sl l.length (eH l)] (.tup [.int .u64 (sumG l 0).1, .bool (sumG l 0).2]):=by
 have h0:bh 0:=by unfold bh;omega
 generalize hv:sumG l 0=v;obtain⟨S,ok⟩:=v;dsimp only;refine aZ seat Tryz.func152 26 ?_;refine ae ?_;refine ar (Nat×Nat) (fun x=> [(11, .int .i64 x.1),(10, .int .i64 l.length),(9, .sl l.length (eH l)),(4, .int .u64 x.2)]) (fun _=> []) 0 (fun x=>x.1≤l.length∧bh x.2∧sumG (l.drop x.1) x.2=(S,ok)) (fun x=>l.length - x.1) (0,0) ⟨a₅ _,h0,by rw [a₈];exact hv⟩ (vm [] []) ?_;clear hv;rintro⟨k,z⟩ ⟨hk,hz,hR⟩;try dsimp only
 dsimp only at hk hz hR;refine ae ?_;refine ad rfl ?_ ?_ <;> intro h
 ·have hk':k < l.length:=by have:=ot h;omega
  have hel:=al.mk (DM hk');have c1:=No (G:=G) z l[k] hz (hs _ (c₀ hk'));have hza:bh (iz z l[k]).1:=by
   unfold iz;split
   ·assumption
   ·exact h0
  rw [a₄ hk',sumG] at hR;generalize l[k] =e at *;generalize iz z e=p at *;obtain⟨y,b⟩:=p;dsimp only at c1 hR hza;cases b with
  | true=>
   simp only [if_true] at hR;refine ae ?_;(iterate 4 ((all_goals(refine ae ?_));(all_goals(first | (refine ai rfl (fun _ h=>h) rfl (aa (c1)) rfl rfl ?_) | ((first | refine ah rfl rfl ?_ rfl ?_ | refine ad rfl ?_ ?_);all_goals(intro h;(try simp only [pl] at h);(try (exfalso;omega)))) | skip))));exact⟨(k + 1,y),⟨by show k + 1≤l.length;omega,hza,hR⟩,by show l.length - (k + 1) < l.length - k;omega,(by dsimp only;exact(vm [] []))⟩
  | false=>
   simp only [Bool.false_eq_true,if_false,a₀] at hR;obtain⟨rfl,rfl⟩:=hR;refine ae ?_;(iterate 4 ((all_goals(refine ae ?_));(all_goals(first | (refine ai rfl (fun _ h=>h) rfl (aa (c1)) rfl rfl ?_) | ((first | refine ah rfl rfl ?_ rfl ?_ | refine ad rfl ?_ ?_);all_goals(intro h;(try simp only [pl] at h);(try (exfalso;omega)))) | skip))));all_goals(refine av ?_)
   all_goals rfl
 ·have hk':k=l.length:=by have:=oF h;omega
  subst hk';rw [b₇,sumG] at hR;simp only [a₀] at hR;obtain⟨rfl,rfl⟩:=hR;refine ae ?_;all_goals(refine av ?_)
  all_goals rfl
theorem IN (n:Int) (hn: -9223372036854775808≤n∧n < 9223372036854775808):aD Tryz.prog G 237 [.int .i64 n] (.int .u64 (limS n)):=by
 have hw:IntKind.u64.wrap (if 1073741824 < (if 0 > n then 0 else n) then 1073741824 else(if 0 > n then 0 else n))=(limS n:Int):=by
  rw [wu64];unfold limS;split <;> split <;> omega
 have e1:=aT.mk hw;refine aZ seat Tryz.func237 7 ?_;refine ae ?_;refine av ?_;first | rfl | exact congrArg (MV.int .u64) hw | skip
 try (refine congrArg (MV.int .u64) ?_;rw [wu64];unfold limS;omega)
end
section
variable {G:GS}
attribute [local irreducible] aj aC aG aL aO vC aU au
theorem Pr (x:Nat) (hx:bh x):aD Tryz.prog G 249 [.int .u64 x] (.int .i64 (64 - (Lib.bitLen x:Int))):=by
 intro w P vals hg hP hargs;cases hargs with
 | cons h t=>
  cases t with
  | nil=>
   obtain rfl:=h.int_;refine(Tryz.bits_LeadingZeros64 (x:Int) w om (by unfold bh at hx;omega)).mono ?_;rintro e w' ⟨rfl,rfl⟩;exact⟨_,rfl, .val [_] .int,Below.refl _ _⟩
theorem Nq {m s:Nat} (hs:s < 64):IntKind.u64.wrap ((m:Int) * 2 ^ (min (s:Int).toNat IntKind.u64.bits))=((m * 2 ^ s % 18446744073709551616:Nat):Int):=by
 have e:min (s:Int).toNat IntKind.u64.bits=s:=by rw [Int.toNat_natCast];exact e₄ (d₇ hs)
 rw [e,wu64,show ((m:Int) * 2 ^ s)=((m * 2 ^ s:Nat):Int) by rw [b₁,e₅];rfl];omega
theorem Ps (m:Nat) {s:Nat} (hs:s≤64):((m:Int).fdiv (2 ^ (min ((64:Int) - (s:Int)).toNat IntKind.u64.bits)))=((m / 2 ^ (64 - s):Nat):Int):=by
 have e:min ((64:Int) - (s:Int)).toNat IntKind.u64.bits=64 - s:=by
  rw [show ((64:Int) - (s:Int)).toNat=64 - s by omega];exact e₄ (show 64 - s≤64 by omega)
 rw [e,c₇ _ (by exact Int.le_of_lt (Int.pow_pos (by decide))),e₁,e₅];rfl
theorem OF {a b s:Nat} (hs:s < 64) (hb:b < 2 ^ s) (h:a * 2 ^ s + b < 18446744073709551616):IntKind.u64.wrap ((BitVec.ofInt IntKind.u64.bits ((a * 2 ^ s:Nat):Int) ||| BitVec.ofInt IntKind.u64.bits (b:Int)).toNat:Int)=((a * 2 ^ s + b:Nat):Int):=by
 have e:a * 2 ^ s ||| b=a * 2 ^ s + b:=by
  have:=Nat.shiftLeft_add_eq_or_of_lt hb a;rw [Nat.shiftLeft_eq] at this;exact this.symm
 rw [BitVec.toNat_or,ei _ _ (show a * 2 ^ s < 2 ^ IntKind.u64.bits by show _ < 18446744073709551616;omega),ei _ _ (show b < 2 ^ IntKind.u64.bits by show _ < 18446744073709551616;omega),e,wu64];omega
theorem AQ {a b:Nat} (ha:a < 18446744073709551616):IntKind.u64.wrap (((a:Nat):Int) - ((a / b * b:Nat):Int))=((a % b:Nat):Int):=by
 have h:=a₃ a b;rw [a₆] at h;rw [wu64]
 with_reducible generalize a / b * b=c at *
 with_reducible generalize a % b=d at *
 omega
theorem AR {a b:Nat} (ha:a < 18446744073709551616):IntKind.u64.wrap (((a / b:Nat):Int) * (b:Int))=((a / b * b:Nat):Int):=by
 have h:=Nat.div_mul_le_self a b;rw [← b₁,wu64]
 with_reducible generalize a / b * b=c at *
 omega
theorem IP (a b:Nat):IntKind.u64.wrap ((a:Int) * (b:Int))=((a * b % 18446744073709551616:Nat):Int):=by
 rw [wu64,← b₁];omega
theorem Ef {A c d:Nat} (h:c + d=A) (hd:d < 18446744073709551616):IntKind.u64.wrap (((A % 18446744073709551616:Nat):Int) - ((c % 18446744073709551616:Nat):Int))=(d:Int):=by
 rw [wu64];omega
theorem IQ (U:Nat):IntKind.u64.wrap ((U:Int) * 4294967296)=((U * 4294967296 % 18446744073709551616:Nat):Int):=by rw [wu64];omega
theorem IS (U u:Nat):IntKind.u64.wrap (((U * 4294967296 % 18446744073709551616:Nat):Int) + (u:Int))=(((U * 4294967296 + u) % 18446744073709551616:Nat):Int):=by rw [wu64];omega
theorem Lr (hi lo y:Nat) (hlo:bh lo) (hy:bh y) (hlt:hi < y):aD Tryz.prog G 240 [.int .u64 hi, .int .u64 lo, .int .u64 y] (.tup [.int .u64 ((hi * 18446744073709551616 + lo) / y:Nat), .int .u64 ((hi * 18446744073709551616 + lo) % y:Nat)]):=by
 have hy0:0 < y:=om;unfold bh at hlo hy;by_cases h0:hi=0
 ·subst h0;rw [c₄,c₁];have f1:=bN.mk (show(y:Int)≠0 by omega);have f2:=aT.mk (Ae (a:=lo) y hlo);have f3:=aT.mk (Me lo y);refine aZ seat Tryz.func240 135 ?_;refine ae ?_;refine ad rfl ?_ ?_ <;> intro h
  ·exact absurd (eq_of_beq h) om
  refine ae ?_;refine ad rfl ?_ ?_ <;> intro h
  ·exact absurd (ot h) om
  refine ae ?_;refine aw [ag 0,ag 1,ag 2,ag 3,ag 4,ag 5,ag 6,ag 7] ?_;refine ae ?_;refine av ?_;rfl
 have c1:=Pr (G:=G) y hy;have hbl:=Lib.bitLenAux_bounds 64 y hy om;have hL:Lib.bitLen y≤64:=Lib.bitLen_le y 64 (c₅ _) hy;obtain⟨s,hs⟩: ∃s,s=64 - Lib.bitLen y:=⟨_,rfl⟩
 have hs64:s < 64:=by have:=hbl.1;unfold Lib.bitLen at hs;omega
 rw [show (64 - (Lib.bitLen y:Int))=(s:Int) by omega] at c1;have hpp:2 ^ s * 2 ^ (64 - s)=18446744073709551616:=by rw [← e₀,show s + (64 - s)=64 by omega]
 have hp0:0 < 2 ^ s:=c₃ s;have hYlt:y * 2 ^ s < 18446744073709551616:=by
  have h1:y * 2 ^ s < 2 ^ Lib.bitLen y * 2 ^ s:=Nat.mul_lt_mul_of_pos_right hbl.2.2 hp0;rw [← e₀,show Lib.bitLen y + s=64 by omega] at h1;exact h1
 have hYge:9223372036854775808≤y * 2 ^ s:=by
  have h1:2 ^ (Lib.bitLen y - 1) * 2 ^ s≤y * 2 ^ s:=a₂ _ hbl.2.1;rw [← e₀,show Lib.bitLen y - 1 + s=63 by have:=hbl.1;unfold Lib.bitLen at hs ⊢;unfold Lib.bitLen at hL;omega] at h1;exact h1
 have hlq:lo / 2 ^ (64 - s) < 2 ^ s:=by rw [a₇ (c₃ _),hpp];exact hlo
 have hUY:hi * 2 ^ s + lo / 2 ^ (64 - s) < y * 2 ^ s:=by
  have h1:(hi + 1) * 2 ^ s≤y * 2 ^ s:=a₂ _ hlt;rw [c₂] at h1;omega
 have hN:(hi * 18446744073709551616 + lo) * 2 ^ s=(hi * 2 ^ s + lo / 2 ^ (64 - s)) * 18446744073709551616 + lo * 2 ^ s % 18446744073709551616:=by
  have h1:lo * 2 ^ s / 18446744073709551616=lo / 2 ^ (64 - s):=by
   rw [← hpp,a₆ lo,Nat.mul_div_mul_left _ _ hp0]
  have h2:=a₃ (lo * 2 ^ s) 18446744073709551616;rw [h1] at h2;rw [d₃,Nat.mul_right_comm hi];omega
 have hdq:=F6 (hi * 18446744073709551616 + lo) y s;have hdr:=F7 (hi * 18446744073709551616 + lo) y s;rw [hN] at hdq hdr;have hQb:(hi * 18446744073709551616 + lo) / y < 18446744073709551616:=by rw [a₇ hy0,a₆];have:=a₂ 18446744073709551616 (show hi + 1≤y from hlt);omega
 obtain⟨QQ,hQg⟩: ∃x,x=(hi * 18446744073709551616 + lo) / y:=⟨_,rfl⟩
 obtain⟨RR,hRg⟩: ∃x,x=(hi * 18446744073709551616 + lo) % y:=⟨_,rfl⟩
 rw [← hQg] at hdq hQb ⊢;rw [← hRg] at hdr ⊢;have e1:=aT.mk (Nq (m:=y) hs64);rw [b₂ hYlt] at e1;have e2:=aT.mk (Nq (m:=hi) hs64);have hhi:hi * 2 ^ s < 18446744073709551616:=d₈ (Nat.le_add_right _ _) (d₁ hUY hYlt);rw [b₂ hhi] at e2;have e3:=aT.mk (Ps lo (d₇ hs64));have e4:=aT.mk (OF (a:=hi) hs64 hlq om);have e5:=aT.mk (Nq (m:=lo) hs64);have eshr: ∀m:Nat,((m:Int).fdiv (2 ^ (min (s:Int).toNat IntKind.u64.bits)))=((m / 2 ^ s:Nat):Int):=fun m=>Ow m hs64
 clear hN hlq hpp hbl hL;obtain⟨HS,hHS⟩: ∃x,x=hi * 2 ^ s:=⟨_,rfl⟩
 rw [← hHS] at hUY hdq hdr e2 hhi e4;obtain⟨LQ,hLQ⟩: ∃x,x=lo / 2 ^ (64 - s):=⟨_,rfl⟩
 rw [← hLQ] at hUY hdq hdr e3 e4;have hUb:lo * 2 ^ s % 18446744073709551616 < 18446744073709551616:=b₅ _ (by decide);obtain⟨U10,hU10g⟩: ∃x,x=lo * 2 ^ s % 18446744073709551616:=⟨_,rfl⟩
 rw [← hU10g] at hdq hdr e5 hUb;obtain⟨Y,hYg⟩: ∃x,x=y * 2 ^ s:=⟨_,rfl⟩
 rw [← hYg] at hYlt hYge hUY hdq hdr e1;have e7:=aT.mk (gG Y);have e8:=aT.mk (gP (m:=Y) hYlt);obtain⟨Y1,hY1⟩: ∃x,x=Y / 4294967296:=⟨_,rfl⟩
 obtain⟨Y0,hY0⟩: ∃x,x=Y % 4294967296:=⟨_,rfl⟩
 obtain⟨U,hU⟩: ∃x,x=HS + LQ:=⟨_,rfl⟩
 rw [← hY1] at e7;rw [← hY0] at e8;rw [← hU] at e4 hUY hdq hdr;have hYe:Y1 * 4294967296 + Y0=Y:=om;have hY1b:Y1 < 4294967296∧2147483648≤Y1:=om;have hY0b:Y0 < 4294967296:=om;have hU10:U10 < 18446744073709551616:=hUb;have e9:=aT.mk (gG U10);have e10:=aT.mk (gP (m:=U10) hU10);obtain⟨U1,hU1⟩: ∃x,x=U10 / 4294967296:=⟨_,rfl⟩
 obtain⟨U0,hU0⟩: ∃x,x=U10 % 4294967296:=⟨_,rfl⟩
 rw [← hU1] at e9;rw [← hU0] at e10;have hU1b:U1 < 4294967296:=om;have hU0b:U0 < 4294967296:=om;have hUlt:U < 18446744073709551616:=om;have k1:=IK hY1b.1 hY1b.2 hY0b (u:=U) om hU1b;have k2:=IK hY1b.1 hY1b.2 hY0b (u:=(U * 4294967296 + U1) % Y) (by rw [hYe];exact b₅ _ om) hU0b;rw [hYe] at k1 k2;have hdt:=Lp 4294967296 Y U U1 U0 om;have hdm:=AP 4294967296 Y U U1 U0;have hUU:U * (4294967296 * 4294967296) + (U1 * 4294967296 + U0)=U * 18446744073709551616 + U10:=by
  have h1:=a₃ U10 4294967296;rw [← hU1,← hU0,a₆] at h1;rw [h1]
 rw [hUU] at hdt hdm;rw [hdq] at hdt;rw [← hdm] at hdr;have hA1:=a₃ (U * 4294967296 + U1) Y;have hR1:=b₅ (U * 4294967296 + U1) (show 0 < Y by omega);obtain⟨D,hD0⟩: ∃x,x=(U * 4294967296 + U1) / Y:=⟨_,rfl⟩
 obtain⟨R1,hR10⟩: ∃x,x=(U * 4294967296 + U1) % Y:=⟨_,rfl⟩
 rw [← hD0] at k1 hdt hA1;rw [← hR10] at k2 hdt hdr hA1 hR1;have hA2:=a₃ (R1 * 4294967296 + U0) Y;have hR2:=b₅ (R1 * 4294967296 + U0) (show 0 < Y by omega);obtain⟨E,hE0⟩: ∃x,x=(R1 * 4294967296 + U0) / Y:=⟨_,rfl⟩
 obtain⟨R0,hR00⟩: ∃x,x=(R1 * 4294967296 + U0) % Y:=⟨_,rfl⟩
 rw [← hE0] at k2 hdt hA2;rw [← hR00] at hdr hA2 hR2;rw [a₆] at hA1 hA2;have hqD:U / Y1 < 17179869184:=by rw [a₇ om];omega
 have hqE:R1 / Y1 < 17179869184:=by rw [a₇ om];omega
 have hD:=k1;have hE:=k2;have hQQ:QQ < 18446744073709551616:=hQb;have hDb:D < 4294967296:=om;have g1:=bN.mk (show(Y1:Int)≠0 by omega);have g2:=aT.mk (Ae (a:=U) Y1 hUlt);have g3:=aT.mk (AR (a:=U) (b:=Y1) hUlt);have g4:=aT.mk (AQ (a:=U) (b:=Y1) hUlt);have g5:=aT.mk (IQ U);have g6:=aT.mk (IS U U1);have g7:=aT.mk (IP D Y);have g8:=aT.mk (Ef hA1 om);have g9:=aT.mk (Ae (a:=R1) Y1 om);have g10:=aT.mk (AR (a:=R1) (b:=Y1) om);have g11:=aT.mk (AQ (a:=R1) (b:=Y1) om);have g12:=aT.mk (IQ R1);have g13:=aT.mk (IS R1 U0);have g14:=aT.mk (IP E Y);have g15:=aT.mk (Ef hA2 om);have g16:=aT.mk (eshr R0);have g17:=aT.mk (show IntKind.u64.wrap ((D:Int) * 4294967296)=((D * 4294967296:Nat):Int) by rw [wu64];omega);have g18:=aT.mk (show IntKind.u64.wrap (((D * 4294967296:Nat):Int) + (E:Int))=(QQ:Int) by rw [wu64];omega);have gs:=aT.mk (show IntKind.u64.wrap (s:Int)=(s:Int) by rw [wu64];omega);clear eshr k1 k2;refine aZ seat Tryz.func240 135 ?_;refine ae ?_;refine ad rfl ?_ ?_ <;> intro h
 ·exact absurd (eq_of_beq h) om
 refine ae ?_;refine ad rfl ?_ ?_ <;> intro h
 ·exact absurd (ot h) om
 refine ae ?_;refine ad rfl ?_ ?_ <;> intro h
 ·exact absurd (eq_of_beq h) om
 refine ae ?_;refine cC (c1) ?_;refine xJ Unit (fun _=> [(15, .int .u64 (D:Nat)),(11, .int .u64 (U:Nat)),(2, .int .u64 (Y:Nat)),(9, .int .u64 (Y1:Nat)),(10, .int .u64 (Y0:Nat)),(13, .int .u64 (U1:Nat)),(14, .int .u64 (U0:Nat)),(8, .int .u64 (s:Nat))]) (fun _=> []) (fun _=>0) (fun _=>True) (fun JQ hj=>?_) (fun _ _=>?_)
 ·refine ar (Nat×Nat×Nat) (fun x=> [(15, .int .u64 (x.2.1:Nat)),(16, .int .u64 (x.2.2:Nat)),(11, .int .u64 (U:Nat)),(2, .int .u64 (Y:Nat)),(9, .int .u64 (Y1:Nat)),(10, .int .u64 (Y0:Nat)),(13, .int .u64 (U1:Nat)),(14, .int .u64 (U0:Nat)),(8, .int .u64 (s:Nat))]) (fun _=> []) 0 (fun x=>x.2.1 * Y1 + x.2.2=U∧x.2.2 < 4294967296∧4294967296≤x.2.2 + x.1 * Y1∧Mk Y1 Y0 U1 x.1 x.2.1 x.2.2=D∧x.2.1 < 17179869184) (fun x=>x.1) (2,U / Y1,U % Y1) ⟨by dsimp only;rw [a₆];exact a₃ _ _,by dsimp only;exact d₁ (b₅ _ om) om,dm,hD,hqD⟩ (by dsimp only;exact(vm [] [])) ?_;rintro⟨f,q,r⟩ ⟨i1,i2,i3,i4,i5⟩;try dsimp only
  dsimp only at i1 i2 i3 i4 i5;obtain⟨f',rfl⟩: ∃f',f=f' + 1:=by
   cases f with
   | zero=>rw [c₄] at i3;omega
   | succ f=>exact ⟨f,rfl⟩
  rw [Mk] at i4;rw [c₂] at i3;refine ae ?_;refine ah rfl rfl ?_ rfl ?_ <;> intro h
  ·have hq: ¬ 4294967296≤q:=by have:=oF h;omega
   have hb1:q * Y0≤4294967295 * 4294967295:=d₆ om om;have m1:=aT.mk (show IntKind.u64.wrap ((q:Int) * (Y0:Int))=((q * Y0:Nat):Int) by rw [← b₁];exact bt _ om om);refine ae ?_;refine ad rfl ?_ ?_ <;> intro h
   ·have hc:=ot h;rw [if_pos (.inr om)] at i4;have hq1:1≤q:=by
     cases q with
     | zero=>rw [c₄] at hc;omega
     | succ q=>omega
    refine ae ?_;refine ad rfl ?_ ?_ <;> intro h
    ·have hb:=ot h;rw [if_pos om] at i4;rw [← i4];refine ae ?_;refine hj.nrm () trivial ?_;rw [show ((q:Int) - 1)=((q - 1:Nat):Int) by omega];exact(vm [] [])
    ·have hb:=oF h;rw [if_neg om] at i4;refine ae ?_;refine⟨(f',q - 1,r + Y1),⟨?_,dm,dm,i4,dm⟩,by show f' < f' + 1;omega,?_⟩
     ·dsimp only;rw [d₄,c₆];have:Y1≤q * Y1:=b₆ _ hq1;omega
     ·dsimp only;rw [show ((q - 1:Nat):Int)=(q:Int) - 1 by omega,show ((r + Y1:Nat):Int)=(r:Int) + Y1 by omega];exact(vm [] [])
   ·have hc:=oF h;rw [if_neg (fun h=>h.elim (fun h=>hq h) (fun h=>by omega))] at i4;rw [← i4];refine ae ?_;refine hj.nrm () trivial ?_;exact(vm [] [])
  ·have hq:4294967296≤q:=by have:=ot (by simpa using h:decide _=true);omega
   rw [if_pos (.inl hq)] at i4;refine ae ?_;refine ad rfl ?_ ?_ <;> intro h
   ·have hb:=ot h;rw [if_pos om] at i4;rw [← i4];refine ae ?_;refine hj.nrm () trivial ?_;rw [show ((q:Int) - 1)=((q - 1:Nat):Int) by omega];exact(vm [] [])
   ·have hb:=oF h;rw [if_neg om] at i4;refine ae ?_;refine⟨(f',q - 1,r + Y1),⟨?_,dm,dm,i4,dm⟩,by show f' < f' + 1;omega,?_⟩
    ·dsimp only;rw [d₄,c₆];have:Y1≤q * Y1:=b₆ _ om;omega
    ·dsimp only;rw [show ((q - 1:Nat):Int)=(q:Int) - 1 by omega,show ((r + Y1:Nat):Int)=(r:Int) + Y1 by omega];exact(vm [] [])
 refine ae ?_;refine xJ Unit (fun _=> [(18, .int .u64 (E:Nat)),(15, .int .u64 (D:Nat)),(17, .int .u64 (R1:Nat)),(2, .int .u64 (Y:Nat)),(9, .int .u64 (Y1:Nat)),(10, .int .u64 (Y0:Nat)),(14, .int .u64 (U0:Nat)),(8, .int .u64 (s:Nat))]) (fun _=> []) (fun _=>0) (fun _=>True) (fun JQ hj=>?_) (fun _ _=>?_)
 ·refine ar (Nat×Nat×Nat) (fun x=> [(18, .int .u64 (x.2.1:Nat)),(16, .int .u64 (x.2.2:Nat)),(15, .int .u64 (D:Nat)),(17, .int .u64 (R1:Nat)),(2, .int .u64 (Y:Nat)),(9, .int .u64 (Y1:Nat)),(10, .int .u64 (Y0:Nat)),(14, .int .u64 (U0:Nat)),(8, .int .u64 (s:Nat))]) (fun _=> []) 0 (fun x=>x.2.1 * Y1 + x.2.2=R1∧x.2.2 < 4294967296∧4294967296≤x.2.2 + x.1 * Y1∧Mk Y1 Y0 U0 x.1 x.2.1 x.2.2=E∧x.2.1 < 17179869184) (fun x=>x.1) (2,R1 / Y1,R1 % Y1) ⟨by dsimp only;rw [a₆];exact a₃ _ _,by dsimp only;exact d₁ (b₅ _ om) om,dm,hE,hqE⟩ (by dsimp only;exact(vm [] [])) ?_;rintro⟨f,q,r⟩ ⟨i1,i2,i3,i4,i5⟩;try dsimp only
  dsimp only at i1 i2 i3 i4 i5;obtain⟨f',rfl⟩: ∃f',f=f' + 1:=by
   cases f with
   | zero=>rw [c₄] at i3;omega
   | succ f=>exact ⟨f,rfl⟩
  rw [Mk] at i4;rw [c₂] at i3;refine ae ?_;refine ah rfl rfl ?_ rfl ?_ <;> intro h
  ·have hq: ¬ 4294967296≤q:=by have:=oF h;omega
   have hb1:q * Y0≤4294967295 * 4294967295:=d₆ om om;have m1:=aT.mk (show IntKind.u64.wrap ((q:Int) * (Y0:Int))=((q * Y0:Nat):Int) by rw [← b₁];exact bt _ om om);refine ae ?_;refine ad rfl ?_ ?_ <;> intro h
   ·have hc:=ot h;rw [if_pos (.inr om)] at i4;have hq1:1≤q:=by
     cases q with
     | zero=>rw [c₄] at hc;omega
     | succ q=>omega
    refine ae ?_;refine ad rfl ?_ ?_ <;> intro h
    ·have hb:=ot h;rw [if_pos om] at i4;rw [← i4];refine ae ?_;refine hj.nrm () trivial ?_;rw [show ((q:Int) - 1)=((q - 1:Nat):Int) by omega];exact(vm [] [])
    ·have hb:=oF h;rw [if_neg om] at i4;refine ae ?_;refine⟨(f',q - 1,r + Y1),⟨?_,dm,dm,i4,dm⟩,by show f' < f' + 1;omega,?_⟩
     ·dsimp only;rw [d₄,c₆];have:Y1≤q * Y1:=b₆ _ hq1;omega
     ·dsimp only;rw [show ((q - 1:Nat):Int)=(q:Int) - 1 by omega,show ((r + Y1:Nat):Int)=(r:Int) + Y1 by omega];exact(vm [] [])
   ·have hc:=oF h;rw [if_neg (fun h=>h.elim (fun h=>hq h) (fun h=>by omega))] at i4;rw [← i4];refine ae ?_;refine hj.nrm () trivial ?_;exact(vm [] [])
  ·have hq:4294967296≤q:=by have:=ot (by simpa using h:decide _=true);omega
   rw [if_pos (.inl hq)] at i4;refine ae ?_;refine ad rfl ?_ ?_ <;> intro h
   ·have hb:=ot h;rw [if_pos om] at i4;rw [← i4];refine ae ?_;refine hj.nrm () trivial ?_;rw [show ((q:Int) - 1)=((q - 1:Nat):Int) by omega];exact(vm [] [])
   ·have hb:=oF h;rw [if_neg om] at i4;refine ae ?_;refine⟨(f',q - 1,r + Y1),⟨?_,dm,dm,i4,dm⟩,by show f' < f' + 1;omega,?_⟩
    ·dsimp only;rw [d₄,c₆];have:Y1≤q * Y1:=b₆ _ om;omega
    ·dsimp only;rw [show ((q - 1:Nat):Int)=(q:Int) - 1 by omega,show ((r + Y1:Nat):Int)=(r:Int) + Y1 by omega];exact(vm [] [])
 refine ae ?_;refine av ?_;rw [hdr];exact rfl
end
section
variable {G:GS}
attribute [local irreducible] aj aC aG aL aO vC aU au
theorem ym (a b c:Nat):dZ a b c=dZ b a c:=by unfold dZ;rw [a₆]
theorem F8 (a b c:Nat) (ha:bh a) (hb:bh b) (hc:bh c):aD Tryz.prog G 204 [.int .u64 a, .int .u64 b, .int .u64 c] (.tup [.int .u64 (dZ a b c).1, .bool (dZ a b c).2]):=by
 have c1:=Ee (G:=G) a b ha hb;have hN:=a₃ (a * b) 18446744073709551616;have hlow:a * b % 18446744073709551616 < 18446744073709551616:=b₅ _ (by decide);unfold dZ;obtain⟨hi,hhi⟩: ∃x,x=a * b / 18446744073709551616:=⟨_,rfl⟩
 obtain⟨lo,hlo⟩: ∃x,x=a * b % 18446744073709551616:=⟨_,rfl⟩
 rw [← hhi,← hlo] at c1;rw [← hhi,← hlo,a₆] at hN;rw [← hlo] at hlow;rw [← hhi,← hN];clear hhi hlo hN;by_cases h0:c=0∨c≤hi
 ·rw [if_pos h0];have hle:c≤hi:=om;refine aZ seat Tryz.func204 29 ?_;refine ae ?_;refine cC (c1) ?_;refine ad rfl ?_ ?_ <;> intro h
  ·refine ae ?_;refine av ?_;rfl
  ·exact absurd (oF h) om
 ·rw [if_neg h0];have hlt:hi < c:=om;have c2:=Lr (G:=G) hi lo c hlow hc hlt;obtain⟨Q,hQ⟩: ∃x,x=(hi * 18446744073709551616 + lo) / c:=⟨_,rfl⟩
  rw [← hQ] at c2 ⊢;obtain⟨R,hR⟩: ∃x,x=(hi * 18446744073709551616 + lo) % c:=⟨_,rfl⟩
  rw [← hR] at c2;clear hQ hR;refine aZ seat Tryz.func204 29 ?_;refine ae ?_;refine cC (c1) ?_;refine ad rfl ?_ ?_ <;> intro h
  ·exact absurd (ot h) om
  ·refine ae ?_;refine cC (c2) ?_;refine av ?_;rfl
theorem Ls (fee gas:Nat) (h1:bh fee) (h2:bh gas):aD Tryz.prog G 165 [.int .u64 fee, .int .u64 gas] (.int .u64 (o9 fee gas)):=by
 have c1:=F8 (G:=G) 1000 fee gas (by unfold bh;omega) h1 h2;rw [ym] at c1;unfold o9;generalize dZ fee 1000 gas=p at *;obtain⟨v,b⟩:=p;dsimp only at c1 ⊢;by_cases hg:gas=0
 ·subst hg;rw [if_pos rfl];refine aZ seat Tryz.func165 18 ?_;refine ae ?_;(iterate 6 ((all_goals(refine ae ?_));(all_goals(first | (refine ai rfl (fun _ h=>h) rfl (aa (c1)) rfl rfl ?_) | ((first | refine ah rfl rfl ?_ rfl ?_ | refine ad rfl ?_ ?_);all_goals(intro h;(try simp only [pl] at h);(try (exfalso;omega)))) | skip))));all_goals(refine av ?_)
  all_goals rfl
 ·rw [if_neg hg];cases b with
  | true=>
   rw [if_pos rfl];refine aZ seat Tryz.func165 18 ?_;refine ae ?_;(iterate 6 ((all_goals(refine ae ?_));(all_goals(first | (refine ai rfl (fun _ h=>h) rfl (aa (c1)) rfl rfl ?_) | ((first | refine ah rfl rfl ?_ rfl ?_ | refine ad rfl ?_ ?_);all_goals(intro h;(try simp only [pl] at h);(try (exfalso;omega)))) | skip))));all_goals(refine av ?_)
   all_goals rfl
  | false=>
   rw [if_neg sm];refine aZ seat Tryz.func165 18 ?_;refine ae ?_;(iterate 6 ((all_goals(refine ae ?_));(all_goals(first | (refine ai rfl (fun _ h=>h) rfl (aa (c1)) rfl rfl ?_) | ((first | refine ah rfl rfl ?_ rfl ?_ | refine ad rfl ?_ ?_);all_goals(intro h;(try simp only [pl] at h);(try (exfalso;omega)))) | skip))));all_goals(refine av ?_)
   all_goals rfl
theorem Lt (a b:Nat) (ha:bh a) (hb:bh b):aD Tryz.prog G 201 [.int .u64 a, .int .u64 b] (.tup [.int .u64 (jW a b).1, .bool (jW a b).2]):=by
 have c1:=Np (G:=G) a b ha hb;generalize jW a b=p at *;obtain⟨v,b⟩:=p;dsimp only at c1 ⊢;refine aZ seat Tryz.func201 11 ?_;refine ae ?_;(iterate 6 ((all_goals(refine ae ?_));(all_goals(first | (refine ai rfl (fun _ h=>h) rfl (aa (c1)) rfl rfl ?_) | ((first | refine ah rfl rfl ?_ rfl ?_ | refine ad rfl ?_ ?_);all_goals(intro h;(try simp only [pl] at h);(try (exfalso;omega)))) | skip))));all_goals(refine av ?_)
 all_goals rfl
theorem Lu (x y:Int) (hx: -9223372036854775808≤x∧x < 9223372036854775808) (hy: -9223372036854775808≤y∧y < 9223372036854775808):aD Tryz.prog G 200 [.int .i64 x, .int .i64 y] (.int .u64 (mg x y)):=by
 have c1:=IN (G:=G) x hx;have c2:=IN (G:=G) y hy;have l1:limS x≤1073741824:=by unfold limS;omega
 have l2:limS y≤1073741824:=by unfold limS;omega
 unfold mg;generalize limS x=u at *;generalize limS y=v at *;refine aZ seat Tryz.func200 13 ?_;refine ae ?_;(iterate 4 ((all_goals(refine ae ?_));(all_goals(first | (refine ai rfl (fun _ h=>h) rfl (aa (c1)) rfl rfl ?_) | (refine ai rfl (fun _ h=>h) rfl (aa (c2)) rfl rfl ?_) | ((first | refine ah rfl rfl ?_ rfl ?_ | refine ad rfl ?_ ?_);all_goals(intro h;(try simp only [pl] at h);(try (exfalso;omega)))) | skip))));all_goals(refine av ?_)
 refine congrArg (MV.int .u64) ?_;omega
theorem Eg (t:iJ) (ht:gE t):aD Tryz.prog G 202 [nh t] (.tup [.int .u64 (ek t).1, .bool (ek t).2]):=by
 obtain⟨snd,seq,gas,fee,memo,trs⟩:=t;obtain⟨h1,h2,h3,h4,h5,h6,h7⟩:=ht;dsimp only at h1 h2 h3 h4 h5 h6 h7;have cs:=CF (G:=G) (fee :: trs.map (·.amt)) (by simp;omega) (by
  intro a ha;rcases List.mem_cons.1 ha with rfl | ha
  ·exact h4
  ·obtain⟨x,hx,rfl⟩:=List.mem_map.1 ha;exact(h7 x hx).2)
 unfold ek;dsimp only;generalize sumG (fee :: trs.map (·.amt)) 0=p at *;obtain⟨v,b⟩:=p;dsimp only at cs ⊢;unfold nh;dsimp only;have hzl:(fee :: trs.map (·.amt)).length=trs.length + 1:=sm;refine aZ seat Tryz.func202 27 ?_;refine ae ?_;refine ar Nat (fun k=> [(13, .int .i64 k),(12, .int .i64 trs.length),(11, .sl trs.length (trs.map lh)),(4, .ms 0 1 0 (k + 1))]) (fun k=> [(0,⟨22,1,true,0,eH (fee :: (trs.take k).map (·.amt))⟩)]) 1 (fun k=>k≤trs.length) (fun k=>trs.length - k) 0 (a₅ _) (by rw [e₇];exact(vm [(0,_)] [])) ?_;intro k hk;try dsimp only
 refine ae ?_;refine ad rfl ?_ ?_ <;> intro h
 ·have hk':k < trs.length:=by have:=ot h;omega
  have hel:=kP hk';have hsucc:=wy fee trs hk';have hll:(eH (fee :: (trs.take k).map (·.amt))).length=k + 1:=by simp [eH];omega
  generalize trs[k] =x at *;obtain⟨to_,amt⟩:=x;dsimp only at hsucc;replace hel:cS (trs.map lh) trs.length (k:Int)=some (.st [.str to_, .int .u64 amt]):=hel;have hel:=al.mk hel;refine ae ?_;refine aY rfl rfl (by intro R hR;refine dM hR ?_;(refine b₃ (c₅ _) ?_;refine⟨_,rfl,?_⟩;refine b₃ ⟨hll,aE (by kernel_rfl) pf⟩ ?_;refine⟨eH (fee :: (trs.take (k + 1)).map (·.amt)),sv (by rw [hsucc];rfl),k + 1 + 1,sv pf,?_⟩);exact hR) rfl ?_;refine ae ?_;exact⟨k + 1,by show k + 1≤trs.length;omega,by show trs.length - (k + 1) < trs.length - k;omega,(by dsimp only;exact(vm [(0,_)] []))⟩
 ·have hk':k=trs.length:=by have:=oF h;omega
  subst hk';rw [c₈];generalize fee :: trs.map (·.amt)=Z at *;rw [← hzl];refine ae ?_;refine bV rfl (fun _ h=>h) rfl (aa cs) rfl [(0,Z.length)] ⟨(by show Z.length≤(eH Z).length;simp [eH]),trivial⟩ lm ?_;refine ae ?_;refine av ?_;rfl
end
section
variable {G:GS}
attribute [local irreducible] aj aC aG aL aO vC aU au
theorem AS: ∀(l:List aW) (s:Nat),sumG (l.map (·.bal)) s=totS l s
 | [],_=>rfl
 | a :: r,s=>by
  rw [List.map_cons,sumG,totS,AS r]
theorem AT (l:List aW) {c:Nat} (hc:bh c):sumG (c :: l.map (·.bal)) 0=totS l c:=by
 unfold bh at hc;rw [sumG,show iz 0 c=(c,true) by unfold iz;rw [if_pos om,c₁],if_pos rfl,AS]
theorem uz (f:Nat) (l:List aW) {k:Nat} (hk:k < l.length):eH (f :: (l.take (k + 1)).map (·.bal))=eH (f :: (l.take k).map (·.bal)) ++ [.int .u64 (l[k].bal:Int)] :=by
 rw [b₉ hk,e₆,← List.cons_append];unfold eH;rw [e₆];rfl
theorem pw: ∀(x y:List UInt8),Op.bytesLess x y=decide (x < y)
 | [],[] =>by simp [Op.bytesLess]
 | _ :: _,[] =>by simp [Op.bytesLess]
 | [],_ :: _=>by simp [Op.bytesLess]
 | a :: x,b :: y=>by
  rw [Op.bytesLess,pw x y]
  simp only [List.cons_lt_cons_iff]
  by_cases h1:a < b <;> by_cases h2:a=b <;> by_cases h3:x < y <;> simp [h1,h2,h3]
theorem less_irr (x:List UInt8):Op.bytesLess x x=false:=by rw [pw];simp [List.lt_irrefl]
theorem gI {x y z:List UInt8} (h:Op.bytesLess x y=true) (k:Op.bytesLess y z=true):Op.bytesLess x z=true:=by
 rw [pw,decide_eq_true_eq] at h k ⊢;exact List.lt_trans h k
theorem F9 {x y:List UInt8} (h:Op.bytesLess x y=true):Op.bytesLess y x=false:=by
 cases hk:Op.bytesLess y x with
 | false=>rfl
 | true=>have:=gI h hk;rw [less_irr] at this;cases this
theorem uA {x y:List UInt8} (h:Op.bytesLess x y=false) (hne:x≠y):Op.bytesLess y x=true:=by
 rw [pw,decide_eq_false_iff_not,List.not_lt] at h;rw [pw,decide_eq_true_eq];exact Std.lt_of_le_of_ne h (Ne.symm hne)
theorem IT (l:List aW) (col:Nat) (hc:bh col) (hl:l.length≤100000) (hs: ∀a∈l,bh a.bal):aD Tryz.prog G 121 [.st [.sl l.length (l.map aV), .int .u64 col]] (.tup [.int .u64 (totS l col).1, .bool (totS l col).2]):=by
 have cs:=CF (G:=G) (col :: l.map (·.bal)) (by simp;omega) (by
  intro a ha;rcases List.mem_cons.1 ha with rfl | ha
  ·exact hc
  ·obtain⟨x,hx,rfl⟩:=List.mem_map.1 ha;exact hs x hx)
 rw [AT l hc] at cs;generalize totS l col=p at *;obtain⟨v,b⟩:=p;dsimp only at cs ⊢;have hzl:(col :: l.map (·.bal)).length=l.length + 1:=sm;refine aZ seat Tryz.func121 27 ?_;refine ae ?_;refine ar Nat (fun k=> [(13, .int .i64 k),(12, .int .i64 l.length),(11, .sl l.length (l.map aV)),(4, .ms 0 1 0 (k + 1))]) (fun k=> [(0,⟨22,1,true,0,eH (col :: (l.take k).map (·.bal))⟩)]) 1 (fun k=>k≤l.length) (fun k=>l.length - k) 0 (a₅ _) (by rw [e₇];exact(vm [(0,_)] [])) ?_;intro k hk;try dsimp only
 refine ae ?_;refine ad rfl ?_ ?_ <;> intro h
 ·have hk':k < l.length:=by have:=ot h;omega
  have hel:=eN hk';have hsucc:=uz col l hk';have hll:(eH (col :: (l.take k).map (·.bal))).length=k + 1:=by simp [eH];omega
  generalize l[k] =x at *;obtain⟨nm,bal,seq⟩:=x;dsimp only at hsucc;replace hel:cS (l.map aV) l.length (k:Int)=some (.st [.str nm, .int .u64 bal, .int .u64 seq]):=hel;have hel:=al.mk hel;refine ae ?_;refine aY rfl rfl (by intro R hR;refine dM hR ?_;(refine b₃ (c₅ _) ?_;refine⟨_,rfl,?_⟩;refine b₃ ⟨hll,aE (by kernel_rfl) pf⟩ ?_;refine⟨eH (col :: (l.take (k + 1)).map (·.bal)),sv (by rw [hsucc];rfl),k + 1 + 1,sv pf,?_⟩);exact hR) rfl ?_;refine ae ?_;exact⟨k + 1,by show k + 1≤l.length;omega,by show l.length - (k + 1) < l.length - k;omega,(by dsimp only;exact(vm [(0,_)] []))⟩
 ·have hk':k=l.length:=by have:=oF h;omega
  subst hk';rw [c₈];generalize col :: l.map (·.bal)=Z at *;rw [← hzl];refine ae ?_;refine bV rfl (fun _ h=>h) rfl (aa cs) rfl [(0,Z.length)] ⟨(by show Z.length≤(eH Z).length;simp [eH]),trivial⟩ lm ?_;refine ae ?_;refine av ?_;rfl
theorem Eh (s:List UInt8):aD Tryz.prog G 155 [.str s] (.bool false):=by
 have e1:=aT.mk (show(!(s == s))=false by simp);refine aZ seat Tryz.func155 6 ?_;refine fP ?_;refine av ?_;try simp
 try rfl
def jd (a b:List UInt8):Int:=if Op.bytesLess a b=true then -1 else if (!(Op.bytesLess a b || a == b))=true then 1 else 0
theorem Ga (a b:List UInt8):aD Tryz.prog G 124 [.str a, .str b] (.int .i64 (jd a b)):=by
 have c1:=Eh (G:=G) a;have c2:=Eh (G:=G) b;unfold jd;by_cases h1:Op.bytesLess a b=true
 ·rw [if_pos h1];refine aZ seat Tryz.func124 20 ?_;refine ae ?_;refine cC (c1) ?_;refine cC (c2) ?_;refine ad rfl ?_ ?_ <;> intro h
  ·refine ae ?_;refine av ?_;rfl
  ·exact absurd h1 (by rw [h];simp)
 ·rw [if_neg h1];by_cases h2:(!(Op.bytesLess a b || a == b))=true
  ·rw [if_pos h2];refine aZ seat Tryz.func124 20 ?_;refine ae ?_;refine cC (c1) ?_;refine cC (c2) ?_;refine ad rfl ?_ ?_ <;> intro h
   ·exact absurd h h1
   refine ae ?_;refine ad rfl ?_ ?_ <;> intro h
   ·refine ae ?_;refine av ?_;rfl
   ·exact absurd h2 (by rw [h];simp)
  ·rw [if_neg h2];refine aZ seat Tryz.func124 20 ?_;refine ae ?_;refine cC (c1) ?_;refine cC (c2) ?_;refine ad rfl ?_ ?_ <;> intro h
   ·exact absurd h h1
   refine ae ?_;refine ad rfl ?_ ?_ <;> intro h
   ·exact absurd h h2
   ·refine ae ?_;refine av ?_;rfl
theorem yn (a b:List UInt8):jd a b < 0↔Op.bytesLess a b=true:=by
 unfold jd;split
 ·rename_i h;simp [h]
 ·rename_i h;split <;> simp [h]
theorem Nr {a b:List UInt8} (h:jd a b=0):a=b:=by
 unfold jd at h;split at h
 ·exact absurd h (by decide)
 ·rename_i h1;split at h
  ·exact absurd h (by decide)
  ·rename_i h2;simpa [h1] using h2
theorem cmpN_self (a:List UInt8):jd a a=0:=by
 unfold jd;simp [less_irr]
theorem px (a:aW) (s:List UInt8):aD Tryz.prog G 236 [aV a, .str s] (.int .i64 (jd a.name s)):=by
 have c1:=Ga (G:=G) a.name s;unfold aV;refine aZ seat Tryz.func236 9 ?_;refine ae ?_;refine cC (c1) ?_;refine av ?_;rfl
theorem Gb (L:gr) (hL:kS L):aD Tryz.prog G 162 [lgM L] (.int .i64 (eY L)):=by
 obtain⟨l,col⟩:=L;obtain⟨hl,hcol,hsm⟩:=hL;dsimp only at hl hcol hsm;have ct:=IT (G:=G) l col hcol om (fun a ha=>(hsm a ha).2.1);generalize hQ:eY ⟨l,col⟩=Q;unfold eY at hQ;dsimp only at hQ;unfold lgM;dsimp only;by_cases hn:256 < l.length
 ·rw [if_pos hn] at hQ;subst hQ;refine aZ seat Tryz.func162 62 ?_;refine ae ?_;(iterate 6 ((all_goals(refine ae ?_));(all_goals(first | ((first | refine ah rfl rfl ?_ rfl ?_ | refine ad rfl ?_ ?_);all_goals(intro h;(try simp only [pl] at h);(try (exfalso;omega)))) | skip))));all_goals(refine av ?_)
  all_goals rfl
 rw [if_neg hn] at hQ;generalize hv:Co none l=v at *;generalize totS l col=p at *;obtain⟨tot,ok⟩:=p;dsimp only at ct hQ;refine aZ seat Tryz.func162 62 ?_;refine ae ?_;(iterate 3 ((all_goals(refine ae ?_));(all_goals(first | ((first | refine ah rfl rfl ?_ rfl ?_ | refine ad rfl ?_ ?_);all_goals(intro h;(try simp only [pl] at h);(try (exfalso;omega)))) | skip))));refine ar Nat (fun k=> [(14, .int .i64 k),(13, .int .i64 l.length),(12, .sl l.length (l.map aV)),(1, .ptr 0 2 0 0 [])]) (fun _=> [(0,⟨36,2,false,0,[.st [.sl l.length (l.map aV), .int .u64 col]]⟩)]) 1 (fun k=>k≤l.length∧Co (lj l k) (l.drop k)=v) (fun k=>l.length - k) 0 ⟨a₅ _,by rw [a₈];exact hv⟩ (vm [(0,_)] []) ?_;clear hv;rintro k ⟨hk,hR⟩;try dsimp only
 refine ae ?_;refine ad rfl ?_ ?_ <;> intro h
 ·have hk':k < l.length:=by have:=ot h;omega
  have hel:=eN hk';have hpn:lj l (k + 1)=some l[k].name:=by show(l[k]?).map _=_;simp [hk']
  have c1:=rX (G:=G) l[k].name (by have:=(hsm _ (c₀ hk')).1;omega);rw [a₄ hk',pa] at hR;rw [← hpn] at hR;have hnmk:lj l (k + 1)=some l[k].name:=hpn;rw [hnmk] at hR;generalize hak:l[k] =a at *;obtain⟨nm,bal,seq⟩:=a;replace hel:cS (l.map aV) l.length (k:Int)=some (.st [.str nm, .int .u64 bal, .int .u64 seq]):=hel;have hel:=al.mk hel;dsimp only at hR c1;by_cases hnm:dj nm=false
  ·rw [hnm] at c1;rw [if_pos hnm] at hR;subst hR;rw [if_pos om] at hQ;subst hQ;refine ae ?_;(iterate 6 ((all_goals(refine ae ?_));(all_goals(first | (refine ai rfl (fun _ h=>h) rfl (aa (c1)) rfl rfl ?_) | ((first | refine ah rfl rfl ?_ rfl ?_ | refine ad rfl ?_ ?_);all_goals(intro h;(try simp only [pl] at h);(try (exfalso;omega)))) | skip))));all_goals(refine av ?_)
   all_goals rfl
  rw [if_neg hnm] at hR;have hnm:dj nm=true:=by simpa using hnm
  rw [hnm] at c1;cases k with
  | zero=>
   dsimp only [lj] at hR;have hR:Co (lj l (0 + 1)) (l.drop (0 + 1))=v:=by rw [hnmk];exact hR
   refine ae ?_;(iterate 3 ((all_goals(refine ae ?_));(all_goals(first | (refine ai rfl (fun _ h=>h) rfl (aa (c1)) rfl rfl ?_) | ((first | refine ah rfl rfl ?_ rfl ?_ | refine ad rfl ?_ ?_);all_goals(intro h;(try simp only [pl] at h);(try (exfalso;omega)))) | skip))));refine aw [ag 0,ag 1,ag 2,ag 3,ag 4,ag 5,ag 6,ag 7,ag 8,ag 9,ag 10,ag 11,ag 12,ag 13,ag 14] ?_;refine ae ?_;refine aw [ag 0,ag 1,ag 2,ag 3,ag 4,ag 5,ag 6,ag 7,ag 8,ag 9,ag 10,ag 11,ag 12,ag 13,ag 14] ?_;refine ae ?_;exact⟨0 + 1,⟨by show 0 + 1≤l.length;omega,hR⟩,by show l.length - (0 + 1) < l.length - 0;omega,(by dsimp only;exact(vm [(0,_)] []))⟩
  | succ j=>
   have hj:j < l.length:=om;have hep:=eN hj;have hpj:lj l (j + 1)=some l[j].name:=by show(l[j]?).map _=_;simp [hj]
   rw [hpj] at hR;generalize l[j] =b at *;obtain⟨nb,bb,sb⟩:=b;replace hep:cS (l.map aV) l.length (((j + 1:Nat):Int) - 1)=some (.st [.str nb, .int .u64 bb, .int .u64 sb]):=by rw [show ((j + 1:Nat):Int) - 1=(j:Int) by omega];exact hep
   have hep:=al.mk hep;dsimp only at hR;refine ae ?_;(iterate 3 ((all_goals(refine ae ?_));(all_goals(first | (refine ai rfl (fun _ h=>h) rfl (aa (c1)) rfl rfl ?_) | ((first | refine ah rfl rfl ?_ rfl ?_ | refine ad rfl ?_ ?_);all_goals(intro h;(try simp only [pl] at h);(try (exfalso;omega)))) | skip))));refine aw [ag 0,ag 1,ag 2,ag 3,ag 4,ag 5,ag 6,ag 7,ag 8,ag 9,ag 10,ag 11,ag 12,ag 13,ag 14] ?_;refine ae ?_;refine gO rfl rfl ?_ rfl ?_ <;> intro h
   rotate_left
   ·exact absurd (oF h) om
   by_cases hd:nb=nm
   ·subst hd;rw [if_pos rfl] at hR;subst hR;rw [if_pos om] at hQ;subst hQ;refine fP ?_;(iterate 4 ((all_goals(refine ae ?_));(all_goals(first | ((first | refine ah rfl rfl ?_ rfl ?_ | refine ad rfl ?_ ?_);all_goals(intro h;(try simp only [pl] at h);(try (exfalso;omega)))) | skip))));all_goals(refine av ?_)
    all_goals rfl
   rw [if_neg hd] at hR;refine ae ?_;refine ad rfl ?_ ?_ <;> intro h
   ·exact absurd (eq_of_beq h) hd
   refine ae ?_;refine aw [ag 0,ag 1,ag 2,ag 3,ag 4,ag 5,ag 6,ag 7,ag 8,ag 9,ag 10,ag 11,ag 12,ag 13,ag 14] ?_;refine ae ?_;refine gO rfl rfl ?_ rfl ?_ <;> intro h
   rotate_left
   ·exact absurd (oF h) om
   refine ae ?_;refine ad rfl ?_ ?_ <;> intro h
   ·rw [if_pos h] at hR;subst hR;rw [if_pos om] at hQ;subst hQ;refine ae ?_;refine av ?_;rfl
   ·rw [if_neg (by rw [h];simp)] at hR;refine ae ?_;exact⟨j + 1 + 1,⟨by show j + 1 + 1≤l.length;omega,by rw [hnmk];exact hR⟩,by show l.length - (j + 1 + 1) < l.length - (j + 1);omega,(by dsimp only;exact(vm [(0,_)] []))⟩
 ·have hk':k=l.length:=by have:=oF h;omega
  subst hk';rw [b₇,DQ] at hR;subst hR;rw [if_neg sm] at hQ;cases ok with
  | true=>
   rw [if_neg sm] at hQ;subst hQ;refine ae ?_;(iterate 6 ((all_goals(refine ae ?_));(all_goals(first | (refine ai rfl (fun _ h=>h) rfl (aa (ct)) rfl rfl ?_) | ((first | refine ah rfl rfl ?_ rfl ?_ | refine ad rfl ?_ ?_);all_goals(intro h;(try simp only [pl] at h);(try (exfalso;omega)))) | skip))));all_goals(refine av ?_)
   all_goals rfl
  | false=>
   rw [if_pos rfl] at hQ;subst hQ;refine ae ?_;(iterate 6 ((all_goals(refine ae ?_));(all_goals(first | (refine ai rfl (fun _ h=>h) rfl (aa (ct)) rfl rfl ?_) | ((first | refine ah rfl rfl ?_ rfl ?_ | refine ad rfl ?_ ?_);all_goals(intro h;(try simp only [pl] at h);(try (exfalso;omega)))) | skip))));all_goals(refine av ?_)
   all_goals rfl
end
end Go.Proofs.YthdhlcicpcnbhaaGreatDoor
