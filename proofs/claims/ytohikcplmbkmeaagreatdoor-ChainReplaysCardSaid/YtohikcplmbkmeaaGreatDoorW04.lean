/- Parts of a proof. -/
import Derived.Test.YtohikcplmbkmeaaGreatDoorW03
open And renaming intro → a₀
open List renaming length_drop → a₁,replicate → a₂,length_append → a₃,append_assoc → a₅,length_take → a₆,length_cons → a₇,take_of_length_le → b₁,length_singleton → b₂,length_eq_zero_iff → b₅,length_set → b₆,drop_append_of_le_length → b₇,range → b₉,drop_zero → c₅,map_append → c₉,append_nil → d₀,drop_eq_nil_of_le → d₁,drop_drop → d₂,mem_of_mem_take → d₃,mem_of_mem_drop → d₄,flatten_append → d₅,length_map → d₉,length_nil → e₁
open Prod.mk renaming injEq → a₄
open Nat renaming zero_le → a₈,le_refl → a₉,pow_le_pow_right → b₀,mul_le_mul_right → b₃,mod_eq_of_lt → b₈,pow_succ → c₁,lt_or_ge → c₄,ble → c₆,le_of_lt → c₈,le_of_eq → d₆,zero_add → d₇,div_le_self → d₈,min_eq_left → e₀
open Bool renaming noConfusion → b₄
open Int renaming fdiv_eq_ediv_of_nonneg → c₀,natCast_ediv → c₂,natCast_pow → c₃,natCast_emod → c₇
set_option maxRecDepth 20000
set_option maxHeartbeats 16000000
set_option linter.unusedVariables false
set_option linter.unusedSimpArgs false
namespace Go.Proofs.YtohikcplmbkmeaaGreatDoor
open Go.RowKit
section
variable {G:GS}
attribute [local irreducible] ak aB aD aJ aQ vC aY aw
theorem Fl (x:UInt8):x &&& 127=UInt8.ofNat (x.toNat % 128):=Lr (p:=fun x=>x &&& 127=UInt8.ofNat (x.toNat % 128)) (by decide +kernel) x
theorem nP (x:UInt8):IntKind.u8.wrap ((BitVec.ofInt IntKind.u8.bits (x.toNat:Int) &&& BitVec.ofInt IntKind.u8.bits (127:Int)).toNat:Int)=((x.toNat % 128:Nat):Int):=by
 have h:=ZD x 127;rw [Fl,UInt8.toNat_ofNat',b₈ (show x.toNat % 128 < 2 ^ 8 by omega)] at h;exact h
theorem V2 (i:Nat):2 ^ (7 * i)=128 ^ i:=by rw [Nat.pow_mul]
theorem Hb {y i:Nat} (h:i≤8∧y < 128∨i=9∧y≤1):y * 128 ^ i + 128 ^ i≤18446744073709551616:=by
 rcases h with ⟨h1,h2⟩ | ⟨rfl,h2⟩
 ·have:128 ^ i≤128 ^ 8:=b₀ om h1;have h3:y * 128 ^ i≤127 * 128 ^ i:=b₃ _ om;omega
 ·omega
theorem CX {y i:Nat} (h:i≤8∧y < 128∨i=9∧y≤1):IntKind.u64.wrap ((y:Int) * 2 ^ (min (7 * (i:Int)).toNat IntKind.u64.bits))=((y * 128 ^ i:Nat):Int):=by
 have e:min (7 * (i:Int)).toNat IntKind.u64.bits=7 * i:=by simp [IntKind.bits];omega
 have hb:=Hb h;have hp:0 < 128 ^ i:=Nat.pow_pos om;rw [e,wu64,show ((y:Int) * 2 ^ (7 * i))=((y * 128 ^ i:Nat):Int) by rw [← V2,Int.natCast_mul,c₃];rfl];omega
theorem Sf {n y i:Nat} (hn:n < 128 ^ i) (h:i≤8∧y < 128∨i=9∧y≤1):IntKind.u64.wrap ((BitVec.ofInt IntKind.u64.bits (n:Int) ||| BitVec.ofInt IntKind.u64.bits ((y * 128 ^ i:Nat):Int)).toNat:Int)=((n + y * 128 ^ i:Nat):Int):=by
 have hb:=Hb h;have hp:0 < 128 ^ i:=Nat.pow_pos om;have e:n ||| y * 128 ^ i=n + y * 128 ^ i:=by
  rw [← V2] at hn ⊢;have:=Nat.shiftLeft_add_eq_or_of_lt hn y;rw [Nat.shiftLeft_eq] at this;rw [Nat.or_comm,← this,Nat.add_comm]
 rw [BitVec.toNat_or,fQ _ _ (show n < 2 ^ IntKind.u64.bits by show n < 18446744073709551616;omega),fQ _ _ (show y * 128 ^ i < 2 ^ IntKind.u64.bits by show _ < 18446744073709551616;omega),e,wu64];omega
def pN (x:Nat×Nat×Nat):MV:= .tup [.int .u64 x.1, .int .i64 x.2.1, .int .i64 x.2.2]
theorem Fm {l:List UInt8} {k:Nat} (hk:k < l.length):bI (u8s l) l.length (k:Int)=some (.int .u8 l[k].toNat):=dB hk (by simp [u8s,hk])
theorem Lt (b:List UInt8) (hb:b.length < 4000000000):aE Tryz.prog G 251 [.sl b.length (u8s b)] (pN (readS b 0 0)):=by
  unfold pN;generalize hr:readS b 0 0=r at *;obtain⟨r1,r2,r3⟩:=r;dsimp only;refine bA seat Tryz.func251 53 ?_;refine aa ?_;refine av (Nat×Nat) (fun x=> [(0, .sl b.length (u8s b)),(5, .int .u64 x.2),(6, .int .i64 x.1)]) (fun _=> []) 0 (fun x=>x.1≤9∧x.1≤b.length∧x.2 < 128 ^ x.1∧readS (b.drop x.1) x.1 x.2=(r1,r2,r3)) (fun x=>b.length - x.1) (0,0) ⟨dm,dm,dm,by dsimp only;rw [c₅];exact hr⟩ (by dsimp only;exact(vm [] [])) ?_;rintro⟨i,n⟩ ⟨hi,hib,hn,hR⟩;try dsimp only
  dsimp only at hi hib hn hR;refine aa ?_;refine ad rfl ?_ ?_ <;> intro h
  · have gS:i=b.length:=by have:=ot h;omega
    rw [d₁ om,readS] at hR;simp only [a₄] at hR;obtain⟨rfl,rfl,rfl⟩:=hR;refine aa ?_;refine au ?_;rfl
  · have gS:i < b.length:=by have:=oF h;omega
    have aH:=Fm gS;rw [List.drop_eq_getElem_cons gS,readS] at hR;generalize b[i] =x at *;have X2:=x.toNat_lt;refine aa ?_;refine ag rfl rfl ?_ rfl ?_ <;> intro h
    · have h9:i=9:=by
        have:(i:Int)=9:=by simpa using h
        omega
      (have dh:=aj.mk (aH);refine aa ?_);refine ad rfl ?_ ?_ <;> intro h
      · have hx:=ot h;rw [if_pos om] at hR;simp only [a₄] at hR;obtain⟨rfl,rfl,rfl⟩:=hR;refine aa ?_;refine au ?_;rfl
      · have hx:=oF h;rw [if_neg om] at hR;refine aa ?_;refine ag rfl rfl ?_ rfl ?_ <;> intro h
        · have h0:=ot h;(have dh:=aj.mk (aH);refine aa ?_);refine ad rfl ?_ ?_ <;> intro h
          · have hx:x.toNat=0:=by simpa using h
            rw [if_pos om] at hR;simp only [a₄] at hR;obtain⟨rfl,rfl,rfl⟩:=hR;refine aa ?_;refine au ?_;rfl
          · have hx:x.toNat≠0:=by simpa using h
            rw [if_neg om] at hR;have hv:i≤8∧x.toNat % 128 < 128∨i=9∧x.toNat % 128≤1:=om;(have dh:=aX.mk (nP x);have dh:=aX.mk (CX hv);have dh:=aX.mk (Sf hn hv);have dh:=aj.mk (aH);refine aa ?_);refine ad rfl ?_ ?_ <;> intro h
            · have hx:=ot h;rw [if_pos om] at hR;simp only [a₄] at hR;obtain⟨rfl,rfl,rfl⟩:=hR;refine aa ?_;refine au ?_;rw [b₈ (show x.toNat < 128 by omega)];rfl
            · have hx:=oF h;rw [if_neg om] at hR;refine aa ?_;refine⟨(i + 1,n + x.toNat % 128 * 128 ^ i),⟨dm,dm,?_,?_⟩,by show b.length - (i + 1) < b.length - i;omega,(by dsimp only;exact(vm [] []))⟩
              · have h3:x.toNat % 128 * 128 ^ i≤127 * 128 ^ i:=b₃ _ om;dsimp only;rw [c₁];omega
              · dsimp only;rw [show x.toNat % 128=x.toNat - 128 by omega];exact hR
        · have h0: ¬ (0:Int) < i:=by simpa using h
          rw [if_neg om] at hR;have hv:i≤8∧x.toNat % 128 < 128∨i=9∧x.toNat % 128≤1:=om;(have dh:=aX.mk (nP x);have dh:=aX.mk (CX hv);have dh:=aX.mk (Sf hn hv);have dh:=aj.mk (aH);refine aa ?_);refine ad rfl ?_ ?_ <;> intro h
          · have hx:=ot h;rw [if_pos om] at hR;simp only [a₄] at hR;obtain⟨rfl,rfl,rfl⟩:=hR;refine aa ?_;refine au ?_;rw [b₈ (show x.toNat < 128 by omega)];rfl
          · have hx:=oF h;rw [if_neg om] at hR;refine aa ?_;refine⟨(i + 1,n + x.toNat % 128 * 128 ^ i),⟨dm,dm,?_,?_⟩,by show b.length - (i + 1) < b.length - i;omega,(by dsimp only;exact(vm [] []))⟩
            · have h3:x.toNat % 128 * 128 ^ i≤127 * 128 ^ i:=b₃ _ om;dsimp only;rw [c₁];omega
            · dsimp only;rw [show x.toNat % 128=x.toNat - 128 by omega];exact hR
    · have h9:i≠9:=by
        have: ¬ (i:Int)=9:=by simpa using h
        omega
      rw [if_neg om] at hR;refine aa ?_;refine ag rfl rfl ?_ rfl ?_ <;> intro h
      · have h0:=ot h;(have dh:=aj.mk (aH);refine aa ?_);refine ad rfl ?_ ?_ <;> intro h
        · have hx:x.toNat=0:=by simpa using h
          rw [if_pos om] at hR;simp only [a₄] at hR;obtain⟨rfl,rfl,rfl⟩:=hR;refine aa ?_;refine au ?_;rfl
        · have hx:x.toNat≠0:=by simpa using h
          rw [if_neg om] at hR;have hv:i≤8∧x.toNat % 128 < 128∨i=9∧x.toNat % 128≤1:=om;(have dh:=aX.mk (nP x);have dh:=aX.mk (CX hv);have dh:=aX.mk (Sf hn hv);have dh:=aj.mk (aH);refine aa ?_);refine ad rfl ?_ ?_ <;> intro h
          · have hx:=ot h;rw [if_pos om] at hR;simp only [a₄] at hR;obtain⟨rfl,rfl,rfl⟩:=hR;refine aa ?_;refine au ?_;rw [b₈ (show x.toNat < 128 by omega)];rfl
          · have hx:=oF h;rw [if_neg om] at hR;refine aa ?_;refine⟨(i + 1,n + x.toNat % 128 * 128 ^ i),⟨dm,dm,?_,?_⟩,by show b.length - (i + 1) < b.length - i;omega,(by dsimp only;exact(vm [] []))⟩
            · have h3:x.toNat % 128 * 128 ^ i≤127 * 128 ^ i:=b₃ _ om;dsimp only;rw [c₁];omega
            · dsimp only;rw [show x.toNat % 128=x.toNat - 128 by omega];exact hR
      · have h0: ¬ (0:Int) < i:=by simpa using h
        rw [if_neg om] at hR;have hv:i≤8∧x.toNat % 128 < 128∨i=9∧x.toNat % 128≤1:=om;(have dh:=aX.mk (nP x);have dh:=aX.mk (CX hv);have dh:=aX.mk (Sf hn hv);have dh:=aj.mk (aH);refine aa ?_);refine ad rfl ?_ ?_ <;> intro h
        · have hx:=ot h;rw [if_pos om] at hR;simp only [a₄] at hR;obtain⟨rfl,rfl,rfl⟩:=hR;refine aa ?_;refine au ?_;rw [b₈ (show x.toNat < 128 by omega)];rfl
        · have hx:=oF h;rw [if_neg om] at hR;refine aa ?_;refine⟨(i + 1,n + x.toNat % 128 * 128 ^ i),⟨dm,dm,?_,?_⟩,by show b.length - (i + 1) < b.length - i;omega,(by dsimp only;exact(vm [] []))⟩
          · have h3:x.toNat % 128 * 128 ^ i≤127 * 128 ^ i:=b₃ _ om;dsimp only;rw [c₁];omega
          · dsimp only;rw [show x.toNat % 128=x.toNat - 128 by omega];exact hR
def cj (f:fq):MV:= .st [.int .i64 f.num, .int .i64 f.kind, .int .u64 f.val, .sl f.bytes.length (u8s f.bytes)]
theorem cut_u8 (b:List UInt8) (x y:Nat):cutL (u8s b) x y=u8s ((b.drop x).take (y - x)):=by simp [cutL,u8s]
theorem rC (b:List UInt8) (x y:Nat):bg (cutL (u8s b) x y) 1=true:=by rw [cut_u8];exact bX _
theorem gH {n k:Nat} {κ:IntKind} (h:k≤n):dN n (some (.int κ (k:Int))) none=some (k,n):=by
 unfold dN;dsimp only;rw [if_pos ⟨om,om⟩];simp
theorem kh {n k:Nat} {κ:IntKind} (h:k≤n):dN n none (some (.int κ (k:Int)))=some (0,k):=by
 unfold dN;dsimp only;rw [if_pos ⟨om,om⟩];simp
theorem Tm {n lo hi:Nat} {a c:Int} {κ κ':IntKind} (ha:a=lo) (hc:c=hi) (h1:lo≤hi) (h2:hi≤n):dN n (some (.int κ a)) (some (.int κ' c))=some (lo,hi):=by
 subst ha hc;unfold dN;dsimp only;rw [if_pos ⟨om,om⟩];dsimp only;rw [if_pos ⟨om,by simp;omega⟩];simp
theorem Sg (a b:Nat):(a:Int).tmod (b:Int)=((a % b:Nat):Int):=by
 rw [Int.tmod_eq_emod_of_nonneg om];exact(c₇ a b).symm
theorem CY {a:Nat} (b:Nat) (ha:a < 18446744073709551616):IntKind.u64.wrap ((a:Int).tdiv (b:Int))=((a / b:Nat):Int):=by
 have:=d₈ a b;rw [Int.tdiv_eq_ediv_of_nonneg om,← c₂,wu64];generalize a / b=c at *;omega
theorem Lu {b:List UInt8} (hb:b.length < 4000000000) {n:Nat} {r:Nat×Nat×Nat} (h:readS (b.drop n) 0 0=r):aE Tryz.prog G 251 [.sl (b.length - n) (cutL (u8s b) n b.length)] (pN r):=by
 have:=Lt (G:=G) (b.drop n) (by rw [a₁];omega);rw [h,a₁] at this;rw [cut_u8,b₁ (by rw [a₁];omega)];exact this
theorem V3 (b:List UInt8) (hb:b.length < 1000000000):aT Tryz.prog G 202 [.sl b.length (u8s b)] [] 0 (.tup [cj (gj b).1, .int .i64 (gj b).2.1, .int .i64 (gj b).2.2]) [] 0:=by
  have c1:=Lt (G:=G) b om;have By:=my b 0 0 om om;generalize hr:gj b=r at *;obtain⟨f,m,e⟩:=r;have hR:=hr;unfold gj at hR;generalize readS b 0 0=t at *;obtain⟨T,n,e1⟩:=t;dsimp only at hR By;unfold pN at c1;unfold cj;dsimp only at c1;dsimp only;refine dK seat Tryz.func202 98 ?_;refine aa ?_;refine dZ (c1) ?_;refine ad rfl ?_ ?_ <;> intro h
  · have xS:e1≠0:=by intro h0;subst h0;cases h
    rw [if_pos xS] at hR;simp only [a₄] at hR;obtain⟨rfl,rfl,rfl⟩:=hR;refine aa ?_;refine au ?_;exact en [_,_,_]
  have xS:e1=0:=by
    have:(e1:Int)=0:=by simpa using h
    omega
  subst xS;have hT:=(By rfl).2.2;rw [if_neg sm] at hR;have sF:(T:Int).tmod 8=((T % 8:Nat):Int):=Sg T 8;have hdiv:IntKind.u64.wrap ((T:Int).tdiv 8)=((T / 8:Nat):Int):=CY 8 hT;have Gl:=my (b.drop n) 0 0 om om;generalize xY:readS (b.drop n) 0 0=t2 at *;obtain⟨v,k,e2⟩:=t2;have c2:=Lu (G:=G) (b:=b) om xY;unfold pN at c2;dsimp only at hR c2 Gl;generalize hD:T / 8=D at *;generalize hK:T % 8=K at *;(have dh:=aX.mk (sF);have dh:=aX.mk (hdiv);refine aa ?_);refine ag rfl rfl ?_ rfl ?_ <;> intro h
  · have RY: ¬ (D:Int) < 1:=by simpa using h
    (have dh:=aX.mk (hdiv);refine aa ?_);refine ag rfl rfl ?_ rfl ?_ <;> intro h
    · have Z7: ¬ (536870911:Int) < D:=by simpa using h
      refine aa ?_;refine ag rfl rfl ?_ rfl ?_ <;> intro h
      · have X0:K≠0:=by
          have: ¬ (K:Int)=0:=by simpa using h
          omega
        refine aa ?_;refine ad rfl ?_ ?_ <;> intro h
        · have Eo:K≠2:=by
            have: ¬ (K:Int)=2:=by simpa using h
            omega
          rw [if_pos om] at hR;simp only [a₄] at hR;obtain⟨rfl,rfl,rfl⟩:=hR;refine aa ?_;refine au ?_;exact en [_,_,_]
        have Eo:K=2:=by
          have:(K:Int)=2:=by simpa using h
          omega
        subst Eo;rw [if_neg om] at hR;have Y8:IntKind.u64.wrap ((T:Int).tdiv 8)=(D:Int):=hdiv;have N7:n≤b.length:=by have:=By rfl;omega
        (have dh:=aX.mk (hdiv);have dh:=aj.mk (gH (κ:= .i64) N7);have dh:=bH.mk (bX b);refine aa ?_);refine dZ (c2) ?_;refine ad rfl ?_ ?_ <;> intro h
        · have xU:e2≠0:=by intro h0;subst h0;cases h
          rw [if_pos xU] at hR;simp only [a₄] at hR;obtain⟨rfl,rfl,rfl⟩:=hR;refine aa ?_;refine au ?_;exact en [_,_,_]
        have xU:e2=0:=by
          have:(e2:Int)=0:=by simpa using h
          omega
        subst xU;have hk:=Gl rfl;rw [a₁] at hk;rw [if_neg sm] at hR;rw [if_neg om] at hR;refine aa ?_;refine ad rfl ?_ ?_ <;> intro h
        · have hv:=ot h;rw [if_pos om] at hR;simp only [a₄] at hR;obtain⟨rfl,rfl,rfl⟩:=hR;refine aa ?_;refine au ?_;exact en [_,_,_]
        have hv:=oF h;rw [if_neg om] at hR;simp only [a₄] at hR;obtain⟨rfl,rfl,rfl⟩:=hR;have Yl:dN b.length (some (.int .i64 ((n:Int) + k))) (some (.int .i64 ((n:Int) + k + v)))=some (n + k,n + k + v):=Tm om om om om;have hl:((b.drop (n + k)).take v).length=v:=by rw [a₆,a₁];omega
        (have dh:=aj.mk (Yl);have dh:=bH.mk (bX b);refine aa ?_);refine aO rfl rfl (by intro R hR;refine da hR ?_;refine a₀ (rC b _ _) ?_;refine a₀ ⟨sm,ai (by kernel_rfl) pf⟩ ?_;refine⟨u8s ((b.drop (n + k)).take v),sv (by rw [cut_u8,show n + k + v - (n + k)=v by omega];simp),v,sv pf,?_⟩;exact hR) rfl ?_;refine aa ?_;refine au ?_;rw [show ((n + k + v:Nat):Int)=(n:Int) + k + v by omega];dsimp only;rw [hl];refine⟨[_,_,_],[],[(75,v)],rfl,rfl,?_,rfl,⟨?_,?_,?_,trivial⟩,?_⟩
        · exact⟨by show v≤(u8s ((b.drop (n + k)).take v)).length;rw [show (u8s ((b.drop (n + k)).take v)).length=v by simp only [u8s,d₉];exact hl];exact a₉ _,trivial⟩
        · exact .inr ⟨_,rfl,⟨rfl,rfl⟩,⟨rfl,rfl⟩,⟨rfl,rfl⟩, .inr ⟨rfl,rfl,rfl,d₆ (d₇ _),by simp [cutL,u8s,List.take_take]⟩,trivial⟩
        · exact rv
        · exact rv
        · exact mm
      · have X0:K=0:=by
          have:(K:Int)=0:=by simpa using h
          omega
        subst X0;rw [if_neg om] at hR;have Y8:IntKind.u64.wrap ((T:Int).tdiv 8)=(D:Int):=hdiv;have N7:n≤b.length:=by have:=By rfl;omega
        (have dh:=aX.mk (hdiv);have dh:=aj.mk (gH (κ:= .i64) N7);have dh:=bH.mk (bX b);refine aa ?_);refine dZ (c2) ?_;refine ad rfl ?_ ?_ <;> intro h
        · have xU:e2≠0:=by intro h0;subst h0;cases h
          rw [if_pos xU] at hR;simp only [a₄] at hR;obtain⟨rfl,rfl,rfl⟩:=hR;refine aa ?_;refine au ?_;exact en [_,_,_]
        have xU:e2=0:=by
          have:(e2:Int)=0:=by simpa using h
          omega
        subst xU;have hk:=Gl rfl;rw [a₁] at hk;rw [if_neg sm] at hR;rw [if_pos rfl] at hR;simp only [a₄] at hR;obtain⟨rfl,rfl,rfl⟩:=hR;refine aa ?_;refine au ?_;exact en [_,_,_]
    · have Z7:(536870911:Int) < D:=by simpa using h
      rw [if_pos om] at hR;refine aa ?_;simp only [a₄] at hR;obtain⟨rfl,rfl,rfl⟩:=hR;refine aa ?_;refine au ?_;exact en [_,_,_]
  · have RY:(D:Int) < 1:=by simpa using h
    rw [if_pos om] at hR;refine aa ?_;simp only [a₄] at hR;obtain⟨rfl,rfl,rfl⟩:=hR;refine aa ?_;refine au ?_;exact en [_,_,_]
theorem Pt {b:List UInt8} (hb:b.length < 1000000000) {n:Nat}:aT Tryz.prog G 202 [.sl (b.length - n) (cutL (u8s b) n b.length)] [] 0 (.tup [cj (gj (b.drop n)).1, .int .i64 (gj (b.drop n)).2.1, .int .i64 (gj (b.drop n)).2.2]) [] 0:=by
 have:=V3 (G:=G) (b.drop n) (by rw [a₁];omega);rw [a₁] at this;rw [cut_u8,b₁ (by rw [a₁];omega)];exact this
theorem nQ (k at_:Nat) (acc:List fq):gA k [] at_ acc=(acc,0,0):=by cases k <;> rfl
theorem mz {b:List UInt8} (h:b≠ []) (at_:Nat) (acc:List fq):gA 0 b at_ acc=([],at_,3):=by
 cases b with
 | nil=>exact absurd rfl h
 | cons x b=>rfl
theorem mA {b:List UInt8} (h:b≠ []) (k at_:Nat) (acc:List fq):gA (k + 1) b at_ acc=if (gj b).2.2≠0 then([],at_,(gj b).2.2) else gA k (b.drop (gj b).2.1) (at_ + (gj b).2.1) (acc ++ [(gj b).1]):=by
 cases b with
 | nil=>exact absurd rfl h
 | cons x b=>rw [gA]
theorem Hc {b:List UInt8} {n:Nat} (h:n < b.length):b.drop n≠ [] :=by
 intro h0;have:=congrArg List.length h0;rw [a₁] at this;simp at this;omega
theorem rD (b:List UInt8) (hb:b.length < 1000000000):aT Tryz.prog G 140 [.sl b.length (u8s b)] [] 0 (.tup [.sl (aF b).1.length ((aF b).1.map cj), .int .i64 (aF b).2.1, .int .i64 (aF b).2.2]) [] 0:=by
  generalize hr:aF b=r;obtain⟨l,Yv,e1⟩:=r;dsimp only;refine dK seat Tryz.func140 38 ?_;refine aa ?_;refine av (Nat×List fq) (fun x=> [(6, .int .i64 x.1),(5, .ms 0 4 0 x.2.length),(0, .sl b.length (u8s b))]) (fun x=> [(0,⟨183,4,true,0,x.2.map cj⟩)]) 1 (fun x=>x.1≤b.length∧x.2.length≤1024∧gA (1024 - x.2.length) (b.drop x.1) x.1 x.2=(l,Yv,e1)) (fun x=>b.length - x.1) (0,[]) ⟨a₈ _,a₈ _,by dsimp only;rw [c₅];exact hr⟩ (by dsimp only;exact(vm [] [])) ?_;rintro⟨i,acc⟩ ⟨hi,ha,hG⟩;try dsimp only
  dsimp only at hi ha hG;refine aa ?_;refine ad rfl ?_ ?_ <;> intro h
  · have gS:i < b.length:=by have:=ot h;omega
    have gf:=Hc gS;refine aa ?_;refine ad rfl ?_ ?_ <;> intro h
    · have h4:acc.length=1024:=by have:=ot h;omega
      rw [h4,Nat.sub_self,mz gf] at hG;simp only [a₄] at hG;obtain⟨rfl,rfl,rfl⟩:=hG;refine aa ?_;exact en [_,_,_]
    · have h4:acc.length < 1024:=by have:=oF h;omega
      have c1:=Pt (G:=G) hb (n:=i);have eG:=Fk (b:=b.drop i);rw [show 1024 - acc.length=(1023 - acc.length) + 1 by omega,mA gf] at hG;generalize gj (b.drop i)=o at *;obtain⟨f,m,e⟩:=o;dsimp only at c1 eG hG;(have dh:=aj.mk (gH (κ:= .i64) hi);have dh:=bH.mk (bX b);refine aa ?_);refine jn (c1) ?_;refine ad rfl ?_ ?_ <;> intro h
      · have he:e≠0:=by intro h0;subst h0;cases h
        rw [if_pos he] at hG;simp only [a₄] at hG;obtain⟨rfl,rfl,rfl⟩:=hG;refine aa ?_;exact en [_,_,_]
      · have he:e=0:=by
          have:(e:Int)=0:=by simpa using h
          omega
        subst he;rw [if_neg sm,d₂] at hG;have eG:=eG rfl;rw [a₁] at eG;refine aa ?_;refine aO rfl rfl (by intro R hR;refine da hR ?_;(refine a₀ (a₉ _) ?_;refine⟨_,rfl,?_⟩;refine a₀ ⟨sm,ai (by kernel_rfl) pf⟩ ?_;refine⟨(acc ++ [f]).map cj,sv (by simp;rfl),acc.length + 1,sv pf,?_⟩);exact hR) rfl ?_;refine aa ?_;refine⟨(i + m,acc ++ [f]),⟨dm,by dsimp only;rw [a₃,b₂];omega,?_⟩,by show b.length - (i + m) < b.length - i;omega,?_⟩
        · dsimp only;rw [a₃,b₂,show 1024 - (acc.length + 1)=1023 - acc.length by omega];exact hG
        · dsimp only;rw [a₃,b₂];exact(vm [(0,_)] [])
  · have gS:b.length≤i:=by have:=oF h;omega
    rw [d₁ gS,nQ] at hG;simp only [a₄] at hG;obtain⟨rfl,rfl,rfl⟩:=hG;refine aa ?_;refine⟨[_,_,_],[],[(0,acc.length)],rfl,rfl,?_,rfl,⟨?_,?_,?_,trivial⟩,?_⟩
    · exact⟨by show acc.length≤(acc.map cj).length;simp,trivial⟩
    · exact .inr ⟨rfl,rfl,rfl,d₆ (d₇ _),bc cj acc⟩
    · exact rv
    · exact rv
    · exact mm
theorem CZ {f:fq} (h:f.kind=0):aZ f=dr (f.num * 8 + f.kind) ++ dr f.val:=by unfold aZ;rw [if_pos h]
theorem C0 {f:fq} (h:f.kind=2):aZ f=dr (f.num * 8 + f.kind) ++ (dr f.bytes.length ++ f.bytes):=by unfold aZ;rw [if_neg om]
theorem Pu (f:fq) (hf:jo f):aE Tryz.prog G 237 [cj f] (.bool true):=by
 obtain⟨num,kind,val,bytes⟩:=f;obtain⟨h1,h2,h3⟩:=hf;dsimp only at h1 h2 h3;unfold cj;dsimp only;refine bA seat Tryz.func237 30 ?_;refine aa ?_;refine ag rfl rfl ?_ rfl ?_ <;> intro h
 rotate_left
 ·exfalso;have:(num:Int) < 1:=by simpa using h
  omega
 refine aa ?_;refine ad rfl ?_ ?_ <;> intro h
 ·exfalso;have:=ot h;omega
 rcases h3 with ⟨rfl,rfl,hv⟩ | ⟨rfl,rfl,hv⟩
 ·refine aa ?_;refine au ?_;rfl
 ·refine aa ?_;refine au ?_;rfl
theorem Lv (f:fq) (hf:jo f):aE Tryz.prog G 209 [cj f] (.bool true):=by
 obtain⟨num,kind,val,bytes⟩:=f;obtain⟨h1,h2,h3⟩:=hf;dsimp only at h1 h2 h3;unfold cj;dsimp only;refine bA seat Tryz.func209 30 ?_;refine aa ?_;refine ag rfl rfl ?_ rfl ?_ <;> intro h
 rotate_left
 ·exfalso;have:(num:Int) < 1:=by simpa using h
  omega
 refine aa ?_;refine ad rfl ?_ ?_ <;> intro h
 ·exfalso;have:=ot h;omega
 rcases h3 with ⟨rfl,rfl,hv⟩ | ⟨rfl,rfl,hv⟩
 ·refine aa ?_;refine au ?_;rfl
 ·refine aa ?_;refine au ?_;rfl
theorem Tn (f:fq) (hf:jo f):aE Tryz.prog G 211 [cj f] (.int .u64 ((f.num * 8 + f.kind:Nat):Int)):=by
 obtain⟨num,kind,val,bytes⟩:=f;obtain⟨h1,h2,h3⟩:=hf;dsimp only at h1 h2 h3;unfold cj;dsimp only;refine bA seat Tryz.func211 10 ?_;refine aa ?_;refine au ?_;exact congrArg (MV.int .u64) om
theorem wQ (b:List UInt8) (n:Nat) (hb:b.length < 500000000) (hn:n < 18446744073709551616) :
  aT Tryz.prog G 238 [.sl b.length (u8s b), .int .u64 n] [] 0 (.ms 0 1 0 (b ++ dr n).length) (kg (b ++ dr n)) 1:=by
 rw [a₃];exact CW b n hb hn
theorem ts (b:List UInt8) (n:Nat) (hb:b.length < 500000000) (hn:n < 18446744073709551616) :
  aT Tryz.prog G 210 [.sl b.length (u8s b), .int .u64 n] [] 0 (.ms 0 1 0 (b ++ dr n).length) (kg (b ++ dr n)) 1:=by
 rw [a₃];exact I2 b n hb hn
theorem Hd (b:List UInt8) (f:fq) (hf:jo f) (hb:b.length + f.bytes.length < 400000000) :
  aT Tryz.prog G 177 [.sl b.length (u8s b),cj f] [] 0 (.tup [.ms 0 1 0 (b ++ aZ f).length, .int .i64 0]) (kg (b ++ aZ f)) 1:=by
 have hr:=Pu (G:=G) f hf
 obtain⟨num,kind,val,bytes⟩:=f
 obtain⟨h1,h2,h3⟩:=hf
 dsimp only at h1 h2 h3
 have l1:=dW (n:=num * 8 + kind) om
 have c1:=wQ (G:=G) b (num * 8 + kind) (by dsimp only at hb;omega) om
 have e0:=CZ (f:=⟨num,kind,val,bytes⟩)
 have e2:=C0 (f:=⟨num,kind,val,bytes⟩)
 unfold kg at *
 unfold cj at *
 dsimp only at hr hb e0 e2
 dsimp only
 generalize hp:b ++ dr (num * 8 + kind)=p at *
 refine dK seat Tryz.func177 36 ?_
 refine aa ?_
 refine yv (hr) ?_
 have jD:p.length≤b.length + 10:=by rw [← hp,a₃];omega
 refine aa ?_
 refine yc (c1) [] ?_
 refine aa ?_
 rcases h3 with ⟨rfl,rfl,hv⟩ | ⟨rfl,rfl,hv⟩
 ·have c2:=wQ (G:=G) p val om hv
  rw [e0 rfl,← a₅,hp]
  unfold kg at c2
  generalize p ++ dr val=q at *
  refine aa ?_
  refine bF rfl (fun _ h=>h) rfl (c2) [] [(14,p.length)] ⟨rfl,mm,rfl,lm,mm⟩ rfl rfl ?_
  refine aa ?_
  exact eb [_,_] [(0,22)] []
 ·have c2:=wQ (G:=G) p bytes.length om hv
  rw [e2 rfl,← a₅,hp,← a₅]
  have Kp:(p ++ dr bytes.length).length≤p.length + 10:=by rw [a₃];have:=(dW hv).2;omega
  unfold kg at c2
  generalize p ++ dr bytes.length=q at *
  refine aa ?_
  refine al [ae 0,ae 1,ae 2,ae 3,ae 4,dF 5,ae 6,ae 7,ae 8,ae 9,ae 10] ?_
  refine aa ?_
  refine de rfl (fun _ h=>h) rfl [14] (c2) [] [(14,p.length)] ⟨rfl,mm,rfl,lm,mm⟩ rfl rfl rfl rfl ?_
  refine aa ?_
  refine bj rfl (by intro R hR;refine da hR ?_;refine a₀ (bX bytes) ?_;refine a₀ ⟨(by simp [u8s]),ai (by kernel_rfl) pf⟩ ?_;refine⟨u8s (q ++ bytes),sv (by simp [u8s]),(q ++ bytes).length,sv pf,?_⟩;exact hR) rfl ?_
  refine aa ?_
  exact eb [_,_] [(0,27)] []
theorem nR (b:List UInt8) (f:fq) (hf:jo f) (hb:b.length + f.bytes.length < 400000000) :
  aT Tryz.prog G 152 [.sl b.length (u8s b),cj f] [] 0 (.tup [.ms 0 1 0 (b ++ aZ f).length, .int .i64 0]) (kg (b ++ aZ f)) 1:=by
 have hr:=Lv (G:=G) f hf
 have ht:=Tn (G:=G) f hf
 obtain⟨num,kind,val,bytes⟩:=f
 obtain⟨h1,h2,h3⟩:=hf
 dsimp only at h1 h2 h3
 have l1:=dW (n:=num * 8 + kind) om
 have c1:=ts (G:=G) b (num * 8 + kind) (by dsimp only at hb;omega) om
 have e0:=CZ (f:=⟨num,kind,val,bytes⟩)
 have e2:=C0 (f:=⟨num,kind,val,bytes⟩)
 unfold kg at *
 unfold cj at *
 dsimp only at hr ht hb e0 e2
 dsimp only
 generalize hp:b ++ dr (num * 8 + kind)=p at *
 refine dK seat Tryz.func152 30 ?_
 refine aa ?_
 refine dZ (hr) ?_
 refine yv (ht) ?_
 have jD:p.length≤b.length + 10:=by rw [← hp,a₃];omega
 refine aa ?_
 refine yc (c1) [] ?_
 refine aa ?_
 rcases h3 with ⟨rfl,rfl,hv⟩ | ⟨rfl,rfl,hv⟩
 ·have c2:=ts (G:=G) p val om hv
  rw [e0 rfl,← a₅,hp]
  unfold kg at c2
  generalize p ++ dr val=q at *
  refine aa ?_
  refine bF rfl (fun _ h=>h) rfl (c2) [] [(7,p.length)] ⟨rfl,mm,rfl,lm,mm⟩ rfl rfl ?_
  refine aa ?_
  exact eb [_,_] [(0,15)] []
 ·have c2:=ts (G:=G) p bytes.length om hv
  rw [e2 rfl,← a₅,hp,← a₅]
  have Kp:(p ++ dr bytes.length).length≤p.length + 10:=by rw [a₃];have:=(dW hv).2;omega
  unfold kg at c2
  generalize p ++ dr bytes.length=q at *
  refine aa ?_
  refine al [ae 0,ae 1,ae 2,ae 3,ae 4,dF 5,ae 6,ae 7,ae 8,ae 9,ae 10] ?_
  refine aa ?_
  refine de rfl (fun _ h=>h) rfl [7] (c2) [] [(7,p.length)] ⟨rfl,mm,rfl,lm,mm⟩ rfl rfl rfl rfl ?_
  refine aa ?_
  refine bj rfl (by intro R hR;refine da hR ?_;refine a₀ (bX bytes) ?_;refine a₀ ⟨(by simp [u8s]),ai (by kernel_rfl) pf⟩ ?_;refine⟨u8s (q ++ bytes),sv (by simp [u8s]),(q ++ bytes).length,sv pf,?_⟩;exact hR) rfl ?_
  refine aa ?_
  exact eb [_,_] [(0,20)] []
end
section
variable {G:GS}
structure W8 where
 a:UInt32
 b:UInt32
 c:UInt32
 d:UInt32
 e:UInt32
 f:UInt32
 g:UInt32
 h:UInt32
def W8.toM (s:W8):MV:= .arr 8 1 [eK s.a,eK s.b,eK s.c,eK s.d,eK s.e,eK s.f,eK s.g,eK s.h]
def iJ (x:UInt32) (n:Nat):UInt32:=(x >>> UInt32.ofNat n) ||| (x <<< UInt32.ofNat (32 - n))
def kL:List UInt32:= [1116352408,1899447441,3049323471,3921009573,961987163,1508970993,2453635748,2870763221,3624381080,310598401,607225278,1426881987,1925078388,2162078206,2614888103,3248222580,3835390401,4022224774,264347078,604807628,770255983,1249150122,1555081692,1996064986,2554220882,2821834349,2952996808,3210313671,3336571891,3584528711,113926993,338241895,666307205,773529912,1294757372,1396182291,1695183700,1986661051,2177026350,2456956037,2730485921,2820302411,3259730800,3345764771,3516065817,3600352804,4094571909,275423344,430227734,506948616,659060556,883997877,958139571,1322822218,1537002063,1747873779,1955562222,2024104815,2227730452,2361852424,2428436474,2756734187,3204031479,3329325298]
def wsM (l:List UInt32):MV:= .arr 64 1 (l.map eK)
def beU (b:List UInt8) (k:Nat):UInt32:=(b.getD (4 * k) 0).toUInt32 <<< UInt32.ofNat 24 ||| (b.getD (4 * k + 1) 0).toUInt32 <<< UInt32.ofNat 16 ||| (b.getD (4 * k + 2) 0).toUInt32 <<< UInt32.ofNat 8 ||| (b.getD (4 * k + 3) 0).toUInt32
def wR (b:List UInt8):Nat→List UInt32
 | 0=>a₂ 64 0
 | t + 1=>(wR b t).set t (beU b t)
def V4 (l:List UInt32) (t:Nat):UInt32:=
 (iJ (l.getD (t - 2) 0) 17 ^^^ iJ (l.getD (t - 2) 0) 19 ^^^ l.getD (t - 2) 0 >>> UInt32.ofNat 10) + l.getD (t - 7) 0 + (iJ (l.getD (t - 15) 0) 7 ^^^ iJ (l.getD (t - 15) 0) 18 ^^^ l.getD (t - 15) 0 >>> UInt32.ofNat 3) + l.getD (t - 16) 0
def pO (b:List UInt8):Nat→List UInt32
 | 0=>wR b 16
 | t + 1=>(pO b t).set (16 + t) (V4 (pO b t) (16 + t))
theorem oV (b:List UInt8): ∀t,(wR b t).length=64
 | 0=>by simp [wR]
 | t + 1=>by simp [wR,oV b t]
theorem lF (b:List UInt8): ∀t,(pO b t).length=64
 | 0=>oV b 16
 | t + 1=>by simp [pO,lF b t]
def Pv (k w:UInt32) (s:W8):UInt32:=s.h + (iJ s.e 6 ^^^ iJ s.e 11 ^^^ iJ s.e 25) + (s.e &&& s.f ^^^ ~~~s.e &&& s.g) + k + w
def V5 (s:W8):UInt32:=(iJ s.a 2 ^^^ iJ s.a 13 ^^^ iJ s.a 22) + (s.a &&& s.b ^^^ s.a &&& s.c ^^^ s.b &&& s.c)
def Fo (k w:UInt32) (s:W8):W8:=⟨Pv k w s + V5 s,s.a,s.b,s.c,s.d + Pv k w s,s.e,s.f,s.g⟩
def km (k w:List UInt32) (s:W8):Nat→W8
 | 0=>s
 | t + 1=>Fo (k.getD t 0) (w.getD t 0) (km k w s t)
def I3 (h s:W8):Nat→W8
 | 0=>h
 | 1=>⟨h.a + s.a,h.b,h.c,h.d,h.e,h.f,h.g,h.h⟩
 | 2=>⟨h.a + s.a,h.b + s.b,h.c,h.d,h.e,h.f,h.g,h.h⟩
 | 3=>⟨h.a + s.a,h.b + s.b,h.c + s.c,h.d,h.e,h.f,h.g,h.h⟩
 | 4=>⟨h.a + s.a,h.b + s.b,h.c + s.c,h.d + s.d,h.e,h.f,h.g,h.h⟩
 | 5=>⟨h.a + s.a,h.b + s.b,h.c + s.c,h.d + s.d,h.e + s.e,h.f,h.g,h.h⟩
 | 6=>⟨h.a + s.a,h.b + s.b,h.c + s.c,h.d + s.d,h.e + s.e,h.f + s.f,h.g,h.h⟩
 | 7=>⟨h.a + s.a,h.b + s.b,h.c + s.c,h.d + s.d,h.e + s.e,h.f + s.f,h.g + s.g,h.h⟩
 | _=>⟨h.a + s.a,h.b + s.b,h.c + s.c,h.d + s.d,h.e + s.e,h.f + s.f,h.g + s.g,h.h + s.h⟩
def qi (h:W8) (b:List UInt8):W8:=I3 h (km kL (pO b 48) h 64) 8
theorem jq {l:List MV} {n:Nat} {j:Int} {x:MV} (k:Nat) (hj:j=k) (hk:k < n) (hx:l[k]? =some x):bI l n j=some x:=by
 subst hj;exact dB hk hx
theorem hX {n:Nat} {j:Int} (k:Nat) (hj:j=k) (hk:k < n):EG n j=some k:=by
 subst hj;exact cI hk
theorem pP {b:List UInt8} {k:Nat} (h:k < b.length):(u8s b)[k]? =some (yt (b.getD k 0)):=by simp [u8s,h]
theorem jy {l:List UInt32} {k:Nat} (h:k < l.length):fj (wsM l) ([] ++ [k]) (0 + k * 1)=some (eK (l.getD k 0)):=by
 show(match cE (l.map eK) k with | some m=>bif c₆ (k * 1) (0 + k * 1) then fj m [] (0 + k * 1 - k * 1) else none | none=>none)=_
 have e:cE (l.map eK) k=some (eK (l.getD k 0)):=by rw [bZ];simp [h]
 rw [e];have e2:c₆ (k * 1) (0 + k * 1)=true:=sm;simp only [e2,cond_true];simp [fj]
theorem AJ {l:List UInt32} {k:Nat} (h:k < l.length) (x:UInt32):fk (wsM l) ([] ++ [k]) (0 + k * 1) (eK x)=some (wsM (l.set k x)):=by
 show(match cE (l.map eK) k with | some m=>bif c₆ (k * 1) (0 + k * 1) && (eK x).idFree then(match fk m [] (0 + k * 1 - k * 1) (eK x) with | some m'=>some (MV.arr 64 1 (setL (l.map eK) k m')) | none=>none) else none | none=>none)=_
 have e:cE (l.map eK) k=some (eK (l.getD k 0)):=by rw [bZ];simp [h]
 rw [e];have e2:c₆ (k * 1) (0 + k * 1)=true:=sm;simp only [e2];simp [fk,setL_eq,MV.idFree,MV.size,MV.isAgg,wsM,List.map_set]
def W8.nth (s:W8):Nat→UInt32
 | 0=>s.a
 | 1=>s.b
 | 2=>s.c
 | 3=>s.d
 | 4=>s.e
 | 5=>s.f
 | 6=>s.g
 | _=>s.h
theorem Lw (s:W8) {i:Nat} (hi:i < 8):fj s.toM ([] ++ [i]) (0 + i * 1)=some (eK (s.nth i)):=by
 have h8:i=0∨i=1∨i=2∨i=3∨i=4∨i=5∨i=6∨i=7:=om;rcases h8 with rfl | rfl | rfl | rfl | rfl | rfl | rfl | rfl <;> rfl
theorem V6 (h s:W8) {i:Nat} (hi:i < 8):fk (I3 h s i).toM ([] ++ [i]) (0 + i * 1) (eK ((I3 h s i).nth i + s.nth i))=some (I3 h s (i + 1)).toM:=by
 have h8:i=0∨i=1∨i=2∨i=3∨i=4∨i=5∨i=6∨i=7:=om;rcases h8 with rfl | rfl | rfl | rfl | rfl | rfl | rfl | rfl <;> rfl
theorem kV (x:UInt32) (n:Nat) (h0:0 < n) (h1:n < 32):aE Tryz.prog G 175 [eK x, .int .i64 n] (eK (iJ x n)):=by
 refine bA seat Tryz.func175 13 ?_;refine aS ?_;refine⟨[ae 0,ae 1,ae 2,ae 3,ae 4,ae 5,ae 6,ae 7,ae 8],?_⟩;refine⟨om,_,sv (wP x n h1),?_⟩;refine⟨((32 - n:Nat):Int),sv ((eX _ om om).trans om),?_⟩;refine⟨om,_,sv (Lo x (32 - n) om),?_⟩;refine aS ?_;rfl
theorem constants_m:aE Tryz.prog G 176 [] (wsM kL):=by
 refine bA seat Tryz.func176 2 ?_;refine aS ?_;rfl
theorem Pw (h:W8) (b:List UInt8) (hb:b.length=64):aE Tryz.prog G 118 [h.toM, .sl 64 (u8s b)] (qi h b).toM:=by
 unfold qi;refine bA seat Tryz.func118 193 ?_;refine aS ?_;refine⟨Nat,fun t=> [(6, .int .i64 t),(5, .ptr 2 64 0 0 []),(4, .ptr 1 8 0 0 []),(2, .ptr 0 8 0 0 []),(1, .sl 64 (u8s b))],fun t=> [(0,⟨179,8,false,0,[h.toM]⟩),(1,⟨179,8,false,0,[W8.toM ⟨0,0,0,0,0,0,0,0⟩]⟩),(2,⟨233,64,false,0,[wsM (wR b t)]⟩)],3,fun t=>t≤16,fun t=>16 - t,⟨0,om,(vm [(0,0),(1,1),(2,2)] [])⟩,?_⟩;intro t ht;refine aS ?_;refine⟨fun hc=>?_,fun hc=>?_⟩
 ·have Es:t < 16:=by have:=ot hc;omega
  have hl:=oV b t;refine aS ?_;refine⟨[ae 0,ae 1,ae 2,ae 3,ae 4,ae 5,ae 6,ae 7,ae 8,ae 9,ae 10,ae 11,ae 12,ae 13,ae 14,ae 15,ae 16,ae 17,ae 18,ae 19,ae 20,ae 21,ae 22,ae 23,ae 24,ae 25,ae 26,ae 27,ae 28,ae 29,ae 30,ae 31,ae 32,ae 33,ae 34,ae 35],?_⟩;refine aS ?_;refine⟨_,jq (4 * t) om om (pP om),?_⟩;refine aS ?_;refine⟨_,jq (4 * t + 1) om om (pP om),?_⟩;refine aS ?_;refine⟨_,jq (4 * t + 2) om om (pP om),?_⟩;refine aS ?_;refine⟨_,jq (4 * t + 3) om om (pP om),?_⟩;refine aS ?_;refine⟨_,cI om,?_⟩;refine aS ?_;refine⟨_,AJ om _,?_⟩;refine aS ?_;exact⟨t + 1,om,by show 16 - (t + 1) < 16 - t;omega,(vm [(0,0),(1,1),(2,2)] [])⟩
 ·have Es:t=16:=by have:=oF hc;omega
  subst Es;refine aS ?_;refine⟨Nat,fun t=> [(7, .int .i64 ((16 + t:Nat):Int)),(5, .ptr 2 64 0 0 []),(4, .ptr 1 8 0 0 []),(2, .ptr 0 8 0 0 [])],fun t=> [(0,⟨179,8,false,0,[h.toM]⟩),(1,⟨179,8,false,0,[W8.toM ⟨0,0,0,0,0,0,0,0⟩]⟩),(2,⟨233,64,false,0,[wsM (pO b t)]⟩)],3,fun t=>t≤48,fun t=>48 - t,⟨0,om,(vm [(0,0),(1,1),(2,2)] [])⟩,?_⟩;intro t ht;refine aS ?_;refine⟨fun hc=>?_,fun hc=>?_⟩
  ·have Es:t < 48:=by have:=ot hc;omega
   have hl:=lF b t;refine aS ?_;refine⟨[ae 0,ae 1,ae 2,ae 3,ae 4,ae 5,ae 6,ae 7,ae 8,ae 9],?_⟩;refine aS ?_;refine⟨_,hX (16 + t - 15) om om,?_⟩;refine aS ?_;refine⟨_,jy om,?_⟩;refine aS ?_;refine⟨_,hX (16 + t - 2) om om,?_⟩;refine aS ?_;refine⟨_,jy om,?_⟩;refine aS ?_;refine⟨[ae 0,ae 1,ae 2,ae 3,ae 4,ae 5,ae 6,ae 7,ae 8,ae 9,ae 10,ae 11,ae 12,ae 13,ae 14,ae 15,ae 16,ae 17,ae 18,ae 19,ae 20,ae 21,ae 22,ae 23,ae 24,ae 25,ae 26,ae 27,ae 28,ae 29],?_⟩;refine⟨_,kV _ 17 om om,?_⟩;refine⟨_,kV _ 19 om om,?_⟩;refine aS ?_;refine⟨_,hX (16 + t - 7) om om,?_⟩;refine aS ?_;refine⟨_,jy om,?_⟩;refine aS ?_;refine⟨_,kV _ 7 om om,?_⟩;refine⟨_,kV _ 18 om om,?_⟩;refine aS ?_;refine⟨_,hX (16 + t - 16) om om,?_⟩;refine aS ?_;refine⟨_,jy om,?_⟩;refine aS ?_;refine⟨_,hX (16 + t) om om,?_⟩;refine aS ?_;refine⟨_,AJ om _,?_⟩;refine aS ?_;exact⟨t + 1,by show t + 1≤48;omega,by show 48 - (t + 1) < 48 - t;omega,(vm [(0,0),(1,1),(2,2)] [])⟩
  ·have Es:t=48:=by have:=oF hc;omega
   subst Es;refine aS ?_;refine .inl ⟨_,constants_m,?_⟩;refine aS ?_;have hl:=lF b 48;have hk:kL.length=64:=rfl;dsimp only;generalize pO b 48=ws at *;generalize kL=kl at *;refine aS ?_;refine⟨Nat,fun t=> [(12, .int .i64 t),(11, .ptr 4 8 0 0 []),(10, .ptr 3 64 0 0 []),(5, .ptr 2 64 0 0 []),(4, .ptr 1 8 0 0 []),(2, .ptr 0 8 0 0 [])],fun t=> [(0,⟨179,8,false,0,[h.toM]⟩),(1,⟨179,8,false,0,[W8.toM ⟨0,0,0,0,0,0,0,0⟩]⟩),(2,⟨233,64,false,0,[wsM ws]⟩),(3,⟨233,64,false,0,[wsM kl]⟩),(4,⟨179,8,false,0,[(km kl ws h t).toM]⟩)],5,fun t=>t≤64,fun t=>64 - t,⟨0,om,(vm [(0,0),(1,1),(2,2),(3,6),(4,9)] [])⟩,?_⟩;intro t ht;refine aS ?_;refine⟨fun hc=>?_,fun hc=>?_⟩
   ·have Es:t < 64:=by have:=ot hc;omega
    refine aS ?_;refine⟨[ae 0,ae 1,ae 2,ae 3,ae 4,ae 5],?_⟩;refine aS ?_;refine⟨[ae 0,ae 1,ae 2,ae 3,ae 4,ae 5,ae 6,ae 7,ae 8,ae 9,ae 10,ae 11,ae 12,ae 13,ae 14,ae 15,ae 16,ae 17,ae 18,ae 19,ae 20,ae 21,ae 22,ae 23,ae 24,ae 25,ae 26,ae 27,ae 28,ae 29,ae 30],?_⟩;refine aS ?_;refine⟨_,kV _ 6 om om,?_⟩;refine⟨_,kV _ 11 om om,?_⟩;refine aS ?_;refine⟨_,kV _ 25 om om,?_⟩;refine aS ?_;refine⟨_,cI om,?_⟩;refine aS ?_;refine⟨_,jy om,?_⟩;refine aS ?_;refine⟨_,cI om,?_⟩;refine aS ?_;refine⟨_,jy om,?_⟩;refine aS ?_;refine⟨[ae 0,ae 1,ae 2,ae 3,ae 4,ae 5,ae 6,ae 7,ae 8,ae 9,ae 10,ae 11,ae 12,ae 13,ae 14,ae 15,ae 16,ae 17,ae 18,ae 19,ae 20,ae 21,ae 22,ae 23,ae 24],?_⟩;refine⟨_,kV _ 2 om om,?_⟩;refine⟨_,kV _ 13 om om,?_⟩;refine aS ?_;refine⟨_,kV _ 22 om om,?_⟩;refine aS ?_;exact⟨t + 1,by show t + 1≤64;omega,by show 64 - (t + 1) < 64 - t;omega,(vm [(0,0),(1,1),(2,2),(3,3),(4,4)] [])⟩
   ·have Es:t=64:=by have:=oF hc;omega
    subst Es;refine aS ?_;refine⟨Nat,fun i=> [(180, .int .i64 i),(11, .ptr 2 8 0 0 []),(4, .ptr 1 8 0 0 []),(2, .ptr 0 8 0 0 [])],fun i=> [(0,⟨179,8,false,0,[(I3 h (km kl ws h 64) i).toM]⟩),(1,⟨179,8,false,0,[W8.toM ⟨0,0,0,0,0,0,0,0⟩]⟩),(2,⟨179,8,false,0,[(km kl ws h 64).toM]⟩)],3,fun i=>i≤8,fun i=>8 - i,⟨0,om,(vm [(0,0),(1,1),(2,4)] [])⟩,?_⟩;intro i hi;refine aS ?_;refine⟨fun hc=>?_,fun hc=>?_⟩
    ·have gS:i < 8:=by have:=ot hc;omega
     refine aS ?_;refine⟨[ae 0,ae 1,ae 2,ae 3,ae 4,ae 5,ae 6,ae 7,ae 8],?_⟩;generalize km kl ws h 64=s at *;refine aS ?_;refine⟨_,cI om,?_⟩;refine aS ?_;refine⟨_,Lw _ gS,?_⟩;refine aS ?_;refine⟨_,cI om,?_⟩;refine aS ?_;refine⟨_,Lw _ gS,?_⟩;refine aS ?_;refine⟨_,cI om,?_⟩;refine aS ?_;refine⟨_,V6 h s gS,?_⟩;refine aS ?_;exact⟨i + 1,by show i + 1≤8;omega,by show 8 - (i + 1) < 8 - i;omega,(vm [(0,0),(1,1),(2,2)] [])⟩
    ·have gS:i=8:=by have:=oF hc;omega
     subst gS;refine aS ?_;rfl
end
section
theorem aA {α:Type} {x:α}: ∀R:α→Prop,R x→R x:=fun _ h=>h
theorem seq' {Pg:Program} {T:bD} {ents:List FuncId} {G:GS} (hS:Seat Pg T ents) {f:FuncId} {fn:Func} (hf:Pg.funcs[f]? =some fn) (N:Nat) {c:Code} {rs:List ResultVar} {args:List MV} {M0:VM} {n0:Nat} {Φ:MV→VM→Nat→Prop} (h:vC Pg T N ents G n0 c (wk T n0 rs Φ) (sX 0 args) M0 n0) (hb:fn.body=some c:=by rfl) (qv:fn.results=rs.toArray:=by rfl) (h5:rs.length≤6:=by exact Nat.le_of_ble_eq_true rfl) (hn:args.length≤fn.ntmps:=by exact Nat.le_of_ble_eq_true rfl) (hN:fn.ntmps=N:=by rfl) (Vm:M0.all (fun x=>Nat.blt x.1 n0)=true:=by rfl):vQ Pg G f args M0 n0 Φ:=Fh hS hf hb qv h5 hn hN Vm h
theorem src {Pg:Program} {G:GS} {f:FuncId} {args:List MV} {res:MV} (h:aE Pg G f args res):aT Pg G f args [] 0 res [] 0:=dL h
variable {G:GS}
theorem Px (i n:Nat) (h:i < 4611686018427387904):IntKind.i64.wrap ((i:Int).tdiv (n:Int))=((i / n:Nat):Int):=by
 have e:(i:Int).tdiv (n:Int)=((i / n:Nat):Int):=rfl;have:=d₈ i n;generalize i / n=q at *;rw [e,eX _ om om]
theorem I4 {n a c:Nat} {k k':IntKind} {lo hi:Int} (ha:lo=(a:Int)) (hc:hi=(c:Int)) (h1:a≤c) (h2:c≤n):dN n (some (.int k lo)) (some (.int k' hi))=some (a,c):=by
 subst ha;subst hc;unfold dN;simp only;rw [if_pos om];simp only [Int.toNat_natCast];rw [if_pos om]
theorem He (m:List UInt8):bg (u8s m) 1=true:=by cases m <;> rfl
def iG (n:Nat):Nat:=(119 - n % 64) % 64
def byteAt (n k:Nat):UInt8:=UInt8.ofNat (n / 2 ^ (8 * (7 - k)))
def Lx (n:Nat):List UInt8:=(b₉ 8).map (byteAt n)
def pA (b:List UInt8):List UInt8:=b ++ [128] ++ a₂ (iG b.length) 0 ++ Lx (8 * b.length)
def gI:W8:=⟨1779033703,3144134277,1013904242,2773480762,1359893119,2600822924,528734635,1541459225⟩
def absorb (s:W8) (m:List UInt8):Nat→W8
 | 0=>s
 | k + 1=>qi (absorb s m k) ((m.drop (64 * k)).take 64)
def zb (s:W8) (i:Nat):UInt8:=(s.nth (i / 4) >>> UInt32.ofNat (24 - i % 4 * 8)).toUInt8
def uK (s:W8):Nat→List UInt8
 | 0=>a₂ 32 0
 | i + 1=>(uK s i).set i (zb s i)
theorem rE (s:W8): ∀i,(uK s i).length=32
 | 0=>by simp [uK]
 | i + 1=>by simp [uK,rE s i]
def iH (b:List UInt8):List UInt8:=uK (absorb gI (pA b) ((pA b).length / 64)) 32
theorem gk (b:List UInt8):(iH b).length=32:=rE _ _
def keyM (k:List UInt8):MV:= .arr 32 1 (u8s k)
theorem wS (b:List UInt8):(pA b).length=b.length + 9 + iG b.length:=by simp [pA,Lx];omega
theorem C5 (b:List UInt8):(pA b).length=64 * ((pA b).length / 64):=by rw [wS];unfold iG;omega
theorem AK {k:List UInt8} {i:Nat} (h:i < k.length):fj (keyM k) ([] ++ [i]) (0 + i * 1)=some (yt (k.getD i 0)):=by
 show(match cE (u8s k) i with | some m=>bif c₆ (i * 1) (0 + i * 1) then fj m [] (0 + i * 1 - i * 1) else none | none=>none)=_
 have e:cE (u8s k) i=some (yt (k.getD i 0)):=by rw [bZ];exact pP h
 rw [e];have e2:c₆ (i * 1) (0 + i * 1)=true:=sm;simp only [e2,cond_true];simp [fj]
theorem jP {k:List UInt8} {i:Nat} (h:i < k.length) (x:UInt8):fk (keyM k) ([] ++ [i]) (0 + i * 1) (yt x)=some (keyM (k.set i x)):=by
 show(match cE (u8s k) i with | some m=>bif c₆ (i * 1) (0 + i * 1) && (yt x).idFree then(match fk m [] (0 + i * 1 - i * 1) (yt x) with | some m'=>some (MV.arr 32 1 (setL (u8s k) i m')) | none=>none) else none | none=>none)=_
 have e:cE (u8s k) i=some (yt (k.getD i 0)):=by rw [bZ];exact pP h
 rw [e];have e2:c₆ (i * 1) (0 + i * 1)=true:=sm;simp only [e2];simp [fk,setL_eq,MV.idFree,MV.size,MV.isAgg,keyM,u8s,List.map_set]
theorem I5 (n k:Nat) (hk:k < 8):IntKind.u8.wrap (((n:Int) * 8).fdiv (2 ^ (min (8 * (7 - (k:Int))).toNat IntKind.u64.bits)))=((byteAt (8 * n) k).toNat:Int):=by
 have e:min (8 * (7 - (k:Int))).toNat IntKind.u64.bits=8 * (7 - k):=by simp [IntKind.bits];omega
 have e2:((n:Int) * 8)=((8 * n:Nat):Int):=om;rw [e,e2,c₀ _ (Int.le_of_lt (Int.pow_pos om)),w8,byteAt,UInt8.toNat_ofNat'];have e3:(2:Int) ^ (8 * (7 - k))=((2 ^ (8 * (7 - k)):Nat):Int):=by rw [c₃];rfl
 rw [e3,← c₂];exact(c₇ _ 256).symm
theorem nS (b:List UInt8) (hb:b.length < 536870912):aE Tryz.prog G 69 [.sl b.length (u8s b)] (keyM (iH b)):=by
 have hp:iG b.length < 64:=by unfold iG;omega
 refine bA seat Tryz.func69 69 ?_;refine aS ?_;refine⟨He b,?_⟩;refine aS ?_;(refine a₀ ⟨pf,ai (by kernel_rfl) pf⟩ ?_;refine⟨u8s b,sv pf,b.length,sv pf,?_⟩);refine aS ?_;(refine a₀ (a₉ _) ?_;refine⟨_,rfl,?_⟩;refine a₀ ⟨pf,ai (by kernel_rfl) pf⟩ ?_;refine⟨u8s (b ++ [128]),sv pf,b.length + 1,sv pf,?_⟩);refine aS ?_;refine⟨Nat,fun k=> [(3, .ms 1 1 0 (b.length + 1 + k)),(2, .ptr 0 32 0 0 []),(0, .sl b.length (u8s b))],fun k=> [(0,⟨68,32,false,0,[keyM (a₂ 32 0)]⟩),(1,⟨5,1,true,0,u8s (b ++ [128] ++ a₂ k 0)⟩)],2,fun k=>k≤iG b.length,fun k=>iG b.length - k,⟨0,a₈ _,(vm [(0,_),(1,_)] [])⟩,?_⟩;intro k hk;refine aS ?_;refine⟨fun hc=>?_,fun hc=>?_⟩
 ·have aC:k < iG b.length:=by
   have hc:((b.length + 1 + k:Nat):Int).tmod (64:Int)≠56:=by simpa using hc
   have e:((b.length + 1 + k:Nat):Int).tmod (64:Int)=(((b.length + 1 + k) % 64:Nat):Int):=rfl;unfold iG at hk ⊢;omega
  refine aS ?_;(refine a₀ (a₉ _) ?_;refine⟨_,rfl,?_⟩;refine a₀ ⟨pf,ai (by kernel_rfl) pf⟩ ?_;refine⟨u8s (b ++ [128] ++ a₂ (k + 1) 0),sv pf,b.length + 1 + (k + 1),sv pf,?_⟩);refine aS ?_;exact⟨k + 1,by show k + 1≤iG b.length;omega,by show iG b.length - (k + 1) < iG b.length - k;omega,(vm [(0,_),(1,_)] [])⟩
 ·have aC:k=iG b.length:=by
   have hc:((b.length + 1 + k:Nat):Int).tmod (64:Int)=56:=by simpa using hc
   have e:((b.length + 1 + k:Nat):Int).tmod (64:Int)=(((b.length + 1 + k) % 64:Nat):Int):=rfl;unfold iG at hk ⊢;omega
  subst aC;refine aS ?_;refine⟨Nat,fun k=> [(5, .int .i64 (7 - (k:Int))),(4, .int .u64 ((b.length:Int) * 8)),(3, .ms 1 1 0 (b.length + 1 + iG b.length + k)),(2, .ptr 0 32 0 0 [])],fun k=> [(0,⟨68,32,false,0,[keyM (a₂ 32 0)]⟩),(1,⟨5,1,true,0,u8s (b ++ [128] ++ a₂ (iG b.length) 0 ++ (b₉ k).map (byteAt (8 * b.length)))⟩)],2,fun k=>k≤8,fun k=>8 - k,⟨0,a₈ _,(vm [(0,_),(1,_)] [])⟩,?_⟩;intro k hk;refine aS ?_;refine⟨fun hc=>?_,fun hc=>?_⟩
  ·have aC:k < 8:=by have:=ot hc;omega
   (repeat((try conv=>whnf);first | (with_reducible refine⟨_,sv (I5 _ _ aC),?_⟩) | (with_reducible refine Rt.go ?_) | (with_reducible refine Rs.go ?_) | (with_reducible refine wA ?_) | (with_reducible refine a₀ (a₈ _) ?_) | (with_reducible refine a₀ rfl ?_) | (with_reducible refine⟨fun _=>?_,fun h=>b₄ h⟩) | (with_reducible refine⟨fun h=>b₄ h,fun _=>?_⟩) | (with_reducible refine⟨_,sv (CP _ _),?_⟩) | (with_reducible refine⟨_,sv (za _ _),?_⟩) | (with_reducible refine⟨_,sv (CQ _ _),?_⟩) | (with_reducible refine⟨_,sv (Ln _ _),?_⟩) | (with_reducible refine⟨_,sv (CR _),?_⟩) | (with_reducible refine⟨_,sv (Lp _ _ (by omega) (by omega)),?_⟩) | (with_reducible refine⟨_,sv (Lq _ _ (by omega) (by omega)),?_⟩) | (with_reducible refine⟨_,sv (rB _),?_⟩) | (with_reducible refine⟨_,sv (jO _),?_⟩) | (with_reducible refine⟨_,sv (eX _ (by omega) (by omega)),?_⟩) | (with_reducible refine⟨_,sv (bS _ (by omega) (by omega)),?_⟩) | (with_reducible refine⟨_,sv (iu _ (by omega) (by omega)),?_⟩) | refine⟨_,rfl,?_⟩ | refine a₀ (show iA _ _=true by kernel_rfl) ?_ | refine a₀ (by omega) ?_));(refine a₀ (a₉ _) ?_;refine⟨_,rfl,?_⟩;refine a₀ ⟨pf,ai (by kernel_rfl) pf⟩ ?_;refine⟨u8s (b ++ [128] ++ a₂ (iG b.length) 0 ++ (b₉ (k + 1)).map (byteAt (8 * b.length))),sv pf,b.length + 1 + iG b.length + (k + 1),sv pf,?_⟩);refine aS ?_;exact⟨k + 1,by show k + 1≤8;omega,by show 8 - (k + 1) < 8 - k;omega,(vm [(0,_),(1,_)] [])⟩
  ·have aC:k=8:=by have:=oF hc;omega
   subst aC;have hm:b ++ [128] ++ a₂ (iG b.length) 0 ++ (b₉ 8).map (byteAt (8 * b.length))=pA b:=rfl;have hl:=wS b;have hd:=C5 b;have hlm:b.length + 1 + iG b.length + 8=(pA b).length:=om;unfold iH;dsimp only;rw [hm,hlm];generalize (pA b).length / 64=q at *;have hq:(pA b).length < 2000000000:=om;generalize pA b=m at *;refine aS ?_;refine⟨Nat,fun k=> [(7, .int .i64 ((64 * k:Nat):Int)),(6, .ptr 1 8 0 0 []),(3, .sl m.length (u8s m)),(2, .ptr 0 32 0 0 [])],fun k=> [(0,⟨68,32,false,0,[keyM (a₂ 32 0)]⟩),(1,⟨179,8,false,0,[(absorb gI m k).toM]⟩)],2,fun k=>k≤q,fun k=>q - k,⟨0,a₈ _,(vm [(0,_),(1,_)] [(1,m.length)])⟩,?_⟩;intro k hk;refine aS ?_;refine⟨fun hc=>?_,fun hc=>?_⟩
   ·have aC:k < q:=by have:=ot hc;omega
    refine aS ?_;refine⟨[ae 0,ae 1,ae 2,ae 3,ae 4,ae 5,ae 6,ae 7],?_⟩;refine aS ?_;refine⟨_,I4 (a:=64 * k) (c:=64 * k + 64) rfl om om om,He m,?_⟩;refine⟨u8s ((m.drop (64 * k)).take 64),sv ((cut_u8 _ _ _).trans (by rw [show 64 * k + 64 - 64 * k=64 by omega])),64,sv om,?_⟩;refine⟨_,Pw _ _ (by simp;omega),?_⟩;refine aS ?_;exact⟨k + 1,by show k + 1≤q;omega,by show q - (k + 1) < q - k;omega,(vm [(0,_),(1,_)] [])⟩
   ·have aC:k=q:=by have:=oF hc;omega
    subst aC;dsimp only;generalize absorb gI m k=s at *;refine aS ?_;refine⟨Nat,fun i=> [(52, .int .i64 i),(8, .ptr 2 32 0 0 []),(6, .ptr 1 8 0 0 []),(2, .ptr 0 32 0 0 [])],fun i=> [(0,⟨68,32,false,0,[keyM (a₂ 32 0)]⟩),(1,⟨179,8,false,0,[s.toM]⟩),(2,⟨68,32,false,0,[keyM (uK s i)]⟩)],3,fun i=>i≤32,fun i=>32 - i,⟨0,a₈ _,(vm [(0,_),(1,_),(2,_)] [])⟩,?_⟩;intro i hi;refine aS ?_;refine⟨fun hc=>?_,fun hc=>?_⟩
    ·have gS:i < 32:=by have:=ot hc;omega
     have hl:=rE s i;have e1:IntKind.i64.wrap ((i:Int).tmod 4 * 8)=((i % 4 * 8:Nat):Int):=by
      have e:(i:Int).tmod 4=((i % 4:Nat):Int):=rfl;rw [e,eX _ om om];omega
     have e2:IntKind.i64.wrap (24 - ((i % 4 * 8:Nat):Int))=((24 - i % 4 * 8:Nat):Int):=by
      rw [eX _ om om];omega
     (repeat((try conv=>whnf);first | (with_reducible refine⟨_,sv (Px i 4 (by omega)),?_⟩) | (with_reducible refine Rt.go ?_) | (with_reducible refine Rs.go ?_) | (with_reducible refine wA ?_) | (with_reducible refine a₀ (a₈ _) ?_) | (with_reducible refine a₀ rfl ?_) | (with_reducible refine⟨fun _=>?_,fun h=>b₄ h⟩) | (with_reducible refine⟨fun h=>b₄ h,fun _=>?_⟩) | (with_reducible refine⟨_,sv (CP _ _),?_⟩) | (with_reducible refine⟨_,sv (za _ _),?_⟩) | (with_reducible refine⟨_,sv (CQ _ _),?_⟩) | (with_reducible refine⟨_,sv (Ln _ _),?_⟩) | (with_reducible refine⟨_,sv (CR _),?_⟩) | (with_reducible refine⟨_,sv (Lp _ _ (by omega) (by omega)),?_⟩) | (with_reducible refine⟨_,sv (Lq _ _ (by omega) (by omega)),?_⟩) | (with_reducible refine⟨_,sv (rB _),?_⟩) | (with_reducible refine⟨_,sv (jO _),?_⟩) | (with_reducible refine⟨_,sv (eX _ (by omega) (by omega)),?_⟩) | (with_reducible refine⟨_,sv (bS _ (by omega) (by omega)),?_⟩) | (with_reducible refine⟨_,sv (iu _ (by omega) (by omega)),?_⟩) | refine⟨_,rfl,?_⟩ | refine a₀ (show iA _ _=true by kernel_rfl) ?_ | refine a₀ (by omega) ?_));refine⟨_,hX (i / 4) rfl om,?_⟩;refine aS ?_;refine⟨_,Lw _ om,?_⟩;(repeat((try conv=>whnf);first | (with_reducible refine⟨_,sv e1,?_⟩) | (with_reducible refine⟨_,sv e2,?_⟩) | (with_reducible refine⟨_,sv (wP _ (24 - i % 4 * 8) (by omega)),?_⟩) | (with_reducible refine Rt.go ?_) | (with_reducible refine Rs.go ?_) | (with_reducible refine wA ?_) | (with_reducible refine a₀ (a₈ _) ?_) | (with_reducible refine a₀ rfl ?_) | (with_reducible refine⟨fun _=>?_,fun h=>b₄ h⟩) | (with_reducible refine⟨fun h=>b₄ h,fun _=>?_⟩) | (with_reducible refine⟨_,sv (CP _ _),?_⟩) | (with_reducible refine⟨_,sv (za _ _),?_⟩) | (with_reducible refine⟨_,sv (CQ _ _),?_⟩) | (with_reducible refine⟨_,sv (Ln _ _),?_⟩) | (with_reducible refine⟨_,sv (CR _),?_⟩) | (with_reducible refine⟨_,sv (Lp _ _ (by omega) (by omega)),?_⟩) | (with_reducible refine⟨_,sv (Lq _ _ (by omega) (by omega)),?_⟩) | (with_reducible refine⟨_,sv (rB _),?_⟩) | (with_reducible refine⟨_,sv (jO _),?_⟩) | (with_reducible refine⟨_,sv (eX _ (by omega) (by omega)),?_⟩) | (with_reducible refine⟨_,sv (bS _ (by omega) (by omega)),?_⟩) | (with_reducible refine⟨_,sv (iu _ (by omega) (by omega)),?_⟩) | refine⟨_,rfl,?_⟩ | refine a₀ (show iA _ _=true by kernel_rfl) ?_ | refine a₀ (by omega) ?_));refine⟨_,cI om,?_⟩;refine aS ?_;refine⟨_,jP om _,?_⟩;refine aS ?_;exact⟨i + 1,by show i + 1≤32;omega,by show 32 - (i + 1) < 32 - i;omega,(vm [(0,_),(1,_),(2,_)] [])⟩
    ·have gS:i=32:=by have:=oF hc;omega
     subst gS;refine aS ?_;rfl
end
section
variable {G:GS}
attribute [local irreducible] ak aB aD aJ aQ vC aY aw
theorem oW {l:List fq} {k:Nat} (hk:k < l.length):bI (l.map cj) l.length (k:Int)=some (cj l[k]):=dB hk (by simp [hk])
theorem oX (l:List fq) {k:Nat} (hk:k < l.length):aG (l.take (k + 1))=aG (l.take k) ++ aZ l[k] :=by
 unfold aG;rw [List.take_succ_eq_append_getElem hk,c₉,d₅];simp
theorem oY (l:List fq) (k:Nat):(aG (l.take k)).length≤(aG l).length:=by
 have:aG (l.take k) ++ aG (l.drop k)=aG l:=by
  unfold aG;rw [← d₅,← c₉,List.take_append_drop]
 rw [← this,a₃];omega
theorem mC {f:fq} (hf:jo f):f.bytes.length≤(aZ f).length:=by
 unfold jo at hf;unfold aZ;split
 ·have:f.bytes= [] :=by
   rcases hf.2.2 with h | h
   ·exact h.2.1
   ·omega
  rw [this];simp
 ·simp only [a₃];omega
theorem oZ (l:List fq) (hl: ∀f∈l,jo f) (hm:(aG l).length < 200000000) (ni:l.length < 1000000):aT Tryz.prog G 119 [.sl l.length (l.map cj)] [] 0 (.sl (aG l).length (u8s (aG l))) [] 0:=by
 refine dK seat Tryz.func119 20 ?_;refine aa ?_;refine av Nat (fun k=> [(8, .int .i64 k),(7, .int .i64 l.length),(6, .sl l.length (l.map cj)),(3, .ms 0 1 0 (aG (l.take k)).length)]) (fun k=> [(0,⟨5,1,true,0,u8s (aG (l.take k))⟩)]) 1 (fun k=>k≤l.length) (fun k=>l.length - k) 0 (a₈ _) (by rw [List.take_zero];exact(vm [] [])) ?_;intro k hk;try dsimp only
 refine aa ?_;refine ad rfl ?_ ?_ <;> intro h
 ·have aC:k < l.length:=by have:=ot h;omega
  have hs:=oX l aC;have hle:=oY l (k + 1);have Bx:=hl _ (List.getElem_mem aC);have hfb:=mC Bx;have aH:=oW aC;generalize l[k] =f at *;have hlen:(aG (l.take (k + 1))).length=(aG (l.take k)).length + (aZ f).length:=by rw [hs,a₃]
  have c1:=Hd (G:=G) (aG (l.take k)) f Bx om;rw [← hs] at c1;unfold kg at c1;generalize aG (l.take k)=p at *;(have dh:=aj.mk (aH);refine aa ?_);refine bF rfl aA rfl (c1) [] [(0,p.length)] ⟨rfl,mm,rfl,lm,mm⟩ rfl rfl ?_;refine aa ?_;exact⟨k + 1,by show k + 1≤l.length;omega,by show l.length - (k + 1) < l.length - k;omega,(by dsimp only;exact(vm [(0,_)] []))⟩
 ·have aC:k=l.length:=by have:=oF h;omega
  subst aC;rw [List.take_length];generalize aG l=p at *;refine aa ?_;refine⟨[_],[],[(0,p.length)],rfl,rfl,?_,rfl,⟨?_,trivial⟩,?_⟩
  ·exact⟨by show p.length≤(u8s p).length;simp [u8s],trivial⟩
  ·exact rv
  ·exact mm
def nT:Nat→Nat→Nat→Nat
 | 0,_,k=>k
 | f + 1,n,k=>if k < n - k then nT f n (k * 2) else k
theorem C6: ∀(f n k:Nat),k < n→1≤k→1≤nT f n k∧nT f n k < n
 | 0,n,k,h,h1=>⟨h1,h⟩
 | f + 1,n,k,h,h1=>by
  rw [nT]
  split
  ·exact C6 f n (k * 2) om om
  ·exact⟨h1,h⟩
def hlf (n:Nat):Nat:=nT n n 1
theorem AM {n:Nat} (h:2≤n):1≤hlf n∧hlf n < n:=C6 n n 1 om om
theorem To (n:Nat) (h2:1≤n) (hn:n < 4000000000):aE Tryz.prog G 169 [.int .i64 n] (.int .i64 (hlf n)):=by
 generalize hr:hlf n=r;unfold hlf at hr;refine bA seat Tryz.func169 12 ?_;refine aa ?_;refine av (Nat×Nat) (fun x=> [(3, .int .i64 x.2),(0, .int .i64 n)]) (fun _=> []) 0 (fun x=>nT x.1 n x.2=r∧1≤x.2∧x.2≤n∧n≤x.1 + x.2) (fun x=>x.1) (n,1) ⟨hr,dm,dm,dm⟩ (by dsimp only;exact(vm [] [])) ?_;rintro⟨f,k⟩ ⟨hk,h1,h3,h4⟩;try dsimp only
 dsimp only at hk h1 h3 h4;refine aa ?_;refine ad rfl ?_ ?_ <;> intro h
 ·have eS:k < n - k:=by have:=ot h;omega
  match f,hk,h4 with
  | 0,hk,h4=>exfalso;omega
  | f + 1,hk,h4=>
  rw [nT,if_pos eS] at hk;refine aa ?_;refine⟨(f,k * 2),⟨hk,dm,dm,dm⟩,by show f < f + 1;omega,?_⟩;dsimp only;rw [show ((k * 2:Nat):Int)=(k:Int) * 2 by omega];exact(vm [] [])
 ·have eS: ¬ k < n - k:=by have:=oF h;omega
  have:nT f n k=k:=by cases f with | zero=>rfl | succ f=>rw [nT,if_neg eS]
  rw [this] at hk;subst hk;refine aa ?_;refine au ?_;rfl
theorem Py (b:List UInt8) (hb:b.length < 400000000):aE Tryz.prog G 168 [.sl b.length (u8s b)] (keyM (iH (0 :: b))):=by
 have c1:=nS (G:=G) (0 :: b) (by simp only [a₇];omega);rw [a₇] at c1;refine bA seat Tryz.func168 7 ?_;refine aa ?_;refine aO rfl rfl (by intro R hR;refine da hR ?_;refine a₀ (bX b) ?_;refine a₀ ⟨(by simp [setL,repM]),ai (by kernel_rfl) pf⟩ ?_;refine⟨u8s (0 :: b),sv (by simp [u8s,setL,repM]),b.length + 1,sv pf,?_⟩;exact hR) rfl ?_;refine aa ?_;refine cX rfl aA rfl (src (c1)) rfl [(3,b.length + 1)] mm lm ?_;refine aa ?_;refine au ?_;rfl
theorem eA {a:List UInt8} (ha:a.length=32):cutL (u8s a) 0 32=u8s a:=by rw [cut_u8,List.drop_zero,List.take_of_length_le om]
theorem Ly (a b:List UInt8) (ha:a.length=32) (hb:b.length=32):aE Tryz.prog G 170 [keyM a,keyM b] (keyM (iH (1 :: (a ++ b)))):=by
 have c1:=nS (G:=G) (1 :: (a ++ b)) (by simp only [a₇,a₃];omega);have Kp:(1 :: (a ++ b):List UInt8).length=65:=by simp only [a₇,a₃];omega
 generalize hq:(1 :: (a ++ b):List UInt8)=q at *;refine bA seat Tryz.func170 11 ?_;refine aa ?_;refine al [ae 0,ae 1,ae 2,ae 3,ae 4,dF 5,ae 6] ?_;refine aa ?_;refine bj rfl (by intro R hR;refine da hR ?_;refine a₀ (rC a 0 32) ?_;refine a₀ ⟨(by simp [setL,repM]),ai (by kernel_rfl) pf⟩ ?_;refine⟨u8s (1 :: a),sv (by rw [eA ha];simp [u8s,setL,repM]),33,sv pf,?_⟩;exact hR) rfl ?_;refine aa ?_;refine bj rfl (by intro R hR;refine da hR ?_;refine a₀ (rC b 0 32) ?_;refine a₀ ⟨(by simp [u8s,ha]),ai (by kernel_rfl) pf⟩ ?_;refine⟨u8s q,sv (by rw [eA hb,← hq];simp [u8s]),q.length,sv pf,?_⟩;exact hR) rfl ?_;refine aa ?_;refine cG rfl aA rfl [7] (src (c1)) rfl [(7,q.length)] mm lm rfl ?_;refine aa ?_;refine au ?_;rfl
def bo (b:List UInt8):MV:= .sl b.length (u8s b)
def rF:Nat→List (List UInt8)→List UInt8
 | 0,_=>iH []
 | f + 1,l=>match l with
  | [] =>iH []
  | [b] =>iH (0 :: b)
  | l=>iH (1 :: (rF f (l.take (hlf l.length)) ++ rF f (l.drop (hlf l.length))))
def eL (l:List (List UInt8)):List UInt8:=rF l.length l
theorem tu (f:Nat) {l:List (List UInt8)} (h:2≤l.length):rF (f + 1) l=iH (1 :: (rF f (l.take (hlf l.length)) ++ rF f (l.drop (hlf l.length)))):=by
 match l,h with
 | a :: b :: r,_=>rfl
theorem I6: ∀(f:Nat) (l:List (List UInt8)),(rF f l).length=32
 | 0,_=>gk _
 | f + 1,l=>match l with
  | [] =>gk _
  | [_] =>gk _
  | _ :: _ :: _=>gk _
theorem mD: ∀(f g:Nat) (l:List (List UInt8)),l.length≤f→l.length≤g→rF f l=rF g l
 | 0,g,l,h,_=>by
  obtain rfl:=b₅.1 (by omega:l.length=0)
  cases g <;> rfl
 | f + 1,0,l,_,h=>by
  obtain rfl:=b₅.1 (by omega:l.length=0)
  rfl
 | f + 1,g + 1,l,hf,hg=>by
  match l with
  | [] =>rfl
  | [b] =>rfl
  | a :: b :: r=>
   have h2:2≤(a :: b :: r).length:=by simp only [a₇];omega
   rw [tu f h2,tu g h2]
   have:=AM h2
   rw [mD f g _ (by rw [a₆];omega) (by rw [a₆];omega),mD f g _ (by rw [a₁];omega) (by rw [a₁];omega)]
theorem zd {l:List (List UInt8)} (h:2≤l.length):eL l=iH (1 :: (eL (l.take (hlf l.length)) ++ eL (l.drop (hlf l.length)))):=by
 obtain⟨f,hf⟩: ∃f,l.length=f + 1:=⟨l.length - 1,om⟩
 have:=AM h;unfold eL;rw [hf,tu f h];rw [mD f (l.take (hlf l.length)).length _ (by rw [a₆];omega) (a₉ _),mD f (l.drop (hlf l.length)).length _ (by rw [a₁];omega) (a₉ _),← hf]
theorem gB (l:List (List UInt8)):(eL l).length=32:=I6 _ _
theorem cut_take {α:Type} (f:α→MV) (l:List α) (k:Nat):cutL (l.map f) 0 k=(l.take k).map f:=by simp [cutL,List.map_take]
theorem el {α:Type} (f:α→MV) (l:List α) (k:Nat):cutL (l.map f) k l.length=(l.drop k).map f:=by
 unfold cutL;rw [b₁ (by rw [a₁,d₉];omega),List.map_drop]
theorem rG: ∀(l:List (List UInt8)),bg (l.map bo) 1=true
 | [] =>rfl
 | _ :: _=>rfl
theorem iC {l:List (List UInt8)} {k:Nat} (hk:k < l.length):bI (l.map bo) l.length (k:Int)=some (bo l[k]):=dB hk (by simp [hk])
theorem u9: ∀(f:Nat) (l:List (List UInt8)),l.length≤f→l.length < 1000000→(∀b∈l,b.length < 300000000)→aE Tryz.prog G 114 [.sl l.length (l.map bo)] (keyM (eL l)):=by
 intro f
 induction f with
 | zero=>
  intro l hl _ _;obtain rfl:=b₅.1 (by omega:l.length=0);have c1:=nS (G:=G) [] sm;refine bA seat Tryz.func114 27 ?_;refine aa ?_;refine dZ (c1) ?_;refine au ?_;rfl
 | succ f ih=>
  intro l hl hn hb
  match hh:l with
  | [] =>
   have c1:=nS (G:=G) [] sm;refine bA seat Tryz.func114 27 ?_;refine aa ?_;refine dZ (c1) ?_;refine au ?_;rfl
  | [b] =>
   have c1:=Py (G:=G) b (by have:=hb b sm;omega);refine bA seat Tryz.func114 27 ?_;refine aa ?_;refine dZ (c1) ?_;refine au ?_;rfl
  | a :: b :: r=>
   rw [← hh] at hl hn hb ⊢;have h2:2≤l.length:=by rw [hh];simp only [a₇];omega
   clear hh;obtain⟨k1,k2⟩:=AM h2;have ch:=To (G:=G) l.length om om;have c1:=ih (l.take (hlf l.length)) (by rw [a₆];omega) (by rw [a₆];omega) fun x hx=>hb x (d₃ hx)
   have c2:=ih (l.drop (hlf l.length)) (by rw [a₁];omega) (by rw [a₁];omega) fun x hx=>hb x (d₄ hx)
   have c3:=Ly (G:=G) (eL (l.take (hlf l.length))) (eL (l.drop (hlf l.length))) (gB _) (gB _);rw [zd h2];rw [a₆,e₀ om,← cut_take] at c1;rw [a₁,← el] at c2;generalize hlf l.length=k at *;refine bA seat Tryz.func114 27 ?_;refine aa ?_;refine ad rfl ?_ ?_ <;> intro h
   ·exfalso;have:(l.length:Int)=0:=by simpa using h
    omega
   refine aa ?_;refine ad rfl ?_ ?_ <;> intro h
   ·exfalso;have:(l.length:Int)=1:=by simpa using h
    omega
   refine aa ?_;refine dZ (ch) ?_;refine al [ae 0,ae 1,ae 2,dF 3,ae 4,ae 5,ae 6,dF 7,dF 8,ae 9] ?_;(have dh:=aj.mk (kh (κ:= .i64) (c₈ k2));have dh:=aj.mk (gH (κ:= .i64) (c₈ k2));have dh:=bH.mk (rG l);refine aa ?_);refine di (c1) ?_;refine di (c2) ?_;refine di (c3) ?_;refine au ?_;rfl
theorem Pz {n:Nat} (h0:0 < n) (h1:n < 32):IntKind.u64.wrap (0 - (n:Int))=((18446744073709551616 - n:Nat):Int):=by rw [wu64];omega
theorem V7 {n:Nat} (h0:0 < n) (h1:n < 32):IntKind.u64.wrap ((BitVec.ofInt IntKind.u64.bits ((18446744073709551616 - n:Nat):Int) &&& BitVec.ofInt IntKind.u64.bits (31:Int)).toNat:Int)=((32 - n:Nat):Int):=by
 have e:(18446744073709551616 - n) &&& 31=32 - n:=by
  have:=Nat.and_two_pow_sub_one_eq_mod (18446744073709551616 - n) 5;rw [show (2 ^ 5 - 1:Nat)=31 by rfl] at this;rw [this];omega
 rw [BitVec.toNat_and,fQ _ _ (show 18446744073709551616 - n < 2 ^ IntKind.u64.bits by show _ < 18446744073709551616;omega),show (BitVec.ofInt IntKind.u64.bits (31:Int)).toNat=31 by rfl,e,wu64];omega
theorem V8 {n:Nat} (h0:0 < n) (h1:n < 32):IntKind.u64.wrap (32 - ((32 - n:Nat):Int))=(n:Int):=by rw [wu64];omega
theorem V9 (x:UInt32) (n:Nat) (h0:0 < n) (h1:n < 32):aE Tryz.prog G 274 [eK x, .int .i64 (0 - (n:Int))] (eK (iJ x n)):=by
 have e:iJ x n=(x <<< UInt32.ofNat (32 - n)) ||| (x >>> UInt32.ofNat n):=by unfold iJ;rw [UInt32.or_comm]
 refine bA seat Tryz.func274 17 ?_;(have dh:=aX.mk (Pz h0 h1);have dh:=aX.mk (V7 h0 h1);have dh:=aX.mk (V8 h0 h1);have dh:=aX.mk (Lo x (32 - n) om);have dh:=aX.mk (wP x n h1);refine Pr ?_);refine au ?_;exact congrArg eK e.symm
theorem gO (x:UInt32) (n:Nat) (h0:0 < n) (h1:n < 32):aE Tryz.prog G 254 [eK x, .int .i64 n] (eK (iJ x n)):=by
 have c1:=V9 (G:=G) x n h0 h1;refine bA seat Tryz.func254 9 ?_;refine aa ?_;refine dZ (c1) ?_;refine au ?_;rfl
def pQ (n:Nat):Nat:=if n=0 then 0 else n.log2 + 1
theorem LA {l:List UInt8} (hl:l=(b₉ 256).map fun i=>UInt8.ofNat (pQ i)) {j:Nat} (hj:j < 256):BQ l (j:Int)=some (UInt8.ofNat (pQ j)):=by
 subst hl;unfold BQ;rw [if_pos om];simp [hj]
theorem qj {n:Nat} (h:0 < n): ∃k,pQ n=k + 1∧2 ^ k≤n∧n < 2 ^ (k + 1):=⟨n.log2,by unfold pQ;rw [if_neg om],Nat.log2_self_le om,Nat.lt_log2_self⟩
theorem uq {n:Nat} (h:n < 256):pQ n≤8:=by
 rcases Nat.eq_zero_or_pos n with rfl | h0
 ·decide
 ·obtain⟨k,h1,h2,_⟩:=qj h0;rw [h1];rcases c₄ k 8 with h3 | h3
  ·omega
  ·have:2 ^ 8≤2 ^ k:=b₀ om h3;omega
theorem PJ (m:Nat):((m:Int).fdiv (2 ^ (min (8:Int).toNat IntKind.u64.bits)))=((m / 256:Nat):Int):=by
 rw [show min (8:Int).toNat IntKind.u64.bits=8 by rfl,c₀ _ (by decide)];exact(c₂ m 256).symm
theorem PS (x:Nat) (h0:0 < x) (hx:x < 65536): ∃k,2 ^ k≤x∧x < 2 ^ (k + 1)∧aE Tryz.prog G 189 [.int .u64 x] (.int .i64 ((k + 1:Nat):Int)):=by
 by_cases hs:x < 256
 ·obtain⟨k,hk,h1,h2⟩:=qj h0;have hy:x < 256:=hs;have hb:=uq hs;refine⟨k,h1,h2,?_⟩;rw [← hk];have hn:(UInt8.ofNat (pQ x)).toNat=pQ x:=kP om;refine bA seat Tryz.func189 25 ?_;refine aa ?_;refine ad rfl ?_ ?_ <;> intro h
  ·exfalso;have:=ot h;omega
  refine aa ?_;refine ad rfl ?_ ?_ <;> intro h
  ·exfalso;have:=ot h;omega
  refine aa ?_;refine ad rfl ?_ ?_ <;> intro h
  ·exfalso;have:=ot h;omega
  refine aa ?_;((with_reducible apply rn);(case hq=>exact rfl);(case hv=>exact rfl);(case he=>(intro R hR;(try conv=>whnf);refine⟨_,LA (by kernel_rfl) hy,?_⟩;exact hR));(case hd=>exact rfl));rw [hn];refine aa ?_;refine au ?_;exact congrArg (MV.int .i64) om
 ·have hd0:0 < x / 256:=om;have hy:x / 256 < 256:=om;obtain⟨k,hk,h1,h2⟩:=qj hd0;have hb:=uq hy;have p1:2 ^ (k + 8)=2 ^ k * 256:=by rw [Nat.pow_add]
  have p2:2 ^ (k + 8 + 1)=2 ^ (k + 1) * 256:=by rw [show k + 8 + 1=k + 1 + 8 by omega,Nat.pow_add]
  refine⟨k + 8,by rw [p1];omega,by rw [p2];omega,?_⟩;rw [show k + 8 + 1=8 + pQ (x / 256) by omega];have hn:(UInt8.ofNat (pQ (x / 256))).toNat=pQ (x / 256):=kP om;have hsh:=PJ x;generalize x / 256=y at *;refine bA seat Tryz.func189 25 ?_;refine aa ?_;refine ad rfl ?_ ?_ <;> intro h
  ·exfalso;have:=ot h;omega
  refine aa ?_;refine ad rfl ?_ ?_ <;> intro h
  ·exfalso;have:=ot h;omega
  refine aa ?_;refine ad rfl ?_ ?_ <;> intro h
  rotate_left
  ·exfalso;have:=oF h;omega
  (have dh:=aX.mk (hsh);refine aa ?_);((with_reducible apply rn);(case hq=>exact rfl);(case hv=>exact rfl);(case he=>(intro R hR;(try conv=>whnf);refine⟨_,LA (by kernel_rfl) hy,?_⟩;exact hR));(case hd=>exact rfl));rw [hn];refine aa ?_;refine au ?_;exact congrArg (MV.int .i64) om
theorem ze: ∀(f n k:Nat),k < n→1≤k→n≤f + k→∃m,nT f n k=k * 2 ^ m∧k * 2 ^ m < n∧n≤2 * (k * 2 ^ m)
 | 0,n,k,h,h1,hf=>by omega
 | f + 1,n,k,h,h1,hf=>by
  rw [nT]
  split
  ·obtain⟨m,q1,q2,q3⟩:=ze f n (k * 2) om om om
   have e:k * 2 * 2 ^ m=k * 2 ^ (m + 1):=by rw [c₁,Nat.mul_assoc,Nat.mul_comm 2]
   rw [e] at q1 q2 q3
   exact⟨m + 1,q1,q2,q3⟩
  ·exact⟨0,sm,by simpa using h,by simp;omega⟩
theorem P3 {n k:Nat} (h2:2≤n) (h1:2 ^ k≤n - 1) (h3:n - 1 < 2 ^ (k + 1)):hlf n=2 ^ k:=by
 obtain⟨m,q1,q2,q3⟩:=ze n n 1 om om om;rw [Nat.one_mul] at q1 q2 q3;unfold hlf;rw [q1];have e:m=k:=by
  rcases Nat.lt_trichotomy m k with h | h | h
  ·have h4:2 ^ (m + 1)≤2 ^ k:=b₀ om h;rw [c₁] at h4;omega
  ·exact h
  ·have h4:2 ^ (k + 1)≤2 ^ m:=b₀ om h;omega
 rw [e]
theorem ZE {k:Nat} (h:k < 62):IntKind.i64.wrap (1 * 2 ^ (min (k:Int).toNat IntKind.i64.bits))=((2 ^ k:Nat):Int):=by
 have e:min (k:Int).toNat IntKind.i64.bits=k:=by simp [IntKind.bits];omega
 have h4:2 ^ k≤2 ^ 61:=b₀ om om;have e2:(1 * 2 ^ k:Int)=((2 ^ k:Nat):Int):=by rw [Int.one_mul,c₃];rfl
 rw [e,e2];generalize 2 ^ k=p at *;exact eX _ om om
theorem P4 (n:Nat) (h2:2≤n) (hn:n < 65536):aE Tryz.prog G 173 [.int .i64 n] (.int .i64 (hlf n)):=by
 obtain⟨k,h1,h3,c1⟩:=PS (G:=G) (n - 1) om om;rw [P3 h2 h1 h3];have hk:k < 62:=by
  rcases c₄ k 62 with h | h
  ·exact h
  ·have:2 ^ 62≤2 ^ k:=b₀ om h;omega
 have c2:aE Tryz.prog G 125 [.int .u64 ((n - 1:Nat):Int)] (.int .i64 ((k + 1:Nat):Int)):=by
  refine bA seat Tryz.func125 8 ?_;refine aa ?_;refine dZ (c1) ?_;refine au ?_;rfl
 have e:(((k + 1:Nat):Int)) - 1=(k:Int):=om;have hs:=ZE hk;refine bA seat Tryz.func173 9 ?_;refine aa ?_;refine yv (c2) ?_;have ew:IntKind.i64.wrap (((k + 1:Nat):Int) - 1)=(k:Int):=(eX _ om om).trans e;(have dh:=aX.mk (ew);have dh:=aX.mk (hs);refine aa ?_);refine au ?_;rfl
end
section
variable {G:GS}
theorem Fq (b:List UInt8) (hb:b.length=64):aE Tryz.prog G 252 [.sl 64 (u8s b)] (wsM (pO b 48)):=by
 refine bA seat Tryz.func252 93 ?_;refine aS ?_;refine⟨Nat,fun t=> [(10, .int .i64 t),(3, .ptr 1 64 0 0 []),(2, .ptr 0 64 0 0 []),(0, .sl 64 (u8s b))],fun t=> [(0,⟨233,64,false,0,[wsM (a₂ 64 0)]⟩),(1,⟨233,64,false,0,[wsM (wR b t)]⟩)],2,fun t=>t≤16,fun t=>16 - t,⟨0,om,(vm [(0,_),(1,_)] [])⟩,?_⟩;intro t ht;refine aS ?_;refine⟨fun hc=>?_,fun hc=>?_⟩
 ·have Es:t < 16:=by have:=ot hc;omega
  have hl:=oV b t;refine aS ?_;refine⟨[ae 0,ae 1,ae 2,ae 3,ae 4,ae 5,ae 6,ae 7,ae 8,ae 9,ae 10,ae 11,ae 12,ae 13,ae 14,ae 15,ae 16,ae 17,ae 18,ae 19,ae 20,ae 21,ae 22,ae 23,ae 24,ae 25,ae 26,ae 27,ae 28,ae 29,ae 30,ae 31,ae 32,ae 33,ae 34,ae 35],?_⟩;refine aS ?_;refine⟨_,jq (4 * t) om om (pP om),?_⟩;refine aS ?_;refine⟨_,jq (4 * t + 1) om om (pP om),?_⟩;refine aS ?_;refine⟨_,jq (4 * t + 2) om om (pP om),?_⟩;refine aS ?_;refine⟨_,jq (4 * t + 3) om om (pP om),?_⟩;refine aS ?_;refine⟨_,cI om,?_⟩;refine aS ?_;refine⟨_,AJ om _,?_⟩;refine aS ?_;exact⟨t + 1,om,by show 16 - (t + 1) < 16 - t;omega,(vm [(0,_),(1,_)] [])⟩
 ·have Es:t=16:=by have:=oF hc;omega
  subst Es;refine aS ?_;refine⟨Nat,fun t=> [(5, .int .i64 ((16 + t:Nat):Int)),(3, .ptr 1 64 0 0 []),(2, .ptr 0 64 0 0 [])],fun t=> [(0,⟨233,64,false,0,[wsM (a₂ 64 0)]⟩),(1,⟨233,64,false,0,[wsM (pO b t)]⟩)],2,fun t=>t≤48,fun t=>48 - t,⟨0,om,(vm [(0,_),(1,_)] [])⟩,?_⟩;intro t ht;refine aS ?_;refine⟨fun hc=>?_,fun hc=>?_⟩
  ·have Es:t < 48:=by have:=ot hc;omega
   have hl:=lF b t;refine aS ?_;refine⟨[ae 0,ae 1,ae 2,ae 3,ae 4,ae 5,ae 6,ae 7,ae 8,ae 9],?_⟩;refine aS ?_;refine⟨_,hX (16 + t - 15) om om,?_⟩;refine aS ?_;refine⟨_,jy om,?_⟩;refine aS ?_;refine⟨_,hX (16 + t - 2) om om,?_⟩;refine aS ?_;refine⟨_,jy om,?_⟩;refine aS ?_;refine .inl ⟨_,gO _ 7 om om,?_⟩;refine aS ?_;refine .inl ⟨_,gO _ 18 om om,?_⟩;refine aS ?_;refine .inl ⟨_,gO _ 17 om om,?_⟩;refine aS ?_;refine .inl ⟨_,gO _ 19 om om,?_⟩;refine aS ?_;refine⟨[ae 0,ae 1,ae 2,ae 3,ae 4,ae 5,ae 6,ae 7,ae 8,ae 9,ae 10,ae 11,ae 12,ae 13,ae 14,ae 15],?_⟩;refine aS ?_;refine⟨_,hX (16 + t - 7) om om,?_⟩;refine aS ?_;refine⟨_,jy om,?_⟩;refine aS ?_;refine⟨_,hX (16 + t - 16) om om,?_⟩;refine aS ?_;refine⟨_,jy om,?_⟩;refine aS ?_;refine⟨_,hX (16 + t) om om,?_⟩;refine aS ?_;refine⟨_,AJ om _,?_⟩;refine aS ?_;exact⟨t + 1,by show t + 1≤48;omega,by show 48 - (t + 1) < 48 - t;omega,(vm [(0,_),(1,_)] [])⟩
  ·have Es:t=48:=by have:=oF hc;omega
   subst Es;refine aS ?_;rfl
set_option maxRecDepth 40000 in
theorem LB:aT Tryz.prog G 253 [] [] 0 (.ptr 0 64 0 0 []) [(0,⟨233,64,false,0,[wsM kL]⟩)] 1:=by
 refine dK seat Tryz.func253 3 ?_;refine aa ?_;exact eb [_] [(0,2)] []
set_option maxRecDepth 40000 in
theorem begin_m:aE Tryz.prog G 207 [] gI.toM:=by
 refine bA seat Tryz.func207 2 ?_;refine aa ?_;refine au ?_;rfl
def Fs (k w:UInt32) (s:W8):W8:=⟨Pv k w s + (iJ s.a 2 ^^^ iJ s.a 13 ^^^ iJ s.a 22) + (s.a &&& s.b ^^^ s.a &&& s.c ^^^ s.b &&& s.c),s.a,s.b,s.c,s.d + Pv k w s,s.e,s.f,s.g⟩
theorem I7 (k w:UInt32) (s:W8):Fo k w s=Fs k w s:=by
 unfold Fo Fs V5;rw [UInt32.add_assoc]
theorem C7 (h:W8) (b:List UInt8) (hb:b.length=64):aE Tryz.prog G 208 [h.toM, .sl 64 (u8s b)] (qi h b).toM:=by
 have c1:=Fq (G:=G) b hb;have hl:=lF b 48;have hk:kL.length=64:=rfl;have c2:=LB (G:=G);unfold qi;generalize pO b 48=ws at *;generalize kL=kl at *;refine bA seat Tryz.func208 119 ?_;refine Pr ?_;refine yv (c1) ?_;refine Pr ?_;refine yc (c2) [] ?_;refine Pr ?_;refine⟨Nat,fun t=> [(21, .int .i64 t),(7, .ptr 4 8 0 0 []),(6, .ptr 3 64 0 0 []),(5, .ptr 2 64 0 0 []),(4, .ptr 1 8 0 0 []),(2, .ptr 0 8 0 0 [])],fun t=> [(0,⟨262,8,false,0,[h.toM]⟩),(1,⟨262,8,false,0,[W8.toM ⟨0,0,0,0,0,0,0,0⟩]⟩),(2,⟨233,64,false,0,[wsM ws]⟩),(3,⟨233,64,false,0,[wsM kl]⟩),(4,⟨262,8,false,0,[(km kl ws h t).toM]⟩)],5,fun t=>t≤64,fun t=>64 - t,⟨0,om,(vm [(0,0),(1,1),(2,4),(3,3),(4,8)] [])⟩,?_⟩;intro t ht;refine aS ?_;refine⟨fun hc=>?_,fun hc=>?_⟩
 ·have Es:t < 64:=by have:=ot hc;omega
  have hr:km kl ws h (t + 1)=Fs (kl.getD t 0) (ws.getD t 0) (km kl ws h t):=I7 _ _ _;dsimp only;generalize km kl ws h t=s at *;refine aS ?_;refine⟨[ae 0,ae 1,ae 2,ae 3,ae 4,ae 5],?_⟩;refine aS ?_;refine .inl ⟨_,gO _ 6 om om,?_⟩;refine aS ?_;refine .inl ⟨_,gO _ 11 om om,?_⟩;refine aS ?_;refine .inl ⟨_,gO _ 25 om om,?_⟩;refine aS ?_;refine⟨[ae 0,ae 1,ae 2,ae 3,ae 4,ae 5,ae 6,ae 7,ae 8,ae 9,ae 10,ae 11,ae 12,ae 13,ae 14,ae 15,ae 16],?_⟩;refine aS ?_;refine⟨_,cI om,?_⟩;refine aS ?_;refine⟨_,jy om,?_⟩;refine aS ?_;refine⟨_,cI om,?_⟩;refine aS ?_;refine⟨_,jy om,?_⟩;refine aS ?_;refine .inl ⟨_,gO _ 2 om om,?_⟩;refine aS ?_;refine .inl ⟨_,gO _ 13 om om,?_⟩;refine aS ?_;refine .inl ⟨_,gO _ 22 om om,?_⟩;refine aS ?_;exact⟨t + 1,by show t + 1≤64;omega,by show 64 - (t + 1) < 64 - t;omega,(by dsimp only;rw [hr];exact(vm [(0,_),(1,_),(2,_),(3,_),(4,_)] []))⟩
 ·have Es:t=64:=by have:=oF hc;omega
  subst Es;dsimp only;generalize km kl ws h 64=s at *;refine aS ?_;refine⟨Nat,fun i=> [(106, .int .i64 i),(7, .ptr 2 8 0 0 []),(4, .ptr 1 8 0 0 []),(2, .ptr 0 8 0 0 [])],fun i=> [(0,⟨262,8,false,0,[(I3 h s i).toM]⟩),(1,⟨262,8,false,0,[W8.toM ⟨0,0,0,0,0,0,0,0⟩]⟩),(2,⟨262,8,false,0,[s.toM]⟩)],3,fun i=>i≤8,fun i=>8 - i,⟨0,om,(vm [(0,0),(1,1),(2,4)] [])⟩,?_⟩;intro i hi;refine aS ?_;refine⟨fun hc=>?_,fun hc=>?_⟩
  ·have gS:i < 8:=by have:=ot hc;omega
   refine aS ?_;refine⟨[ae 0,ae 1,ae 2,ae 3,ae 4,ae 5,ae 6,ae 7,ae 8],?_⟩;refine aS ?_;refine⟨_,cI om,?_⟩;refine aS ?_;refine⟨_,Lw _ gS,?_⟩;refine aS ?_;refine⟨_,cI om,?_⟩;refine aS ?_;refine⟨_,Lw _ gS,?_⟩;refine aS ?_;refine⟨_,cI om,?_⟩;refine aS ?_;refine⟨_,V6 h s gS,?_⟩;refine aS ?_;exact⟨i + 1,by show i + 1≤8;omega,by show 8 - (i + 1) < 8 - i;omega,(vm [(0,_),(1,_),(2,_)] [])⟩
  ·have gS:i=8:=by have:=oF hc;omega
   subst gS;refine aS ?_;rfl
end
section
variable {G:GS}
attribute [local irreducible] ak aB aD aJ aQ vC aY aw
theorem qk (s:W8) (m b:List UInt8): ∀q,64 * q≤m.length→absorb s (m ++ b) q=absorb s m q
 | 0,_=>rfl
 | q + 1,h=>by
  rw [absorb,absorb,qk s m b q om]
  congr 1
  rw [b₇ om,List.take_append_of_le_length (by rw [a₁];omega)]
def P5 (m:List UInt8):MV:= .st [(absorb gI m (m.length / 64)).toM, .sl (m.length % 64) (u8s (m.drop (64 * (m.length / 64)))), .int .i64 m.length]
def tw (m:List UInt8):VM:= [(0,⟨265,10,false,0,[P5 m]⟩)]
abbrev digP:MV:= .ptr 0 10 0 0 []
set_option maxRecDepth 40000 in
theorem LC:aT Tryz.prog G 149 [] [] 0 digP (tw []) 1:=by
 unfold tw P5;refine dK seat Tryz.func149 4 ?_;refine aa ?_;refine dZ (begin_m) ?_;refine⟨[_],[(0,2)],[],rfl,rfl,trivial,rfl,⟨?_,trivial⟩,?_⟩
 ·exact rv
 ·exact⟨.inr ⟨_,_,rfl,rfl,rfl,rfl, .inl rfl, .inl rfl, .inr ⟨.inr ⟨_,rfl,⟨rfl,rfl⟩, .inr ⟨rfl,rfl⟩,⟨rfl,rfl⟩,trivial⟩,trivial⟩⟩,trivial⟩
theorem P6 (m b:List UInt8) (hm:m.length + b.length < 1000000000):aT Tryz.prog G 150 [digP, .sl b.length (u8s b)] (tw m) 1 (.tup []) (tw (m ++ b)) 1:=by
 have hq:64 * (m.length / 64)≤m.length:=om;have hz:m.drop (64 * (m.length / 64)) ++ b=(m ++ b).drop (64 * (m.length / 64)):=(b₇ hq).symm;have Ke:(m.drop (64 * (m.length / 64))).length=m.length % 64:=by rw [a₁];omega
 have Kg:=qk gI m b (m.length / 64) hq;have hlen:(m ++ b).length=m.length + b.length:=a₃;unfold tw P5;rw [← Kg];generalize hM:m ++ b=M at *;generalize hqq:m.length / 64=q at *;generalize hr0:m.drop (64 * q)=r0 at *;rw [← Ke];refine dK seat Tryz.func150 43 ?_;refine aa ?_;refine aO rfl rfl (by intro R hR;refine da hR ?_;refine a₀ (bX r0) ?_;refine a₀ (rA (by kernel_rfl) om) ?_;exact hR) rfl ?_;refine aa ?_;have F9:(M.drop (64 * q)).length=r0.length + b.length:=by rw [← hz,a₃]
 refine aO rfl rfl (by intro R hR;refine da hR ?_;refine a₀ (bX b) ?_;refine a₀ ⟨(by simp [u8s]),ai (by kernel_rfl) pf⟩ ?_;refine⟨u8s (M.drop (64 * q)),sv (by rw [← hz];simp [u8s]),(M.drop (64 * q)).length,sv pf,?_⟩;exact hR) rfl ?_;refine aa ?_;refine av Nat (fun k=> [(4, .sl (M.drop (64 * (q + k))).length (u8s (M.drop (64 * (q + k))))),(0,digP)]) (fun k=> [(0,⟨265,10,false,0,[.st [(absorb gI M (q + k)).toM, .sl r0.length (u8s r0), .int .i64 M.length]]⟩)]) 1 (fun k=>64 * (q + k)≤M.length) (fun k=>M.length - k) 0 om ?_ ?_
 ·rw [Nat.add_zero,hlen,Int.natCast_add];exact(vm [] [(19,(M.drop (64 * q)).length)])
 intro k hk;try dsimp only
 have hwl:(M.drop (64 * (q + k))).length=M.length - 64 * (q + k):=a₁;have zR:(M.drop (64 * (q + k))).drop 64=M.drop (64 * (q + (k + 1))):=by rw [d₂,show 64 * (q + k) + 64=64 * (q + (k + 1)) by omega]
 have Vh:absorb gI M (q + (k + 1))=qi (absorb gI M (q + k)) ((M.drop (64 * (q + k))).take 64):=rfl;by_cases oG:64≤M.length - 64 * (q + k)
 ·generalize absorb gI M (q + k)=S at *;generalize hw:M.drop (64 * (q + k))=w at *;have sM:dN w.length none (some (.int .i64 64))=some (0,64):=kh (k:=64) om;have iY:dN w.length (some (.int .i64 64)) none=some (64,w.length):=gH (k:=64) om;have H9:cutL (u8s w) 0 64=u8s (w.take 64):=by rw [cut_u8,c₅]
  have Bu:cutL (u8s w) 64 w.length=u8s (w.drop 64):=by rw [cut_u8,b₁ (by rw [a₁];omega)]
  have XX:w.length - 64=(w.drop 64).length:=List.length_drop.symm;have c1:=C7 (G:=G) S (w.take 64) (by rw [a₆];omega);refine aa ?_;refine ad rfl ?_ ?_ <;> intro h
  rotate_left
  ·exfalso;have:=oF h;omega
  refine aa ?_;refine al [ae 0,ae 1,ae 2,ae 3,ae 4,ae 5,ae 6,dF 7,ae 8,ae 9,ae 10] ?_;(have dh:=aj.mk (sM);have dh:=aj.mk (iY);have dh:=aX.mk (H9);have dh:=aX.mk (Bu);have dh:=aX.mk (XX);have dh:=bH.mk (bX w);refine aa ?_);refine ZC (c1) ?_;(have dh:=aj.mk (sM);have dh:=aj.mk (iY);have dh:=aX.mk (H9);have dh:=aX.mk (Bu);have dh:=aX.mk (XX);have dh:=bH.mk (bX w);refine aa ?_);exact⟨k + 1,by show 64 * (q + (k + 1))≤M.length;omega,by show M.length - (k + 1) < M.length - k;omega,(by dsimp only;rw [← zR,Vh];exact(vm [] []))⟩
 ·have e1:M.length / 64=q + k:=om;have e2:M.length % 64=(M.drop (64 * (q + k))).length:=om;rw [e1,e2];generalize absorb gI M (q + k)=S at *;generalize hw:M.drop (64 * (q + k))=w at *;refine aa ?_;refine ad rfl ?_ ?_ <;> intro h
  ·exfalso;have:=ot h;omega
  refine aa ?_;refine aO rfl rfl (by intro R hR;refine da hR ?_;refine a₀ (bX w) ?_;refine a₀ (rA (by kernel_rfl) om) ?_;exact hR) rfl ?_;refine aa ?_;refine⟨[],[],[(6,w.length)],rfl,rfl,?_,rfl,trivial,?_⟩
  ·exact⟨by show w.length≤(u8s w).length;simp [u8s],trivial⟩
  ·exact⟨.inr ⟨_,_,rfl,rfl,rfl,rfl, .inl rfl, .inl rfl, .inr ⟨.inr ⟨_,rfl,⟨rfl,rfl⟩, .inr ⟨rfl,rfl,rfl,d₆ (d₇ _),bc _ _⟩,⟨rfl,rfl⟩,trivial⟩,trivial⟩⟩,trivial⟩
theorem Wa (n:Nat):(n:Int).tmod 64=((n % 64:Nat):Int):=rfl
theorem ZG (n k:Nat) (hk:k < 8):IntKind.u8.wrap (((n:Nat):Int).fdiv (2 ^ (min (56 - 8 * (k:Int)).toNat IntKind.u64.bits)))=((byteAt n k).toNat:Int):=by
 have e:min (56 - 8 * (k:Int)).toNat IntKind.u64.bits=8 * (7 - k):=by simp [IntKind.bits];omega
 rw [e,c₀ _ (Int.le_of_lt (Int.pow_pos om)),w8,byteAt,UInt8.toNat_ofNat'];have e3:(2:Int) ^ (8 * (7 - k))=((2 ^ (8 * (7 - k)):Nat):Int):=by rw [c₃];rfl
 rw [e3,← c₂];exact(c₇ _ 256).symm
theorem LD (m:List UInt8) (q:Nat) (hq:64 * q≤m.length):(pA m).drop (64 * q)=m.drop (64 * q) ++ [128] ++ a₂ (iG m.length) 0 ++ Lx (8 * m.length):=by
 unfold pA;rw [a₅,a₅,b₇ hq,← a₅,← a₅]
theorem Ft (m:List UInt8) (q:Nat) (hq:64 * q≤m.length):absorb gI (pA m) q=absorb gI m q:=by
 unfold pA;rw [a₅,a₅];exact qk _ _ _ _ hq
theorem ZH (S:W8) {i:Nat} (h:i < 8):bI [eK S.a,eK S.b,eK S.c,eK S.d,eK S.e,eK S.f,eK S.g,eK S.h] 8 (i:Int)=some (eK (S.nth i)):=by
 have h8:i=0∨i=1∨i=2∨i=3∨i=4∨i=5∨i=6∨i=7:=om;rcases h8 with rfl | rfl | rfl | rfl | rfl | rfl | rfl | rfl <;> rfl
theorem ZI (S:W8) (i:Nat):uK S (4 * (i + 1))=((((uK S (4 * i)).set (4 * i) (S.nth i >>> UInt32.ofNat 24).toUInt8).set (4 * i + 1) (S.nth i >>> UInt32.ofNat 16).toUInt8).set (4 * i + 2) (S.nth i >>> UInt32.ofNat 8).toUInt8).set (4 * i + 3) (S.nth i).toUInt8:=by
 have e:uK S (4 * (i + 1))=((((uK S (4 * i)).set (4 * i) (zb S (4 * i))).set (4 * i + 1) (zb S (4 * i + 1))).set (4 * i + 2) (zb S (4 * i + 2))).set (4 * i + 3) (zb S (4 * i + 3)):=rfl;rw [e];unfold zb;rw [show 4 * i / 4=i by omega,show (4 * i + 1) / 4=i by omega,show (4 * i + 2) / 4=i by omega,show (4 * i + 3) / 4=i by omega,show 24 - 4 * i % 4 * 8=24 by omega,show 24 - (4 * i + 1) % 4 * 8=16 by omega,show 24 - (4 * i + 2) % 4 * 8=8 by omega,show 24 - (4 * i + 3) % 4 * 8=0 by omega];rw [show UInt32.ofNat 0=0 by rfl,UInt32.shiftRight_zero]
theorem LF (m:List UInt8) (hm:m.length < 1000000000):aT Tryz.prog G 151 [digP] (tw m) 1 (keyM (iH m)) (tw m) 1:=by
 have hq:64 * (m.length / 64)≤m.length:=om;have Ke:(m.drop (64 * (m.length / 64))).length=m.length % 64:=by rw [a₁];omega
 have Zj:=LD m _ hq;have hpa:=Ft m _ hq;have jD:=wS m;have hpv:=C5 m;have hp:iG m.length < 64:=by unfold iG;omega
 have OH:(m.length % 64 + 1 + iG m.length) % 64=56:=by unfold iG;omega
 have Ia: ∀k,k < iG m.length→(m.length % 64 + 1 + k) % 64≠56:=by unfold iG;intro k hk;omega
 unfold tw P5 iH;rw [← Ke] at OH Ia ⊢;generalize hqq:m.length / 64=q at *;generalize hr0:m.drop (64 * q)=r0 at *;generalize hpN:iG m.length=pn at *;generalize hP:pA m=P at *;rw [← hpa];refine dK seat Tryz.func151 90 ?_;refine aa ?_;refine aO rfl rfl (by intro R hR;refine da hR ?_;refine a₀ (bX r0) ?_;refine a₀ (rA (by kernel_rfl) om) ?_;exact hR) rfl ?_;refine aa ?_;refine aO rfl rfl (by intro R hR;refine da hR ?_;(refine a₀ (a₉ _) ?_;refine⟨_,rfl,?_⟩;refine a₀ ⟨(by simp [u8s]),ai (by kernel_rfl) pf⟩ ?_;refine⟨u8s (r0 ++ [128]),sv (by simp [u8s,setL,repM,cutL]),r0.length + 1,sv pf,?_⟩);exact hR) rfl ?_;refine aa ?_;have hTl:r0.length + 1 + pn + 8=(P.drop (64 * q)).length:=by rw [Zj];simp [Lx];omega
 refine av Nat (fun k=> [(4, .ms 3 1 0 (r0.length + 1 + k)),(3, .ptr 2 32 0 0 []),(2, .ptr 1 32 0 0 []),(0,digP)]) (fun k=> [(0,⟨265,10,false,0,[.st [(absorb gI P q).toM, .sl r0.length (u8s r0), .int .i64 m.length]]⟩),(1,⟨68,32,false,0,[keyM (a₂ 32 0)]⟩),(2,⟨68,32,false,0,[keyM (a₂ 32 0)]⟩),(3,⟨5,1,true,0,u8s (r0 ++ [128] ++ a₂ k 0)⟩)]) 4 (fun k=>k≤pn) (fun k=>pn - k) 0 (a₈ _) (vm [(1,_),(2,_),(3,_)] []) ?_;intro k hk;try dsimp only
 (have dh:=aX.mk (Wa (r0.length + 1 + k));refine aa ?_);refine ad rfl ?_ ?_ <;> intro h
 ·have aC:k < pn:=by
   have h1:(((r0.length + 1 + k) % 64:Nat):Int)≠56:=by simpa using h
   rcases c₄ k pn with h2 | h2
   ·exact h2
   ·have:k=pn:=om;subst this;rw [OH] at h1;exact absurd rfl h1
  refine aa ?_;refine aO rfl rfl (by intro R hR;refine da hR ?_;(refine a₀ (a₉ _) ?_;refine⟨_,rfl,?_⟩;refine a₀ ⟨pf,ai (by kernel_rfl) pf⟩ ?_;refine⟨u8s (r0 ++ [128] ++ a₂ (k + 1) 0),sv pf,r0.length + 1 + (k + 1),sv pf,?_⟩);exact hR) rfl ?_;refine aa ?_;exact⟨k + 1,by show k + 1≤pn;omega,by show pn - (k + 1) < pn - k;omega,(by dsimp only;exact(vm [(1,_),(2,_),(3,_)] []))⟩
 ·have aC:k=pn:=by
   have h1:(((r0.length + 1 + k) % 64:Nat):Int)=56:=by simpa using h
   rcases c₄ k pn with h2 | h2
   ·have:=Ia k h2;omega
   ·omega
  subst aC;refine aa ?_;refine av Nat (fun j=> [(6, .int .i64 (56 - 8 * (j:Int))),(5, .int .u64 ((8 * m.length:Nat):Int)),(4, .ms 3 1 0 (r0.length + 1 + k + j)),(3, .ptr 2 32 0 0 []),(2, .ptr 1 32 0 0 []),(0,digP)]) (fun j=> [(0,⟨265,10,false,0,[.st [(absorb gI P q).toM, .sl r0.length (u8s r0), .int .i64 m.length]]⟩),(1,⟨68,32,false,0,[keyM (a₂ 32 0)]⟩),(2,⟨68,32,false,0,[keyM (a₂ 32 0)]⟩),(3,⟨5,1,true,0,u8s (r0 ++ [128] ++ a₂ k 0 ++ (b₉ j).map (byteAt (8 * m.length)))⟩)]) 4 (fun j=>j≤8) (fun j=>8 - j) 0 (a₈ _) (by rw [List.range_zero,List.map_nil,d₀];exact(vm [(1,_),(2,_),(3,_)] [])) ?_;intro j hj;try dsimp only
  refine aa ?_;refine ad rfl ?_ ?_ <;> intro h
  ·have OA:j < 8:=by have:=ot h;omega
   (have dh:=aX.mk (ZG (8 * m.length) j OA);refine aa ?_);refine aO rfl rfl (by intro R hR;refine da hR ?_;(refine a₀ (a₉ _) ?_;refine⟨_,rfl,?_⟩;refine a₀ ⟨pf,ai (by kernel_rfl) pf⟩ ?_;refine⟨u8s (r0 ++ [128] ++ a₂ k 0 ++ (b₉ (j + 1)).map (byteAt (8 * m.length))),sv pf,r0.length + 1 + k + (j + 1),sv pf,?_⟩);exact hR) rfl ?_;refine aa ?_;exact⟨j + 1,by show j + 1≤8;omega,by show 8 - (j + 1) < 8 - j;omega,(by dsimp only;exact(vm [(1,_),(2,_),(3,_)] []))⟩
  ·have OA:j=8:=by have:=oF h;omega
   subst OA;have X4:(b₉ 8).map (byteAt (8 * m.length))=Lx (8 * m.length):=rfl;rw [X4,← Zj,hTl];refine aa ?_;refine av Nat (fun k=> [(7, .ptr 3 8 0 0 []),(4, .sl (P.drop (64 * (q + k))).length (u8s (P.drop (64 * (q + k))))),(3, .ptr 2 32 0 0 []),(2, .ptr 1 32 0 0 []),(0,digP)]) (fun k=> [(0,⟨265,10,false,0,[.st [(absorb gI P q).toM, .sl r0.length (u8s r0), .int .i64 m.length]]⟩),(1,⟨68,32,false,0,[keyM (a₂ 32 0)]⟩),(2,⟨68,32,false,0,[keyM (a₂ 32 0)]⟩),(3,⟨262,8,false,0,[(absorb gI P (q + k)).toM]⟩)]) 4 (fun k=>64 * (q + k)≤P.length) (fun k=>P.length - k) 0 om (by rw [Nat.add_zero];exact(vm [(1,_),(2,_),(3,_)] [(3,(P.drop (64 * q)).length)])) ?_;intro k hk;try dsimp only
   have hwl:(P.drop (64 * (q + k))).length=P.length - 64 * (q + k):=a₁;have zR:(P.drop (64 * (q + k))).drop 64=P.drop (64 * (q + (k + 1))):=by rw [d₂,show 64 * (q + k) + 64=64 * (q + (k + 1)) by omega]
   have Vh:absorb gI P (q + (k + 1))=qi (absorb gI P (q + k)) ((P.drop (64 * (q + k))).take 64):=rfl;by_cases oG:64 * (q + k) < P.length
   ·generalize absorb gI P (q + k)=S at *;generalize hw:P.drop (64 * (q + k))=w at *;have sM:dN w.length none (some (.int .i64 64))=some (0,64):=kh (k:=64) om;have iY:dN w.length (some (.int .i64 64)) none=some (64,w.length):=gH (k:=64) om;have H9:cutL (u8s w) 0 64=u8s (w.take 64):=by rw [cut_u8,c₅]
    have Bu:cutL (u8s w) 64 w.length=u8s (w.drop 64):=by rw [cut_u8,b₁ (by rw [a₁];omega)]
    have XX:w.length - 64=(w.drop 64).length:=List.length_drop.symm;have c1:=C7 (G:=G) S (w.take 64) (by rw [a₆];omega);refine aa ?_;refine ad rfl ?_ ?_ <;> intro h
    rotate_left
    ·exfalso;have:=oF h;omega
    refine aa ?_;refine al [ae 0,ae 1,ae 2,dF 3,ae 4] ?_;(have dh:=aj.mk (sM);have dh:=aj.mk (iY);have dh:=aX.mk (H9);have dh:=aX.mk (Bu);have dh:=aX.mk (XX);have dh:=bH.mk (bX w);refine aa ?_);refine ZC (c1) ?_;(have dh:=aj.mk (sM);have dh:=aj.mk (iY);have dh:=aX.mk (H9);have dh:=aX.mk (Bu);have dh:=aX.mk (XX);have dh:=bH.mk (bX w);refine aa ?_);exact⟨k + 1,by show 64 * (q + (k + 1))≤P.length;omega,by show P.length - (k + 1) < P.length - k;omega,(by dsimp only;rw [← zR,Vh];exact(vm [(1,_),(2,_),(3,_)] []))⟩
   ·have e1:P.length / 64=q + k:=om;rw [e1];generalize absorb gI P (q + k)=S at *;generalize hw:P.drop (64 * (q + k))=w at *;refine aa ?_;refine ad rfl ?_ ?_ <;> intro h
    ·exfalso;have:=ot h;omega
    refine aa ?_;refine av Nat (fun i=> [(58, .int .i64 i),(57,S.toM),(3, .ptr 2 32 0 0 []),(2, .ptr 1 32 0 0 []),(0,digP)]) (fun i=> [(0,⟨265,10,false,0,[.st [(absorb gI P q).toM, .sl r0.length (u8s r0), .int .i64 m.length]]⟩),(1,⟨68,32,false,0,[keyM (a₂ 32 0)]⟩),(2,⟨68,32,false,0,[keyM (uK S (4 * i))]⟩)]) 3 (fun i=>i≤8) (fun i=>8 - i) 0 (a₈ _) (vm [(1,_),(2,_)] []) ?_;intro i hi;try dsimp only
    refine aa ?_;refine ad rfl ?_ ?_ <;> intro h
    ·have gS:i < 8:=by have:=ot h;omega
     have UG:bI [eK S.a,eK S.b,eK S.c,eK S.d,eK S.e,eK S.f,eK S.g,eK S.h] 8 (i:Int)=some (eK (S.nth i)):=ZH S gS;have OE:=rE S (4 * i);have sH:=ZI S i;generalize S.nth i=x at *;generalize uK S (4 * i)=ok at *;have s24:(x.toNat:Int).fdiv (2 ^ (min (24:Int).toNat IntKind.u32.bits))=((x >>> UInt32.ofNat 24).toNat:Int):=wP x 24 om;have s16:(x.toNat:Int).fdiv (2 ^ (min (16:Int).toNat IntKind.u32.bits))=((x >>> UInt32.ofNat 16).toNat:Int):=wP x 16 om;have s8:(x.toNat:Int).fdiv (2 ^ (min (8:Int).toNat IntKind.u32.bits))=((x >>> UInt32.ofNat 8).toNat:Int):=wP x 8 om;have v24:=jO (x >>> UInt32.ofNat 24);have v16:=jO (x >>> UInt32.ofNat 16);have v8:=jO (x >>> UInt32.ofNat 8);have v0:=jO x;generalize (x >>> UInt32.ofNat 24)=y24 at *;generalize (x >>> UInt32.ofNat 16)=y16 at *;generalize (x >>> UInt32.ofNat 8)=y8 at *;have j0:EG 32 (4 * (i:Int))=some (4 * i):=hX (4 * i) om om;have j1:EG 32 (4 * (i:Int) + 1)=some (4 * i + 1):=hX (4 * i + 1) om om;have j2:EG 32 (4 * (i:Int) + 2)=some (4 * i + 2):=hX (4 * i + 2) om om;have j3:EG 32 (4 * (i:Int) + 3)=some (4 * i + 3):=hX (4 * i + 3) om om;have k0:=jP (k:=ok) (i:=4 * i) om y24.toUInt8;have k1:=jP (k:=ok.set (4 * i) y24.toUInt8) (i:=4 * i + 1) (by rw [b₆];omega) y16.toUInt8;have k2:=jP (k:=(ok.set (4 * i) y24.toUInt8).set (4 * i + 1) y16.toUInt8) (i:=4 * i + 2) (by rw [b₆,b₆];omega) y8.toUInt8;have k3:=jP (k:=((ok.set (4 * i) y24.toUInt8).set (4 * i + 1) y16.toUInt8).set (4 * i + 2) y8.toUInt8) (i:=4 * i + 3) (by rw [b₆,b₆,b₆];omega) x.toUInt8;(have dh:=aj.mk (UG);have dh:=aX.mk (s24);have dh:=aX.mk (s16);have dh:=aX.mk (s8);have dh:=aX.mk (v24);have dh:=aX.mk (v16);have dh:=aX.mk (v8);have dh:=aX.mk (v0);have dh:=aj.mk (j0);have dh:=aj.mk (j1);have dh:=aj.mk (j2);have dh:=aj.mk (j3);have dh:=aj.mk (k0);have dh:=aj.mk (k1);have dh:=aj.mk (k2);have dh:=aj.mk (k3);refine aa ?_);exact⟨i + 1,by show i + 1≤8;omega,by show 8 - (i + 1) < 8 - i;omega,(by dsimp only;rw [sH];exact(vm [(1,_),(2,_)] []))⟩
    ·have gS:i=8:=by have:=oF h;omega
     subst gS;refine aa ?_;refine au ?_;exact en [_]
theorem o5 (m b M:List UInt8) (hM:m ++ b=M) (hm:m.length + b.length < 1000000000):aT Tryz.prog G 150 [digP, .sl b.length (u8s b)] (tw m) 1 (.tup []) (tw M) 1:=by
 subst hM;exact P6 m b hm
theorem AN (b:List UInt8) (hb:b.length < 500000000):aE Tryz.prog G 97 [.sl b.length (u8s b)] (keyM (iH b)):=by
 have c1:=LC (G:=G);have c2:=o5 (G:=G) [] b b rfl (by simp;omega);have c3:=LF (G:=G) b om;unfold tw at c1 c2 c3;refine bA seat Tryz.func97 10 ?_;refine aa ?_;refine yc (c1) [] ?_;refine aa ?_;refine yc (c2) [(0,1)] ?_;refine aa ?_;refine yc (c3) [(0,1)] ?_;refine aa ?_;refine au ?_;rfl
theorem P7 (b:List UInt8) (hb:b.length < 500000000):aE Tryz.prog G 172 [.sl b.length (u8s b)] (keyM (iH (0 :: b))):=by
 have c1:=LC (G:=G);have c2:=o5 (G:=G) [] [0] [0] rfl sm;have c3:=o5 (G:=G) [0] b (0 :: b) rfl (by simp only [a₇,e₁];omega);have c4:=LF (G:=G) (0 :: b) (by simp only [a₇];omega);unfold tw at c1 c2 c3 c4;refine bA seat Tryz.func172 13 ?_;refine aa ?_;refine yc (c1) [] ?_;refine aa ?_;refine bF rfl aA rfl (c2) [(0,1)] [(4,1)] ⟨rfl,mm,rfl,lm,mm⟩ rfl rfl ?_;refine aa ?_;refine yc (c3) [(0,1)] ?_;refine aa ?_;refine yc (c4) [(0,1)] ?_;refine aa ?_;refine au ?_;rfl
theorem LG (a b:List UInt8) (ha:a.length=32) (hb:b.length=32):aE Tryz.prog G 174 [keyM a,keyM b] (keyM (iH (1 :: (a ++ b)))):=by
 have c1:=LC (G:=G);have c2:=o5 (G:=G) [] [1] [1] rfl sm;have c3:=o5 (G:=G) [1] a (1 :: a) rfl (by simp only [a₇,e₁];omega);have c4:=o5 (G:=G) (1 :: a) b (1 :: (a ++ b)) rfl (by simp only [a₇];omega);have c5:=LF (G:=G) (1 :: (a ++ b)) (by simp only [a₇,a₃];omega);rw [ha,← eA ha] at c3;rw [hb,← eA hb] at c4;unfold tw at c1 c2 c3 c4 c5;refine bA seat Tryz.func174 18 ?_;refine aa ?_;refine yc (c1) [] ?_;refine aa ?_;refine bF rfl aA rfl (c2) [(0,3)] [(6,1)] ⟨rfl,mm,rfl,lm,mm⟩ rfl rfl ?_;refine aa ?_;refine yc (c3) [(0,3)] ?_;refine aa ?_;refine yc (c4) [(0,3)] ?_;refine aa ?_;refine yc (c5) [(0,3)] ?_;refine aa ?_;refine au ?_;rfl
theorem AO: ∀(f:Nat) (l:List (List UInt8)),l.length≤f→l.length < 60000→(∀b∈l,b.length < 300000000)→aE Tryz.prog G 116 [.sl l.length (l.map bo)] (keyM (eL l)):=by
 intro f
 induction f with
 | zero=>
  intro l hl _ _;obtain rfl:=b₅.1 (by omega:l.length=0);have c1:=AN (G:=G) [] sm;refine bA seat Tryz.func116 27 ?_;refine aa ?_;refine dZ (c1) ?_;refine au ?_;rfl
 | succ f ih=>
  intro l hl hn hb
  match hh:l with
  | [] =>
   have c1:=AN (G:=G) [] sm;refine bA seat Tryz.func116 27 ?_;refine aa ?_;refine dZ (c1) ?_;refine au ?_;rfl
  | [b] =>
   have c1:=P7 (G:=G) b (by have:=hb b sm;omega);refine bA seat Tryz.func116 27 ?_;refine aa ?_;refine dZ (c1) ?_;refine au ?_;rfl
  | a :: b :: r=>
   rw [← hh] at hl hn hb ⊢;have h2:2≤l.length:=by rw [hh];simp only [a₇];omega
   clear hh;obtain⟨k1,k2⟩:=AM h2;have ch:=P4 (G:=G) l.length om om;have c1:=ih (l.take (hlf l.length)) (by rw [a₆];omega) (by rw [a₆];omega) fun x hx=>hb x (d₃ hx)
   have c2:=ih (l.drop (hlf l.length)) (by rw [a₁];omega) (by rw [a₁];omega) fun x hx=>hb x (d₄ hx)
   have c3:=LG (G:=G) (eL (l.take (hlf l.length))) (eL (l.drop (hlf l.length))) (gB _) (gB _);rw [zd h2];rw [a₆,e₀ om,← cut_take] at c1;rw [a₁,← el] at c2;generalize hlf l.length=k at *;refine bA seat Tryz.func116 27 ?_;refine aa ?_;refine ad rfl ?_ ?_ <;> intro h
   ·exfalso;have:(l.length:Int)=0:=by simpa using h
    omega
   refine aa ?_;refine ad rfl ?_ ?_ <;> intro h
   ·exfalso;have:(l.length:Int)=1:=by simpa using h
    omega
   refine aa ?_;refine dZ (ch) ?_;refine al [ae 0,ae 1,ae 2,dF 3,ae 4,ae 5,ae 6,dF 7,dF 8,ae 9] ?_;(have dh:=aj.mk (kh (κ:= .i64) (c₈ k2));have dh:=aj.mk (gH (κ:= .i64) (c₈ k2));have dh:=bH.mk (rG l);refine aa ?_);refine di (c1) ?_;refine di (c2) ?_;refine di (c3) ?_;refine au ?_;rfl
end
section
section
variable {Pg:Program} {G:GS} {f:FuncId} {args:List MV} {M0:VM}
theorem zf {b:MB} {es n:Nat} (dP:b.row=true) (h:aT Pg G f args M0 1 (.ms 0 es 0 n) [(0,b)] 1):aT Pg G f args M0 1 (.ms 1 es 0 n) [(1,b)] 2:=by
 intro w P adr dY h1 h2 h3 h4 h5;refine(h w P adr dY h1 h2 h3 h4 h5).mono ?_;rintro e w' ⟨v,rfl,P',aN,j1,j2,j3,j4,j5,j6,j7,j8⟩;have UU: ∀{c b'},VM.get [(1,b)] c=some b'→c=1∧b'=b:=fun {c b'} hc=>by
  rw [VM.get_cons] at hc;split at hc
  ·rename_i e;injection hc with hc;exact⟨e.symm,hc.symm⟩
  ·cases hc
 have c0p:VM.get [(0,b)] 0=some b:=rfl;have XQ: ∀{c g},adr c=some g→c=0:=fun {c g} hc=>by
  rcases c₄ c 1 with h | h
  ·omega
  ·rw [h3 c h] at hc;cases hc
 refine⟨v,rfl,P',fun c=>if c=1 then aN 0 else aN c,⟨fun c b' hc=>?_,fun c c' b1 b2 g hc uE _ _=>?_,j1.prot⟩,?_,⟨j3.prot,j3.cell,fun c g hc=>?_,j3.size⟩,fun c hc=>?_,fun c hc=>?_,fun c g hc=>?_,j7,j8⟩
 ·obtain⟨rfl,rfl⟩:=UU hc;rcases j1.blk 0 b' c0p with q | ⟨g,q1,q2⟩
  ·exact .inl ⟨q.1,q.2.1,by simpa using q.2.2.1,q.2.2.2⟩
  ·refine .inr ⟨g,by simpa using q1,?_⟩;obtain⟨cur,parts,c1,c2,c3,c4,c5⟩:=q2.ofR dP;exact⟨.inl ⟨cur,parts,c1,c2,c3,fun j x p hx hp=>by have:=c4 j x p hx hp;rw [dP] at this ⊢;exact this,c5⟩,q2.pe,q2.le⟩
 ·rw [(UU hc).1,(UU uE).1]
 ·rcases j2.ms_ with ⟨rfl,_,rfl⟩ | ⟨g,o,cap,q1,rfl,q2,q3,q4,q5⟩
  ·exact .val [_] .ms0
  ·exact .val [_] (.ms g o cap (by simpa using q1) q2 q3 q4 q5)
 ·obtain rfl:=XQ hc;exact j3.num 0 g hc
 ·obtain rfl:c=0:=om;exact j4 0 om
 ·have:c≠1:=om;simp only [this,if_false];exact j5 c om
 ·by_cases h:c=1
  ·simp only [h,if_true] at hc;exact j6 0 g hc
  ·simp only [h,if_false] at hc;exact j6 c g hc
end
theorem C8 {σ:Nat→Option Nat} {fz:Fz} {a b:MV}: ∀(l:List MV),(∀x∈l,eZ σ fz x x)→eZ σ fz a b→eZ.relVs σ fz (l ++ [a]) (l ++ [b])
 | [],_,h=>⟨h,trivial⟩
 | x :: l,hl,h=>⟨hl x sm,C8 l (fun y hy=>hl y (by simp [hy])) h⟩
variable {G:GS}
attribute [local irreducible] ak aB aD aJ aQ vC aY aw
def AP (l:List fq):MB:=⟨183,4,true,0,l.map cj⟩
def bQ (n:Nat) (s:List UInt8):List fq:=if s= [] then [] else [⟨n,2,0,s⟩]
def dz (n:Nat) (v:Nat):List fq:=if v=0 then [] else [⟨n,0,v,[]⟩]
theorem AQ (l:List fq) (n:Nat) (s:List UInt8) (hl:l.length < 100000000) (hs:s.length < 100000000):aT Tryz.prog G 121 [.ms 0 4 0 l.length, .int .i64 n, .str s] [(0,AP l)] 1 (.ms 1 4 0 (l ++ bQ n s).length) [(1,AP (l ++ bQ n s))] 2:=by
 unfold AP bQ;by_cases h0:s= []
 ·rw [if_pos h0,d₀];subst h0;refine zf rfl ?_;refine dK seat Tryz.func121 17 ?_;refine aa ?_;exact en [_]
 ·rw [if_neg h0,a₃,b₂];refine dK seat Tryz.func121 17 ?_;refine aa ?_;refine ad rfl ?_ ?_ <;> intro h
  ·exact absurd h (by simp;intro h;exact absurd h h0)
  ·refine aa ?_;refine aO rfl rfl (by intro R hR;refine da hR ?_;(refine a₀ (a₉ _) ?_;refine⟨_,rfl,?_⟩;refine a₀ ⟨sm,ai (by kernel_rfl) pf⟩ ?_;refine⟨(l ++ [(⟨n,2,0,s⟩:fq)]).map cj,sv (by simp;rfl),l.length + 1,sv pf,?_⟩);exact hR) rfl ?_;refine aa ?_;exact eb [_] [(1,10)] []
theorem nU (l:List fq) (n:Nat) (v:Nat) (hl:l.length < 100000000):aT Tryz.prog G 122 [.ms 0 4 0 l.length, .int .i64 n, .int .u64 v] [(0,AP l)] 1 (.ms 1 4 0 (l ++ dz n v).length) [(1,AP (l ++ dz n v))] 2:=by
 unfold AP dz;by_cases h0:v=0
 ·rw [if_pos h0,d₀];subst h0;refine zf rfl ?_;refine dK seat Tryz.func122 16 ?_;refine aa ?_;exact en [_]
 ·rw [if_neg h0,a₃,b₂];refine dK seat Tryz.func122 16 ?_;refine aa ?_;refine ad rfl ?_ ?_ <;> intro h
  ·exfalso;have:(v:Int)=0:=by simpa using h
   omega
  ·refine aa ?_;refine aO rfl rfl (by intro R hR;refine da hR ?_;(refine a₀ (a₉ _) ?_;refine⟨_,rfl,?_⟩;refine a₀ ⟨sm,ai (by kernel_rfl) pf⟩ ?_;refine⟨l.map cj ++ [.st [.int .i64 n, .int .i64 0, .int .u64 v, .nils]],sv (by simp [cutL,setL,repM]),l.length + 1,sv pf,?_⟩);exact hR) rfl ?_;refine aa ?_;refine⟨[_],[(1,9)],[],rfl,rfl,trivial,rfl,⟨?_,trivial⟩,?_⟩
   ·exact rv
   ·refine⟨.inr ⟨_,_,rfl,rfl,rfl,rfl, .inl rfl, .inl rfl, .inr ?_⟩,trivial⟩;rw [c₉];exact C8 _ (fun x hx=>by obtain⟨f,_,rfl⟩:=List.mem_map.1 hx;exact .inl ⟨rfl,rfl⟩) (.inr ⟨_,rfl,⟨rfl,rfl⟩,⟨rfl,rfl⟩,⟨rfl,rfl⟩, .inr ⟨rfl,rfl⟩,trivial⟩)
end
end Go.Proofs.YtohikcplmbkmeaaGreatDoor
