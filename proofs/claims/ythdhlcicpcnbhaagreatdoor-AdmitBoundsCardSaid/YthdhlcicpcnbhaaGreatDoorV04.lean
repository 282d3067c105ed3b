/- Parts of a proof, one behind the other: B1, B2, B3, B4, B5, H1, H2, B6, B7, C1, C2, C3, C4, D1, D2. -/
import Derived.Test.YthdhlcicpcnbhaaGreatDoorV03
open List renaming length_append → a₀,replicate → a₂,length_drop → a₃,append_assoc → a₅,length_singleton → a₆,take_of_length_le → b₀,append_nil → b₂,length_set → b₃,drop_append_of_le_length → b₄,range → b₇,length_take → c₀,take_succ_eq_append_getElem → c₁,length_map → c₂,map_append → c₃,drop_zero → c₄,drop_eq_nil_of_le → c₈,drop_drop → c₉,flatten_append → d₀,mem_singleton → d₄,getElem_mem → d₅,take_length → d₆,length_nil → d₇,nil_append → d₉,take_zero → e₀
open And renaming intro → a₁
open Prod.mk renaming injEq → a₄
open Nat renaming le_refl → a₇,zero_le → a₈,mul_le_mul_right → a₉,mod_eq_of_lt → b₅,ble → c₅,pow_succ → c₆,le_of_eq → d₁,zero_add → d₂,lt_or_ge → d₃,div_le_self → d₈
open Bool renaming noConfusion → b₁
open Int renaming fdiv_eq_ediv_of_nonneg → b₆,natCast_emod → b₈,natCast_ediv → b₉,natCast_pow → c₇
set_option maxRecDepth 20000
set_option maxHeartbeats 16000000
set_option linter.unusedVariables false
set_option linter.unusedSimpArgs false
namespace Go.Proofs.YthdhlcicpcnbhaaGreatDoor
open Go.RowKit
section
variable {G:GS}
theorem PI (m:Nat):IntKind.u8.wrap (m:Int)=((UInt8.ofNat m).toNat:Int):=by
 rw [w8,UInt8.toNat_ofNat'];exact(b₈ _ 256).symm
theorem Ii {p:UInt8→Prop} (h: ∀n:Fin 256,p (UInt8.ofNat n.val)) (x:UInt8):p x:=by
 have:=h ⟨x.toNat,x.toNat_lt⟩
 rwa [UInt8.ofNat_toNat] at this
theorem FU (x:UInt8):x ||| 128=UInt8.ofNat (x.toNat % 128 + 128):=Ii (p:=fun x=>x ||| 128=UInt8.ofNat (x.toNat % 128 + 128)) (by decide +kernel) x
theorem QD (x y:UInt8):IntKind.u8.wrap ((BitVec.ofInt IntKind.u8.bits (x.toNat:Int) ||| BitVec.ofInt IntKind.u8.bits (y.toNat:Int)).toNat:Int)=((x ||| y).toNat:Int):=by
 have h:=t8 (x ||| y);rw [BitVec.toNat_or,eD _ _ (t8 x),eD _ _ (t8 y),← UInt8.toNat_or,w8];omega
theorem PY (x y:UInt8):IntKind.u8.wrap ((BitVec.ofInt IntKind.u8.bits (x.toNat:Int) &&& BitVec.ofInt IntKind.u8.bits (y.toNat:Int)).toNat:Int)=((x &&& y).toNat:Int):=by
 have h:=t8 (x &&& y);rw [BitVec.toNat_and,eD _ _ (t8 x),eD _ _ (t8 y),← UInt8.toNat_and,w8];omega
theorem ML (m:Nat):IntKind.u8.wrap ((BitVec.ofInt IntKind.u8.bits ((UInt8.ofNat m).toNat:Int) ||| BitVec.ofInt IntKind.u8.bits (128:Int)).toNat:Int)=((UInt8.ofNat (m % 128 + 128)).toNat:Int):=by
 have h:=QD (UInt8.ofNat m) 128;rw [FU] at h;rw [show (UInt8.ofNat m).toNat % 128 + 128=m % 128 + 128 by rw [UInt8.toNat_ofNat'];omega] at h;exact h
theorem Ij (m:Nat):((m:Int).fdiv (2 ^ (min (7:Int).toNat IntKind.u64.bits)))=((m / 128:Nat):Int):=by
 rw [show min (7:Int).toNat IntKind.u64.bits=7 by rfl,b₆ _ (by decide)];exact(b₉ m 128).symm
theorem An {p:List UInt8} {m n:Nat} (h:p ++ bZ m=bZ n) (hm: ¬ m < 128):(p ++ [UInt8.ofNat (m % 128 + 128)]) ++ bZ (m / 128)=bZ n:=by
 rw [sk hm] at h;rw [← h,a₅];rfl
def kZ (l:List UInt8):VM:= [(0,⟨5,1,true,0,u8s l⟩)]
theorem dh: ∀(b:List UInt8),bH (u8s b) 1=true
 | [] =>rfl
 | _ :: _=>rfl
theorem D9 {p:List UInt8} {m n:Nat} (h:p ++ bZ m=bZ n) (hn:n < 18446744073709551616):p.length≤10:=by
 have:=(dv hn).2;rw [← h,a₀] at this;omega
theorem Ao (b:List UInt8) (n:Nat) (hb:b.length < 500000000) (hn:n < 18446744073709551616) :
  aL Tryz.prog G 145 [.sl b.length (u8s b), .int .u64 n] [] 0 (.ms 0 1 0 (b.length + (bZ n).length)) (kZ (b ++ bZ n)) 1:=by
 unfold kZ
 refine bU seat Tryz.func145 24 ?_
 refine ad ?_
 refine bc rfl rfl (by intro R hR;refine dZ hR ?_;refine a₁ (dh b) ?_;refine a₁ ⟨pf,aF (by kernel_rfl) pf⟩ ?_;refine⟨u8s b,sv pf,b.length,sv pf,?_⟩;exact hR) rfl ?_
 refine ad ?_
 refine ar (List UInt8×Nat) (fun x=> [(5, .ms 0 1 0 (b.length + x.1.length)),(1, .int .u64 x.2)]) (fun x=> [(0,⟨5,1,true,0,u8s (b ++ x.1)⟩)]) 1 (fun x=>x.1 ++ bZ x.2=bZ n∧x.2 < 18446744073709551616) (fun x=>x.2) ([],n) ⟨rfl,hn⟩ (by dsimp only;rw [d₇,b₂];exact(vm [(0,_)] [])) ?_
 rintro⟨p,m⟩ ⟨hp,hm1⟩
 try dsimp only
 dsimp only at hp hm1
 refine ad ?_
 refine ae rfl ?_ ?_ <;> intro h
 ·have hm: ¬ m < 128:=by have:=ot h;omega
  have h2:=An hp hm
  have l2:=D9 hp hn
  (have fct:=aX.mk (PI m);have fct:=aX.mk (ML m);have fct:=aX.mk (Ij m);refine ad ?_)
  refine bc rfl rfl (by intro R hR;refine dZ hR ?_;(refine a₁ (a₇ _) ?_;refine⟨_,rfl,?_⟩;refine a₁ ⟨(by simp [u8s]),aF (by kernel_rfl) pf⟩ ?_;refine⟨u8s (b ++ (p ++ [UInt8.ofNat (m % 128 + 128)])),sv (by simp [u8s,cutL,setL,repM]),b.length + (p.length + 1),sv pf,?_⟩);exact hR) rfl ?_
  (have fct:=aX.mk (Ij m);refine ad ?_)
  exact⟨(p ++ [UInt8.ofNat (m % 128 + 128)],m / 128),⟨h2,dm⟩,dm,by dsimp only;rw [a₀,a₆];exact(vm [(0,_)] [])⟩
 ·have hm:m < 128:=by have:=oF h;omega
  have l2:=D9 hp hn
  rw [na hm] at hp
  have l3:(bZ n).length=p.length + 1:=by rw [← hp];simp
  (have fct:=aX.mk (PI m);refine ad ?_)
  refine bc rfl rfl (by intro R hR;refine dZ hR ?_;(refine a₁ (a₇ _) ?_;refine⟨_,rfl,?_⟩;refine a₁ ⟨(by simp [u8s]),aF (by kernel_rfl) pf⟩ ?_;refine⟨u8s (b ++ bZ n),sv (by rw [← hp];simp [u8s,cutL,setL,repM]),b.length + (bZ n).length,sv pf,?_⟩);exact hR) rfl ?_
  refine ad ?_
  exact eb [_] [(0,7)] []
theorem FV (b:List UInt8) (n:Nat) (hb:b.length < 500000000) (hn:n < 18446744073709551616) :
  aL Tryz.prog G 253 [.sl b.length (u8s b), .int .u64 n] [] 0 (.ms 0 1 0 (b.length + (bZ n).length)) (kZ (b ++ bZ n)) 1:=by
 unfold kZ
 refine bU seat Tryz.func253 23 ?_
 refine ad ?_
 refine bc rfl rfl (by intro R hR;refine dZ hR ?_;refine a₁ (dh b) ?_;refine a₁ (pj (by kernel_rfl) om) ?_;exact hR) rfl ?_
 refine ad ?_
 refine ar (List UInt8×Nat) (fun x=> [(5, .ms 0 1 0 (b.length + x.1.length)),(1, .int .u64 x.2)]) (fun x=> [(0,⟨5,1,true,0,u8s (b ++ x.1)⟩)]) 1 (fun x=>x.1 ++ bZ x.2=bZ n∧x.2 < 18446744073709551616) (fun x=>x.2) ([],n) ⟨rfl,hn⟩ (by dsimp only;rw [d₇,b₂];exact(vm [(0,_)] [])) ?_
 rintro⟨p,m⟩ ⟨hp,hm1⟩
 try dsimp only
 dsimp only at hp hm1
 refine ad ?_
 refine ae rfl ?_ ?_ <;> intro h
 ·have hm: ¬ m < 128:=by have:=ot h;omega
  have h2:=An hp hm
  have l2:=D9 hp hn
  (have fct:=aX.mk (PI m);have fct:=aX.mk (ML m);have fct:=aX.mk (Ij m);refine ad ?_)
  refine bc rfl rfl (by intro R hR;refine dZ hR ?_;(refine a₁ (a₇ _) ?_;refine⟨_,rfl,?_⟩;refine a₁ ⟨(by simp [u8s]),aF (by kernel_rfl) pf⟩ ?_;refine⟨u8s (b ++ (p ++ [UInt8.ofNat (m % 128 + 128)])),sv (by simp [u8s,cutL,setL,repM]),b.length + (p.length + 1),sv pf,?_⟩);exact hR) rfl ?_
  (have fct:=aX.mk (Ij m);refine ad ?_)
  exact⟨(p ++ [UInt8.ofNat (m % 128 + 128)],m / 128),⟨h2,dm⟩,dm,by dsimp only;rw [a₀,a₆];exact(vm [(0,_)] [])⟩
 ·have hm:m < 128:=by have:=oF h;omega
  have l2:=D9 hp hn
  rw [na hm] at hp
  have l3:(bZ n).length=p.length + 1:=by rw [← hp];simp
  (have fct:=aX.mk (PI m);refine ad ?_)
  refine bc rfl rfl (by intro R hR;refine dZ hR ?_;(refine a₁ (a₇ _) ?_;refine⟨_,rfl,?_⟩;refine a₁ ⟨(by simp [u8s]),aF (by kernel_rfl) pf⟩ ?_;refine⟨u8s (b ++ bZ n),sv (by rw [← hp];simp [u8s,cutL,setL,repM]),b.length + (bZ n).length,sv pf,?_⟩);exact hR) rfl ?_
  refine ad ?_
  exact eb [_] [(0,7)] []
end
section
variable {G:GS}
attribute [local irreducible] aj aC aG aM aQ vC aY aA
theorem Cw (x:UInt8):x &&& 127=UInt8.ofNat (x.toNat % 128):=Ii (p:=fun x=>x &&& 127=UInt8.ofNat (x.toNat % 128)) (by decide +kernel) x
theorem mh (x:UInt8):IntKind.u8.wrap ((BitVec.ofInt IntKind.u8.bits (x.toNat:Int) &&& BitVec.ofInt IntKind.u8.bits (127:Int)).toNat:Int)=((x.toNat % 128:Nat):Int):=by
 have h:=PY x 127;rw [Cw,UInt8.toNat_ofNat',b₅ (show x.toNat % 128 < 2 ^ 8 by omega)] at h;exact h
theorem OT (i:Nat):2 ^ (7 * i)=128 ^ i:=by rw [Nat.pow_mul]
theorem Ea {y i:Nat} (h:i≤8∧y < 128∨i=9∧y≤1):y * 128 ^ i + 128 ^ i≤18446744073709551616:=by
 rcases h with ⟨h1,h2⟩ | ⟨rfl,h2⟩
 ·have:128 ^ i≤128 ^ 8:=Nat.pow_le_pow_right om h1;have h3:y * 128 ^ i≤127 * 128 ^ i:=a₉ _ om;omega
 ·omega
theorem Ap {y i:Nat} (h:i≤8∧y < 128∨i=9∧y≤1):IntKind.u64.wrap ((y:Int) * 2 ^ (min (7 * (i:Int)).toNat IntKind.u64.bits))=((y * 128 ^ i:Nat):Int):=by
 have e:min (7 * (i:Int)).toNat IntKind.u64.bits=7 * i:=by simp [IntKind.bits];omega
 have hb:=Ea h;have hp:0 < 128 ^ i:=Nat.pow_pos om;rw [e,wu64,show ((y:Int) * 2 ^ (7 * i))=((y * 128 ^ i:Nat):Int) by rw [← OT,Int.natCast_mul,c₇];rfl];omega
theorem MM {n y i:Nat} (hn:n < 128 ^ i) (h:i≤8∧y < 128∨i=9∧y≤1):IntKind.u64.wrap ((BitVec.ofInt IntKind.u64.bits (n:Int) ||| BitVec.ofInt IntKind.u64.bits ((y * 128 ^ i:Nat):Int)).toNat:Int)=((n + y * 128 ^ i:Nat):Int):=by
 have hb:=Ea h;have hp:0 < 128 ^ i:=Nat.pow_pos om;have e:n ||| y * 128 ^ i=n + y * 128 ^ i:=by
  rw [← OT] at hn ⊢;have:=Nat.shiftLeft_add_eq_or_of_lt hn y;rw [Nat.shiftLeft_eq] at this;rw [Nat.or_comm,← this,Nat.add_comm]
 rw [BitVec.toNat_or,eD _ _ (show n < 2 ^ IntKind.u64.bits by show n < 18446744073709551616;omega),eD _ _ (show y * 128 ^ i < 2 ^ IntKind.u64.bits by show _ < 18446744073709551616;omega),e,wu64];omega
def nI (x:Nat×Nat×Nat):MV:= .tup [.int .u64 x.1, .int .i64 x.2.1, .int .i64 x.2.2]
theorem Ik {l:List UInt8} {k:Nat} (hk:k < l.length):db (u8s l) l.length (k:Int)=some (.int .u8 l[k].toNat):=fK hk (by simp [u8s,hk])
theorem Il (b:List UInt8) (hb:b.length < 4000000000):aD Tryz.prog G 244 [.sl b.length (u8s b)] (nI (readS b 0 0)):=by
  unfold nI;generalize hr:readS b 0 0=r at *;obtain⟨r1,r2,r3⟩:=r;dsimp only;refine bf seat Tryz.func244 53 ?_;refine ad ?_;refine ar (Nat×Nat) (fun x=> [(0, .sl b.length (u8s b)),(5, .int .u64 x.2),(6, .int .i64 x.1)]) (fun _=> []) 0 (fun x=>x.1≤9∧x.1≤b.length∧x.2 < 128 ^ x.1∧readS (b.drop x.1) x.1 x.2=(r1,r2,r3)) (fun x=>b.length - x.1) (0,0) ⟨dm,dm,dm,by dsimp only;rw [c₄];exact hr⟩ (by dsimp only;exact(vm [] [])) ?_;rintro⟨i,n⟩ ⟨hi,hib,hn,hR⟩;try dsimp only
  dsimp only at hi hib hn hR;refine ad ?_;refine ae rfl ?_ ?_ <;> intro h
  · have hi':i=b.length:=by have:=ot h;omega
    rw [c₈ om,readS] at hR;simp only [a₄] at hR;obtain⟨rfl,rfl,rfl⟩:=hR;refine ad ?_;refine aw ?_;rfl
  · have hi':i < b.length:=by have:=oF h;omega
    have hel:=Ik hi';rw [List.drop_eq_getElem_cons hi',readS] at hR;generalize b[i] =x at *;have hx256:=x.toNat_lt;refine ad ?_;refine ah rfl rfl ?_ rfl ?_ <;> intro h
    · have h9:i=9:=by
        have:(i:Int)=9:=by simpa using h
        omega
      (have fct:=al.mk (hel);refine ad ?_);refine ae rfl ?_ ?_ <;> intro h
      · have hx:=ot h;rw [if_pos om] at hR;simp only [a₄] at hR;obtain⟨rfl,rfl,rfl⟩:=hR;refine ad ?_;refine aw ?_;rfl
      · have hx:=oF h;rw [if_neg om] at hR;refine ad ?_;refine ah rfl rfl ?_ rfl ?_ <;> intro h
        · have h0:=ot h;(have fct:=al.mk (hel);refine ad ?_);refine ae rfl ?_ ?_ <;> intro h
          · have hx:x.toNat=0:=by simpa using h
            rw [if_pos om] at hR;simp only [a₄] at hR;obtain⟨rfl,rfl,rfl⟩:=hR;refine ad ?_;refine aw ?_;rfl
          · have hx:x.toNat≠0:=by simpa using h
            rw [if_neg om] at hR;have hv:i≤8∧x.toNat % 128 < 128∨i=9∧x.toNat % 128≤1:=om;(have fct:=aX.mk (mh x);have fct:=aX.mk (Ap hv);have fct:=aX.mk (MM hn hv);have fct:=al.mk (hel);refine ad ?_);refine ae rfl ?_ ?_ <;> intro h
            · have hx:=ot h;rw [if_pos om] at hR;simp only [a₄] at hR;obtain⟨rfl,rfl,rfl⟩:=hR;refine ad ?_;refine aw ?_;rw [b₅ (show x.toNat < 128 by omega)];rfl
            · have hx:=oF h;rw [if_neg om] at hR;refine ad ?_;refine⟨(i + 1,n + x.toNat % 128 * 128 ^ i),⟨dm,dm,?_,?_⟩,by show b.length - (i + 1) < b.length - i;omega,(by dsimp only;exact(vm [] []))⟩
              · have h3:x.toNat % 128 * 128 ^ i≤127 * 128 ^ i:=a₉ _ om;dsimp only;rw [c₆];omega
              · dsimp only;rw [show x.toNat % 128=x.toNat - 128 by omega];exact hR
        · have h0: ¬ (0:Int) < i:=by simpa using h
          rw [if_neg om] at hR;have hv:i≤8∧x.toNat % 128 < 128∨i=9∧x.toNat % 128≤1:=om;(have fct:=aX.mk (mh x);have fct:=aX.mk (Ap hv);have fct:=aX.mk (MM hn hv);have fct:=al.mk (hel);refine ad ?_);refine ae rfl ?_ ?_ <;> intro h
          · have hx:=ot h;rw [if_pos om] at hR;simp only [a₄] at hR;obtain⟨rfl,rfl,rfl⟩:=hR;refine ad ?_;refine aw ?_;rw [b₅ (show x.toNat < 128 by omega)];rfl
          · have hx:=oF h;rw [if_neg om] at hR;refine ad ?_;refine⟨(i + 1,n + x.toNat % 128 * 128 ^ i),⟨dm,dm,?_,?_⟩,by show b.length - (i + 1) < b.length - i;omega,(by dsimp only;exact(vm [] []))⟩
            · have h3:x.toNat % 128 * 128 ^ i≤127 * 128 ^ i:=a₉ _ om;dsimp only;rw [c₆];omega
            · dsimp only;rw [show x.toNat % 128=x.toNat - 128 by omega];exact hR
    · have h9:i≠9:=by
        have: ¬ (i:Int)=9:=by simpa using h
        omega
      rw [if_neg om] at hR;refine ad ?_;refine ah rfl rfl ?_ rfl ?_ <;> intro h
      · have h0:=ot h;(have fct:=al.mk (hel);refine ad ?_);refine ae rfl ?_ ?_ <;> intro h
        · have hx:x.toNat=0:=by simpa using h
          rw [if_pos om] at hR;simp only [a₄] at hR;obtain⟨rfl,rfl,rfl⟩:=hR;refine ad ?_;refine aw ?_;rfl
        · have hx:x.toNat≠0:=by simpa using h
          rw [if_neg om] at hR;have hv:i≤8∧x.toNat % 128 < 128∨i=9∧x.toNat % 128≤1:=om;(have fct:=aX.mk (mh x);have fct:=aX.mk (Ap hv);have fct:=aX.mk (MM hn hv);have fct:=al.mk (hel);refine ad ?_);refine ae rfl ?_ ?_ <;> intro h
          · have hx:=ot h;rw [if_pos om] at hR;simp only [a₄] at hR;obtain⟨rfl,rfl,rfl⟩:=hR;refine ad ?_;refine aw ?_;rw [b₅ (show x.toNat < 128 by omega)];rfl
          · have hx:=oF h;rw [if_neg om] at hR;refine ad ?_;refine⟨(i + 1,n + x.toNat % 128 * 128 ^ i),⟨dm,dm,?_,?_⟩,by show b.length - (i + 1) < b.length - i;omega,(by dsimp only;exact(vm [] []))⟩
            · have h3:x.toNat % 128 * 128 ^ i≤127 * 128 ^ i:=a₉ _ om;dsimp only;rw [c₆];omega
            · dsimp only;rw [show x.toNat % 128=x.toNat - 128 by omega];exact hR
      · have h0: ¬ (0:Int) < i:=by simpa using h
        rw [if_neg om] at hR;have hv:i≤8∧x.toNat % 128 < 128∨i=9∧x.toNat % 128≤1:=om;(have fct:=aX.mk (mh x);have fct:=aX.mk (Ap hv);have fct:=aX.mk (MM hn hv);have fct:=al.mk (hel);refine ad ?_);refine ae rfl ?_ ?_ <;> intro h
        · have hx:=ot h;rw [if_pos om] at hR;simp only [a₄] at hR;obtain⟨rfl,rfl,rfl⟩:=hR;refine ad ?_;refine aw ?_;rw [b₅ (show x.toNat < 128 by omega)];rfl
        · have hx:=oF h;rw [if_neg om] at hR;refine ad ?_;refine⟨(i + 1,n + x.toNat % 128 * 128 ^ i),⟨dm,dm,?_,?_⟩,by show b.length - (i + 1) < b.length - i;omega,(by dsimp only;exact(vm [] []))⟩
          · have h3:x.toNat % 128 * 128 ^ i≤127 * 128 ^ i:=a₉ _ om;dsimp only;rw [c₆];omega
          · dsimp only;rw [show x.toNat % 128=x.toNat - 128 by omega];exact hR
end
section
variable {G:GS}
attribute [local irreducible] aj aC aG aM aQ vC aY aA
def dz (f:fR):MV:= .st [.int .i64 f.num, .int .i64 f.kind, .int .u64 f.val, .sl f.bytes.length (u8s f.bytes)]
theorem cut_u8 (b:List UInt8) (x y:Nat):cutL (u8s b) x y=u8s ((b.drop x).take (y - x)):=by simp [cutL,u8s]
theorem Aq (b:List UInt8) (x y:Nat):bH (cutL (u8s b) x y) 1=true:=by rw [cut_u8];exact dh _
theorem gJ {n k:Nat} {κ:IntKind} (h:k≤n):cI n (some (.int κ (k:Int))) none=some (k,n):=by
 unfold cI;dsimp only;rw [if_pos ⟨om,om⟩];simp
theorem mj {n k:Nat} {κ:IntKind} (h:k≤n):cI n none (some (.int κ (k:Int)))=some (0,k):=by
 unfold cI;dsimp only;rw [if_pos ⟨om,om⟩];simp
theorem Nu {n lo hi:Nat} {a c:Int} {κ κ':IntKind} (ha:a=lo) (hc:c=hi) (h1:lo≤hi) (h2:hi≤n):cI n (some (.int κ a)) (some (.int κ' c))=some (lo,hi):=by
 subst ha hc;unfold cI;dsimp only;rw [if_pos ⟨om,om⟩];dsimp only;rw [if_pos ⟨om,by simp;omega⟩];simp
theorem MN (a b:Nat):(a:Int).tmod (b:Int)=((a % b:Nat):Int):=by
 rw [Int.tmod_eq_emod_of_nonneg om];exact(b₈ a b).symm
theorem Ar {a:Nat} (b:Nat) (ha:a < 18446744073709551616):IntKind.u64.wrap ((a:Int).tdiv (b:Int))=((a / b:Nat):Int):=by
 have:=d₈ a b;rw [Int.tdiv_eq_ediv_of_nonneg om,← b₉,wu64];generalize a / b=c at *;omega
theorem Im {b:List UInt8} (hb:b.length < 4000000000) {n:Nat} {r:Nat×Nat×Nat} (h:readS (b.drop n) 0 0=r):aD Tryz.prog G 244 [.sl (b.length - n) (cutL (u8s b) n b.length)] (nI r):=by
 have:=Il (G:=G) (b.drop n) (by rw [a₃];omega);rw [h,a₃] at this;rw [cut_u8,b₀ (by rw [a₃];omega)];exact this
theorem OU (b:List UInt8) (hb:b.length < 1000000000):aL Tryz.prog G 217 [.sl b.length (u8s b)] [] 0 (.tup [dz (eW b).1, .int .i64 (eW b).2.1, .int .i64 (eW b).2.2]) [] 0:=by
  have c1:=Il (G:=G) b om;have h1ok:=kY b 0 0 om om;generalize hr:eW b=r at *;obtain⟨f,m,e⟩:=r;have hR:=hr;unfold eW at hR;generalize readS b 0 0=t at *;obtain⟨T,n,e1⟩:=t;dsimp only at hR h1ok;unfold nI at c1;unfold dz;dsimp only at c1;dsimp only;refine bU seat Tryz.func217 98 ?_;refine ad ?_;refine bL (c1) ?_;refine ae rfl ?_ ?_ <;> intro h
  · have he1:e1≠0:=by intro h0;subst h0;cases h
    rw [if_pos he1] at hR;simp only [a₄] at hR;obtain⟨rfl,rfl,rfl⟩:=hR;refine ad ?_;refine aw ?_;exact en [_,_,_]
  have he1:e1=0:=by
    have:(e1:Int)=0:=by simpa using h
    omega
  subst he1;have hT:=(h1ok rfl).2.2;rw [if_neg sm] at hR;have hmod:(T:Int).tmod 8=((T % 8:Nat):Int):=MN T 8;have hdiv:IntKind.u64.wrap ((T:Int).tdiv 8)=((T / 8:Nat):Int):=Ar 8 hT;have h2ok:=kY (b.drop n) 0 0 om om;generalize hr2:readS (b.drop n) 0 0=t2 at *;obtain⟨v,k,e2⟩:=t2;have c2:=Im (G:=G) (b:=b) om hr2;unfold nI at c2;dsimp only at hR c2 h2ok;generalize hD:T / 8=D at *;generalize hK:T % 8=K at *;(have fct:=aX.mk (hmod);have fct:=aX.mk (hdiv);refine ad ?_);refine ah rfl rfl ?_ rfl ?_ <;> intro h
  · have hD1: ¬ (D:Int) < 1:=by simpa using h
    (have fct:=aX.mk (hdiv);refine ad ?_);refine ah rfl rfl ?_ rfl ?_ <;> intro h
    · have hD3: ¬ (536870911:Int) < D:=by simpa using h
      refine ad ?_;refine ah rfl rfl ?_ rfl ?_ <;> intro h
      · have hK0:K≠0:=by
          have: ¬ (K:Int)=0:=by simpa using h
          omega
        refine ad ?_;refine ae rfl ?_ ?_ <;> intro h
        · have hK2:K≠2:=by
            have: ¬ (K:Int)=2:=by simpa using h
            omega
          rw [if_pos om] at hR;simp only [a₄] at hR;obtain⟨rfl,rfl,rfl⟩:=hR;refine ad ?_;refine aw ?_;exact en [_,_,_]
        have hK2:K=2:=by
          have:(K:Int)=2:=by simpa using h
          omega
        subst hK2;rw [if_neg om] at hR;have hD2:IntKind.u64.wrap ((T:Int).tdiv 8)=(D:Int):=hdiv;have hnb:n≤b.length:=by have:=h1ok rfl;omega
        (have fct:=aX.mk (hdiv);have fct:=al.mk (gJ (κ:= .i64) hnb);have fct:=bJ.mk (dh b);refine ad ?_);refine bL (c2) ?_;refine ae rfl ?_ ?_ <;> intro h
        · have he2:e2≠0:=by intro h0;subst h0;cases h
          rw [if_pos he2] at hR;simp only [a₄] at hR;obtain⟨rfl,rfl,rfl⟩:=hR;refine ad ?_;refine aw ?_;exact en [_,_,_]
        have he2:e2=0:=by
          have:(e2:Int)=0:=by simpa using h
          omega
        subst he2;have hk:=h2ok rfl;rw [a₃] at hk;rw [if_neg sm] at hR;rw [if_neg om] at hR;refine ad ?_;refine ae rfl ?_ ?_ <;> intro h
        · have hv:=ot h;rw [if_pos om] at hR;simp only [a₄] at hR;obtain⟨rfl,rfl,rfl⟩:=hR;refine ad ?_;refine aw ?_;exact en [_,_,_]
        have hv:=oF h;rw [if_neg om] at hR;simp only [a₄] at hR;obtain⟨rfl,rfl,rfl⟩:=hR;have hbn:cI b.length (some (.int .i64 ((n:Int) + k))) (some (.int .i64 ((n:Int) + k + v)))=some (n + k,n + k + v):=Nu om om om om;have hl:((b.drop (n + k)).take v).length=v:=by rw [c₀,a₃];omega
        (have fct:=al.mk (hbn);have fct:=bJ.mk (dh b);refine ad ?_);refine bc rfl rfl (by intro R hR;refine dZ hR ?_;refine a₁ (Aq b _ _) ?_;refine a₁ ⟨sm,aF (by kernel_rfl) pf⟩ ?_;refine⟨u8s ((b.drop (n + k)).take v),sv (by rw [cut_u8,show n + k + v - (n + k)=v by omega];simp),v,sv pf,?_⟩;exact hR) rfl ?_;refine ad ?_;refine aw ?_;rw [show ((n + k + v:Nat):Int)=(n:Int) + k + v by omega];dsimp only;rw [hl];refine⟨[_,_,_],[],[(75,v)],rfl,rfl,?_,rfl,⟨?_,?_,?_,trivial⟩,?_⟩
        · exact⟨by show v≤(u8s ((b.drop (n + k)).take v)).length;rw [show (u8s ((b.drop (n + k)).take v)).length=v by simp only [u8s,c₂];exact hl];exact a₇ _,trivial⟩
        · exact .inr ⟨_,rfl,⟨rfl,rfl⟩,⟨rfl,rfl⟩,⟨rfl,rfl⟩, .inr ⟨rfl,rfl,rfl,d₁ (d₂ _),by simp [cutL,u8s,List.take_take]⟩,trivial⟩
        · exact rv
        · exact rv
        · exact mm
      · have hK0:K=0:=by
          have:(K:Int)=0:=by simpa using h
          omega
        subst hK0;rw [if_neg om] at hR;have hD2:IntKind.u64.wrap ((T:Int).tdiv 8)=(D:Int):=hdiv;have hnb:n≤b.length:=by have:=h1ok rfl;omega
        (have fct:=aX.mk (hdiv);have fct:=al.mk (gJ (κ:= .i64) hnb);have fct:=bJ.mk (dh b);refine ad ?_);refine bL (c2) ?_;refine ae rfl ?_ ?_ <;> intro h
        · have he2:e2≠0:=by intro h0;subst h0;cases h
          rw [if_pos he2] at hR;simp only [a₄] at hR;obtain⟨rfl,rfl,rfl⟩:=hR;refine ad ?_;refine aw ?_;exact en [_,_,_]
        have he2:e2=0:=by
          have:(e2:Int)=0:=by simpa using h
          omega
        subst he2;have hk:=h2ok rfl;rw [a₃] at hk;rw [if_neg sm] at hR;rw [if_pos rfl] at hR;simp only [a₄] at hR;obtain⟨rfl,rfl,rfl⟩:=hR;refine ad ?_;refine aw ?_;exact en [_,_,_]
    · have hD3:(536870911:Int) < D:=by simpa using h
      rw [if_pos om] at hR;refine ad ?_;simp only [a₄] at hR;obtain⟨rfl,rfl,rfl⟩:=hR;refine ad ?_;refine aw ?_;exact en [_,_,_]
  · have hD1:(D:Int) < 1:=by simpa using h
    rw [if_pos om] at hR;refine ad ?_;simp only [a₄] at hR;obtain⟨rfl,rfl,rfl⟩:=hR;refine ad ?_;refine aw ?_;exact en [_,_,_]
end
section
variable {G:GS}
attribute [local irreducible] aj aC aG aM aQ vC aY aA
theorem Lq {b:List UInt8} (hb:b.length < 1000000000) {n:Nat}:aL Tryz.prog G 217 [.sl (b.length - n) (cutL (u8s b) n b.length)] [] 0 (.tup [dz (eW (b.drop n)).1, .int .i64 (eW (b.drop n)).2.1, .int .i64 (eW (b.drop n)).2.2]) [] 0:=by
 have:=OU (G:=G) (b.drop n) (by rw [a₃];omega);rw [a₃] at this;rw [cut_u8,b₀ (by rw [a₃];omega)];exact this
theorem ml (k at_:Nat) (acc:List fR):fh k [] at_ acc=(acc,0,0):=by cases k <;> rfl
theorem k7 {b:List UInt8} (h:b≠ []) (at_:Nat) (acc:List fR):fh 0 b at_ acc=([],at_,3):=by
 cases b with
 | nil=>exact absurd rfl h
 | cons x b=>rfl
theorem k8 {b:List UInt8} (h:b≠ []) (k at_:Nat) (acc:List fR):fh (k + 1) b at_ acc=if (eW b).2.2≠0 then([],at_,(eW b).2.2) else fh k (b.drop (eW b).2.1) (at_ + (eW b).2.1) (acc ++ [(eW b).1]):=by
 cases b with
 | nil=>exact absurd rfl h
 | cons x b=>rw [fh]
theorem Eb {b:List UInt8} {n:Nat} (h:n < b.length):b.drop n≠ [] :=by
 intro h0;have:=congrArg List.length h0;rw [a₃] at this;simp at this;omega
theorem As (b:List UInt8) (hb:b.length < 1000000000):aL Tryz.prog G 171 [.sl b.length (u8s b)] [] 0 (.tup [.sl (aH b).1.length ((aH b).1.map dz), .int .i64 (aH b).2.1, .int .i64 (aH b).2.2]) [] 0:=by
  generalize hr:aH b=r;obtain⟨l,at1,e1⟩:=r;dsimp only;refine bU seat Tryz.func171 38 ?_;refine ad ?_;refine ar (Nat×List fR) (fun x=> [(6, .int .i64 x.1),(5, .ms 0 4 0 x.2.length),(0, .sl b.length (u8s b))]) (fun x=> [(0,⟨188,4,true,0,x.2.map dz⟩)]) 1 (fun x=>x.1≤b.length∧x.2.length≤1024∧fh (1024 - x.2.length) (b.drop x.1) x.1 x.2=(l,at1,e1)) (fun x=>b.length - x.1) (0,[]) ⟨a₈ _,a₈ _,by dsimp only;rw [c₄];exact hr⟩ (by dsimp only;exact(vm [] [])) ?_;rintro⟨i,acc⟩ ⟨hi,ha,hG⟩;try dsimp only
  dsimp only at hi ha hG;refine ad ?_;refine ae rfl ?_ ?_ <;> intro h
  · have hi':i < b.length:=by have:=ot h;omega
    have hne:=Eb hi';refine ad ?_;refine ae rfl ?_ ?_ <;> intro h
    · have h4:acc.length=1024:=by have:=ot h;omega
      rw [h4,Nat.sub_self,k7 hne] at hG;simp only [a₄] at hG;obtain⟨rfl,rfl,rfl⟩:=hG;refine ad ?_;exact en [_,_,_]
    · have h4:acc.length < 1024:=by have:=oF h;omega
      have c1:=Lq (G:=G) hb (n:=i);have hok:=Cv (b:=b.drop i);rw [show 1024 - acc.length=(1023 - acc.length) + 1 by omega,k8 hne] at hG;generalize eW (b.drop i)=o at *;obtain⟨f,m,e⟩:=o;dsimp only at c1 hok hG;(have fct:=al.mk (gJ (κ:= .i64) hi);have fct:=bJ.mk (dh b);refine ad ?_);refine kX (c1) ?_;refine ae rfl ?_ ?_ <;> intro h
      · have he:e≠0:=by intro h0;subst h0;cases h
        rw [if_pos he] at hG;simp only [a₄] at hG;obtain⟨rfl,rfl,rfl⟩:=hG;refine ad ?_;exact en [_,_,_]
      · have he:e=0:=by
          have:(e:Int)=0:=by simpa using h
          omega
        subst he;rw [if_neg sm,c₉] at hG;have hok:=hok rfl;rw [a₃] at hok;refine ad ?_;refine bc rfl rfl (by intro R hR;refine dZ hR ?_;(refine a₁ (a₇ _) ?_;refine⟨_,rfl,?_⟩;refine a₁ ⟨sm,aF (by kernel_rfl) pf⟩ ?_;refine⟨(acc ++ [f]).map dz,sv (by simp;rfl),acc.length + 1,sv pf,?_⟩);exact hR) rfl ?_;refine ad ?_;refine⟨(i + m,acc ++ [f]),⟨dm,by dsimp only;rw [a₀,a₆];omega,?_⟩,by show b.length - (i + m) < b.length - i;omega,?_⟩
        · dsimp only;rw [a₀,a₆,show 1024 - (acc.length + 1)=1023 - acc.length by omega];exact hG
        · dsimp only;rw [a₀,a₆];exact(vm [(0,_)] [])
  · have hi':b.length≤i:=by have:=oF h;omega
    rw [c₈ hi',ml] at hG;simp only [a₄] at hG;obtain⟨rfl,rfl,rfl⟩:=hG;refine ad ?_;refine⟨[_,_,_],[],[(0,acc.length)],rfl,rfl,?_,rfl,⟨?_,?_,?_,trivial⟩,?_⟩
    · exact⟨by show acc.length≤(acc.map dz).length;simp,trivial⟩
    · exact .inr ⟨rfl,rfl,rfl,d₁ (d₂ _),bV dz acc⟩
    · exact rv
    · exact rv
    · exact mm
end
section
variable {G:GS}
attribute [local irreducible] aj aC aG aM aQ vC aY aA
theorem Au {f:fR} (h:f.kind=0):bT f=bZ (f.num * 8 + f.kind) ++ bZ f.val:=by unfold bT;rw [if_pos h]
theorem Av {f:fR} (h:f.kind=2):bT f=bZ (f.num * 8 + f.kind) ++ (bZ f.bytes.length ++ f.bytes):=by unfold bT;rw [if_neg om]
theorem Lr (f:fR) (hf:jM f):aD Tryz.prog G 190 [dz f] (.bool true):=by
 obtain⟨num,kind,val,bytes⟩:=f;obtain⟨h1,h2,h3⟩:=hf;dsimp only at h1 h2 h3;unfold dz;dsimp only;refine bf seat Tryz.func190 30 ?_;refine ad ?_;refine ah rfl rfl ?_ rfl ?_ <;> intro h
 rotate_left
 ·exfalso;have:(num:Int) < 1:=by simpa using h
  omega
 refine ad ?_;refine ae rfl ?_ ?_ <;> intro h
 ·exfalso;have:=ot h;omega
 rcases h3 with ⟨rfl,rfl,hv⟩ | ⟨rfl,rfl,hv⟩
 ·refine ad ?_;refine aw ?_;rfl
 ·refine ad ?_;refine aw ?_;rfl
theorem Io (f:fR) (hf:jM f):aD Tryz.prog G 252 [dz f] (.bool true):=by
 obtain⟨num,kind,val,bytes⟩:=f;obtain⟨h1,h2,h3⟩:=hf;dsimp only at h1 h2 h3;unfold dz;dsimp only;refine bf seat Tryz.func252 30 ?_;refine ad ?_;refine ah rfl rfl ?_ rfl ?_ <;> intro h
 rotate_left
 ·exfalso;have:(num:Int) < 1:=by simpa using h
  omega
 refine ad ?_;refine ae rfl ?_ ?_ <;> intro h
 ·exfalso;have:=ot h;omega
 rcases h3 with ⟨rfl,rfl,hv⟩ | ⟨rfl,rfl,hv⟩
 ·refine ad ?_;refine aw ?_;rfl
 ·refine ad ?_;refine aw ?_;rfl
theorem Nv (f:fR) (hf:jM f):aD Tryz.prog G 254 [dz f] (.int .u64 ((f.num * 8 + f.kind:Nat):Int)):=by
 obtain⟨num,kind,val,bytes⟩:=f;obtain⟨h1,h2,h3⟩:=hf;dsimp only at h1 h2 h3;unfold dz;dsimp only;refine bf seat Tryz.func254 10 ?_;refine ad ?_;refine aw ?_;exact congrArg (MV.int .u64) om
theorem tU (b:List UInt8) (n:Nat) (hb:b.length < 500000000) (hn:n < 18446744073709551616) :
  aL Tryz.prog G 145 [.sl b.length (u8s b), .int .u64 n] [] 0 (.ms 0 1 0 (b ++ bZ n).length) (kZ (b ++ bZ n)) 1:=by
 rw [a₀];exact Ao b n hb hn
theorem qt (b:List UInt8) (n:Nat) (hb:b.length < 500000000) (hn:n < 18446744073709551616) :
  aL Tryz.prog G 253 [.sl b.length (u8s b), .int .u64 n] [] 0 (.ms 0 1 0 (b ++ bZ n).length) (kZ (b ++ bZ n)) 1:=by
 rw [a₀];exact FV b n hb hn
theorem Ls (b:List UInt8) (f:fR) (hf:jM f) (hb:b.length + f.bytes.length < 400000000) :
  aL Tryz.prog G 158 [.sl b.length (u8s b),dz f] [] 0 (.tup [.ms 0 1 0 (b ++ bT f).length, .int .i64 0]) (kZ (b ++ bT f)) 1:=by
 have hr:=Lr (G:=G) f hf
 obtain⟨num,kind,val,bytes⟩:=f
 obtain⟨h1,h2,h3⟩:=hf
 dsimp only at h1 h2 h3
 have l1:=dv (n:=num * 8 + kind) om
 have c1:=tU (G:=G) b (num * 8 + kind) (by dsimp only at hb;omega) om
 have e0:=Au (f:=⟨num,kind,val,bytes⟩)
 have e2:=Av (f:=⟨num,kind,val,bytes⟩)
 unfold kZ at *
 unfold dz at *
 dsimp only at hr hb e0 e2
 dsimp only
 generalize hp:b ++ bZ (num * 8 + kind)=p at *
 refine bU seat Tryz.func158 36 ?_
 refine ad ?_
 refine yv (hr) ?_
 have hpl:p.length≤b.length + 10:=by rw [← hp,a₀];omega
 refine ad ?_
 refine yc (c1) [] ?_
 refine ad ?_
 rcases h3 with ⟨rfl,rfl,hv⟩ | ⟨rfl,rfl,hv⟩
 ·have c2:=tU (G:=G) p val om hv
  rw [e0 rfl,← a₅,hp]
  unfold kZ at c2
  generalize p ++ bZ val=q at *
  refine ad ?_
  refine bR rfl (fun _ h=>h) rfl (c2) [] [(14,p.length)] ⟨rfl,mm,rfl,lm,mm⟩ rfl rfl ?_
  refine ad ?_
  exact eb [_,_] [(0,22)] []
 ·have c2:=tU (G:=G) p bytes.length om hv
  rw [e2 rfl,← a₅,hp,← a₅]
  have hql:(p ++ bZ bytes.length).length≤p.length + 10:=by rw [a₀];have:=(dv hv).2;omega
  unfold kZ at c2
  generalize p ++ bZ bytes.length=q at *
  refine ad ?_
  refine av [ag 0,ag 1,ag 2,ag 3,ag 4,da 5,ag 6,ag 7,ag 8,ag 9,ag 10] ?_
  refine ad ?_
  refine bB rfl (fun _ h=>h) rfl [14] (c2) [] [(14,p.length)] ⟨rfl,mm,rfl,lm,mm⟩ rfl rfl rfl rfl rfl ?_
  refine ad ?_
  refine bQ rfl (by intro R hR;refine dZ hR ?_;refine a₁ (dh bytes) ?_;refine a₁ ⟨(by simp [u8s]),aF (by kernel_rfl) pf⟩ ?_;refine⟨u8s (q ++ bytes),sv (by simp [u8s]),(q ++ bytes).length,sv pf,?_⟩;exact hR) rfl ?_
  refine ad ?_
  exact eb [_,_] [(0,27)] []
theorem Ip (b:List UInt8) (f:fR) (hf:jM f) (hb:b.length + f.bytes.length < 400000000) :
  aL Tryz.prog G 247 [.sl b.length (u8s b),dz f] [] 0 (.tup [.ms 0 1 0 (b ++ bT f).length, .int .i64 0]) (kZ (b ++ bT f)) 1:=by
 have hr:=Io (G:=G) f hf
 have ht:=Nv (G:=G) f hf
 obtain⟨num,kind,val,bytes⟩:=f
 obtain⟨h1,h2,h3⟩:=hf
 dsimp only at h1 h2 h3
 have l1:=dv (n:=num * 8 + kind) om
 have c1:=qt (G:=G) b (num * 8 + kind) (by dsimp only at hb;omega) om
 have e0:=Au (f:=⟨num,kind,val,bytes⟩)
 have e2:=Av (f:=⟨num,kind,val,bytes⟩)
 unfold kZ at *
 unfold dz at *
 dsimp only at hr ht hb e0 e2
 dsimp only
 generalize hp:b ++ bZ (num * 8 + kind)=p at *
 refine bU seat Tryz.func247 30 ?_
 refine ad ?_
 refine bL (hr) ?_
 refine yv (ht) ?_
 have hpl:p.length≤b.length + 10:=by rw [← hp,a₀];omega
 refine ad ?_
 refine yc (c1) [] ?_
 refine ad ?_
 rcases h3 with ⟨rfl,rfl,hv⟩ | ⟨rfl,rfl,hv⟩
 ·have c2:=qt (G:=G) p val om hv
  rw [e0 rfl,← a₅,hp]
  unfold kZ at c2
  generalize p ++ bZ val=q at *
  refine ad ?_
  refine bR rfl (fun _ h=>h) rfl (c2) [] [(7,p.length)] ⟨rfl,mm,rfl,lm,mm⟩ rfl rfl ?_
  refine ad ?_
  exact eb [_,_] [(0,15)] []
 ·have c2:=qt (G:=G) p bytes.length om hv
  rw [e2 rfl,← a₅,hp,← a₅]
  have hql:(p ++ bZ bytes.length).length≤p.length + 10:=by rw [a₀];have:=(dv hv).2;omega
  unfold kZ at c2
  generalize p ++ bZ bytes.length=q at *
  refine ad ?_
  refine av [ag 0,ag 1,ag 2,ag 3,ag 4,da 5,ag 6,ag 7,ag 8,ag 9,ag 10] ?_
  refine ad ?_
  refine bB rfl (fun _ h=>h) rfl [7] (c2) [] [(7,p.length)] ⟨rfl,mm,rfl,lm,mm⟩ rfl rfl rfl rfl rfl ?_
  refine ad ?_
  refine bQ rfl (by intro R hR;refine dZ hR ?_;refine a₁ (dh bytes) ?_;refine a₁ ⟨(by simp [u8s]),aF (by kernel_rfl) pf⟩ ?_;refine⟨u8s (q ++ bytes),sv (by simp [u8s]),(q ++ bytes).length,sv pf,?_⟩;exact hR) rfl ?_
  refine ad ?_
  exact eb [_,_] [(0,20)] []
end
section
variable {G:GS}
structure W8 where
 a:UInt32
 b:UInt32
 c:UInt32
 d:UInt32
 e:UInt32
 f:UInt32
 g:UInt32
 h:UInt32
def W8.toM (s:W8):MV:= .arr 8 1 [dH s.a,dH s.b,dH s.c,dH s.d,dH s.e,dH s.f,dH s.g,dH s.h]
def gK (x:UInt32) (n:Nat):UInt32:=(x >>> UInt32.ofNat n) ||| (x <<< UInt32.ofNat (32 - n))
def kL:List UInt32:= [1116352408,1899447441,3049323471,3921009573,961987163,1508970993,2453635748,2870763221,3624381080,310598401,607225278,1426881987,1925078388,2162078206,2614888103,3248222580,3835390401,4022224774,264347078,604807628,770255983,1249150122,1555081692,1996064986,2554220882,2821834349,2952996808,3210313671,3336571891,3584528711,113926993,338241895,666307205,773529912,1294757372,1396182291,1695183700,1986661051,2177026350,2456956037,2730485921,2820302411,3259730800,3345764771,3516065817,3600352804,4094571909,275423344,430227734,506948616,659060556,883997877,958139571,1322822218,1537002063,1747873779,1955562222,2024104815,2227730452,2361852424,2428436474,2756734187,3204031479,3329325298]
def wsM (l:List UInt32):MV:= .arr 64 1 (l.map dH)
def QE (b:List UInt8) (k:Nat):UInt32:=(b.getD (4 * k) 0).toUInt32 <<< UInt32.ofNat 24 ||| (b.getD (4 * k + 1) 0).toUInt32 <<< UInt32.ofNat 16 ||| (b.getD (4 * k + 2) 0).toUInt32 <<< UInt32.ofNat 8 ||| (b.getD (4 * k + 3) 0).toUInt32
def tV (b:List UInt8):Nat→List UInt32
 | 0=>a₂ 64 0
 | t + 1=>(tV b t).set t (QE b t)
def OV (l:List UInt32) (t:Nat):UInt32:=
 (gK (l.getD (t - 2) 0) 17 ^^^ gK (l.getD (t - 2) 0) 19 ^^^ l.getD (t - 2) 0 >>> UInt32.ofNat 10) + l.getD (t - 7) 0 + (gK (l.getD (t - 15) 0) 7 ^^^ gK (l.getD (t - 15) 0) 18 ^^^ l.getD (t - 15) 0 >>> UInt32.ofNat 3) + l.getD (t - 16) 0
def nJ (b:List UInt8):Nat→List UInt32
 | 0=>tV b 16
 | t + 1=>(nJ b t).set (16 + t) (OV (nJ b t) (16 + t))
theorem nd (b:List UInt8): ∀t,(tV b t).length=64
 | 0=>by simp [tV]
 | t + 1=>by simp [tV,nd b t]
theorem ko (b:List UInt8): ∀t,(nJ b t).length=64
 | 0=>nd b 16
 | t + 1=>by simp [nJ,ko b t]
def Lt (k w:UInt32) (s:W8):UInt32:=s.h + (gK s.e 6 ^^^ gK s.e 11 ^^^ gK s.e 25) + (s.e &&& s.f ^^^ ~~~s.e &&& s.g) + k + w
def OW (s:W8):UInt32:=(gK s.a 2 ^^^ gK s.a 13 ^^^ gK s.a 22) + (s.a &&& s.b ^^^ s.a &&& s.c ^^^ s.b &&& s.c)
def Cx (k w:UInt32) (s:W8):W8:=⟨Lt k w s + OW s,s.a,s.b,s.c,s.d + Lt k w s,s.e,s.f,s.g⟩
def jm (k w:List UInt32) (s:W8):Nat→W8
 | 0=>s
 | t + 1=>Cx (k.getD t 0) (w.getD t 0) (jm k w s t)
def FW (h s:W8):Nat→W8
 | 0=>h
 | 1=>⟨h.a + s.a,h.b,h.c,h.d,h.e,h.f,h.g,h.h⟩
 | 2=>⟨h.a + s.a,h.b + s.b,h.c,h.d,h.e,h.f,h.g,h.h⟩
 | 3=>⟨h.a + s.a,h.b + s.b,h.c + s.c,h.d,h.e,h.f,h.g,h.h⟩
 | 4=>⟨h.a + s.a,h.b + s.b,h.c + s.c,h.d + s.d,h.e,h.f,h.g,h.h⟩
 | 5=>⟨h.a + s.a,h.b + s.b,h.c + s.c,h.d + s.d,h.e + s.e,h.f,h.g,h.h⟩
 | 6=>⟨h.a + s.a,h.b + s.b,h.c + s.c,h.d + s.d,h.e + s.e,h.f + s.f,h.g,h.h⟩
 | 7=>⟨h.a + s.a,h.b + s.b,h.c + s.c,h.d + s.d,h.e + s.e,h.f + s.f,h.g + s.g,h.h⟩
 | _=>⟨h.a + s.a,h.b + s.b,h.c + s.c,h.d + s.d,h.e + s.e,h.f + s.f,h.g + s.g,h.h + s.h⟩
def oe (h:W8) (b:List UInt8):W8:=FW h (jm kL (nJ b 48) h 64) 8
theorem iB {l:List MV} {n:Nat} {j:Int} {x:MV} (k:Nat) (hj:j=k) (hk:k < n) (hx:l[k]? =some x):db l n j=some x:=by
 subst hj;exact fK hk hx
theorem fZ {n:Nat} {j:Int} (k:Nat) (hj:j=k) (hk:k < n):DC n j=some k:=by
 subst hj;exact cB hk
theorem nK {b:List UInt8} {k:Nat} (h:k < b.length):(u8s b)[k]? =some (Ln (b.getD k 0)):=by simp [u8s,h]
theorem iO {l:List UInt32} {k:Nat} (h:k < l.length):fE (wsM l) ([] ++ [k]) (0 + k * 1)=some (dH (l.getD k 0)):=by
 show(match bK (l.map dH) k with | some m=>bif c₅ (k * 1) (0 + k * 1) then fE m [] (0 + k * 1 - k * 1) else none | none=>none)=_
 have e:bK (l.map dH) k=some (dH (l.getD k 0)):=by rw [bF];simp [h]
 rw [e];have e2:c₅ (k * 1) (0 + k * 1)=true:=sm;simp only [e2,cond_true];simp [fE]
theorem xZ {l:List UInt32} {k:Nat} (h:k < l.length) (x:UInt32):gi (wsM l) ([] ++ [k]) (0 + k * 1) (dH x)=some (wsM (l.set k x)):=by
 show(match bK (l.map dH) k with | some m=>bif c₅ (k * 1) (0 + k * 1) && (dH x).idFree then(match gi m [] (0 + k * 1 - k * 1) (dH x) with | some m'=>some (MV.arr 64 1 (setL (l.map dH) k m')) | none=>none) else none | none=>none)=_
 have e:bK (l.map dH) k=some (dH (l.getD k 0)):=by rw [bF];simp [h]
 rw [e];have e2:c₅ (k * 1) (0 + k * 1)=true:=sm;simp only [e2];simp [gi,setL_eq,MV.idFree,MV.size,MV.isAgg,wsM,List.map_set]
def W8.nth (s:W8):Nat→UInt32
 | 0=>s.a
 | 1=>s.b
 | 2=>s.c
 | 3=>s.d
 | 4=>s.e
 | 5=>s.f
 | 6=>s.g
 | _=>s.h
theorem Iq (s:W8) {i:Nat} (hi:i < 8):fE s.toM ([] ++ [i]) (0 + i * 1)=some (dH (s.nth i)):=by
 have h8:i=0∨i=1∨i=2∨i=3∨i=4∨i=5∨i=6∨i=7:=om;rcases h8 with rfl | rfl | rfl | rfl | rfl | rfl | rfl | rfl <;> rfl
theorem OX (h s:W8) {i:Nat} (hi:i < 8):gi (FW h s i).toM ([] ++ [i]) (0 + i * 1) (dH ((FW h s i).nth i + s.nth i))=some (FW h s (i + 1)).toM:=by
 have h8:i=0∨i=1∨i=2∨i=3∨i=4∨i=5∨i=6∨i=7:=om;rcases h8 with rfl | rfl | rfl | rfl | rfl | rfl | rfl | rfl <;> rfl
theorem jN (x:UInt32) (n:Nat) (h0:0 < n) (h1:n < 32):aD Tryz.prog G 114 [dH x, .int .i64 n] (dH (gK x n)):=by
 refine bf seat Tryz.func114 13 ?_;refine aR ?_;refine⟨[ag 0,ag 1,ag 2,ag 3,ag 4,ag 5,ag 6,ag 7,ag 8],?_⟩;refine⟨om,_,sv (tT x n h1),?_⟩;refine⟨((32 - n:Nat):Int),sv ((eM _ om om).trans om),?_⟩;refine⟨om,_,sv (Ie x (32 - n) om),?_⟩;refine aR ?_;rfl
theorem constants_m:aD Tryz.prog G 115 [] (wsM kL):=by
 refine bf seat Tryz.func115 2 ?_;refine aR ?_;rfl
theorem Lu (h:W8) (b:List UInt8) (hb:b.length=64):aD Tryz.prog G 69 [h.toM, .sl 64 (u8s b)] (oe h b).toM:=by
 unfold oe;refine bf seat Tryz.func69 193 ?_;refine aR ?_;refine⟨Nat,fun t=> [(6, .int .i64 t),(5, .ptr 2 64 0 0 []),(4, .ptr 1 8 0 0 []),(2, .ptr 0 8 0 0 []),(1, .sl 64 (u8s b))],fun t=> [(0,⟨119,8,false,0,[h.toM]⟩),(1,⟨119,8,false,0,[W8.toM ⟨0,0,0,0,0,0,0,0⟩]⟩),(2,⟨159,64,false,0,[wsM (tV b t)]⟩)],3,fun t=>t≤16,fun t=>16 - t,⟨0,om,(vm [(0,0),(1,1),(2,2)] [])⟩,?_⟩;intro t ht;refine aR ?_;refine⟨fun hc=>?_,fun hc=>?_⟩
 ·have ht':t < 16:=by have:=ot hc;omega
  have hl:=nd b t;refine aR ?_;refine⟨[ag 0,ag 1,ag 2,ag 3,ag 4,ag 5,ag 6,ag 7,ag 8,ag 9,ag 10,ag 11,ag 12,ag 13,ag 14,ag 15,ag 16,ag 17,ag 18,ag 19,ag 20,ag 21,ag 22,ag 23,ag 24,ag 25,ag 26,ag 27,ag 28,ag 29,ag 30,ag 31,ag 32,ag 33,ag 34,ag 35],?_⟩;refine aR ?_;refine⟨_,iB (4 * t) om om (nK om),?_⟩;refine aR ?_;refine⟨_,iB (4 * t + 1) om om (nK om),?_⟩;refine aR ?_;refine⟨_,iB (4 * t + 2) om om (nK om),?_⟩;refine aR ?_;refine⟨_,iB (4 * t + 3) om om (nK om),?_⟩;refine aR ?_;refine⟨_,cB om,?_⟩;refine aR ?_;refine⟨_,xZ om _,?_⟩;refine aR ?_;exact⟨t + 1,om,by show 16 - (t + 1) < 16 - t;omega,(vm [(0,0),(1,1),(2,2)] [])⟩
 ·have ht':t=16:=by have:=oF hc;omega
  subst ht';refine aR ?_;refine⟨Nat,fun t=> [(7, .int .i64 ((16 + t:Nat):Int)),(5, .ptr 2 64 0 0 []),(4, .ptr 1 8 0 0 []),(2, .ptr 0 8 0 0 [])],fun t=> [(0,⟨119,8,false,0,[h.toM]⟩),(1,⟨119,8,false,0,[W8.toM ⟨0,0,0,0,0,0,0,0⟩]⟩),(2,⟨159,64,false,0,[wsM (nJ b t)]⟩)],3,fun t=>t≤48,fun t=>48 - t,⟨0,om,(vm [(0,0),(1,1),(2,2)] [])⟩,?_⟩;intro t ht;refine aR ?_;refine⟨fun hc=>?_,fun hc=>?_⟩
  ·have ht':t < 48:=by have:=ot hc;omega
   have hl:=ko b t;refine aR ?_;refine⟨[ag 0,ag 1,ag 2,ag 3,ag 4,ag 5,ag 6,ag 7,ag 8,ag 9],?_⟩;refine aR ?_;refine⟨_,fZ (16 + t - 15) om om,?_⟩;refine aR ?_;refine⟨_,iO om,?_⟩;refine aR ?_;refine⟨_,fZ (16 + t - 2) om om,?_⟩;refine aR ?_;refine⟨_,iO om,?_⟩;refine aR ?_;refine⟨[ag 0,ag 1,ag 2,ag 3,ag 4,ag 5,ag 6,ag 7,ag 8,ag 9,ag 10,ag 11,ag 12,ag 13,ag 14,ag 15,ag 16,ag 17,ag 18,ag 19,ag 20,ag 21,ag 22,ag 23,ag 24,ag 25,ag 26,ag 27,ag 28,ag 29],?_⟩;refine⟨_,jN _ 17 om om,?_⟩;refine⟨_,jN _ 19 om om,?_⟩;refine aR ?_;refine⟨_,fZ (16 + t - 7) om om,?_⟩;refine aR ?_;refine⟨_,iO om,?_⟩;refine aR ?_;refine⟨_,jN _ 7 om om,?_⟩;refine⟨_,jN _ 18 om om,?_⟩;refine aR ?_;refine⟨_,fZ (16 + t - 16) om om,?_⟩;refine aR ?_;refine⟨_,iO om,?_⟩;refine aR ?_;refine⟨_,fZ (16 + t) om om,?_⟩;refine aR ?_;refine⟨_,xZ om _,?_⟩;refine aR ?_;exact⟨t + 1,by show t + 1≤48;omega,by show 48 - (t + 1) < 48 - t;omega,(vm [(0,0),(1,1),(2,2)] [])⟩
  ·have ht':t=48:=by have:=oF hc;omega
   subst ht';refine aR ?_;refine .inl ⟨_,constants_m,?_⟩;refine aR ?_;have hl:=ko b 48;have hk:kL.length=64:=rfl;dsimp only;generalize nJ b 48=ws at *;generalize kL=kl at *;refine aR ?_;refine⟨Nat,fun t=> [(12, .int .i64 t),(11, .ptr 4 8 0 0 []),(10, .ptr 3 64 0 0 []),(5, .ptr 2 64 0 0 []),(4, .ptr 1 8 0 0 []),(2, .ptr 0 8 0 0 [])],fun t=> [(0,⟨119,8,false,0,[h.toM]⟩),(1,⟨119,8,false,0,[W8.toM ⟨0,0,0,0,0,0,0,0⟩]⟩),(2,⟨159,64,false,0,[wsM ws]⟩),(3,⟨159,64,false,0,[wsM kl]⟩),(4,⟨119,8,false,0,[(jm kl ws h t).toM]⟩)],5,fun t=>t≤64,fun t=>64 - t,⟨0,om,(vm [(0,0),(1,1),(2,2),(3,6),(4,9)] [])⟩,?_⟩;intro t ht;refine aR ?_;refine⟨fun hc=>?_,fun hc=>?_⟩
   ·have ht':t < 64:=by have:=ot hc;omega
    refine aR ?_;refine⟨[ag 0,ag 1,ag 2,ag 3,ag 4,ag 5],?_⟩;refine aR ?_;refine⟨[ag 0,ag 1,ag 2,ag 3,ag 4,ag 5,ag 6,ag 7,ag 8,ag 9,ag 10,ag 11,ag 12,ag 13,ag 14,ag 15,ag 16,ag 17,ag 18,ag 19,ag 20,ag 21,ag 22,ag 23,ag 24,ag 25,ag 26,ag 27,ag 28,ag 29,ag 30],?_⟩;refine aR ?_;refine⟨_,jN _ 6 om om,?_⟩;refine⟨_,jN _ 11 om om,?_⟩;refine aR ?_;refine⟨_,jN _ 25 om om,?_⟩;refine aR ?_;refine⟨_,cB om,?_⟩;refine aR ?_;refine⟨_,iO om,?_⟩;refine aR ?_;refine⟨_,cB om,?_⟩;refine aR ?_;refine⟨_,iO om,?_⟩;refine aR ?_;refine⟨[ag 0,ag 1,ag 2,ag 3,ag 4,ag 5,ag 6,ag 7,ag 8,ag 9,ag 10,ag 11,ag 12,ag 13,ag 14,ag 15,ag 16,ag 17,ag 18,ag 19,ag 20,ag 21,ag 22,ag 23,ag 24],?_⟩;refine⟨_,jN _ 2 om om,?_⟩;refine⟨_,jN _ 13 om om,?_⟩;refine aR ?_;refine⟨_,jN _ 22 om om,?_⟩;refine aR ?_;exact⟨t + 1,by show t + 1≤64;omega,by show 64 - (t + 1) < 64 - t;omega,(vm [(0,0),(1,1),(2,2),(3,3),(4,4)] [])⟩
   ·have ht':t=64:=by have:=oF hc;omega
    subst ht';refine aR ?_;refine⟨Nat,fun i=> [(180, .int .i64 i),(11, .ptr 2 8 0 0 []),(4, .ptr 1 8 0 0 []),(2, .ptr 0 8 0 0 [])],fun i=> [(0,⟨119,8,false,0,[(FW h (jm kl ws h 64) i).toM]⟩),(1,⟨119,8,false,0,[W8.toM ⟨0,0,0,0,0,0,0,0⟩]⟩),(2,⟨119,8,false,0,[(jm kl ws h 64).toM]⟩)],3,fun i=>i≤8,fun i=>8 - i,⟨0,om,(vm [(0,0),(1,1),(2,4)] [])⟩,?_⟩;intro i hi;refine aR ?_;refine⟨fun hc=>?_,fun hc=>?_⟩
    ·have hi':i < 8:=by have:=ot hc;omega
     refine aR ?_;refine⟨[ag 0,ag 1,ag 2,ag 3,ag 4,ag 5,ag 6,ag 7,ag 8],?_⟩;generalize jm kl ws h 64=s at *;refine aR ?_;refine⟨_,cB om,?_⟩;refine aR ?_;refine⟨_,Iq _ hi',?_⟩;refine aR ?_;refine⟨_,cB om,?_⟩;refine aR ?_;refine⟨_,Iq _ hi',?_⟩;refine aR ?_;refine⟨_,cB om,?_⟩;refine aR ?_;refine⟨_,OX h s hi',?_⟩;refine aR ?_;exact⟨i + 1,by show i + 1≤8;omega,by show 8 - (i + 1) < 8 - i;omega,(vm [(0,0),(1,1),(2,2)] [])⟩
    ·have hi':i=8:=by have:=oF hc;omega
     subst hi';refine aR ?_;rfl
end
section
variable {G:GS}
theorem Lv (i n:Nat) (h:i < 4611686018427387904):IntKind.i64.wrap ((i:Int).tdiv (n:Int))=((i / n:Nat):Int):=by
 have e:(i:Int).tdiv (n:Int)=((i / n:Nat):Int):=rfl;have:=d₈ i n;generalize i / n=q at *;rw [e,eM _ om om]
theorem FY {n a c:Nat} {k k':IntKind} {lo hi:Int} (ha:lo=(a:Int)) (hc:hi=(c:Int)) (h1:a≤c) (h2:c≤n):cI n (some (.int k lo)) (some (.int k' hi))=some (a,c):=by
 subst ha;subst hc;unfold cI;simp only;rw [if_pos om];simp only [Int.toNat_natCast];rw [if_pos om]
theorem Ec (m:List UInt8):bH (u8s m) 1=true:=by cases m <;> rfl
def gG (n:Nat):Nat:=(119 - n % 64) % 64
def byteAt (n k:Nat):UInt8:=UInt8.ofNat (n / 2 ^ (8 * (7 - k)))
def Ir (n:Nat):List UInt8:=(b₇ 8).map (byteAt n)
def nz (b:List UInt8):List UInt8:=b ++ [128] ++ a₂ (gG b.length) 0 ++ Ir (8 * b.length)
def fF:W8:=⟨1779033703,3144134277,1013904242,2773480762,1359893119,2600822924,528734635,1541459225⟩
def absorb (s:W8) (m:List UInt8):Nat→W8
 | 0=>s
 | k + 1=>oe (absorb s m k) ((m.drop (64 * k)).take 64)
def wE (s:W8) (i:Nat):UInt8:=(s.nth (i / 4) >>> UInt32.ofNat (24 - i % 4 * 8)).toUInt8
def rZ (s:W8):Nat→List UInt8
 | 0=>a₂ 32 0
 | i + 1=>(rZ s i).set i (wE s i)
theorem pt (s:W8): ∀i,(rZ s i).length=32
 | 0=>by simp [rZ]
 | i + 1=>by simp [rZ,pt s i]
def aT (b:List UInt8):List UInt8:=rZ (absorb fF (nz b) ((nz b).length / 64)) 32
theorem gy (b:List UInt8):(aT b).length=32:=pt _ _
def keyM (k:List UInt8):MV:= .arr 32 1 (u8s k)
theorem tW (b:List UInt8):(nz b).length=b.length + 9 + gG b.length:=by simp [nz,Ir];omega
theorem Aw (b:List UInt8):(nz b).length=64 * ((nz b).length / 64):=by rw [tW];unfold gG;omega
theorem PJ {k:List UInt8} {i:Nat} (h:i < k.length):fE (keyM k) ([] ++ [i]) (0 + i * 1)=some (Ln (k.getD i 0)):=by
 show(match bK (u8s k) i with | some m=>bif c₅ (i * 1) (0 + i * 1) then fE m [] (0 + i * 1 - i * 1) else none | none=>none)=_
 have e:bK (u8s k) i=some (Ln (k.getD i 0)):=by rw [bF];exact nK h
 rw [e];have e2:c₅ (i * 1) (0 + i * 1)=true:=sm;simp only [e2,cond_true];simp [fE]
theorem pw {k:List UInt8} {i:Nat} (h:i < k.length) (x:UInt8):gi (keyM k) ([] ++ [i]) (0 + i * 1) (Ln x)=some (keyM (k.set i x)):=by
 show(match bK (u8s k) i with | some m=>bif c₅ (i * 1) (0 + i * 1) && (Ln x).idFree then(match gi m [] (0 + i * 1 - i * 1) (Ln x) with | some m'=>some (MV.arr 32 1 (setL (u8s k) i m')) | none=>none) else none | none=>none)=_
 have e:bK (u8s k) i=some (Ln (k.getD i 0)):=by rw [bF];exact nK h
 rw [e];have e2:c₅ (i * 1) (0 + i * 1)=true:=sm;simp only [e2];simp [gi,setL_eq,MV.idFree,MV.size,MV.isAgg,keyM,u8s,List.map_set]
theorem FZ (n k:Nat) (hk:k < 8):IntKind.u8.wrap (((n:Int) * 8).fdiv (2 ^ (min (8 * (7 - (k:Int))).toNat IntKind.u64.bits)))=((byteAt (8 * n) k).toNat:Int):=by
 have e:min (8 * (7 - (k:Int))).toNat IntKind.u64.bits=8 * (7 - k):=by simp [IntKind.bits];omega
 have e2:((n:Int) * 8)=((8 * n:Nat):Int):=om;rw [e,e2,b₆ _ (Int.le_of_lt (Int.pow_pos om)),w8,byteAt,UInt8.toNat_ofNat'];have e3:(2:Int) ^ (8 * (7 - k))=((2 ^ (8 * (7 - k)):Nat):Int):=by rw [c₇];rfl
 rw [e3,← b₉];exact(b₈ _ 256).symm
theorem Is (b:List UInt8) (hb:b.length < 536870912):aD Tryz.prog G 25 [.sl b.length (u8s b)] (keyM (aT b)):=by
 have hp:gG b.length < 64:=by unfold gG;omega
 refine bf seat Tryz.func25 69 ?_;refine aR ?_;refine⟨Ec b,?_⟩;refine aR ?_;(refine a₁ ⟨pf,aF (by kernel_rfl) pf⟩ ?_;refine⟨u8s b,sv pf,b.length,sv pf,?_⟩);refine aR ?_;(refine a₁ (a₇ _) ?_;refine⟨_,rfl,?_⟩;refine a₁ ⟨pf,aF (by kernel_rfl) pf⟩ ?_;refine⟨u8s (b ++ [128]),sv pf,b.length + 1,sv pf,?_⟩);refine aR ?_;refine⟨Nat,fun k=> [(3, .ms 1 1 0 (b.length + 1 + k)),(2, .ptr 0 32 0 0 []),(0, .sl b.length (u8s b))],fun k=> [(0,⟨55,32,false,0,[keyM (a₂ 32 0)]⟩),(1,⟨5,1,true,0,u8s (b ++ [128] ++ a₂ k 0)⟩)],2,fun k=>k≤gG b.length,fun k=>gG b.length - k,⟨0,a₈ _,(vm [(0,_),(1,_)] [])⟩,?_⟩;intro k hk;refine aR ?_;refine⟨fun hc=>?_,fun hc=>?_⟩
 ·have hk':k < gG b.length:=by
   have hc:((b.length + 1 + k:Nat):Int).tmod (64:Int)≠56:=by simpa using hc
   have e:((b.length + 1 + k:Nat):Int).tmod (64:Int)=(((b.length + 1 + k) % 64:Nat):Int):=rfl;unfold gG at hk ⊢;omega
  refine aR ?_;(refine a₁ (a₇ _) ?_;refine⟨_,rfl,?_⟩;refine a₁ ⟨pf,aF (by kernel_rfl) pf⟩ ?_;refine⟨u8s (b ++ [128] ++ a₂ (k + 1) 0),sv pf,b.length + 1 + (k + 1),sv pf,?_⟩);refine aR ?_;exact⟨k + 1,by show k + 1≤gG b.length;omega,by show gG b.length - (k + 1) < gG b.length - k;omega,(vm [(0,_),(1,_)] [])⟩
 ·have hk':k=gG b.length:=by
   have hc:((b.length + 1 + k:Nat):Int).tmod (64:Int)=56:=by simpa using hc
   have e:((b.length + 1 + k:Nat):Int).tmod (64:Int)=(((b.length + 1 + k) % 64:Nat):Int):=rfl;unfold gG at hk ⊢;omega
  subst hk';refine aR ?_;refine⟨Nat,fun k=> [(5, .int .i64 (7 - (k:Int))),(4, .int .u64 ((b.length:Int) * 8)),(3, .ms 1 1 0 (b.length + 1 + gG b.length + k)),(2, .ptr 0 32 0 0 [])],fun k=> [(0,⟨55,32,false,0,[keyM (a₂ 32 0)]⟩),(1,⟨5,1,true,0,u8s (b ++ [128] ++ a₂ (gG b.length) 0 ++ (b₇ k).map (byteAt (8 * b.length)))⟩)],2,fun k=>k≤8,fun k=>8 - k,⟨0,a₈ _,(vm [(0,_),(1,_)] [])⟩,?_⟩;intro k hk;refine aR ?_;refine⟨fun hc=>?_,fun hc=>?_⟩
  ·have hk':k < 8:=by have:=ot hc;omega
   (repeat((try conv=>whnf);first | (with_reducible refine⟨_,sv (FZ _ _ hk'),?_⟩) | (with_reducible refine Rt.go ?_) | (with_reducible refine Rs.go ?_) | (with_reducible refine tF ?_) | (with_reducible refine a₁ (a₈ _) ?_) | (with_reducible refine a₁ rfl ?_) | (with_reducible refine⟨fun _=>?_,fun h=>b₁ h⟩) | (with_reducible refine⟨fun h=>b₁ h,fun _=>?_⟩) | (with_reducible refine⟨_,sv (Ai _ _),?_⟩) | (with_reducible refine⟨_,sv (wD _ _),?_⟩) | (with_reducible refine⟨_,sv (Aj _ _),?_⟩) | (with_reducible refine⟨_,sv (Ic _ _),?_⟩) | (with_reducible refine⟨_,sv (Ak _),?_⟩) | (with_reducible refine⟨_,sv (Ig _ _ (by omega) (by omega)),?_⟩) | (with_reducible refine⟨_,sv (Ih _ _ (by omega) (by omega)),?_⟩) | (with_reducible refine⟨_,sv (pq _),?_⟩) | (with_reducible refine⟨_,sv (i6 _),?_⟩) | (with_reducible refine⟨_,sv (eM _ (by omega) (by omega)),?_⟩) | (with_reducible refine⟨_,sv (bu _ (by omega) (by omega)),?_⟩) | (with_reducible refine⟨_,sv (gm _ (by omega) (by omega)),?_⟩) | refine⟨_,rfl,?_⟩ | refine a₁ (show gw _ _ _=true by kernel_rfl) ?_ | refine a₁ (by omega) ?_));(refine a₁ (a₇ _) ?_;refine⟨_,rfl,?_⟩;refine a₁ ⟨pf,aF (by kernel_rfl) pf⟩ ?_;refine⟨u8s (b ++ [128] ++ a₂ (gG b.length) 0 ++ (b₇ (k + 1)).map (byteAt (8 * b.length))),sv pf,b.length + 1 + gG b.length + (k + 1),sv pf,?_⟩);refine aR ?_;exact⟨k + 1,by show k + 1≤8;omega,by show 8 - (k + 1) < 8 - k;omega,(vm [(0,_),(1,_)] [])⟩
  ·have hk':k=8:=by have:=oF hc;omega
   subst hk';have hm:b ++ [128] ++ a₂ (gG b.length) 0 ++ (b₇ 8).map (byteAt (8 * b.length))=nz b:=rfl;have hl:=tW b;have hd:=Aw b;have hlm:b.length + 1 + gG b.length + 8=(nz b).length:=om;unfold aT;dsimp only;rw [hm,hlm];generalize (nz b).length / 64=q at *;have hq:(nz b).length < 2000000000:=om;generalize nz b=m at *;refine aR ?_;refine⟨Nat,fun k=> [(7, .int .i64 ((64 * k:Nat):Int)),(6, .ptr 1 8 0 0 []),(3, .sl m.length (u8s m)),(2, .ptr 0 32 0 0 [])],fun k=> [(0,⟨55,32,false,0,[keyM (a₂ 32 0)]⟩),(1,⟨119,8,false,0,[(absorb fF m k).toM]⟩)],2,fun k=>k≤q,fun k=>q - k,⟨0,a₈ _,(vm [(0,_),(1,_)] [(1,m.length)])⟩,?_⟩;intro k hk;refine aR ?_;refine⟨fun hc=>?_,fun hc=>?_⟩
   ·have hk':k < q:=by have:=ot hc;omega
    refine aR ?_;refine⟨[ag 0,ag 1,ag 2,ag 3,ag 4,ag 5,ag 6,ag 7],?_⟩;refine aR ?_;refine⟨_,FY (a:=64 * k) (c:=64 * k + 64) rfl om om om,Ec m,?_⟩;refine⟨u8s ((m.drop (64 * k)).take 64),sv ((cut_u8 _ _ _).trans (by rw [show 64 * k + 64 - 64 * k=64 by omega])),64,sv om,?_⟩;refine⟨_,Lu _ _ (by simp;omega),?_⟩;refine aR ?_;exact⟨k + 1,by show k + 1≤q;omega,by show q - (k + 1) < q - k;omega,(vm [(0,_),(1,_)] [])⟩
   ·have hk':k=q:=by have:=oF hc;omega
    subst hk';dsimp only;generalize absorb fF m k=s at *;refine aR ?_;refine⟨Nat,fun i=> [(52, .int .i64 i),(8, .ptr 2 32 0 0 []),(6, .ptr 1 8 0 0 []),(2, .ptr 0 32 0 0 [])],fun i=> [(0,⟨55,32,false,0,[keyM (a₂ 32 0)]⟩),(1,⟨119,8,false,0,[s.toM]⟩),(2,⟨55,32,false,0,[keyM (rZ s i)]⟩)],3,fun i=>i≤32,fun i=>32 - i,⟨0,a₈ _,(vm [(0,_),(1,_),(2,_)] [])⟩,?_⟩;intro i hi;refine aR ?_;refine⟨fun hc=>?_,fun hc=>?_⟩
    ·have hi':i < 32:=by have:=ot hc;omega
     have hl:=pt s i;have e1:IntKind.i64.wrap ((i:Int).tmod 4 * 8)=((i % 4 * 8:Nat):Int):=by
      have e:(i:Int).tmod 4=((i % 4:Nat):Int):=rfl;rw [e,eM _ om om];omega
     have e2:IntKind.i64.wrap (24 - ((i % 4 * 8:Nat):Int))=((24 - i % 4 * 8:Nat):Int):=by
      rw [eM _ om om];omega
     (repeat((try conv=>whnf);first | (with_reducible refine⟨_,sv (Lv i 4 (by omega)),?_⟩) | (with_reducible refine Rt.go ?_) | (with_reducible refine Rs.go ?_) | (with_reducible refine tF ?_) | (with_reducible refine a₁ (a₈ _) ?_) | (with_reducible refine a₁ rfl ?_) | (with_reducible refine⟨fun _=>?_,fun h=>b₁ h⟩) | (with_reducible refine⟨fun h=>b₁ h,fun _=>?_⟩) | (with_reducible refine⟨_,sv (Ai _ _),?_⟩) | (with_reducible refine⟨_,sv (wD _ _),?_⟩) | (with_reducible refine⟨_,sv (Aj _ _),?_⟩) | (with_reducible refine⟨_,sv (Ic _ _),?_⟩) | (with_reducible refine⟨_,sv (Ak _),?_⟩) | (with_reducible refine⟨_,sv (Ig _ _ (by omega) (by omega)),?_⟩) | (with_reducible refine⟨_,sv (Ih _ _ (by omega) (by omega)),?_⟩) | (with_reducible refine⟨_,sv (pq _),?_⟩) | (with_reducible refine⟨_,sv (i6 _),?_⟩) | (with_reducible refine⟨_,sv (eM _ (by omega) (by omega)),?_⟩) | (with_reducible refine⟨_,sv (bu _ (by omega) (by omega)),?_⟩) | (with_reducible refine⟨_,sv (gm _ (by omega) (by omega)),?_⟩) | refine⟨_,rfl,?_⟩ | refine a₁ (show gw _ _ _=true by kernel_rfl) ?_ | refine a₁ (by omega) ?_));refine⟨_,fZ (i / 4) rfl om,?_⟩;refine aR ?_;refine⟨_,Iq _ om,?_⟩;(repeat((try conv=>whnf);first | (with_reducible refine⟨_,sv e1,?_⟩) | (with_reducible refine⟨_,sv e2,?_⟩) | (with_reducible refine⟨_,sv (tT _ (24 - i % 4 * 8) (by omega)),?_⟩) | (with_reducible refine Rt.go ?_) | (with_reducible refine Rs.go ?_) | (with_reducible refine tF ?_) | (with_reducible refine a₁ (a₈ _) ?_) | (with_reducible refine a₁ rfl ?_) | (with_reducible refine⟨fun _=>?_,fun h=>b₁ h⟩) | (with_reducible refine⟨fun h=>b₁ h,fun _=>?_⟩) | (with_reducible refine⟨_,sv (Ai _ _),?_⟩) | (with_reducible refine⟨_,sv (wD _ _),?_⟩) | (with_reducible refine⟨_,sv (Aj _ _),?_⟩) | (with_reducible refine⟨_,sv (Ic _ _),?_⟩) | (with_reducible refine⟨_,sv (Ak _),?_⟩) | (with_reducible refine⟨_,sv (Ig _ _ (by omega) (by omega)),?_⟩) | (with_reducible refine⟨_,sv (Ih _ _ (by omega) (by omega)),?_⟩) | (with_reducible refine⟨_,sv (pq _),?_⟩) | (with_reducible refine⟨_,sv (i6 _),?_⟩) | (with_reducible refine⟨_,sv (eM _ (by omega) (by omega)),?_⟩) | (with_reducible refine⟨_,sv (bu _ (by omega) (by omega)),?_⟩) | (with_reducible refine⟨_,sv (gm _ (by omega) (by omega)),?_⟩) | refine⟨_,rfl,?_⟩ | refine a₁ (show gw _ _ _=true by kernel_rfl) ?_ | refine a₁ (by omega) ?_));refine⟨_,cB om,?_⟩;refine aR ?_;refine⟨_,pw om _,?_⟩;refine aR ?_;exact⟨i + 1,by show i + 1≤32;omega,by show 32 - (i + 1) < 32 - i;omega,(vm [(0,_),(1,_),(2,_)] [])⟩
    ·have hi':i=32:=by have:=oF hc;omega
     subst hi';refine aR ?_;rfl
end
section
variable {G:GS}
attribute [local irreducible] aj aC aG aM aQ vC aY aA
theorem px {l:List fR} {k:Nat} (hk:k < l.length):db (l.map dz) l.length (k:Int)=some (dz l[k]):=fK hk (by simp [hk])
theorem F0 (l:List fR) {k:Nat} (hk:k < l.length):bg (l.take (k + 1))=bg (l.take k) ++ bT l[k] :=by
 unfold bg;rw [c₁ hk,c₃,d₀];simp
theorem F5 (l:List fR) (k:Nat):(bg (l.take k)).length≤(bg l).length:=by
 have:bg (l.take k) ++ bg (l.drop k)=bg l:=by
  unfold bg;rw [← d₀,← c₃,List.take_append_drop]
 rw [← this,a₀];omega
theorem ya {f:fR} (hf:jM f):f.bytes.length≤(bT f).length:=by
 unfold jM at hf;unfold bT;split
 ·have:f.bytes= [] :=by
   rcases hf.2.2 with h | h
   ·exact h.2.1
   ·omega
  rw [this];simp
 ·simp only [a₀];omega
theorem qu (l:List fR) (hl: ∀f∈l,jM f) (hm:(bg l).length < 200000000) (hll:l.length < 1000000):aL Tryz.prog G 134 [.sl l.length (l.map dz)] [] 0 (.sl (bg l).length (u8s (bg l))) [] 0:=by
 refine bU seat Tryz.func134 20 ?_;refine ad ?_;refine ar Nat (fun k=> [(8, .int .i64 k),(7, .int .i64 l.length),(6, .sl l.length (l.map dz)),(3, .ms 0 1 0 (bg (l.take k)).length)]) (fun k=> [(0,⟨5,1,true,0,u8s (bg (l.take k))⟩)]) 1 (fun k=>k≤l.length) (fun k=>l.length - k) 0 (a₈ _) (by rw [e₀];exact(vm [] [])) ?_;intro k hk;try dsimp only
 refine ad ?_;refine ae rfl ?_ ?_ <;> intro h
 ·have hk':k < l.length:=by have:=ot h;omega
  have hs:=F0 l hk';have hle:=F5 l (k + 1);have hfo:=hl _ (d₅ hk');have hfb:=ya hfo;have hel:=px hk';generalize l[k] =f at *;have hlen:(bg (l.take (k + 1))).length=(bg (l.take k)).length + (bT f).length:=by rw [hs,a₀]
  have c1:=Ls (G:=G) (bg (l.take k)) f hfo om;rw [← hs] at c1;unfold kZ at c1;generalize bg (l.take k)=p at *;(have fct:=al.mk (hel);refine ad ?_);refine bR rfl (fun _ h=>h) rfl (c1) [] [(0,p.length)] ⟨rfl,mm,rfl,lm,mm⟩ rfl rfl ?_;refine ad ?_;exact⟨k + 1,by show k + 1≤l.length;omega,by show l.length - (k + 1) < l.length - k;omega,(by dsimp only;exact(vm [(0,_)] []))⟩
 ·have hk':k=l.length:=by have:=oF h;omega
  subst hk';rw [d₆];generalize bg l=p at *;refine ad ?_;refine⟨[_],[],[(0,p.length)],rfl,rfl,?_,rfl,⟨?_,trivial⟩,?_⟩
  ·exact⟨by show p.length≤(u8s p).length;simp [u8s],trivial⟩
  ·exact rv
  ·exact mm
end
section
variable {G:GS}
attribute [local irreducible] aj aC aG aM aQ vC aY aA
def Cy (b:List UInt8):MV:= .sl b.length (u8s b)
theorem cut_take {α:Type} (f:α→MV) (l:List α) (k:Nat):cutL (l.map f) 0 k=(l.take k).map f:=by simp [cutL,List.map_take]
theorem eE {α:Type} (f:α→MV) (l:List α) (k:Nat):cutL (l.map f) k l.length=(l.drop k).map f:=by
 unfold cutL;rw [b₀ (by rw [a₃,c₂];omega),List.map_drop]
theorem Ed {l:List (List UInt8)} {k:Nat} (hk:k < l.length):db (l.map Cy) l.length (k:Int)=some (Cy l[k]):=fK hk (by simp [hk])
end
section
variable {G:GS}
attribute [local irreducible] aj aC aG aM aQ vC aY aA
theorem Lw {n:Nat} (h0:0 < n) (h1:n < 32):IntKind.u64.wrap (0 - (n:Int))=((18446744073709551616 - n:Nat):Int):=by rw [wu64];omega
theorem OY {n:Nat} (h0:0 < n) (h1:n < 32):IntKind.u64.wrap ((BitVec.ofInt IntKind.u64.bits ((18446744073709551616 - n:Nat):Int) &&& BitVec.ofInt IntKind.u64.bits (31:Int)).toNat:Int)=((32 - n:Nat):Int):=by
 have e:(18446744073709551616 - n) &&& 31=32 - n:=by
  have:=Nat.and_two_pow_sub_one_eq_mod (18446744073709551616 - n) 5;rw [show (2 ^ 5 - 1:Nat)=31 by rfl] at this;rw [this];omega
 rw [BitVec.toNat_and,eD _ _ (show 18446744073709551616 - n < 2 ^ IntKind.u64.bits by show _ < 18446744073709551616;omega),show (BitVec.ofInt IntKind.u64.bits (31:Int)).toNat=31 by rfl,e,wu64];omega
theorem OZ {n:Nat} (h0:0 < n) (h1:n < 32):IntKind.u64.wrap (32 - ((32 - n:Nat):Int))=(n:Int):=by rw [wu64];omega
theorem O0 (x:UInt32) (n:Nat) (h0:0 < n) (h1:n < 32):aD Tryz.prog G 230 [dH x, .int .i64 (0 - (n:Int))] (dH (gK x n)):=by
 have e:gK x n=(x <<< UInt32.ofNat (32 - n)) ||| (x >>> UInt32.ofNat n):=by unfold gK;rw [UInt32.or_comm]
 refine bf seat Tryz.func230 17 ?_;(have fct:=aX.mk (Lw h0 h1);have fct:=aX.mk (OY h0 h1);have fct:=aX.mk (OZ h0 h1);have fct:=aX.mk (Ie x (32 - n) om);have fct:=aX.mk (tT x n h1);refine Lp ?_);refine aw ?_;exact congrArg dH e.symm
theorem fL (x:UInt32) (n:Nat) (h0:0 < n) (h1:n < 32):aD Tryz.prog G 193 [dH x, .int .i64 n] (dH (gK x n)):=by
 have c1:=O0 (G:=G) x n h0 h1;refine bf seat Tryz.func193 9 ?_;refine ad ?_;refine bL (c1) ?_;refine aw ?_;rfl
end
section
variable {G:GS}
theorem Cz (b:List UInt8) (hb:b.length=64):aD Tryz.prog G 191 [.sl 64 (u8s b)] (wsM (nJ b 48)):=by
 refine bf seat Tryz.func191 93 ?_;refine aR ?_;refine⟨Nat,fun t=> [(10, .int .i64 t),(3, .ptr 1 64 0 0 []),(2, .ptr 0 64 0 0 []),(0, .sl 64 (u8s b))],fun t=> [(0,⟨159,64,false,0,[wsM (a₂ 64 0)]⟩),(1,⟨159,64,false,0,[wsM (tV b t)]⟩)],2,fun t=>t≤16,fun t=>16 - t,⟨0,om,(vm [(0,_),(1,_)] [])⟩,?_⟩;intro t ht;refine aR ?_;refine⟨fun hc=>?_,fun hc=>?_⟩
 ·have ht':t < 16:=by have:=ot hc;omega
  have hl:=nd b t;refine aR ?_;refine⟨[ag 0,ag 1,ag 2,ag 3,ag 4,ag 5,ag 6,ag 7,ag 8,ag 9,ag 10,ag 11,ag 12,ag 13,ag 14,ag 15,ag 16,ag 17,ag 18,ag 19,ag 20,ag 21,ag 22,ag 23,ag 24,ag 25,ag 26,ag 27,ag 28,ag 29,ag 30,ag 31,ag 32,ag 33,ag 34,ag 35],?_⟩;refine aR ?_;refine⟨_,iB (4 * t) om om (nK om),?_⟩;refine aR ?_;refine⟨_,iB (4 * t + 1) om om (nK om),?_⟩;refine aR ?_;refine⟨_,iB (4 * t + 2) om om (nK om),?_⟩;refine aR ?_;refine⟨_,iB (4 * t + 3) om om (nK om),?_⟩;refine aR ?_;refine⟨_,cB om,?_⟩;refine aR ?_;refine⟨_,xZ om _,?_⟩;refine aR ?_;exact⟨t + 1,om,by show 16 - (t + 1) < 16 - t;omega,(vm [(0,_),(1,_)] [])⟩
 ·have ht':t=16:=by have:=oF hc;omega
  subst ht';refine aR ?_;refine⟨Nat,fun t=> [(5, .int .i64 ((16 + t:Nat):Int)),(3, .ptr 1 64 0 0 []),(2, .ptr 0 64 0 0 [])],fun t=> [(0,⟨159,64,false,0,[wsM (a₂ 64 0)]⟩),(1,⟨159,64,false,0,[wsM (nJ b t)]⟩)],2,fun t=>t≤48,fun t=>48 - t,⟨0,om,(vm [(0,_),(1,_)] [])⟩,?_⟩;intro t ht;refine aR ?_;refine⟨fun hc=>?_,fun hc=>?_⟩
  ·have ht':t < 48:=by have:=ot hc;omega
   have hl:=ko b t;refine aR ?_;refine⟨[ag 0,ag 1,ag 2,ag 3,ag 4,ag 5,ag 6,ag 7,ag 8,ag 9],?_⟩;refine aR ?_;refine⟨_,fZ (16 + t - 15) om om,?_⟩;refine aR ?_;refine⟨_,iO om,?_⟩;refine aR ?_;refine⟨_,fZ (16 + t - 2) om om,?_⟩;refine aR ?_;refine⟨_,iO om,?_⟩;refine aR ?_;refine .inl ⟨_,fL _ 7 om om,?_⟩;refine aR ?_;refine .inl ⟨_,fL _ 18 om om,?_⟩;refine aR ?_;refine .inl ⟨_,fL _ 17 om om,?_⟩;refine aR ?_;refine .inl ⟨_,fL _ 19 om om,?_⟩;refine aR ?_;refine⟨[ag 0,ag 1,ag 2,ag 3,ag 4,ag 5,ag 6,ag 7,ag 8,ag 9,ag 10,ag 11,ag 12,ag 13,ag 14,ag 15],?_⟩;refine aR ?_;refine⟨_,fZ (16 + t - 7) om om,?_⟩;refine aR ?_;refine⟨_,iO om,?_⟩;refine aR ?_;refine⟨_,fZ (16 + t - 16) om om,?_⟩;refine aR ?_;refine⟨_,iO om,?_⟩;refine aR ?_;refine⟨_,fZ (16 + t) om om,?_⟩;refine aR ?_;refine⟨_,xZ om _,?_⟩;refine aR ?_;exact⟨t + 1,by show t + 1≤48;omega,by show 48 - (t + 1) < 48 - t;omega,(vm [(0,_),(1,_)] [])⟩
  ·have ht':t=48:=by have:=oF hc;omega
   subst ht';refine aR ?_;rfl
set_option maxRecDepth 40000 in
theorem It:aL Tryz.prog G 192 [] [] 0 (.ptr 0 64 0 0 []) [(0,⟨159,64,false,0,[wsM kL]⟩)] 1:=by
 refine bU seat Tryz.func192 3 ?_;refine ad ?_;exact eb [_] [(0,2)] []
set_option maxRecDepth 40000 in
theorem begin_m:aD Tryz.prog G 160 [] fF.toM:=by
 refine bf seat Tryz.func160 2 ?_;refine ad ?_;refine aw ?_;rfl
def CA (k w:UInt32) (s:W8):W8:=⟨Lt k w s + (gK s.a 2 ^^^ gK s.a 13 ^^^ gK s.a 22) + (s.a &&& s.b ^^^ s.a &&& s.c ^^^ s.b &&& s.c),s.a,s.b,s.c,s.d + Lt k w s,s.e,s.f,s.g⟩
theorem F6 (k w:UInt32) (s:W8):Cx k w s=CA k w s:=by
 unfold Cx CA OW;rw [UInt32.add_assoc]
theorem Ax (h:W8) (b:List UInt8) (hb:b.length=64):aD Tryz.prog G 161 [h.toM, .sl 64 (u8s b)] (oe h b).toM:=by
 have c1:=Cz (G:=G) b hb;have hl:=ko b 48;have hk:kL.length=64:=rfl;have c2:=It (G:=G);unfold oe;generalize nJ b 48=ws at *;generalize kL=kl at *;refine bf seat Tryz.func161 119 ?_;refine Lp ?_;refine yv (c1) ?_;refine Lp ?_;refine yc (c2) [] ?_;refine Lp ?_;refine⟨Nat,fun t=> [(21, .int .i64 t),(7, .ptr 4 8 0 0 []),(6, .ptr 3 64 0 0 []),(5, .ptr 2 64 0 0 []),(4, .ptr 1 8 0 0 []),(2, .ptr 0 8 0 0 [])],fun t=> [(0,⟨214,8,false,0,[h.toM]⟩),(1,⟨214,8,false,0,[W8.toM ⟨0,0,0,0,0,0,0,0⟩]⟩),(2,⟨159,64,false,0,[wsM ws]⟩),(3,⟨159,64,false,0,[wsM kl]⟩),(4,⟨214,8,false,0,[(jm kl ws h t).toM]⟩)],5,fun t=>t≤64,fun t=>64 - t,⟨0,om,(vm [(0,0),(1,1),(2,4),(3,3),(4,8)] [])⟩,?_⟩;intro t ht;refine aR ?_;refine⟨fun hc=>?_,fun hc=>?_⟩
 ·have ht':t < 64:=by have:=ot hc;omega
  have hr:jm kl ws h (t + 1)=CA (kl.getD t 0) (ws.getD t 0) (jm kl ws h t):=F6 _ _ _;dsimp only;generalize jm kl ws h t=s at *;refine aR ?_;refine⟨[ag 0,ag 1,ag 2,ag 3,ag 4,ag 5],?_⟩;refine aR ?_;refine .inl ⟨_,fL _ 6 om om,?_⟩;refine aR ?_;refine .inl ⟨_,fL _ 11 om om,?_⟩;refine aR ?_;refine .inl ⟨_,fL _ 25 om om,?_⟩;refine aR ?_;refine⟨[ag 0,ag 1,ag 2,ag 3,ag 4,ag 5,ag 6,ag 7,ag 8,ag 9,ag 10,ag 11,ag 12,ag 13,ag 14,ag 15,ag 16],?_⟩;refine aR ?_;refine⟨_,cB om,?_⟩;refine aR ?_;refine⟨_,iO om,?_⟩;refine aR ?_;refine⟨_,cB om,?_⟩;refine aR ?_;refine⟨_,iO om,?_⟩;refine aR ?_;refine .inl ⟨_,fL _ 2 om om,?_⟩;refine aR ?_;refine .inl ⟨_,fL _ 13 om om,?_⟩;refine aR ?_;refine .inl ⟨_,fL _ 22 om om,?_⟩;refine aR ?_;exact⟨t + 1,by show t + 1≤64;omega,by show 64 - (t + 1) < 64 - t;omega,(by dsimp only;rw [hr];exact(vm [(0,_),(1,_),(2,_),(3,_),(4,_)] []))⟩
 ·have ht':t=64:=by have:=oF hc;omega
  subst ht';dsimp only;generalize jm kl ws h 64=s at *;refine aR ?_;refine⟨Nat,fun i=> [(106, .int .i64 i),(7, .ptr 2 8 0 0 []),(4, .ptr 1 8 0 0 []),(2, .ptr 0 8 0 0 [])],fun i=> [(0,⟨214,8,false,0,[(FW h s i).toM]⟩),(1,⟨214,8,false,0,[W8.toM ⟨0,0,0,0,0,0,0,0⟩]⟩),(2,⟨214,8,false,0,[s.toM]⟩)],3,fun i=>i≤8,fun i=>8 - i,⟨0,om,(vm [(0,0),(1,1),(2,4)] [])⟩,?_⟩;intro i hi;refine aR ?_;refine⟨fun hc=>?_,fun hc=>?_⟩
  ·have hi':i < 8:=by have:=ot hc;omega
   refine aR ?_;refine⟨[ag 0,ag 1,ag 2,ag 3,ag 4,ag 5,ag 6,ag 7,ag 8],?_⟩;refine aR ?_;refine⟨_,cB om,?_⟩;refine aR ?_;refine⟨_,Iq _ hi',?_⟩;refine aR ?_;refine⟨_,cB om,?_⟩;refine aR ?_;refine⟨_,Iq _ hi',?_⟩;refine aR ?_;refine⟨_,cB om,?_⟩;refine aR ?_;refine⟨_,OX h s hi',?_⟩;refine aR ?_;exact⟨i + 1,by show i + 1≤8;omega,by show 8 - (i + 1) < 8 - i;omega,(vm [(0,_),(1,_),(2,_)] [])⟩
  ·have hi':i=8:=by have:=oF hc;omega
   subst hi';refine aR ?_;rfl
end
section
variable {G:GS}
attribute [local irreducible] aj aC aG aM aQ vC aY aA
theorem og (s:W8) (m b:List UInt8): ∀q,64 * q≤m.length→absorb s (m ++ b) q=absorb s m q
 | 0,_=>rfl
 | q + 1,h=>by
  rw [absorb,absorb,og s m b q om]
  congr 1
  rw [b₄ om,List.take_append_of_le_length (by rw [a₃];omega)]
def Lx (m:List UInt8):MV:= .st [(absorb fF m (m.length / 64)).toM, .sl (m.length % 64) (u8s (m.drop (64 * (m.length / 64)))), .int .i64 m.length]
def tX (m:List UInt8):VM:= [(0,⟨217,10,false,0,[Lx m]⟩)]
abbrev digP:MV:= .ptr 0 10 0 0 []
set_option maxRecDepth 40000 in
theorem O1:aL Tryz.prog G 136 [] [] 0 digP (tX []) 1:=by
 unfold tX Lx;refine bU seat Tryz.func136 4 ?_;refine ad ?_;refine bL (begin_m) ?_;refine⟨[_],[(0,2)],[],rfl,rfl,trivial,rfl,⟨?_,trivial⟩,?_⟩
 ·exact rv
 ·exact⟨.inr ⟨_,_,rfl,rfl,rfl,rfl, .inl rfl, .inl rfl, .inr ⟨.inr ⟨_,rfl,⟨rfl,rfl⟩, .inr ⟨rfl,rfl⟩,⟨rfl,rfl⟩,trivial⟩,trivial⟩⟩,trivial⟩
theorem Ly (m b:List UInt8) (hm:m.length + b.length < 1000000000):aL Tryz.prog G 137 [digP, .sl b.length (u8s b)] (tX m) 1 (.tup []) (tX (m ++ b)) 1:=by
 have hq:64 * (m.length / 64)≤m.length:=om;have hz:m.drop (64 * (m.length / 64)) ++ b=(m ++ b).drop (64 * (m.length / 64)):=(b₄ hq).symm;have hl0:(m.drop (64 * (m.length / 64))).length=m.length % 64:=by rw [a₃];omega
 have hab:=og fF m b (m.length / 64) hq;have hlen:(m ++ b).length=m.length + b.length:=a₀;unfold tX Lx;rw [← hab];generalize hM:m ++ b=M at *;generalize hqq:m.length / 64=q at *;generalize hr0:m.drop (64 * q)=r0 at *;rw [← hl0];refine bU seat Tryz.func137 43 ?_;refine ad ?_;refine bc rfl rfl (by intro R hR;refine dZ hR ?_;refine a₁ (dh r0) ?_;refine a₁ (pj (by kernel_rfl) om) ?_;exact hR) rfl ?_;refine ad ?_;have hw0:(M.drop (64 * q)).length=r0.length + b.length:=by rw [← hz,a₀]
 refine bc rfl rfl (by intro R hR;refine dZ hR ?_;refine a₁ (dh b) ?_;refine a₁ ⟨(by simp [u8s]),aF (by kernel_rfl) pf⟩ ?_;refine⟨u8s (M.drop (64 * q)),sv (by rw [← hz];simp [u8s]),(M.drop (64 * q)).length,sv pf,?_⟩;exact hR) rfl ?_;refine ad ?_;refine ar Nat (fun k=> [(4, .sl (M.drop (64 * (q + k))).length (u8s (M.drop (64 * (q + k))))),(0,digP)]) (fun k=> [(0,⟨217,10,false,0,[.st [(absorb fF M (q + k)).toM, .sl r0.length (u8s r0), .int .i64 M.length]]⟩)]) 1 (fun k=>64 * (q + k)≤M.length) (fun k=>M.length - k) 0 om ?_ ?_
 ·rw [Nat.add_zero,hlen,Int.natCast_add];exact(vm [] [(19,(M.drop (64 * q)).length)])
 intro k hk;try dsimp only
 have hwl:(M.drop (64 * (q + k))).length=M.length - 64 * (q + k):=a₃;have hnext:(M.drop (64 * (q + k))).drop 64=M.drop (64 * (q + (k + 1))):=by rw [c₉,show 64 * (q + k) + 64=64 * (q + (k + 1)) by omega]
 have habs:absorb fF M (q + (k + 1))=oe (absorb fF M (q + k)) ((M.drop (64 * (q + k))).take 64):=rfl;by_cases hlast:64≤M.length - 64 * (q + k)
 ·generalize absorb fF M (q + k)=S at *;generalize hw:M.drop (64 * (q + k))=w at *;have hb1:cI w.length none (some (.int .i64 64))=some (0,64):=mj (k:=64) om;have hb2:cI w.length (some (.int .i64 64)) none=some (64,w.length):=gJ (k:=64) om;have hc1:cutL (u8s w) 0 64=u8s (w.take 64):=by rw [cut_u8,c₄]
  have hc2:cutL (u8s w) 64 w.length=u8s (w.drop 64):=by rw [cut_u8,b₀ (by rw [a₃];omega)]
  have hc3:w.length - 64=(w.drop 64).length:=List.length_drop.symm;have c1:=Ax (G:=G) S (w.take 64) (by rw [c₀];omega);refine ad ?_;refine ae rfl ?_ ?_ <;> intro h
  rotate_left
  ·exfalso;have:=oF h;omega
  refine ad ?_;refine av [ag 0,ag 1,ag 2,ag 3,ag 4,ag 5,ag 6,da 7,ag 8,ag 9,ag 10] ?_;(have fct:=al.mk (hb1);have fct:=al.mk (hb2);have fct:=aX.mk (hc1);have fct:=aX.mk (hc2);have fct:=aX.mk (hc3);have fct:=bJ.mk (dh w);refine ad ?_);refine OS (c1) ?_;(have fct:=al.mk (hb1);have fct:=al.mk (hb2);have fct:=aX.mk (hc1);have fct:=aX.mk (hc2);have fct:=aX.mk (hc3);have fct:=bJ.mk (dh w);refine ad ?_);exact⟨k + 1,by show 64 * (q + (k + 1))≤M.length;omega,by show M.length - (k + 1) < M.length - k;omega,(by dsimp only;rw [← hnext,habs];exact(vm [] []))⟩
 ·have e1:M.length / 64=q + k:=om;have e2:M.length % 64=(M.drop (64 * (q + k))).length:=om;rw [e1,e2];generalize absorb fF M (q + k)=S at *;generalize hw:M.drop (64 * (q + k))=w at *;refine ad ?_;refine ae rfl ?_ ?_ <;> intro h
  ·exfalso;have:=ot h;omega
  refine ad ?_;refine bc rfl rfl (by intro R hR;refine dZ hR ?_;refine a₁ (dh w) ?_;refine a₁ (pj (by kernel_rfl) om) ?_;exact hR) rfl ?_;refine ad ?_;refine⟨[],[],[(6,w.length)],rfl,rfl,?_,rfl,trivial,?_⟩
  ·exact⟨by show w.length≤(u8s w).length;simp [u8s],trivial⟩
  ·exact⟨.inr ⟨_,_,rfl,rfl,rfl,rfl, .inl rfl, .inl rfl, .inr ⟨.inr ⟨_,rfl,⟨rfl,rfl⟩, .inr ⟨rfl,rfl,rfl,d₁ (d₂ _),bV _ _⟩,⟨rfl,rfl⟩,trivial⟩,trivial⟩⟩,trivial⟩
theorem O2 (n:Nat):(n:Int).tmod 64=((n % 64:Nat):Int):=rfl
theorem PZ (n k:Nat) (hk:k < 8):IntKind.u8.wrap (((n:Nat):Int).fdiv (2 ^ (min (56 - 8 * (k:Int)).toNat IntKind.u64.bits)))=((byteAt n k).toNat:Int):=by
 have e:min (56 - 8 * (k:Int)).toNat IntKind.u64.bits=8 * (7 - k):=by simp [IntKind.bits];omega
 rw [e,b₆ _ (Int.le_of_lt (Int.pow_pos om)),w8,byteAt,UInt8.toNat_ofNat'];have e3:(2:Int) ^ (8 * (7 - k))=((2 ^ (8 * (7 - k)):Nat):Int):=by rw [c₇];rfl
 rw [e3,← b₉];exact(b₈ _ 256).symm
theorem Iu (m:List UInt8) (q:Nat) (hq:64 * q≤m.length):(nz m).drop (64 * q)=m.drop (64 * q) ++ [128] ++ a₂ (gG m.length) 0 ++ Ir (8 * m.length):=by
 unfold nz;rw [a₅,a₅,b₄ hq,← a₅,← a₅]
theorem CB (m:List UInt8) (q:Nat) (hq:64 * q≤m.length):absorb fF (nz m) q=absorb fF m q:=by
 unfold nz;rw [a₅,a₅];exact og _ _ _ _ hq
theorem P3 (S:W8) {i:Nat} (h:i < 8):db [dH S.a,dH S.b,dH S.c,dH S.d,dH S.e,dH S.f,dH S.g,dH S.h] 8 (i:Int)=some (dH (S.nth i)):=by
 have h8:i=0∨i=1∨i=2∨i=3∨i=4∨i=5∨i=6∨i=7:=om;rcases h8 with rfl | rfl | rfl | rfl | rfl | rfl | rfl | rfl <;> rfl
theorem P4 (S:W8) (i:Nat):rZ S (4 * (i + 1))=((((rZ S (4 * i)).set (4 * i) (S.nth i >>> UInt32.ofNat 24).toUInt8).set (4 * i + 1) (S.nth i >>> UInt32.ofNat 16).toUInt8).set (4 * i + 2) (S.nth i >>> UInt32.ofNat 8).toUInt8).set (4 * i + 3) (S.nth i).toUInt8:=by
 have e:rZ S (4 * (i + 1))=((((rZ S (4 * i)).set (4 * i) (wE S (4 * i))).set (4 * i + 1) (wE S (4 * i + 1))).set (4 * i + 2) (wE S (4 * i + 2))).set (4 * i + 3) (wE S (4 * i + 3)):=rfl;rw [e];unfold wE;rw [show 4 * i / 4=i by omega,show (4 * i + 1) / 4=i by omega,show (4 * i + 2) / 4=i by omega,show (4 * i + 3) / 4=i by omega,show 24 - 4 * i % 4 * 8=24 by omega,show 24 - (4 * i + 1) % 4 * 8=16 by omega,show 24 - (4 * i + 2) % 4 * 8=8 by omega,show 24 - (4 * i + 3) % 4 * 8=0 by omega];rw [show UInt32.ofNat 0=0 by rfl,UInt32.shiftRight_zero]
theorem O3 (m:List UInt8) (hm:m.length < 1000000000):aL Tryz.prog G 138 [digP] (tX m) 1 (keyM (aT m)) (tX m) 1:=by
 have hq:64 * (m.length / 64)≤m.length:=om;have hl0:(m.drop (64 * (m.length / 64))).length=m.length % 64:=by rw [a₃];omega
 have hpd:=Iu m _ hq;have hpa:=CB m _ hq;have hpl:=tW m;have hpv:=Aw m;have hp:gG m.length < 64:=by unfold gG;omega
 have hpn:(m.length % 64 + 1 + gG m.length) % 64=56:=by unfold gG;omega
 have hpf: ∀k,k < gG m.length→(m.length % 64 + 1 + k) % 64≠56:=by unfold gG;intro k hk;omega
 unfold tX Lx aT;rw [← hl0] at hpn hpf ⊢;generalize hqq:m.length / 64=q at *;generalize hr0:m.drop (64 * q)=r0 at *;generalize hpN:gG m.length=pn at *;generalize hP:nz m=P at *;rw [← hpa];refine bU seat Tryz.func138 90 ?_;refine ad ?_;refine bc rfl rfl (by intro R hR;refine dZ hR ?_;refine a₁ (dh r0) ?_;refine a₁ (pj (by kernel_rfl) om) ?_;exact hR) rfl ?_;refine ad ?_;refine bc rfl rfl (by intro R hR;refine dZ hR ?_;(refine a₁ (a₇ _) ?_;refine⟨_,rfl,?_⟩;refine a₁ ⟨(by simp [u8s]),aF (by kernel_rfl) pf⟩ ?_;refine⟨u8s (r0 ++ [128]),sv (by simp [u8s,setL,repM,cutL]),r0.length + 1,sv pf,?_⟩);exact hR) rfl ?_;refine ad ?_;have hTl:r0.length + 1 + pn + 8=(P.drop (64 * q)).length:=by rw [hpd];simp [Ir];omega
 refine ar Nat (fun k=> [(4, .ms 3 1 0 (r0.length + 1 + k)),(3, .ptr 2 32 0 0 []),(2, .ptr 1 32 0 0 []),(0,digP)]) (fun k=> [(0,⟨217,10,false,0,[.st [(absorb fF P q).toM, .sl r0.length (u8s r0), .int .i64 m.length]]⟩),(1,⟨55,32,false,0,[keyM (a₂ 32 0)]⟩),(2,⟨55,32,false,0,[keyM (a₂ 32 0)]⟩),(3,⟨5,1,true,0,u8s (r0 ++ [128] ++ a₂ k 0)⟩)]) 4 (fun k=>k≤pn) (fun k=>pn - k) 0 (a₈ _) (vm [(1,_),(2,_),(3,_)] []) ?_;intro k hk;try dsimp only
 (have fct:=aX.mk (O2 (r0.length + 1 + k));refine ad ?_);refine ae rfl ?_ ?_ <;> intro h
 ·have hk':k < pn:=by
   have h1:(((r0.length + 1 + k) % 64:Nat):Int)≠56:=by simpa using h
   rcases d₃ k pn with h2 | h2
   ·exact h2
   ·have:k=pn:=om;subst this;rw [hpn] at h1;exact absurd rfl h1
  refine ad ?_;refine bc rfl rfl (by intro R hR;refine dZ hR ?_;(refine a₁ (a₇ _) ?_;refine⟨_,rfl,?_⟩;refine a₁ ⟨pf,aF (by kernel_rfl) pf⟩ ?_;refine⟨u8s (r0 ++ [128] ++ a₂ (k + 1) 0),sv pf,r0.length + 1 + (k + 1),sv pf,?_⟩);exact hR) rfl ?_;refine ad ?_;exact⟨k + 1,by show k + 1≤pn;omega,by show pn - (k + 1) < pn - k;omega,(by dsimp only;exact(vm [(1,_),(2,_),(3,_)] []))⟩
 ·have hk':k=pn:=by
   have h1:(((r0.length + 1 + k) % 64:Nat):Int)=56:=by simpa using h
   rcases d₃ k pn with h2 | h2
   ·have:=hpf k h2;omega
   ·omega
  subst hk';refine ad ?_;refine ar Nat (fun j=> [(6, .int .i64 (56 - 8 * (j:Int))),(5, .int .u64 ((8 * m.length:Nat):Int)),(4, .ms 3 1 0 (r0.length + 1 + k + j)),(3, .ptr 2 32 0 0 []),(2, .ptr 1 32 0 0 []),(0,digP)]) (fun j=> [(0,⟨217,10,false,0,[.st [(absorb fF P q).toM, .sl r0.length (u8s r0), .int .i64 m.length]]⟩),(1,⟨55,32,false,0,[keyM (a₂ 32 0)]⟩),(2,⟨55,32,false,0,[keyM (a₂ 32 0)]⟩),(3,⟨5,1,true,0,u8s (r0 ++ [128] ++ a₂ k 0 ++ (b₇ j).map (byteAt (8 * m.length)))⟩)]) 4 (fun j=>j≤8) (fun j=>8 - j) 0 (a₈ _) (by rw [List.range_zero,List.map_nil,b₂];exact(vm [(1,_),(2,_),(3,_)] [])) ?_;intro j hj;try dsimp only
  refine ad ?_;refine ae rfl ?_ ?_ <;> intro h
  ·have hj':j < 8:=by have:=ot h;omega
   (have fct:=aX.mk (PZ (8 * m.length) j hj');refine ad ?_);refine bc rfl rfl (by intro R hR;refine dZ hR ?_;(refine a₁ (a₇ _) ?_;refine⟨_,rfl,?_⟩;refine a₁ ⟨pf,aF (by kernel_rfl) pf⟩ ?_;refine⟨u8s (r0 ++ [128] ++ a₂ k 0 ++ (b₇ (j + 1)).map (byteAt (8 * m.length))),sv pf,r0.length + 1 + k + (j + 1),sv pf,?_⟩);exact hR) rfl ?_;refine ad ?_;exact⟨j + 1,by show j + 1≤8;omega,by show 8 - (j + 1) < 8 - j;omega,(by dsimp only;exact(vm [(1,_),(2,_),(3,_)] []))⟩
  ·have hj':j=8:=by have:=oF h;omega
   subst hj';have hbe:(b₇ 8).map (byteAt (8 * m.length))=Ir (8 * m.length):=rfl;rw [hbe,← hpd,hTl];refine ad ?_;refine ar Nat (fun k=> [(7, .ptr 3 8 0 0 []),(4, .sl (P.drop (64 * (q + k))).length (u8s (P.drop (64 * (q + k))))),(3, .ptr 2 32 0 0 []),(2, .ptr 1 32 0 0 []),(0,digP)]) (fun k=> [(0,⟨217,10,false,0,[.st [(absorb fF P q).toM, .sl r0.length (u8s r0), .int .i64 m.length]]⟩),(1,⟨55,32,false,0,[keyM (a₂ 32 0)]⟩),(2,⟨55,32,false,0,[keyM (a₂ 32 0)]⟩),(3,⟨214,8,false,0,[(absorb fF P (q + k)).toM]⟩)]) 4 (fun k=>64 * (q + k)≤P.length) (fun k=>P.length - k) 0 om (by rw [Nat.add_zero];exact(vm [(1,_),(2,_),(3,_)] [(3,(P.drop (64 * q)).length)])) ?_;intro k hk;try dsimp only
   have hwl:(P.drop (64 * (q + k))).length=P.length - 64 * (q + k):=a₃;have hnext:(P.drop (64 * (q + k))).drop 64=P.drop (64 * (q + (k + 1))):=by rw [c₉,show 64 * (q + k) + 64=64 * (q + (k + 1)) by omega]
   have habs:absorb fF P (q + (k + 1))=oe (absorb fF P (q + k)) ((P.drop (64 * (q + k))).take 64):=rfl;by_cases hlast:64 * (q + k) < P.length
   ·generalize absorb fF P (q + k)=S at *;generalize hw:P.drop (64 * (q + k))=w at *;have hb1:cI w.length none (some (.int .i64 64))=some (0,64):=mj (k:=64) om;have hb2:cI w.length (some (.int .i64 64)) none=some (64,w.length):=gJ (k:=64) om;have hc1:cutL (u8s w) 0 64=u8s (w.take 64):=by rw [cut_u8,c₄]
    have hc2:cutL (u8s w) 64 w.length=u8s (w.drop 64):=by rw [cut_u8,b₀ (by rw [a₃];omega)]
    have hc3:w.length - 64=(w.drop 64).length:=List.length_drop.symm;have c1:=Ax (G:=G) S (w.take 64) (by rw [c₀];omega);refine ad ?_;refine ae rfl ?_ ?_ <;> intro h
    rotate_left
    ·exfalso;have:=oF h;omega
    refine ad ?_;refine av [ag 0,ag 1,ag 2,da 3,ag 4] ?_;(have fct:=al.mk (hb1);have fct:=al.mk (hb2);have fct:=aX.mk (hc1);have fct:=aX.mk (hc2);have fct:=aX.mk (hc3);have fct:=bJ.mk (dh w);refine ad ?_);refine OS (c1) ?_;(have fct:=al.mk (hb1);have fct:=al.mk (hb2);have fct:=aX.mk (hc1);have fct:=aX.mk (hc2);have fct:=aX.mk (hc3);have fct:=bJ.mk (dh w);refine ad ?_);exact⟨k + 1,by show 64 * (q + (k + 1))≤P.length;omega,by show P.length - (k + 1) < P.length - k;omega,(by dsimp only;rw [← hnext,habs];exact(vm [(1,_),(2,_),(3,_)] []))⟩
   ·have e1:P.length / 64=q + k:=om;rw [e1];generalize absorb fF P (q + k)=S at *;generalize hw:P.drop (64 * (q + k))=w at *;refine ad ?_;refine ae rfl ?_ ?_ <;> intro h
    ·exfalso;have:=ot h;omega
    refine ad ?_;refine ar Nat (fun i=> [(58, .int .i64 i),(57,S.toM),(3, .ptr 2 32 0 0 []),(2, .ptr 1 32 0 0 []),(0,digP)]) (fun i=> [(0,⟨217,10,false,0,[.st [(absorb fF P q).toM, .sl r0.length (u8s r0), .int .i64 m.length]]⟩),(1,⟨55,32,false,0,[keyM (a₂ 32 0)]⟩),(2,⟨55,32,false,0,[keyM (rZ S (4 * i))]⟩)]) 3 (fun i=>i≤8) (fun i=>8 - i) 0 (a₈ _) (vm [(1,_),(2,_)] []) ?_;intro i hi;try dsimp only
    refine ad ?_;refine ae rfl ?_ ?_ <;> intro h
    ·have hi':i < 8:=by have:=ot h;omega
     have hix:db [dH S.a,dH S.b,dH S.c,dH S.d,dH S.e,dH S.f,dH S.g,dH S.h] 8 (i:Int)=some (dH (S.nth i)):=P3 S hi';have hol:=pt S (4 * i);have hout:=P4 S i;generalize S.nth i=x at *;generalize rZ S (4 * i)=ok at *;have s24:(x.toNat:Int).fdiv (2 ^ (min (24:Int).toNat IntKind.u32.bits))=((x >>> UInt32.ofNat 24).toNat:Int):=tT x 24 om;have s16:(x.toNat:Int).fdiv (2 ^ (min (16:Int).toNat IntKind.u32.bits))=((x >>> UInt32.ofNat 16).toNat:Int):=tT x 16 om;have s8:(x.toNat:Int).fdiv (2 ^ (min (8:Int).toNat IntKind.u32.bits))=((x >>> UInt32.ofNat 8).toNat:Int):=tT x 8 om;have v24:=i6 (x >>> UInt32.ofNat 24);have v16:=i6 (x >>> UInt32.ofNat 16);have v8:=i6 (x >>> UInt32.ofNat 8);have v0:=i6 x;generalize (x >>> UInt32.ofNat 24)=y24 at *;generalize (x >>> UInt32.ofNat 16)=y16 at *;generalize (x >>> UInt32.ofNat 8)=y8 at *;have j0:DC 32 (4 * (i:Int))=some (4 * i):=fZ (4 * i) om om;have j1:DC 32 (4 * (i:Int) + 1)=some (4 * i + 1):=fZ (4 * i + 1) om om;have j2:DC 32 (4 * (i:Int) + 2)=some (4 * i + 2):=fZ (4 * i + 2) om om;have j3:DC 32 (4 * (i:Int) + 3)=some (4 * i + 3):=fZ (4 * i + 3) om om;have k0:=pw (k:=ok) (i:=4 * i) om y24.toUInt8;have k1:=pw (k:=ok.set (4 * i) y24.toUInt8) (i:=4 * i + 1) (by rw [b₃];omega) y16.toUInt8;have k2:=pw (k:=(ok.set (4 * i) y24.toUInt8).set (4 * i + 1) y16.toUInt8) (i:=4 * i + 2) (by rw [b₃,b₃];omega) y8.toUInt8;have k3:=pw (k:=((ok.set (4 * i) y24.toUInt8).set (4 * i + 1) y16.toUInt8).set (4 * i + 2) y8.toUInt8) (i:=4 * i + 3) (by rw [b₃,b₃,b₃];omega) x.toUInt8;(have fct:=al.mk (hix);have fct:=aX.mk (s24);have fct:=aX.mk (s16);have fct:=aX.mk (s8);have fct:=aX.mk (v24);have fct:=aX.mk (v16);have fct:=aX.mk (v8);have fct:=aX.mk (v0);have fct:=al.mk (j0);have fct:=al.mk (j1);have fct:=al.mk (j2);have fct:=al.mk (j3);have fct:=al.mk (k0);have fct:=al.mk (k1);have fct:=al.mk (k2);have fct:=al.mk (k3);refine ad ?_);exact⟨i + 1,by show i + 1≤8;omega,by show 8 - (i + 1) < 8 - i;omega,(by dsimp only;rw [hout];exact(vm [(1,_),(2,_)] []))⟩
    ·have hi':i=8:=by have:=oF h;omega
     subst hi';refine ad ?_;refine aw ?_;exact en [_]
end
section
variable {G:GS}
attribute [local irreducible] aj aC aG aM aQ vC aY aA
theorem LA (m b M:List UInt8) (hM:m ++ b=M) (hm:m.length + b.length < 1000000000):aL Tryz.prog G 137 [digP, .sl b.length (u8s b)] (tX m) 1 (.tup []) (tX M) 1:=by
 subst hM;exact Ly m b hm
theorem Nw (b:List UInt8) (hb:b.length < 500000000):aD Tryz.prog G 96 [.sl b.length (u8s b)] (keyM (aT b)):=by
 have c1:=O1 (G:=G);have c2:=LA (G:=G) [] b b rfl (by simp;omega);have c3:=O3 (G:=G) b om;unfold tX at c1 c2 c3;refine bf seat Tryz.func96 10 ?_;refine ad ?_;refine yc (c1) [] ?_;refine ad ?_;refine yc (c2) [(0,1)] ?_;refine ad ?_;refine yc (c3) [(0,1)] ?_;refine ad ?_;refine aw ?_;rfl
end
section
section
variable {Pg:Program} {G:GS} {f:FuncId} {args:List MV} {M0:VM}
theorem wF {b:MB} {es n:Nat} (hrow:b.row=true) (h:aL Pg G f args M0 1 (.ms 0 es 0 n) [(0,b)] 1):aL Pg G f args M0 1 (.ms 1 es 0 n) [(1,b)] 2:=by
 intro w P adr vals h1 h2 h3 h4 h5;refine(h w P adr vals h1 h2 h3 h4 h5).mono ?_;rintro e w' ⟨v,rfl,P',adr',j1,j2,j3,j4,j5,j6,j7,j8⟩;have get1: ∀{c b'},VM.get [(1,b)] c=some b'→c=1∧b'=b:=fun {c b'} hc=>by
  rw [VM.get_cons] at hc;split at hc
  ·rename_i e;injection hc with hc;exact⟨e.symm,hc.symm⟩
  ·cases hc
 have get0:VM.get [(0,b)] 0=some b:=rfl;have only0: ∀{c g},adr c=some g→c=0:=fun {c g} hc=>by
  rcases d₃ c 1 with h | h
  ·omega
  ·rw [h3 c h] at hc;cases hc
 refine⟨v,rfl,P',fun c=>if c=1 then adr' 0 else adr' c,⟨fun c b' hc=>?_,fun c c' b1 b2 g hc hc' _ _=>?_,j1.prot⟩,?_,⟨j3.prot,j3.cell,fun c g hc=>?_,j3.size⟩,fun c hc=>?_,fun c hc=>?_,fun c g hc=>?_,j7,j8⟩
 ·obtain⟨rfl,rfl⟩:=get1 hc;rcases j1.blk 0 b' get0 with q | ⟨g,q1,q2⟩
  ·exact .inl ⟨q.1,q.2.1,by simpa using q.2.2.1,q.2.2.2⟩
  ·refine .inr ⟨g,by simpa using q1,?_⟩;obtain⟨cur,parts,c1,c2,c3,c4,c5⟩:=q2.ofR hrow;exact⟨.inl ⟨cur,parts,c1,c2,c3,fun j x p hx hp=>by have:=c4 j x p hx hp;rw [hrow] at this ⊢;exact this,c5⟩,q2.pe,q2.le⟩
 ·rw [(get1 hc).1,(get1 hc').1]
 ·rcases j2.ms_ with ⟨rfl,_,rfl⟩ | ⟨g,o,cap,q1,rfl,q2,q3,q4,q5⟩
  ·exact .val [_] .ms0
  ·exact .val [_] (.ms g o cap (by simpa using q1) q2 q3 q4 q5)
 ·obtain rfl:=only0 hc;exact j3.num 0 g hc
 ·obtain rfl:c=0:=om;exact j4 0 om
 ·have:c≠1:=om;simp only [this,if_false];exact j5 c om
 ·by_cases h:c=1
  ·simp only [h,if_true] at hc;exact j6 0 g hc
  ·simp only [h,if_false] at hc;exact j6 c g hc
end
theorem Ay {σ:Nat→Option Nat} {fz:Fz} {a b:MV}: ∀(l:List MV),(∀x∈l,cU σ fz x x)→cU σ fz a b→cU.relVs σ fz (l ++ [a]) (l ++ [b])
 | [],_,h=>⟨h,trivial⟩
 | x :: l,hl,h=>⟨hl x sm,Ay l (fun y hy=>hl y (by simp [hy])) h⟩
variable {G:GS}
attribute [local irreducible] aj aC aG aM aQ vC aY aA
def yb (l:List fR):MB:=⟨188,4,true,0,l.map dz⟩
def bD (n:Nat) (s:List UInt8):List fR:=if s= [] then [] else [⟨n,2,0,s⟩]
def cC (n:Nat) (v:Nat):List fR:=if v=0 then [] else [⟨n,0,v,[]⟩]
theorem yd (l:List fR) (n:Nat) (s:List UInt8) (hl:l.length < 100000000) (hs:s.length < 100000000):aL Tryz.prog G 132 [.ms 0 4 0 l.length, .int .i64 n, .str s] [(0,yb l)] 1 (.ms 1 4 0 (l ++ bD n s).length) [(1,yb (l ++ bD n s))] 2:=by
 unfold yb bD;by_cases h0:s= []
 ·rw [if_pos h0,b₂];subst h0;refine wF rfl ?_;refine bU seat Tryz.func132 17 ?_;refine ad ?_;exact en [_]
 ·rw [if_neg h0,a₀,a₆];refine bU seat Tryz.func132 17 ?_;refine ad ?_;refine ae rfl ?_ ?_ <;> intro h
  ·exact absurd h (by simp;intro h;exact absurd h h0)
  ·refine ad ?_;refine bc rfl rfl (by intro R hR;refine dZ hR ?_;(refine a₁ (a₇ _) ?_;refine⟨_,rfl,?_⟩;refine a₁ ⟨sm,aF (by kernel_rfl) pf⟩ ?_;refine⟨(l ++ [(⟨n,2,0,s⟩:fR)]).map dz,sv (by simp;rfl),l.length + 1,sv pf,?_⟩);exact hR) rfl ?_;refine ad ?_;exact eb [_] [(1,10)] []
theorem mn (l:List fR) (n:Nat) (v:Nat) (hl:l.length < 100000000):aL Tryz.prog G 133 [.ms 0 4 0 l.length, .int .i64 n, .int .u64 v] [(0,yb l)] 1 (.ms 1 4 0 (l ++ cC n v).length) [(1,yb (l ++ cC n v))] 2:=by
 unfold yb cC;by_cases h0:v=0
 ·rw [if_pos h0,b₂];subst h0;refine wF rfl ?_;refine bU seat Tryz.func133 16 ?_;refine ad ?_;exact en [_]
 ·rw [if_neg h0,a₀,a₆];refine bU seat Tryz.func133 16 ?_;refine ad ?_;refine ae rfl ?_ ?_ <;> intro h
  ·exfalso;have:(v:Int)=0:=by simpa using h
   omega
  ·refine ad ?_;refine bc rfl rfl (by intro R hR;refine dZ hR ?_;(refine a₁ (a₇ _) ?_;refine⟨_,rfl,?_⟩;refine a₁ ⟨sm,aF (by kernel_rfl) pf⟩ ?_;refine⟨l.map dz ++ [.st [.int .i64 n, .int .i64 0, .int .u64 v, .nils]],sv (by simp [cutL,setL,repM]),l.length + 1,sv pf,?_⟩);exact hR) rfl ?_;refine ad ?_;refine⟨[_],[(1,9)],[],rfl,rfl,trivial,rfl,⟨?_,trivial⟩,?_⟩
   ·exact rv
   ·refine⟨.inr ⟨_,_,rfl,rfl,rfl,rfl, .inl rfl, .inl rfl, .inr ?_⟩,trivial⟩;rw [c₃];exact Ay _ (fun x hx=>by obtain⟨f,_,rfl⟩:=List.mem_map.1 hx;exact .inl ⟨rfl,rfl⟩) (.inr ⟨_,rfl,⟨rfl,rfl⟩,⟨rfl,rfl⟩,⟨rfl,rfl⟩, .inr ⟨rfl,rfl⟩,trivial⟩)
end
section
variable {G:GS}
attribute [local irreducible] aj aC aG aM aQ vC aY aA
structure jc where
 to_:List UInt8
 amt:Nat
 deriving DecidableEq
structure iP where
 sender:List UInt8
 seq:Nat
 gas:Nat
 fee:Nat
 memo:List UInt8
 trs:List jc
 deriving DecidableEq
def lG (x:jc):MV:= .st [.str x.to_, .int .u64 x.amt]
def nA (t:iP):MV:= .st [.str t.sender, .int .u64 t.seq, .int .u64 t.gas, .int .u64 t.fee, .str t.memo, .sl t.trs.length (t.trs.map lG)]
abbrev bl (n:Nat):Prop:=n < 18446744073709551616
def mo (x:jc):Prop:=x.to_.length≤5000∧bl x.amt
def gT (t:iP):Prop:=t.sender.length≤5000∧bl t.seq∧bl t.gas∧bl t.fee∧t.memo.length≤5000∧t.trs.length≤5000∧∀x∈t.trs,mo x
def mq (x:jc):fR:=⟨6,2,0,bg (bD 1 x.to_ ++ cC 2 x.amt)⟩
def iC (t:iP):List fR:=bD 1 t.sender ++ cC 2 t.seq ++ cC 3 t.gas ++ cC 4 t.fee ++ bD 5 t.memo ++ t.trs.map mq
def eQ (t:iP):List UInt8:=bg (iC t)
theorem k9 {f:fR} (hf:jM f):(bT f).length≤f.bytes.length + 20:=by
 have h1:=(dv (n:=f.num * 8 + f.kind) (by unfold jM at hf;omega)).2;unfold bT;rw [a₀];split
 ·have h2:=(dv (n:=f.val) (by unfold jM at hf;omega)).2;omega
 ·rename_i hk;have h2:=(dv (n:=f.bytes.length) (by unfold jM at hf;omega)).2;rw [a₀];omega
theorem mr (B:Nat): ∀(l:List fR),(∀f∈l,jM f∧f.bytes.length≤B)→(bg l).length≤l.length * (B + 20)
 | [],_=>by simp [bg]
 | f :: l,h=>by
  have h1:=k9 (h f sm).1
  have h2:=(h f sm).2
  have ih:=mr B l fun g hg=>h g (by simp [hg])
  have e:bg (f :: l)=bT f ++ bg l:=by simp [bg]
  rw [e,a₀,List.length_cons,Nat.add_mul]
  omega
theorem jn {n:Nat} {s:List UInt8} (h1:1≤n) (h2:n≤100) (B:Nat) (hs:s.length≤B) (hB:B < 18446744073709551616):(∀f∈bD n s,jM f∧f.bytes.length≤B)∧(bD n s).length≤1:=by
 unfold bD;split
 ·simp
 ·refine⟨fun f hf=>?_,sm⟩;rw [d₄.1 hf];exact⟨⟨dm,dm, .inr ⟨rfl,rfl,dm⟩⟩,hs⟩
theorem lf {n v:Nat} (h1:1≤n) (h2:n≤100) (B:Nat) (hv:bl v):(∀f∈cC n v,jM f∧f.bytes.length≤B)∧(cC n v).length≤1:=by
 unfold cC;split
 ·simp
 ·refine⟨fun f hf=>?_,sm⟩;rw [d₄.1 hf];exact⟨⟨dm,dm, .inl ⟨rfl,rfl,hv⟩⟩,sm⟩
theorem fj {α:Type} {p:α→Prop} {a b:List α} (ha: ∀x∈a,p x) (hb: ∀x∈b,p x): ∀x∈a ++ b,p x:=fun x hx=>(List.mem_append.1 hx).elim (ha x) (hb x)
theorem py {x:jc} (h:mo x):(∀f∈bD 1 x.to_ ++ cC 2 x.amt,jM f∧f.bytes.length≤5000)∧(bD 1 x.to_ ++ cC 2 x.amt).length≤2:=by
 have h1:=jn (n:=1) (s:=x.to_) om om 5000 h.1 om;have h2:=lf (n:=2) (v:=x.amt) om om 5000 h.2;exact⟨fj h1.1 h2.1,by rw [a₀];omega⟩
theorem nf {x:jc} (h:mo x):(bg (bD 1 x.to_ ++ cC 2 x.amt)).length≤10040:=by
 have h1:=py h;have h2:=mr 5000 _ h1.1;have h3:=a₉ (5000 + 20) h1.2;omega
theorem Nx {x:jc} (h:mo x):jM (mq x)∧(mq x).bytes.length≤10040:=by
 have:=nf h;exact⟨⟨by unfold mq;dsimp only;omega,by unfold mq;dsimp only;omega, .inr ⟨rfl,rfl,by unfold mq;dsimp only;omega⟩⟩,this⟩
theorem tY {t:iP} (h:gT t):(∀f∈iC t,jM f∧f.bytes.length≤10040)∧(iC t).length≤5005:=by
 obtain⟨h1,h2,h3,h4,h5,h6,h7⟩:=h;have a1:=jn (n:=1) (s:=t.sender) om om 10040 om om;have a2:=lf (n:=2) (v:=t.seq) om om 10040 h2;have a3:=lf (n:=3) (v:=t.gas) om om 10040 h3;have a4:=lf (n:=4) (v:=t.fee) om om 10040 h4;have a5:=jn (n:=5) (s:=t.memo) om om 10040 om om;unfold iC;refine⟨fj (fj (fj (fj (fj a1.1 a2.1) a3.1) a4.1) a5.1) fun f hf=>?_,?_⟩
 ·obtain⟨x,hx,rfl⟩:=List.mem_map.1 hf;exact Nx (h7 x hx)
 ·simp only [a₀,c₂];omega
theorem qv {t:iP} (h:gT t):(eQ t).length≤50350300:=by
 have h1:=tY h;have h2:=mr 10040 _ h1.1;have h3:=a₉ (10040 + 20) h1.2;unfold eQ;omega
theorem lh {l:List jc} {k:Nat} (hk:k < l.length):db (l.map lG) l.length (k:Int)=some (lG l[k]):=fK hk (by simp [hk])
theorem Iv (t:iP) (ht:gT t):aL Tryz.prog G 90 [nA t] [] 0 (.sl (eQ t).length (u8s (eQ t))) [] 0:=by
 have hok:=tY ht;have hfl:=qv ht;obtain⟨sender,seq,gas,fee,memo,trs⟩:=t;obtain⟨h1,h2,h3,h4,h5,h6,h7⟩:=ht;dsimp only at h1 h2 h3 h4 h5 h6 h7;have cm:=qu (G:=G) _ (fun f hf=>(hok.1 f hf).1) (show(bg _).length < 200000000 from Nat.lt_of_le_of_lt hfl om) om;have a1:=(jn (n:=1) (s:=sender) om om 10040 om om).2;have a2:=(lf (n:=2) (v:=seq) om om 10040 h2).2;have a3:=(lf (n:=3) (v:=gas) om om 10040 h3).2;have a4:=(lf (n:=4) (v:=fee) om om 10040 h4).2;have a5:=(jn (n:=5) (s:=memo) om om 10040 om om).2;unfold eQ iC at *;unfold nA;dsimp only at *;have c1:=yd (G:=G) [] 1 sender sm om;rw [d₉] at c1;generalize bD 1 sender=l1 at *;have c2:=mn (G:=G) l1 2 seq om;have q2:(l1 ++ cC 2 seq).length≤2:=by rw [a₀];omega
 generalize l1 ++ cC 2 seq=l2 at *;have c3:=mn (G:=G) l2 3 gas om;have q3:(l2 ++ cC 3 gas).length≤3:=by rw [a₀];omega
 generalize l2 ++ cC 3 gas=l3 at *;have c4:=mn (G:=G) l3 4 fee om;have q4:(l3 ++ cC 4 fee).length≤4:=by rw [a₀];omega
 generalize l3 ++ cC 4 fee=l4 at *;have c5:=yd (G:=G) l4 5 memo om om;have q5:(l4 ++ bD 5 memo).length≤5:=by rw [a₀];omega
 generalize l4 ++ bD 5 memo=l5 at *;unfold yb at c1 c2 c3 c4 c5;refine bU seat Tryz.func90 46 ?_;refine ad ?_;refine yc (c1) [] ?_;refine ad ?_;refine bR rfl (fun _ h=>h) rfl (c2) [(0,_)] [] ⟨rfl,trivial,rfl,lm,mm⟩ rfl rfl ?_;refine ad ?_;refine bR rfl (fun _ h=>h) rfl (c3) [(0,_)] [] ⟨rfl,trivial,rfl,lm,mm⟩ rfl rfl ?_;refine ad ?_;refine bR rfl (fun _ h=>h) rfl (c4) [(0,_)] [] ⟨rfl,trivial,rfl,lm,mm⟩ rfl rfl ?_;refine ad ?_;refine bR rfl (fun _ h=>h) rfl (c5) [(0,_)] [] ⟨rfl,trivial,rfl,lm,mm⟩ rfl rfl ?_;refine ad ?_;refine ar Nat (fun k=> [(28, .int .i64 k),(27, .int .i64 trs.length),(26, .sl trs.length (trs.map lG)),(3, .ms 0 4 0 (l5 ++ (trs.take k).map mq).length)]) (fun k=> [(0,⟨188,4,true,0,(l5 ++ (trs.take k).map mq).map dz⟩)]) 1 (fun k=>k≤trs.length) (fun k=>trs.length - k) 0 (a₈ _) (by rw [e₀,List.map_nil,b₂];exact(vm [(0,_)] [])) ?_;intro k hk;try dsimp only
 refine ad ?_;refine ae rfl ?_ ?_ <;> intro h
 ·have hk':k < trs.length:=by have:=ot h;omega
  have hx:=h7 _ (d₅ hk');have hel:=lh hk';have hsucc:l5 ++ (trs.take (k + 1)).map mq=(l5 ++ (trs.take k).map mq) ++ [mq trs[k]] :=by rw [c₁ hk',c₃,a₅];rfl
  have hll:(l5 ++ (trs.take k).map mq).length≤5005:=by rw [a₀,c₂,c₀];omega
  generalize trs[k] =x at *;generalize l5 ++ (trs.take k).map mq=lk at *;have hio:=py hx;have hil:=nf hx;have hto:=jn (n:=1) (s:=x.to_) om om 5000 hx.1 om;have d1:=yd (G:=G) [] 1 x.to_ sm (by have:=hx.1;omega);rw [d₉] at d1;have d2:=mn (G:=G) (bD 1 x.to_) 2 x.amt om;have d3:=qu (G:=G) (bD 1 x.to_ ++ cC 2 x.amt) (fun f hf=>(hio.1 f hf).1) om om;unfold yb at d1 d2;have htr:mq x=⟨6,2,0,bg (bD 1 x.to_ ++ cC 2 x.amt)⟩:=rfl;generalize bD 1 x.to_ ++ cC 2 x.amt=li at *;generalize bD 1 x.to_=lt at *;generalize bg li=mi at *;(have fct:=al.mk (hel);refine ad ?_);refine av [ag 0,ag 1,ag 2,da 3,ag 4,ag 5,da 6,da 7,ag 8,ag 9,ag 10,ag 11] ?_;refine ad ?_;refine bB rfl (fun _ h=>h) rfl [] (d1) [] [] ⟨rfl,trivial,rfl,lm,mm⟩ rfl rfl rfl rfl rfl ?_;refine ad ?_;refine bB rfl (fun _ h=>h) rfl [9] (d2) [(0,9)] [] ⟨rfl,trivial,rfl,lm,mm⟩ rfl rfl rfl rfl rfl ?_;refine ad ?_;refine kn rfl (fun _ h=>h) rfl [12] (d3) rfl [(12,li.length)] mm lm rfl ?_;refine ad ?_;refine bQ rfl (by intro R hR;refine dZ hR ?_;(refine a₁ (a₇ _) ?_;refine⟨_,rfl,?_⟩;refine a₁ ⟨sm,aF (by kernel_rfl) pf⟩ ?_;refine⟨(lk ++ [(⟨6,2,0,mi⟩:fR)]).map dz,sv (by simp;rfl),lk.length + 1,sv pf,?_⟩);exact hR) rfl ?_;refine ad ?_;exact⟨k + 1,by show k + 1≤trs.length;omega,by show trs.length - (k + 1) < trs.length - k;omega,(by dsimp only;rw [hsucc,htr,a₀,a₆];exact(vm [(0,_)] []))⟩
 ·have hk':k=trs.length:=by have:=oF h;omega
  subst hk';rw [d₆];generalize l5 ++ trs.map mq=lk at *;generalize bg lk=mk at *;refine ad ?_;refine cG rfl (fun _ h=>h) rfl (cm) rfl [(0,lk.length)] mm lm ?_;refine ad ?_;exact en [_]
end
end Go.Proofs.YthdhlcicpcnbhaaGreatDoor
