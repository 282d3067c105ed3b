/- Parts of a proof, one behind the other: B1, B2, B3, B4, B5, H1, H2, B6, B7, C1, C2, C3, C4, D1, D2. -/
import Derived.Test.YthdhlcicpcnbhaaGreatDoorW03
open List renaming length_append → a₀,replicate → a₂,length_drop → a₃,append_assoc → a₅,length_singleton → a₆,take_of_length_le → b₀,append_nil → b₂,length_set → b₃,drop_append_of_le_length → b₄,range → b₇,length_take → c₀,take_succ_eq_append_getElem → c₁,length_map → c₂,map_append → c₃,drop_zero → c₄,drop_eq_nil_of_le → c₈,drop_drop → c₉,flatten_append → d₀,mem_singleton → d₄,getElem_mem → d₅,take_length → d₆,length_nil → d₇,nil_append → d₉,take_zero → e₀
open And renaming intro → a₁
open Prod.mk renaming injEq → a₄
open Nat renaming le_refl → a₇,zero_le → a₈,mul_le_mul_right → a₉,mod_eq_of_lt → b₅,ble → c₅,pow_succ → c₆,le_of_eq → d₁,zero_add → d₂,lt_or_ge → d₃,div_le_self → d₈
open Bool renaming noConfusion → b₁
open Int renaming fdiv_eq_ediv_of_nonneg → b₆,natCast_emod → b₈,natCast_ediv → b₉,natCast_pow → c₇
set_option maxRecDepth 20000
set_option maxHeartbeats 16000000
set_option linter.unusedVariables false
set_option linter.unusedSimpArgs false
namespace Go.Proofs.YthdhlcicpcnbhaaGreatDoor
open Go.RowKit
section
variable {G:GS}
theorem OY (m:Nat):IntKind.u8.wrap (m:Int)=((UInt8.ofNat m).toNat:Int):=by
 rw [w8,UInt8.toNat_ofNat'];exact(b₈ _ 256).symm
theorem HO {p:UInt8→Prop} (h: ∀n:Fin 256,p (UInt8.ofNat n.val)) (x:UInt8):p x:=by
 have:=h ⟨x.toNat,x.toNat_lt⟩
 rwa [UInt8.ofNat_toNat] at this
theorem Fu (x:UInt8):x ||| 128=UInt8.ofNat (x.toNat % 128 + 128):=HO (p:=fun x=>x ||| 128=UInt8.ofNat (x.toNat % 128 + 128)) (by decide +kernel) x
theorem PX (x y:UInt8):IntKind.u8.wrap ((BitVec.ofInt IntKind.u8.bits (x.toNat:Int) ||| BitVec.ofInt IntKind.u8.bits (y.toNat:Int)).toNat:Int)=((x ||| y).toNat:Int):=by
 have h:=t8 (x ||| y);rw [BitVec.toNat_or,ei _ _ (t8 x),ei _ _ (t8 y),← UInt8.toNat_or,w8];omega
theorem Pf (x y:UInt8):IntKind.u8.wrap ((BitVec.ofInt IntKind.u8.bits (x.toNat:Int) &&& BitVec.ofInt IntKind.u8.bits (y.toNat:Int)).toNat:Int)=((x &&& y).toNat:Int):=by
 have h:=t8 (x &&& y);rw [BitVec.toNat_and,ei _ _ (t8 x),ei _ _ (t8 y),← UInt8.toNat_and,w8];omega
theorem Mc (m:Nat):IntKind.u8.wrap ((BitVec.ofInt IntKind.u8.bits ((UInt8.ofNat m).toNat:Int) ||| BitVec.ofInt IntKind.u8.bits (128:Int)).toNat:Int)=((UInt8.ofNat (m % 128 + 128)).toNat:Int):=by
 have h:=PX (UInt8.ofNat m) 128;rw [Fu] at h;rw [show (UInt8.ofNat m).toNat % 128 + 128=m % 128 + 128 by rw [UInt8.toNat_ofNat'];omega] at h;exact h
theorem HP (m:Nat):((m:Int).fdiv (2 ^ (min (7:Int).toNat IntKind.u64.bits)))=((m / 128:Nat):Int):=by
 rw [show min (7:Int).toNat IntKind.u64.bits=7 by rfl,b₆ _ (by decide)];exact(b₉ m 128).symm
theorem Aa {p:List UInt8} {m n:Nat} (h:p ++ bW m=bW n) (hm: ¬ m < 128):(p ++ [UInt8.ofNat (m % 128 + 128)]) ++ bW (m / 128)=bW n:=by
 rw [rU hm] at h;rw [← h,a₅];rfl
def kI (l:List UInt8):VM:= [(0,⟨5,1,true,0,u8s l⟩)]
theorem cG: ∀(b:List UInt8),bE (u8s b) 1=true
 | [] =>rfl
 | _ :: _=>rfl
theorem DF {p:List UInt8} {m n:Nat} (h:p ++ bW m=bW n) (hn:n < 18446744073709551616):p.length≤10:=by
 have:=(da hn).2;rw [← h,a₀] at this;omega
theorem Ab (b:List UInt8) (n:Nat) (hb:b.length < 500000000) (hn:n < 18446744073709551616) :
  aH Tryz.prog G 145 [.sl b.length (u8s b), .int .u64 n] [] 0 (.ms 0 1 0 (b.length + (bW n).length)) (kI (b ++ bW n)) 1:=by
 unfold kI
 refine bR seat Tryz.func145 24 ?_
 refine ae ?_
 refine aY rfl rfl (by intro R hR;refine dM hR ?_;refine a₁ (cG b) ?_;refine a₁ ⟨pf,aE (by kernel_rfl) pf⟩ ?_;refine⟨u8s b,sv pf,b.length,sv pf,?_⟩;exact hR) rfl ?_
 refine ae ?_
 refine ar (List UInt8×Nat) (fun x=> [(5, .ms 0 1 0 (b.length + x.1.length)),(1, .int .u64 x.2)]) (fun x=> [(0,⟨5,1,true,0,u8s (b ++ x.1)⟩)]) 1 (fun x=>x.1 ++ bW x.2=bW n∧x.2 < 18446744073709551616) (fun x=>x.2) ([],n) ⟨rfl,hn⟩ (by dsimp only;rw [d₇,b₂];exact(vm [(0,_)] [])) ?_
 rintro⟨p,m⟩ ⟨hp,hm1⟩
 try dsimp only
 dsimp only at hp hm1
 refine ae ?_
 refine ad rfl ?_ ?_ <;> intro h
 ·have hm: ¬ m < 128:=by have:=ot h;omega
  have h2:=Aa hp hm
  have l2:=DF hp hn
  (have fct:=aT.mk (OY m);have fct:=aT.mk (Mc m);have fct:=aT.mk (HP m);refine ae ?_)
  refine aY rfl rfl (by intro R hR;refine dM hR ?_;(refine a₁ (a₇ _) ?_;refine⟨_,rfl,?_⟩;refine a₁ ⟨(by simp [u8s]),aE (by kernel_rfl) pf⟩ ?_;refine⟨u8s (b ++ (p ++ [UInt8.ofNat (m % 128 + 128)])),sv (by simp [u8s,cutL,setL,repM]),b.length + (p.length + 1),sv pf,?_⟩);exact hR) rfl ?_
  (have fct:=aT.mk (HP m);refine ae ?_)
  exact⟨(p ++ [UInt8.ofNat (m % 128 + 128)],m / 128),⟨h2,dm⟩,dm,by dsimp only;rw [a₀,a₆];exact(vm [(0,_)] [])⟩
 ·have hm:m < 128:=by have:=oF h;omega
  have l2:=DF hp hn
  rw [mQ hm] at hp
  have l3:(bW n).length=p.length + 1:=by rw [← hp];simp
  (have fct:=aT.mk (OY m);refine ae ?_)
  refine aY rfl rfl (by intro R hR;refine dM hR ?_;(refine a₁ (a₇ _) ?_;refine⟨_,rfl,?_⟩;refine a₁ ⟨(by simp [u8s]),aE (by kernel_rfl) pf⟩ ?_;refine⟨u8s (b ++ bW n),sv (by rw [← hp];simp [u8s,cutL,setL,repM]),b.length + (bW n).length,sv pf,?_⟩);exact hR) rfl ?_
  refine ae ?_
  exact eb [_] [(0,7)] []
theorem Fv (b:List UInt8) (n:Nat) (hb:b.length < 500000000) (hn:n < 18446744073709551616) :
  aH Tryz.prog G 253 [.sl b.length (u8s b), .int .u64 n] [] 0 (.ms 0 1 0 (b.length + (bW n).length)) (kI (b ++ bW n)) 1:=by
 unfold kI
 refine bR seat Tryz.func253 23 ?_
 refine ae ?_
 refine aY rfl rfl (by intro R hR;refine dM hR ?_;refine a₁ (cG b) ?_;refine a₁ (oX (by kernel_rfl) om) ?_;exact hR) rfl ?_
 refine ae ?_
 refine ar (List UInt8×Nat) (fun x=> [(5, .ms 0 1 0 (b.length + x.1.length)),(1, .int .u64 x.2)]) (fun x=> [(0,⟨5,1,true,0,u8s (b ++ x.1)⟩)]) 1 (fun x=>x.1 ++ bW x.2=bW n∧x.2 < 18446744073709551616) (fun x=>x.2) ([],n) ⟨rfl,hn⟩ (by dsimp only;rw [d₇,b₂];exact(vm [(0,_)] [])) ?_
 rintro⟨p,m⟩ ⟨hp,hm1⟩
 try dsimp only
 dsimp only at hp hm1
 refine ae ?_
 refine ad rfl ?_ ?_ <;> intro h
 ·have hm: ¬ m < 128:=by have:=ot h;omega
  have h2:=Aa hp hm
  have l2:=DF hp hn
  (have fct:=aT.mk (OY m);have fct:=aT.mk (Mc m);have fct:=aT.mk (HP m);refine ae ?_)
  refine aY rfl rfl (by intro R hR;refine dM hR ?_;(refine a₁ (a₇ _) ?_;refine⟨_,rfl,?_⟩;refine a₁ ⟨(by simp [u8s]),aE (by kernel_rfl) pf⟩ ?_;refine⟨u8s (b ++ (p ++ [UInt8.ofNat (m % 128 + 128)])),sv (by simp [u8s,cutL,setL,repM]),b.length + (p.length + 1),sv pf,?_⟩);exact hR) rfl ?_
  (have fct:=aT.mk (HP m);refine ae ?_)
  exact⟨(p ++ [UInt8.ofNat (m % 128 + 128)],m / 128),⟨h2,dm⟩,dm,by dsimp only;rw [a₀,a₆];exact(vm [(0,_)] [])⟩
 ·have hm:m < 128:=by have:=oF h;omega
  have l2:=DF hp hn
  rw [mQ hm] at hp
  have l3:(bW n).length=p.length + 1:=by rw [← hp];simp
  (have fct:=aT.mk (OY m);refine ae ?_)
  refine aY rfl rfl (by intro R hR;refine dM hR ?_;(refine a₁ (a₇ _) ?_;refine⟨_,rfl,?_⟩;refine a₁ ⟨(by simp [u8s]),aE (by kernel_rfl) pf⟩ ?_;refine⟨u8s (b ++ bW n),sv (by rw [← hp];simp [u8s,cutL,setL,repM]),b.length + (bW n).length,sv pf,?_⟩);exact hR) rfl ?_
  refine ae ?_
  exact eb [_] [(0,7)] []
end
section
variable {G:GS}
attribute [local irreducible] aj aC aG aL aO vC aU au
theorem Cf (x:UInt8):x &&& 127=UInt8.ofNat (x.toNat % 128):=HO (p:=fun x=>x &&& 127=UInt8.ofNat (x.toNat % 128)) (by decide +kernel) x
theorem lV (x:UInt8):IntKind.u8.wrap ((BitVec.ofInt IntKind.u8.bits (x.toNat:Int) &&& BitVec.ofInt IntKind.u8.bits (127:Int)).toNat:Int)=((x.toNat % 128:Nat):Int):=by
 have h:=Pf x 127;rw [Cf,UInt8.toNat_ofNat',b₅ (show x.toNat % 128 < 2 ^ 8 by omega)] at h;exact h
theorem Oe (i:Nat):2 ^ (7 * i)=128 ^ i:=by rw [Nat.pow_mul]
theorem DG {y i:Nat} (h:i≤8∧y < 128∨i=9∧y≤1):y * 128 ^ i + 128 ^ i≤18446744073709551616:=by
 rcases h with ⟨h1,h2⟩ | ⟨rfl,h2⟩
 ·have:128 ^ i≤128 ^ 8:=Nat.pow_le_pow_right om h1;have h3:y * 128 ^ i≤127 * 128 ^ i:=a₉ _ om;omega
 ·omega
theorem Ac {y i:Nat} (h:i≤8∧y < 128∨i=9∧y≤1):IntKind.u64.wrap ((y:Int) * 2 ^ (min (7 * (i:Int)).toNat IntKind.u64.bits))=((y * 128 ^ i:Nat):Int):=by
 have e:min (7 * (i:Int)).toNat IntKind.u64.bits=7 * i:=by simp [IntKind.bits];omega
 have hb:=DG h;have hp:0 < 128 ^ i:=Nat.pow_pos om;rw [e,wu64,show ((y:Int) * 2 ^ (7 * i))=((y * 128 ^ i:Nat):Int) by rw [← Oe,Int.natCast_mul,c₇];rfl];omega
theorem Md {n y i:Nat} (hn:n < 128 ^ i) (h:i≤8∧y < 128∨i=9∧y≤1):IntKind.u64.wrap ((BitVec.ofInt IntKind.u64.bits (n:Int) ||| BitVec.ofInt IntKind.u64.bits ((y * 128 ^ i:Nat):Int)).toNat:Int)=((n + y * 128 ^ i:Nat):Int):=by
 have hb:=DG h;have hp:0 < 128 ^ i:=Nat.pow_pos om;have e:n ||| y * 128 ^ i=n + y * 128 ^ i:=by
  rw [← Oe] at hn ⊢;have:=Nat.shiftLeft_add_eq_or_of_lt hn y;rw [Nat.shiftLeft_eq] at this;rw [Nat.or_comm,← this,Nat.add_comm]
 rw [BitVec.toNat_or,ei _ _ (show n < 2 ^ IntKind.u64.bits by show n < 18446744073709551616;omega),ei _ _ (show y * 128 ^ i < 2 ^ IntKind.u64.bits by show _ < 18446744073709551616;omega),e,wu64];omega
def nr (x:Nat×Nat×Nat):MV:= .tup [.int .u64 x.1, .int .i64 x.2.1, .int .i64 x.2.2]
theorem HQ {l:List UInt8} {k:Nat} (hk:k < l.length):cS (u8s l) l.length (k:Int)=some (.int .u8 l[k].toNat):=eh hk (by simp [u8s,hk])
theorem HR (b:List UInt8) (hb:b.length < 4000000000):aD Tryz.prog G 244 [.sl b.length (u8s b)] (nr (readS b 0 0)):=by
  unfold nr;generalize hr:readS b 0 0=r at *;obtain⟨r1,r2,r3⟩:=r;dsimp only;refine aZ seat Tryz.func244 53 ?_;refine ae ?_;refine ar (Nat×Nat) (fun x=> [(0, .sl b.length (u8s b)),(5, .int .u64 x.2),(6, .int .i64 x.1)]) (fun _=> []) 0 (fun x=>x.1≤9∧x.1≤b.length∧x.2 < 128 ^ x.1∧readS (b.drop x.1) x.1 x.2=(r1,r2,r3)) (fun x=>b.length - x.1) (0,0) ⟨dm,dm,dm,by dsimp only;rw [c₄];exact hr⟩ (by dsimp only;exact(vm [] [])) ?_;rintro⟨i,n⟩ ⟨hi,hib,hn,hR⟩;try dsimp only
  dsimp only at hi hib hn hR;refine ae ?_;refine ad rfl ?_ ?_ <;> intro h
  · have hi':i=b.length:=by have:=ot h;omega
    rw [c₈ om,readS] at hR;simp only [a₄] at hR;obtain⟨rfl,rfl,rfl⟩:=hR;refine ae ?_;refine av ?_;rfl
  · have hi':i < b.length:=by have:=oF h;omega
    have hel:=HQ hi';rw [List.drop_eq_getElem_cons hi',readS] at hR;generalize b[i] =x at *;have hx256:=x.toNat_lt;refine ae ?_;refine ah rfl rfl ?_ rfl ?_ <;> intro h
    · have h9:i=9:=by
        have:(i:Int)=9:=by simpa using h
        omega
      (have fct:=al.mk (hel);refine ae ?_);refine ad rfl ?_ ?_ <;> intro h
      · have hx:=ot h;rw [if_pos om] at hR;simp only [a₄] at hR;obtain⟨rfl,rfl,rfl⟩:=hR;refine ae ?_;refine av ?_;rfl
      · have hx:=oF h;rw [if_neg om] at hR;refine ae ?_;refine ah rfl rfl ?_ rfl ?_ <;> intro h
        · have h0:=ot h;(have fct:=al.mk (hel);refine ae ?_);refine ad rfl ?_ ?_ <;> intro h
          · have hx:x.toNat=0:=by simpa using h
            rw [if_pos om] at hR;simp only [a₄] at hR;obtain⟨rfl,rfl,rfl⟩:=hR;refine ae ?_;refine av ?_;rfl
          · have hx:x.toNat≠0:=by simpa using h
            rw [if_neg om] at hR;have hv:i≤8∧x.toNat % 128 < 128∨i=9∧x.toNat % 128≤1:=om;(have fct:=aT.mk (lV x);have fct:=aT.mk (Ac hv);have fct:=aT.mk (Md hn hv);have fct:=al.mk (hel);refine ae ?_);refine ad rfl ?_ ?_ <;> intro h
            · have hx:=ot h;rw [if_pos om] at hR;simp only [a₄] at hR;obtain⟨rfl,rfl,rfl⟩:=hR;refine ae ?_;refine av ?_;rw [b₅ (show x.toNat < 128 by omega)];rfl
            · have hx:=oF h;rw [if_neg om] at hR;refine ae ?_;refine⟨(i + 1,n + x.toNat % 128 * 128 ^ i),⟨dm,dm,?_,?_⟩,by show b.length - (i + 1) < b.length - i;omega,(by dsimp only;exact(vm [] []))⟩
              · have h3:x.toNat % 128 * 128 ^ i≤127 * 128 ^ i:=a₉ _ om;dsimp only;rw [c₆];omega
              · dsimp only;rw [show x.toNat % 128=x.toNat - 128 by omega];exact hR
        · have h0: ¬ (0:Int) < i:=by simpa using h
          rw [if_neg om] at hR;have hv:i≤8∧x.toNat % 128 < 128∨i=9∧x.toNat % 128≤1:=om;(have fct:=aT.mk (lV x);have fct:=aT.mk (Ac hv);have fct:=aT.mk (Md hn hv);have fct:=al.mk (hel);refine ae ?_);refine ad rfl ?_ ?_ <;> intro h
          · have hx:=ot h;rw [if_pos om] at hR;simp only [a₄] at hR;obtain⟨rfl,rfl,rfl⟩:=hR;refine ae ?_;refine av ?_;rw [b₅ (show x.toNat < 128 by omega)];rfl
          · have hx:=oF h;rw [if_neg om] at hR;refine ae ?_;refine⟨(i + 1,n + x.toNat % 128 * 128 ^ i),⟨dm,dm,?_,?_⟩,by show b.length - (i + 1) < b.length - i;omega,(by dsimp only;exact(vm [] []))⟩
            · have h3:x.toNat % 128 * 128 ^ i≤127 * 128 ^ i:=a₉ _ om;dsimp only;rw [c₆];omega
            · dsimp only;rw [show x.toNat % 128=x.toNat - 128 by omega];exact hR
    · have h9:i≠9:=by
        have: ¬ (i:Int)=9:=by simpa using h
        omega
      rw [if_neg om] at hR;refine ae ?_;refine ah rfl rfl ?_ rfl ?_ <;> intro h
      · have h0:=ot h;(have fct:=al.mk (hel);refine ae ?_);refine ad rfl ?_ ?_ <;> intro h
        · have hx:x.toNat=0:=by simpa using h
          rw [if_pos om] at hR;simp only [a₄] at hR;obtain⟨rfl,rfl,rfl⟩:=hR;refine ae ?_;refine av ?_;rfl
        · have hx:x.toNat≠0:=by simpa using h
          rw [if_neg om] at hR;have hv:i≤8∧x.toNat % 128 < 128∨i=9∧x.toNat % 128≤1:=om;(have fct:=aT.mk (lV x);have fct:=aT.mk (Ac hv);have fct:=aT.mk (Md hn hv);have fct:=al.mk (hel);refine ae ?_);refine ad rfl ?_ ?_ <;> intro h
          · have hx:=ot h;rw [if_pos om] at hR;simp only [a₄] at hR;obtain⟨rfl,rfl,rfl⟩:=hR;refine ae ?_;refine av ?_;rw [b₅ (show x.toNat < 128 by omega)];rfl
          · have hx:=oF h;rw [if_neg om] at hR;refine ae ?_;refine⟨(i + 1,n + x.toNat % 128 * 128 ^ i),⟨dm,dm,?_,?_⟩,by show b.length - (i + 1) < b.length - i;omega,(by dsimp only;exact(vm [] []))⟩
            · have h3:x.toNat % 128 * 128 ^ i≤127 * 128 ^ i:=a₉ _ om;dsimp only;rw [c₆];omega
            · dsimp only;rw [show x.toNat % 128=x.toNat - 128 by omega];exact hR
      · have h0: ¬ (0:Int) < i:=by simpa using h
        rw [if_neg om] at hR;have hv:i≤8∧x.toNat % 128 < 128∨i=9∧x.toNat % 128≤1:=om;(have fct:=aT.mk (lV x);have fct:=aT.mk (Ac hv);have fct:=aT.mk (Md hn hv);have fct:=al.mk (hel);refine ae ?_);refine ad rfl ?_ ?_ <;> intro h
        · have hx:=ot h;rw [if_pos om] at hR;simp only [a₄] at hR;obtain⟨rfl,rfl,rfl⟩:=hR;refine ae ?_;refine av ?_;rw [b₅ (show x.toNat < 128 by omega)];rfl
        · have hx:=oF h;rw [if_neg om] at hR;refine ae ?_;refine⟨(i + 1,n + x.toNat % 128 * 128 ^ i),⟨dm,dm,?_,?_⟩,by show b.length - (i + 1) < b.length - i;omega,(by dsimp only;exact(vm [] []))⟩
          · have h3:x.toNat % 128 * 128 ^ i≤127 * 128 ^ i:=a₉ _ om;dsimp only;rw [c₆];omega
          · dsimp only;rw [show x.toNat % 128=x.toNat - 128 by omega];exact hR
end
section
variable {G:GS}
attribute [local irreducible] aj aC aG aL aO vC aU au
def db (f:fA):MV:= .st [.int .i64 f.num, .int .i64 f.kind, .int .u64 f.val, .sl f.bytes.length (u8s f.bytes)]
theorem cut_u8 (b:List UInt8) (x y:Nat):cutL (u8s b) x y=u8s ((b.drop x).take (y - x)):=by simp [cutL,u8s]
theorem Ad (b:List UInt8) (x y:Nat):bE (cutL (u8s b) x y) 1=true:=by rw [cut_u8];exact cG _
theorem gm {n k:Nat} {κ:IntKind} (h:k≤n):cF n (some (.int κ (k:Int))) none=some (k,n):=by
 unfold cF;dsimp only;rw [if_pos ⟨om,om⟩];simp
theorem nt {n k:Nat} {κ:IntKind} (h:k≤n):cF n none (some (.int κ (k:Int)))=some (0,k):=by
 unfold cF;dsimp only;rw [if_pos ⟨om,om⟩];simp
theorem MI {n lo hi:Nat} {a c:Int} {κ κ':IntKind} (ha:a=lo) (hc:c=hi) (h1:lo≤hi) (h2:hi≤n):cF n (some (.int κ a)) (some (.int κ' c))=some (lo,hi):=by
 subst ha hc;unfold cF;dsimp only;rw [if_pos ⟨om,om⟩];dsimp only;rw [if_pos ⟨om,by simp;omega⟩];simp
theorem Me (a b:Nat):(a:Int).tmod (b:Int)=((a % b:Nat):Int):=by
 rw [Int.tmod_eq_emod_of_nonneg om];exact(b₈ a b).symm
theorem Ae {a:Nat} (b:Nat) (ha:a < 18446744073709551616):IntKind.u64.wrap ((a:Int).tdiv (b:Int))=((a / b:Nat):Int):=by
 have:=d₈ a b;rw [Int.tdiv_eq_ediv_of_nonneg om,← b₉,wu64];generalize a / b=c at *;omega
theorem HT {b:List UInt8} (hb:b.length < 4000000000) {n:Nat} {r:Nat×Nat×Nat} (h:readS (b.drop n) 0 0=r):aD Tryz.prog G 244 [.sl (b.length - n) (cutL (u8s b) n b.length)] (nr r):=by
 have:=HR (G:=G) (b.drop n) (by rw [a₃];omega);rw [h,a₃] at this;rw [cut_u8,b₀ (by rw [a₃];omega)];exact this
theorem Of (b:List UInt8) (hb:b.length < 1000000000):aH Tryz.prog G 217 [.sl b.length (u8s b)] [] 0 (.tup [db (eL b).1, .int .i64 (eL b).2.1, .int .i64 (eL b).2.2]) [] 0:=by
  have c1:=HR (G:=G) b om;have h1ok:=kH b 0 0 om om;generalize hr:eL b=r at *;obtain⟨f,m,e⟩:=r;have hR:=hr;unfold eL at hR;generalize readS b 0 0=t at *;obtain⟨T,n,e1⟩:=t;dsimp only at hR h1ok;unfold nr at c1;unfold db;dsimp only at c1;dsimp only;refine bR seat Tryz.func217 98 ?_;refine ae ?_;refine cC (c1) ?_;refine ad rfl ?_ ?_ <;> intro h
  · have he1:e1≠0:=by intro h0;subst h0;cases h
    rw [if_pos he1] at hR;simp only [a₄] at hR;obtain⟨rfl,rfl,rfl⟩:=hR;refine ae ?_;refine av ?_;exact en [_,_,_]
  have he1:e1=0:=by
    have:(e1:Int)=0:=by simpa using h
    omega
  subst he1;have hT:=(h1ok rfl).2.2;rw [if_neg sm] at hR;have hmod:(T:Int).tmod 8=((T % 8:Nat):Int):=Me T 8;have hdiv:IntKind.u64.wrap ((T:Int).tdiv 8)=((T / 8:Nat):Int):=Ae 8 hT;have h2ok:=kH (b.drop n) 0 0 om om;generalize hr2:readS (b.drop n) 0 0=t2 at *;obtain⟨v,k,e2⟩:=t2;have c2:=HT (G:=G) (b:=b) om hr2;unfold nr at c2;dsimp only at hR c2 h2ok;generalize hD:T / 8=D at *;generalize hK:T % 8=K at *;(have fct:=aT.mk (hmod);have fct:=aT.mk (hdiv);refine ae ?_);refine ah rfl rfl ?_ rfl ?_ <;> intro h
  · have hD1: ¬ (D:Int) < 1:=by simpa using h
    (have fct:=aT.mk (hdiv);refine ae ?_);refine ah rfl rfl ?_ rfl ?_ <;> intro h
    · have hD3: ¬ (536870911:Int) < D:=by simpa using h
      refine ae ?_;refine ah rfl rfl ?_ rfl ?_ <;> intro h
      · have hK0:K≠0:=by
          have: ¬ (K:Int)=0:=by simpa using h
          omega
        refine ae ?_;refine ad rfl ?_ ?_ <;> intro h
        · have hK2:K≠2:=by
            have: ¬ (K:Int)=2:=by simpa using h
            omega
          rw [if_pos om] at hR;simp only [a₄] at hR;obtain⟨rfl,rfl,rfl⟩:=hR;refine ae ?_;refine av ?_;exact en [_,_,_]
        have hK2:K=2:=by
          have:(K:Int)=2:=by simpa using h
          omega
        subst hK2;rw [if_neg om] at hR;have hD2:IntKind.u64.wrap ((T:Int).tdiv 8)=(D:Int):=hdiv;have hnb:n≤b.length:=by have:=h1ok rfl;omega
        (have fct:=aT.mk (hdiv);have fct:=al.mk (gm (κ:= .i64) hnb);have fct:=bN.mk (cG b);refine ae ?_);refine cC (c2) ?_;refine ad rfl ?_ ?_ <;> intro h
        · have he2:e2≠0:=by intro h0;subst h0;cases h
          rw [if_pos he2] at hR;simp only [a₄] at hR;obtain⟨rfl,rfl,rfl⟩:=hR;refine ae ?_;refine av ?_;exact en [_,_,_]
        have he2:e2=0:=by
          have:(e2:Int)=0:=by simpa using h
          omega
        subst he2;have hk:=h2ok rfl;rw [a₃] at hk;rw [if_neg sm] at hR;rw [if_neg om] at hR;refine ae ?_;refine ad rfl ?_ ?_ <;> intro h
        · have hv:=ot h;rw [if_pos om] at hR;simp only [a₄] at hR;obtain⟨rfl,rfl,rfl⟩:=hR;refine ae ?_;refine av ?_;exact en [_,_,_]
        have hv:=oF h;rw [if_neg om] at hR;simp only [a₄] at hR;obtain⟨rfl,rfl,rfl⟩:=hR;have hbn:cF b.length (some (.int .i64 ((n:Int) + k))) (some (.int .i64 ((n:Int) + k + v)))=some (n + k,n + k + v):=MI om om om om;have hl:((b.drop (n + k)).take v).length=v:=by rw [c₀,a₃];omega
        (have fct:=al.mk (hbn);have fct:=bN.mk (cG b);refine ae ?_);refine aY rfl rfl (by intro R hR;refine dM hR ?_;refine a₁ (Ad b _ _) ?_;refine a₁ ⟨sm,aE (by kernel_rfl) pf⟩ ?_;refine⟨u8s ((b.drop (n + k)).take v),sv (by rw [cut_u8,show n + k + v - (n + k)=v by omega];simp),v,sv pf,?_⟩;exact hR) rfl ?_;refine ae ?_;refine av ?_;rw [show ((n + k + v:Nat):Int)=(n:Int) + k + v by omega];dsimp only;rw [hl];refine⟨[_,_,_],[],[(75,v)],rfl,rfl,?_,rfl,⟨?_,?_,?_,trivial⟩,?_⟩
        · exact⟨by show v≤(u8s ((b.drop (n + k)).take v)).length;rw [show (u8s ((b.drop (n + k)).take v)).length=v by simp only [u8s,c₂];exact hl];exact a₇ _,trivial⟩
        · exact .inr ⟨_,rfl,⟨rfl,rfl⟩,⟨rfl,rfl⟩,⟨rfl,rfl⟩, .inr ⟨rfl,rfl,rfl,d₁ (d₂ _),by simp [cutL,u8s,List.take_take]⟩,trivial⟩
        · exact rv
        · exact rv
        · exact mm
      · have hK0:K=0:=by
          have:(K:Int)=0:=by simpa using h
          omega
        subst hK0;rw [if_neg om] at hR;have hD2:IntKind.u64.wrap ((T:Int).tdiv 8)=(D:Int):=hdiv;have hnb:n≤b.length:=by have:=h1ok rfl;omega
        (have fct:=aT.mk (hdiv);have fct:=al.mk (gm (κ:= .i64) hnb);have fct:=bN.mk (cG b);refine ae ?_);refine cC (c2) ?_;refine ad rfl ?_ ?_ <;> intro h
        · have he2:e2≠0:=by intro h0;subst h0;cases h
          rw [if_pos he2] at hR;simp only [a₄] at hR;obtain⟨rfl,rfl,rfl⟩:=hR;refine ae ?_;refine av ?_;exact en [_,_,_]
        have he2:e2=0:=by
          have:(e2:Int)=0:=by simpa using h
          omega
        subst he2;have hk:=h2ok rfl;rw [a₃] at hk;rw [if_neg sm] at hR;rw [if_pos rfl] at hR;simp only [a₄] at hR;obtain⟨rfl,rfl,rfl⟩:=hR;refine ae ?_;refine av ?_;exact en [_,_,_]
    · have hD3:(536870911:Int) < D:=by simpa using h
      rw [if_pos om] at hR;refine ae ?_;simp only [a₄] at hR;obtain⟨rfl,rfl,rfl⟩:=hR;refine ae ?_;refine av ?_;exact en [_,_,_]
  · have hD1:(D:Int) < 1:=by simpa using h
    rw [if_pos om] at hR;refine ae ?_;simp only [a₄] at hR;obtain⟨rfl,rfl,rfl⟩:=hR;refine ae ?_;refine av ?_;exact en [_,_,_]
end
section
variable {G:GS}
attribute [local irreducible] aj aC aG aL aO vC aU au
theorem KO {b:List UInt8} (hb:b.length < 1000000000) {n:Nat}:aH Tryz.prog G 217 [.sl (b.length - n) (cutL (u8s b) n b.length)] [] 0 (.tup [db (eL (b.drop n)).1, .int .i64 (eL (b.drop n)).2.1, .int .i64 (eL (b.drop n)).2.2]) [] 0:=by
 have:=Of (G:=G) (b.drop n) (by rw [a₃];omega);rw [a₃] at this;rw [cut_u8,b₀ (by rw [a₃];omega)];exact this
theorem lW (k at_:Nat) (acc:List fA):eU k [] at_ acc=(acc,0,0):=by cases k <;> rfl
theorem kJ {b:List UInt8} (h:b≠ []) (at_:Nat) (acc:List fA):eU 0 b at_ acc=([],at_,3):=by
 cases b with
 | nil=>exact absurd rfl h
 | cons x b=>rfl
theorem kK {b:List UInt8} (h:b≠ []) (k at_:Nat) (acc:List fA):eU (k + 1) b at_ acc=if (eL b).2.2≠0 then([],at_,(eL b).2.2) else eU k (b.drop (eL b).2.1) (at_ + (eL b).2.1) (acc ++ [(eL b).1]):=by
 cases b with
 | nil=>exact absurd rfl h
 | cons x b=>rw [eU]
theorem DH {b:List UInt8} {n:Nat} (h:n < b.length):b.drop n≠ [] :=by
 intro h0;have:=congrArg List.length h0;rw [a₃] at this;simp at this;omega
theorem Af (b:List UInt8) (hb:b.length < 1000000000):aH Tryz.prog G 171 [.sl b.length (u8s b)] [] 0 (.tup [.sl (aJ b).1.length ((aJ b).1.map db), .int .i64 (aJ b).2.1, .int .i64 (aJ b).2.2]) [] 0:=by
  generalize hr:aJ b=r;obtain⟨l,at1,e1⟩:=r;dsimp only;refine bR seat Tryz.func171 38 ?_;refine ae ?_;refine ar (Nat×List fA) (fun x=> [(6, .int .i64 x.1),(5, .ms 0 4 0 x.2.length),(0, .sl b.length (u8s b))]) (fun x=> [(0,⟨188,4,true,0,x.2.map db⟩)]) 1 (fun x=>x.1≤b.length∧x.2.length≤1024∧eU (1024 - x.2.length) (b.drop x.1) x.1 x.2=(l,at1,e1)) (fun x=>b.length - x.1) (0,[]) ⟨a₈ _,a₈ _,by dsimp only;rw [c₄];exact hr⟩ (by dsimp only;exact(vm [] [])) ?_;rintro⟨i,acc⟩ ⟨hi,ha,hG⟩;try dsimp only
  dsimp only at hi ha hG;refine ae ?_;refine ad rfl ?_ ?_ <;> intro h
  · have hi':i < b.length:=by have:=ot h;omega
    have hne:=DH hi';refine ae ?_;refine ad rfl ?_ ?_ <;> intro h
    · have h4:acc.length=1024:=by have:=ot h;omega
      rw [h4,Nat.sub_self,kJ hne] at hG;simp only [a₄] at hG;obtain⟨rfl,rfl,rfl⟩:=hG;refine ae ?_;exact en [_,_,_]
    · have h4:acc.length < 1024:=by have:=oF h;omega
      have c1:=KO (G:=G) hb (n:=i);have hok:=Ce (b:=b.drop i);rw [show 1024 - acc.length=(1023 - acc.length) + 1 by omega,kK hne] at hG;generalize eL (b.drop i)=o at *;obtain⟨f,m,e⟩:=o;dsimp only at c1 hok hG;(have fct:=al.mk (gm (κ:= .i64) hi);have fct:=bN.mk (cG b);refine ae ?_);refine jS (c1) ?_;refine ad rfl ?_ ?_ <;> intro h
      · have he:e≠0:=by intro h0;subst h0;cases h
        rw [if_pos he] at hG;simp only [a₄] at hG;obtain⟨rfl,rfl,rfl⟩:=hG;refine ae ?_;exact en [_,_,_]
      · have he:e=0:=by
          have:(e:Int)=0:=by simpa using h
          omega
        subst he;rw [if_neg sm,c₉] at hG;have hok:=hok rfl;rw [a₃] at hok;refine ae ?_;refine aY rfl rfl (by intro R hR;refine dM hR ?_;(refine a₁ (a₇ _) ?_;refine⟨_,rfl,?_⟩;refine a₁ ⟨sm,aE (by kernel_rfl) pf⟩ ?_;refine⟨(acc ++ [f]).map db,sv (by simp;rfl),acc.length + 1,sv pf,?_⟩);exact hR) rfl ?_;refine ae ?_;refine⟨(i + m,acc ++ [f]),⟨dm,by dsimp only;rw [a₀,a₆];omega,?_⟩,by show b.length - (i + m) < b.length - i;omega,?_⟩
        · dsimp only;rw [a₀,a₆,show 1024 - (acc.length + 1)=1023 - acc.length by omega];exact hG
        · dsimp only;rw [a₀,a₆];exact(vm [(0,_)] [])
  · have hi':b.length≤i:=by have:=oF h;omega
    rw [c₈ hi',lW] at hG;simp only [a₄] at hG;obtain⟨rfl,rfl,rfl⟩:=hG;refine ae ?_;refine⟨[_,_,_],[],[(0,acc.length)],rfl,rfl,?_,rfl,⟨?_,?_,?_,trivial⟩,?_⟩
    · exact⟨by show acc.length≤(acc.map db).length;simp,trivial⟩
    · exact .inr ⟨rfl,rfl,rfl,d₁ (d₂ _),bT db acc⟩
    · exact rv
    · exact rv
    · exact mm
end
section
variable {G:GS}
attribute [local irreducible] aj aC aG aL aO vC aU au
theorem Ah {f:fA} (h:f.kind=0):bS f=bW (f.num * 8 + f.kind) ++ bW f.val:=by unfold bS;rw [if_pos h]
theorem Ai {f:fA} (h:f.kind=2):bS f=bW (f.num * 8 + f.kind) ++ (bW f.bytes.length ++ f.bytes):=by unfold bS;rw [if_neg om]
theorem KP (f:fA) (hf:jw f):aD Tryz.prog G 190 [db f] (.bool true):=by
 obtain⟨num,kind,val,bytes⟩:=f;obtain⟨h1,h2,h3⟩:=hf;dsimp only at h1 h2 h3;unfold db;dsimp only;refine aZ seat Tryz.func190 30 ?_;refine ae ?_;refine ah rfl rfl ?_ rfl ?_ <;> intro h
 rotate_left
 ·exfalso;have:(num:Int) < 1:=by simpa using h
  omega
 refine ae ?_;refine ad rfl ?_ ?_ <;> intro h
 ·exfalso;have:=ot h;omega
 rcases h3 with ⟨rfl,rfl,hv⟩ | ⟨rfl,rfl,hv⟩
 ·refine ae ?_;refine av ?_;rfl
 ·refine ae ?_;refine av ?_;rfl
theorem HU (f:fA) (hf:jw f):aD Tryz.prog G 252 [db f] (.bool true):=by
 obtain⟨num,kind,val,bytes⟩:=f;obtain⟨h1,h2,h3⟩:=hf;dsimp only at h1 h2 h3;unfold db;dsimp only;refine aZ seat Tryz.func252 30 ?_;refine ae ?_;refine ah rfl rfl ?_ rfl ?_ <;> intro h
 rotate_left
 ·exfalso;have:(num:Int) < 1:=by simpa using h
  omega
 refine ae ?_;refine ad rfl ?_ ?_ <;> intro h
 ·exfalso;have:=ot h;omega
 rcases h3 with ⟨rfl,rfl,hv⟩ | ⟨rfl,rfl,hv⟩
 ·refine ae ?_;refine av ?_;rfl
 ·refine ae ?_;refine av ?_;rfl
theorem MJ (f:fA) (hf:jw f):aD Tryz.prog G 254 [db f] (.int .u64 ((f.num * 8 + f.kind:Nat):Int)):=by
 obtain⟨num,kind,val,bytes⟩:=f;obtain⟨h1,h2,h3⟩:=hf;dsimp only at h1 h2 h3;unfold db;dsimp only;refine aZ seat Tryz.func254 10 ?_;refine ae ?_;refine av ?_;exact congrArg (MV.int .u64) om
theorem tJ (b:List UInt8) (n:Nat) (hb:b.length < 500000000) (hn:n < 18446744073709551616) :
  aH Tryz.prog G 145 [.sl b.length (u8s b), .int .u64 n] [] 0 (.ms 0 1 0 (b ++ bW n).length) (kI (b ++ bW n)) 1:=by
 rw [a₀];exact Ab b n hb hn
theorem qh (b:List UInt8) (n:Nat) (hb:b.length < 500000000) (hn:n < 18446744073709551616) :
  aH Tryz.prog G 253 [.sl b.length (u8s b), .int .u64 n] [] 0 (.ms 0 1 0 (b ++ bW n).length) (kI (b ++ bW n)) 1:=by
 rw [a₀];exact Fv b n hb hn
theorem KQ (b:List UInt8) (f:fA) (hf:jw f) (hb:b.length + f.bytes.length < 400000000) :
  aH Tryz.prog G 158 [.sl b.length (u8s b),db f] [] 0 (.tup [.ms 0 1 0 (b ++ bS f).length, .int .i64 0]) (kI (b ++ bS f)) 1:=by
 have hr:=KP (G:=G) f hf
 obtain⟨num,kind,val,bytes⟩:=f
 obtain⟨h1,h2,h3⟩:=hf
 dsimp only at h1 h2 h3
 have l1:=da (n:=num * 8 + kind) om
 have c1:=tJ (G:=G) b (num * 8 + kind) (by dsimp only at hb;omega) om
 have e0:=Ah (f:=⟨num,kind,val,bytes⟩)
 have e2:=Ai (f:=⟨num,kind,val,bytes⟩)
 unfold kI at *
 unfold db at *
 dsimp only at hr hb e0 e2
 dsimp only
 generalize hp:b ++ bW (num * 8 + kind)=p at *
 refine bR seat Tryz.func158 36 ?_
 refine ae ?_
 refine yv (hr) ?_
 have hpl:p.length≤b.length + 10:=by rw [← hp,a₀];omega
 refine ae ?_
 refine yc (c1) [] ?_
 refine ae ?_
 rcases h3 with ⟨rfl,rfl,hv⟩ | ⟨rfl,rfl,hv⟩
 ·have c2:=tJ (G:=G) p val om hv
  rw [e0 rfl,← a₅,hp]
  unfold kI at c2
  generalize p ++ bW val=q at *
  refine ae ?_
  refine bQ rfl (fun _ h=>h) rfl (c2) [] [(14,p.length)] ⟨rfl,mm,rfl,lm,mm⟩ rfl rfl ?_
  refine ae ?_
  exact eb [_,_] [(0,22)] []
 ·have c2:=tJ (G:=G) p bytes.length om hv
  rw [e2 rfl,← a₅,hp,← a₅]
  have hql:(p ++ bW bytes.length).length≤p.length + 10:=by rw [a₀];have:=(da hv).2;omega
  unfold kI at c2
  generalize p ++ bW bytes.length=q at *
  refine ae ?_
  refine aw [ag 0,ag 1,ag 2,ag 3,ag 4,de 5,ag 6,ag 7,ag 8,ag 9,ag 10] ?_
  refine ae ?_
  refine bG rfl (fun _ h=>h) rfl [14] (c2) [] [(14,p.length)] ⟨rfl,mm,rfl,lm,mm⟩ rfl rfl rfl rfl rfl ?_
  refine ae ?_
  refine bO rfl (by intro R hR;refine dM hR ?_;refine a₁ (cG bytes) ?_;refine a₁ ⟨(by simp [u8s]),aE (by kernel_rfl) pf⟩ ?_;refine⟨u8s (q ++ bytes),sv (by simp [u8s]),(q ++ bytes).length,sv pf,?_⟩;exact hR) rfl ?_
  refine ae ?_
  exact eb [_,_] [(0,27)] []
theorem HV (b:List UInt8) (f:fA) (hf:jw f) (hb:b.length + f.bytes.length < 400000000) :
  aH Tryz.prog G 247 [.sl b.length (u8s b),db f] [] 0 (.tup [.ms 0 1 0 (b ++ bS f).length, .int .i64 0]) (kI (b ++ bS f)) 1:=by
 have hr:=HU (G:=G) f hf
 have ht:=MJ (G:=G) f hf
 obtain⟨num,kind,val,bytes⟩:=f
 obtain⟨h1,h2,h3⟩:=hf
 dsimp only at h1 h2 h3
 have l1:=da (n:=num * 8 + kind) om
 have c1:=qh (G:=G) b (num * 8 + kind) (by dsimp only at hb;omega) om
 have e0:=Ah (f:=⟨num,kind,val,bytes⟩)
 have e2:=Ai (f:=⟨num,kind,val,bytes⟩)
 unfold kI at *
 unfold db at *
 dsimp only at hr ht hb e0 e2
 dsimp only
 generalize hp:b ++ bW (num * 8 + kind)=p at *
 refine bR seat Tryz.func247 30 ?_
 refine ae ?_
 refine cC (hr) ?_
 refine yv (ht) ?_
 have hpl:p.length≤b.length + 10:=by rw [← hp,a₀];omega
 refine ae ?_
 refine yc (c1) [] ?_
 refine ae ?_
 rcases h3 with ⟨rfl,rfl,hv⟩ | ⟨rfl,rfl,hv⟩
 ·have c2:=qh (G:=G) p val om hv
  rw [e0 rfl,← a₅,hp]
  unfold kI at c2
  generalize p ++ bW val=q at *
  refine ae ?_
  refine bQ rfl (fun _ h=>h) rfl (c2) [] [(7,p.length)] ⟨rfl,mm,rfl,lm,mm⟩ rfl rfl ?_
  refine ae ?_
  exact eb [_,_] [(0,15)] []
 ·have c2:=qh (G:=G) p bytes.length om hv
  rw [e2 rfl,← a₅,hp,← a₅]
  have hql:(p ++ bW bytes.length).length≤p.length + 10:=by rw [a₀];have:=(da hv).2;omega
  unfold kI at c2
  generalize p ++ bW bytes.length=q at *
  refine ae ?_
  refine aw [ag 0,ag 1,ag 2,ag 3,ag 4,de 5,ag 6,ag 7,ag 8,ag 9,ag 10] ?_
  refine ae ?_
  refine bG rfl (fun _ h=>h) rfl [7] (c2) [] [(7,p.length)] ⟨rfl,mm,rfl,lm,mm⟩ rfl rfl rfl rfl rfl ?_
  refine ae ?_
  refine bO rfl (by intro R hR;refine dM hR ?_;refine a₁ (cG bytes) ?_;refine a₁ ⟨(by simp [u8s]),aE (by kernel_rfl) pf⟩ ?_;refine⟨u8s (q ++ bytes),sv (by simp [u8s]),(q ++ bytes).length,sv pf,?_⟩;exact hR) rfl ?_
  refine ae ?_
  exact eb [_,_] [(0,20)] []
end
section
variable {G:GS}
structure W8 where
 a:UInt32
 b:UInt32
 c:UInt32
 d:UInt32
 e:UInt32
 f:UInt32
 g:UInt32
 h:UInt32
def W8.toM (s:W8):MV:= .arr 8 1 [du s.a,du s.b,du s.c,du s.d,du s.e,du s.f,du s.g,du s.h]
def gq (x:UInt32) (n:Nat):UInt32:=(x >>> UInt32.ofNat n) ||| (x <<< UInt32.ofNat (32 - n))
def kL:List UInt32:= [1116352408,1899447441,3049323471,3921009573,961987163,1508970993,2453635748,2870763221,3624381080,310598401,607225278,1426881987,1925078388,2162078206,2614888103,3248222580,3835390401,4022224774,264347078,604807628,770255983,1249150122,1555081692,1996064986,2554220882,2821834349,2952996808,3210313671,3336571891,3584528711,113926993,338241895,666307205,773529912,1294757372,1396182291,1695183700,1986661051,2177026350,2456956037,2730485921,2820302411,3259730800,3345764771,3516065817,3600352804,4094571909,275423344,430227734,506948616,659060556,883997877,958139571,1322822218,1537002063,1747873779,1955562222,2024104815,2227730452,2361852424,2428436474,2756734187,3204031479,3329325298]
def wsM (l:List UInt32):MV:= .arr 64 1 (l.map du)
def PY (b:List UInt8) (k:Nat):UInt32:=(b.getD (4 * k) 0).toUInt32 <<< UInt32.ofNat 24 ||| (b.getD (4 * k + 1) 0).toUInt32 <<< UInt32.ofNat 16 ||| (b.getD (4 * k + 2) 0).toUInt32 <<< UInt32.ofNat 8 ||| (b.getD (4 * k + 3) 0).toUInt32
def tK (b:List UInt8):Nat→List UInt32
 | 0=>a₂ 64 0
 | t + 1=>(tK b t).set t (PY b t)
def Og (l:List UInt32) (t:Nat):UInt32:=
 (gq (l.getD (t - 2) 0) 17 ^^^ gq (l.getD (t - 2) 0) 19 ^^^ l.getD (t - 2) 0 >>> UInt32.ofNat 10) + l.getD (t - 7) 0 + (gq (l.getD (t - 15) 0) 7 ^^^ gq (l.getD (t - 15) 0) 18 ^^^ l.getD (t - 15) 0 >>> UInt32.ofNat 3) + l.getD (t - 16) 0
def nu (b:List UInt8):Nat→List UInt32
 | 0=>tK b 16
 | t + 1=>(nu b t).set (16 + t) (Og (nu b t) (16 + t))
theorem mR (b:List UInt8): ∀t,(tK b t).length=64
 | 0=>by simp [tK]
 | t + 1=>by simp [tK,mR b t]
theorem jU (b:List UInt8): ∀t,(nu b t).length=64
 | 0=>mR b 16
 | t + 1=>by simp [nu,jU b t]
def KR (k w:UInt32) (s:W8):UInt32:=s.h + (gq s.e 6 ^^^ gq s.e 11 ^^^ gq s.e 25) + (s.e &&& s.f ^^^ ~~~s.e &&& s.g) + k + w
def Oh (s:W8):UInt32:=(gq s.a 2 ^^^ gq s.a 13 ^^^ gq s.a 22) + (s.a &&& s.b ^^^ s.a &&& s.c ^^^ s.b &&& s.c)
def Cg (k w:UInt32) (s:W8):W8:=⟨KR k w s + Oh s,s.a,s.b,s.c,s.d + KR k w s,s.e,s.f,s.g⟩
def iV (k w:List UInt32) (s:W8):Nat→W8
 | 0=>s
 | t + 1=>Cg (k.getD t 0) (w.getD t 0) (iV k w s t)
def Fw (h s:W8):Nat→W8
 | 0=>h
 | 1=>⟨h.a + s.a,h.b,h.c,h.d,h.e,h.f,h.g,h.h⟩
 | 2=>⟨h.a + s.a,h.b + s.b,h.c,h.d,h.e,h.f,h.g,h.h⟩
 | 3=>⟨h.a + s.a,h.b + s.b,h.c + s.c,h.d,h.e,h.f,h.g,h.h⟩
 | 4=>⟨h.a + s.a,h.b + s.b,h.c + s.c,h.d + s.d,h.e,h.f,h.g,h.h⟩
 | 5=>⟨h.a + s.a,h.b + s.b,h.c + s.c,h.d + s.d,h.e + s.e,h.f,h.g,h.h⟩
 | 6=>⟨h.a + s.a,h.b + s.b,h.c + s.c,h.d + s.d,h.e + s.e,h.f + s.f,h.g,h.h⟩
 | 7=>⟨h.a + s.a,h.b + s.b,h.c + s.c,h.d + s.d,h.e + s.e,h.f + s.f,h.g + s.g,h.h⟩
 | _=>⟨h.a + s.a,h.b + s.b,h.c + s.c,h.d + s.d,h.e + s.e,h.f + s.f,h.g + s.g,h.h + s.h⟩
def nP (h:W8) (b:List UInt8):W8:=Fw h (iV kL (nu b 48) h 64) 8
theorem hY {l:List MV} {n:Nat} {j:Int} {x:MV} (k:Nat) (hj:j=k) (hk:k < n) (hx:l[k]? =some x):cS l n j=some x:=by
 subst hj;exact eh hk hx
theorem fK {n:Nat} {j:Int} (k:Nat) (hj:j=k) (hk:k < n):Dg n j=some k:=by
 subst hj;exact ca hk
theorem nv {b:List UInt8} {k:Nat} (h:k < b.length):(u8s b)[k]? =some (KJ (b.getD k 0)):=by simp [u8s,h]
theorem iy {l:List UInt32} {k:Nat} (h:k < l.length):fb (wsM l) ([] ++ [k]) (0 + k * 1)=some (du (l.getD k 0)):=by
 show(match bH (l.map du) k with | some m=>bif c₅ (k * 1) (0 + k * 1) then fb m [] (0 + k * 1 - k * 1) else none | none=>none)=_
 have e:bH (l.map du) k=some (du (l.getD k 0)):=by rw [bD];simp [h]
 rw [e];have e2:c₅ (k * 1) (0 + k * 1)=true:=sm;simp only [e2,cond_true];simp [fb]
theorem xO {l:List UInt32} {k:Nat} (h:k < l.length) (x:UInt32):fL (wsM l) ([] ++ [k]) (0 + k * 1) (du x)=some (wsM (l.set k x)):=by
 show(match bH (l.map du) k with | some m=>bif c₅ (k * 1) (0 + k * 1) && (du x).idFree then(match fL m [] (0 + k * 1 - k * 1) (du x) with | some m'=>some (MV.arr 64 1 (setL (l.map du) k m')) | none=>none) else none | none=>none)=_
 have e:bH (l.map du) k=some (du (l.getD k 0)):=by rw [bD];simp [h]
 rw [e];have e2:c₅ (k * 1) (0 + k * 1)=true:=sm;simp only [e2];simp [fL,setL_eq,MV.idFree,MV.size,MV.isAgg,wsM,List.map_set]
def W8.nth (s:W8):Nat→UInt32
 | 0=>s.a
 | 1=>s.b
 | 2=>s.c
 | 3=>s.d
 | 4=>s.e
 | 5=>s.f
 | 6=>s.g
 | _=>s.h
theorem HW (s:W8) {i:Nat} (hi:i < 8):fb s.toM ([] ++ [i]) (0 + i * 1)=some (du (s.nth i)):=by
 have h8:i=0∨i=1∨i=2∨i=3∨i=4∨i=5∨i=6∨i=7:=om;rcases h8 with rfl | rfl | rfl | rfl | rfl | rfl | rfl | rfl <;> rfl
theorem Oi (h s:W8) {i:Nat} (hi:i < 8):fL (Fw h s i).toM ([] ++ [i]) (0 + i * 1) (du ((Fw h s i).nth i + s.nth i))=some (Fw h s (i + 1)).toM:=by
 have h8:i=0∨i=1∨i=2∨i=3∨i=4∨i=5∨i=6∨i=7:=om;rcases h8 with rfl | rfl | rfl | rfl | rfl | rfl | rfl | rfl <;> rfl
theorem jx (x:UInt32) (n:Nat) (h0:0 < n) (h1:n < 32):aD Tryz.prog G 114 [du x, .int .i64 n] (du (gq x n)):=by
 refine aZ seat Tryz.func114 13 ?_;refine aP ?_;refine⟨[ag 0,ag 1,ag 2,ag 3,ag 4,ag 5,ag 6,ag 7,ag 8],?_⟩;refine⟨om,_,sv (tI x n h1),?_⟩;refine⟨((32 - n:Nat):Int),sv ((dW _ om om).trans om),?_⟩;refine⟨om,_,sv (HL x (32 - n) om),?_⟩;refine aP ?_;rfl
theorem constants_m:aD Tryz.prog G 115 [] (wsM kL):=by
 refine aZ seat Tryz.func115 2 ?_;refine aP ?_;rfl
theorem KS (h:W8) (b:List UInt8) (hb:b.length=64):aD Tryz.prog G 69 [h.toM, .sl 64 (u8s b)] (nP h b).toM:=by
 unfold nP;refine aZ seat Tryz.func69 193 ?_;refine aP ?_;refine⟨Nat,fun t=> [(6, .int .i64 t),(5, .ptr 2 64 0 0 []),(4, .ptr 1 8 0 0 []),(2, .ptr 0 8 0 0 []),(1, .sl 64 (u8s b))],fun t=> [(0,⟨119,8,false,0,[h.toM]⟩),(1,⟨119,8,false,0,[W8.toM ⟨0,0,0,0,0,0,0,0⟩]⟩),(2,⟨159,64,false,0,[wsM (tK b t)]⟩)],3,fun t=>t≤16,fun t=>16 - t,⟨0,om,(vm [(0,0),(1,1),(2,2)] [])⟩,?_⟩;intro t ht;refine aP ?_;refine⟨fun hc=>?_,fun hc=>?_⟩
 ·have ht':t < 16:=by have:=ot hc;omega
  have hl:=mR b t;refine aP ?_;refine⟨[ag 0,ag 1,ag 2,ag 3,ag 4,ag 5,ag 6,ag 7,ag 8,ag 9,ag 10,ag 11,ag 12,ag 13,ag 14,ag 15,ag 16,ag 17,ag 18,ag 19,ag 20,ag 21,ag 22,ag 23,ag 24,ag 25,ag 26,ag 27,ag 28,ag 29,ag 30,ag 31,ag 32,ag 33,ag 34,ag 35],?_⟩;refine aP ?_;refine⟨_,hY (4 * t) om om (nv om),?_⟩;refine aP ?_;refine⟨_,hY (4 * t + 1) om om (nv om),?_⟩;refine aP ?_;refine⟨_,hY (4 * t + 2) om om (nv om),?_⟩;refine aP ?_;refine⟨_,hY (4 * t + 3) om om (nv om),?_⟩;refine aP ?_;refine⟨_,ca om,?_⟩;refine aP ?_;refine⟨_,xO om _,?_⟩;refine aP ?_;exact⟨t + 1,om,by show 16 - (t + 1) < 16 - t;omega,(vm [(0,0),(1,1),(2,2)] [])⟩
 ·have ht':t=16:=by have:=oF hc;omega
  subst ht';refine aP ?_;refine⟨Nat,fun t=> [(7, .int .i64 ((16 + t:Nat):Int)),(5, .ptr 2 64 0 0 []),(4, .ptr 1 8 0 0 []),(2, .ptr 0 8 0 0 [])],fun t=> [(0,⟨119,8,false,0,[h.toM]⟩),(1,⟨119,8,false,0,[W8.toM ⟨0,0,0,0,0,0,0,0⟩]⟩),(2,⟨159,64,false,0,[wsM (nu b t)]⟩)],3,fun t=>t≤48,fun t=>48 - t,⟨0,om,(vm [(0,0),(1,1),(2,2)] [])⟩,?_⟩;intro t ht;refine aP ?_;refine⟨fun hc=>?_,fun hc=>?_⟩
  ·have ht':t < 48:=by have:=ot hc;omega
   have hl:=jU b t;refine aP ?_;refine⟨[ag 0,ag 1,ag 2,ag 3,ag 4,ag 5,ag 6,ag 7,ag 8,ag 9],?_⟩;refine aP ?_;refine⟨_,fK (16 + t - 15) om om,?_⟩;refine aP ?_;refine⟨_,iy om,?_⟩;refine aP ?_;refine⟨_,fK (16 + t - 2) om om,?_⟩;refine aP ?_;refine⟨_,iy om,?_⟩;refine aP ?_;refine⟨[ag 0,ag 1,ag 2,ag 3,ag 4,ag 5,ag 6,ag 7,ag 8,ag 9,ag 10,ag 11,ag 12,ag 13,ag 14,ag 15,ag 16,ag 17,ag 18,ag 19,ag 20,ag 21,ag 22,ag 23,ag 24,ag 25,ag 26,ag 27,ag 28,ag 29],?_⟩;refine⟨_,jx _ 17 om om,?_⟩;refine⟨_,jx _ 19 om om,?_⟩;refine aP ?_;refine⟨_,fK (16 + t - 7) om om,?_⟩;refine aP ?_;refine⟨_,iy om,?_⟩;refine aP ?_;refine⟨_,jx _ 7 om om,?_⟩;refine⟨_,jx _ 18 om om,?_⟩;refine aP ?_;refine⟨_,fK (16 + t - 16) om om,?_⟩;refine aP ?_;refine⟨_,iy om,?_⟩;refine aP ?_;refine⟨_,fK (16 + t) om om,?_⟩;refine aP ?_;refine⟨_,xO om _,?_⟩;refine aP ?_;exact⟨t + 1,by show t + 1≤48;omega,by show 48 - (t + 1) < 48 - t;omega,(vm [(0,0),(1,1),(2,2)] [])⟩
  ·have ht':t=48:=by have:=oF hc;omega
   subst ht';refine aP ?_;refine .inl ⟨_,constants_m,?_⟩;refine aP ?_;have hl:=jU b 48;have hk:kL.length=64:=rfl;dsimp only;generalize nu b 48=ws at *;generalize kL=kl at *;refine aP ?_;refine⟨Nat,fun t=> [(12, .int .i64 t),(11, .ptr 4 8 0 0 []),(10, .ptr 3 64 0 0 []),(5, .ptr 2 64 0 0 []),(4, .ptr 1 8 0 0 []),(2, .ptr 0 8 0 0 [])],fun t=> [(0,⟨119,8,false,0,[h.toM]⟩),(1,⟨119,8,false,0,[W8.toM ⟨0,0,0,0,0,0,0,0⟩]⟩),(2,⟨159,64,false,0,[wsM ws]⟩),(3,⟨159,64,false,0,[wsM kl]⟩),(4,⟨119,8,false,0,[(iV kl ws h t).toM]⟩)],5,fun t=>t≤64,fun t=>64 - t,⟨0,om,(vm [(0,0),(1,1),(2,2),(3,6),(4,9)] [])⟩,?_⟩;intro t ht;refine aP ?_;refine⟨fun hc=>?_,fun hc=>?_⟩
   ·have ht':t < 64:=by have:=ot hc;omega
    refine aP ?_;refine⟨[ag 0,ag 1,ag 2,ag 3,ag 4,ag 5],?_⟩;refine aP ?_;refine⟨[ag 0,ag 1,ag 2,ag 3,ag 4,ag 5,ag 6,ag 7,ag 8,ag 9,ag 10,ag 11,ag 12,ag 13,ag 14,ag 15,ag 16,ag 17,ag 18,ag 19,ag 20,ag 21,ag 22,ag 23,ag 24,ag 25,ag 26,ag 27,ag 28,ag 29,ag 30],?_⟩;refine aP ?_;refine⟨_,jx _ 6 om om,?_⟩;refine⟨_,jx _ 11 om om,?_⟩;refine aP ?_;refine⟨_,jx _ 25 om om,?_⟩;refine aP ?_;refine⟨_,ca om,?_⟩;refine aP ?_;refine⟨_,iy om,?_⟩;refine aP ?_;refine⟨_,ca om,?_⟩;refine aP ?_;refine⟨_,iy om,?_⟩;refine aP ?_;refine⟨[ag 0,ag 1,ag 2,ag 3,ag 4,ag 5,ag 6,ag 7,ag 8,ag 9,ag 10,ag 11,ag 12,ag 13,ag 14,ag 15,ag 16,ag 17,ag 18,ag 19,ag 20,ag 21,ag 22,ag 23,ag 24],?_⟩;refine⟨_,jx _ 2 om om,?_⟩;refine⟨_,jx _ 13 om om,?_⟩;refine aP ?_;refine⟨_,jx _ 22 om om,?_⟩;refine aP ?_;exact⟨t + 1,by show t + 1≤64;omega,by show 64 - (t + 1) < 64 - t;omega,(vm [(0,0),(1,1),(2,2),(3,3),(4,4)] [])⟩
   ·have ht':t=64:=by have:=oF hc;omega
    subst ht';refine aP ?_;refine⟨Nat,fun i=> [(180, .int .i64 i),(11, .ptr 2 8 0 0 []),(4, .ptr 1 8 0 0 []),(2, .ptr 0 8 0 0 [])],fun i=> [(0,⟨119,8,false,0,[(Fw h (iV kl ws h 64) i).toM]⟩),(1,⟨119,8,false,0,[W8.toM ⟨0,0,0,0,0,0,0,0⟩]⟩),(2,⟨119,8,false,0,[(iV kl ws h 64).toM]⟩)],3,fun i=>i≤8,fun i=>8 - i,⟨0,om,(vm [(0,0),(1,1),(2,4)] [])⟩,?_⟩;intro i hi;refine aP ?_;refine⟨fun hc=>?_,fun hc=>?_⟩
    ·have hi':i < 8:=by have:=ot hc;omega
     refine aP ?_;refine⟨[ag 0,ag 1,ag 2,ag 3,ag 4,ag 5,ag 6,ag 7,ag 8],?_⟩;generalize iV kl ws h 64=s at *;refine aP ?_;refine⟨_,ca om,?_⟩;refine aP ?_;refine⟨_,HW _ hi',?_⟩;refine aP ?_;refine⟨_,ca om,?_⟩;refine aP ?_;refine⟨_,HW _ hi',?_⟩;refine aP ?_;refine⟨_,ca om,?_⟩;refine aP ?_;refine⟨_,Oi h s hi',?_⟩;refine aP ?_;exact⟨i + 1,by show i + 1≤8;omega,by show 8 - (i + 1) < 8 - i;omega,(vm [(0,0),(1,1),(2,2)] [])⟩
    ·have hi':i=8:=by have:=oF hc;omega
     subst hi';refine aP ?_;rfl
end
section
variable {G:GS}
theorem KT (i n:Nat) (h:i < 4611686018427387904):IntKind.i64.wrap ((i:Int).tdiv (n:Int))=((i / n:Nat):Int):=by
 have e:(i:Int).tdiv (n:Int)=((i / n:Nat):Int):=rfl;have:=d₈ i n;generalize i / n=q at *;rw [e,dW _ om om]
theorem Fy {n a c:Nat} {k k':IntKind} {lo hi:Int} (ha:lo=(a:Int)) (hc:hi=(c:Int)) (h1:a≤c) (h2:c≤n):cF n (some (.int k lo)) (some (.int k' hi))=some (a,c):=by
 subst ha;subst hc;unfold cF;simp only;rw [if_pos om];simp only [Int.toNat_natCast];rw [if_pos om]
theorem DI (m:List UInt8):bE (u8s m) 1=true:=by cases m <;> rfl
def gj (n:Nat):Nat:=(119 - n % 64) % 64
def byteAt (n k:Nat):UInt8:=UInt8.ofNat (n / 2 ^ (8 * (7 - k)))
def HX (n:Nat):List UInt8:=(b₇ 8).map (byteAt n)
def ng (b:List UInt8):List UInt8:=b ++ [128] ++ a₂ (gj b.length) 0 ++ HX (8 * b.length)
def fc:W8:=⟨1779033703,3144134277,1013904242,2773480762,1359893119,2600822924,528734635,1541459225⟩
def absorb (s:W8) (m:List UInt8):Nat→W8
 | 0=>s
 | k + 1=>nP (absorb s m k) ((m.drop (64 * k)).take 64)
def wt (s:W8) (i:Nat):UInt8:=(s.nth (i / 4) >>> UInt32.ofNat (24 - i % 4 * 8)).toUInt8
def rI (s:W8):Nat→List UInt8
 | 0=>a₂ 32 0
 | i + 1=>(rI s i).set i (wt s i)
theorem oZ (s:W8): ∀i,(rI s i).length=32
 | 0=>by simp [rI]
 | i + 1=>by simp [rI,oZ s i]
def bm (b:List UInt8):List UInt8:=rI (absorb fc (ng b) ((ng b).length / 64)) 32
theorem jV (b:List UInt8):(bm b).length=32:=oZ _ _
def keyM (k:List UInt8):MV:= .arr 32 1 (u8s k)
theorem tL (b:List UInt8):(ng b).length=b.length + 9 + gj b.length:=by simp [ng,HX];omega
theorem Aj (b:List UInt8):(ng b).length=64 * ((ng b).length / 64):=by rw [tL];unfold gj;omega
theorem OZ {k:List UInt8} {i:Nat} (h:i < k.length):fb (keyM k) ([] ++ [i]) (0 + i * 1)=some (KJ (k.getD i 0)):=by
 show(match bH (u8s k) i with | some m=>bif c₅ (i * 1) (0 + i * 1) then fb m [] (0 + i * 1 - i * 1) else none | none=>none)=_
 have e:bH (u8s k) i=some (KJ (k.getD i 0)):=by rw [bD];exact nv h
 rw [e];have e2:c₅ (i * 1) (0 + i * 1)=true:=sm;simp only [e2,cond_true];simp [fb]
theorem o4 {k:List UInt8} {i:Nat} (h:i < k.length) (x:UInt8):fL (keyM k) ([] ++ [i]) (0 + i * 1) (KJ x)=some (keyM (k.set i x)):=by
 show(match bH (u8s k) i with | some m=>bif c₅ (i * 1) (0 + i * 1) && (KJ x).idFree then(match fL m [] (0 + i * 1 - i * 1) (KJ x) with | some m'=>some (MV.arr 32 1 (setL (u8s k) i m')) | none=>none) else none | none=>none)=_
 have e:bH (u8s k) i=some (KJ (k.getD i 0)):=by rw [bD];exact nv h
 rw [e];have e2:c₅ (i * 1) (0 + i * 1)=true:=sm;simp only [e2];simp [fL,setL_eq,MV.idFree,MV.size,MV.isAgg,keyM,u8s,List.map_set]
theorem FA (n k:Nat) (hk:k < 8):IntKind.u8.wrap (((n:Int) * 8).fdiv (2 ^ (min (8 * (7 - (k:Int))).toNat IntKind.u64.bits)))=((byteAt (8 * n) k).toNat:Int):=by
 have e:min (8 * (7 - (k:Int))).toNat IntKind.u64.bits=8 * (7 - k):=by simp [IntKind.bits];omega
 have e2:((n:Int) * 8)=((8 * n:Nat):Int):=om;rw [e,e2,b₆ _ (Int.le_of_lt (Int.pow_pos om)),w8,byteAt,UInt8.toNat_ofNat'];have e3:(2:Int) ^ (8 * (7 - k))=((2 ^ (8 * (7 - k)):Nat):Int):=by rw [c₇];rfl
 rw [e3,← b₉];exact(b₈ _ 256).symm
theorem Oj (b:List UInt8) (hb:b.length < 536870912):aD Tryz.prog G 25 [.sl b.length (u8s b)] (keyM (bm b)):=by
 have hp:gj b.length < 64:=by unfold gj;omega
 refine aZ seat Tryz.func25 69 ?_;refine aP ?_;refine⟨DI b,?_⟩;refine aP ?_;(refine a₁ ⟨pf,aE (by kernel_rfl) pf⟩ ?_;refine⟨u8s b,sv pf,b.length,sv pf,?_⟩);refine aP ?_;(refine a₁ (a₇ _) ?_;refine⟨_,rfl,?_⟩;refine a₁ ⟨pf,aE (by kernel_rfl) pf⟩ ?_;refine⟨u8s (b ++ [128]),sv pf,b.length + 1,sv pf,?_⟩);refine aP ?_;refine⟨Nat,fun k=> [(3, .ms 1 1 0 (b.length + 1 + k)),(2, .ptr 0 32 0 0 []),(0, .sl b.length (u8s b))],fun k=> [(0,⟨55,32,false,0,[keyM (a₂ 32 0)]⟩),(1,⟨5,1,true,0,u8s (b ++ [128] ++ a₂ k 0)⟩)],2,fun k=>k≤gj b.length,fun k=>gj b.length - k,⟨0,a₈ _,(vm [(0,_),(1,_)] [])⟩,?_⟩;intro k hk;refine aP ?_;refine⟨fun hc=>?_,fun hc=>?_⟩
 ·have hk':k < gj b.length:=by
   have hc:((b.length + 1 + k:Nat):Int).tmod (64:Int)≠56:=by simpa using hc
   have e:((b.length + 1 + k:Nat):Int).tmod (64:Int)=(((b.length + 1 + k) % 64:Nat):Int):=rfl;unfold gj at hk ⊢;omega
  refine aP ?_;(refine a₁ (a₇ _) ?_;refine⟨_,rfl,?_⟩;refine a₁ ⟨pf,aE (by kernel_rfl) pf⟩ ?_;refine⟨u8s (b ++ [128] ++ a₂ (k + 1) 0),sv pf,b.length + 1 + (k + 1),sv pf,?_⟩);refine aP ?_;exact⟨k + 1,by show k + 1≤gj b.length;omega,by show gj b.length - (k + 1) < gj b.length - k;omega,(vm [(0,_),(1,_)] [])⟩
 ·have hk':k=gj b.length:=by
   have hc:((b.length + 1 + k:Nat):Int).tmod (64:Int)=56:=by simpa using hc
   have e:((b.length + 1 + k:Nat):Int).tmod (64:Int)=(((b.length + 1 + k) % 64:Nat):Int):=rfl;unfold gj at hk ⊢;omega
  subst hk';refine aP ?_;refine⟨Nat,fun k=> [(5, .int .i64 (7 - (k:Int))),(4, .int .u64 ((b.length:Int) * 8)),(3, .ms 1 1 0 (b.length + 1 + gj b.length + k)),(2, .ptr 0 32 0 0 [])],fun k=> [(0,⟨55,32,false,0,[keyM (a₂ 32 0)]⟩),(1,⟨5,1,true,0,u8s (b ++ [128] ++ a₂ (gj b.length) 0 ++ (b₇ k).map (byteAt (8 * b.length)))⟩)],2,fun k=>k≤8,fun k=>8 - k,⟨0,a₈ _,(vm [(0,_),(1,_)] [])⟩,?_⟩;intro k hk;refine aP ?_;refine⟨fun hc=>?_,fun hc=>?_⟩
  ·have hk':k < 8:=by have:=ot hc;omega
   (repeat((try conv=>whnf);first | (with_reducible refine⟨_,sv (FA _ _ hk'),?_⟩) | (with_reducible refine Rt.go ?_) | (with_reducible refine Rs.go ?_) | (with_reducible refine tp ?_) | (with_reducible refine a₁ (a₈ _) ?_) | (with_reducible refine a₁ rfl ?_) | (with_reducible refine⟨fun _=>?_,fun h=>b₁ h⟩) | (with_reducible refine⟨fun h=>b₁ h,fun _=>?_⟩) | (with_reducible refine⟨_,sv (zZ _ _),?_⟩) | (with_reducible refine⟨_,sv (wq _ _),?_⟩) | (with_reducible refine⟨_,sv (z1 _ _),?_⟩) | (with_reducible refine⟨_,sv (HK _ _),?_⟩) | (with_reducible refine⟨_,sv (z6 _),?_⟩) | (with_reducible refine⟨_,sv (HM _ _ (by omega) (by omega)),?_⟩) | (with_reducible refine⟨_,sv (HN _ _ (by omega) (by omega)),?_⟩) | (with_reducible refine⟨_,sv (oY _),?_⟩) | (with_reducible refine⟨_,sv (iI _),?_⟩) | (with_reducible refine⟨_,sv (dW _ (by omega) (by omega)),?_⟩) | (with_reducible refine⟨_,sv (bt _ (by omega) (by omega)),?_⟩) | (with_reducible refine⟨_,sv (fR _ (by omega) (by omega)),?_⟩) | refine⟨_,rfl,?_⟩ | refine a₁ (show fV _ _ _=true by kernel_rfl) ?_ | refine a₁ (by omega) ?_));(refine a₁ (a₇ _) ?_;refine⟨_,rfl,?_⟩;refine a₁ ⟨pf,aE (by kernel_rfl) pf⟩ ?_;refine⟨u8s (b ++ [128] ++ a₂ (gj b.length) 0 ++ (b₇ (k + 1)).map (byteAt (8 * b.length))),sv pf,b.length + 1 + gj b.length + (k + 1),sv pf,?_⟩);refine aP ?_;exact⟨k + 1,by show k + 1≤8;omega,by show 8 - (k + 1) < 8 - k;omega,(vm [(0,_),(1,_)] [])⟩
  ·have hk':k=8:=by have:=oF hc;omega
   subst hk';have hm:b ++ [128] ++ a₂ (gj b.length) 0 ++ (b₇ 8).map (byteAt (8 * b.length))=ng b:=rfl;have hl:=tL b;have hd:=Aj b;have hlm:b.length + 1 + gj b.length + 8=(ng b).length:=om;unfold bm;dsimp only;rw [hm,hlm];generalize (ng b).length / 64=q at *;have hq:(ng b).length < 2000000000:=om;generalize ng b=m at *;refine aP ?_;refine⟨Nat,fun k=> [(7, .int .i64 ((64 * k:Nat):Int)),(6, .ptr 1 8 0 0 []),(3, .sl m.length (u8s m)),(2, .ptr 0 32 0 0 [])],fun k=> [(0,⟨55,32,false,0,[keyM (a₂ 32 0)]⟩),(1,⟨119,8,false,0,[(absorb fc m k).toM]⟩)],2,fun k=>k≤q,fun k=>q - k,⟨0,a₈ _,(vm [(0,_),(1,_)] [(1,m.length)])⟩,?_⟩;intro k hk;refine aP ?_;refine⟨fun hc=>?_,fun hc=>?_⟩
   ·have hk':k < q:=by have:=ot hc;omega
    refine aP ?_;refine⟨[ag 0,ag 1,ag 2,ag 3,ag 4,ag 5,ag 6,ag 7],?_⟩;refine aP ?_;refine⟨_,Fy (a:=64 * k) (c:=64 * k + 64) rfl om om om,DI m,?_⟩;refine⟨u8s ((m.drop (64 * k)).take 64),sv ((cut_u8 _ _ _).trans (by rw [show 64 * k + 64 - 64 * k=64 by omega])),64,sv om,?_⟩;refine⟨_,KS _ _ (by simp;omega),?_⟩;refine aP ?_;exact⟨k + 1,by show k + 1≤q;omega,by show q - (k + 1) < q - k;omega,(vm [(0,_),(1,_)] [])⟩
   ·have hk':k=q:=by have:=oF hc;omega
    subst hk';dsimp only;generalize absorb fc m k=s at *;refine aP ?_;refine⟨Nat,fun i=> [(52, .int .i64 i),(8, .ptr 2 32 0 0 []),(6, .ptr 1 8 0 0 []),(2, .ptr 0 32 0 0 [])],fun i=> [(0,⟨55,32,false,0,[keyM (a₂ 32 0)]⟩),(1,⟨119,8,false,0,[s.toM]⟩),(2,⟨55,32,false,0,[keyM (rI s i)]⟩)],3,fun i=>i≤32,fun i=>32 - i,⟨0,a₈ _,(vm [(0,_),(1,_),(2,_)] [])⟩,?_⟩;intro i hi;refine aP ?_;refine⟨fun hc=>?_,fun hc=>?_⟩
    ·have hi':i < 32:=by have:=ot hc;omega
     have hl:=oZ s i;have e1:IntKind.i64.wrap ((i:Int).tmod 4 * 8)=((i % 4 * 8:Nat):Int):=by
      have e:(i:Int).tmod 4=((i % 4:Nat):Int):=rfl;rw [e,dW _ om om];omega
     have e2:IntKind.i64.wrap (24 - ((i % 4 * 8:Nat):Int))=((24 - i % 4 * 8:Nat):Int):=by
      rw [dW _ om om];omega
     (repeat((try conv=>whnf);first | (with_reducible refine⟨_,sv (KT i 4 (by omega)),?_⟩) | (with_reducible refine Rt.go ?_) | (with_reducible refine Rs.go ?_) | (with_reducible refine tp ?_) | (with_reducible refine a₁ (a₈ _) ?_) | (with_reducible refine a₁ rfl ?_) | (with_reducible refine⟨fun _=>?_,fun h=>b₁ h⟩) | (with_reducible refine⟨fun h=>b₁ h,fun _=>?_⟩) | (with_reducible refine⟨_,sv (zZ _ _),?_⟩) | (with_reducible refine⟨_,sv (wq _ _),?_⟩) | (with_reducible refine⟨_,sv (z1 _ _),?_⟩) | (with_reducible refine⟨_,sv (HK _ _),?_⟩) | (with_reducible refine⟨_,sv (z6 _),?_⟩) | (with_reducible refine⟨_,sv (HM _ _ (by omega) (by omega)),?_⟩) | (with_reducible refine⟨_,sv (HN _ _ (by omega) (by omega)),?_⟩) | (with_reducible refine⟨_,sv (oY _),?_⟩) | (with_reducible refine⟨_,sv (iI _),?_⟩) | (with_reducible refine⟨_,sv (dW _ (by omega) (by omega)),?_⟩) | (with_reducible refine⟨_,sv (bt _ (by omega) (by omega)),?_⟩) | (with_reducible refine⟨_,sv (fR _ (by omega) (by omega)),?_⟩) | refine⟨_,rfl,?_⟩ | refine a₁ (show fV _ _ _=true by kernel_rfl) ?_ | refine a₁ (by omega) ?_));refine⟨_,fK (i / 4) rfl om,?_⟩;refine aP ?_;refine⟨_,HW _ om,?_⟩;(repeat((try conv=>whnf);first | (with_reducible refine⟨_,sv e1,?_⟩) | (with_reducible refine⟨_,sv e2,?_⟩) | (with_reducible refine⟨_,sv (tI _ (24 - i % 4 * 8) (by omega)),?_⟩) | (with_reducible refine Rt.go ?_) | (with_reducible refine Rs.go ?_) | (with_reducible refine tp ?_) | (with_reducible refine a₁ (a₈ _) ?_) | (with_reducible refine a₁ rfl ?_) | (with_reducible refine⟨fun _=>?_,fun h=>b₁ h⟩) | (with_reducible refine⟨fun h=>b₁ h,fun _=>?_⟩) | (with_reducible refine⟨_,sv (zZ _ _),?_⟩) | (with_reducible refine⟨_,sv (wq _ _),?_⟩) | (with_reducible refine⟨_,sv (z1 _ _),?_⟩) | (with_reducible refine⟨_,sv (HK _ _),?_⟩) | (with_reducible refine⟨_,sv (z6 _),?_⟩) | (with_reducible refine⟨_,sv (HM _ _ (by omega) (by omega)),?_⟩) | (with_reducible refine⟨_,sv (HN _ _ (by omega) (by omega)),?_⟩) | (with_reducible refine⟨_,sv (oY _),?_⟩) | (with_reducible refine⟨_,sv (iI _),?_⟩) | (with_reducible refine⟨_,sv (dW _ (by omega) (by omega)),?_⟩) | (with_reducible refine⟨_,sv (bt _ (by omega) (by omega)),?_⟩) | (with_reducible refine⟨_,sv (fR _ (by omega) (by omega)),?_⟩) | refine⟨_,rfl,?_⟩ | refine a₁ (show fV _ _ _=true by kernel_rfl) ?_ | refine a₁ (by omega) ?_));refine⟨_,ca om,?_⟩;refine aP ?_;refine⟨_,o4 om _,?_⟩;refine aP ?_;exact⟨i + 1,by show i + 1≤32;omega,by show 32 - (i + 1) < 32 - i;omega,(vm [(0,_),(1,_),(2,_)] [])⟩
    ·have hi':i=32:=by have:=oF hc;omega
     subst hi';refine aP ?_;rfl
end
section
variable {G:GS}
attribute [local irreducible] aj aC aG aL aO vC aU au
theorem o5 {l:List fA} {k:Nat} (hk:k < l.length):cS (l.map db) l.length (k:Int)=some (db l[k]):=eh hk (by simp [hk])
theorem FB (l:List fA) {k:Nat} (hk:k < l.length):bc (l.take (k + 1))=bc (l.take k) ++ bS l[k] :=by
 unfold bc;rw [c₁ hk,c₃,d₀];simp
theorem FC (l:List fA) (k:Nat):(bc (l.take k)).length≤(bc l).length:=by
 have:bc (l.take k) ++ bc (l.drop k)=bc l:=by
  unfold bc;rw [← d₀,← c₃,List.take_append_drop]
 rw [← this,a₀];omega
theorem xP {f:fA} (hf:jw f):f.bytes.length≤(bS f).length:=by
 unfold jw at hf;unfold bS;split
 ·have:f.bytes= [] :=by
   rcases hf.2.2 with h | h
   ·exact h.2.1
   ·omega
  rw [this];simp
 ·simp only [a₀];omega
theorem qi (l:List fA) (hl: ∀f∈l,jw f) (hm:(bc l).length < 200000000) (hll:l.length < 1000000):aH Tryz.prog G 134 [.sl l.length (l.map db)] [] 0 (.sl (bc l).length (u8s (bc l))) [] 0:=by
 refine bR seat Tryz.func134 20 ?_;refine ae ?_;refine ar Nat (fun k=> [(8, .int .i64 k),(7, .int .i64 l.length),(6, .sl l.length (l.map db)),(3, .ms 0 1 0 (bc (l.take k)).length)]) (fun k=> [(0,⟨5,1,true,0,u8s (bc (l.take k))⟩)]) 1 (fun k=>k≤l.length) (fun k=>l.length - k) 0 (a₈ _) (by rw [e₀];exact(vm [] [])) ?_;intro k hk;try dsimp only
 refine ae ?_;refine ad rfl ?_ ?_ <;> intro h
 ·have hk':k < l.length:=by have:=ot h;omega
  have hs:=FB l hk';have hle:=FC l (k + 1);have hfo:=hl _ (d₅ hk');have hfb:=xP hfo;have hel:=o5 hk';generalize l[k] =f at *;have hlen:(bc (l.take (k + 1))).length=(bc (l.take k)).length + (bS f).length:=by rw [hs,a₀]
  have c1:=KQ (G:=G) (bc (l.take k)) f hfo om;rw [← hs] at c1;unfold kI at c1;generalize bc (l.take k)=p at *;(have fct:=al.mk (hel);refine ae ?_);refine bQ rfl (fun _ h=>h) rfl (c1) [] [(0,p.length)] ⟨rfl,mm,rfl,lm,mm⟩ rfl rfl ?_;refine ae ?_;exact⟨k + 1,by show k + 1≤l.length;omega,by show l.length - (k + 1) < l.length - k;omega,(by dsimp only;exact(vm [(0,_)] []))⟩
 ·have hk':k=l.length:=by have:=oF h;omega
  subst hk';rw [d₆];generalize bc l=p at *;refine ae ?_;refine⟨[_],[],[(0,p.length)],rfl,rfl,?_,rfl,⟨?_,trivial⟩,?_⟩
  ·exact⟨by show p.length≤(u8s p).length;simp [u8s],trivial⟩
  ·exact rv
  ·exact mm
end
section
variable {G:GS}
attribute [local irreducible] aj aC aG aL aO vC aU au
def qj (b:List UInt8):MV:= .sl b.length (u8s b)
theorem cut_take {α:Type} (f:α→MV) (l:List α) (k:Nat):cutL (l.map f) 0 k=(l.take k).map f:=by simp [cutL,List.map_take]
theorem ej {α:Type} (f:α→MV) (l:List α) (k:Nat):cutL (l.map f) k l.length=(l.drop k).map f:=by
 unfold cutL;rw [b₀ (by rw [a₃,c₂];omega),List.map_drop]
theorem rV {l:List (List UInt8)} {k:Nat} (hk:k < l.length):cS (l.map qj) l.length (k:Int)=some (qj l[k]):=eh hk (by simp [hk])
end
section
variable {G:GS}
attribute [local irreducible] aj aC aG aL aO vC aU au
theorem KU {n:Nat} (h0:0 < n) (h1:n < 32):IntKind.u64.wrap (0 - (n:Int))=((18446744073709551616 - n:Nat):Int):=by rw [wu64];omega
theorem Ol {n:Nat} (h0:0 < n) (h1:n < 32):IntKind.u64.wrap ((BitVec.ofInt IntKind.u64.bits ((18446744073709551616 - n:Nat):Int) &&& BitVec.ofInt IntKind.u64.bits (31:Int)).toNat:Int)=((32 - n:Nat):Int):=by
 have e:(18446744073709551616 - n) &&& 31=32 - n:=by
  have:=Nat.and_two_pow_sub_one_eq_mod (18446744073709551616 - n) 5;rw [show (2 ^ 5 - 1:Nat)=31 by rfl] at this;rw [this];omega
 rw [BitVec.toNat_and,ei _ _ (show 18446744073709551616 - n < 2 ^ IntKind.u64.bits by show _ < 18446744073709551616;omega),show (BitVec.ofInt IntKind.u64.bits (31:Int)).toNat=31 by rfl,e,wu64];omega
theorem Om {n:Nat} (h0:0 < n) (h1:n < 32):IntKind.u64.wrap (32 - ((32 - n:Nat):Int))=(n:Int):=by rw [wu64];omega
theorem On (x:UInt32) (n:Nat) (h0:0 < n) (h1:n < 32):aD Tryz.prog G 230 [du x, .int .i64 (0 - (n:Int))] (du (gq x n)):=by
 have e:gq x n=(x <<< UInt32.ofNat (32 - n)) ||| (x >>> UInt32.ofNat n):=by unfold gq;rw [UInt32.or_comm]
 refine aZ seat Tryz.func230 17 ?_;(have fct:=aT.mk (KU h0 h1);have fct:=aT.mk (Ol h0 h1);have fct:=aT.mk (Om h0 h1);have fct:=aT.mk (HL x (32 - n) om);have fct:=aT.mk (tI x n h1);refine KN ?_);refine av ?_;exact congrArg du e.symm
theorem fj (x:UInt32) (n:Nat) (h0:0 < n) (h1:n < 32):aD Tryz.prog G 193 [du x, .int .i64 n] (du (gq x n)):=by
 have c1:=On (G:=G) x n h0 h1;refine aZ seat Tryz.func193 9 ?_;refine ae ?_;refine cC (c1) ?_;refine av ?_;rfl
end
section
variable {G:GS}
theorem Ch (b:List UInt8) (hb:b.length=64):aD Tryz.prog G 191 [.sl 64 (u8s b)] (wsM (nu b 48)):=by
 refine aZ seat Tryz.func191 93 ?_;refine aP ?_;refine⟨Nat,fun t=> [(10, .int .i64 t),(3, .ptr 1 64 0 0 []),(2, .ptr 0 64 0 0 []),(0, .sl 64 (u8s b))],fun t=> [(0,⟨159,64,false,0,[wsM (a₂ 64 0)]⟩),(1,⟨159,64,false,0,[wsM (tK b t)]⟩)],2,fun t=>t≤16,fun t=>16 - t,⟨0,om,(vm [(0,_),(1,_)] [])⟩,?_⟩;intro t ht;refine aP ?_;refine⟨fun hc=>?_,fun hc=>?_⟩
 ·have ht':t < 16:=by have:=ot hc;omega
  have hl:=mR b t;refine aP ?_;refine⟨[ag 0,ag 1,ag 2,ag 3,ag 4,ag 5,ag 6,ag 7,ag 8,ag 9,ag 10,ag 11,ag 12,ag 13,ag 14,ag 15,ag 16,ag 17,ag 18,ag 19,ag 20,ag 21,ag 22,ag 23,ag 24,ag 25,ag 26,ag 27,ag 28,ag 29,ag 30,ag 31,ag 32,ag 33,ag 34,ag 35],?_⟩;refine aP ?_;refine⟨_,hY (4 * t) om om (nv om),?_⟩;refine aP ?_;refine⟨_,hY (4 * t + 1) om om (nv om),?_⟩;refine aP ?_;refine⟨_,hY (4 * t + 2) om om (nv om),?_⟩;refine aP ?_;refine⟨_,hY (4 * t + 3) om om (nv om),?_⟩;refine aP ?_;refine⟨_,ca om,?_⟩;refine aP ?_;refine⟨_,xO om _,?_⟩;refine aP ?_;exact⟨t + 1,om,by show 16 - (t + 1) < 16 - t;omega,(vm [(0,_),(1,_)] [])⟩
 ·have ht':t=16:=by have:=oF hc;omega
  subst ht';refine aP ?_;refine⟨Nat,fun t=> [(5, .int .i64 ((16 + t:Nat):Int)),(3, .ptr 1 64 0 0 []),(2, .ptr 0 64 0 0 [])],fun t=> [(0,⟨159,64,false,0,[wsM (a₂ 64 0)]⟩),(1,⟨159,64,false,0,[wsM (nu b t)]⟩)],2,fun t=>t≤48,fun t=>48 - t,⟨0,om,(vm [(0,_),(1,_)] [])⟩,?_⟩;intro t ht;refine aP ?_;refine⟨fun hc=>?_,fun hc=>?_⟩
  ·have ht':t < 48:=by have:=ot hc;omega
   have hl:=jU b t;refine aP ?_;refine⟨[ag 0,ag 1,ag 2,ag 3,ag 4,ag 5,ag 6,ag 7,ag 8,ag 9],?_⟩;refine aP ?_;refine⟨_,fK (16 + t - 15) om om,?_⟩;refine aP ?_;refine⟨_,iy om,?_⟩;refine aP ?_;refine⟨_,fK (16 + t - 2) om om,?_⟩;refine aP ?_;refine⟨_,iy om,?_⟩;refine aP ?_;refine .inl ⟨_,fj _ 7 om om,?_⟩;refine aP ?_;refine .inl ⟨_,fj _ 18 om om,?_⟩;refine aP ?_;refine .inl ⟨_,fj _ 17 om om,?_⟩;refine aP ?_;refine .inl ⟨_,fj _ 19 om om,?_⟩;refine aP ?_;refine⟨[ag 0,ag 1,ag 2,ag 3,ag 4,ag 5,ag 6,ag 7,ag 8,ag 9,ag 10,ag 11,ag 12,ag 13,ag 14,ag 15],?_⟩;refine aP ?_;refine⟨_,fK (16 + t - 7) om om,?_⟩;refine aP ?_;refine⟨_,iy om,?_⟩;refine aP ?_;refine⟨_,fK (16 + t - 16) om om,?_⟩;refine aP ?_;refine⟨_,iy om,?_⟩;refine aP ?_;refine⟨_,fK (16 + t) om om,?_⟩;refine aP ?_;refine⟨_,xO om _,?_⟩;refine aP ?_;exact⟨t + 1,by show t + 1≤48;omega,by show 48 - (t + 1) < 48 - t;omega,(vm [(0,_),(1,_)] [])⟩
  ·have ht':t=48:=by have:=oF hc;omega
   subst ht';refine aP ?_;rfl
set_option maxRecDepth 40000 in
theorem HY:aH Tryz.prog G 192 [] [] 0 (.ptr 0 64 0 0 []) [(0,⟨159,64,false,0,[wsM kL]⟩)] 1:=by
 refine bR seat Tryz.func192 3 ?_;refine ae ?_;exact eb [_] [(0,2)] []
set_option maxRecDepth 40000 in
theorem begin_m:aD Tryz.prog G 160 [] fc.toM:=by
 refine aZ seat Tryz.func160 2 ?_;refine ae ?_;refine av ?_;rfl
def Ci (k w:UInt32) (s:W8):W8:=⟨KR k w s + (gq s.a 2 ^^^ gq s.a 13 ^^^ gq s.a 22) + (s.a &&& s.b ^^^ s.a &&& s.c ^^^ s.b &&& s.c),s.a,s.b,s.c,s.d + KR k w s,s.e,s.f,s.g⟩
theorem FD (k w:UInt32) (s:W8):Cg k w s=Ci k w s:=by
 unfold Cg Ci Oh;rw [UInt32.add_assoc]
theorem Ak (h:W8) (b:List UInt8) (hb:b.length=64):aD Tryz.prog G 161 [h.toM, .sl 64 (u8s b)] (nP h b).toM:=by
 have c1:=Ch (G:=G) b hb;have hl:=jU b 48;have hk:kL.length=64:=rfl;have c2:=HY (G:=G);unfold nP;generalize nu b 48=ws at *;generalize kL=kl at *;refine aZ seat Tryz.func161 119 ?_;refine KN ?_;refine yv (c1) ?_;refine KN ?_;refine yc (c2) [] ?_;refine KN ?_;refine⟨Nat,fun t=> [(21, .int .i64 t),(7, .ptr 4 8 0 0 []),(6, .ptr 3 64 0 0 []),(5, .ptr 2 64 0 0 []),(4, .ptr 1 8 0 0 []),(2, .ptr 0 8 0 0 [])],fun t=> [(0,⟨214,8,false,0,[h.toM]⟩),(1,⟨214,8,false,0,[W8.toM ⟨0,0,0,0,0,0,0,0⟩]⟩),(2,⟨159,64,false,0,[wsM ws]⟩),(3,⟨159,64,false,0,[wsM kl]⟩),(4,⟨214,8,false,0,[(iV kl ws h t).toM]⟩)],5,fun t=>t≤64,fun t=>64 - t,⟨0,om,(vm [(0,0),(1,1),(2,4),(3,3),(4,8)] [])⟩,?_⟩;intro t ht;refine aP ?_;refine⟨fun hc=>?_,fun hc=>?_⟩
 ·have ht':t < 64:=by have:=ot hc;omega
  have hr:iV kl ws h (t + 1)=Ci (kl.getD t 0) (ws.getD t 0) (iV kl ws h t):=FD _ _ _;dsimp only;generalize iV kl ws h t=s at *;refine aP ?_;refine⟨[ag 0,ag 1,ag 2,ag 3,ag 4,ag 5],?_⟩;refine aP ?_;refine .inl ⟨_,fj _ 6 om om,?_⟩;refine aP ?_;refine .inl ⟨_,fj _ 11 om om,?_⟩;refine aP ?_;refine .inl ⟨_,fj _ 25 om om,?_⟩;refine aP ?_;refine⟨[ag 0,ag 1,ag 2,ag 3,ag 4,ag 5,ag 6,ag 7,ag 8,ag 9,ag 10,ag 11,ag 12,ag 13,ag 14,ag 15,ag 16],?_⟩;refine aP ?_;refine⟨_,ca om,?_⟩;refine aP ?_;refine⟨_,iy om,?_⟩;refine aP ?_;refine⟨_,ca om,?_⟩;refine aP ?_;refine⟨_,iy om,?_⟩;refine aP ?_;refine .inl ⟨_,fj _ 2 om om,?_⟩;refine aP ?_;refine .inl ⟨_,fj _ 13 om om,?_⟩;refine aP ?_;refine .inl ⟨_,fj _ 22 om om,?_⟩;refine aP ?_;exact⟨t + 1,by show t + 1≤64;omega,by show 64 - (t + 1) < 64 - t;omega,(by dsimp only;rw [hr];exact(vm [(0,_),(1,_),(2,_),(3,_),(4,_)] []))⟩
 ·have ht':t=64:=by have:=oF hc;omega
  subst ht';dsimp only;generalize iV kl ws h 64=s at *;refine aP ?_;refine⟨Nat,fun i=> [(106, .int .i64 i),(7, .ptr 2 8 0 0 []),(4, .ptr 1 8 0 0 []),(2, .ptr 0 8 0 0 [])],fun i=> [(0,⟨214,8,false,0,[(Fw h s i).toM]⟩),(1,⟨214,8,false,0,[W8.toM ⟨0,0,0,0,0,0,0,0⟩]⟩),(2,⟨214,8,false,0,[s.toM]⟩)],3,fun i=>i≤8,fun i=>8 - i,⟨0,om,(vm [(0,0),(1,1),(2,4)] [])⟩,?_⟩;intro i hi;refine aP ?_;refine⟨fun hc=>?_,fun hc=>?_⟩
  ·have hi':i < 8:=by have:=ot hc;omega
   refine aP ?_;refine⟨[ag 0,ag 1,ag 2,ag 3,ag 4,ag 5,ag 6,ag 7,ag 8],?_⟩;refine aP ?_;refine⟨_,ca om,?_⟩;refine aP ?_;refine⟨_,HW _ hi',?_⟩;refine aP ?_;refine⟨_,ca om,?_⟩;refine aP ?_;refine⟨_,HW _ hi',?_⟩;refine aP ?_;refine⟨_,ca om,?_⟩;refine aP ?_;refine⟨_,Oi h s hi',?_⟩;refine aP ?_;exact⟨i + 1,by show i + 1≤8;omega,by show 8 - (i + 1) < 8 - i;omega,(vm [(0,_),(1,_),(2,_)] [])⟩
  ·have hi':i=8:=by have:=oF hc;omega
   subst hi';refine aP ?_;rfl
end
section
variable {G:GS}
attribute [local irreducible] aj aC aG aL aO vC aU au
theorem nQ (s:W8) (m b:List UInt8): ∀q,64 * q≤m.length→absorb s (m ++ b) q=absorb s m q
 | 0,_=>rfl
 | q + 1,h=>by
  rw [absorb,absorb,nQ s m b q om]
  congr 1
  rw [b₄ om,List.take_append_of_le_length (by rw [a₃];omega)]
def KV (m:List UInt8):MV:= .st [(absorb fc m (m.length / 64)).toM, .sl (m.length % 64) (u8s (m.drop (64 * (m.length / 64)))), .int .i64 m.length]
def tM (m:List UInt8):VM:= [(0,⟨217,10,false,0,[KV m]⟩)]
abbrev digP:MV:= .ptr 0 10 0 0 []
set_option maxRecDepth 40000 in
theorem Oo:aH Tryz.prog G 136 [] [] 0 digP (tM []) 1:=by
 unfold tM KV;refine bR seat Tryz.func136 4 ?_;refine ae ?_;refine cC (begin_m) ?_;refine⟨[_],[(0,2)],[],rfl,rfl,trivial,rfl,⟨?_,trivial⟩,?_⟩
 ·exact rv
 ·exact⟨.inr ⟨_,_,rfl,rfl,rfl,rfl, .inl rfl, .inl rfl, .inr ⟨.inr ⟨_,rfl,⟨rfl,rfl⟩, .inr ⟨rfl,rfl⟩,⟨rfl,rfl⟩,trivial⟩,trivial⟩⟩,trivial⟩
theorem KW (m b:List UInt8) (hm:m.length + b.length < 1000000000):aH Tryz.prog G 137 [digP, .sl b.length (u8s b)] (tM m) 1 (.tup []) (tM (m ++ b)) 1:=by
 have hq:64 * (m.length / 64)≤m.length:=om;have hz:m.drop (64 * (m.length / 64)) ++ b=(m ++ b).drop (64 * (m.length / 64)):=(b₄ hq).symm;have hl0:(m.drop (64 * (m.length / 64))).length=m.length % 64:=by rw [a₃];omega
 have hab:=nQ fc m b (m.length / 64) hq;have hlen:(m ++ b).length=m.length + b.length:=a₀;unfold tM KV;rw [← hab];generalize hM:m ++ b=M at *;generalize hqq:m.length / 64=q at *;generalize hr0:m.drop (64 * q)=r0 at *;rw [← hl0];refine bR seat Tryz.func137 43 ?_;refine ae ?_;refine aY rfl rfl (by intro R hR;refine dM hR ?_;refine a₁ (cG r0) ?_;refine a₁ (oX (by kernel_rfl) om) ?_;exact hR) rfl ?_;refine ae ?_;have hw0:(M.drop (64 * q)).length=r0.length + b.length:=by rw [← hz,a₀]
 refine aY rfl rfl (by intro R hR;refine dM hR ?_;refine a₁ (cG b) ?_;refine a₁ ⟨(by simp [u8s]),aE (by kernel_rfl) pf⟩ ?_;refine⟨u8s (M.drop (64 * q)),sv (by rw [← hz];simp [u8s]),(M.drop (64 * q)).length,sv pf,?_⟩;exact hR) rfl ?_;refine ae ?_;refine ar Nat (fun k=> [(4, .sl (M.drop (64 * (q + k))).length (u8s (M.drop (64 * (q + k))))),(0,digP)]) (fun k=> [(0,⟨217,10,false,0,[.st [(absorb fc M (q + k)).toM, .sl r0.length (u8s r0), .int .i64 M.length]]⟩)]) 1 (fun k=>64 * (q + k)≤M.length) (fun k=>M.length - k) 0 om ?_ ?_
 ·rw [Nat.add_zero,hlen,Int.natCast_add];exact(vm [] [(19,(M.drop (64 * q)).length)])
 intro k hk;try dsimp only
 have hwl:(M.drop (64 * (q + k))).length=M.length - 64 * (q + k):=a₃;have hnext:(M.drop (64 * (q + k))).drop 64=M.drop (64 * (q + (k + 1))):=by rw [c₉,show 64 * (q + k) + 64=64 * (q + (k + 1)) by omega]
 have habs:absorb fc M (q + (k + 1))=nP (absorb fc M (q + k)) ((M.drop (64 * (q + k))).take 64):=rfl;by_cases hlast:64≤M.length - 64 * (q + k)
 ·generalize absorb fc M (q + k)=S at *;generalize hw:M.drop (64 * (q + k))=w at *;have hb1:cF w.length none (some (.int .i64 64))=some (0,64):=nt (k:=64) om;have hb2:cF w.length (some (.int .i64 64)) none=some (64,w.length):=gm (k:=64) om;have hc1:cutL (u8s w) 0 64=u8s (w.take 64):=by rw [cut_u8,c₄]
  have hc2:cutL (u8s w) 64 w.length=u8s (w.drop 64):=by rw [cut_u8,b₀ (by rw [a₃];omega)]
  have hc3:w.length - 64=(w.drop 64).length:=List.length_drop.symm;have c1:=Ak (G:=G) S (w.take 64) (by rw [c₀];omega);refine ae ?_;refine ad rfl ?_ ?_ <;> intro h
  rotate_left
  ·exfalso;have:=oF h;omega
  refine ae ?_;refine aw [ag 0,ag 1,ag 2,ag 3,ag 4,ag 5,ag 6,de 7,ag 8,ag 9,ag 10] ?_;(have fct:=al.mk (hb1);have fct:=al.mk (hb2);have fct:=aT.mk (hc1);have fct:=aT.mk (hc2);have fct:=aT.mk (hc3);have fct:=bN.mk (cG w);refine ae ?_);refine OX (c1) ?_;(have fct:=al.mk (hb1);have fct:=al.mk (hb2);have fct:=aT.mk (hc1);have fct:=aT.mk (hc2);have fct:=aT.mk (hc3);have fct:=bN.mk (cG w);refine ae ?_);exact⟨k + 1,by show 64 * (q + (k + 1))≤M.length;omega,by show M.length - (k + 1) < M.length - k;omega,(by dsimp only;rw [← hnext,habs];exact(vm [] []))⟩
 ·have e1:M.length / 64=q + k:=om;have e2:M.length % 64=(M.drop (64 * (q + k))).length:=om;rw [e1,e2];generalize absorb fc M (q + k)=S at *;generalize hw:M.drop (64 * (q + k))=w at *;refine ae ?_;refine ad rfl ?_ ?_ <;> intro h
  ·exfalso;have:=ot h;omega
  refine ae ?_;refine aY rfl rfl (by intro R hR;refine dM hR ?_;refine a₁ (cG w) ?_;refine a₁ (oX (by kernel_rfl) om) ?_;exact hR) rfl ?_;refine ae ?_;refine⟨[],[],[(6,w.length)],rfl,rfl,?_,rfl,trivial,?_⟩
  ·exact⟨by show w.length≤(u8s w).length;simp [u8s],trivial⟩
  ·exact⟨.inr ⟨_,_,rfl,rfl,rfl,rfl, .inl rfl, .inl rfl, .inr ⟨.inr ⟨_,rfl,⟨rfl,rfl⟩, .inr ⟨rfl,rfl,rfl,d₁ (d₂ _),bT _ _⟩,⟨rfl,rfl⟩,trivial⟩,trivial⟩⟩,trivial⟩
theorem Oq (n:Nat):(n:Int).tmod 64=((n % 64:Nat):Int):=rfl
theorem Ph (n k:Nat) (hk:k < 8):IntKind.u8.wrap (((n:Nat):Int).fdiv (2 ^ (min (56 - 8 * (k:Int)).toNat IntKind.u64.bits)))=((byteAt n k).toNat:Int):=by
 have e:min (56 - 8 * (k:Int)).toNat IntKind.u64.bits=8 * (7 - k):=by simp [IntKind.bits];omega
 rw [e,b₆ _ (Int.le_of_lt (Int.pow_pos om)),w8,byteAt,UInt8.toNat_ofNat'];have e3:(2:Int) ^ (8 * (7 - k))=((2 ^ (8 * (7 - k)):Nat):Int):=by rw [c₇];rfl
 rw [e3,← b₉];exact(b₈ _ 256).symm
theorem HZ (m:List UInt8) (q:Nat) (hq:64 * q≤m.length):(ng m).drop (64 * q)=m.drop (64 * q) ++ [128] ++ a₂ (gj m.length) 0 ++ HX (8 * m.length):=by
 unfold ng;rw [a₅,a₅,b₄ hq,← a₅,← a₅]
theorem Cj (m:List UInt8) (q:Nat) (hq:64 * q≤m.length):absorb fc (ng m) q=absorb fc m q:=by
 unfold ng;rw [a₅,a₅];exact nQ _ _ _ _ hq
theorem Pj (S:W8) {i:Nat} (h:i < 8):cS [du S.a,du S.b,du S.c,du S.d,du S.e,du S.f,du S.g,du S.h] 8 (i:Int)=some (du (S.nth i)):=by
 have h8:i=0∨i=1∨i=2∨i=3∨i=4∨i=5∨i=6∨i=7:=om;rcases h8 with rfl | rfl | rfl | rfl | rfl | rfl | rfl | rfl <;> rfl
theorem Pk (S:W8) (i:Nat):rI S (4 * (i + 1))=((((rI S (4 * i)).set (4 * i) (S.nth i >>> UInt32.ofNat 24).toUInt8).set (4 * i + 1) (S.nth i >>> UInt32.ofNat 16).toUInt8).set (4 * i + 2) (S.nth i >>> UInt32.ofNat 8).toUInt8).set (4 * i + 3) (S.nth i).toUInt8:=by
 have e:rI S (4 * (i + 1))=((((rI S (4 * i)).set (4 * i) (wt S (4 * i))).set (4 * i + 1) (wt S (4 * i + 1))).set (4 * i + 2) (wt S (4 * i + 2))).set (4 * i + 3) (wt S (4 * i + 3)):=rfl;rw [e];unfold wt;rw [show 4 * i / 4=i by omega,show (4 * i + 1) / 4=i by omega,show (4 * i + 2) / 4=i by omega,show (4 * i + 3) / 4=i by omega,show 24 - 4 * i % 4 * 8=24 by omega,show 24 - (4 * i + 1) % 4 * 8=16 by omega,show 24 - (4 * i + 2) % 4 * 8=8 by omega,show 24 - (4 * i + 3) % 4 * 8=0 by omega];rw [show UInt32.ofNat 0=0 by rfl,UInt32.shiftRight_zero]
theorem Ot (m:List UInt8) (hm:m.length < 1000000000):aH Tryz.prog G 138 [digP] (tM m) 1 (keyM (bm m)) (tM m) 1:=by
 have hq:64 * (m.length / 64)≤m.length:=om;have hl0:(m.drop (64 * (m.length / 64))).length=m.length % 64:=by rw [a₃];omega
 have hpd:=HZ m _ hq;have hpa:=Cj m _ hq;have hpl:=tL m;have hpv:=Aj m;have hp:gj m.length < 64:=by unfold gj;omega
 have hpn:(m.length % 64 + 1 + gj m.length) % 64=56:=by unfold gj;omega
 have hpf: ∀k,k < gj m.length→(m.length % 64 + 1 + k) % 64≠56:=by unfold gj;intro k hk;omega
 unfold tM KV bm;rw [← hl0] at hpn hpf ⊢;generalize hqq:m.length / 64=q at *;generalize hr0:m.drop (64 * q)=r0 at *;generalize hpN:gj m.length=pn at *;generalize hP:ng m=P at *;rw [← hpa];refine bR seat Tryz.func138 90 ?_;refine ae ?_;refine aY rfl rfl (by intro R hR;refine dM hR ?_;refine a₁ (cG r0) ?_;refine a₁ (oX (by kernel_rfl) om) ?_;exact hR) rfl ?_;refine ae ?_;refine aY rfl rfl (by intro R hR;refine dM hR ?_;(refine a₁ (a₇ _) ?_;refine⟨_,rfl,?_⟩;refine a₁ ⟨(by simp [u8s]),aE (by kernel_rfl) pf⟩ ?_;refine⟨u8s (r0 ++ [128]),sv (by simp [u8s,setL,repM,cutL]),r0.length + 1,sv pf,?_⟩);exact hR) rfl ?_;refine ae ?_;have hTl:r0.length + 1 + pn + 8=(P.drop (64 * q)).length:=by rw [hpd];simp [HX];omega
 refine ar Nat (fun k=> [(4, .ms 3 1 0 (r0.length + 1 + k)),(3, .ptr 2 32 0 0 []),(2, .ptr 1 32 0 0 []),(0,digP)]) (fun k=> [(0,⟨217,10,false,0,[.st [(absorb fc P q).toM, .sl r0.length (u8s r0), .int .i64 m.length]]⟩),(1,⟨55,32,false,0,[keyM (a₂ 32 0)]⟩),(2,⟨55,32,false,0,[keyM (a₂ 32 0)]⟩),(3,⟨5,1,true,0,u8s (r0 ++ [128] ++ a₂ k 0)⟩)]) 4 (fun k=>k≤pn) (fun k=>pn - k) 0 (a₈ _) (vm [(1,_),(2,_),(3,_)] []) ?_;intro k hk;try dsimp only
 (have fct:=aT.mk (Oq (r0.length + 1 + k));refine ae ?_);refine ad rfl ?_ ?_ <;> intro h
 ·have hk':k < pn:=by
   have h1:(((r0.length + 1 + k) % 64:Nat):Int)≠56:=by simpa using h
   rcases d₃ k pn with h2 | h2
   ·exact h2
   ·have:k=pn:=om;subst this;rw [hpn] at h1;exact absurd rfl h1
  refine ae ?_;refine aY rfl rfl (by intro R hR;refine dM hR ?_;(refine a₁ (a₇ _) ?_;refine⟨_,rfl,?_⟩;refine a₁ ⟨pf,aE (by kernel_rfl) pf⟩ ?_;refine⟨u8s (r0 ++ [128] ++ a₂ (k + 1) 0),sv pf,r0.length + 1 + (k + 1),sv pf,?_⟩);exact hR) rfl ?_;refine ae ?_;exact⟨k + 1,by show k + 1≤pn;omega,by show pn - (k + 1) < pn - k;omega,(by dsimp only;exact(vm [(1,_),(2,_),(3,_)] []))⟩
 ·have hk':k=pn:=by
   have h1:(((r0.length + 1 + k) % 64:Nat):Int)=56:=by simpa using h
   rcases d₃ k pn with h2 | h2
   ·have:=hpf k h2;omega
   ·omega
  subst hk';refine ae ?_;refine ar Nat (fun j=> [(6, .int .i64 (56 - 8 * (j:Int))),(5, .int .u64 ((8 * m.length:Nat):Int)),(4, .ms 3 1 0 (r0.length + 1 + k + j)),(3, .ptr 2 32 0 0 []),(2, .ptr 1 32 0 0 []),(0,digP)]) (fun j=> [(0,⟨217,10,false,0,[.st [(absorb fc P q).toM, .sl r0.length (u8s r0), .int .i64 m.length]]⟩),(1,⟨55,32,false,0,[keyM (a₂ 32 0)]⟩),(2,⟨55,32,false,0,[keyM (a₂ 32 0)]⟩),(3,⟨5,1,true,0,u8s (r0 ++ [128] ++ a₂ k 0 ++ (b₇ j).map (byteAt (8 * m.length)))⟩)]) 4 (fun j=>j≤8) (fun j=>8 - j) 0 (a₈ _) (by rw [List.range_zero,List.map_nil,b₂];exact(vm [(1,_),(2,_),(3,_)] [])) ?_;intro j hj;try dsimp only
  refine ae ?_;refine ad rfl ?_ ?_ <;> intro h
  ·have hj':j < 8:=by have:=ot h;omega
   (have fct:=aT.mk (Ph (8 * m.length) j hj');refine ae ?_);refine aY rfl rfl (by intro R hR;refine dM hR ?_;(refine a₁ (a₇ _) ?_;refine⟨_,rfl,?_⟩;refine a₁ ⟨pf,aE (by kernel_rfl) pf⟩ ?_;refine⟨u8s (r0 ++ [128] ++ a₂ k 0 ++ (b₇ (j + 1)).map (byteAt (8 * m.length))),sv pf,r0.length + 1 + k + (j + 1),sv pf,?_⟩);exact hR) rfl ?_;refine ae ?_;exact⟨j + 1,by show j + 1≤8;omega,by show 8 - (j + 1) < 8 - j;omega,(by dsimp only;exact(vm [(1,_),(2,_),(3,_)] []))⟩
  ·have hj':j=8:=by have:=oF h;omega
   subst hj';have hbe:(b₇ 8).map (byteAt (8 * m.length))=HX (8 * m.length):=rfl;rw [hbe,← hpd,hTl];refine ae ?_;refine ar Nat (fun k=> [(7, .ptr 3 8 0 0 []),(4, .sl (P.drop (64 * (q + k))).length (u8s (P.drop (64 * (q + k))))),(3, .ptr 2 32 0 0 []),(2, .ptr 1 32 0 0 []),(0,digP)]) (fun k=> [(0,⟨217,10,false,0,[.st [(absorb fc P q).toM, .sl r0.length (u8s r0), .int .i64 m.length]]⟩),(1,⟨55,32,false,0,[keyM (a₂ 32 0)]⟩),(2,⟨55,32,false,0,[keyM (a₂ 32 0)]⟩),(3,⟨214,8,false,0,[(absorb fc P (q + k)).toM]⟩)]) 4 (fun k=>64 * (q + k)≤P.length) (fun k=>P.length - k) 0 om (by rw [Nat.add_zero];exact(vm [(1,_),(2,_),(3,_)] [(3,(P.drop (64 * q)).length)])) ?_;intro k hk;try dsimp only
   have hwl:(P.drop (64 * (q + k))).length=P.length - 64 * (q + k):=a₃;have hnext:(P.drop (64 * (q + k))).drop 64=P.drop (64 * (q + (k + 1))):=by rw [c₉,show 64 * (q + k) + 64=64 * (q + (k + 1)) by omega]
   have habs:absorb fc P (q + (k + 1))=nP (absorb fc P (q + k)) ((P.drop (64 * (q + k))).take 64):=rfl;by_cases hlast:64 * (q + k) < P.length
   ·generalize absorb fc P (q + k)=S at *;generalize hw:P.drop (64 * (q + k))=w at *;have hb1:cF w.length none (some (.int .i64 64))=some (0,64):=nt (k:=64) om;have hb2:cF w.length (some (.int .i64 64)) none=some (64,w.length):=gm (k:=64) om;have hc1:cutL (u8s w) 0 64=u8s (w.take 64):=by rw [cut_u8,c₄]
    have hc2:cutL (u8s w) 64 w.length=u8s (w.drop 64):=by rw [cut_u8,b₀ (by rw [a₃];omega)]
    have hc3:w.length - 64=(w.drop 64).length:=List.length_drop.symm;have c1:=Ak (G:=G) S (w.take 64) (by rw [c₀];omega);refine ae ?_;refine ad rfl ?_ ?_ <;> intro h
    rotate_left
    ·exfalso;have:=oF h;omega
    refine ae ?_;refine aw [ag 0,ag 1,ag 2,de 3,ag 4] ?_;(have fct:=al.mk (hb1);have fct:=al.mk (hb2);have fct:=aT.mk (hc1);have fct:=aT.mk (hc2);have fct:=aT.mk (hc3);have fct:=bN.mk (cG w);refine ae ?_);refine OX (c1) ?_;(have fct:=al.mk (hb1);have fct:=al.mk (hb2);have fct:=aT.mk (hc1);have fct:=aT.mk (hc2);have fct:=aT.mk (hc3);have fct:=bN.mk (cG w);refine ae ?_);exact⟨k + 1,by show 64 * (q + (k + 1))≤P.length;omega,by show P.length - (k + 1) < P.length - k;omega,(by dsimp only;rw [← hnext,habs];exact(vm [(1,_),(2,_),(3,_)] []))⟩
   ·have e1:P.length / 64=q + k:=om;rw [e1];generalize absorb fc P (q + k)=S at *;generalize hw:P.drop (64 * (q + k))=w at *;refine ae ?_;refine ad rfl ?_ ?_ <;> intro h
    ·exfalso;have:=ot h;omega
    refine ae ?_;refine ar Nat (fun i=> [(58, .int .i64 i),(57,S.toM),(3, .ptr 2 32 0 0 []),(2, .ptr 1 32 0 0 []),(0,digP)]) (fun i=> [(0,⟨217,10,false,0,[.st [(absorb fc P q).toM, .sl r0.length (u8s r0), .int .i64 m.length]]⟩),(1,⟨55,32,false,0,[keyM (a₂ 32 0)]⟩),(2,⟨55,32,false,0,[keyM (rI S (4 * i))]⟩)]) 3 (fun i=>i≤8) (fun i=>8 - i) 0 (a₈ _) (vm [(1,_),(2,_)] []) ?_;intro i hi;try dsimp only
    refine ae ?_;refine ad rfl ?_ ?_ <;> intro h
    ·have hi':i < 8:=by have:=ot h;omega
     have hix:cS [du S.a,du S.b,du S.c,du S.d,du S.e,du S.f,du S.g,du S.h] 8 (i:Int)=some (du (S.nth i)):=Pj S hi';have hol:=oZ S (4 * i);have hout:=Pk S i;generalize S.nth i=x at *;generalize rI S (4 * i)=ok at *;have s24:(x.toNat:Int).fdiv (2 ^ (min (24:Int).toNat IntKind.u32.bits))=((x >>> UInt32.ofNat 24).toNat:Int):=tI x 24 om;have s16:(x.toNat:Int).fdiv (2 ^ (min (16:Int).toNat IntKind.u32.bits))=((x >>> UInt32.ofNat 16).toNat:Int):=tI x 16 om;have s8:(x.toNat:Int).fdiv (2 ^ (min (8:Int).toNat IntKind.u32.bits))=((x >>> UInt32.ofNat 8).toNat:Int):=tI x 8 om;have v24:=iI (x >>> UInt32.ofNat 24);have v16:=iI (x >>> UInt32.ofNat 16);have v8:=iI (x >>> UInt32.ofNat 8);have v0:=iI x;generalize (x >>> UInt32.ofNat 24)=y24 at *;generalize (x >>> UInt32.ofNat 16)=y16 at *;generalize (x >>> UInt32.ofNat 8)=y8 at *;have j0:Dg 32 (4 * (i:Int))=some (4 * i):=fK (4 * i) om om;have j1:Dg 32 (4 * (i:Int) + 1)=some (4 * i + 1):=fK (4 * i + 1) om om;have j2:Dg 32 (4 * (i:Int) + 2)=some (4 * i + 2):=fK (4 * i + 2) om om;have j3:Dg 32 (4 * (i:Int) + 3)=some (4 * i + 3):=fK (4 * i + 3) om om;have k0:=o4 (k:=ok) (i:=4 * i) om y24.toUInt8;have k1:=o4 (k:=ok.set (4 * i) y24.toUInt8) (i:=4 * i + 1) (by rw [b₃];omega) y16.toUInt8;have k2:=o4 (k:=(ok.set (4 * i) y24.toUInt8).set (4 * i + 1) y16.toUInt8) (i:=4 * i + 2) (by rw [b₃,b₃];omega) y8.toUInt8;have k3:=o4 (k:=((ok.set (4 * i) y24.toUInt8).set (4 * i + 1) y16.toUInt8).set (4 * i + 2) y8.toUInt8) (i:=4 * i + 3) (by rw [b₃,b₃,b₃];omega) x.toUInt8;(have fct:=al.mk (hix);have fct:=aT.mk (s24);have fct:=aT.mk (s16);have fct:=aT.mk (s8);have fct:=aT.mk (v24);have fct:=aT.mk (v16);have fct:=aT.mk (v8);have fct:=aT.mk (v0);have fct:=al.mk (j0);have fct:=al.mk (j1);have fct:=al.mk (j2);have fct:=al.mk (j3);have fct:=al.mk (k0);have fct:=al.mk (k1);have fct:=al.mk (k2);have fct:=al.mk (k3);refine ae ?_);exact⟨i + 1,by show i + 1≤8;omega,by show 8 - (i + 1) < 8 - i;omega,(by dsimp only;rw [hout];exact(vm [(1,_),(2,_)] []))⟩
    ·have hi':i=8:=by have:=oF h;omega
     subst hi';refine ae ?_;refine av ?_;exact en [_]
end
section
variable {G:GS}
attribute [local irreducible] aj aC aG aL aO vC aU au
theorem KX (m b M:List UInt8) (hM:m ++ b=M) (hm:m.length + b.length < 1000000000):aH Tryz.prog G 137 [digP, .sl b.length (u8s b)] (tM m) 1 (.tup []) (tM M) 1:=by
 subst hM;exact KW m b hm
theorem MK (b:List UInt8) (hb:b.length < 500000000):aD Tryz.prog G 96 [.sl b.length (u8s b)] (keyM (bm b)):=by
 have c1:=Oo (G:=G);have c2:=KX (G:=G) [] b b rfl (by simp;omega);have c3:=Ot (G:=G) b om;unfold tM at c1 c2 c3;refine aZ seat Tryz.func96 10 ?_;refine ae ?_;refine yc (c1) [] ?_;refine ae ?_;refine yc (c2) [(0,1)] ?_;refine ae ?_;refine yc (c3) [(0,1)] ?_;refine ae ?_;refine av ?_;rfl
end
section
section
variable {Pg:Program} {G:GS} {f:FuncId} {args:List MV} {M0:VM}
theorem wu {b:MB} {es n:Nat} (hrow:b.row=true) (h:aH Pg G f args M0 1 (.ms 0 es 0 n) [(0,b)] 1):aH Pg G f args M0 1 (.ms 1 es 0 n) [(1,b)] 2:=by
 intro w P adr vals h1 h2 h3 h4 h5;refine(h w P adr vals h1 h2 h3 h4 h5).mono ?_;rintro e w' ⟨v,rfl,P',adr',j1,j2,j3,j4,j5,j6,j7,j8⟩;have get1: ∀{c b'},VM.get [(1,b)] c=some b'→c=1∧b'=b:=fun {c b'} hc=>by
  rw [VM.get_cons] at hc;split at hc
  ·rename_i e;injection hc with hc;exact⟨e.symm,hc.symm⟩
  ·cases hc
 have get0:VM.get [(0,b)] 0=some b:=rfl;have only0: ∀{c g},adr c=some g→c=0:=fun {c g} hc=>by
  rcases d₃ c 1 with h | h
  ·omega
  ·rw [h3 c h] at hc;cases hc
 refine⟨v,rfl,P',fun c=>if c=1 then adr' 0 else adr' c,⟨fun c b' hc=>?_,fun c c' b1 b2 g hc hc' _ _=>?_,j1.prot⟩,?_,⟨j3.prot,j3.cell,fun c g hc=>?_,j3.size⟩,fun c hc=>?_,fun c hc=>?_,fun c g hc=>?_,j7,j8⟩
 ·obtain⟨rfl,rfl⟩:=get1 hc;rcases j1.blk 0 b' get0 with q | ⟨g,q1,q2⟩
  ·exact .inl ⟨q.1,q.2.1,by simpa using q.2.2.1,q.2.2.2⟩
  ·refine .inr ⟨g,by simpa using q1,?_⟩;obtain⟨cur,parts,c1,c2,c3,c4,c5⟩:=q2.ofR hrow;exact⟨.inl ⟨cur,parts,c1,c2,c3,fun j x p hx hp=>by have:=c4 j x p hx hp;rw [hrow] at this ⊢;exact this,c5⟩,q2.pe,q2.le⟩
 ·rw [(get1 hc).1,(get1 hc').1]
 ·rcases j2.ms_ with ⟨rfl,_,rfl⟩ | ⟨g,o,cap,q1,rfl,q2,q3,q4,q5⟩
  ·exact .val [_] .ms0
  ·exact .val [_] (.ms g o cap (by simpa using q1) q2 q3 q4 q5)
 ·obtain rfl:=only0 hc;exact j3.num 0 g hc
 ·obtain rfl:c=0:=om;exact j4 0 om
 ·have:c≠1:=om;simp only [this,if_false];exact j5 c om
 ·by_cases h:c=1
  ·simp only [h,if_true] at hc;exact j6 0 g hc
  ·simp only [h,if_false] at hc;exact j6 c g hc
end
theorem Al {σ:Nat→Option Nat} {fz:Fz} {a b:MV}: ∀(l:List MV),(∀x∈l,cN σ fz x x)→cN σ fz a b→cN.relVs σ fz (l ++ [a]) (l ++ [b])
 | [],_,h=>⟨h,trivial⟩
 | x :: l,hl,h=>⟨hl x sm,Al l (fun y hy=>hl y (by simp [hy])) h⟩
variable {G:GS}
attribute [local irreducible] aj aC aG aL aO vC aU au
def xQ (l:List fA):MB:=⟨188,4,true,0,l.map db⟩
def bA (n:Nat) (s:List UInt8):List fA:=if s= [] then [] else [⟨n,2,0,s⟩]
def cj (n:Nat) (v:Nat):List fA:=if v=0 then [] else [⟨n,0,v,[]⟩]
theorem xR (l:List fA) (n:Nat) (s:List UInt8) (hl:l.length < 100000000) (hs:s.length < 100000000):aH Tryz.prog G 132 [.ms 0 4 0 l.length, .int .i64 n, .str s] [(0,xQ l)] 1 (.ms 1 4 0 (l ++ bA n s).length) [(1,xQ (l ++ bA n s))] 2:=by
 unfold xQ bA;by_cases h0:s= []
 ·rw [if_pos h0,b₂];subst h0;refine wu rfl ?_;refine bR seat Tryz.func132 17 ?_;refine ae ?_;exact en [_]
 ·rw [if_neg h0,a₀,a₆];refine bR seat Tryz.func132 17 ?_;refine ae ?_;refine ad rfl ?_ ?_ <;> intro h
  ·exact absurd h (by simp;intro h;exact absurd h h0)
  ·refine ae ?_;refine aY rfl rfl (by intro R hR;refine dM hR ?_;(refine a₁ (a₇ _) ?_;refine⟨_,rfl,?_⟩;refine a₁ ⟨sm,aE (by kernel_rfl) pf⟩ ?_;refine⟨(l ++ [(⟨n,2,0,s⟩:fA)]).map db,sv (by simp;rfl),l.length + 1,sv pf,?_⟩);exact hR) rfl ?_;refine ae ?_;exact eb [_] [(1,10)] []
theorem lX (l:List fA) (n:Nat) (v:Nat) (hl:l.length < 100000000):aH Tryz.prog G 133 [.ms 0 4 0 l.length, .int .i64 n, .int .u64 v] [(0,xQ l)] 1 (.ms 1 4 0 (l ++ cj n v).length) [(1,xQ (l ++ cj n v))] 2:=by
 unfold xQ cj;by_cases h0:v=0
 ·rw [if_pos h0,b₂];subst h0;refine wu rfl ?_;refine bR seat Tryz.func133 16 ?_;refine ae ?_;exact en [_]
 ·rw [if_neg h0,a₀,a₆];refine bR seat Tryz.func133 16 ?_;refine ae ?_;refine ad rfl ?_ ?_ <;> intro h
  ·exfalso;have:(v:Int)=0:=by simpa using h
   omega
  ·refine ae ?_;refine aY rfl rfl (by intro R hR;refine dM hR ?_;(refine a₁ (a₇ _) ?_;refine⟨_,rfl,?_⟩;refine a₁ ⟨sm,aE (by kernel_rfl) pf⟩ ?_;refine⟨l.map db ++ [.st [.int .i64 n, .int .i64 0, .int .u64 v, .nils]],sv (by simp [cutL,setL,repM]),l.length + 1,sv pf,?_⟩);exact hR) rfl ?_;refine ae ?_;refine⟨[_],[(1,9)],[],rfl,rfl,trivial,rfl,⟨?_,trivial⟩,?_⟩
   ·exact rv
   ·refine⟨.inr ⟨_,_,rfl,rfl,rfl,rfl, .inl rfl, .inl rfl, .inr ?_⟩,trivial⟩;rw [c₃];exact Al _ (fun x hx=>by obtain⟨f,_,rfl⟩:=List.mem_map.1 hx;exact .inl ⟨rfl,rfl⟩) (.inr ⟨_,rfl,⟨rfl,rfl⟩,⟨rfl,rfl⟩,⟨rfl,rfl⟩, .inr ⟨rfl,rfl⟩,trivial⟩)
end
section
variable {G:GS}
attribute [local irreducible] aj aC aG aL aO vC aU au
structure kM where
 to_:List UInt8
 amt:Nat
 deriving DecidableEq
structure iJ where
 sender:List UInt8
 seq:Nat
 gas:Nat
 fee:Nat
 memo:List UInt8
 trs:List kM
 deriving DecidableEq
def lh (x:kM):MV:= .st [.str x.to_, .int .u64 x.amt]
def nh (t:iJ):MV:= .st [.str t.sender, .int .u64 t.seq, .int .u64 t.gas, .int .u64 t.fee, .str t.memo, .sl t.trs.length (t.trs.map lh)]
abbrev bh (n:Nat):Prop:=n < 18446744073709551616
def lY (x:kM):Prop:=x.to_.length≤5000∧bh x.amt
def gE (t:iJ):Prop:=t.sender.length≤5000∧bh t.seq∧bh t.gas∧bh t.fee∧t.memo.length≤5000∧t.trs.length≤5000∧∀x∈t.trs,lY x
def lZ (x:kM):fA:=⟨6,2,0,bc (bA 1 x.to_ ++ cj 2 x.amt)⟩
def ib (t:iJ):List fA:=bA 1 t.sender ++ cj 2 t.seq ++ cj 3 t.gas ++ cj 4 t.fee ++ bA 5 t.memo ++ t.trs.map lZ
def eE (t:iJ):List UInt8:=bc (ib t)
theorem kN {f:fA} (hf:jw f):(bS f).length≤f.bytes.length + 20:=by
 have h1:=(da (n:=f.num * 8 + f.kind) (by unfold jw at hf;omega)).2;unfold bS;rw [a₀];split
 ·have h2:=(da (n:=f.val) (by unfold jw at hf;omega)).2;omega
 ·rename_i hk;have h2:=(da (n:=f.bytes.length) (by unfold jw at hf;omega)).2;rw [a₀];omega
theorem ma (B:Nat): ∀(l:List fA),(∀f∈l,jw f∧f.bytes.length≤B)→(bc l).length≤l.length * (B + 20)
 | [],_=>by simp [bc]
 | f :: l,h=>by
  have h1:=kN (h f sm).1
  have h2:=(h f sm).2
  have ih:=ma B l fun g hg=>h g (by simp [hg])
  have e:bc (f :: l)=bS f ++ bc l:=by simp [bc]
  rw [e,a₀,List.length_cons,Nat.add_mul]
  omega
theorem iW {n:Nat} {s:List UInt8} (h1:1≤n) (h2:n≤100) (B:Nat) (hs:s.length≤B) (hB:B < 18446744073709551616):(∀f∈bA n s,jw f∧f.bytes.length≤B)∧(bA n s).length≤1:=by
 unfold bA;split
 ·simp
 ·refine⟨fun f hf=>?_,sm⟩;rw [d₄.1 hf];exact⟨⟨dm,dm, .inr ⟨rfl,rfl,dm⟩⟩,hs⟩
theorem kO {n v:Nat} (h1:1≤n) (h2:n≤100) (B:Nat) (hv:bh v):(∀f∈cj n v,jw f∧f.bytes.length≤B)∧(cj n v).length≤1:=by
 unfold cj;split
 ·simp
 ·refine⟨fun f hf=>?_,sm⟩;rw [d₄.1 hf];exact⟨⟨dm,dm, .inl ⟨rfl,rfl,hv⟩⟩,sm⟩
theorem eV {α:Type} {p:α→Prop} {a b:List α} (ha: ∀x∈a,p x) (hb: ∀x∈b,p x): ∀x∈a ++ b,p x:=fun x hx=>(List.mem_append.1 hx).elim (ha x) (hb x)
theorem o6 {x:kM} (h:lY x):(∀f∈bA 1 x.to_ ++ cj 2 x.amt,jw f∧f.bytes.length≤5000)∧(bA 1 x.to_ ++ cj 2 x.amt).length≤2:=by
 have h1:=iW (n:=1) (s:=x.to_) om om 5000 h.1 om;have h2:=kO (n:=2) (v:=x.amt) om om 5000 h.2;exact⟨eV h1.1 h2.1,by rw [a₀];omega⟩
theorem mS {x:kM} (h:lY x):(bc (bA 1 x.to_ ++ cj 2 x.amt)).length≤10040:=by
 have h1:=o6 h;have h2:=ma 5000 _ h1.1;have h3:=a₉ (5000 + 20) h1.2;omega
theorem ML {x:kM} (h:lY x):jw (lZ x)∧(lZ x).bytes.length≤10040:=by
 have:=mS h;exact⟨⟨by unfold lZ;dsimp only;omega,by unfold lZ;dsimp only;omega, .inr ⟨rfl,rfl,by unfold lZ;dsimp only;omega⟩⟩,this⟩
theorem tN {t:iJ} (h:gE t):(∀f∈ib t,jw f∧f.bytes.length≤10040)∧(ib t).length≤5005:=by
 obtain⟨h1,h2,h3,h4,h5,h6,h7⟩:=h;have a1:=iW (n:=1) (s:=t.sender) om om 10040 om om;have a2:=kO (n:=2) (v:=t.seq) om om 10040 h2;have a3:=kO (n:=3) (v:=t.gas) om om 10040 h3;have a4:=kO (n:=4) (v:=t.fee) om om 10040 h4;have a5:=iW (n:=5) (s:=t.memo) om om 10040 om om;unfold ib;refine⟨eV (eV (eV (eV (eV a1.1 a2.1) a3.1) a4.1) a5.1) fun f hf=>?_,?_⟩
 ·obtain⟨x,hx,rfl⟩:=List.mem_map.1 hf;exact ML (h7 x hx)
 ·simp only [a₀,c₂];omega
theorem qk {t:iJ} (h:gE t):(eE t).length≤50350300:=by
 have h1:=tN h;have h2:=ma 10040 _ h1.1;have h3:=a₉ (10040 + 20) h1.2;unfold eE;omega
theorem kP {l:List kM} {k:Nat} (hk:k < l.length):cS (l.map lh) l.length (k:Int)=some (lh l[k]):=eh hk (by simp [hk])
theorem H0 (t:iJ) (ht:gE t):aH Tryz.prog G 90 [nh t] [] 0 (.sl (eE t).length (u8s (eE t))) [] 0:=by
 have hok:=tN ht;have hfl:=qk ht;obtain⟨sender,seq,gas,fee,memo,trs⟩:=t;obtain⟨h1,h2,h3,h4,h5,h6,h7⟩:=ht;dsimp only at h1 h2 h3 h4 h5 h6 h7;have cm:=qi (G:=G) _ (fun f hf=>(hok.1 f hf).1) (show(bc _).length < 200000000 from Nat.lt_of_le_of_lt hfl om) om;have a1:=(iW (n:=1) (s:=sender) om om 10040 om om).2;have a2:=(kO (n:=2) (v:=seq) om om 10040 h2).2;have a3:=(kO (n:=3) (v:=gas) om om 10040 h3).2;have a4:=(kO (n:=4) (v:=fee) om om 10040 h4).2;have a5:=(iW (n:=5) (s:=memo) om om 10040 om om).2;unfold eE ib at *;unfold nh;dsimp only at *;have c1:=xR (G:=G) [] 1 sender sm om;rw [d₉] at c1;generalize bA 1 sender=l1 at *;have c2:=lX (G:=G) l1 2 seq om;have q2:(l1 ++ cj 2 seq).length≤2:=by rw [a₀];omega
 generalize l1 ++ cj 2 seq=l2 at *;have c3:=lX (G:=G) l2 3 gas om;have q3:(l2 ++ cj 3 gas).length≤3:=by rw [a₀];omega
 generalize l2 ++ cj 3 gas=l3 at *;have c4:=lX (G:=G) l3 4 fee om;have q4:(l3 ++ cj 4 fee).length≤4:=by rw [a₀];omega
 generalize l3 ++ cj 4 fee=l4 at *;have c5:=xR (G:=G) l4 5 memo om om;have q5:(l4 ++ bA 5 memo).length≤5:=by rw [a₀];omega
 generalize l4 ++ bA 5 memo=l5 at *;unfold xQ at c1 c2 c3 c4 c5;refine bR seat Tryz.func90 46 ?_;refine ae ?_;refine yc (c1) [] ?_;refine ae ?_;refine bQ rfl (fun _ h=>h) rfl (c2) [(0,_)] [] ⟨rfl,trivial,rfl,lm,mm⟩ rfl rfl ?_;refine ae ?_;refine bQ rfl (fun _ h=>h) rfl (c3) [(0,_)] [] ⟨rfl,trivial,rfl,lm,mm⟩ rfl rfl ?_;refine ae ?_;refine bQ rfl (fun _ h=>h) rfl (c4) [(0,_)] [] ⟨rfl,trivial,rfl,lm,mm⟩ rfl rfl ?_;refine ae ?_;refine bQ rfl (fun _ h=>h) rfl (c5) [(0,_)] [] ⟨rfl,trivial,rfl,lm,mm⟩ rfl rfl ?_;refine ae ?_;refine ar Nat (fun k=> [(28, .int .i64 k),(27, .int .i64 trs.length),(26, .sl trs.length (trs.map lh)),(3, .ms 0 4 0 (l5 ++ (trs.take k).map lZ).length)]) (fun k=> [(0,⟨188,4,true,0,(l5 ++ (trs.take k).map lZ).map db⟩)]) 1 (fun k=>k≤trs.length) (fun k=>trs.length - k) 0 (a₈ _) (by rw [e₀,List.map_nil,b₂];exact(vm [(0,_)] [])) ?_;intro k hk;try dsimp only
 refine ae ?_;refine ad rfl ?_ ?_ <;> intro h
 ·have hk':k < trs.length:=by have:=ot h;omega
  have hx:=h7 _ (d₅ hk');have hel:=kP hk';have hsucc:l5 ++ (trs.take (k + 1)).map lZ=(l5 ++ (trs.take k).map lZ) ++ [lZ trs[k]] :=by rw [c₁ hk',c₃,a₅];rfl
  have hll:(l5 ++ (trs.take k).map lZ).length≤5005:=by rw [a₀,c₂,c₀];omega
  generalize trs[k] =x at *;generalize l5 ++ (trs.take k).map lZ=lk at *;have hio:=o6 hx;have hil:=mS hx;have hto:=iW (n:=1) (s:=x.to_) om om 5000 hx.1 om;have d1:=xR (G:=G) [] 1 x.to_ sm (by have:=hx.1;omega);rw [d₉] at d1;have d2:=lX (G:=G) (bA 1 x.to_) 2 x.amt om;have d3:=qi (G:=G) (bA 1 x.to_ ++ cj 2 x.amt) (fun f hf=>(hio.1 f hf).1) om om;unfold xQ at d1 d2;have htr:lZ x=⟨6,2,0,bc (bA 1 x.to_ ++ cj 2 x.amt)⟩:=rfl;generalize bA 1 x.to_ ++ cj 2 x.amt=li at *;generalize bA 1 x.to_=lt at *;generalize bc li=mi at *;(have fct:=al.mk (hel);refine ae ?_);refine aw [ag 0,ag 1,ag 2,de 3,ag 4,ag 5,de 6,de 7,ag 8,ag 9,ag 10,ag 11] ?_;refine ae ?_;refine bG rfl (fun _ h=>h) rfl [] (d1) [] [] ⟨rfl,trivial,rfl,lm,mm⟩ rfl rfl rfl rfl rfl ?_;refine ae ?_;refine bG rfl (fun _ h=>h) rfl [9] (d2) [(0,9)] [] ⟨rfl,trivial,rfl,lm,mm⟩ rfl rfl rfl rfl rfl ?_;refine ae ?_;refine jQ rfl (fun _ h=>h) rfl [12] (d3) rfl [(12,li.length)] mm lm rfl ?_;refine ae ?_;refine bO rfl (by intro R hR;refine dM hR ?_;(refine a₁ (a₇ _) ?_;refine⟨_,rfl,?_⟩;refine a₁ ⟨sm,aE (by kernel_rfl) pf⟩ ?_;refine⟨(lk ++ [(⟨6,2,0,mi⟩:fA)]).map db,sv (by simp;rfl),lk.length + 1,sv pf,?_⟩);exact hR) rfl ?_;refine ae ?_;exact⟨k + 1,by show k + 1≤trs.length;omega,by show trs.length - (k + 1) < trs.length - k;omega,(by dsimp only;rw [hsucc,htr,a₀,a₆];exact(vm [(0,_)] []))⟩
 ·have hk':k=trs.length:=by have:=oF h;omega
  subst hk';rw [d₆];generalize l5 ++ trs.map lZ=lk at *;generalize bc lk=mk at *;refine ae ?_;refine bV rfl (fun _ h=>h) rfl (cm) rfl [(0,lk.length)] mm lm ?_;refine ae ?_;exact en [_]
end
end Go.Proofs.YthdhlcicpcnbhaaGreatDoor
