/- Parts of a proof, one behind the other: G1, G2, G3, G4, G5, G6, G7, G8, G9, GA, S1, N1, Q1. -/
import Derived.Test.YtohikcplmbkmeaaGreatDoorW05
open Prod.mk renaming injEq → a₀
open List renaming getElem_mem → a₁,drop_eq_getElem_cons → a₂,length_append → a₆,drop_length → a₇,take_length → a₈,length_singleton → a₉,drop_zero → b₀,take_zero → b₁,take_succ_eq_append_getElem → b₂,map_append → b₃,mem_singleton → b₆,replicate → b₇,mem_cons → b₈,length_nil → c₁,length_map → c₂,mem_map → c₃,length_cons → c₇,cons_eq_cons → c₉,not_mem_nil → d₂,mem_append → d₄,foldl_cons → d₅
open Nat renaming zero_le → a₃,le_refl → a₅,div_lt_iff_lt_mul → b₄,testBit_eq_decide_div_mod_eq → b₉,and_two_pow_sub_one_eq_mod → c₀,shiftLeft_add_eq_or_of_lt → c₄,zero_add → c₆,mul_add → d₀,shiftLeft_eq → d₁,div_le_self → d₃
open And renaming intro → a₄
open Int renaming fdiv_eq_ediv_of_nonneg → b₅,natCast_ediv → c₅,emod_lt_of_pos → c₈,emod_nonneg → d₆
set_option maxRecDepth 20000
set_option maxHeartbeats 16000000
set_option linter.unusedVariables false
set_option linter.unusedSimpArgs false
namespace Go.Proofs.YtohikcplmbkmeaaGreatDoor
open Go.RowKit
section
variable {G:GS}
attribute [local irreducible] ak aB aD aI aN vC aW aw
def sumG:List Nat→Nat→Nat×Bool
 | [],s=>(s,true)
 | x :: r,s=>if (iM s x).2 then sumG r (iM s x).1 else(0,false)
def fq (l:List Nat):List MV:=l.map fun(n:Nat)=>MV.int .u64 (n:Int)
theorem C5 {l:List Nat} {k:Nat} (hk:k < l.length):bF (fq l) l.length (k:Int)=some (.int .u64 (l[k] :Int)):=cO hk (by simp [fq,hk])
theorem gX (m:Nat):((m:Int).fdiv (2 ^ (min (32:Int).toNat IntKind.u64.bits)))=((m / 4294967296:Nat):Int):=by
 rw [show min (32:Int).toNat IntKind.u64.bits=32 by rfl,b₅ _ (by decide)];exact(c₅ m 4294967296).symm
theorem ib {m:Nat} (hm:m < 18446744073709551616):IntKind.u64.wrap ((BitVec.ofInt IntKind.u64.bits (m:Int) &&& BitVec.ofInt IntKind.u64.bits (4294967295:Int)).toNat:Int)=((m % 4294967296:Nat):Int):=by
 have e:=c₀ m 32;rw [BitVec.toNat_and,eU _ _ (show m < 2 ^ IntKind.u64.bits from hm),show (4294967295:Int)=((4294967295:Nat):Int) by rfl,eU _ _ (show 4294967295 < 2 ^ IntKind.u64.bits by decide),show (4294967295:Nat)=2 ^ 32 - 1 by rfl,e,wu64];omega
theorem Mg {h l:Nat} (hh:h < 4294967296) (hl:l < 4294967296):IntKind.u64.wrap ((BitVec.ofInt IntKind.u64.bits ((h * 4294967296:Nat):Int) ||| BitVec.ofInt IntKind.u64.bits (l:Int)).toNat:Int)=((h * 4294967296 + l:Nat):Int):=by
 have e:h * 4294967296 ||| l=h * 4294967296 + l:=by
  have:=c₄ (i:=32) hl h;rw [d₁] at this;exact this.symm
 rw [BitVec.toNat_or,eU _ _ (show h * 4294967296 < 2 ^ IntKind.u64.bits by show _ < 18446744073709551616;omega),eU _ _ (show l < 2 ^ IntKind.u64.bits by show _ < 18446744073709551616;omega),e,wu64];omega
theorem Mh (m:Nat):IntKind.u64.wrap ((m:Int) * 2 ^ (min (32:Int).toNat IntKind.u64.bits))=((m % 4294967296 * 4294967296:Nat):Int):=by
 rw [show min (32:Int).toNat IntKind.u64.bits=32 by rfl,wu64];omega
def eS (a b c:Nat):Nat×Bool:=if c=0∨c≤a * b / 18446744073709551616 then(0,false) else(a * b / c,true)
theorem BR (a b:Nat) (ha:bo a) (hb:bo b): ∃w p q r:Nat,a / 4294967296 * (b / 4294967296)=w∧a % 4294967296 * (b % 4294967296)=p∧a / 4294967296 * (b % 4294967296)=q∧a % 4294967296 * (b / 4294967296)=r∧w < 18446744065119617026∧p < 18446744065119617026∧q < 18446744065119617026∧r < 18446744065119617026∧a * b=w * 18446744073709551616 + (q + r) * 4294967296 + p∧a * b / 18446744073709551616 < 18446744073709551616:=by
 unfold bo at ha hb;have b1: ∀x y:Nat,x≤4294967295→y≤4294967295→x * y < 18446744065119617026:=fun x y hx hy=>by
  have:=Nat.mul_le_mul hx hy;omega
 refine⟨_,_,_,_,rfl,rfl,rfl,rfl,b1 _ _ om om,b1 _ _ om om,b1 _ _ om om,b1 _ _ om om,?_,?_⟩
 ·have e1:a=a / 4294967296 * 4294967296 + a % 4294967296:=om;have e2:b=b / 4294967296 * 4294967296 + b % 4294967296:=om;generalize a / 4294967296=x at *;generalize a % 4294967296=y at *;generalize b / 4294967296=u at *;generalize b % 4294967296=v at *;subst e1;subst e2;rw [Nat.add_mul,d₀,d₀,Nat.add_mul];have h1:x * 4294967296 * (u * 4294967296)=x * u * 18446744073709551616:=by rw [Nat.mul_mul_mul_comm]
  have h2:x * 4294967296 * v=x * v * 4294967296:=by rw [Nat.mul_right_comm]
  have h3:y * (u * 4294967296)=y * u * 4294967296:=by rw [Nat.mul_assoc]
  rw [h1,h2,h3];omega
 ·rw [b₄ om];have:=Nat.mul_le_mul (show a≤18446744073709551615 by omega) (show b≤18446744073709551615 by omega);omega
theorem EX (a b:Nat) (ha:bo a) (hb:bo b):aE Tryz.prog G 206 [.int .u64 a, .int .u64 b] (.tup [.int .u64 (a * b / 18446744073709551616:Nat), .int .u64 (a * b % 18446744073709551616:Nat)]):=by
 obtain⟨w,p,q,r,hw,hp,hq,hr,bw,bp,bq,br,hab,hhi⟩:=BR a b ha hb;unfold bo at ha hb;have mk: ∀x y z:Nat,x * y=z→z < 18446744065119617026→IntKind.u64.wrap ((x:Int) * (y:Int))=(z:Int):=fun x y z h hz=>by
  rw [← Int.natCast_mul,h];exact bM _ om om
 have m1:=aU.mk (mk _ _ _ hw bw);have m2:=aU.mk (mk _ _ _ hp bp);have m3:=aU.mk (mk _ _ _ hq bq);have m4:=aU.mk (mk _ _ _ hr br);have s1:=aU.mk (gX a);have s2:=aU.mk (gX b);have s3:=aU.mk (gX p);have s4:=aU.mk (gX q);have s5:=aU.mk (gX r);have l1:=aU.mk (ib (m:=a) ha);have l2:=aU.mk (ib (m:=b) hb);have l3:=aU.mk (ib (m:=p) om);have l4:=aU.mk (ib (m:=q) om);have l5:=aU.mk (ib (m:=r) om);clear hw hp hq hr mk;generalize a * b=n at *;subst hab;have hm:p / 4294967296 + q % 4294967296 + r % 4294967296 < 18446744073709551616:=om;have a1:=aU.mk (show IntKind.u64.wrap (((p / 4294967296:Nat):Int) + ((q % 4294967296:Nat):Int))=((p / 4294967296 + q % 4294967296:Nat):Int) from bM _ om om);have a2:=aU.mk (show IntKind.u64.wrap (((p / 4294967296 + q % 4294967296:Nat):Int) + ((r % 4294967296:Nat):Int))=((p / 4294967296 + q % 4294967296 + r % 4294967296:Nat):Int) from bM _ om om);have s6:=aU.mk (gX (p / 4294967296 + q % 4294967296 + r % 4294967296));have s7:=aU.mk (Mh (p / 4294967296 + q % 4294967296 + r % 4294967296));have o1:=aU.mk (Mg (h:=(p / 4294967296 + q % 4294967296 + r % 4294967296) % 4294967296) (l:=p % 4294967296) om om);refine bA seat Tryz.func206 56 ?_;refine aa ?_;(iterate 4 ((all_goals(refine aa ?_));(all_goals(first | ((first | refine ag rfl rfl ?_ rfl ?_ | refine ad rfl ?_ ?_);all_goals(intro h;(try simp only [pl] at h);(try (exfalso;omega)))) | skip))));all_goals(refine au ?_)
 refine congrArg MV.tup ?_;refine c₉.2 ⟨congrArg (MV.int .u64) ?_,c₉.2 ⟨congrArg (MV.int .u64) ?_,rfl⟩⟩
 ·omega
 ·omega
theorem NZ (m:Nat):((m:Int).fdiv (2 ^ (min (63:Int).toNat IntKind.u64.bits)))=((m / 9223372036854775808:Nat):Int):=by
 rw [show min (63:Int).toNat IntKind.u64.bits=63 by rfl,b₅ _ (by decide)];exact(c₅ m 9223372036854775808).symm
theorem N0 (m:Nat) {i:Nat} (hi:i < 64):((m:Int).fdiv (2 ^ (min (i:Int).toNat IntKind.u64.bits)))=((m / 2 ^ i:Nat):Int):=by
 rw [show min (i:Int).toNat IntKind.u64.bits=i by rw [Int.toNat_natCast];exact Nat.min_eq_left (Nat.le_of_lt hi),b₅ _ (by exact Int.le_of_lt (Int.pow_pos (by decide)))];rw [c₅,Int.natCast_pow];rfl
theorem O1 {m:Nat} (hm:m < 18446744073709551616):IntKind.u64.wrap ((BitVec.ofInt IntKind.u64.bits (m:Int) &&& BitVec.ofInt IntKind.u64.bits (1:Int)).toNat:Int)=((m % 2:Nat):Int):=by
 have e:=c₀ m 1;rw [BitVec.toNat_and,eU _ _ (show m < 2 ^ IntKind.u64.bits from hm),show (1:Int)=((1:Nat):Int) by rfl,eU _ _ (show 1 < 2 ^ IntKind.u64.bits by decide),show (1:Nat)=2 ^ 1 - 1 by rfl,e,wu64];omega
theorem C6 (m:Nat):IntKind.u64.wrap ((m:Int) * 2 ^ (min (1:Int).toNat IntKind.u64.bits))=((2 * m % 18446744073709551616:Nat):Int):=by
 rw [show min (1:Int).toNat IntKind.u64.bits=1 by rfl,wu64];omega
theorem HC {m b:Nat} (hm:m % 2=0) (hb:b < 2) (h:m < 18446744073709551616):IntKind.u64.wrap ((BitVec.ofInt IntKind.u64.bits (m:Int) ||| BitVec.ofInt IntKind.u64.bits (b:Int)).toNat:Int)=((m + b:Nat):Int):=by
 have e:m ||| b=m + b:=by
  have:=c₄ (i:=1) hb (m / 2);rw [d₁,show m / 2 * 2 ^ 1=m by omega] at this;exact this.symm
 rw [BitVec.toNat_or,eU _ _ (show m < 2 ^ IntKind.u64.bits from h),eU _ _ (show b < 2 ^ IntKind.u64.bits by show _ < 18446744073709551616;omega),e,wu64];omega
theorem Mi {m:Nat} (hm:m % 2=0) (h:m < 18446744073709551616):IntKind.u64.wrap ((BitVec.ofInt IntKind.u64.bits (m:Int) ||| BitVec.ofInt IntKind.u64.bits (1:Int)).toNat:Int)=((m + 1:Nat):Int):=HC (b:=1) hm om h
theorem Kp {N c i out rest bit:Nat} (hb:N / 2 ^ i % 2=bit) (h:N / 2 ^ (i + 1)=c * out + rest):N / 2 ^ i=c * (2 * out) + (2 * rest + bit):=by
 have e:N / 2 ^ (i + 1)=N / 2 ^ i / 2:=by rw [Nat.pow_succ,Nat.div_div_eq_div_mul]
 rw [e] at h;rw [show c * (2 * out)=2 * (c * out) by rw [Nat.mul_left_comm]];omega
theorem Kq (N:Nat) {i:Nat} (hi:i < 64):N % 18446744073709551616 / 2 ^ i % 2=N / 2 ^ i % 2:=by
 have h1:=Nat.testBit_mod_two_pow N 64 i;rw [b₉,b₉,decide_eq_true hi,Bool.true_and,decide_eq_decide] at h1;have e:(2:Nat) ^ 64=18446744073709551616:=by rfl
 rw [e] at h1;omega
theorem HD (a b c:Nat) (ha:bo a) (hb:bo b) (hc:bo c):aE Tryz.prog G 146 [.int .u64 a, .int .u64 b, .int .u64 c] (.tup [.int .u64 (eS a b c).1, .bool (eS a b c).2]):=by
 have c1:=EX (G:=G) a b ha hb;obtain⟨_,_,_,_,_,_,_,_,_,_,_,_,_,hhi⟩:=BR a b ha hb;unfold bo at ha hb hc;generalize hr:eS a b c=r;obtain⟨R,okk⟩:=r;dsimp only;unfold eS at hr;have hlow:=fun i hi=>Kq (a * b) (i:=i) hi
 have hlt:(a * b) % 18446744073709551616 < 18446744073709551616:=Nat.mod_lt _ om;by_cases h0:c=0∨c≤a * b / 18446744073709551616
 ·rw [if_pos h0] at hr;simp only [a₀] at hr;obtain⟨rfl,rfl⟩:=hr;generalize a * b / 18446744073709551616=hi at *;refine bA seat Tryz.func146 54 ?_;refine aa ?_;(iterate 6 ((all_goals(refine aa ?_));(all_goals(first | (refine ah rfl aA rfl (src (c1)) rfl rfl ?_) | ((first | refine ag rfl rfl ?_ rfl ?_ | refine ad rfl ?_ ?_);all_goals(intro h;(try simp only [pl] at h);(try (exfalso;omega)))) | skip))));all_goals(refine au ?_)
  all_goals rfl
 ·rw [if_neg h0] at hr;simp only [a₀] at hr;obtain⟨rfl,rfl⟩:=hr;have hbig:a * b < 18446744073709551616 * c:=by rw [Nat.mul_comm 18446744073709551616 c];exact(b₄ om).1 om
  generalize a * b=N at *;generalize hhi':N / 18446744073709551616=hi at *;generalize N % 18446744073709551616=low at *;have hi0:N / 2 ^ 64=c * 0 + hi:=by rw [Nat.mul_zero,c₆];exact hhi'
  have hc0:0 < c:=om;refine bA seat Tryz.func146 54 ?_;refine aa ?_;(iterate 6 ((all_goals(refine aa ?_));(all_goals(first | (refine ah rfl aA rfl (src (c1)) rfl rfl ?_) | ((first | refine ag rfl rfl ?_ rfl ?_ | refine ad rfl ?_ ?_);all_goals(intro h;(try simp only [pl] at h);(try (exfalso;omega)))) | skip))));refine av (Nat×Nat×Nat) (fun x=> [(11, .int .i64 ((x.1:Int) - 1)),(10, .int .u64 x.2.2),(9, .int .u64 low),(8, .int .u64 x.2.1),(2, .int .u64 c)]) (fun _=> []) 0 (fun x=>x.1≤64∧x.2.1 < c∧N / 2 ^ x.1=c * x.2.2 + x.2.1) (fun x=>x.1) (64,hi,0) ⟨dm,dm,hi0⟩ (by dsimp only;exact(vm [] [])) ?_;rintro⟨j,rest,out⟩ ⟨hj,hrest,hq⟩;try dsimp only
  dsimp only at hj hrest hq;cases j with
  | zero=>
   rw [Nat.pow_zero,Nat.div_one] at hq;have hout:N / c=out:=by rw [hq,Nat.mul_add_div hc0,Nat.div_eq_of_lt hrest,Nat.add_zero]
   rw [hout];refine aa ?_;(iterate 4 ((all_goals(refine aa ?_));(all_goals(first | ((first | refine ag rfl rfl ?_ rfl ?_ | refine ad rfl ?_ ?_);all_goals(intro h;(try simp only [pl] at h);(try (exfalso;omega)))) | skip))));all_goals(refine au ?_)
   all_goals rfl
  | succ i=>
   have hi6:i < 64:=om;have hcast:((i + 1:Nat):Int) - 1=(i:Int):=om;rw [hcast];obtain⟨bit,hbit⟩: ∃bit,bit=low / 2 ^ i % 2:=⟨_,rfl⟩
   have hb2:bit < 2:=om;have hstep:=Kp (bit:=bit) (by rw [hbit];exact(hlow i hi6).symm) hq;have hsm:low / 2 ^ i < 18446744073709551616:=Nat.lt_of_le_of_lt (d₃ _ _) hlt;have e1:=aU.mk (NZ rest);have e2:=aU.mk (C6 rest);have e3:=aU.mk (N0 low hi6);have e4:=aU.mk (O1 hsm);rw [← hbit] at e4;have e5:=aU.mk (HC (m:=2 * rest % 18446744073709551616) om hb2 om);have e6:=aU.mk (C6 out);have hcap: ∀o r,N / 2 ^ i=c * o + r→o < 18446744073709551616:=fun o r h=>by
    have h1:N / 2 ^ i≤N:=d₃ _ _;refine Nat.lt_of_mul_lt_mul_left (a:=c) ?_;rw [Nat.mul_comm c 18446744073709551616];omega
   have ho:=hcap _ _ hstep;by_cases hge:c≤2 * rest + bit
   ·have h2:N / 2 ^ i=c * (2 * out + 1) + (2 * rest + bit - c):=by rw [hstep,d₀,Nat.mul_one];omega
    have ho2:=hcap _ _ h2;have e7:=aU.mk (show IntKind.u64.wrap (((2 * rest % 18446744073709551616 + bit:Nat):Int) - (c:Int))=((2 * rest + bit - c:Nat):Int) by rw [wu64];omega);have e8:=aU.mk (Mi (m:=2 * out % 18446744073709551616) om om);have e9:2 * out % 18446744073709551616 + 1=2 * out + 1:=om;rw [e9] at e8;have hlt2:2 * rest + bit - c < c:=om;clear hlow hbit hstep hcap hq;generalize 2 * rest + bit - c=r2 at *;generalize 2 * out + 1=o2 at *;refine aa ?_;(iterate 6 ((all_goals(refine aa ?_));(all_goals(first | ((first | refine ag rfl rfl ?_ rfl ?_ | refine ad rfl ?_ ?_);all_goals(intro h;(try simp only [pl] at h);(try (exfalso;omega)))) | skip))));all_goals(exact⟨(i,r2,o2),⟨by dsimp only;omega,hlt2,h2⟩,by dsimp only;omega,(by dsimp only;exact(vm [] []))⟩)
   ·have e9:2 * out % 18446744073709551616=2 * out:=om;rw [e9] at e6;have e10:2 * rest % 18446744073709551616 + bit=2 * rest + bit:=om;rw [e10] at e5;clear hlow hbit hcap hq;refine aa ?_;(iterate 6 ((all_goals(refine aa ?_));(all_goals(first | ((first | refine ag rfl rfl ?_ rfl ?_ | refine ad rfl ?_ ?_);all_goals(intro h;(try simp only [pl] at h);(try (exfalso;omega)))) | skip))));all_goals(exact⟨(i,2 * rest + bit,2 * out),⟨by dsimp only;omega,by dsimp only;omega,hstep⟩,by dsimp only;omega,(by dsimp only;exact(vm [] []))⟩)
def pO (fee gas:Nat):Nat:=if gas=0 then 0 else if (eS fee 1000 gas).2 then(eS fee 1000 gas).1 else 18446744073709551615
end
section
variable {G:GS}
attribute [local irreducible] ak aB aD aI aN vC aW aw
theorem N5 (l:List Nat) (hl:l.length≤1000000) (hs: ∀a∈l,bo a):aE Tryz.prog G 147 [.sl l.length (fq l)] (.tup [.int .u64 (sumG l 0).1, .bool (sumG l 0).2]):=by
 generalize hr:sumG l 0=r;obtain⟨R,okk⟩:=r;dsimp only;refine bA seat Tryz.func147 26 ?_;refine aa ?_;refine av (Nat×Nat) (fun x=> [(11, .int .i64 x.1),(10, .int .i64 l.length),(9, .sl l.length (fq l)),(4, .int .u64 x.2)]) (fun _=> []) 0 (fun x=>x.1≤l.length∧bo x.2∧sumG (l.drop x.1) x.2=(R,okk)) (fun x=>l.length - x.1) (0,0) ⟨a₃ _,by unfold bo;omega,by rw [b₀];exact hr⟩ (by dsimp only;exact(vm [] [])) ?_;rintro⟨k,s⟩ ⟨hk,hsU,hR⟩;try dsimp only
 dsimp only at hk hsU hR;refine aa ?_;refine ad rfl ?_ ?_ <;> intro h
 ·have hk':k < l.length:=by have:=ot h;omega
  have hel:=C5 hk';have hb:=hs _ (a₁ hk');rw [a₂ hk',sumG] at hR;generalize l[k] =a at *;have hel:=aj.mk hel;have c1:=Ly (G:=G) s a hsU hb;have hU:= @uy s a;generalize iM s a=p at *;obtain⟨v,b⟩:=p;dsimp only at c1 hR hU;cases b with
  | true=>
   rw [if_pos rfl] at hR;refine aa ?_;(iterate 6 ((all_goals(refine aa ?_));(all_goals(first | (refine ah rfl aA rfl (src (c1)) rfl rfl ?_) | ((first | refine ag rfl rfl ?_ rfl ?_ | refine ad rfl ?_ ?_);all_goals(intro h;(try simp only [pl] at h);(try (exfalso;omega)))) | skip))));exact⟨(k + 1,v),⟨by show k + 1≤l.length;omega,hU,hR⟩,by show l.length - (k + 1) < l.length - k;omega,(by dsimp only;exact(vm [] []))⟩
  | false=>
   rw [if_neg sm] at hR;simp only [a₀] at hR;obtain⟨rfl,rfl⟩:=hR;refine aa ?_;(iterate 6 ((all_goals(refine aa ?_));(all_goals(first | (refine ah rfl aA rfl (src (c1)) rfl rfl ?_) | ((first | refine ag rfl rfl ?_ rfl ?_ | refine ad rfl ?_ ?_);all_goals(intro h;(try simp only [pl] at h);(try (exfalso;omega)))) | skip))));all_goals(refine au ?_)
   all_goals rfl
 ·have hk':k=l.length:=by have:=oF h;omega
  subst hk';rw [a₇,sumG] at hR;simp only [a₀] at hR;obtain⟨rfl,rfl⟩:=hR;refine aa ?_;refine au ?_;rfl
theorem Mj (fee gas:Nat) (h1:bo fee) (h2:bo gas):aE Tryz.prog G 93 [.int .u64 fee, .int .u64 gas] (.int .u64 (pO fee gas)):=by
 have c1:=HD (G:=G) fee 1000 gas h1 (by unfold bo;omega) h2;unfold pO;generalize eS fee 1000 gas=p at *;obtain⟨v,b⟩:=p;dsimp only at c1 ⊢;by_cases hg:gas=0
 ·subst hg;rw [if_pos rfl];refine bA seat Tryz.func93 17 ?_;refine aa ?_;(iterate 6 ((all_goals(refine aa ?_));(all_goals(first | (refine ah rfl aA rfl (src (c1)) rfl rfl ?_) | ((first | refine ag rfl rfl ?_ rfl ?_ | refine ad rfl ?_ ?_);all_goals(intro h;(try simp only [pl] at h);(try (exfalso;omega)))) | skip))));all_goals(refine au ?_)
  all_goals rfl
 ·rw [if_neg hg];cases b with
  | true=>
   rw [if_pos rfl];refine bA seat Tryz.func93 17 ?_;refine aa ?_;(iterate 6 ((all_goals(refine aa ?_));(all_goals(first | (refine ah rfl aA rfl (src (c1)) rfl rfl ?_) | ((first | refine ag rfl rfl ?_ rfl ?_ | refine ad rfl ?_ ?_);all_goals(intro h;(try simp only [pl] at h);(try (exfalso;omega)))) | skip))));all_goals(refine au ?_)
   all_goals rfl
  | false=>
   rw [if_neg sm];refine bA seat Tryz.func93 17 ?_;refine aa ?_;(iterate 6 ((all_goals(refine aa ?_));(all_goals(first | (refine ah rfl aA rfl (src (c1)) rfl rfl ?_) | ((first | refine ag rfl rfl ?_ rfl ?_ | refine ad rfl ?_ ?_);all_goals(intro h;(try simp only [pl] at h);(try (exfalso;omega)))) | skip))));all_goals(refine au ?_)
   all_goals rfl
theorem Mk (a b:Nat) (ha:bo a) (hb:bo b):aE Tryz.prog G 145 [.int .u64 a, .int .u64 b] (.tup [.int .u64 (kx a b).1, .bool (kx a b).2]):=by
 have c1:=NY (G:=G) a b ha hb;generalize kx a b=p at *;obtain⟨v,b⟩:=p;dsimp only at c1 ⊢;refine bA seat Tryz.func145 11 ?_;refine aa ?_;(iterate 6 ((all_goals(refine aa ?_));(all_goals(first | (refine ah rfl aA rfl (src (c1)) rfl rfl ?_) | ((first | refine ag rfl rfl ?_ rfl ?_ | refine ad rfl ?_ ?_);all_goals(intro h;(try simp only [pl] at h);(try (exfalso;omega)))) | skip))));all_goals(refine au ?_)
 all_goals rfl
theorem EY (n:Nat) (hn:bo n):aE Tryz.prog G 236 [.int .u64 n] (.int .i64 (cX n).length):=by
 have c1:=zN (G:=G) [] n sm hn;rw [List.nil_append,c₁,c₆] at c1;refine bA seat Tryz.func236 6 ?_;refine aa ?_;refine yc (c1) [] ?_;refine aa ?_;refine au ?_;rfl
def iR (n:Nat):Nat:=1 + (cX n).length + n
theorem zY {n:Nat} (h:bo n):iR n≤n + 11:=by
 have:=(dF h).2;unfold iR;omega
theorem xQ (n:Nat) (hn:n < 4611686018427387904):aE Tryz.prog G 171 [.int .i64 n] (.int .i64 (iR n)):=by
 have c1:=EY (G:=G) n (by unfold bo;omega);have h2:=(dF (n:=n) om).2;unfold iR;generalize (cX n).length=v at *;have hw:=aU.mk (show IntKind.u64.wrap (n:Int)=(n:Int) from bM _ om om);refine bA seat Tryz.func171 11 ?_;refine aa ?_;(iterate 6 ((all_goals(refine aa ?_));(all_goals(first | (refine ah rfl aA rfl (src (c1)) rfl rfl ?_) | ((first | refine ag rfl rfl ?_ rfl ?_ | refine ad rfl ?_ ?_);all_goals(intro h;(try simp only [pl] at h);(try (exfalso;omega)))) | skip))));all_goals(refine au ?_)
 all_goals(refine congrArg (MV.int .i64) ?_;omega)
theorem zZ (l:List Int) (n:Int) (hl:l.length < 1000000000):aE Tryz.prog G 256 [iQ l, .int .i64 n] (.bool (decide (n∈l))):=by
 generalize hr:decide (n∈l)=R;unfold iQ;refine bA seat Tryz.func256 17 ?_;refine aa ?_;refine av Nat (fun k=> [(9, .int .i64 k),(8, .int .i64 l.length),(7, .sl l.length (l.map (MV.int .i64))),(1, .int .i64 n)]) (fun _=> []) 0 (fun k=>k≤l.length∧decide (n∈l.drop k)=R) (fun k=>l.length - k) 0 ⟨a₃ _,by rw [b₀];exact hr⟩ (vm [] []) ?_;rintro k ⟨hk,hR⟩;try dsimp only
 refine aa ?_;refine ad rfl ?_ ?_ <;> intro h
 ·have hk':k < l.length:=by have:=ot h;omega
  have hel:=zG hk';rw [a₂ hk'] at hR;generalize l[k] =a at *;have hel:=aj.mk hel;by_cases he:a=n
  ·subst he;have:R=true:=by rw [← hR];simp
   subst this;refine He ?_;refine au ?_;rfl
  ·have hR2:decide (n∈l.drop (k + 1))=R:=by rw [← hR];simp [Ne.symm he]
   refine aa ?_;refine ad rfl ?_ ?_ <;> intro h
   ·exact absurd (eq_of_beq h) he
   ·refine aa ?_;exact⟨k + 1,⟨by show k + 1≤l.length;omega,hR2⟩,by show l.length - (k + 1) < l.length - k;omega,(by dsimp only;exact(vm [] []))⟩
 ·have hk':k=l.length:=by have:=oF h;omega
  subst hk';rw [a₇] at hR;have:R=false:=by rw [← hR];simp
  subst this;refine aa ?_;refine au ?_;rfl
def dH (l:List (List UInt8)):MV:= .sl l.length (l.map bk)
end
section
variable {G:GS}
attribute [local irreducible] ak aB aD aI aN vC aW aw
def BS:Option (List UInt8)→List bf→Nat
 | _,[] =>0
 | p,a :: r=>if dS a.name=false then 10 else match p with
  | none=>BS (some a.name) r
  | some q=>if q=a.name then 8 else if (!(Op.bytesLess q a.name || q == a.name))=true then 1 else BS (some a.name) r
theorem C7 (p:Option (List UInt8)):BS p [] =0:=by cases p <;> rfl
theorem pP (p:Option (List UInt8)) (a:bf) (r:List bf):BS p (a :: r)=if dS a.name=false then 10 else match p with
  | none=>BS (some a.name) r
  | some q=>if q=a.name then 8 else if (!(Op.bytesLess q a.name || q == a.name))=true then 1 else BS (some a.name) r:=by cases p <;> rfl
def lD (l:List bf):Nat→Option (List UInt8)
 | 0=>none
 | j + 1=>(l[j]?).map (·.name)
def fR (l:dK):Nat:=if 256 < l.acs.length then 3 else if BS none l.acs≠0 then BS none l.acs else if (totS l.acs l.col).2=false then 6 else 0
def eN (l:dK):Prop:=l.acs.length≤50000∧bo l.col∧∀a∈l.acs,SmAc a
theorem HE (L:dK) (hL:eN L):aE Tryz.prog G 90 [eh L] (.int .i64 (fR L)):=by
 obtain⟨l,col⟩:=L;obtain⟨hl,hcol,hsm⟩:=hL;dsimp only at hl hcol hsm;have ct:=C0 (G:=G) l col hcol om (fun a ha=>(hsm a ha).2.1);generalize hQ:fR ⟨l,col⟩=Q;unfold fR at hQ;dsimp only at hQ;unfold eh;dsimp only;by_cases hn:256 < l.length
 ·rw [if_pos hn] at hQ;subst hQ;refine bA seat Tryz.func90 59 ?_;refine aa ?_;(iterate 6 ((all_goals(refine aa ?_));(all_goals(first | ((first | refine ag rfl rfl ?_ rfl ?_ | refine ad rfl ?_ ?_);all_goals(intro h;(try simp only [pl] at h);(try (exfalso;omega)))) | skip))));all_goals(refine au ?_)
  all_goals rfl
 rw [if_neg hn] at hQ;generalize hv:BS none l=v at *;generalize totS l col=p at *;obtain⟨tot,ok⟩:=p;dsimp only at ct hQ;refine bA seat Tryz.func90 59 ?_;refine aa ?_;(iterate 3 ((all_goals(refine aa ?_));(all_goals(first | ((first | refine ag rfl rfl ?_ rfl ?_ | refine ad rfl ?_ ?_);all_goals(intro h;(try simp only [pl] at h);(try (exfalso;omega)))) | skip))));refine av Nat (fun k=> [(14, .int .i64 k),(13, .int .i64 l.length),(12, .sl l.length (l.map aT)),(1, .ptr 0 2 0 0 [])]) (fun _=> [(0,⟨33,2,false,0,[.st [.sl l.length (l.map aT), .int .u64 col]]⟩)]) 1 (fun k=>k≤l.length∧BS (lD l k) (l.drop k)=v) (fun k=>l.length - k) 0 ⟨a₃ _,by rw [b₀];exact hv⟩ (vm [(0,_)] []) ?_;clear hv;rintro k ⟨hk,hR⟩;try dsimp only
 refine aa ?_;refine ad rfl ?_ ?_ <;> intro h
 ·have hk':k < l.length:=by have:=ot h;omega
  have hel:=eZ hk';have hpn:lD l (k + 1)=some l[k].name:=by show(l[k]?).map _=_;simp [hk']
  have c1:=xM (G:=G) l[k].name (by have:=(hsm _ (a₁ hk')).1;omega);rw [a₂ hk',pP] at hR;rw [← hpn] at hR;have hnmk:lD l (k + 1)=some l[k].name:=hpn;rw [hnmk] at hR;generalize hak:l[k] =a at *;obtain⟨nm,bal,seq⟩:=a;replace hel:bF (l.map aT) l.length (k:Int)=some (.st [.str nm, .int .u64 bal, .int .u64 seq]):=hel;have hel:=aj.mk hel;dsimp only at hR c1;by_cases hnm:dS nm=false
  ·rw [hnm] at c1;rw [if_pos hnm] at hR;subst hR;rw [if_pos om] at hQ;subst hQ;refine aa ?_;(iterate 6 ((all_goals(refine aa ?_));(all_goals(first | (refine ah rfl aA rfl (src (c1)) rfl rfl ?_) | ((first | refine ag rfl rfl ?_ rfl ?_ | refine ad rfl ?_ ?_);all_goals(intro h;(try simp only [pl] at h);(try (exfalso;omega)))) | skip))));all_goals(refine au ?_)
   all_goals rfl
  rw [if_neg hnm] at hR;have hnm:dS nm=true:=by simpa using hnm
  rw [hnm] at c1;cases k with
  | zero=>
   dsimp only [lD] at hR;have hR:BS (lD l (0 + 1)) (l.drop (0 + 1))=v:=by rw [hnmk];exact hR
   refine aa ?_;(iterate 3 ((all_goals(refine aa ?_));(all_goals(first | (refine ah rfl aA rfl (src (c1)) rfl rfl ?_) | ((first | refine ag rfl rfl ?_ rfl ?_ | refine ad rfl ?_ ?_);all_goals(intro h;(try simp only [pl] at h);(try (exfalso;omega)))) | skip))));refine al [ae 0,ae 1,ae 2,ae 3,ae 4,ae 5,ae 6,ae 7,ae 8,ae 9,ae 10,ae 11,ae 12,ae 13] ?_;refine aa ?_;refine al [ae 0,ae 1,ae 2,ae 3,ae 4,ae 5,ae 6,ae 7,ae 8,ae 9,ae 10,ae 11,ae 12,ae 13] ?_;refine aa ?_;exact⟨0 + 1,⟨by show 0 + 1≤l.length;omega,hR⟩,by show l.length - (0 + 1) < l.length - 0;omega,(by dsimp only;exact(vm [(0,_)] []))⟩
  | succ j=>
   have hj:j < l.length:=om;have hep:=eZ hj;have hpj:lD l (j + 1)=some l[j].name:=by show(l[j]?).map _=_;simp [hj]
   rw [hpj] at hR;generalize l[j] =b at *;obtain⟨nb,bb,sb⟩:=b;replace hep:bF (l.map aT) l.length (((j + 1:Nat):Int) - 1)=some (.st [.str nb, .int .u64 bb, .int .u64 sb]):=by rw [show ((j + 1:Nat):Int) - 1=(j:Int) by omega];exact hep
   have hep:=aj.mk hep;dsimp only at hR;refine aa ?_;(iterate 3 ((all_goals(refine aa ?_));(all_goals(first | (refine ah rfl aA rfl (src (c1)) rfl rfl ?_) | ((first | refine ag rfl rfl ?_ rfl ?_ | refine ad rfl ?_ ?_);all_goals(intro h;(try simp only [pl] at h);(try (exfalso;omega)))) | skip))));refine al [ae 0,ae 1,ae 2,ae 3,ae 4,ae 5,ae 6,ae 7,ae 8,ae 9,ae 10,ae 11,ae 12,ae 13] ?_;refine aa ?_;refine eP rfl rfl ?_ rfl ?_ <;> intro h
   rotate_left
   ·exact absurd (oF h) om
   by_cases hd:nb=nm
   ·subst hd;rw [if_pos rfl] at hR;subst hR;rw [if_pos om] at hQ;subst hQ;refine He ?_;(iterate 4 ((all_goals(refine aa ?_));(all_goals(first | ((first | refine ag rfl rfl ?_ rfl ?_ | refine ad rfl ?_ ?_);all_goals(intro h;(try simp only [pl] at h);(try (exfalso;omega)))) | skip))));all_goals(refine au ?_)
    all_goals rfl
   rw [if_neg hd] at hR;refine aa ?_;refine ad rfl ?_ ?_ <;> intro h
   ·exact absurd (eq_of_beq h) hd
   refine aa ?_;refine al [ae 0,ae 1,ae 2,ae 3,ae 4,ae 5,ae 6,ae 7,ae 8,ae 9,ae 10,ae 11,ae 12,ae 13] ?_;refine aa ?_;refine eP rfl rfl ?_ rfl ?_ <;> intro h
   rotate_left
   ·exact absurd (oF h) om
   refine aa ?_;refine ad rfl ?_ ?_ <;> intro h
   ·rw [if_pos h] at hR;subst hR;rw [if_pos om] at hQ;subst hQ;refine aa ?_;refine au ?_;rfl
   ·rw [if_neg (by rw [h];simp)] at hR;refine aa ?_;exact⟨j + 1 + 1,⟨by show j + 1 + 1≤l.length;omega,by rw [hnmk];exact hR⟩,by show l.length - (j + 1 + 1) < l.length - (j + 1);omega,(by dsimp only;exact(vm [(0,_)] []))⟩
 ·have hk':k=l.length:=by have:=oF h;omega
  subst hk';rw [a₇,C7] at hR;subst hR;rw [if_neg sm] at hQ;cases ok with
  | true=>
   rw [if_neg sm] at hQ;subst hQ;refine aa ?_;(iterate 6 ((all_goals(refine aa ?_));(all_goals(first | (refine ah rfl aA rfl (src (ct)) rfl rfl ?_) | ((first | refine ag rfl rfl ?_ rfl ?_ | refine ad rfl ?_ ?_);all_goals(intro h;(try simp only [pl] at h);(try (exfalso;omega)))) | skip))));all_goals(refine au ?_)
   all_goals rfl
  | false=>
   rw [if_pos rfl] at hQ;subst hQ;refine aa ?_;(iterate 6 ((all_goals(refine aa ?_));(all_goals(first | (refine ah rfl aA rfl (src (ct)) rfl rfl ?_) | ((first | refine ag rfl rfl ?_ rfl ?_ | refine ad rfl ?_ ?_);all_goals(intro h;(try simp only [pl] at h);(try (exfalso;omega)))) | skip))));all_goals(refine au ?_)
   all_goals rfl
def i6:List bf→List bf→List bf×Nat
 | [],l=>(l,0)
 | a :: r,l=>if dS a.name=false then([],10) else if 0≤fG a.name l 0 then([],8) else i6 r (fH a l)
def lg0:dK:=⟨[],0⟩
def jB (acs:List bf):dK×Nat:=if 256 < acs.length then(lg0,3) else if (i6 acs []).2≠0 then(lg0,(i6 acs []).2) else if (totS (i6 acs []).1 0).2=false then(lg0,6) else(⟨(i6 acs []).1,0⟩,0)
theorem uA {a x:bf}: ∀{l:List bf},x∈pN a l→x=a∨x∈l
 | [],h=>by rw [pN] at h;simp at h;exact .inl h
 | b :: r,h=>by
  rw [pN] at h
  split at h
  ·rcases b₈.1 h with rfl | h
   ·exact .inr sm
   ·rcases uA h with h | h
    ·exact .inl h
    ·exact .inr (by simp [h])
  ·rcases b₈.1 h with rfl | h
   ·exact .inl rfl
   ·exact .inr h
theorem ky {a x:bf} {l:List bf} (h:x∈fH a l):x=a∨x∈l:=by
 unfold fH at h;split at h
 ·rcases List.mem_or_eq_of_mem_set h with h | h
  ·exact .inr h
  ·exact .inl h
 ·exact uA h
def qS (a:bf):Prop:=a.name.length≤140737488355328∧bo a.bal∧bo a.seq
theorem SmAc.wd {a:bf} (h:SmAc a):qS a:=⟨by have:=h.1;omega,h.2⟩
theorem EZ {s:List UInt8} (h:dS s=true):s.length≤20:=by
 unfold dS at h;rw [Bool.and_eq_true] at h;exact(ot h.2).2
theorem qS.sm {a:bf} (h:qS a) (hn:dS a.name=true):SmAc a:=⟨by have:=EZ hn;omega,h.2⟩
theorem xR: ∀(r l:List bf),(∀a∈r,qS a)→(∀a∈l,SmAc a)→(∀a∈(i6 r l).1,SmAc a)∧(i6 r l).1.length≤l.length + r.length
 | [],l,_,h=>⟨h,by simp [i6]⟩
 | a :: r,l,h1,h2=>by
  rw [i6]
  split
  ·exact⟨sm,sm⟩
  ·rename_i hnm
   split
   ·exact⟨sm,sm⟩
   ·have:=xR r (fH a l) (fun x hx=>h1 x (by simp [hx])) (fun x hx=>(ky hx).elim (fun e=>e▸(h1 a sm).sm (by simpa using hnm)) (h2 x))
    have h3:=mA a l
    refine⟨this.1,?_⟩
    rw [c₇]
    omega
theorem uB {acs:List bf} (h: ∀a∈acs,qS a):eN (jB acs).1:=by
 have h0:eN lg0:=⟨by simp [lg0],by simp [lg0,bo],by simp [lg0]⟩;have:=xR acs [] h sm;unfold jB;split
 ·exact h0
 split
 ·exact h0
 split
 ·exact h0
 ·refine⟨?_,by simp [bo],this.1⟩;have h2:=this.2;simp only [c₁] at h2;dsimp only;omega
theorem Ml (l:List bf) (hl:l.length≤140737488355328) (hsm: ∀a∈l,qS a):aQ Tryz.prog G 47 [.sl l.length (l.map aT)] [] 0 (.tup [eh (jB l).1, .int .i64 (jB l).2]) [] 0:=by
 generalize hQ:jB l=Q;obtain⟨⟨Ql,Qc⟩,Qe⟩:=Q;unfold jB at hQ;unfold eh;dsimp only;by_cases hn:256 < l.length
 ·rw [if_pos hn] at hQ;simp only [lg0,a₀,dK.mk.injEq] at hQ;obtain⟨⟨rfl,rfl⟩,rfl⟩:=hQ;refine dw seat Tryz.func47 46 ?_;refine aa ?_;(iterate 4 ((all_goals(refine aa ?_));(all_goals(first | ((first | refine ag rfl rfl ?_ rfl ?_ | refine ad rfl ?_ ?_);all_goals(intro h;(try simp only [pl] at h);(try (exfalso;omega)))) | skip))));all_goals(refine au ?_;exact en [_,_])
 rw [if_neg hn] at hQ;have hsmg:=xR l [] hsm sm;generalize hv:i6 l [] =v at *;obtain⟨vl,ve⟩:=v;dsimp only at hQ hsmg;have hvl:vl.length≤256:=by have:=hsmg.2;simp only [c₁] at this;omega
 have ct:=C0 (G:=G) vl 0 (by unfold bo;omega) om (fun a ha=>(hsmg.1 a ha).2.1);clear hsmg;generalize totS vl 0=p at *;obtain⟨tot,ok⟩:=p;dsimp only at ct hQ;refine dw seat Tryz.func47 46 ?_;refine aa ?_;(iterate 3 ((all_goals(refine aa ?_));(all_goals(first | ((first | refine ag rfl rfl ?_ rfl ?_ | refine ad rfl ?_ ?_);all_goals(intro h;(try simp only [pl] at h);(try (exfalso;omega)))) | skip))));refine av (Nat×List bf) (fun x=> [(15, .int .i64 x.1),(14, .int .i64 l.length),(13, .sl l.length (l.map aT)),(4, .ptr 1 2 0 0 []),(2, .ptr 0 2 0 0 [])]) (fun x=> [(0,⟨33,2,false,0,[.st [.nils, .int .u64 0]]⟩),(1,⟨33,2,false,0,[.st [.sl x.2.length (x.2.map aT), .int .u64 0]]⟩)]) 2 (fun x=>x.1≤l.length∧x.2.length≤x.1∧(∀a∈x.2,SmAc a)∧i6 (l.drop x.1) x.2=(vl,ve)) (fun x=>l.length - x.1) (0,[]) ⟨a₃ _,a₃ _,sm,by rw [b₀];exact hv⟩ (by dsimp only;exact(vm [(0,_),(1,_)] [])) ?_;clear hv;rintro⟨k,z⟩ ⟨hk,hz,hzs,hR⟩;try dsimp only
 dsimp only at hk hz hzs hR;refine aa ?_;refine ad rfl ?_ ?_ <;> intro h
 ·have hk':k < l.length:=by have:=ot h;omega
  have hel:=eZ hk';have hsa:=hsm _ (a₁ hk');have c1:=xM (G:=G) l[k].name (by have:=hsa.1;omega);have c2:=xO (G:=G) z l[k].name om;have c3:=HB (G:=G) l[k] z om;have hpl:=mA l[k] z;have hpm:dS l[k].name=true→∀x∈fH l[k] z,SmAc x:=fun hn x hx=>(ky hx).elim (fun e=>e▸hsa.sm hn) (hzs x)
  rw [a₂ hk',i6] at hR;generalize fH l[k] z=z2 at *;generalize l[k] =a at *;obtain⟨nm,bal,seq⟩:=a;replace hel:bF (l.map aT) l.length (k:Int)=some (.st [.str nm, .int .u64 bal, .int .u64 seq]):=hel;have hel:=aj.mk hel;dsimp only at hR c1 c2 hpm;unfold aT at c3;dsimp only at c3;by_cases hnm:dS nm=false
  ·rw [hnm] at c1;rw [if_pos hnm] at hR;simp only [a₀] at hR;obtain⟨rfl,rfl⟩:=hR;rw [if_pos om] at hQ;simp only [lg0,a₀,dK.mk.injEq] at hQ;obtain⟨⟨rfl,rfl⟩,rfl⟩:=hQ;refine aa ?_;(iterate 4 ((all_goals(refine aa ?_));(all_goals(first | (refine ah rfl aA rfl (src (c1)) rfl rfl ?_) | ((first | refine ag rfl rfl ?_ rfl ?_ | refine ad rfl ?_ ?_);all_goals(intro h;(try simp only [pl] at h);(try (exfalso;omega)))) | skip))));all_goals(refine au ?_;exact en [_,_])
  rw [if_neg hnm] at hR;have hnm:dS nm=true:=by simpa using hnm
  rw [hnm] at c1;generalize fG nm z 0=fi at *;by_cases hfi:0≤fi
  ·rw [if_pos hfi] at hR;simp only [a₀] at hR;obtain⟨rfl,rfl⟩:=hR;rw [if_pos om] at hQ;simp only [lg0,a₀,dK.mk.injEq] at hQ;obtain⟨⟨rfl,rfl⟩,rfl⟩:=hQ;refine aa ?_;(iterate 6 ((all_goals(refine aa ?_));(all_goals(first | (refine ah rfl aA rfl (src (c1)) rfl rfl ?_) | (refine ah rfl aA rfl (src (c2)) rfl rfl ?_) | ((first | refine ag rfl rfl ?_ rfl ?_ | refine ad rfl ?_ ?_);all_goals(intro h;(try simp only [pl] at h);(try (exfalso;omega)))) | skip))));all_goals(refine au ?_;exact en [_,_])
  rw [if_neg hfi] at hR;refine aa ?_;(iterate 7 ((all_goals(refine aa ?_));(all_goals(first | (refine ah rfl aA rfl (src (c1)) rfl rfl ?_) | (refine ah rfl aA rfl (src (c2)) rfl rfl ?_) | (refine ah rfl aA rfl (c3) rfl rfl ?_) | ((first | refine ag rfl rfl ?_ rfl ?_ | refine ad rfl ?_ ?_);all_goals(intro h;(try simp only [pl] at h);(try (exfalso;omega)))) | skip))));exact⟨(k + 1,z2),⟨by show k + 1≤l.length;omega,by show z2.length≤k + 1;omega,hpm hnm,hR⟩,by show l.length - (k + 1) < l.length - k;omega,(by dsimp only;exact(vm [(0,_),(1,_)] []))⟩
 ·have hk':k=l.length:=by have:=oF h;omega
  subst hk';rw [a₇,i6] at hR;simp only [a₀] at hR;obtain⟨rfl,rfl⟩:=hR;rw [if_neg sm] at hQ;cases ok with
  | true=>
   rw [if_neg sm] at hQ;simp only [a₀,dK.mk.injEq] at hQ;obtain⟨⟨rfl,rfl⟩,rfl⟩:=hQ;refine aa ?_;(iterate 4 ((all_goals(refine aa ?_));(all_goals(first | (refine ah rfl aA rfl (src (ct)) rfl rfl ?_) | ((first | refine ag rfl rfl ?_ rfl ?_ | refine ad rfl ?_ ?_);all_goals(intro h;(try simp only [pl] at h);(try (exfalso;omega)))) | skip))));all_goals(refine au ?_;exact en [_,_])
  | false=>
   rw [if_pos rfl] at hQ;simp only [lg0,a₀,dK.mk.injEq] at hQ;obtain⟨⟨rfl,rfl⟩,rfl⟩:=hQ;refine aa ?_;(iterate 4 ((all_goals(refine aa ?_));(all_goals(first | (refine ah rfl aA rfl (src (ct)) rfl rfl ?_) | ((first | refine ag rfl rfl ?_ rfl ?_ | refine ad rfl ?_ ?_);all_goals(intro h;(try simp only [pl] at h);(try (exfalso;omega)))) | skip))));all_goals(refine au ?_;exact en [_,_])
end
section
variable {G:GS}
attribute [local irreducible] ak aB aD aI aN vC aW aw
def E0 (f:eE):MV:= .st [.int .i64 f.num, .int .i64 f.kind, .int .u64 f.val, .nils]
theorem oq {σ:Nat→Option Nat} {fz:Fz} {f:eE} (h:f.bytes= []):eu σ fz (bR f) (E0 f):=by
 unfold bR E0;rw [h];exact .inr ⟨_,rfl,⟨rfl,rfl⟩,⟨rfl,rfl⟩,⟨rfl,rfl⟩, .inr ⟨rfl,rfl⟩,trivial⟩
def Pk (v:MV) (f:eE):Prop:=v=bR f∨(v=E0 f∧f.bytes= [])
inductive z1:List MV→List eE→Prop
 | nil:z1 [] []
 | cons {v:MV} {f:eE} {vs:List MV} {l:List eE} (h:Pk v f) (t:z1 vs l):z1 (v :: vs) (f :: l)
theorem z1.get {vs:List MV} {l:List eE} (h:z1 vs l): ∀{k:Nat} (hk:k < l.length),∃v,vs[k]? =some v∧Pk v l[k] :=by
 induction h with
 | nil=>intro k hk;simp at hk
 | cons h t ih=>
  intro k hk;cases k with
  | zero=>exact ⟨_,rfl,h⟩
  | succ k=>simpa using ih (by simpa using hk)
theorem nq (l:List eE) (vs:List MV) (hvs:z1 vs l) (hl: ∀f∈l,iz f) (hm:(aF l).length < 200000000) (hll:l.length < 1000000):aQ Tryz.prog G 119 [.sl l.length vs] [] 0 (.sl (aF l).length (u8s (aF l))) [] 0:=by
 refine dw seat Tryz.func119 20 ?_;refine aa ?_;refine av Nat (fun k=> [(8, .int .i64 k),(7, .int .i64 l.length),(6, .sl l.length vs),(3, .ms 0 1 0 (aF (l.take k)).length)]) (fun k=> [(0,⟨5,1,true,0,u8s (aF (l.take k))⟩)]) 1 (fun k=>k≤l.length) (fun k=>l.length - k) 0 (a₃ _) (by rw [b₁];exact(vm [] [])) ?_;intro k hk;try dsimp only
 refine aa ?_;refine ad rfl ?_ ?_ <;> intro h
 ·have hk':k < l.length:=by have:=ot h;omega
  have hs:=ng l hk';have hle:=ni l (k + 1);have hfo:=hl _ (a₁ hk');have hfb:=la hfo;obtain⟨v,hv1,hv2⟩:=hvs.get hk';have hel:bF vs l.length (k:Int)=some v:=cO hk' hv1;generalize l[k] =f at *;have hlen:(aF (l.take (k + 1))).length=(aF (l.take k)).length + (aV f).length:=by rw [hs,a₆]
  have c1:=CU (G:=G) (aF (l.take k)) f hfo om;rw [← hs] at c1;unfold jn at c1;generalize aF (l.take k)=p at *;obtain⟨num,kind,val,bytes⟩:=f;rcases hv2 with rfl | ⟨rfl,hv2⟩
  ·replace hel:bF vs l.length (k:Int)=some (.st [.int .i64 num, .int .i64 kind, .int .u64 val, .sl bytes.length (u8s bytes)]):=hel;have hel:=aj.mk hel;refine aa ?_;refine bC rfl aA rfl (c1) [] [(0,p.length)] ⟨rfl,mm,rfl,lm,mm⟩ rfl rfl ?_;refine aa ?_;exact⟨k + 1,by show k + 1≤l.length;omega,by show l.length - (k + 1) < l.length - k;omega,(by dsimp only;exact(vm [(0,_)] []))⟩
  ·replace hel:bF vs l.length (k:Int)=some (.st [.int .i64 num, .int .i64 kind, .int .u64 val, .nils]):=hel;have hel:=aj.mk hel;refine aa ?_;refine bC rfl aA rfl c1 [] [(0,p.length)] ⟨rfl,mm,rfl,⟨rv,oq hv2,trivial⟩,mm⟩ rfl rfl ?_;refine aa ?_;exact⟨k + 1,by show k + 1≤l.length;omega,by show l.length - (k + 1) < l.length - k;omega,(by dsimp only;exact(vm [(0,_)] []))⟩
 ·have hk':k=l.length:=by have:=oF h;omega
  subst hk';rw [a₈];generalize aF l=p at *;refine aa ?_;refine⟨[_],[],[(0,p.length)],rfl,rfl,?_,rfl,⟨?_,trivial⟩,?_⟩
  ·exact⟨by show p.length≤(u8s p).length;simp [u8s],trivial⟩
  ·exact rv
  ·exact mm
theorem HF (l:List eE) (vs:List MV) (hvs:z1 vs l) (hl: ∀f∈l,iz f) (hm:(aF l).length < 200000000) (hll:l.length < 1000000):aQ Tryz.prog G 148 [.sl l.length vs] [] 0 (.sl (aF l).length (u8s (aF l))) [] 0:=by
 refine dw seat Tryz.func148 20 ?_;refine aa ?_;refine av Nat (fun k=> [(8, .int .i64 k),(7, .int .i64 l.length),(6, .sl l.length vs),(3, .ms 0 1 0 (aF (l.take k)).length)]) (fun k=> [(0,⟨5,1,true,0,u8s (aF (l.take k))⟩)]) 1 (fun k=>k≤l.length) (fun k=>l.length - k) 0 (a₃ _) (by rw [b₁];exact(vm [] [])) ?_;intro k hk;try dsimp only
 refine aa ?_;refine ad rfl ?_ ?_ <;> intro h
 ·have hk':k < l.length:=by have:=ot h;omega
  have hs:=ng l hk';have hle:=ni l (k + 1);have hfo:=hl _ (a₁ hk');have hfb:=la hfo;obtain⟨v,hv1,hv2⟩:=hvs.get hk';have hel:bF vs l.length (k:Int)=some v:=cO hk' hv1;generalize l[k] =f at *;have hlen:(aF (l.take (k + 1))).length=(aF (l.take k)).length + (aV f).length:=by rw [hs,a₆]
  have c1:=mh (G:=G) (aF (l.take k)) f hfo om;rw [← hs] at c1;unfold jn at c1;generalize aF (l.take k)=p at *;obtain⟨num,kind,val,bytes⟩:=f;rcases hv2 with rfl | ⟨rfl,hv2⟩
  ·replace hel:bF vs l.length (k:Int)=some (.st [.int .i64 num, .int .i64 kind, .int .u64 val, .sl bytes.length (u8s bytes)]):=hel;have hel:=aj.mk hel;refine aa ?_;refine bC rfl aA rfl (c1) [] [(0,p.length)] ⟨rfl,mm,rfl,lm,mm⟩ rfl rfl ?_;refine aa ?_;exact⟨k + 1,by show k + 1≤l.length;omega,by show l.length - (k + 1) < l.length - k;omega,(by dsimp only;exact(vm [(0,_)] []))⟩
  ·replace hel:bF vs l.length (k:Int)=some (.st [.int .i64 num, .int .i64 kind, .int .u64 val, .nils]):=hel;have hel:=aj.mk hel;refine aa ?_;refine bC rfl aA rfl c1 [] [(0,p.length)] ⟨rfl,mm,rfl,⟨rv,oq hv2,trivial⟩,mm⟩ rfl rfl ?_;refine aa ?_;exact⟨k + 1,by show k + 1≤l.length;omega,by show l.length - (k + 1) < l.length - k;omega,(by dsimp only;exact(vm [(0,_)] []))⟩
 ·have hk':k=l.length:=by have:=oF h;omega
  subst hk';rw [a₈];generalize aF l=p at *;refine aa ?_;refine⟨[_],[],[(0,p.length)],rfl,rfl,?_,rfl,⟨?_,trivial⟩,?_⟩
  ·exact⟨by show p.length≤(u8s p).length;simp [u8s],trivial⟩
  ·exact rv
  ·exact mm
end
section
variable {G:GS}
attribute [local irreducible] ak aB aD aI aN vC aW aw
def Ns (a:bf):List eE:= [⟨1,2,0,a.name⟩,⟨2,0,a.bal,[]⟩,⟨3,0,a.seq,[]⟩]
def fY (a:bf):List UInt8:=aF (Ns a)
def nG (l:dK):List UInt8:=ee (l.acs.map fY ++ [aF [⟨4,0,l.col,[]⟩]])
theorem mC {n v:Nat} (h1:1≤n) (h2:n≤536870911) (hv:bo v):iz ⟨n,0,v,[]⟩:=⟨h1,h2, .inl ⟨rfl,rfl,hv⟩⟩
theorem mD {n:Nat} {b:List UInt8} (h1:1≤n) (h2:n≤536870911) (hb:b.length < 18446744073709551616):iz ⟨n,2,0,b⟩:=⟨h1,h2, .inr ⟨rfl,rfl,hb⟩⟩
theorem BT {a:bf} (h:SmAc a): ∀f∈Ns a,iz f∧f.bytes.length≤5000:=by
 intro f hf;unfold Ns at hf;simp only [b₈,d₂,or_false] at hf;rcases hf with rfl | rfl | rfl
 ·exact⟨mD om om (by have:=h.1;omega),h.1⟩
 ·exact⟨mC om om h.2.1,sm⟩
 ·exact⟨mC om om h.2.2,sm⟩
theorem nr {a:bf} (h:SmAc a):(fY a).length≤15060:=by
 have h1:=eO 5000 _ (BT h);have h2:(Ns a).length=3:=rfl;rw [h2] at h1;unfold fY;omega
theorem BU {c:Nat} (h:bo c):(∀f∈ [(⟨4,0,c,[]⟩:eE)],iz f∧f.bytes.length≤0):=by
 intro f hf;rw [b₆.1 hf];exact⟨mC om om h,sm⟩
theorem C8 {c:Nat} (h:bo c):(aF [(⟨4,0,c,[]⟩:eE)]).length≤20:=eO 0 _ (BU h)
theorem nQ {l:List bf} {k:Nat} (hk:k < l.length):((l.take (k + 1)).map fY).map bk=((l.take k).map fY).map bk ++ [bk (fY l[k])] :=by
 rw [b₂ hk,b₃,b₃];rfl
theorem HG (L:dK) (hL:eN L):aE Tryz.prog G 112 [eh L] (keyM (nG L)):=by
 obtain⟨l,col⟩:=L;obtain⟨hl,hcol,hsm⟩:=hL;dsimp only at hl hcol hsm;unfold nG eh;dsimp only;have hcl:=C8 hcol;have cm:=nq (G:=G) [⟨4,0,col,[]⟩] [.st [.int .i64 4, .int .i64 0, .int .u64 col, .nils]] (.cons (.inr ⟨rfl,rfl⟩) .nil) (fun f hf=>(BU hcol f hf).1) om sm;have cr:=sE (G:=G) _ (l.map fY ++ [aF [⟨4,0,col,[]⟩]]) (a₅ _) (by simp only [a₆,c₂,a₉];omega) (by
  intro b hb;rcases d₄.1 hb with hb | hb
  ·obtain⟨a,ha,rfl⟩:=c₃.1 hb;have:=nr (hsm a ha);omega
  ·rw [b₆.1 hb];omega)
 generalize aF [⟨4,0,col,[]⟩] =mc at *;have hzl:(l.map fY ++ [mc]).length=l.length + 1:=sm;generalize hz:l.map fY ++ [mc] =Z at *;generalize ee Z=root at *;refine bA seat Tryz.func112 38 ?_;refine aa ?_;refine av Nat (fun k=> [(9, .int .i64 k),(8, .int .i64 l.length),(7, .sl l.length (l.map aT)),(3, .ms 2 1 0 k),(2, .ptr 1 32 0 0 []),(1, .ptr 0 2 0 0 [])]) (fun k=> [(0,⟨33,2,false,0,[.st [.sl l.length (l.map aT), .int .u64 col]]⟩),(1,⟨68,32,false,0,[keyM (b₇ 32 0)]⟩),(2,⟨41,1,true,0,((l.take k).map fY).map bk⟩)]) 3 (fun k=>k≤l.length) (fun k=>l.length - k) 0 (a₃ _) (by rw [b₁];exact(vm [(0,_),(1,_)] [])) ?_;intro k hk;try dsimp only
 refine aa ?_;refine ad rfl ?_ ?_ <;> intro h
 ·have hk':k < l.length:=by have:=ot h;omega
  have hel:=eZ hk';have hsa:=hsm _ (a₁ hk');have hsucc:=nQ hk';have hll:(((l.take k).map fY).map bk).length=k:=by simp;omega
  generalize l[k] =a at *;have hln:=nr hsa;have hok:=BT hsa;have hnl:=hsa.1;unfold fY Ns at hln hok;have hlf:fY a=aF [⟨1,2,0,a.name⟩,⟨2,0,a.bal,[]⟩,⟨3,0,a.seq,[]⟩] :=rfl;rw [hlf] at hsucc;obtain⟨nm,bal,seq⟩:=a;dsimp only at hln hok hsucc hnl;have c1:=nq (G:=G) [⟨1,2,0,nm⟩,⟨2,0,bal,[]⟩,⟨3,0,seq,[]⟩] [.st [.int .i64 1, .int .i64 2, .int .u64 0, .sl nm.length (u8s nm)], .st [.int .i64 2, .int .i64 0, .int .u64 bal, .nils], .st [.int .i64 3, .int .i64 0, .int .u64 seq, .nils]] (.cons (.inl rfl) (.cons (.inr ⟨rfl,rfl⟩) (.cons (.inr ⟨rfl,rfl⟩) .nil))) (fun f hf=>(hok f hf).1) om sm;replace hel:bF (l.map aT) l.length (k:Int)=some (.st [.str nm, .int .u64 bal, .int .u64 seq]):=hel;have hel:=aj.mk hel;generalize aF [⟨1,2,0,nm⟩,⟨2,0,bal,[]⟩,⟨3,0,seq,[]⟩] =mk at *;clear hok;refine aa ?_;refine bX rfl aA rfl (c1) rfl [(19,3)] mm lm ?_;refine aa ?_;refine aL rfl rfl (by intro R hR;refine cI hR ?_;(refine a₄ (a₅ _) ?_;refine⟨_,rfl,?_⟩;refine a₄ ⟨hll,ai (by kernel_rfl) pf⟩ ?_;refine⟨((l.take (k + 1)).map fY).map bk,sv (by rw [hsucc];rfl),k + 1,sv pf,?_⟩);exact hR) rfl ?_;refine aa ?_;exact⟨k + 1,by show k + 1≤l.length;omega,by show l.length - (k + 1) < l.length - k;omega,(by dsimp only;exact(vm [(0,_),(1,_),(2,_)] []))⟩
 ·have hk':k=l.length:=by have:=oF h;omega
  subst hk';rw [a₈];refine aa ?_;refine bX rfl aA rfl (cm) rfl [(8,1)] mm lm ?_;refine aa ?_;refine aL rfl rfl (by intro R hR;refine cI hR ?_;(refine a₄ (a₅ _) ?_;refine⟨_,rfl,?_⟩;refine a₄ ⟨sm,ai (by kernel_rfl) pf⟩ ?_;refine⟨Z.map bk,sv (by rw [← hz];simp;rfl),Z.length,sv pf,?_⟩);exact hR) rfl ?_;refine aa ?_;refine bX rfl aA rfl (src (cr)) rfl [(10,Z.length)] mm lm ?_;refine aa ?_;refine au ?_;rfl
theorem C9 (L:dK) (hL:eN L):aE Tryz.prog G 96 [eh L] (keyM (nG L)):=by
 obtain⟨l,col⟩:=L;obtain⟨hl,hcol,hsm⟩:=hL;dsimp only at hl hcol hsm;unfold nG eh;dsimp only;have hcl:=C8 hcol;have cm:=HF (G:=G) [⟨4,0,col,[]⟩] [.st [.int .i64 4, .int .i64 0, .int .u64 col, .nils]] (.cons (.inr ⟨rfl,rfl⟩) .nil) (fun f hf=>(BU hcol f hf).1) om sm;have cr:=xJ (G:=G) _ (l.map fY ++ [aF [⟨4,0,col,[]⟩]]) (a₅ _) (by simp only [a₆,c₂,a₉];omega) (by
  intro b hb;rcases d₄.1 hb with hb | hb
  ·obtain⟨a,ha,rfl⟩:=c₃.1 hb;have:=nr (hsm a ha);omega
  ·rw [b₆.1 hb];omega)
 generalize aF [⟨4,0,col,[]⟩] =mc at *;have hzl:(l.map fY ++ [mc]).length=l.length + 1:=sm;generalize hz:l.map fY ++ [mc] =Z at *;generalize ee Z=root at *;refine bA seat Tryz.func96 39 ?_;refine aa ?_;refine av Nat (fun k=> [(9, .int .i64 k),(8, .int .i64 l.length),(7, .sl l.length (l.map aT)),(3, .ms 2 1 0 k),(2, .ptr 1 32 0 0 []),(1, .ptr 0 2 0 0 [])]) (fun k=> [(0,⟨33,2,false,0,[.st [.sl l.length (l.map aT), .int .u64 col]]⟩),(1,⟨68,32,false,0,[keyM (b₇ 32 0)]⟩),(2,⟨41,1,true,0,((l.take k).map fY).map bk⟩)]) 3 (fun k=>k≤l.length) (fun k=>l.length - k) 0 (a₃ _) (by rw [b₁];exact(vm [(0,_),(1,_)] [])) ?_;intro k hk;try dsimp only
 refine aa ?_;refine ad rfl ?_ ?_ <;> intro h
 ·have hk':k < l.length:=by have:=ot h;omega
  have hel:=eZ hk';have hsa:=hsm _ (a₁ hk');have hsucc:=nQ hk';have hll:(((l.take k).map fY).map bk).length=k:=by simp;omega
  generalize l[k] =a at *;have hln:=nr hsa;have hok:=BT hsa;have hnl:=hsa.1;unfold fY Ns at hln hok;have hlf:fY a=aF [⟨1,2,0,a.name⟩,⟨2,0,a.bal,[]⟩,⟨3,0,a.seq,[]⟩] :=rfl;rw [hlf] at hsucc;obtain⟨nm,bal,seq⟩:=a;dsimp only at hln hok hsucc hnl;have c1:=HF (G:=G) [⟨1,2,0,nm⟩,⟨2,0,bal,[]⟩,⟨3,0,seq,[]⟩] [.st [.int .i64 1, .int .i64 2, .int .u64 0, .sl nm.length (u8s nm)], .st [.int .i64 2, .int .i64 0, .int .u64 bal, .nils], .st [.int .i64 3, .int .i64 0, .int .u64 seq, .nils]] (.cons (.inl rfl) (.cons (.inr ⟨rfl,rfl⟩) (.cons (.inr ⟨rfl,rfl⟩) .nil))) (fun f hf=>(hok f hf).1) om sm;replace hel:bF (l.map aT) l.length (k:Int)=some (.st [.str nm, .int .u64 bal, .int .u64 seq]):=hel;have hel:=aj.mk hel;generalize aF [⟨1,2,0,nm⟩,⟨2,0,bal,[]⟩,⟨3,0,seq,[]⟩] =mk at *;clear hok;refine aa ?_;refine bX rfl aA rfl (c1) rfl [(19,3)] mm lm ?_;refine aa ?_;refine aL rfl rfl (by intro R hR;refine cI hR ?_;(refine a₄ (a₅ _) ?_;refine⟨_,rfl,?_⟩;refine a₄ ⟨hll,ai (by kernel_rfl) pf⟩ ?_;refine⟨((l.take (k + 1)).map fY).map bk,sv (by rw [hsucc];rfl),k + 1,sv pf,?_⟩);exact hR) rfl ?_;refine aa ?_;exact⟨k + 1,by show k + 1≤l.length;omega,by show l.length - (k + 1) < l.length - k;omega,(by dsimp only;exact(vm [(0,_),(1,_),(2,_)] []))⟩
 ·have hk':k=l.length:=by have:=oF h;omega
  subst hk';rw [a₈];refine aa ?_;refine bX rfl aA rfl (cm) rfl [(8,1)] mm lm ?_;refine aa ?_;refine aL rfl rfl (by intro R hR;refine cI hR ?_;(refine a₄ (a₅ _) ?_;refine⟨_,rfl,?_⟩;refine a₄ ⟨sm,ai (by kernel_rfl) pf⟩ ?_;refine⟨Z.map bk,sv (by rw [← hz];simp;rfl),Z.length,sv pf,?_⟩);exact hR) rfl ?_;refine aa ?_;refine bX rfl aA rfl (src (cr)) rfl [(10,Z.length)] mm lm ?_;refine aa ?_;refine au ?_;rfl
end
section
variable {G:GS}
attribute [local irreducible] ak aB aD aI aN vC aW aw
structure fu where
 code:Nat
 sender:List UInt8
 seq:Nat
 gas:Nat
 prio:Nat
 deriving DecidableEq
def eA (r:fu):MV:= .st [.int .i64 r.code, .str r.sender, .int .u64 r.seq, .int .u64 r.gas, .int .u64 r.prio]
def iS (r:fu):Prop:=r.code≤1000∧r.sender.length≤5000∧bo r.seq∧bo r.gas∧bo r.prio
def Nt (r:fu):List eE:= [⟨1,0,r.code,[]⟩,⟨2,0,r.gas,[]⟩]
def eV (r:fu):List UInt8:=aF (Nt r)
def lE (l:List fu):List UInt8:=ee (l.map eV)
theorem BV {l:List fu} {k:Nat} (hk:k < l.length):bF (l.map eA) l.length (k:Int)=some (eA l[k]):=cO hk (by simp [hk])
theorem BW {r:fu} (h:iS r): ∀f∈Nt r,iz f∧f.bytes.length≤0:=by
 intro f hf;unfold Nt at hf;simp only [b₈,d₂,or_false] at hf;have hc:bo r.code:=by have:=h.1;unfold bo;omega
 rcases hf with rfl | rfl
 ·exact⟨mC om om hc,sm⟩
 ·exact⟨mC om om h.2.2.2.1,sm⟩
theorem nu {r:fu} (h:iS r):(eV r).length≤40:=by
 have h1:=eO 0 _ (BW h);have h2:(Nt r).length=2:=rfl;rw [h2] at h1;unfold eV;omega
theorem nR {l:List fu} {k:Nat} (hk:k < l.length):((l.take (k + 1)).map eV).map bk=((l.take k).map eV).map bk ++ [bk (eV l[k])] :=by
 rw [b₂ hk,b₃,b₃];rfl
theorem HH (l:List fu) (hl:l.length≤50000) (hsm: ∀r∈l,iS r):aE Tryz.prog G 113 [.sl l.length (l.map eA)] (keyM (lE l)):=by
 have cr:=sE (G:=G) _ (l.map eV) (a₅ _) (by simp only [c₂];omega) (by
  intro b hb;obtain⟨a,ha,rfl⟩:=c₃.1 hb;have:=nu (hsm a ha);omega)
 have hzl:(l.map eV).length=l.length:=sm;unfold lE;generalize ee (l.map eV)=root at *;refine bA seat Tryz.func113 27 ?_;refine aa ?_;refine av Nat (fun k=> [(8, .int .i64 k),(7, .int .i64 l.length),(6, .sl l.length (l.map eA)),(3, .ms 1 1 0 k),(2, .ptr 0 32 0 0 [])]) (fun k=> [(0,⟨68,32,false,0,[keyM (b₇ 32 0)]⟩),(1,⟨41,1,true,0,((l.take k).map eV).map bk⟩)]) 2 (fun k=>k≤l.length) (fun k=>l.length - k) 0 (a₃ _) (by rw [b₁];exact(vm [(0,_)] [])) ?_;intro k hk;try dsimp only
 refine aa ?_;refine ad rfl ?_ ?_ <;> intro h
 ·
  have hk':k < l.length:=by have:=ot h;omega
  have hel:=BV hk';have hsa:=hsm _ (a₁ hk');have hsucc:=nR hk';have hll:(((l.take k).map eV).map bk).length=k:=by simp;omega
  generalize l[k] =a at *;have hln:=nu hsa;have hok:=BW hsa;unfold eV Nt at hln hok;have hlf:eV a=aF [⟨1,0,a.code,[]⟩,⟨2,0,a.gas,[]⟩] :=rfl;rw [hlf] at hsucc;obtain⟨code,snd,seq,gas,prio⟩:=a;obtain⟨h1,h2,h3,h4,h5⟩:=hsa;dsimp only at hln hok hsucc h1 h2 h3 h4 h5;replace hel:bF (l.map eA) l.length (k:Int)=some (.st [.int .i64 code, .str snd, .int .u64 seq, .int .u64 gas, .int .u64 prio]):=hel;have hel:=aj.mk hel;have hw:=aU.mk (show IntKind.u64.wrap (code:Int)=(code:Int) from bM _ om om);have c1:=nq (G:=G) [⟨1,0,code,[]⟩,⟨2,0,gas,[]⟩] [.st [.int .i64 1, .int .i64 0, .int .u64 code, .nils], .st [.int .i64 2, .int .i64 0, .int .u64 gas, .nils]] (.cons (.inr ⟨rfl,rfl⟩) (.cons (.inr ⟨rfl,rfl⟩) .nil)) (fun f hf=>(hok f hf).1) om sm;generalize aF [⟨1,0,code,[]⟩,⟨2,0,gas,[]⟩] =mk at *;clear hok;refine aa ?_;refine bX rfl aA rfl (c1) rfl [(15,2)] mm lm ?_;refine aa ?_;refine aL rfl rfl (by intro R hR;refine cI hR ?_;(refine a₄ (a₅ _) ?_;refine⟨_,rfl,?_⟩;refine a₄ ⟨hll,ai (by kernel_rfl) pf⟩ ?_;refine⟨((l.take (k + 1)).map eV).map bk,sv (by rw [hsucc];rfl),k + 1,sv pf,?_⟩);exact hR) rfl ?_;refine aa ?_;exact⟨k + 1,by show k + 1≤l.length;omega,by show l.length - (k + 1) < l.length - k;omega,(by dsimp only;exact(vm [(0,_),(1,_)] []))⟩
 ·have hk':k=l.length:=by have:=oF h;omega
  subst hk';rw [a₈];generalize l.map eV=Z at *;rw [← hzl];refine aa ?_;refine bX rfl aA rfl (src (cr)) rfl [(1,Z.length)] mm lm ?_;refine aa ?_;refine au ?_;rfl
theorem Da (l:List fu) (hl:l.length≤50000) (hsm: ∀r∈l,iS r):aE Tryz.prog G 98 [.sl l.length (l.map eA)] (keyM (lE l)):=by
 have cr:=xJ (G:=G) _ (l.map eV) (a₅ _) (by simp only [c₂];omega) (by
  intro b hb;obtain⟨a,ha,rfl⟩:=c₃.1 hb;have:=nu (hsm a ha);omega)
 have hzl:(l.map eV).length=l.length:=sm;unfold lE;generalize ee (l.map eV)=root at *;refine bA seat Tryz.func98 37 ?_;refine aa ?_;refine av Nat (fun k=> [(10, .int .i64 k),(9, .int .i64 l.length),(8, .sl l.length (l.map eA)),(3, .ms 1 1 0 k),(2, .ptr 0 32 0 0 [])]) (fun k=> [(0,⟨68,32,false,0,[keyM (b₇ 32 0)]⟩),(1,⟨41,1,true,0,((l.take k).map eV).map bk⟩)]) 2 (fun k=>k≤l.length) (fun k=>l.length - k) 0 (a₃ _) (by rw [b₁];exact(vm [(0,_)] [])) ?_;intro k hk;try dsimp only
 refine aa ?_;refine ad rfl ?_ ?_ <;> intro h
 ·
  have hk':k < l.length:=by have:=ot h;omega
  have hel:=BV hk';have hsa:=hsm _ (a₁ hk');have hsucc:=nR hk';have hll:(((l.take k).map eV).map bk).length=k:=by simp;omega
  generalize l[k] =a at *;have hln:=nu hsa;have hok:=BW hsa;unfold eV Nt at hln hok;have hlf:eV a=aF [⟨1,0,a.code,[]⟩,⟨2,0,a.gas,[]⟩] :=rfl;rw [hlf] at hsucc;obtain⟨code,snd,seq,gas,prio⟩:=a;obtain⟨h1,h2,h3,h4,h5⟩:=hsa;dsimp only at hln hok hsucc h1 h2 h3 h4 h5;replace hel:bF (l.map eA) l.length (k:Int)=some (.st [.int .i64 code, .str snd, .int .u64 seq, .int .u64 gas, .int .u64 prio]):=hel;have hel:=aj.mk hel;have hw:=aU.mk (show IntKind.u64.wrap (code:Int)=(code:Int) from bM _ om om);have c1:=mh (G:=G) [] ⟨1,0,code,[]⟩ (hok _ sm).1 sm;have c2:=mh (G:=G) ([] ++ aV ⟨1,0,code,[]⟩) ⟨2,0,gas,[]⟩ (hok _ sm).1 (by have:=gW (hok ⟨1,0,code,[]⟩ sm).1;simp at this ⊢;omega);have he:aF [⟨1,0,code,[]⟩,⟨2,0,gas,[]⟩] = [] ++ aV ⟨1,0,code,[]⟩ ++ aV ⟨2,0,gas,[]⟩:=by simp [aF]
  rw [he] at hsucc hln;unfold jn at c1 c2;generalize [] ++ aV ⟨1,0,code,[]⟩ ++ aV ⟨2,0,gas,[]⟩=mk at *;generalize [] ++ aV ⟨1,0,code,[]⟩=m1 at *;clear hok he hlf;refine aa ?_;refine bC rfl aA rfl c1 [] [] ⟨rfl,trivial,rfl,⟨.inr ⟨rfl,rfl⟩,oq rfl,trivial⟩,trivial⟩ rfl rfl ?_;refine aa ?_;refine bC rfl aA rfl c2 [] [(11,m1.length)] ⟨rfl,mm,rfl,⟨rv,oq rfl,trivial⟩,trivial⟩ rfl rfl ?_;iterate 3 (refine Lt ?_)
  refine od ([(28, .sl mk.length (u8s mk)),(10, .int .i64 k),(9, .int .i64 l.length),(8, .sl l.length (l.map eA)),(3, .ms 1 1 0 k),(2, .ptr 0 32 0 0 [])]) ([(0,⟨68,32,false,0,[keyM (b₇ 32 0)]⟩),(1,⟨41,1,true,0,((l.take k).map eV).map bk⟩)]) [(21,mk.length)] mm rfl mm mm ?_;refine aa ?_;refine aL rfl rfl (by intro R hR;refine cI hR ?_;(refine a₄ (a₅ _) ?_;refine⟨_,rfl,?_⟩;refine a₄ ⟨hll,ai (by kernel_rfl) pf⟩ ?_;refine⟨((l.take (k + 1)).map eV).map bk,sv (by rw [hsucc];rfl),k + 1,sv pf,?_⟩);exact hR) rfl ?_;refine aa ?_;exact⟨k + 1,by show k + 1≤l.length;omega,by show l.length - (k + 1) < l.length - k;omega,(by dsimp only;exact(vm [(0,_),(1,_)] []))⟩
 ·have hk':k=l.length:=by have:=oF h;omega
  subst hk';rw [a₈];generalize l.map eV=Z at *;rw [← hzl];refine aa ?_;refine bX rfl aA rfl (src (cr)) rfl [(1,Z.length)] mm lm ?_;refine aa ?_;refine au ?_;rfl
end
section
variable {G:GS}
attribute [local irreducible] ak aB aD aI aN vC aW aw
def eW (t:je):Nat×Bool:=sumG (t.fee :: t.trs.map (·.amt)) 0
theorem z6: ∀(l:List Nat) (s:Nat),bo s→bo (sumG l s).1
 | [],_,h=>h
 | x :: r,s,_=>by
  rw [sumG]
  split
  ·exact z6 r _ uy
  ·show(0:Nat) < _;omega
theorem qT (t:je):bo (eW t).1:=z6 _ _ (by unfold bo;omega)
theorem wq (f:Nat) (l:List lh) {k:Nat} (hk:k < l.length):fq (f :: (l.take (k + 1)).map (·.amt))=fq (f :: (l.take k).map (·.amt)) ++ [.int .u64 (l[k].amt:Int)] :=by
 rw [b₂ hk,b₃,← List.cons_append];unfold fq;rw [b₃];rfl
theorem HI (t:je) (ht:iL t):aE Tryz.prog G 94 [nP t] (.tup [.int .u64 (eW t).1, .bool (eW t).2]):=by
 obtain⟨snd,seq,gas,fee,memo,trs⟩:=t;obtain⟨h1,h2,h3,h4,h5,h6,h7⟩:=ht;dsimp only at h1 h2 h3 h4 h5 h6 h7;have cs:=N5 (G:=G) (fee :: trs.map (·.amt)) (by simp;omega) (by
  intro a ha;rcases b₈.1 ha with rfl | ha
  ·exact h4
  ·obtain⟨x,hx,rfl⟩:=c₃.1 ha;exact(h7 x hx).2)
 unfold eW;dsimp only;generalize sumG (fee :: trs.map (·.amt)) 0=p at *;obtain⟨v,b⟩:=p;dsimp only at cs ⊢;unfold nP;dsimp only;have hzl:(fee :: trs.map (·.amt)).length=trs.length + 1:=sm;refine bA seat Tryz.func94 27 ?_;refine aa ?_;refine av Nat (fun k=> [(13, .int .i64 k),(12, .int .i64 trs.length),(11, .sl trs.length (trs.map lC)),(4, .ms 0 1 0 (k + 1))]) (fun k=> [(0,⟨23,1,true,0,fq (fee :: (trs.take k).map (·.amt))⟩)]) 1 (fun k=>k≤trs.length) (fun k=>trs.length - k) 0 (a₃ _) (by rw [b₁];exact(vm [(0,_)] [])) ?_;intro k hk;try dsimp only
 refine aa ?_;refine ad rfl ?_ ?_ <;> intro h
 ·have hk':k < trs.length:=by have:=ot h;omega
  have hel:=ll hk';have hsucc:=wq fee trs hk';have hll:(fq (fee :: (trs.take k).map (·.amt))).length=k + 1:=by simp [fq];omega
  generalize trs[k] =x at *;obtain⟨to_,amt⟩:=x;dsimp only at hsucc;replace hel:bF (trs.map lC) trs.length (k:Int)=some (.st [.str to_, .int .u64 amt]):=hel;have hel:=aj.mk hel;refine aa ?_;refine aL rfl rfl (by intro R hR;refine cI hR ?_;(refine a₄ (a₅ _) ?_;refine⟨_,rfl,?_⟩;refine a₄ ⟨hll,ai (by kernel_rfl) pf⟩ ?_;refine⟨fq (fee :: (trs.take (k + 1)).map (·.amt)),sv (by rw [hsucc];rfl),k + 1 + 1,sv pf,?_⟩);exact hR) rfl ?_;refine aa ?_;exact⟨k + 1,by show k + 1≤trs.length;omega,by show trs.length - (k + 1) < trs.length - k;omega,(by dsimp only;exact(vm [(0,_)] []))⟩
 ·have hk':k=trs.length:=by have:=oF h;omega
  subst hk';rw [a₈];generalize fee :: trs.map (·.amt)=Z at *;rw [← hzl];refine aa ?_;refine bX rfl aA rfl (du cs) rfl [(0,Z.length)] ⟨(by show Z.length≤(fq Z).length;simp [fq]),trivial⟩ lm ?_;refine aa ?_;refine au ?_;rfl
def lq (x:lh) (acs:List bf):bf:=if (bz acs x.to_).2 then(bz acs x.to_).1 else⟨x.to_,0,0⟩
def gC (acs:List bf) (x:lh):List bf:=fH ⟨(lq x acs).name,((lq x acs).bal + x.amt) % 18446744073709551616,(lq x acs).seq⟩ acs
def jv (l:dK) (t:je) (sum:Nat):bf:=⟨(bz l.acs t.sender).1.name,((bz l.acs t.sender).1.bal + (18446744073709551616 - sum)) % 18446744073709551616,((bz l.acs t.sender).1.seq + 1) % 18446744073709551616⟩
def iC (l:dK) (t:je) (sum:Nat):dK:=⟨t.trs.foldl gC (fH (jv l t sum) l.acs),(l.col + t.fee) % 18446744073709551616⟩
theorem mod_u64 {n:Nat}:bo (n % 18446744073709551616):=Nat.mod_lt _ om
theorem nv {acs:List bf} {name:List UInt8} (h: ∀a∈acs,SmAc a):SmAc (bz acs name).1:=by
 unfold bz;split
 ·rename_i a ha;exact h a (List.mem_of_find?_eq_some ha)
 ·exact⟨by simp [ac0],by simp [ac0,bo],by simp [ac0,bo]⟩
theorem Db {x:lh} {acs:List bf} (hx:mo x) (h: ∀a∈acs,SmAc a):SmAc (lq x acs):=by
 unfold lq;split
 ·exact nv h
 ·exact⟨hx.1,by simp [bo],by simp [bo]⟩
theorem xS {x:lh} {acs:List bf} (hx:mo x) (h: ∀a∈acs,SmAc a):(∀a∈gC acs x,SmAc a)∧(gC acs x).length≤acs.length + 1:=by
 have hb:=Db hx h;exact⟨fun a ha=>(ky ha).elim (fun e=>e▸⟨hb.1,mod_u64,hb.2.2⟩) (h a),mA _ _⟩
theorem Dc: ∀(l:List lh) (acs:List bf),(∀x∈l,mo x)→(∀a∈acs,SmAc a)→(∀a∈l.foldl gC acs,SmAc a)∧(l.foldl gC acs).length≤acs.length + l.length
 | [],acs,_,h=>⟨h,sm⟩
 | x :: r,acs,hl,h=>by
  have h1:=xS (hl x sm) h
  have h2:=Dc r (gC acs x) (fun y hy=>hl y (by simp [hy])) h1.1
  exact⟨h2.1,by have:=h2.2;simp only [d₅,c₇];omega⟩
theorem z7 {l:dK} {t:je} {sum:Nat} (hl:eN l) (ht:iL t):(∀a∈(iC l t sum).acs,SmAc a)∧(iC l t sum).acs.length≤l.acs.length + 1 + t.trs.length∧bo (iC l t sum).col:=by
 have ha:SmAc (jv l t sum):=⟨(nv hl.2.2).1,mod_u64,mod_u64⟩;have h1:=Dc t.trs (fH (jv l t sum) l.acs) ht.2.2.2.2.2.2 fun a h=>(ky h).elim (fun e=>e▸ha) (hl.2.2 a)
 have h2:=mA (jv l t sum) l.acs;exact⟨h1.1,by have:=h1.2;unfold iC;dsimp only;omega,mod_u64⟩
theorem HJ (l:dK) (t:je) (sum:Nat) (hl:eN l) (ht:iL t) (hs:bo sum):aQ Tryz.prog G 95 [eh l,nP t, .int .u64 sum] [] 0 (eh (iC l t sum)) [] 0:=by
 have hda:SmAc (jv l t sum):=⟨(nv hl.2.2).1,mod_u64,mod_u64⟩;have hgs:SmAc (bz l.acs t.sender).1:=nv hl.2.2;obtain⟨acs,col⟩:=l;obtain⟨snd,seq,gas,fee,memo,trs⟩:=t;obtain⟨h1,h2,h3,h4,h5,h6,h7⟩:=ht;obtain⟨hl1,hl2,hl3⟩:=hl;dsimp only at h1 h2 h3 h4 h5 h6 h7 hl1 hl2 hl3 hgs;have c1:=LA (G:=G) acs col snd om;have c2:=HB (G:=G) (jv ⟨acs,col⟩ ⟨snd,seq,gas,fee,memo,trs⟩ sum) acs om;have hp1:=mA (jv ⟨acs,col⟩ ⟨snd,seq,gas,fee,memo,trs⟩ sum) acs;have hp2: ∀a∈fH (jv ⟨acs,col⟩ ⟨snd,seq,gas,fee,memo,trs⟩ sum) acs,SmAc a:=fun a h=>(ky h).elim (fun e=>e▸hda) (hl3 a)
 unfold iC;dsimp only;generalize fH (jv ⟨acs,col⟩ ⟨snd,seq,gas,fee,memo,trs⟩ sum) acs=z0 at *;unfold jv at c2;dsimp only at c2;generalize bz acs snd=g at *;obtain⟨⟨gn,gb,gs⟩,gok⟩:=g;obtain⟨hg1,hg2,hg3⟩:=hgs;unfold bo at hg2 hg3 hl2 h4 hs;dsimp only at c1 c2 hg1 hg2 hg3;unfold aT at c1 c2;dsimp only at c1 c2;have e1:=aU.mk (show IntKind.u64.wrap ((gb:Int) - (sum:Int))=(((gb + (18446744073709551616 - sum)) % 18446744073709551616:Nat):Int) by rw [wu64];omega);have e2:=aU.mk (show IntKind.u64.wrap ((gs:Int) + 1)=(((gs + 1) % 18446744073709551616:Nat):Int) by rw [wu64];omega);have e3:=aU.mk (show IntKind.u64.wrap ((col:Int) + (fee:Int))=(((col + fee) % 18446744073709551616:Nat):Int) by rw [wu64];omega);generalize (gb + (18446744073709551616 - sum)) % 18446744073709551616=nb at *;generalize (gs + 1) % 18446744073709551616=ns at *;generalize (col + fee) % 18446744073709551616=nc at *;unfold eh nP;dsimp only;generalize hR:trs.foldl gC z0=R;refine dw seat Tryz.func95 71 ?_;refine aa ?_;(iterate 6 ((all_goals(refine aa ?_));(all_goals(first | (refine ah rfl aA rfl (src (c1)) rfl rfl ?_) | (refine ah rfl aA rfl (c2) rfl rfl ?_) | ((first | refine ag rfl rfl ?_ rfl ?_ | refine ad rfl ?_ ?_);all_goals(intro h;(try simp only [pl] at h);(try (exfalso;omega)))) | skip))));refine av (Nat×List bf) (fun x=> [(37, .int .i64 x.1),(36, .int .i64 trs.length),(35, .sl trs.length (trs.map lC)),(9, .sl x.2.length (x.2.map aT)),(6, .ptr 2 2 0 0 []),(4, .ptr 1 6 0 0 []),(3, .ptr 0 2 0 0 [])]) (fun x=> [(0,⟨33,2,false,0,[.st [.sl acs.length (acs.map aT), .int .u64 col]]⟩),(1,⟨98,6,false,0,[.st [.str snd, .int .u64 seq, .int .u64 gas, .int .u64 fee, .str memo, .sl trs.length (trs.map lC)]]⟩),(2,⟨33,2,false,0,[.st [.nils, .int .u64 0]]⟩)]) 3 (fun x=>x.1≤trs.length∧x.2.length≤acs.length + 1 + x.1∧(∀a∈x.2,SmAc a)∧(trs.drop x.1).foldl gC x.2=R) (fun x=>trs.length - x.1) (0,z0) ⟨a₃ _,dm,hp2,by dsimp only;rw [b₀];exact hR⟩ (by dsimp only;exact(vm [(0,_),(1,_),(2,_)] [])) ?_;clear hR hp1 hp2 c1 c2;rintro⟨k,z⟩ ⟨hk,hz,hzs,hRk⟩;try dsimp only
 dsimp only at hk hz hzs hRk;refine aa ?_;refine ad rfl ?_ ?_ <;> intro h
 ·have hk':k < trs.length:=by have:=ot h;omega
  have hel:=ll hk';have hx:=h7 _ (a₁ hk');have hps:=xS hx hzs;rw [a₂ hk',d₅] at hRk;have c3:=xO (G:=G) z trs[k].to_ om;have c4:=HB (G:=G) ⟨(lq trs[k] z).name,((lq trs[k] z).bal + trs[k].amt) % 18446744073709551616,(lq trs[k] z).seq⟩ z om;have hpb:=Db hx hzs;have hsp:=ln trs[k].to_ z 0;unfold gC at hps hRk;have hpay:lq trs[k] z=if (bz z trs[k].to_).2 then(bz z trs[k].to_).1 else⟨trs[k].to_,0,0⟩:=rfl
  generalize fH ⟨(lq trs[k] z).name,((lq trs[k] z).bal + trs[k].amt) % 18446744073709551616,(lq trs[k] z).seq⟩ z=z2 at *;generalize lq trs[k] z=pb at *;generalize trs[k] =x at *;obtain⟨to_,amt⟩:=x;obtain⟨pn,pbal,pseq⟩:=pb;obtain⟨hx1,hx2⟩:=hx;obtain⟨hpb1,hpb2,hpb3⟩:=hpb;unfold bo at hx2 hpb2;dsimp only at c3 c4 hsp hpay hx1 hx2 hpb2;unfold aT at c4;dsimp only at c4;replace hel:bF (trs.map lC) trs.length (k:Int)=some (.st [.str to_, .int .u64 amt]):=hel;have hel:=aj.mk hel;have e4:=aU.mk (show IntKind.u64.wrap ((pbal:Int) + (amt:Int))=(((pbal + amt) % 18446744073709551616:Nat):Int) by rw [wu64];omega);generalize hnb:(pbal + amt) % 18446744073709551616=nb2 at *;rcases hsp with ⟨f1,f2⟩ | ⟨j,a,f1,f2,f3⟩
  ·rw [f1] at c3;have hg:bz z to_=(ac0,false):=by unfold bz;rw [f2]
   rw [hg,if_neg sm] at hpay;simp only [bf.mk.injEq] at hpay;obtain⟨rfl,rfl,rfl⟩:=hpay;have e5:=aU.mk (show IntKind.u64.wrap ((0:Int) + (amt:Int))=(nb2:Int) by rw [wu64];omega);refine aa ?_;(iterate 8 ((all_goals(refine aa ?_));(all_goals(first | (refine ah rfl aA rfl (src (c3)) rfl rfl ?_) | (refine ah rfl aA rfl (c4) rfl rfl ?_) | ((first | refine ag rfl rfl ?_ rfl ?_ | refine ad rfl ?_ ?_);all_goals(intro h;(try simp only [pl] at h);(try (exfalso;omega)))) | skip))));exact⟨(k + 1,z2),⟨dm,dm,hps.1,hRk⟩,dm,(by dsimp only;exact(vm [(0,_),(1,_),(2,_)] []))⟩
  ·rw [f1,c₆] at c3;have hg:bz z to_=(a,true):=by unfold bz;rw [f3]
   rw [hg,if_pos rfl] at hpay;dsimp only at hpay;obtain⟨hj,ha⟩:=List.getElem?_eq_some_iff.1 f2;have hel2:=eZ hj;rw [ha,← hpay] at hel2;replace hel2:bF (z.map aT) z.length (j:Int)=some (.st [.str pn, .int .u64 pbal, .int .u64 pseq]):=hel2;have hel2:=aj.mk hel2;clear f1 f2 f3 ha hpay;refine aa ?_;(iterate 8 ((all_goals(refine aa ?_));(all_goals(first | (refine ah rfl aA rfl (src (c3)) rfl rfl ?_) | (refine ah rfl aA rfl (c4) rfl rfl ?_) | ((first | refine ag rfl rfl ?_ rfl ?_ | refine ad rfl ?_ ?_);all_goals(intro h;(try simp only [pl] at h);(try (exfalso;omega)))) | skip))));exact⟨(k + 1,z2),⟨dm,dm,hps.1,hRk⟩,dm,(by dsimp only;exact(vm [(0,_),(1,_),(2,_)] []))⟩
 ·have hk':k=trs.length:=by have:=oF h;omega
  subst hk';rw [a₇] at hRk;have hRk:z=R:=hRk;subst hRk;refine aa ?_;refine au ?_;refine⟨[_],[],[],rfl,rfl,trivial,rfl,⟨?_,trivial⟩,?_⟩
  ·exact .inl ⟨rfl,rfl⟩
  ·exact mm
end
section
variable {G:GS}
attribute [local irreducible] ak aB aD aI aN vC aW aw
def ga (l:dK) (price:Nat) (t:je) (size:Nat):Nat:=
 if (bz l.acs t.sender).2=false then 13 else if (bz l.acs t.sender).1.seq≠t.seq then 14 else if t.seq=18446744073709551615 then 6 else if t.gas < mz size t.trs.length then 15 else
 if (kx t.gas price).2=false then 6 else if t.fee < (kx t.gas price).1 then 16 else if (eW t).2=false then 6 else if (bz l.acs t.sender).1.bal < (eW t).1 then 17 else
 if 256 < (iC l t (eW t).1).acs.length then 3 else 0
theorem Kr (l:dK) (price:Nat) (t:je) (size:Nat) (hl:eN l) (ht:iL t) (hp:bo price) (hz:size≤1000000000):aE Tryz.prog G 92 [eh l, .int .u64 price,nP t, .int .i64 size] (.int .i64 (ga l price t size)):=by
 have cd:=HJ (G:=G) l t (eW t).1 hl ht (qT t);have cc:=HI (G:=G) t ht;have hds:=z7 (sum:=(eW t).1) hl ht;generalize hr:ga l price t size=R;unfold ga at hr;generalize iC l t (eW t).1=D at *;generalize eW t=cst at *;obtain⟨cv,cb⟩:=cst;obtain⟨acs,col⟩:=l;obtain⟨snd,seq,gas,fee,memo,trs⟩:=t;obtain⟨h1,h2,h3,h4,h5,h6,h7⟩:=ht;obtain⟨hl1,hl2,hl3⟩:=hl;obtain⟨dacs,dcol⟩:=D;dsimp only at h1 h2 h3 h4 h5 h6 h7 hl1 hl2 hl3 hds hr cd cc;have c1:=LA (G:=G) acs col snd om;have cu:=Mf (G:=G) (size:Int) (trs.length:Int) om om;have cn:=Mk (G:=G) gas price h3 hp;have hul:mz (size:Int) (trs.length:Int) < 18446744073709551616:=by unfold mz limS;omega
 generalize mz (size:Int) (trs.length:Int)=us at *;generalize kx gas price=mu at *;obtain⟨mv,mb⟩:=mu;generalize bz acs snd=g at *;obtain⟨⟨gn,gb,gs⟩,gok⟩:=g;dsimp only at c1 cn hr hds;unfold aT at c1;unfold nP eh at *;dsimp only at *;cases gok with
 | false=>
  rw [if_pos rfl] at hr;refine bA seat Tryz.func92 79 ?_;refine aa ?_;refine dL (c1) ?_;refine au ?_;refine congrArg (MV.int .i64) ?_;(repeat' split at hr) <;> omega
 | true=>
  rw [if_neg sm] at hr;refine bA seat Tryz.func92 79 ?_;refine aa ?_;refine dL (c1) ?_;refine ad rfl ?_ ?_ <;> intro h
  ·have k0: ¬ (gs:Int)=(seq:Int):=by simpa using h
   have k1:gs≠seq:=om;refine aa ?_;refine au ?_;refine congrArg (MV.int .i64) ?_;(repeat' split at hr) <;> omega
  have k0:(gs:Int)=(seq:Int):=by simpa using h
  have k1:gs=seq:=om;refine aa ?_;refine ad rfl ?_ ?_ <;> intro h
  ·have k2:(seq:Int)=18446744073709551615:=by simpa using h
   refine aa ?_;refine au ?_;refine congrArg (MV.int .i64) ?_;(repeat' split at hr) <;> omega
  have k2: ¬ (seq:Int)=18446744073709551615:=by simpa using h
  refine aa ?_;refine al [ae 0,ae 1,ae 2,ae 3,ae 4,ae 5,dj 6,ae 7,ae 8] ?_;refine aa ?_;refine cW (cu) ?_;refine ad rfl ?_ ?_ <;> intro h
  ·have k3:=ot h;refine aa ?_;refine au ?_;refine congrArg (MV.int .i64) ?_;(repeat' split at hr) <;> omega
  have k3:=oF h;refine aa ?_;refine dL (cn) ?_;refine dL (cc) ?_;cases mb with
  | false=>
   rw [if_neg om,if_neg om,if_neg om,if_pos rfl] at hr;refine aa ?_;refine au ?_;refine congrArg (MV.int .i64) ?_;(repeat' split at hr) <;> omega
  | true=>
   rw [if_neg om,if_neg om,if_neg om,if_neg sm] at hr;refine aa ?_;refine ad rfl ?_ ?_ <;> intro h
   ·have k4:=ot h;rw [if_pos om] at hr;refine aa ?_;refine au ?_;refine congrArg (MV.int .i64) ?_;(repeat' split at hr) <;> omega
   have k4:=oF h;rw [if_neg om] at hr;cases cb with
   | false=>
    rw [if_pos rfl] at hr;refine aa ?_;refine au ?_;refine congrArg (MV.int .i64) ?_;(repeat' split at hr) <;> omega
   | true=>
    rw [if_neg sm] at hr;refine aa ?_;refine ad rfl ?_ ?_ <;> intro h
    ·have k5:=ot h;refine aa ?_;refine au ?_;refine congrArg (MV.int .i64) ?_;(repeat' split at hr) <;> omega
    have k5:=oF h;refine aa ?_;refine jW (cd) ?_;refine ad rfl ?_ ?_ <;> intro h
    ·have k6:=ot h;refine aa ?_;refine au ?_;refine congrArg (MV.int .i64) ?_;(repeat' split at hr) <;> omega
    have k6:=oF h;refine aa ?_;refine au ?_;refine congrArg (MV.int .i64) ?_;(repeat' split at hr) <;> omega
def oD (l:dK) (price:Nat) (raw:List UInt8):dK×fu:=
 if fR l≠0 then(l,⟨1,[],0,0,0⟩) else if (aS raw).2≠0 then(l,⟨(aS raw).2,[],0,0,0⟩) else
 let t:=(aS raw).1
 let e:=ga l price t raw.length
 (if e≠0 then l else iC l t (eW t).1,⟨e,t.sender,t.seq,t.gas,pO t.fee t.gas⟩)
theorem i7 {raw:List UInt8}:iL (aS raw).1:=by
 unfold aS;split
 ·exact uw
 ·rename_i h;split
  ·exact uw
  ·split
   ·exact uw
   ·exact Lx om
theorem Dd {raw:List UInt8} (h:(aS raw).2=0):raw.length≤4096:=by
 unfold aS at h;split at h
 ·exact absurd h (by decide)
 ·omega
theorem E3 (l:dK) (price:Nat) (raw:List UInt8) (hl:eN l) (hp:bo price) (hraw:raw.length≤140737488355328):aQ Tryz.prog G 52 [eh l, .int .u64 price, .sl raw.length (u8s raw)] [] 0 (.tup [eh (oD l price raw).1,eA (oD l price raw).2]) [] 0:=by
 have cv:=HE (G:=G) l hl;have cd:=ux (G:=G) raw hraw;have hsm:=i7 (raw:=raw);have cc:=HI (G:=G) _ hsm;have cf:=fun he:(aS raw).2=0=>Kr (G:=G) l price _ raw.length hl hsm hp (by have:=Dd he;omega)
 have cp:=Mj (G:=G) (aS raw).1.fee (aS raw).1.gas hsm.2.2.2.1 hsm.2.2.1;have cdn:=HJ (G:=G) l _ (eW (aS raw).1).1 hl hsm (qT _);generalize hr:oD l price raw=R;obtain⟨⟨Racs,Rcol⟩,⟨Rcode,Rsnd,Rseq,Rgas,Rprio⟩⟩:=R;unfold oD at hr;generalize aS raw=d at *;obtain⟨t,e⟩:=d;dsimp only at *;generalize fR l=vl at *;generalize eW t=cst at *;obtain⟨cstv,cstb⟩:=cst;dsimp only at *;generalize iC l t cstv=D at *;generalize ga l price t raw.length=fe at *;obtain⟨snd,seq,gas,fee,memo,trs⟩:=t;dsimp only at *;generalize pO fee gas=pr at *;obtain⟨acs,col⟩:=l;obtain⟨dacs,dcol⟩:=D;obtain⟨h1,h2,h3,h4,h5,h6,h7⟩:=hsm;obtain⟨hl1,hl2,hl3⟩:=hl;dsimp only at h1 h2 h3 h4 h5 h6 h7 hl1 hl2 hl3;unfold eh nP at *;unfold eA;dsimp only at *;by_cases hv:vl=0
 ·subst hv;rw [if_neg sm] at hr;by_cases he:e=0
  ·subst he;replace cf:=cf rfl;rw [if_neg sm] at hr;have hr2:=hr;simp only [a₀,fu.mk.injEq] at hr2;obtain⟨hD,rfl,rfl,rfl,rfl,rfl⟩:=hr2;clear hr;refine dw seat Tryz.func52 61 ?_;refine aa ?_;refine dL (cv) ?_;refine jW (cd) ?_;refine al [ae 0,ae 1,ae 2,ae 3,ae 4,dj 5,ae 6,ae 7,ae 8,ae 9,ae 10,ae 11,ae 12,ae 13,ae 14,ae 15,dj 16,ae 17,ae 18,ae 19] ?_;refine aa ?_;refine cW (cf) ?_;refine cW (cp) ?_;refine ad rfl ?_ ?_ <;> intro h
   ·have hfe:fe≠0:=fun e=>by subst e;simp at h
    rw [if_pos hfe] at hD;simp only [dK.mk.injEq] at hD;obtain⟨rfl,rfl⟩:=hD;refine aa ?_;refine al [ae 0,ae 1,ae 2,ae 3] ?_;refine aa ?_;refine au ?_;exact en [_,_]
   ·have hfe:fe=0:=by
     have: ¬ (fe:Int)≠0:=by simpa using h
     omega
    subst hfe;rw [if_neg sm] at hD;simp only [dK.mk.injEq] at hD;obtain⟨rfl,rfl⟩:=hD;refine aa ?_;refine dL (cc) ?_;refine al [ae 0,ae 1,ae 2,dj 3,ae 4,ae 5,ae 6] ?_;refine aa ?_;refine pF (cdn) ?_;refine au ?_;exact en [_,_]
  ·rw [if_pos he] at hr;simp only [a₀,dK.mk.injEq,fu.mk.injEq] at hr;obtain⟨⟨rfl,rfl⟩,rfl,rfl,rfl,rfl,rfl⟩:=hr;refine dw seat Tryz.func52 61 ?_;refine aa ?_;refine dL (cv) ?_;refine jW (cd) ?_;refine ad rfl ?_ ?_ <;> intro h
   ·refine aa ?_;refine au ?_;exact en [_,_]
   ·exfalso;have: ¬ (e:Int)≠0:=by simpa using h
    omega
 ·rw [if_pos hv] at hr;simp only [a₀,dK.mk.injEq,fu.mk.injEq] at hr;obtain⟨⟨rfl,rfl⟩,rfl,rfl,rfl,rfl,rfl⟩:=hr;refine dw seat Tryz.func52 61 ?_;refine aa ?_;refine dL (cv) ?_;refine ad rfl ?_ ?_ <;> intro h
  ·refine aa ?_;refine au ?_;exact en [_,_]
  ·exfalso;have: ¬ (vl:Int)≠0:=by simpa using h
   omega
end
section
variable {G:GS}
attribute [local irreducible] ak aB aD aI aN vC aW aw
theorem De: ∀l:List lh,uq l≤100
 | [] =>by simp [uq]
 | x :: r=>by
  have:=De r
  unfold uq
  split
  ·omega
  ·split <;> omega
theorem z8 (t:je):dG t≤100:=by
 have:=De t.trs;unfold dG;(repeat' split) <;> omega
theorem xU (raw:List UInt8):(aS raw).2≤100:=by
 unfold aS;split
 ·simp
 ·split
  ·simp
  ·split
   ·exact z8 _
   ·simp
theorem E4 (l:dK) (p:Nat) (t:je) (n:Nat):ga l p t n≤100:=by
 unfold ga;(repeat' split) <;> omega
theorem HK {l:dK} {p:Nat} {t:je} {n:Nat} (h:ga l p t n=0):(iC l t (eW t).1).acs.length≤256:=by
 unfold ga at h;(repeat' split at h) <;> omega
theorem E5 {f g:Nat} (hf:bo f):bo (pO f g):=by
 unfold pO eS bo at *;split
 ·omega
 ·rename_i hg;by_cases hc:g=0∨g≤f * 1000 / 18446744073709551616
  ·simp [hc]
  ·simp only [hc,if_false,if_true]
   show f * 1000 / g < _
   rw [b₄ om];have:f * 1000 < g * 18446744073709551616:=(b₄ om).1 om;omega
theorem jQ {l:dK} {p:Nat} {raw:List UInt8} (hl:eN l):eN (oD l p raw).1∧iS (oD l p raw).2:=by
 have hd:=i7 (raw:=raw);have h1:=xU raw;have h2:=E4 l p (aS raw).1 raw.length;have hz: ∀c,c≤100→iS ⟨c,[],0,0,0⟩:=fun c hc=>⟨dm,sm,by simp [bo],by simp [bo],by simp [bo]⟩
 unfold oD;split
 ·exact⟨hl,hz 1 om⟩
 ·split
  ·exact⟨hl,hz _ h1⟩
  ·refine⟨?_,dm,hd.1,hd.2.1,hd.2.2.1,E5 hd.2.2.2.1⟩;dsimp only;split
   ·exact hl
   ·rename_i h3;have h4:=HK (Decidable.not_not.1 h3);have h5:=z7 (sum:=(eW (aS raw).1).1) hl hd;exact⟨om,h5.2.2,h5.1⟩
def iD (p:Nat):List (List UInt8)→dK→List fu→dK×List fu
 | [],l,out=>(l,out)
 | raw :: r,l,out=>iD p r (oD l p raw).1 (out ++ [(oD l p raw).2])
theorem Df (p:Nat): ∀(r:List (List UInt8)) (l:dK) (out:List fu),eN l→(∀x∈out,iS x)→eN (iD p r l out).1∧(∀x∈(iD p r l out).2,iS x)∧(iD p r l out).2.length=out.length + r.length
 | [],l,out,h1,h2=>⟨h1,h2,rfl⟩
 | raw :: r,l,out,h1,h2=>by
  have h3:=jQ (p:=p) (raw:=raw) h1
  have:=Df p r (oD l p raw).1 (out ++ [(oD l p raw).2]) h3.1 (ez h2 fun x hx=>by rw [b₆.1 hx];exact h3.2)
  refine⟨this.1,this.2.1,?_⟩
  have h4:=this.2.2
  rw [iD,h4,a₆,a₉,c₇]
  omega
theorem N6 (l:dK) (p:Nat) (raws:List (List UInt8)) (hl:eN l) (hp:bo p) (hn:raws.length≤1000000) (hb: ∀b∈raws,b.length≤140737488355328):aQ Tryz.prog G 55 [eh l, .int .u64 p,dH raws] [] 0 (.tup [eh (iD p raws l []).1, .sl (iD p raws l []).2.length ((iD p raws l []).2.map eA)]) [] 0:=by
 generalize hr:iD p raws l [] =R;obtain⟨⟨Racs,Rcol⟩,Rout⟩:=R;obtain⟨acs0,col0⟩:=l;unfold dH eh;dsimp only;refine dw seat Tryz.func55 34 ?_;refine aa ?_;refine av (Nat×dK×List fu) (fun x=> [(15, .int .i64 x.1),(14, .int .i64 raws.length),(13, .sl raws.length (raws.map bk)),(8, .ms 2 5 0 x.2.2.length),(6, .ptr 1 2 0 0 []),(3, .ptr 0 2 0 0 []),(1, .int .u64 p)]) (fun x=> [(0,⟨33,2,false,0,[.st [.sl x.2.1.acs.length (x.2.1.acs.map aT), .int .u64 x.2.1.col]]⟩),(1,⟨33,2,false,0,[.st [.nils, .int .u64 0]]⟩),(2,⟨48,5,true,0,x.2.2.map eA⟩)]) 3 (fun x=>x.1≤raws.length∧x.2.2.length=x.1∧eN x.2.1∧iD p (raws.drop x.1) x.2.1 x.2.2=(⟨Racs,Rcol⟩,Rout)) (fun x=>raws.length - x.1) (0,⟨acs0,col0⟩,[]) ⟨a₃ _,rfl,hl,by dsimp only;rw [b₀];exact hr⟩ (by dsimp only;exact(vm [(0,_),(1,_)] [])) ?_;clear hr hl;rintro⟨k,⟨acs,col⟩,out⟩ ⟨hk,hout,hsl,hR⟩;try dsimp only
 dsimp only at hk hout hR;refine aa ?_;refine ad rfl ?_ ?_ <;> intro h
 ·have hk':k < raws.length:=by have:=ot h;omega
  have hel:=gM hk';have hbl:=hb _ (a₁ hk');rw [a₂ hk',iD] at hR;generalize raws[k] =raw at *;replace hel:bF (raws.map bk) raws.length (k:Int)=some (.sl raw.length (u8s raw)):=hel;have hel:=aj.mk hel;have c1:=E3 (G:=G) ⟨acs,col⟩ p raw hsl hp hbl;have hs2:=jQ (p:=p) (raw:=raw) hsl;generalize oD ⟨acs,col⟩ p raw=y at *;obtain⟨⟨nacs,ncol⟩,⟨ec,esn,esq,egs,epr⟩⟩:=y;unfold eh eA at c1;dsimp only at c1 hR hs2;refine aa ?_;refine jW (c1) ?_;refine aL rfl rfl (by intro R hR;refine cI hR ?_;(refine a₄ (a₅ _) ?_;refine⟨_,rfl,?_⟩;refine a₄ ⟨sm,ai (by kernel_rfl) pf⟩ ?_;refine⟨(out ++ [(⟨ec,esn,esq,egs,epr⟩:fu)]).map eA,sv (by simp;rfl),out.length + 1,sv pf,?_⟩);exact hR) rfl ?_;refine aa ?_;exact⟨(k + 1,⟨nacs,ncol⟩,out ++ [⟨ec,esn,esq,egs,epr⟩]),⟨dm,by dsimp only;rw [a₆,a₉];omega,hs2.1,hR⟩,dm,(by dsimp only;rw [a₆,a₉];exact(vm [(0,_),(1,_),(2,_)] []))⟩
 ·have hk':k=raws.length:=by have:=oF h;omega
  subst hk';rw [a₇,iD] at hR;simp only [a₀,dK.mk.injEq] at hR;obtain⟨⟨rfl,rfl⟩,rfl⟩:=hR;refine aa ?_;refine au ?_;refine⟨[_,_],[],[(2,out.length)],rfl,rfl,?_,rfl,⟨?_,?_,trivial⟩,?_⟩
  ·exact⟨by show out.length≤(out.map eA).length;simp,trivial⟩
  ·exact .inl ⟨rfl,rfl⟩
  ·exact .inr ⟨rfl,rfl,rfl,Nat.le_of_eq (c₆ _),bc eA out⟩
  ·exact mm
def fS (p:Nat):List (List UInt8)→Nat→dK→dK×Nat×Nat
 | [],_,l=>(l,0,0)
 | raw :: r,i,l=>if (oD l p raw).2.code≠0 then(lg0,i,(oD l p raw).2.code) else fS p r (i + 1) (oD l p raw).1
theorem HL (l:dK) (p:Nat) (raws:List (List UInt8)) (hl:eN l) (hp:bo p) (hn:raws.length≤1000000) (hb: ∀b∈raws,b.length≤140737488355328):aQ Tryz.prog G 57 [eh l, .int .u64 p,dH raws] [] 0 (.tup [eh (fS p raws 0 l).1, .int .i64 (fS p raws 0 l).2.1, .int .i64 (fS p raws 0 l).2.2]) [] 0:=by
 generalize hr:fS p raws 0 l=R;obtain⟨⟨Racs,Rcol⟩,Rat,Re⟩:=R;obtain⟨acs0,col0⟩:=l;unfold dH eh;dsimp only;refine dw seat Tryz.func57 37 ?_;refine aa ?_;refine av (Nat×dK) (fun x=> [(15, .int .i64 x.1),(14, .int .i64 raws.length),(13, .sl raws.length (raws.map bk)),(6, .ptr 1 2 0 0 []),(3, .ptr 0 2 0 0 []),(1, .int .u64 p)]) (fun x=> [(0,⟨33,2,false,0,[.st [.sl x.2.acs.length (x.2.acs.map aT), .int .u64 x.2.col]]⟩),(1,⟨33,2,false,0,[.st [.nils, .int .u64 0]]⟩)]) 2 (fun x=>x.1≤raws.length∧eN x.2∧fS p (raws.drop x.1) x.1 x.2=(⟨Racs,Rcol⟩,Rat,Re)) (fun x=>raws.length - x.1) (0,⟨acs0,col0⟩) ⟨a₃ _,hl,by dsimp only;rw [b₀];exact hr⟩ (by dsimp only;exact(vm [(0,_),(1,_)] [])) ?_;clear hr hl;rintro⟨k,⟨acs,col⟩⟩ ⟨hk,hsl,hR⟩;try dsimp only
 dsimp only at hk hR;refine aa ?_;refine ad rfl ?_ ?_ <;> intro h
 ·have hk':k < raws.length:=by have:=ot h;omega
  have hel:=gM hk';have hbl:=hb _ (a₁ hk');rw [a₂ hk',fS] at hR;generalize raws[k] =raw at *;replace hel:bF (raws.map bk) raws.length (k:Int)=some (.sl raw.length (u8s raw)):=hel;have hel:=aj.mk hel;have c1:=E3 (G:=G) ⟨acs,col⟩ p raw hsl hp hbl;have hs2:=jQ (p:=p) (raw:=raw) hsl;generalize oD ⟨acs,col⟩ p raw=y at *;obtain⟨⟨nacs,ncol⟩,⟨ec,esn,esq,egs,epr⟩⟩:=y;unfold eh eA at c1;dsimp only at c1 hR hs2;refine aa ?_;refine jW (c1) ?_;refine ad rfl ?_ ?_ <;> intro h
  ·have he:ec≠0:=fun e=>by subst e;simp at h
   rw [if_pos he] at hR;simp only [lg0,a₀,dK.mk.injEq] at hR;obtain⟨⟨rfl,rfl⟩,rfl,rfl⟩:=hR;refine aa ?_;refine al [ae 0,ae 1,ae 2,ae 3,ae 4,ae 5,ae 6] ?_;refine aa ?_;refine au ?_;exact en [_,_,_]
  ·have he:ec=0:=by
    have: ¬ (ec:Int)≠0:=by simpa using h
    omega
   rw [if_neg (by simp [he])] at hR;refine aa ?_;exact⟨(k + 1,⟨nacs,ncol⟩),⟨dm,hs2.1,hR⟩,dm,(by dsimp only;exact(vm [(0,_),(1,_)] []))⟩
 ·have hk':k=raws.length:=by have:=oF h;omega
  subst hk';rw [a₇,fS] at hR;simp only [a₀,dK.mk.injEq] at hR;obtain⟨⟨rfl,rfl⟩,rfl,rfl⟩:=hR;refine aa ?_;refine au ?_;refine⟨[_,_,_],[],[],rfl,rfl,trivial,rfl,⟨?_,?_,?_,trivial⟩,?_⟩
  ·exact .inl ⟨rfl,rfl⟩
  ·exact rv
  ·exact rv
  ·exact mm
end
section
variable {G:GS}
attribute [local irreducible] ak aB aD aI aN vC aW aw
structure ef where
 com:dK
 chk:dK
 nxt:dK
 opn:Bool
 price:Nat
def appM (a:ef):MV:= .st [eh a.com,eh a.chk,eh a.nxt, .bool a.opn, .int .u64 a.price]
def fm (a:ef):Prop:=eN a.com∧eN a.chk∧eN a.nxt∧bo a.price
def app0:ef:=⟨lg0,lg0,lg0,false,0⟩
theorem lg0_sm:eN lg0:=⟨by simp [lg0],by simp [lg0,bo],by simp [lg0]⟩
theorem app0_sm:fm app0:=⟨lg0_sm,lg0_sm,lg0_sm,by simp [app0,bo]⟩
abbrev lgZ:MV:= .st [.nils, .int .u64 0]
theorem rel_lg0 {σ:Nat→Option Nat} {fz:Fz}:eu σ fz (eh lg0) lgZ:= .inr ⟨_,rfl,⟨.inr ⟨rfl,rfl⟩,⟨rfl,rfl⟩,trivial⟩⟩
theorem rel_lg {σ:Nat→Option Nat} {fz:Fz} {n:Nat} {l:List MV} {c:Int}:eu σ fz (.st [.sl n l, .int .u64 c]) (.st [.sl n l, .int .u64 c]):= .inl ⟨rfl,rfl⟩
def bm (acs:List bf) (price:Nat):ef×Nat:=if (jB acs).2≠0 then(app0,(jB acs).2) else(⟨(jB acs).1,(jB acs).1,lg0,false,price⟩,0)
theorem qU {acs:List bf} {p:Nat} (h: ∀a∈acs,qS a) (hp:bo p):fm (bm acs p).1:=by
 unfold bm;split
 ·exact app0_sm
 ·exact⟨uB h,uB h,lg0_sm,hp⟩
theorem HM {acs:List bf} {p:Nat} (h: ∀a∈acs,SmAc a) (hp:bo p):fm (bm acs p).1:=qU (fun a ha=>(h a ha).wd) hp
abbrev Pv:MV:= .st [lgZ,lgZ,lgZ, .bool false, .int .u64 0]
theorem fJ {σ:Nat→Option Nat} {fz:Fz}:eu σ fz (appM app0) Pv:= .inr ⟨_,rfl,⟨rel_lg0,rel_lg0,rel_lg0,⟨rfl,rfl⟩,⟨rfl,rfl⟩,trivial⟩⟩
theorem Ks (l:List bf) (p:Nat) (hl:l.length≤140737488355328) (hsm: ∀a∈l,qS a) (hp:bo p):aQ Tryz.prog G 16 [.sl l.length (l.map aT), .int .u64 p] [] 0 (.tup [appM (bm l p).1, .int .i64 (bm l p).2]) [] 0:=by
 have c1:=Ml (G:=G) l hl hsm;unfold bm;generalize jB l=g at *;obtain⟨⟨acs,col⟩,e⟩:=g;unfold eh at c1;dsimp only at c1 ⊢;by_cases he:e=0
 ·subst he;rw [if_neg sm];refine dw seat Tryz.func16 21 ?_;refine aa ?_;refine jW (c1) ?_;refine au ?_;refine⟨[_,_],[],[],rfl,rfl,trivial,rfl,⟨?_,?_,trivial⟩,?_⟩
  ·exact .inr ⟨_,rfl,⟨rel_lg,rel_lg,rel_lg0,⟨rfl,rfl⟩,⟨rfl,rfl⟩,trivial⟩⟩
  ·exact rv
  ·exact mm
 ·rw [if_pos he];refine dw seat Tryz.func16 21 ?_;refine aa ?_;refine jW (c1) ?_;refine ad rfl ?_ ?_ <;> intro h
  ·refine aa ?_;refine au ?_;refine⟨[_,_],[],[],rfl,rfl,trivial,rfl,⟨?_,?_,trivial⟩,?_⟩
   ·exact fJ
   ·exact rv
   ·exact mm
  ·exfalso;have: ¬ (e:Int)≠0:=by simpa using h
   omega
theorem Mm (l:List bf) (p:Nat) (hl:l.length≤100000) (hsm: ∀a∈l,SmAc a) (hp:bo p):aQ Tryz.prog G 16 [.sl l.length (l.map aT), .int .u64 p] [] 0 (.tup [appM (bm l p).1, .int .i64 (bm l p).2]) [] 0:=Ks l p om (fun a ha=>(hsm a ha).wd) hp
def uC (a:ef) (raw:List UInt8):fu:=(oD a.chk a.price raw).2
def lr (a:ef) (raw:List UInt8):ef:=⟨a.com,(oD a.chk a.price raw).1,a.nxt,a.opn,a.price⟩
theorem uD {a:ef} {raw:List UInt8} (h:fm a):fm (lr a raw):=⟨h.1,(jQ h.2.1).1,h.2.2⟩
theorem Dg (a:ef) (raw:List UInt8) (ha:fm a) (hraw:raw.length≤140737488355328):aE Tryz.prog G 22 [appM a, .sl raw.length (u8s raw)] (eA (uC a raw)):=by
 have c1:=E3 (G:=G) a.chk a.price raw ha.2.1 ha.2.2.2 hraw;unfold uC;obtain⟨⟨a1,b1⟩,⟨a2,b2⟩,⟨a3,b3⟩,op,price⟩:=a;dsimp only at *;generalize oD ⟨a2,b2⟩ price raw=y at *;obtain⟨⟨nacs,ncol⟩,⟨ec,esn,esq,egs,epr⟩⟩:=y;unfold appM eh eA at *;dsimp only at *;refine bA seat Tryz.func22 17 ?_;refine aa ?_;refine jW (c1) ?_;refine au ?_;rfl
theorem Aa (a:ef) (raw:List UInt8) (ha:fm a) (hraw:raw.length≤140737488355328):aE Tryz.prog G 23 [appM a, .sl raw.length (u8s raw)] (appM (lr a raw)):=by
 have c1:=E3 (G:=G) a.chk a.price raw ha.2.1 ha.2.2.2 hraw;unfold lr;obtain⟨⟨a1,b1⟩,⟨a2,b2⟩,⟨a3,b3⟩,op,price⟩:=a;dsimp only at *;generalize oD ⟨a2,b2⟩ price raw=y at *;obtain⟨⟨nacs,ncol⟩,⟨ec,esn,esq,egs,epr⟩⟩:=y;unfold appM eh eA at *;dsimp only at *;refine bA seat Tryz.func23 16 ?_;refine aa ?_;refine jW (c1) ?_;refine au ?_;rfl
def qV (a:ef):ef:=⟨a.com,a.com,a.nxt,a.opn,a.price⟩
theorem Dh (a:ef):aE Tryz.prog G 25 [appM a] (appM (qV a)):=by
 unfold qV;obtain⟨⟨a1,b1⟩,⟨a2,b2⟩,⟨a3,b3⟩,op,price⟩:=a;unfold appM eh;dsimp only;refine bA seat Tryz.func25 7 ?_;refine aa ?_;refine au ?_;rfl
def qW (a:ef):ef×Nat:=if a.opn=false then(app0,9) else(⟨a.nxt,a.nxt,lg0,false,a.price⟩,0)
theorem Di {a:ef} (h:fm a):fm (qW a).1:=by
 unfold qW;split
 ·exact app0_sm
 ·exact⟨h.2.2.1,h.2.2.1,lg0_sm,h.2.2.2⟩
theorem HN (a:ef):aQ Tryz.prog G 29 [appM a] [] 0 (.tup [appM (qW a).1, .int .i64 (qW a).2]) [] 0:=by
 unfold qW;obtain⟨⟨a1,b1⟩,⟨a2,b2⟩,⟨a3,b3⟩,op,price⟩:=a;dsimp only;cases op with
 | false=>
  rw [if_pos rfl]
  show aQ _ _ _ [.st [.st [.sl a1.length (a1.map aT), .int .u64 b1], .st [.sl a2.length (a2.map aT), .int .u64 b2], .st [.sl a3.length (a3.map aT), .int .u64 b3], .bool false, .int .u64 price]] _ _ _ _ _
  refine dw seat Tryz.func29 15 ?_;refine aa ?_;refine au ?_;refine⟨[_,_],[],[],rfl,rfl,trivial,rfl,⟨?_,?_,trivial⟩,?_⟩
  ·exact fJ
  ·exact rv
  ·exact mm
 | true=>
  rw [if_neg sm]
  show aQ _ _ _ [.st [.st [.sl a1.length (a1.map aT), .int .u64 b1], .st [.sl a2.length (a2.map aT), .int .u64 b2], .st [.sl a3.length (a3.map aT), .int .u64 b3], .bool true, .int .u64 price]] _ _ _ _ _
  refine dw seat Tryz.func29 15 ?_;refine aa ?_;refine au ?_;refine⟨[_,_],[],[],rfl,rfl,trivial,rfl,⟨?_,?_,trivial⟩,?_⟩
  ·exact .inr ⟨_,rfl,⟨rel_lg,rel_lg,rel_lg0,⟨rfl,rfl⟩,⟨rfl,rfl⟩,trivial⟩⟩
  ·exact rv
  ·exact mm
def jw (a:ef) (raws:List (List UInt8)):ef×List fu×Nat:=if a.opn=true then(app0,[],9) else if 512 < raws.length then(app0,[],3) else
 (⟨a.com,a.chk,(iD a.price raws a.com []).1,true,a.price⟩,(iD a.price raws a.com []).2,0)
theorem xV {a:ef} {raws:List (List UInt8)} (h:fm a):fm (jw a raws).1∧(∀r∈(jw a raws).2.1,iS r)∧(jw a raws).2.1.length≤raws.length:=by
 have h1:=Df a.price raws a.com [] h.1 sm;unfold jw;split
 ·exact⟨app0_sm,sm,sm⟩
 split
 ·exact⟨app0_sm,sm,sm⟩
 ·exact⟨⟨h.1,h.2.1,h1.1,h.2.2.2⟩,h1.2.1,by have:=h1.2.2;simp only [c₁] at this;dsimp only;omega⟩
theorem N7 (a:ef) (raws:List (List UInt8)) (ha:fm a) (hn:raws.length≤1000000) (hb: ∀b∈raws,b.length≤140737488355328):aQ Tryz.prog G 32 [appM a,dH raws] [] 0 (.tup [appM (jw a raws).1, .sl (jw a raws).2.1.length ((jw a raws).2.1.map eA), .int .i64 (jw a raws).2.2]) [] 0:=by
 have c1:=N6 (G:=G) a.com a.price raws ha.1 ha.2.2.2 hn hb;unfold jw;obtain⟨⟨a1,b1⟩,⟨a2,b2⟩,⟨a3,b3⟩,op,price⟩:=a;dsimp only at *;generalize iD price raws ⟨a1,b1⟩ [] =y at *;obtain⟨⟨nacs,ncol⟩,out⟩:=y;unfold dH at *;have hA: ∀op:Bool,appM ⟨⟨a1,b1⟩,⟨a2,b2⟩,⟨a3,b3⟩,op,price⟩= .st [.st [.sl a1.length (a1.map aT), .int .u64 b1], .st [.sl a2.length (a2.map aT), .int .u64 b2], .st [.sl a3.length (a3.map aT), .int .u64 b3], .bool op, .int .u64 price] :=fun _=>rfl
 rw [hA];unfold eh at c1;dsimp only at c1;cases op with
 | true=>
  rw [if_pos rfl];refine dw seat Tryz.func32 30 ?_;refine aa ?_;refine au ?_;refine⟨[_,_,_],[],[],rfl,rfl,trivial,rfl,⟨?_,?_,?_,trivial⟩,?_⟩
  ·exact fJ
  ·exact .inr ⟨rfl,rfl⟩
  ·exact rv
  ·exact mm
 | false=>
  rw [if_neg sm];by_cases hl:512 < raws.length
  ·rw [if_pos hl];refine dw seat Tryz.func32 30 ?_;refine aa ?_;(iterate 4 ((all_goals(refine aa ?_));(all_goals(first | ((first | refine ag rfl rfl ?_ rfl ?_ | refine ad rfl ?_ ?_);all_goals(intro h;(try simp only [pl] at h);(try (exfalso;omega)))) | skip))));all_goals(refine au ?_)
   refine⟨[_,_,_],[],[],rfl,rfl,trivial,rfl,⟨?_,?_,?_,trivial⟩,?_⟩
   ·exact fJ
   ·exact .inr ⟨rfl,rfl⟩
   ·exact rv
   ·exact mm
  ·rw [if_neg hl];dsimp only
   show aQ _ _ _ _ _ _ (.tup [.st [.st [.sl a1.length (a1.map aT), .int .u64 b1], .st [.sl a2.length (a2.map aT), .int .u64 b2], .st [.sl nacs.length (nacs.map aT), .int .u64 ncol], .bool true, .int .u64 price],_,_]) _ _
   refine dw seat Tryz.func32 30 ?_;refine aa ?_;(iterate 6 ((all_goals(refine aa ?_));(all_goals(first | (refine ah rfl aA rfl (c1) rfl rfl ?_) | ((first | refine ag rfl rfl ?_ rfl ?_ | refine ad rfl ?_ ?_);all_goals(intro h;(try simp only [pl] at h);(try (exfalso;omega)))) | skip))));all_goals(refine au ?_)
   exact en [_,_,_]
def qX (l:dK) (p:Nat) (raw:List UInt8):dK:=(oD l p raw).1
theorem Kt (l:dK) (p:Nat) (raw:List UInt8) (hl:eN l) (hp:bo p) (hraw:raw.length≤140737488355328):aE Tryz.prog G 53 [eh l, .int .u64 p, .sl raw.length (u8s raw)] (eh (qX l p raw)):=by
 have c1:=E3 (G:=G) l p raw hl hp hraw;unfold qX;obtain⟨a1,b1⟩:=l;generalize oD ⟨a1,b1⟩ p raw=y at *;obtain⟨⟨nacs,ncol⟩,⟨ec,esn,esq,egs,epr⟩⟩:=y;unfold eh eA at *;dsimp only at *;refine bA seat Tryz.func53 17 ?_;refine aa ?_;refine jW (c1) ?_;refine au ?_;rfl
end
section
variable {G:GS}
theorem xW (x n:Int) (hn:0 < n) (hn2:n < 9223372036854775808):aE Tryz.prog G 36 [.int .i64 x, .int .i64 n] (.int .i64 (x % n)):=by
 have hmod:=JV x n hn;have h1: -9223372036854775808≤x.tmod n + n∧x.tmod n + n < 9223372036854775808∨¬ x.tmod n < 0:=by
  have:=Int.lt_tmod_of_pos x hn;omega
 have hne:=bE.mk (show n≠0 by omega);refine bA seat Tryz.func36 14 ?_;refine aa ?_;refine ad rfl ?_ ?_ <;> intro h
 ·have hx:=ot h;rw [if_pos hx] at hmod;refine aa ?_;refine au ?_;exact congrArg (MV.int .i64) hmod
 ·have hx:=oF h;rw [if_neg hx] at hmod;refine aa ?_;refine au ?_;exact congrArg (MV.int .i64) hmod
def mF (L:List Int) (N:Nat) (n:Int):Int:=(L[N]?.getD 0) % n
def ej (L:List Int) (N:Nat):VM:= [(0,⟨102,2,false,0,[.st [iQ L, .int .i64 N]]⟩)]
abbrev numP:MV:= .ptr 0 2 0 0 []
theorem HO (L:List Int) (N:Nat) (n:Int) (hn:0 < n) (hn2:n < 9223372036854775808) (hN:N < 4611686018427387904) :
  aQ Tryz.prog G 27 [numP, .int .i64 n] (ej L N) 1 (.int .i64 (mF L N n)) (ej L (N + 1)) 1:=by
 have cp:=xW (G:=G) (L[N]?.getD 0) n hn hn2
 unfold mF
 unfold ej
 generalize hx:(L[N]?.getD 0)=x at *
 by_cases hlt:N < L.length
 ·have hel:=aj.mk (show bF (L.map (MV.int .i64)) L.length (N:Int)=some (.int .i64 x) by rw [zG hlt,← hx];simp [hlt])
  unfold iQ
  refine dw seat Tryz.func27 36 ?_
  refine aa ?_
  refine al [ae 0,ae 1,ae 2,ae 3,ae 4,ae 5,ae 6,ae 7,ae 8,ae 9] ?_
  refine aa ?_
  refine ad rfl ?_ ?_ <;> intro h
  ·refine aa ?_
   refine al [ae 0,ae 1,ae 2,ae 3,ae 4,ae 5,ae 6,ae 7,ae 8,ae 9,ae 10] ?_
   refine aa ?_
   refine dL (cp) ?_
   exact en [_]
  ·exact absurd (oF h) om
 ·have hx0:x=0:=by rw [← hx];simp [hlt]
  subst hx0
  unfold iQ
  refine dw seat Tryz.func27 36 ?_
  refine aa ?_
  refine al [ae 0,ae 1,ae 2,ae 3,ae 4,ae 5,ae 6,ae 7,ae 8,ae 9] ?_
  refine aa ?_
  refine ad rfl ?_ ?_ <;> intro h
  ·exact absurd (ot h) om
  ·refine aa ?_
   refine dL (cp) ?_
   exact en [_]
end
section
def bZ (Pg:Program) (G:GS) (f:FuncId) (args:List MV) (P:MV→Prop):Prop:=ti Pg G f args [] 0 fun r M n=>(P r∧dM r=true)∧M= [] ∧n=0
def qY (G:GS) (L:List Int) (f:FuncId) (args:List MV) (k:Nat) (P:MV→Nat→Prop):Prop:=ti Tryz.prog G f args (ej L k) 1 fun r M n=> ∃k',(P r k'∧dM r=true)∧M=ej L k'∧n=1
section
variable {Pg:Program} {T:bB} {N:Nat} {ents:List FuncId} {G:GS} {ops:Array Oper} {d:Tmp} {ty:TypeId} {pos:String} {after:Array Edge} {g:Option (Nat×Bool)} {rest:List Oper} {K:VK} {E:VE} {M:VM} {n:Nat}
 {f:Operand} {args:Array Operand} {ats:Array TypeId} {f0:FuncId} {vs:List MV}
theorem HP (hd:Nat.blt d N=true) (h1: ∀R:FuncId×List MV→Prop,R (f0,vs)→(dX E f args.toList).runP R) (h2:ents.contains f0=true) {args':List MV} {P:MV→Prop} (hc:bZ Pg G f0 args' P) (bs:List (Nat×Nat)) (hb:Bd M bs)
  (hm:eu.relVs (da 0 []) (kI M bs) args' vs) (h: ∀r,P r→ak Pg T N ents G ops rest K ((d,r) :: E) (VM.bump M bs) n):aB Pg T N ents G ops ⟨some d, .call ⟨.value f,args,ats⟩,ty,pos,after,g⟩ rest K E M n:=by
 refine tV hd h1 h2 hc [] bs ⟨rfl,hb,rfl,hm,trivial⟩ rfl ?_
 rintro r _ _ ⟨⟨hP,hf⟩,rfl,rfl⟩
 refine⟨rfl,?_⟩
 rw [jl r hf]
 exact h r hP
theorem kz (hd:Nat.blt d N=true) (h1: ∀R:FuncId×List MV→Prop,R (f0,vs)→(dX E f args.toList).runP R) (h2:ents.contains f0=true) {args':List MV} {L:List Int} {k:Nat} {P:MV→Nat→Prop} (hc:qY G L f0 args' k P) (hg:Pg=Tryz.prog) (b:Nat) (bs:List (Nat×Nat))
  (hm:eB 0 args' (ej L k) 1 vs M [(0,b)] bs) (h3:iv M [(0,b)] =true) (h: ∀r k',P r k'→ak Pg T N ents G ops rest K ((d,r) :: E) (jO (rK n [(0,b)]) (ej L k') ++ iI (VM.bump M bs) [(0,b)]) (n + 1)):aB Pg T N ents G ops ⟨some d, .call ⟨.value f,args,ats⟩,ty,pos,after,g⟩ rest K E M n:=by
 subst hg
 refine tV hd h1 h2 hc [(0,b)] bs hm h3 ?_
 rintro r _ _ ⟨k',⟨hP,hf⟩,rfl,rfl⟩
 refine⟨rfl,?_⟩
 rw [jl r hf]
 exact h r k' hP
end
theorem bg {G:GS} (L:List Int) (k n:Nat) (hn:0 < n) (hn2:n < 4611686018427387904) (hk:k < 4611686018427387904): ∃x:Nat,x < n∧aQ Tryz.prog G 27 [numP, .int .i64 (n:Int)] (ej L k) 1 (.int .i64 (x:Int)) (ej L (k + 1)) 1:=by
 have h1:=d₆ (L[k]?.getD 0) (show(n:Int)≠0 by omega);have h2:=c₈ (L[k]?.getD 0) (show(0:Int) < n by omega);refine⟨(mF L k n).toNat,by unfold mF;omega,?_⟩;rw [show (((mF L k n).toNat:Nat):Int)=mF L k n by unfold mF;omega];exact HO L k n om om hk
end
section
variable {G:GS}
attribute [local irreducible] ak aB aD aI aN vC aW aw
theorem HQ (L:List Int) (N:Nat) (n:Int) (hn:0 < n):0≤mF L N n∧mF L N n < n:=⟨d₆ _ om,c₈ _ hn⟩
def nextN (L:List Int) (N:Nat) (n:Nat):Nat:=(mF L N n).toNat
theorem de (L:List Int) (N n:Nat) (hn:0 < n):mF L N n=(nextN L N n:Int)∧nextN L N n < n:=by
 have:=HQ L N n om;unfold nextN;omega
theorem eK (L:List Int) (N n:Nat) (hn:0 < n) (hn2:n < 4611686018427387904) (hN:N < 4611686018427387904) :
  aQ Tryz.prog G 27 [numP, .int .i64 (n:Int)] (ej L N) 1 (.int .i64 (nextN L N n:Int)) (ej L (N + 1)) 1:=by
 have:=HO (G:=G) L N n om om hN
 rw [(de L N n hn).1] at this
 exact this
def uE:List (List UInt8):= [[97,110,110],[98,111,98],[101,118,101],[122,111,101],[110,101,119],[120,45,49]]
def pQ (L:List Int) (N:Nat):List UInt8:=uE.getD (nextN L N 6) []
theorem HR {k:Nat} (hk:k < 6):bW (uE.map MV.str) (0 + k)=some (.str (uE.getD k [])):=by
 have h6:k=0∨k=1∨k=2∨k=3∨k=4∨k=5:=om;rcases h6 with rfl | rfl | rfl | rfl | rfl | rfl <;> rfl
theorem HT (L:List Int) (N:Nat) (hN:N < 4611686018427387904):aQ Tryz.prog G 83 [numP] (ej L N) 1 (.str (pQ L N)) (ej L (N + 1)) 1:=by
 have h6:=(de L N 6 om).2;have cn:=eK (G:=G) L N 6 om om hN;have f1:=aj.mk (cE h6);have f2:=aj.mk (show bW [MV.str [97,110,110],MV.str [98,111,98],MV.str [101,118,101],MV.str [122,111,101],MV.str [110,101,119],MV.str [120,45,49]] (0 + nextN L N 6)=some (.str (uE.getD (nextN L N 6) [])) from HR h6);unfold pQ;generalize nextN L N 6=x at *;generalize uE.getD x [] =nm at *;refine dw seat Tryz.func83 8 ?_;refine aa ?_;refine yc (cn) [(0,0)] ?_;refine aa ?_;exact en [_]
theorem Mn (L:List Int):aQ Tryz.prog G 14 [iQ L] [] 0 numP (ej L 0) 1:=by
 refine dw seat Tryz.func14 6 ?_;refine aa ?_;exact eb [_] [(0,3)] []
theorem Mo (k:Nat):IntKind.u8.wrap (k:Int)=((UInt8.ofNat k).toNat:Int):=by
 rw [w8,UInt8.toNat_ofNat'];exact(Int.natCast_emod _ 256).symm
def uF:List (List UInt8):= [[],[],[],[114,101,110,116],[195,169,228,184,150],[97,10,98],[116,104,97,110,107,115,32,102,111,114,32,97,108,108,32,116,104,101,32,102,105,115,104,44,32,97,110,100,32,102,111,114,32,116,104,101,32,99,104,105,112,115]]
def wt (L:List Int) (N:Nat):List UInt8:=uF.getD (nextN L N 7) []
theorem HU {k:Nat} (hk:k < 7):bW (uF.map MV.str) (0 + k)=some (.str (uF.getD k [])):=by
 have h6:k=0∨k=1∨k=2∨k=3∨k=4∨k=5∨k=6:=om;rcases h6 with rfl | rfl | rfl | rfl | rfl | rfl | rfl <;> rfl
theorem wu (L:List Int) (N:Nat):(pQ L N).length≤5:=by
 have h:=(de L N 6 om).2;unfold pQ;generalize nextN L N 6=k at *;have h6:k=0∨k=1∨k=2∨k=3∨k=4∨k=5:=om;rcases h6 with rfl | rfl | rfl | rfl | rfl | rfl <;> decide
theorem E6 (L:List Int) (N:Nat):(wt L N).length≤50:=by
 have h:=(de L N 7 om).2;unfold wt;generalize nextN L N 7=k at *;have h6:k=0∨k=1∨k=2∨k=3∨k=4∨k=5∨k=6:=om;rcases h6 with rfl | rfl | rfl | rfl | rfl | rfl | rfl <;> decide
theorem Mp (L:List Int) (N:Nat) (hN:N < 4611686018427387904):aQ Tryz.prog G 84 [numP] (ej L N) 1 (.str (wt L N)) (ej L (N + 1)) 1:=by
 have h7:=(de L N 7 om).2;have cn:=eK (G:=G) L N 7 om om hN;have f1:=aj.mk (cE h7);have f2:=aj.mk (HU h7);unfold uF at f2;simp only [List.map_cons,List.map_nil] at f2;unfold wt uF;generalize nextN L N 7=x at *;generalize List.getD _ x [] =nm at *;refine dw seat Tryz.func84 8 ?_;refine aa ?_;refine yc (cn) [(0,0)] ?_;refine aa ?_;exact en [_]
end
end Go.Proofs.YtohikcplmbkmeaaGreatDoor
