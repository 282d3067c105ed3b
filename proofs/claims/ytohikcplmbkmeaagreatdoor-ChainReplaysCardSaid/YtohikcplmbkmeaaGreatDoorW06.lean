/- Parts of a proof. -/
import Derived.Test.YtohikcplmbkmeaaGreatDoorW05
open And renaming intro → a₀
open Prod.mk renaming injEq → a₁
open List renaming getElem_mem → a₂,drop_eq_getElem_cons → a₄,length_append → a₇,drop_length → a₈,take_length → a₉,length_singleton → b₀,drop_zero → b₁,take_zero → b₂,take_succ_eq_append_getElem → b₃,map_append → b₄,length_map → b₅,mem_singleton → b₈,replicate → b₉,mem_cons → c₀,nil_append → c₂,length_nil → c₄,mem_map → c₅,getElem?_eq_some_iff → c₇,length_cons → d₀,getElem_cons_zero → d₁,cons_eq_cons → d₃,not_mem_nil → d₆,length_set → d₇,mem_append → d₉,foldl_cons → e₀
open Nat renaming zero_le → a₃,le_refl → a₅,zero_add → a₆,div_lt_iff_lt_mul → b₆,testBit_eq_decide_div_mod_eq → c₁,and_two_pow_sub_one_eq_mod → c₃,shiftLeft_add_eq_or_of_lt → c₆,le_of_eq → c₈,mul_add → d₄,shiftLeft_eq → d₅,div_le_self → d₈
open Int renaming fdiv_eq_ediv_of_nonneg → b₇,natCast_ediv → c₉,toNat_natCast → d₂
set_option maxRecDepth 20000
set_option maxHeartbeats 16000000
set_option linter.unusedVariables false
set_option linter.unusedSimpArgs false
namespace Go.Proofs.YtohikcplmbkmeaaGreatDoor
open Go.RowKit
section
variable {G:GS}
attribute [local irreducible] ak aB aD aJ aQ vC aY aw
def rJ (a:bd):List bd→List bd
 | [] => [a]
 | b :: r=>if Op.bytesLess b.name a.name then b :: rJ a r else a :: b :: r
def gq (a:bd) (l:List bd):List bd:=if 0≤gm a.name l 0 then l.set (gm a.name l 0).toNat a else rJ a l
theorem AV (a:bd): ∀(l:List bd) (k:Nat),k≤l.length→(∀j (hj:j < l.length),j < k→Op.bytesLess l[j].name a.name=true)→(∀hk:k < l.length,Op.bytesLess l[k].name a.name=false)→rJ a l=l.take k ++ a :: l.drop k
 | [],k,h,_,_=>by
  have:k=0:=by simpa using h
  subst this;rfl
 | b :: r,0,_,_,h2=>by
  have:=h2 sm
  simp only [d₁] at this
  rw [rJ,if_neg (by rw [this];simp)]
  rfl
 | b :: r,k + 1,h,h1,h2=>by
  have hb:=h1 0 sm om
  simp only [d₁] at hb
  rw [rJ,if_pos hb,AV a r k (by simpa using h) (fun j hj hjk=>by have:=h1 (j + 1) (by simpa using hj) om;simpa using this) (fun hk=>by have:=h2 (by simpa using hk);simpa using this)]
  rfl
theorem mJ (l:List bd):bg (l.map aV) 3=true:=by cases l <;> rfl
theorem w5 (a:bd): ∀l,(rJ a l).length=l.length + 1
 | [] =>rfl
 | b :: r=>by
  rw [rJ]
  split
  ·simp [w5 a r]
  ·simp
theorem oa (a:bd) (l:List bd):(gq a l).length≤l.length + 1:=by
 unfold gq;split
 ·simp
 ·rw [w5];omega
theorem LO (a:bd) (l:List bd) (hl:l.length≤1000000):aT Tryz.prog G 81 [.sl l.length (l.map aV),aV a] [] 0 (.sl (gq a l).length ((gq a l).map aV)) [] 0:=by
 have c1:=AU (G:=G) l a.name hl;obtain⟨nm,bal,seq⟩:=a;dsimp only at c1;have OB:=mI nm l 0;have pJ:gq ⟨nm,bal,seq⟩ l=if 0≤gm nm l 0 then l.set (gm nm l 0).toNat ⟨nm,bal,seq⟩ else rJ ⟨nm,bal,seq⟩ l:=rfl
 by_cases hf:gm nm l 0= -1
 ·rw [hf] at c1 pJ;rw [if_neg om] at pJ;rw [pJ];clear OB hf pJ;have Vd:=AV ⟨nm,bal,seq⟩ l;have Gq:=w5 ⟨nm,bal,seq⟩ l;dsimp only at Vd;generalize rJ ⟨nm,bal,seq⟩ l=Z at *;refine dK seat Tryz.func81 50 ?_;refine aa ?_;(iterate 3 ((all_goals(refine aa ?_));(all_goals(first | (refine ah rfl aA rfl (src (c1)) rfl rfl ?_) | ((first | refine ag rfl rfl ?_ rfl ?_ | refine ad rfl ?_ ?_);all_goals(intro h;(try simp only [pl] at h);(try (exfalso;omega)))) | skip))));refine av Nat (fun k=> [(7, .int .i64 k),(3, .ptr 0 3 0 0 []),(0, .sl l.length (l.map aV))]) (fun _=> [(0,⟨91,3,false,0,[.st [.str nm, .int .u64 bal, .int .u64 seq]]⟩)]) 1 (fun k=>k≤l.length∧∀j (hj:j < l.length),j < k→Op.bytesLess l[j].name nm=true) (fun k=>l.length - k) 0 ⟨a₃ _,fun j hj h=>absurd h (Nat.not_lt_zero _)⟩ (vm [(0,_)] []) ?_;rintro k ⟨na,ib⟩;try dsimp only
  have step: ∀hk:k < l.length,Op.bytesLess l[k].name nm=true→(k + 1≤l.length∧∀j (hj:j < l.length),j < k + 1→Op.bytesLess l[j].name nm=true):=fun hk hb=>⟨om,fun j hj hjk=>by
   rcases Nat.lt_or_ge j k with h | h
   ·exact ib j hj h
   ·have:j=k:=om;subst this;exact hb⟩
  have done:(∀hk:k < l.length,Op.bytesLess l[k].name nm=false)→Z=l.take k ++ ⟨nm,bal,seq⟩ :: l.drop k:=fun h=>Vd k na ib h
  clear Vd;refine aa ?_;refine al [ae 0,ae 1,ae 2,ae 3,ae 4,ae 5,ae 6,ae 7,ae 8,ae 9,ae 10,ae 11,ae 12,ae 13] ?_;refine aa ?_;refine ez rfl rfl ?_ rfl ?_ <;> intro h
  ·have hk:k < l.length:=by have:=ot h;omega
   have aH:=fN hk;replace step:=step hk;generalize he:l[k] =b at *;obtain⟨nm',US,seq'⟩:=b;replace aH:bI (l.map aV) l.length (k:Int)=some (.st [.str nm', .int .u64 US, .int .u64 seq']):=aH;have aH:=aj.mk aH;dsimp only at step;refine aa ?_;refine ad rfl ?_ ?_ <;> intro h
   ·refine aa ?_;exact⟨k + 1,step h,by show l.length - (k + 1) < l.length - k;omega,(by dsimp only;exact(vm [(0,_)] []))⟩
   ·have Oi:=done (fun _=>by rw [he];exact h);have NR:=aj.mk (kh (κ:= .i64) na);have Vp:=aj.mk (gH (κ:= .i64) na);have RX:=bH.mk (mJ l);refine aa ?_;refine al [ae 0,ae 1,ae 2,ae 3,ae 4,ae 5,ae 6,ae 7,ae 8,ae 9,ae 10,ae 11,ae 12] ?_;refine aa ?_;refine bj rfl (by intro R hR;refine da hR ?_;refine a₀ ((by show bg (cutL _ 0 k) 3=true;rw [cut_take];exact mJ _)) ?_;refine a₀ ⟨rfl,ai (by kernel_rfl) pf⟩ ?_;refine⟨(l.take k).map aV,sv (by show [] ++ cutL _ 0 k=_;rw [c₂,cut_take]),k,sv pf,?_⟩;exact hR) rfl ?_;refine aa ?_;refine bj rfl (by intro R hR;refine da hR ?_;(refine a₀ (a₅ _) ?_;refine⟨_,rfl,?_⟩;refine a₀ ⟨(by simp <;> omega),ai (by kernel_rfl) pf⟩ ?_;refine⟨(l.take k ++ [(⟨nm,bal,seq⟩:bd)]).map aV,sv (by simp;rfl),k+1,sv pf,?_⟩);exact hR) rfl ?_;refine aa ?_;refine bj rfl (by intro R hR;refine da hR ?_;refine a₀ ((by show bg (cutL _ k l.length) 3=true;rw [el];exact mJ _)) ?_;refine a₀ ⟨(by simp <;> omega),ai (by kernel_rfl) pf⟩ ?_;refine⟨Z.map aV,sv (by rw [Oi];show _ ++ cutL _ k l.length=_;rw [el];simp),Z.length,sv pf,?_⟩;exact hR) rfl ?_;refine aa ?_;refine⟨[_],[],[(26,Z.length)],rfl,rfl,?_,rfl,⟨?_,trivial⟩,?_⟩
    ·exact⟨by show Z.length≤(Z.map aV).length;simp,trivial⟩
    ·exact .inr ⟨rfl,rfl,rfl,c₈ (a₆ _),bc aV Z⟩
    ·exact mm
  ·have hk:k=l.length:=by have:=oF h;omega
   have Oi:=done (fun h=>absurd h om);refine aa ?_;have NR:=aj.mk (kh (κ:= .i64) na);have Vp:=aj.mk (gH (κ:= .i64) na);have RX:=bH.mk (mJ l);refine aa ?_;refine al [ae 0,ae 1,ae 2,ae 3,ae 4,ae 5,ae 6,ae 7,ae 8,ae 9,ae 10,ae 11,ae 12] ?_;refine aa ?_;refine bj rfl (by intro R hR;refine da hR ?_;refine a₀ ((by show bg (cutL _ 0 k) 3=true;rw [cut_take];exact mJ _)) ?_;refine a₀ ⟨rfl,ai (by kernel_rfl) pf⟩ ?_;refine⟨(l.take k).map aV,sv (by show [] ++ cutL _ 0 k=_;rw [c₂,cut_take]),k,sv pf,?_⟩;exact hR) rfl ?_;refine aa ?_;refine bj rfl (by intro R hR;refine da hR ?_;(refine a₀ (a₅ _) ?_;refine⟨_,rfl,?_⟩;refine a₀ ⟨(by simp <;> omega),ai (by kernel_rfl) pf⟩ ?_;refine⟨(l.take k ++ [(⟨nm,bal,seq⟩:bd)]).map aV,sv (by simp;rfl),k+1,sv pf,?_⟩);exact hR) rfl ?_;refine aa ?_;refine bj rfl (by intro R hR;refine da hR ?_;refine a₀ ((by show bg (cutL _ k l.length) 3=true;rw [el];exact mJ _)) ?_;refine a₀ ⟨(by simp <;> omega),ai (by kernel_rfl) pf⟩ ?_;refine⟨Z.map aV,sv (by rw [Oi];show _ ++ cutL _ k l.length=_;rw [el];simp),Z.length,sv pf,?_⟩;exact hR) rfl ?_;refine aa ?_;refine⟨[_],[],[(26,Z.length)],rfl,rfl,?_,rfl,⟨?_,trivial⟩,?_⟩
   ·exact⟨by show Z.length≤(Z.map aV).length;simp,trivial⟩
   ·exact .inr ⟨rfl,rfl,rfl,c₈ (a₆ _),bc aV Z⟩
   ·exact mm
 ·obtain⟨k,b,h1,h2,_⟩:=OB.resolve_left (fun h=>hf h.1);have hk:=(c₇.1 h2).1;rw [h1] at c1 pJ;rw [if_pos om,d₂,a₆] at pJ;rw [a₆] at c1;rw [pJ];clear h1 h2 OB hf pJ;rw [d₇];have f1:=aj.mk (cI hk);have dP:cE (l.map aV) (0 + k)=some (aV l[k]):=by rw [bZ,a₆];simp [hk]
  generalize l[k] =b' at dP;obtain⟨nm',US,seq'⟩:=b';have dP:=aj.mk (show cE (l.map aV) (0 + k)=some (.st [.str nm', .int .u64 US, .int .u64 seq']) from dP);refine dK seat Tryz.func81 50 ?_;refine aa ?_;(iterate 3 ((all_goals(refine aa ?_));(all_goals(first | (refine ah rfl aA rfl (src (c1)) rfl rfl ?_) | ((first | refine ag rfl rfl ?_ rfl ?_ | refine ad rfl ?_ ?_);all_goals(intro h;(try simp only [pl] at h);(try (exfalso;omega)))) | skip))));refine aO rfl rfl (by intro R hR;refine da hR ?_;refine a₀ ((mJ l)) ?_;refine a₀ ⟨rfl,ai (by kernel_rfl) pf⟩ ?_;refine⟨l.map aV,sv (by show [] ++ l.map aV=_;rw [c₂]),l.length,sv pf,?_⟩;exact hR) rfl ?_;refine aa ?_;refine⟨[_],[],[(10,l.length)],rfl,rfl,?_,rfl,⟨?_,trivial⟩,?_⟩
  ·exact⟨by show l.length≤(setL (l.map aV) (0 + k) _).length;rw [setL_eq];simp,trivial⟩
  ·refine .inr ⟨rfl,rfl,rfl,c₈ (a₆ _),?_⟩
   show cutL (setL (l.map aV) (0 + k) (aV ⟨nm,bal,seq⟩)) 0 (0 + l.length)=(l.set k ⟨nm,bal,seq⟩).map aV
   rw [setL_eq,a₆,← List.map_set,cut_take,a₆];rw [List.take_of_length_le (by rw [d₇];omega)]
  ·exact mm
def sumG:List Nat→Nat→Nat×Bool
 | [],s=>(s,true)
 | x :: r,s=>if (jA s x).2 then sumG r (jA s x).1 else(0,false)
def fZ (l:List Nat):List MV:=l.map fun(n:Nat)=>MV.int .u64 (n:Int)
theorem Hj {l:List Nat} {k:Nat} (hk:k < l.length):bI (fZ l) l.length (k:Int)=some (.int .u64 (l[k] :Int)):=dB hk (by simp [fZ,hk])
theorem iR (m:Nat):((m:Int).fdiv (2 ^ (min (32:Int).toNat IntKind.u64.bits)))=((m / 4294967296:Nat):Int):=by
 rw [show min (32:Int).toNat IntKind.u64.bits=32 by rfl,b₇ _ (by decide)];exact(c₉ m 4294967296).symm
theorem i6 {m:Nat} (hm:m < 18446744073709551616):IntKind.u64.wrap ((BitVec.ofInt IntKind.u64.bits (m:Int) &&& BitVec.ofInt IntKind.u64.bits (4294967295:Int)).toNat:Int)=((m % 4294967296:Nat):Int):=by
 have e:=c₃ m 32;rw [BitVec.toNat_and,fQ _ _ (show m < 2 ^ IntKind.u64.bits from hm),show (4294967295:Int)=((4294967295:Nat):Int) by rfl,fQ _ _ (show 4294967295 < 2 ^ IntKind.u64.bits by decide),show (4294967295:Nat)=2 ^ 32 - 1 by rfl,e,wu64];omega
theorem Tv {h l:Nat} (hh:h < 4294967296) (hl:l < 4294967296):IntKind.u64.wrap ((BitVec.ofInt IntKind.u64.bits ((h * 4294967296:Nat):Int) ||| BitVec.ofInt IntKind.u64.bits (l:Int)).toNat:Int)=((h * 4294967296 + l:Nat):Int):=by
 have e:h * 4294967296 ||| l=h * 4294967296 + l:=by
  have:=c₆ (i:=32) hl h;rw [d₅] at this;exact this.symm
 rw [BitVec.toNat_or,fQ _ _ (show h * 4294967296 < 2 ^ IntKind.u64.bits by show _ < 18446744073709551616;omega),fQ _ _ (show l < 2 ^ IntKind.u64.bits by show _ < 18446744073709551616;omega),e,wu64];omega
theorem Tw (m:Nat):IntKind.u64.wrap ((m:Int) * 2 ^ (min (32:Int).toNat IntKind.u64.bits))=((m % 4294967296 * 4294967296:Nat):Int):=by
 rw [show min (32:Int).toNat IntKind.u64.bits=32 by rfl,wu64];omega
def fO (a b c:Nat):Nat×Bool:=if c=0∨c≤a * b / 18446744073709551616 then(0,false) else(a * b / c,true)
theorem FA (a b:Nat) (ha:bm a) (hb:bm b): ∃w p q r:Nat,a / 4294967296 * (b / 4294967296)=w∧a % 4294967296 * (b % 4294967296)=p∧a / 4294967296 * (b % 4294967296)=q∧a % 4294967296 * (b / 4294967296)=r∧w < 18446744065119617026∧p < 18446744065119617026∧q < 18446744065119617026∧r < 18446744065119617026∧a * b=w * 18446744073709551616 + (q + r) * 4294967296 + p∧a * b / 18446744073709551616 < 18446744073709551616:=by
 unfold bm at ha hb;have b1: ∀x y:Nat,x≤4294967295→y≤4294967295→x * y < 18446744065119617026:=fun x y hx hy=>by
  have:=Nat.mul_le_mul hx hy;omega
 refine⟨_,_,_,_,rfl,rfl,rfl,rfl,b1 _ _ om om,b1 _ _ om om,b1 _ _ om om,b1 _ _ om om,?_,?_⟩
 ·have e1:a=a / 4294967296 * 4294967296 + a % 4294967296:=om;have e2:b=b / 4294967296 * 4294967296 + b % 4294967296:=om;generalize a / 4294967296=x at *;generalize a % 4294967296=y at *;generalize b / 4294967296=u at *;generalize b % 4294967296=v at *;subst e1;subst e2;rw [Nat.add_mul,d₄,d₄,Nat.add_mul];have h1:x * 4294967296 * (u * 4294967296)=x * u * 18446744073709551616:=by rw [Nat.mul_mul_mul_comm]
  have h2:x * 4294967296 * v=x * v * 4294967296:=by rw [Nat.mul_right_comm]
  have h3:y * (u * 4294967296)=y * u * 4294967296:=by rw [Nat.mul_assoc]
  rw [h1,h2,h3];omega
 ·rw [b₆ om];have:=Nat.mul_le_mul (show a≤18446744073709551615 by omega) (show b≤18446744073709551615 by omega);omega
theorem Jc (a b:Nat) (ha:bm a) (hb:bm b):aE Tryz.prog G 206 [.int .u64 a, .int .u64 b] (.tup [.int .u64 (a * b / 18446744073709551616:Nat), .int .u64 (a * b % 18446744073709551616:Nat)]):=by
 obtain⟨w,p,q,r,hw,hp,hq,hr,bw,bp,bq,br,Kg,H6⟩:=FA a b ha hb;unfold bm at ha hb;have mk: ∀x y z:Nat,x * y=z→z < 18446744065119617026→IntKind.u64.wrap ((x:Int) * (y:Int))=(z:Int):=fun x y z h hz=>by
  rw [← Int.natCast_mul,h];exact bS _ om om
 have m1:=aX.mk (mk _ _ _ hw bw);have m2:=aX.mk (mk _ _ _ hp bp);have m3:=aX.mk (mk _ _ _ hq bq);have m4:=aX.mk (mk _ _ _ hr br);have s1:=aX.mk (iR a);have s2:=aX.mk (iR b);have s3:=aX.mk (iR p);have s4:=aX.mk (iR q);have s5:=aX.mk (iR r);have l1:=aX.mk (i6 (m:=a) ha);have l2:=aX.mk (i6 (m:=b) hb);have l3:=aX.mk (i6 (m:=p) om);have l4:=aX.mk (i6 (m:=q) om);have l5:=aX.mk (i6 (m:=r) om);clear hw hp hq hr mk;generalize a * b=n at *;subst Kg;have hm:p / 4294967296 + q % 4294967296 + r % 4294967296 < 18446744073709551616:=om;have a1:=aX.mk (show IntKind.u64.wrap (((p / 4294967296:Nat):Int) + ((q % 4294967296:Nat):Int))=((p / 4294967296 + q % 4294967296:Nat):Int) from bS _ om om);have a2:=aX.mk (show IntKind.u64.wrap (((p / 4294967296 + q % 4294967296:Nat):Int) + ((r % 4294967296:Nat):Int))=((p / 4294967296 + q % 4294967296 + r % 4294967296:Nat):Int) from bS _ om om);have s6:=aX.mk (iR (p / 4294967296 + q % 4294967296 + r % 4294967296));have s7:=aX.mk (Tw (p / 4294967296 + q % 4294967296 + r % 4294967296));have o1:=aX.mk (Tv (h:=(p / 4294967296 + q % 4294967296 + r % 4294967296) % 4294967296) (l:=p % 4294967296) om om);refine bA seat Tryz.func206 56 ?_;refine aa ?_;(iterate 4 ((all_goals(refine aa ?_));(all_goals(first | ((first | refine ag rfl rfl ?_ rfl ?_ | refine ad rfl ?_ ?_);all_goals(intro h;(try simp only [pl] at h);(try (exfalso;omega)))) | skip))));all_goals(refine au ?_)
 refine congrArg MV.tup ?_;refine d₃.2 ⟨congrArg (MV.int .u64) ?_,d₃.2 ⟨congrArg (MV.int .u64) ?_,rfl⟩⟩
 ·omega
 ·omega
theorem Wd (m:Nat):((m:Int).fdiv (2 ^ (min (63:Int).toNat IntKind.u64.bits)))=((m / 9223372036854775808:Nat):Int):=by
 rw [show min (63:Int).toNat IntKind.u64.bits=63 by rfl,b₇ _ (by decide)];exact(c₉ m 9223372036854775808).symm
theorem We (m:Nat) {i:Nat} (hi:i < 64):((m:Int).fdiv (2 ^ (min (i:Int).toNat IntKind.u64.bits)))=((m / 2 ^ i:Nat):Int):=by
 rw [show min (i:Int).toNat IntKind.u64.bits=i by rw [d₂];exact Nat.min_eq_left (Nat.le_of_lt hi),b₇ _ (by exact Int.le_of_lt (Int.pow_pos (by decide)))];rw [c₉,Int.natCast_pow];rfl
theorem ZL {m:Nat} (hm:m < 18446744073709551616):IntKind.u64.wrap ((BitVec.ofInt IntKind.u64.bits (m:Int) &&& BitVec.ofInt IntKind.u64.bits (1:Int)).toNat:Int)=((m % 2:Nat):Int):=by
 have e:=c₃ m 1;rw [BitVec.toNat_and,fQ _ _ (show m < 2 ^ IntKind.u64.bits from hm),show (1:Int)=((1:Nat):Int) by rfl,fQ _ _ (show 1 < 2 ^ IntKind.u64.bits by decide),show (1:Nat)=2 ^ 1 - 1 by rfl,e,wu64];omega
theorem Hk (m:Nat):IntKind.u64.wrap ((m:Int) * 2 ^ (min (1:Int).toNat IntKind.u64.bits))=((2 * m % 18446744073709551616:Nat):Int):=by
 rw [show min (1:Int).toNat IntKind.u64.bits=1 by rfl,wu64];omega
theorem LP {m b:Nat} (hm:m % 2=0) (hb:b < 2) (h:m < 18446744073709551616):IntKind.u64.wrap ((BitVec.ofInt IntKind.u64.bits (m:Int) ||| BitVec.ofInt IntKind.u64.bits (b:Int)).toNat:Int)=((m + b:Nat):Int):=by
 have e:m ||| b=m + b:=by
  have:=c₆ (i:=1) hb (m / 2);rw [d₅,show m / 2 * 2 ^ 1=m by omega] at this;exact this.symm
 rw [BitVec.toNat_or,fQ _ _ (show m < 2 ^ IntKind.u64.bits from h),fQ _ _ (show b < 2 ^ IntKind.u64.bits by show _ < 18446744073709551616;omega),e,wu64];omega
theorem Tx {m:Nat} (hm:m % 2=0) (h:m < 18446744073709551616):IntKind.u64.wrap ((BitVec.ofInt IntKind.u64.bits (m:Int) ||| BitVec.ofInt IntKind.u64.bits (1:Int)).toNat:Int)=((m + 1:Nat):Int):=LP (b:=1) hm om h
theorem Qj {N c i out rest bit:Nat} (hb:N / 2 ^ i % 2=bit) (h:N / 2 ^ (i + 1)=c * out + rest):N / 2 ^ i=c * (2 * out) + (2 * rest + bit):=by
 have e:N / 2 ^ (i + 1)=N / 2 ^ i / 2:=by rw [Nat.pow_succ,Nat.div_div_eq_div_mul]
 rw [e] at h;rw [show c * (2 * out)=2 * (c * out) by rw [Nat.mul_left_comm]];omega
theorem Qk (N:Nat) {i:Nat} (hi:i < 64):N % 18446744073709551616 / 2 ^ i % 2=N / 2 ^ i % 2:=by
 have h1:=Nat.testBit_mod_two_pow N 64 i;rw [c₁,c₁,decide_eq_true hi,Bool.true_and,decide_eq_decide] at h1;have e:(2:Nat) ^ 64=18446744073709551616:=by rfl
 rw [e] at h1;omega
theorem LR (a b c:Nat) (ha:bm a) (hb:bm b) (hc:bm c):aE Tryz.prog G 146 [.int .u64 a, .int .u64 b, .int .u64 c] (.tup [.int .u64 (fO a b c).1, .bool (fO a b c).2]):=by
 have c1:=Jc (G:=G) a b ha hb;obtain⟨_,_,_,_,_,_,_,_,_,_,_,_,_,H6⟩:=FA a b ha hb;unfold bm at ha hb hc;generalize hr:fO a b c=r;obtain⟨R,Oo⟩:=r;dsimp only;unfold fO at hr;have Kc:=fun i hi=>Qk (a * b) (i:=i) hi
 have eS:(a * b) % 18446744073709551616 < 18446744073709551616:=Nat.mod_lt _ om;by_cases h0:c=0∨c≤a * b / 18446744073709551616
 ·rw [if_pos h0] at hr;simp only [a₁] at hr;obtain⟨rfl,rfl⟩:=hr;generalize a * b / 18446744073709551616=hi at *;refine bA seat Tryz.func146 54 ?_;refine aa ?_;(iterate 6 ((all_goals(refine aa ?_));(all_goals(first | (refine ah rfl aA rfl (src (c1)) rfl rfl ?_) | ((first | refine ag rfl rfl ?_ rfl ?_ | refine ad rfl ?_ ?_);all_goals(intro h;(try simp only [pl] at h);(try (exfalso;omega)))) | skip))));all_goals(refine au ?_)
  all_goals rfl
 ·rw [if_neg h0] at hr;simp only [a₁] at hr;obtain⟨rfl,rfl⟩:=hr;have XP:a * b < 18446744073709551616 * c:=by rw [Nat.mul_comm 18446744073709551616 c];exact(b₆ om).1 om
  generalize a * b=N at *;generalize c0o:N / 18446744073709551616=hi at *;generalize N % 18446744073709551616=low at *;have Oy:N / 2 ^ 64=c * 0 + hi:=by rw [Nat.mul_zero,a₆];exact c0o
  have pW:0 < c:=om;refine bA seat Tryz.func146 54 ?_;refine aa ?_;(iterate 6 ((all_goals(refine aa ?_));(all_goals(first | (refine ah rfl aA rfl (src (c1)) rfl rfl ?_) | ((first | refine ag rfl rfl ?_ rfl ?_ | refine ad rfl ?_ ?_);all_goals(intro h;(try simp only [pl] at h);(try (exfalso;omega)))) | skip))));refine av (Nat×Nat×Nat) (fun x=> [(11, .int .i64 ((x.1:Int) - 1)),(10, .int .u64 x.2.2),(9, .int .u64 low),(8, .int .u64 x.2.1),(2, .int .u64 c)]) (fun _=> []) 0 (fun x=>x.1≤64∧x.2.1 < c∧N / 2 ^ x.1=c * x.2.2 + x.2.1) (fun x=>x.1) (64,hi,0) ⟨dm,dm,Oy⟩ (by dsimp only;exact(vm [] [])) ?_;rintro⟨j,rest,out⟩ ⟨hj,SK,hq⟩;try dsimp only
  dsimp only at hj SK hq;cases j with
  | zero=>
   rw [Nat.pow_zero,Nat.div_one] at hq;have sH:N / c=out:=by rw [hq,Nat.mul_add_div pW,Nat.div_eq_of_lt SK,Nat.add_zero]
   rw [sH];refine aa ?_;(iterate 4 ((all_goals(refine aa ?_));(all_goals(first | ((first | refine ag rfl rfl ?_ rfl ?_ | refine ad rfl ?_ ?_);all_goals(intro h;(try simp only [pl] at h);(try (exfalso;omega)))) | skip))));all_goals(refine au ?_)
   all_goals rfl
  | succ i=>
   have hi6:i < 64:=om;have zV:((i + 1:Nat):Int) - 1=(i:Int):=om;rw [zV];obtain⟨bit,RV⟩: ∃bit,bit=low / 2 ^ i % 2:=⟨_,rfl⟩
   have iY:bit < 2:=om;have oI:=Qj (bit:=bit) (by rw [RV];exact(Kc i hi6).symm) hq;have eP:low / 2 ^ i < 18446744073709551616:=Nat.lt_of_le_of_lt (d₈ _ _) eS;have e1:=aX.mk (Wd rest);have e2:=aX.mk (Hk rest);have e3:=aX.mk (We low hi6);have e4:=aX.mk (ZL eP);rw [← RV] at e4;have e5:=aX.mk (LP (m:=2 * rest % 18446744073709551616) om iY om);have e6:=aX.mk (Hk out);have iq: ∀o r,N / 2 ^ i=c * o + r→o < 18446744073709551616:=fun o r h=>by
    have h1:N / 2 ^ i≤N:=d₈ _ _;refine Nat.lt_of_mul_lt_mul_left (a:=c) ?_;rw [Nat.mul_comm c 18446744073709551616];omega
   have ho:=iq _ _ oI;by_cases Ko:c≤2 * rest + bit
   ·have h2:N / 2 ^ i=c * (2 * out + 1) + (2 * rest + bit - c):=by rw [oI,d₄,Nat.mul_one];omega
    have ho2:=iq _ _ h2;have e7:=aX.mk (show IntKind.u64.wrap (((2 * rest % 18446744073709551616 + bit:Nat):Int) - (c:Int))=((2 * rest + bit - c:Nat):Int) by rw [wu64];omega);have e8:=aX.mk (Tx (m:=2 * out % 18446744073709551616) om om);have e9:2 * out % 18446744073709551616 + 1=2 * out + 1:=om;rw [e9] at e8;have XT:2 * rest + bit - c < c:=om;clear Kc RV oI iq hq;generalize 2 * rest + bit - c=r2 at *;generalize 2 * out + 1=o2 at *;refine aa ?_;(iterate 6 ((all_goals(refine aa ?_));(all_goals(first | ((first | refine ag rfl rfl ?_ rfl ?_ | refine ad rfl ?_ ?_);all_goals(intro h;(try simp only [pl] at h);(try (exfalso;omega)))) | skip))));all_goals(exact⟨(i,r2,o2),⟨by dsimp only;omega,XT,h2⟩,by dsimp only;omega,(by dsimp only;exact(vm [] []))⟩)
   ·have e9:2 * out % 18446744073709551616=2 * out:=om;rw [e9] at e6;have Vj:2 * rest % 18446744073709551616 + bit=2 * rest + bit:=om;rw [Vj] at e5;clear Kc RV iq hq;refine aa ?_;(iterate 6 ((all_goals(refine aa ?_));(all_goals(first | ((first | refine ag rfl rfl ?_ rfl ?_ | refine ad rfl ?_ ?_);all_goals(intro h;(try simp only [pl] at h);(try (exfalso;omega)))) | skip))));all_goals(exact⟨(i,2 * rest + bit,2 * out),⟨by dsimp only;omega,by dsimp only;omega,oI⟩,by dsimp only;omega,(by dsimp only;exact(vm [] []))⟩)
def rK (fee gas:Nat):Nat:=if gas=0 then 0 else if (fO fee 1000 gas).2 then(fO fee 1000 gas).1 else 18446744073709551615
theorem Wf (l:List Nat) (hl:l.length≤1000000) (hs: ∀a∈l,bm a):aE Tryz.prog G 147 [.sl l.length (fZ l)] (.tup [.int .u64 (sumG l 0).1, .bool (sumG l 0).2]):=by
 generalize hr:sumG l 0=r;obtain⟨R,Oo⟩:=r;dsimp only;refine bA seat Tryz.func147 26 ?_;refine aa ?_;refine av (Nat×Nat) (fun x=> [(11, .int .i64 x.1),(10, .int .i64 l.length),(9, .sl l.length (fZ l)),(4, .int .u64 x.2)]) (fun _=> []) 0 (fun x=>x.1≤l.length∧bm x.2∧sumG (l.drop x.1) x.2=(R,Oo)) (fun x=>l.length - x.1) (0,0) ⟨a₃ _,by unfold bm;omega,by rw [b₁];exact hr⟩ (by dsimp only;exact(vm [] [])) ?_;rintro⟨k,s⟩ ⟨hk,Yz,hR⟩;try dsimp only
 dsimp only at hk Yz hR;refine aa ?_;refine ad rfl ?_ ?_ <;> intro h
 ·have aC:k < l.length:=by have:=ot h;omega
  have aH:=Hj aC;have hb:=hs _ (a₂ aC);rw [a₄ aC,sumG] at hR;generalize l[k] =a at *;have aH:=aj.mk aH;have c1:=Si (G:=G) s a Yz hb;have hU:= @w4 s a;generalize jA s a=p at *;obtain⟨v,b⟩:=p;dsimp only at c1 hR hU;cases b with
  | true=>
   rw [if_pos rfl] at hR;refine aa ?_;(iterate 6 ((all_goals(refine aa ?_));(all_goals(first | (refine ah rfl aA rfl (src (c1)) rfl rfl ?_) | ((first | refine ag rfl rfl ?_ rfl ?_ | refine ad rfl ?_ ?_);all_goals(intro h;(try simp only [pl] at h);(try (exfalso;omega)))) | skip))));exact⟨(k + 1,v),⟨by show k + 1≤l.length;omega,hU,hR⟩,by show l.length - (k + 1) < l.length - k;omega,(by dsimp only;exact(vm [] []))⟩
  | false=>
   rw [if_neg sm] at hR;simp only [a₁] at hR;obtain⟨rfl,rfl⟩:=hR;refine aa ?_;(iterate 6 ((all_goals(refine aa ?_));(all_goals(first | (refine ah rfl aA rfl (src (c1)) rfl rfl ?_) | ((first | refine ag rfl rfl ?_ rfl ?_ | refine ad rfl ?_ ?_);all_goals(intro h;(try simp only [pl] at h);(try (exfalso;omega)))) | skip))));all_goals(refine au ?_)
   all_goals rfl
 ·have aC:k=l.length:=by have:=oF h;omega
  subst aC;rw [a₈,sumG] at hR;simp only [a₁] at hR;obtain⟨rfl,rfl⟩:=hR;refine aa ?_;refine au ?_;rfl
theorem Ty (fee gas:Nat) (h1:bm fee) (h2:bm gas):aE Tryz.prog G 93 [.int .u64 fee, .int .u64 gas] (.int .u64 (rK fee gas)):=by
 have c1:=LR (G:=G) fee 1000 gas h1 (by unfold bm;omega) h2;unfold rK;generalize fO fee 1000 gas=p at *;obtain⟨v,b⟩:=p;dsimp only at c1 ⊢;by_cases hg:gas=0
 ·subst hg;rw [if_pos rfl];refine bA seat Tryz.func93 17 ?_;refine aa ?_;(iterate 6 ((all_goals(refine aa ?_));(all_goals(first | (refine ah rfl aA rfl (src (c1)) rfl rfl ?_) | ((first | refine ag rfl rfl ?_ rfl ?_ | refine ad rfl ?_ ?_);all_goals(intro h;(try simp only [pl] at h);(try (exfalso;omega)))) | skip))));all_goals(refine au ?_)
  all_goals rfl
 ·rw [if_neg hg];cases b with
  | true=>
   rw [if_pos rfl];refine bA seat Tryz.func93 17 ?_;refine aa ?_;(iterate 6 ((all_goals(refine aa ?_));(all_goals(first | (refine ah rfl aA rfl (src (c1)) rfl rfl ?_) | ((first | refine ag rfl rfl ?_ rfl ?_ | refine ad rfl ?_ ?_);all_goals(intro h;(try simp only [pl] at h);(try (exfalso;omega)))) | skip))));all_goals(refine au ?_)
   all_goals rfl
  | false=>
   rw [if_neg sm];refine bA seat Tryz.func93 17 ?_;refine aa ?_;(iterate 6 ((all_goals(refine aa ?_));(all_goals(first | (refine ah rfl aA rfl (src (c1)) rfl rfl ?_) | ((first | refine ag rfl rfl ?_ rfl ?_ | refine ad rfl ?_ ?_);all_goals(intro h;(try simp only [pl] at h);(try (exfalso;omega)))) | skip))));all_goals(refine au ?_)
   all_goals rfl
theorem Tz (a b:Nat) (ha:bm a) (hb:bm b):aE Tryz.prog G 145 [.int .u64 a, .int .u64 b] (.tup [.int .u64 (lG a b).1, .bool (lG a b).2]):=by
 have c1:=Wc (G:=G) a b ha hb;generalize lG a b=p at *;obtain⟨v,b⟩:=p;dsimp only at c1 ⊢;refine bA seat Tryz.func145 11 ?_;refine aa ?_;(iterate 6 ((all_goals(refine aa ?_));(all_goals(first | (refine ah rfl aA rfl (src (c1)) rfl rfl ?_) | ((first | refine ag rfl rfl ?_ rfl ?_ | refine ad rfl ?_ ?_);all_goals(intro h;(try simp only [pl] at h);(try (exfalso;omega)))) | skip))));all_goals(refine au ?_)
 all_goals rfl
theorem Jd (n:Nat) (hn:bm n):aE Tryz.prog G 236 [.int .u64 n] (.int .i64 (dr n).length):=by
 have c1:=CW (G:=G) [] n sm hn;rw [c₂,c₄,a₆] at c1;refine bA seat Tryz.func236 6 ?_;refine aa ?_;refine yc (c1) [] ?_;refine aa ?_;refine au ?_;rfl
def jH (n:Nat):Nat:=1 + (dr n).length + n
theorem Db {n:Nat} (h:bm n):jH n≤n + 11:=by
 have:=(dW h).2;unfold jH;omega
theorem AW (n:Nat) (hn:n < 4611686018427387904):aE Tryz.prog G 171 [.int .i64 n] (.int .i64 (jH n)):=by
 have c1:=Jd (G:=G) n (by unfold bm;omega);have h2:=(dW (n:=n) om).2;unfold jH;generalize (dr n).length=v at *;have hw:=aX.mk (show IntKind.u64.wrap (n:Int)=(n:Int) from bS _ om om);refine bA seat Tryz.func171 11 ?_;refine aa ?_;(iterate 6 ((all_goals(refine aa ?_));(all_goals(first | (refine ah rfl aA rfl (src (c1)) rfl rfl ?_) | ((first | refine ag rfl rfl ?_ rfl ?_ | refine ad rfl ?_ ?_);all_goals(intro h;(try simp only [pl] at h);(try (exfalso;omega)))) | skip))));all_goals(refine au ?_)
 all_goals(refine congrArg (MV.int .i64) ?_;omega)
theorem Dc (l:List Int) (n:Int) (hl:l.length < 1000000000):aE Tryz.prog G 256 [jm l, .int .i64 n] (.bool (decide (n∈l))):=by
 generalize hr:decide (n∈l)=R;unfold jm;refine bA seat Tryz.func256 17 ?_;refine aa ?_;refine av Nat (fun k=> [(9, .int .i64 k),(8, .int .i64 l.length),(7, .sl l.length (l.map (MV.int .i64))),(1, .int .i64 n)]) (fun _=> []) 0 (fun k=>k≤l.length∧decide (n∈l.drop k)=R) (fun k=>l.length - k) 0 ⟨a₃ _,by rw [b₁];exact hr⟩ (vm [] []) ?_;rintro k ⟨hk,hR⟩;try dsimp only
 refine aa ?_;refine ad rfl ?_ ?_ <;> intro h
 ·have aC:k < l.length:=by have:=ot h;omega
  have aH:=CO aC;rw [a₄ aC] at hR;generalize l[k] =a at *;have aH:=aj.mk aH;by_cases he:a=n
  ·subst he;have:R=true:=by rw [← hR];simp
   subst this;refine yu ?_;refine au ?_;rfl
  ·have Kh:decide (n∈l.drop (k + 1))=R:=by rw [← hR];simp [Ne.symm he]
   refine aa ?_;refine ad rfl ?_ ?_ <;> intro h
   ·exact absurd (eq_of_beq h) he
   ·refine aa ?_;exact⟨k + 1,⟨by show k + 1≤l.length;omega,Kh⟩,by show l.length - (k + 1) < l.length - k;omega,(by dsimp only;exact(vm [] []))⟩
 ·have aC:k=l.length:=by have:=oF h;omega
  subst aC;rw [a₈] at hR;have:R=false:=by rw [← hR];simp
  subst this;refine aa ?_;refine au ?_;rfl
def ee (l:List (List UInt8)):MV:= .sl l.length (l.map bo)
def FB:Option (List UInt8)→List bd→Nat
 | _,[] =>0
 | p,a :: r=>if eD a.name=false then 10 else match p with
  | none=>FB (some a.name) r
  | some q=>if q=a.name then 8 else if (!(Op.bytesLess q a.name || q == a.name))=true then 1 else FB (some a.name) r
theorem Hl (p:Option (List UInt8)):FB p [] =0:=by cases p <;> rfl
theorem rL (p:Option (List UInt8)) (a:bd) (r:List bd):FB p (a :: r)=if eD a.name=false then 10 else match p with
  | none=>FB (some a.name) r
  | some q=>if q=a.name then 8 else if (!(Op.bytesLess q a.name || q == a.name))=true then 1 else FB (some a.name) r:=by cases p <;> rfl
def mV (l:List bd):Nat→Option (List UInt8)
 | 0=>none
 | j + 1=>(l[j]?).map (·.name)
def gC (l:eh):Nat:=if 256 < l.acs.length then 3 else if FB none l.acs≠0 then FB none l.acs else if (totS l.acs l.col).2=false then 6 else 0
def fG (l:eh):Prop:=l.acs.length≤50000∧bm l.col∧∀a∈l.acs,SmAc a
theorem LS (L:eh) (hL:fG L):aE Tryz.prog G 90 [eo L] (.int .i64 (gC L)):=by
 obtain⟨l,col⟩:=L;obtain⟨hl,tV,eP⟩:=hL;dsimp only at hl tV eP;have ct:=Hi (G:=G) l col tV om (fun a ha=>(eP a ha).2.1);generalize hQ:gC ⟨l,col⟩=Q;unfold gC at hQ;dsimp only at hQ;unfold eo;dsimp only;by_cases hn:256 < l.length
 ·rw [if_pos hn] at hQ;subst hQ;refine bA seat Tryz.func90 59 ?_;refine aa ?_;(iterate 6 ((all_goals(refine aa ?_));(all_goals(first | ((first | refine ag rfl rfl ?_ rfl ?_ | refine ad rfl ?_ ?_);all_goals(intro h;(try simp only [pl] at h);(try (exfalso;omega)))) | skip))));all_goals(refine au ?_)
  all_goals rfl
 rw [if_neg hn] at hQ;generalize hv:FB none l=v at *;generalize totS l col=p at *;obtain⟨tot,ok⟩:=p;dsimp only at ct hQ;refine bA seat Tryz.func90 59 ?_;refine aa ?_;(iterate 3 ((all_goals(refine aa ?_));(all_goals(first | ((first | refine ag rfl rfl ?_ rfl ?_ | refine ad rfl ?_ ?_);all_goals(intro h;(try simp only [pl] at h);(try (exfalso;omega)))) | skip))));refine av Nat (fun k=> [(14, .int .i64 k),(13, .int .i64 l.length),(12, .sl l.length (l.map aV)),(1, .ptr 0 2 0 0 [])]) (fun _=> [(0,⟨33,2,false,0,[.st [.sl l.length (l.map aV), .int .u64 col]]⟩)]) 1 (fun k=>k≤l.length∧FB (mV l k) (l.drop k)=v) (fun k=>l.length - k) 0 ⟨a₃ _,by rw [b₁];exact hv⟩ (vm [(0,_)] []) ?_;clear hv;rintro k ⟨hk,hR⟩;try dsimp only
 refine aa ?_;refine ad rfl ?_ ?_ <;> intro h
 ·have aC:k < l.length:=by have:=ot h;omega
  have aH:=fN aC;have OH:mV l (k + 1)=some l[k].name:=by show(l[k]?).map _=_;simp [aC]
  have c1:=AR (G:=G) l[k].name (by have:=(eP _ (a₂ aC)).1;omega);rw [a₄ aC,rL] at hR;rw [← OH] at hR;have Gr:mV l (k + 1)=some l[k].name:=OH;rw [Gr] at hR;generalize hak:l[k] =a at *;obtain⟨nm,bal,seq⟩:=a;replace aH:bI (l.map aV) l.length (k:Int)=some (.st [.str nm, .int .u64 bal, .int .u64 seq]):=aH;have aH:=aj.mk aH;dsimp only at hR c1;by_cases oH:eD nm=false
  ·rw [oH] at c1;rw [if_pos oH] at hR;subst hR;rw [if_pos om] at hQ;subst hQ;refine aa ?_;(iterate 6 ((all_goals(refine aa ?_));(all_goals(first | (refine ah rfl aA rfl (src (c1)) rfl rfl ?_) | ((first | refine ag rfl rfl ?_ rfl ?_ | refine ad rfl ?_ ?_);all_goals(intro h;(try simp only [pl] at h);(try (exfalso;omega)))) | skip))));all_goals(refine au ?_)
   all_goals rfl
  rw [if_neg oH] at hR;have oH:eD nm=true:=by simpa using oH
  rw [oH] at c1;cases k with
  | zero=>
   dsimp only [mV] at hR;have hR:FB (mV l (0 + 1)) (l.drop (0 + 1))=v:=by rw [Gr];exact hR
   refine aa ?_;(iterate 3 ((all_goals(refine aa ?_));(all_goals(first | (refine ah rfl aA rfl (src (c1)) rfl rfl ?_) | ((first | refine ag rfl rfl ?_ rfl ?_ | refine ad rfl ?_ ?_);all_goals(intro h;(try simp only [pl] at h);(try (exfalso;omega)))) | skip))));refine al [ae 0,ae 1,ae 2,ae 3,ae 4,ae 5,ae 6,ae 7,ae 8,ae 9,ae 10,ae 11,ae 12,ae 13] ?_;refine aa ?_;refine al [ae 0,ae 1,ae 2,ae 3,ae 4,ae 5,ae 6,ae 7,ae 8,ae 9,ae 10,ae 11,ae 12,ae 13] ?_;refine aa ?_;exact⟨0 + 1,⟨by show 0 + 1≤l.length;omega,hR⟩,by show l.length - (0 + 1) < l.length - 0;omega,(by dsimp only;exact(vm [(0,_)] []))⟩
  | succ j=>
   have hj:j < l.length:=om;have Bs:=fN hj;have hpj:mV l (j + 1)=some l[j].name:=by show(l[j]?).map _=_;simp [hj]
   rw [hpj] at hR;generalize l[j] =b at *;obtain⟨nb,bb,sb⟩:=b;replace Bs:bI (l.map aV) l.length (((j + 1:Nat):Int) - 1)=some (.st [.str nb, .int .u64 bb, .int .u64 sb]):=by rw [show ((j + 1:Nat):Int) - 1=(j:Int) by omega];exact Bs
   have Bs:=aj.mk Bs;dsimp only at hR;refine aa ?_;(iterate 3 ((all_goals(refine aa ?_));(all_goals(first | (refine ah rfl aA rfl (src (c1)) rfl rfl ?_) | ((first | refine ag rfl rfl ?_ rfl ?_ | refine ad rfl ?_ ?_);all_goals(intro h;(try simp only [pl] at h);(try (exfalso;omega)))) | skip))));refine al [ae 0,ae 1,ae 2,ae 3,ae 4,ae 5,ae 6,ae 7,ae 8,ae 9,ae 10,ae 11,ae 12,ae 13] ?_;refine aa ?_;refine ez rfl rfl ?_ rfl ?_ <;> intro h
   rotate_left
   ·exact absurd (oF h) om
   by_cases hd:nb=nm
   ·subst hd;rw [if_pos rfl] at hR;subst hR;rw [if_pos om] at hQ;subst hQ;refine yu ?_;(iterate 4 ((all_goals(refine aa ?_));(all_goals(first | ((first | refine ag rfl rfl ?_ rfl ?_ | refine ad rfl ?_ ?_);all_goals(intro h;(try simp only [pl] at h);(try (exfalso;omega)))) | skip))));all_goals(refine au ?_)
    all_goals rfl
   rw [if_neg hd] at hR;refine aa ?_;refine ad rfl ?_ ?_ <;> intro h
   ·exact absurd (eq_of_beq h) hd
   refine aa ?_;refine al [ae 0,ae 1,ae 2,ae 3,ae 4,ae 5,ae 6,ae 7,ae 8,ae 9,ae 10,ae 11,ae 12,ae 13] ?_;refine aa ?_;refine ez rfl rfl ?_ rfl ?_ <;> intro h
   rotate_left
   ·exact absurd (oF h) om
   refine aa ?_;refine ad rfl ?_ ?_ <;> intro h
   ·rw [if_pos h] at hR;subst hR;rw [if_pos om] at hQ;subst hQ;refine aa ?_;refine au ?_;rfl
   ·rw [if_neg (by rw [h];simp)] at hR;refine aa ?_;exact⟨j + 1 + 1,⟨by show j + 1 + 1≤l.length;omega,by rw [Gr];exact hR⟩,by show l.length - (j + 1 + 1) < l.length - (j + 1);omega,(by dsimp only;exact(vm [(0,_)] []))⟩
 ·have aC:k=l.length:=by have:=oF h;omega
  subst aC;rw [a₈,Hl] at hR;subst hR;rw [if_neg sm] at hQ;cases ok with
  | true=>
   rw [if_neg sm] at hQ;subst hQ;refine aa ?_;(iterate 6 ((all_goals(refine aa ?_));(all_goals(first | (refine ah rfl aA rfl (src (ct)) rfl rfl ?_) | ((first | refine ag rfl rfl ?_ rfl ?_ | refine ad rfl ?_ ?_);all_goals(intro h;(try simp only [pl] at h);(try (exfalso;omega)))) | skip))));all_goals(refine au ?_)
   all_goals rfl
  | false=>
   rw [if_pos rfl] at hQ;subst hQ;refine aa ?_;(iterate 6 ((all_goals(refine aa ?_));(all_goals(first | (refine ah rfl aA rfl (src (ct)) rfl rfl ?_) | ((first | refine ag rfl rfl ?_ rfl ?_ | refine ad rfl ?_ ?_);all_goals(intro h;(try simp only [pl] at h);(try (exfalso;omega)))) | skip))));all_goals(refine au ?_)
   all_goals rfl
def jR:List bd→List bd→List bd×Nat
 | [],l=>(l,0)
 | a :: r,l=>if eD a.name=false then([],10) else if 0≤gm a.name l 0 then([],8) else jR r (gq a l)
def lg0:eh:=⟨[],0⟩
def kD (acs:List bd):eh×Nat:=if 256 < acs.length then(lg0,3) else if (jR acs []).2≠0 then(lg0,(jR acs []).2) else if (totS (jR acs []).1 0).2=false then(lg0,6) else(⟨(jR acs []).1,0⟩,0)
theorem w6 {a x:bd}: ∀{l:List bd},x∈rJ a l→x=a∨x∈l
 | [],h=>by rw [rJ] at h;simp at h;exact .inl h
 | b :: r,h=>by
  rw [rJ] at h
  split at h
  ·rcases c₀.1 h with rfl | h
   ·exact .inr sm
   ·rcases w6 h with h | h
    ·exact .inl h
    ·exact .inr (by simp [h])
  ·rcases c₀.1 h with rfl | h
   ·exact .inl rfl
   ·exact .inr h
theorem lH {a x:bd} {l:List bd} (h:x∈gq a l):x=a∨x∈l:=by
 unfold gq at h;split at h
 ·rcases List.mem_or_eq_of_mem_set h with h | h
  ·exact .inr h
  ·exact .inl h
 ·exact w6 h
def pB (a:bd):Prop:=a.name.length≤140737488355328∧bm a.bal∧bm a.seq
theorem SmAc.wd {a:bd} (h:SmAc a):pB a:=⟨by have:=h.1;omega,h.2⟩
theorem Je {s:List UInt8} (h:eD s=true):s.length≤20:=by
 unfold eD at h;rw [Bool.and_eq_true] at h;exact(ot h.2).2
theorem pB.sm {a:bd} (h:pB a) (hn:eD a.name=true):SmAc a:=⟨by have:=Je hn;omega,h.2⟩
theorem AX: ∀(r l:List bd),(∀a∈r,pB a)→(∀a∈l,SmAc a)→(∀a∈(jR r l).1,SmAc a)∧(jR r l).1.length≤l.length + r.length
 | [],l,_,h=>⟨h,by simp [jR]⟩
 | a :: r,l,h1,h2=>by
  rw [jR]
  split
  ·exact⟨sm,sm⟩
  ·rename_i oH
   split
   ·exact⟨sm,sm⟩
   ·have:=AX r (gq a l) (fun x hx=>h1 x (by simp [hx])) (fun x hx=>(lH hx).elim (fun e=>e▸(h1 a sm).sm (by simpa using oH)) (h2 x))
    have h3:=oa a l
    refine⟨this.1,?_⟩
    rw [d₀]
    omega
theorem w7 {acs:List bd} (h: ∀a∈acs,pB a):fG (kD acs).1:=by
 have h0:fG lg0:=⟨by simp [lg0],by simp [lg0,bm],by simp [lg0]⟩;have:=AX acs [] h sm;unfold kD;split
 ·exact h0
 split
 ·exact h0
 split
 ·exact h0
 ·refine⟨?_,by simp [bm],this.1⟩;have h2:=this.2;simp only [c₄] at h2;dsimp only;omega
theorem TA (l:List bd) (hl:l.length≤140737488355328) (eP: ∀a∈l,pB a):aT Tryz.prog G 47 [.sl l.length (l.map aV)] [] 0 (.tup [eo (kD l).1, .int .i64 (kD l).2]) [] 0:=by
 generalize hQ:kD l=Q;obtain⟨⟨Ql,Qc⟩,Qe⟩:=Q;unfold kD at hQ;unfold eo;dsimp only;by_cases hn:256 < l.length
 ·rw [if_pos hn] at hQ;simp only [lg0,a₁,eh.mk.injEq] at hQ;obtain⟨⟨rfl,rfl⟩,rfl⟩:=hQ;refine dK seat Tryz.func47 46 ?_;refine aa ?_;(iterate 4 ((all_goals(refine aa ?_));(all_goals(first | ((first | refine ag rfl rfl ?_ rfl ?_ | refine ad rfl ?_ ?_);all_goals(intro h;(try simp only [pl] at h);(try (exfalso;omega)))) | skip))));all_goals(refine au ?_;exact en [_,_])
 rw [if_neg hn] at hQ;have RT:=AX l [] eP sm;generalize hv:jR l [] =v at *;obtain⟨vl,ve⟩:=v;dsimp only at hQ RT;have SQ:vl.length≤256:=by have:=RT.2;simp only [c₄] at this;omega
 have ct:=Hi (G:=G) vl 0 (by unfold bm;omega) om (fun a ha=>(RT.1 a ha).2.1);clear RT;generalize totS vl 0=p at *;obtain⟨tot,ok⟩:=p;dsimp only at ct hQ;refine dK seat Tryz.func47 46 ?_;refine aa ?_;(iterate 3 ((all_goals(refine aa ?_));(all_goals(first | ((first | refine ag rfl rfl ?_ rfl ?_ | refine ad rfl ?_ ?_);all_goals(intro h;(try simp only [pl] at h);(try (exfalso;omega)))) | skip))));refine av (Nat×List bd) (fun x=> [(15, .int .i64 x.1),(14, .int .i64 l.length),(13, .sl l.length (l.map aV)),(4, .ptr 1 2 0 0 []),(2, .ptr 0 2 0 0 [])]) (fun x=> [(0,⟨33,2,false,0,[.st [.nils, .int .u64 0]]⟩),(1,⟨33,2,false,0,[.st [.sl x.2.length (x.2.map aV), .int .u64 0]]⟩)]) 2 (fun x=>x.1≤l.length∧x.2.length≤x.1∧(∀a∈x.2,SmAc a)∧jR (l.drop x.1) x.2=(vl,ve)) (fun x=>l.length - x.1) (0,[]) ⟨a₃ _,a₃ _,sm,by rw [b₁];exact hv⟩ (by dsimp only;exact(vm [(0,_),(1,_)] [])) ?_;clear hv;rintro⟨k,z⟩ ⟨hk,hz,Br,hR⟩;try dsimp only
 dsimp only at hk hz Br hR;refine aa ?_;refine ad rfl ?_ ?_ <;> intro h
 ·have aC:k < l.length:=by have:=ot h;omega
  have aH:=fN aC;have ng:=eP _ (a₂ aC);have c1:=AR (G:=G) l[k].name (by have:=ng.1;omega);have c2:=AU (G:=G) z l[k].name om;have c3:=LO (G:=G) l[k] z om;have jD:=oa l[k] z;have Yx:eD l[k].name=true→∀x∈gq l[k] z,SmAc x:=fun hn x hx=>(lH hx).elim (fun e=>e▸ng.sm hn) (Br x)
  rw [a₄ aC,jR] at hR;generalize gq l[k] z=z2 at *;generalize l[k] =a at *;obtain⟨nm,bal,seq⟩:=a;replace aH:bI (l.map aV) l.length (k:Int)=some (.st [.str nm, .int .u64 bal, .int .u64 seq]):=aH;have aH:=aj.mk aH;dsimp only at hR c1 c2 Yx;unfold aV at c3;dsimp only at c3;by_cases oH:eD nm=false
  ·rw [oH] at c1;rw [if_pos oH] at hR;simp only [a₁] at hR;obtain⟨rfl,rfl⟩:=hR;rw [if_pos om] at hQ;simp only [lg0,a₁,eh.mk.injEq] at hQ;obtain⟨⟨rfl,rfl⟩,rfl⟩:=hQ;refine aa ?_;(iterate 4 ((all_goals(refine aa ?_));(all_goals(first | (refine ah rfl aA rfl (src (c1)) rfl rfl ?_) | ((first | refine ag rfl rfl ?_ rfl ?_ | refine ad rfl ?_ ?_);all_goals(intro h;(try simp only [pl] at h);(try (exfalso;omega)))) | skip))));all_goals(refine au ?_;exact en [_,_])
  rw [if_neg oH] at hR;have oH:eD nm=true:=by simpa using oH
  rw [oH] at c1;generalize gm nm z 0=fi at *;by_cases hfi:0≤fi
  ·rw [if_pos hfi] at hR;simp only [a₁] at hR;obtain⟨rfl,rfl⟩:=hR;rw [if_pos om] at hQ;simp only [lg0,a₁,eh.mk.injEq] at hQ;obtain⟨⟨rfl,rfl⟩,rfl⟩:=hQ;refine aa ?_;(iterate 6 ((all_goals(refine aa ?_));(all_goals(first | (refine ah rfl aA rfl (src (c1)) rfl rfl ?_) | (refine ah rfl aA rfl (src (c2)) rfl rfl ?_) | ((first | refine ag rfl rfl ?_ rfl ?_ | refine ad rfl ?_ ?_);all_goals(intro h;(try simp only [pl] at h);(try (exfalso;omega)))) | skip))));all_goals(refine au ?_;exact en [_,_])
  rw [if_neg hfi] at hR;refine aa ?_;(iterate 7 ((all_goals(refine aa ?_));(all_goals(first | (refine ah rfl aA rfl (src (c1)) rfl rfl ?_) | (refine ah rfl aA rfl (src (c2)) rfl rfl ?_) | (refine ah rfl aA rfl (c3) rfl rfl ?_) | ((first | refine ag rfl rfl ?_ rfl ?_ | refine ad rfl ?_ ?_);all_goals(intro h;(try simp only [pl] at h);(try (exfalso;omega)))) | skip))));exact⟨(k + 1,z2),⟨by show k + 1≤l.length;omega,by show z2.length≤k + 1;omega,Yx oH,hR⟩,by show l.length - (k + 1) < l.length - k;omega,(by dsimp only;exact(vm [(0,_),(1,_)] []))⟩
 ·have aC:k=l.length:=by have:=oF h;omega
  subst aC;rw [a₈,jR] at hR;simp only [a₁] at hR;obtain⟨rfl,rfl⟩:=hR;rw [if_neg sm] at hQ;cases ok with
  | true=>
   rw [if_neg sm] at hQ;simp only [a₁,eh.mk.injEq] at hQ;obtain⟨⟨rfl,rfl⟩,rfl⟩:=hQ;refine aa ?_;(iterate 4 ((all_goals(refine aa ?_));(all_goals(first | (refine ah rfl aA rfl (src (ct)) rfl rfl ?_) | ((first | refine ag rfl rfl ?_ rfl ?_ | refine ad rfl ?_ ?_);all_goals(intro h;(try simp only [pl] at h);(try (exfalso;omega)))) | skip))));all_goals(refine au ?_;exact en [_,_])
  | false=>
   rw [if_pos rfl] at hQ;simp only [lg0,a₁,eh.mk.injEq] at hQ;obtain⟨⟨rfl,rfl⟩,rfl⟩:=hQ;refine aa ?_;(iterate 4 ((all_goals(refine aa ?_));(all_goals(first | (refine ah rfl aA rfl (src (ct)) rfl rfl ?_) | ((first | refine ag rfl rfl ?_ rfl ?_ | refine ad rfl ?_ ?_);all_goals(intro h;(try simp only [pl] at h);(try (exfalso;omega)))) | skip))));all_goals(refine au ?_;exact en [_,_])
def Jf (f:fq):MV:= .st [.int .i64 f.num, .int .i64 f.kind, .int .u64 f.val, .nils]
theorem ql {σ:Nat→Option Nat} {fz:Fz} {f:fq} (h:f.bytes= []):eZ σ fz (cj f) (Jf f):=by
 unfold cj Jf;rw [h];exact .inr ⟨_,rfl,⟨rfl,rfl⟩,⟨rfl,rfl⟩,⟨rfl,rfl⟩, .inr ⟨rfl,rfl⟩,trivial⟩
def IsF (v:MV) (f:fq):Prop:=v=cj f∨(v=Jf f∧f.bytes= [])
inductive Dd:List MV→List fq→Prop
 | nil:Dd [] []
 | cons {v:MV} {f:fq} {vs:List MV} {l:List fq} (h:IsF v f) (t:Dd vs l):Dd (v :: vs) (f :: l)
theorem Dd.get {vs:List MV} {l:List fq} (h:Dd vs l): ∀{k:Nat} (hk:k < l.length),∃v,vs[k]? =some v∧IsF v l[k] :=by
 induction h with
 | nil=>intro k hk;simp at hk
 | cons h t ih=>
  intro k hk;cases k with
  | zero=>exact ⟨_,rfl,h⟩
  | succ k=>simpa using ih (by simpa using hk)
theorem o7 (l:List fq) (vs:List MV) (tU:Dd vs l) (hl: ∀f∈l,jo f) (hm:(aG l).length < 200000000) (ni:l.length < 1000000):aT Tryz.prog G 119 [.sl l.length vs] [] 0 (.sl (aG l).length (u8s (aG l))) [] 0:=by
 refine dK seat Tryz.func119 20 ?_;refine aa ?_;refine av Nat (fun k=> [(8, .int .i64 k),(7, .int .i64 l.length),(6, .sl l.length vs),(3, .ms 0 1 0 (aG (l.take k)).length)]) (fun k=> [(0,⟨5,1,true,0,u8s (aG (l.take k))⟩)]) 1 (fun k=>k≤l.length) (fun k=>l.length - k) 0 (a₃ _) (by rw [b₂];exact(vm [] [])) ?_;intro k hk;try dsimp only
 refine aa ?_;refine ad rfl ?_ ?_ <;> intro h
 ·have aC:k < l.length:=by have:=ot h;omega
  have hs:=oX l aC;have hle:=oY l (k + 1);have Bx:=hl _ (a₂ aC);have hfb:=mC Bx;obtain⟨v,J4,J6⟩:=tU.get aC;have aH:bI vs l.length (k:Int)=some v:=dB aC J4;generalize l[k] =f at *;have hlen:(aG (l.take (k + 1))).length=(aG (l.take k)).length + (aZ f).length:=by rw [hs,a₇]
  have c1:=Hd (G:=G) (aG (l.take k)) f Bx om;rw [← hs] at c1;unfold kg at c1;generalize aG (l.take k)=p at *;obtain⟨num,kind,val,bytes⟩:=f;rcases J6 with rfl | ⟨rfl,J6⟩
  ·replace aH:bI vs l.length (k:Int)=some (.st [.int .i64 num, .int .i64 kind, .int .u64 val, .sl bytes.length (u8s bytes)]):=aH;have aH:=aj.mk aH;refine aa ?_;refine bF rfl aA rfl (c1) [] [(0,p.length)] ⟨rfl,mm,rfl,lm,mm⟩ rfl rfl ?_;refine aa ?_;exact⟨k + 1,by show k + 1≤l.length;omega,by show l.length - (k + 1) < l.length - k;omega,(by dsimp only;exact(vm [(0,_)] []))⟩
  ·replace aH:bI vs l.length (k:Int)=some (.st [.int .i64 num, .int .i64 kind, .int .u64 val, .nils]):=aH;have aH:=aj.mk aH;refine aa ?_;refine bF rfl aA rfl c1 [] [(0,p.length)] ⟨rfl,mm,rfl,⟨rv,ql J6,trivial⟩,mm⟩ rfl rfl ?_;refine aa ?_;exact⟨k + 1,by show k + 1≤l.length;omega,by show l.length - (k + 1) < l.length - k;omega,(by dsimp only;exact(vm [(0,_)] []))⟩
 ·have aC:k=l.length:=by have:=oF h;omega
  subst aC;rw [a₉];generalize aG l=p at *;refine aa ?_;refine⟨[_],[],[(0,p.length)],rfl,rfl,?_,rfl,⟨?_,trivial⟩,?_⟩
  ·exact⟨by show p.length≤(u8s p).length;simp [u8s],trivial⟩
  ·exact rv
  ·exact mm
theorem LV (l:List fq) (vs:List MV) (tU:Dd vs l) (hl: ∀f∈l,jo f) (hm:(aG l).length < 200000000) (ni:l.length < 1000000):aT Tryz.prog G 148 [.sl l.length vs] [] 0 (.sl (aG l).length (u8s (aG l))) [] 0:=by
 refine dK seat Tryz.func148 20 ?_;refine aa ?_;refine av Nat (fun k=> [(8, .int .i64 k),(7, .int .i64 l.length),(6, .sl l.length vs),(3, .ms 0 1 0 (aG (l.take k)).length)]) (fun k=> [(0,⟨5,1,true,0,u8s (aG (l.take k))⟩)]) 1 (fun k=>k≤l.length) (fun k=>l.length - k) 0 (a₃ _) (by rw [b₂];exact(vm [] [])) ?_;intro k hk;try dsimp only
 refine aa ?_;refine ad rfl ?_ ?_ <;> intro h
 ·have aC:k < l.length:=by have:=ot h;omega
  have hs:=oX l aC;have hle:=oY l (k + 1);have Bx:=hl _ (a₂ aC);have hfb:=mC Bx;obtain⟨v,J4,J6⟩:=tU.get aC;have aH:bI vs l.length (k:Int)=some v:=dB aC J4;generalize l[k] =f at *;have hlen:(aG (l.take (k + 1))).length=(aG (l.take k)).length + (aZ f).length:=by rw [hs,a₇]
  have c1:=nR (G:=G) (aG (l.take k)) f Bx om;rw [← hs] at c1;unfold kg at c1;generalize aG (l.take k)=p at *;obtain⟨num,kind,val,bytes⟩:=f;rcases J6 with rfl | ⟨rfl,J6⟩
  ·replace aH:bI vs l.length (k:Int)=some (.st [.int .i64 num, .int .i64 kind, .int .u64 val, .sl bytes.length (u8s bytes)]):=aH;have aH:=aj.mk aH;refine aa ?_;refine bF rfl aA rfl (c1) [] [(0,p.length)] ⟨rfl,mm,rfl,lm,mm⟩ rfl rfl ?_;refine aa ?_;exact⟨k + 1,by show k + 1≤l.length;omega,by show l.length - (k + 1) < l.length - k;omega,(by dsimp only;exact(vm [(0,_)] []))⟩
  ·replace aH:bI vs l.length (k:Int)=some (.st [.int .i64 num, .int .i64 kind, .int .u64 val, .nils]):=aH;have aH:=aj.mk aH;refine aa ?_;refine bF rfl aA rfl c1 [] [(0,p.length)] ⟨rfl,mm,rfl,⟨rv,ql J6,trivial⟩,mm⟩ rfl rfl ?_;refine aa ?_;exact⟨k + 1,by show k + 1≤l.length;omega,by show l.length - (k + 1) < l.length - k;omega,(by dsimp only;exact(vm [(0,_)] []))⟩
 ·have aC:k=l.length:=by have:=oF h;omega
  subst aC;rw [a₉];generalize aG l=p at *;refine aa ?_;refine⟨[_],[],[(0,p.length)],rfl,rfl,?_,rfl,⟨?_,trivial⟩,?_⟩
  ·exact⟨by show p.length≤(u8s p).length;simp [u8s],trivial⟩
  ·exact rv
  ·exact mm
def Vs (a:bd):List fq:= [⟨1,2,0,a.name⟩,⟨2,0,a.bal,[]⟩,⟨3,0,a.seq,[]⟩]
def gJ (a:bd):List UInt8:=aG (Vs a)
def pC (l:eh):List UInt8:=eL (l.acs.map gJ ++ [aG [⟨4,0,l.col,[]⟩]])
theorem oc {n v:Nat} (h1:1≤n) (h2:n≤536870911) (hv:bm v):jo ⟨n,0,v,[]⟩:=⟨h1,h2, .inl ⟨rfl,rfl,hv⟩⟩
theorem od {n:Nat} {b:List UInt8} (h1:1≤n) (h2:n≤536870911) (hb:b.length < 18446744073709551616):jo ⟨n,2,0,b⟩:=⟨h1,h2, .inr ⟨rfl,rfl,hb⟩⟩
theorem FC {a:bd} (h:SmAc a): ∀f∈Vs a,jo f∧f.bytes.length≤5000:=by
 intro f hf;unfold Vs at hf;simp only [c₀,d₆,or_false] at hf;rcases hf with rfl | rfl | rfl
 ·exact⟨od om om (by have:=h.1;omega),h.1⟩
 ·exact⟨oc om om h.2.1,sm⟩
 ·exact⟨oc om om h.2.2,sm⟩
theorem o8 {a:bd} (h:SmAc a):(gJ a).length≤15060:=by
 have h1:=fJ 5000 _ (FC h);have h2:(Vs a).length=3:=rfl;rw [h2] at h1;unfold gJ;omega
theorem FD {c:Nat} (h:bm c):(∀f∈ [(⟨4,0,c,[]⟩:fq)],jo f∧f.bytes.length≤0):=by
 intro f hf;rw [b₈.1 hf];exact⟨oc om om h,sm⟩
theorem Hm {c:Nat} (h:bm c):(aG [(⟨4,0,c,[]⟩:fq)]).length≤20:=fJ 0 _ (FD h)
theorem pS {l:List bd} {k:Nat} (hk:k < l.length):((l.take (k + 1)).map gJ).map bo=((l.take k).map gJ).map bo ++ [bo (gJ l[k])] :=by
 rw [b₃ hk,b₄,b₄];rfl
theorem LW (L:eh) (hL:fG L):aE Tryz.prog G 112 [eo L] (keyM (pC L)):=by
 obtain⟨l,col⟩:=L;obtain⟨hl,tV,eP⟩:=hL;dsimp only at hl tV eP;unfold pC eo;dsimp only;have sG:=Hm tV;have cm:=o7 (G:=G) [⟨4,0,col,[]⟩] [.st [.int .i64 4, .int .i64 0, .int .u64 col, .nils]] (.cons (.inr ⟨rfl,rfl⟩) .nil) (fun f hf=>(FD tV f hf).1) om sm;have cr:=u9 (G:=G) _ (l.map gJ ++ [aG [⟨4,0,col,[]⟩]]) (a₅ _) (by simp only [a₇,b₅,b₀];omega) (by
  intro b hb;rcases d₉.1 hb with hb | hb
  ·obtain⟨a,ha,rfl⟩:=c₅.1 hb;have:=o8 (eP a ha);omega
  ·rw [b₈.1 hb];omega)
 generalize aG [⟨4,0,col,[]⟩] =mc at *;have yE:(l.map gJ ++ [mc]).length=l.length + 1:=sm;generalize hz:l.map gJ ++ [mc] =Z at *;generalize eL Z=root at *;refine bA seat Tryz.func112 38 ?_;refine aa ?_;refine av Nat (fun k=> [(9, .int .i64 k),(8, .int .i64 l.length),(7, .sl l.length (l.map aV)),(3, .ms 2 1 0 k),(2, .ptr 1 32 0 0 []),(1, .ptr 0 2 0 0 [])]) (fun k=> [(0,⟨33,2,false,0,[.st [.sl l.length (l.map aV), .int .u64 col]]⟩),(1,⟨68,32,false,0,[keyM (b₉ 32 0)]⟩),(2,⟨41,1,true,0,((l.take k).map gJ).map bo⟩)]) 3 (fun k=>k≤l.length) (fun k=>l.length - k) 0 (a₃ _) (by rw [b₂];exact(vm [(0,_),(1,_)] [])) ?_;intro k hk;try dsimp only
 refine aa ?_;refine ad rfl ?_ ?_ <;> intro h
 ·have aC:k < l.length:=by have:=ot h;omega
  have aH:=fN aC;have ng:=eP _ (a₂ aC);have cW:=pS aC;have ni:(((l.take k).map gJ).map bo).length=k:=by simp;omega
  generalize l[k] =a at *;have xV:=o8 ng;have eG:=FC ng;have Zo:=ng.1;unfold gJ Vs at xV eG;have hlf:gJ a=aG [⟨1,2,0,a.name⟩,⟨2,0,a.bal,[]⟩,⟨3,0,a.seq,[]⟩] :=rfl;rw [hlf] at cW;obtain⟨nm,bal,seq⟩:=a;dsimp only at xV eG cW Zo;have c1:=o7 (G:=G) [⟨1,2,0,nm⟩,⟨2,0,bal,[]⟩,⟨3,0,seq,[]⟩] [.st [.int .i64 1, .int .i64 2, .int .u64 0, .sl nm.length (u8s nm)], .st [.int .i64 2, .int .i64 0, .int .u64 bal, .nils], .st [.int .i64 3, .int .i64 0, .int .u64 seq, .nils]] (.cons (.inl rfl) (.cons (.inr ⟨rfl,rfl⟩) (.cons (.inr ⟨rfl,rfl⟩) .nil))) (fun f hf=>(eG f hf).1) om sm;replace aH:bI (l.map aV) l.length (k:Int)=some (.st [.str nm, .int .u64 bal, .int .u64 seq]):=aH;have aH:=aj.mk aH;generalize aG [⟨1,2,0,nm⟩,⟨2,0,bal,[]⟩,⟨3,0,seq,[]⟩] =mk at *;clear eG;refine aa ?_;refine cX rfl aA rfl (c1) rfl [(19,3)] mm lm ?_;refine aa ?_;refine aO rfl rfl (by intro R hR;refine da hR ?_;(refine a₀ (a₅ _) ?_;refine⟨_,rfl,?_⟩;refine a₀ ⟨ni,ai (by kernel_rfl) pf⟩ ?_;refine⟨((l.take (k + 1)).map gJ).map bo,sv (by rw [cW];rfl),k + 1,sv pf,?_⟩);exact hR) rfl ?_;refine aa ?_;exact⟨k + 1,by show k + 1≤l.length;omega,by show l.length - (k + 1) < l.length - k;omega,(by dsimp only;exact(vm [(0,_),(1,_),(2,_)] []))⟩
 ·have aC:k=l.length:=by have:=oF h;omega
  subst aC;rw [a₉];refine aa ?_;refine cX rfl aA rfl (cm) rfl [(8,1)] mm lm ?_;refine aa ?_;refine aO rfl rfl (by intro R hR;refine da hR ?_;(refine a₀ (a₅ _) ?_;refine⟨_,rfl,?_⟩;refine a₀ ⟨sm,ai (by kernel_rfl) pf⟩ ?_;refine⟨Z.map bo,sv (by rw [← hz];simp;rfl),Z.length,sv pf,?_⟩);exact hR) rfl ?_;refine aa ?_;refine cX rfl aA rfl (src (cr)) rfl [(10,Z.length)] mm lm ?_;refine aa ?_;refine au ?_;rfl
theorem Hn (L:eh) (hL:fG L):aE Tryz.prog G 96 [eo L] (keyM (pC L)):=by
 obtain⟨l,col⟩:=L;obtain⟨hl,tV,eP⟩:=hL;dsimp only at hl tV eP;unfold pC eo;dsimp only;have sG:=Hm tV;have cm:=LV (G:=G) [⟨4,0,col,[]⟩] [.st [.int .i64 4, .int .i64 0, .int .u64 col, .nils]] (.cons (.inr ⟨rfl,rfl⟩) .nil) (fun f hf=>(FD tV f hf).1) om sm;have cr:=AO (G:=G) _ (l.map gJ ++ [aG [⟨4,0,col,[]⟩]]) (a₅ _) (by simp only [a₇,b₅,b₀];omega) (by
  intro b hb;rcases d₉.1 hb with hb | hb
  ·obtain⟨a,ha,rfl⟩:=c₅.1 hb;have:=o8 (eP a ha);omega
  ·rw [b₈.1 hb];omega)
 generalize aG [⟨4,0,col,[]⟩] =mc at *;have yE:(l.map gJ ++ [mc]).length=l.length + 1:=sm;generalize hz:l.map gJ ++ [mc] =Z at *;generalize eL Z=root at *;refine bA seat Tryz.func96 39 ?_;refine aa ?_;refine av Nat (fun k=> [(9, .int .i64 k),(8, .int .i64 l.length),(7, .sl l.length (l.map aV)),(3, .ms 2 1 0 k),(2, .ptr 1 32 0 0 []),(1, .ptr 0 2 0 0 [])]) (fun k=> [(0,⟨33,2,false,0,[.st [.sl l.length (l.map aV), .int .u64 col]]⟩),(1,⟨68,32,false,0,[keyM (b₉ 32 0)]⟩),(2,⟨41,1,true,0,((l.take k).map gJ).map bo⟩)]) 3 (fun k=>k≤l.length) (fun k=>l.length - k) 0 (a₃ _) (by rw [b₂];exact(vm [(0,_),(1,_)] [])) ?_;intro k hk;try dsimp only
 refine aa ?_;refine ad rfl ?_ ?_ <;> intro h
 ·have aC:k < l.length:=by have:=ot h;omega
  have aH:=fN aC;have ng:=eP _ (a₂ aC);have cW:=pS aC;have ni:(((l.take k).map gJ).map bo).length=k:=by simp;omega
  generalize l[k] =a at *;have xV:=o8 ng;have eG:=FC ng;have Zo:=ng.1;unfold gJ Vs at xV eG;have hlf:gJ a=aG [⟨1,2,0,a.name⟩,⟨2,0,a.bal,[]⟩,⟨3,0,a.seq,[]⟩] :=rfl;rw [hlf] at cW;obtain⟨nm,bal,seq⟩:=a;dsimp only at xV eG cW Zo;have c1:=LV (G:=G) [⟨1,2,0,nm⟩,⟨2,0,bal,[]⟩,⟨3,0,seq,[]⟩] [.st [.int .i64 1, .int .i64 2, .int .u64 0, .sl nm.length (u8s nm)], .st [.int .i64 2, .int .i64 0, .int .u64 bal, .nils], .st [.int .i64 3, .int .i64 0, .int .u64 seq, .nils]] (.cons (.inl rfl) (.cons (.inr ⟨rfl,rfl⟩) (.cons (.inr ⟨rfl,rfl⟩) .nil))) (fun f hf=>(eG f hf).1) om sm;replace aH:bI (l.map aV) l.length (k:Int)=some (.st [.str nm, .int .u64 bal, .int .u64 seq]):=aH;have aH:=aj.mk aH;generalize aG [⟨1,2,0,nm⟩,⟨2,0,bal,[]⟩,⟨3,0,seq,[]⟩] =mk at *;clear eG;refine aa ?_;refine cX rfl aA rfl (c1) rfl [(19,3)] mm lm ?_;refine aa ?_;refine aO rfl rfl (by intro R hR;refine da hR ?_;(refine a₀ (a₅ _) ?_;refine⟨_,rfl,?_⟩;refine a₀ ⟨ni,ai (by kernel_rfl) pf⟩ ?_;refine⟨((l.take (k + 1)).map gJ).map bo,sv (by rw [cW];rfl),k + 1,sv pf,?_⟩);exact hR) rfl ?_;refine aa ?_;exact⟨k + 1,by show k + 1≤l.length;omega,by show l.length - (k + 1) < l.length - k;omega,(by dsimp only;exact(vm [(0,_),(1,_),(2,_)] []))⟩
 ·have aC:k=l.length:=by have:=oF h;omega
  subst aC;rw [a₉];refine aa ?_;refine cX rfl aA rfl (cm) rfl [(8,1)] mm lm ?_;refine aa ?_;refine aO rfl rfl (by intro R hR;refine da hR ?_;(refine a₀ (a₅ _) ?_;refine⟨_,rfl,?_⟩;refine a₀ ⟨sm,ai (by kernel_rfl) pf⟩ ?_;refine⟨Z.map bo,sv (by rw [← hz];simp;rfl),Z.length,sv pf,?_⟩);exact hR) rfl ?_;refine aa ?_;refine cX rfl aA rfl (src (cr)) rfl [(10,Z.length)] mm lm ?_;refine aa ?_;refine au ?_;rfl
structure ga where
 code:Nat
 sender:List UInt8
 seq:Nat
 gas:Nat
 prio:Nat
 deriving DecidableEq
def fc (r:ga):MV:= .st [.int .i64 r.code, .str r.sender, .int .u64 r.seq, .int .u64 r.gas, .int .u64 r.prio]
def jI (r:ga):Prop:=r.code≤1000∧r.sender.length≤5000∧bm r.seq∧bm r.gas∧bm r.prio
def Vt (r:ga):List fq:= [⟨1,0,r.code,[]⟩,⟨2,0,r.gas,[]⟩]
def fR (r:ga):List UInt8:=aG (Vt r)
def mW (l:List ga):List UInt8:=eL (l.map fR)
theorem FE {l:List ga} {k:Nat} (hk:k < l.length):bI (l.map fc) l.length (k:Int)=some (fc l[k]):=dB hk (by simp [hk])
theorem FF {r:ga} (h:jI r): ∀f∈Vt r,jo f∧f.bytes.length≤0:=by
 intro f hf;unfold Vt at hf;simp only [c₀,d₆,or_false] at hf;have hc:bm r.code:=by have:=h.1;unfold bm;omega
 rcases hf with rfl | rfl
 ·exact⟨oc om om hc,sm⟩
 ·exact⟨oc om om h.2.2.2.1,sm⟩
theorem o9 {r:ga} (h:jI r):(fR r).length≤40:=by
 have h1:=fJ 0 _ (FF h);have h2:(Vt r).length=2:=rfl;rw [h2] at h1;unfold fR;omega
theorem pT {l:List ga} {k:Nat} (hk:k < l.length):((l.take (k + 1)).map fR).map bo=((l.take k).map fR).map bo ++ [bo (fR l[k])] :=by
 rw [b₃ hk,b₄,b₄];rfl
theorem LX (l:List ga) (hl:l.length≤50000) (eP: ∀r∈l,jI r):aE Tryz.prog G 113 [.sl l.length (l.map fc)] (keyM (mW l)):=by
 have cr:=u9 (G:=G) _ (l.map fR) (a₅ _) (by simp only [b₅];omega) (by
  intro b hb;obtain⟨a,ha,rfl⟩:=c₅.1 hb;have:=o9 (eP a ha);omega)
 have yE:(l.map fR).length=l.length:=sm;unfold mW;generalize eL (l.map fR)=root at *;refine bA seat Tryz.func113 27 ?_;refine aa ?_;refine av Nat (fun k=> [(8, .int .i64 k),(7, .int .i64 l.length),(6, .sl l.length (l.map fc)),(3, .ms 1 1 0 k),(2, .ptr 0 32 0 0 [])]) (fun k=> [(0,⟨68,32,false,0,[keyM (b₉ 32 0)]⟩),(1,⟨41,1,true,0,((l.take k).map fR).map bo⟩)]) 2 (fun k=>k≤l.length) (fun k=>l.length - k) 0 (a₃ _) (by rw [b₂];exact(vm [(0,_)] [])) ?_;intro k hk;try dsimp only
 refine aa ?_;refine ad rfl ?_ ?_ <;> intro h
 ·
  have aC:k < l.length:=by have:=ot h;omega
  have aH:=FE aC;have ng:=eP _ (a₂ aC);have cW:=pT aC;have ni:(((l.take k).map fR).map bo).length=k:=by simp;omega
  generalize l[k] =a at *;have xV:=o9 ng;have eG:=FF ng;unfold fR Vt at xV eG;have hlf:fR a=aG [⟨1,0,a.code,[]⟩,⟨2,0,a.gas,[]⟩] :=rfl;rw [hlf] at cW;obtain⟨code,snd,seq,gas,prio⟩:=a;obtain⟨h1,h2,h3,h4,h5⟩:=ng;dsimp only at xV eG cW h1 h2 h3 h4 h5;replace aH:bI (l.map fc) l.length (k:Int)=some (.st [.int .i64 code, .str snd, .int .u64 seq, .int .u64 gas, .int .u64 prio]):=aH;have aH:=aj.mk aH;have hw:=aX.mk (show IntKind.u64.wrap (code:Int)=(code:Int) from bS _ om om);have c1:=o7 (G:=G) [⟨1,0,code,[]⟩,⟨2,0,gas,[]⟩] [.st [.int .i64 1, .int .i64 0, .int .u64 code, .nils], .st [.int .i64 2, .int .i64 0, .int .u64 gas, .nils]] (.cons (.inr ⟨rfl,rfl⟩) (.cons (.inr ⟨rfl,rfl⟩) .nil)) (fun f hf=>(eG f hf).1) om sm;generalize aG [⟨1,0,code,[]⟩,⟨2,0,gas,[]⟩] =mk at *;clear eG;refine aa ?_;refine cX rfl aA rfl (c1) rfl [(15,2)] mm lm ?_;refine aa ?_;refine aO rfl rfl (by intro R hR;refine da hR ?_;(refine a₀ (a₅ _) ?_;refine⟨_,rfl,?_⟩;refine a₀ ⟨ni,ai (by kernel_rfl) pf⟩ ?_;refine⟨((l.take (k + 1)).map fR).map bo,sv (by rw [cW];rfl),k + 1,sv pf,?_⟩);exact hR) rfl ?_;refine aa ?_;exact⟨k + 1,by show k + 1≤l.length;omega,by show l.length - (k + 1) < l.length - k;omega,(by dsimp only;exact(vm [(0,_),(1,_)] []))⟩
 ·have aC:k=l.length:=by have:=oF h;omega
  subst aC;rw [a₉];generalize l.map fR=Z at *;rw [← yE];refine aa ?_;refine cX rfl aA rfl (src (cr)) rfl [(1,Z.length)] mm lm ?_;refine aa ?_;refine au ?_;rfl
theorem Ho (l:List ga) (hl:l.length≤50000) (eP: ∀r∈l,jI r):aE Tryz.prog G 98 [.sl l.length (l.map fc)] (keyM (mW l)):=by
 have cr:=AO (G:=G) _ (l.map fR) (a₅ _) (by simp only [b₅];omega) (by
  intro b hb;obtain⟨a,ha,rfl⟩:=c₅.1 hb;have:=o9 (eP a ha);omega)
 have yE:(l.map fR).length=l.length:=sm;unfold mW;generalize eL (l.map fR)=root at *;refine bA seat Tryz.func98 37 ?_;refine aa ?_;refine av Nat (fun k=> [(10, .int .i64 k),(9, .int .i64 l.length),(8, .sl l.length (l.map fc)),(3, .ms 1 1 0 k),(2, .ptr 0 32 0 0 [])]) (fun k=> [(0,⟨68,32,false,0,[keyM (b₉ 32 0)]⟩),(1,⟨41,1,true,0,((l.take k).map fR).map bo⟩)]) 2 (fun k=>k≤l.length) (fun k=>l.length - k) 0 (a₃ _) (by rw [b₂];exact(vm [(0,_)] [])) ?_;intro k hk;try dsimp only
 refine aa ?_;refine ad rfl ?_ ?_ <;> intro h
 ·
  have aC:k < l.length:=by have:=ot h;omega
  have aH:=FE aC;have ng:=eP _ (a₂ aC);have cW:=pT aC;have ni:(((l.take k).map fR).map bo).length=k:=by simp;omega
  generalize l[k] =a at *;have xV:=o9 ng;have eG:=FF ng;unfold fR Vt at xV eG;have hlf:fR a=aG [⟨1,0,a.code,[]⟩,⟨2,0,a.gas,[]⟩] :=rfl;rw [hlf] at cW;obtain⟨code,snd,seq,gas,prio⟩:=a;obtain⟨h1,h2,h3,h4,h5⟩:=ng;dsimp only at xV eG cW h1 h2 h3 h4 h5;replace aH:bI (l.map fc) l.length (k:Int)=some (.st [.int .i64 code, .str snd, .int .u64 seq, .int .u64 gas, .int .u64 prio]):=aH;have aH:=aj.mk aH;have hw:=aX.mk (show IntKind.u64.wrap (code:Int)=(code:Int) from bS _ om om);have c1:=nR (G:=G) [] ⟨1,0,code,[]⟩ (eG _ sm).1 sm;have c2:=nR (G:=G) ([] ++ aZ ⟨1,0,code,[]⟩) ⟨2,0,gas,[]⟩ (eG _ sm).1 (by have:=iQ (eG ⟨1,0,code,[]⟩ sm).1;simp at this ⊢;omega);have he:aG [⟨1,0,code,[]⟩,⟨2,0,gas,[]⟩] = [] ++ aZ ⟨1,0,code,[]⟩ ++ aZ ⟨2,0,gas,[]⟩:=by simp [aG]
  rw [he] at cW xV;unfold kg at c1 c2;generalize [] ++ aZ ⟨1,0,code,[]⟩ ++ aZ ⟨2,0,gas,[]⟩=mk at *;generalize [] ++ aZ ⟨1,0,code,[]⟩=m1 at *;clear eG he hlf;refine aa ?_;refine bF rfl aA rfl c1 [] [] ⟨rfl,trivial,rfl,⟨.inr ⟨rfl,rfl⟩,ql rfl,trivial⟩,trivial⟩ rfl rfl ?_;refine aa ?_;refine bF rfl aA rfl c2 [] [(11,m1.length)] ⟨rfl,mm,rfl,⟨rv,ql rfl,trivial⟩,trivial⟩ rfl rfl ?_;iterate 3 (refine Sd ?_)
  refine qg ([(28, .sl mk.length (u8s mk)),(10, .int .i64 k),(9, .int .i64 l.length),(8, .sl l.length (l.map fc)),(3, .ms 1 1 0 k),(2, .ptr 0 32 0 0 [])]) ([(0,⟨68,32,false,0,[keyM (b₉ 32 0)]⟩),(1,⟨41,1,true,0,((l.take k).map fR).map bo⟩)]) [(21,mk.length)] mm rfl mm mm ?_;refine aa ?_;refine aO rfl rfl (by intro R hR;refine da hR ?_;(refine a₀ (a₅ _) ?_;refine⟨_,rfl,?_⟩;refine a₀ ⟨ni,ai (by kernel_rfl) pf⟩ ?_;refine⟨((l.take (k + 1)).map fR).map bo,sv (by rw [cW];rfl),k + 1,sv pf,?_⟩);exact hR) rfl ?_;refine aa ?_;exact⟨k + 1,by show k + 1≤l.length;omega,by show l.length - (k + 1) < l.length - k;omega,(by dsimp only;exact(vm [(0,_),(1,_)] []))⟩
 ·have aC:k=l.length:=by have:=oF h;omega
  subst aC;rw [a₉];generalize l.map fR=Z at *;rw [← yE];refine aa ?_;refine cX rfl aA rfl (src (cr)) rfl [(1,Z.length)] mm lm ?_;refine aa ?_;refine au ?_;rfl
def fS (t:jX):Nat×Bool:=sumG (t.fee :: t.trs.map (·.amt)) 0
theorem De: ∀(l:List Nat) (s:Nat),bm s→bm (sumG l s).1
 | [],_,h=>h
 | x :: r,s,_=>by
  rw [sumG]
  split
  ·exact De r _ w4
  ·show(0:Nat) < _;omega
theorem tA (t:jX):bm (fS t).1:=De _ _ (by unfold bm;omega)
theorem zk (f:Nat) (l:List mF) {k:Nat} (hk:k < l.length):fZ (f :: (l.take (k + 1)).map (·.amt))=fZ (f :: (l.take k).map (·.amt)) ++ [.int .u64 (l[k].amt:Int)] :=by
 rw [b₃ hk,b₄,← List.cons_append];unfold fZ;rw [b₄];rfl
theorem LY (t:jX) (ht:jz t):aE Tryz.prog G 94 [pR t] (.tup [.int .u64 (fS t).1, .bool (fS t).2]):=by
 obtain⟨snd,seq,gas,fee,memo,trs⟩:=t;obtain⟨h1,h2,h3,h4,h5,h6,h7⟩:=ht;dsimp only at h1 h2 h3 h4 h5 h6 h7;have cs:=Wf (G:=G) (fee :: trs.map (·.amt)) (by simp;omega) (by
  intro a ha;rcases c₀.1 ha with rfl | ha
  ·exact h4
  ·obtain⟨x,hx,rfl⟩:=c₅.1 ha;exact(h7 x hx).2)
 unfold fS;dsimp only;generalize sumG (fee :: trs.map (·.amt)) 0=p at *;obtain⟨v,b⟩:=p;dsimp only at cs ⊢;unfold pR;dsimp only;have yE:(fee :: trs.map (·.amt)).length=trs.length + 1:=sm;refine bA seat Tryz.func94 27 ?_;refine aa ?_;refine av Nat (fun k=> [(13, .int .i64 k),(12, .int .i64 trs.length),(11, .sl trs.length (trs.map mU)),(4, .ms 0 1 0 (k + 1))]) (fun k=> [(0,⟨23,1,true,0,fZ (fee :: (trs.take k).map (·.amt))⟩)]) 1 (fun k=>k≤trs.length) (fun k=>trs.length - k) 0 (a₃ _) (by rw [b₂];exact(vm [(0,_)] [])) ?_;intro k hk;try dsimp only
 refine aa ?_;refine ad rfl ?_ ?_ <;> intro h
 ·have aC:k < trs.length:=by have:=ot h;omega
  have aH:=mH aC;have cW:=zk fee trs aC;have ni:(fZ (fee :: (trs.take k).map (·.amt))).length=k + 1:=by simp [fZ];omega
  generalize trs[k] =x at *;obtain⟨to_,amt⟩:=x;dsimp only at cW;replace aH:bI (trs.map mU) trs.length (k:Int)=some (.st [.str to_, .int .u64 amt]):=aH;have aH:=aj.mk aH;refine aa ?_;refine aO rfl rfl (by intro R hR;refine da hR ?_;(refine a₀ (a₅ _) ?_;refine⟨_,rfl,?_⟩;refine a₀ ⟨ni,ai (by kernel_rfl) pf⟩ ?_;refine⟨fZ (fee :: (trs.take (k + 1)).map (·.amt)),sv (by rw [cW];rfl),k + 1 + 1,sv pf,?_⟩);exact hR) rfl ?_;refine aa ?_;exact⟨k + 1,by show k + 1≤trs.length;omega,by show trs.length - (k + 1) < trs.length - k;omega,(by dsimp only;exact(vm [(0,_)] []))⟩
 ·have aC:k=trs.length:=by have:=oF h;omega
  subst aC;rw [a₉];generalize fee :: trs.map (·.amt)=Z at *;rw [← yE];refine aa ?_;refine cX rfl aA rfl (dL cs) rfl [(0,Z.length)] ⟨(by show Z.length≤(fZ Z).length;simp [fZ]),trivial⟩ lm ?_;refine aa ?_;refine au ?_;rfl
def mK (x:mF) (acs:List bd):bd:=if (bE acs x.to_).2 then(bE acs x.to_).1 else⟨x.to_,0,0⟩
def ik (acs:List bd) (x:mF):List bd:=gq ⟨(mK x acs).name,((mK x acs).bal + x.amt) % 18446744073709551616,(mK x acs).seq⟩ acs
def kx (l:eh) (t:jX) (sum:Nat):bd:=⟨(bE l.acs t.sender).1.name,((bE l.acs t.sender).1.bal + (18446744073709551616 - sum)) % 18446744073709551616,((bE l.acs t.sender).1.seq + 1) % 18446744073709551616⟩
def js (l:eh) (t:jX) (sum:Nat):eh:=⟨t.trs.foldl ik (gq (kx l t sum) l.acs),(l.col + t.fee) % 18446744073709551616⟩
theorem mod_u64 {n:Nat}:bm (n % 18446744073709551616):=Nat.mod_lt _ om
theorem pa {acs:List bd} {name:List UInt8} (h: ∀a∈acs,SmAc a):SmAc (bE acs name).1:=by
 unfold bE;split
 ·rename_i a ha;exact h a (List.mem_of_find?_eq_some ha)
 ·exact⟨by simp [ac0],by simp [ac0,bm],by simp [ac0,bm]⟩
theorem Hp {x:mF} {acs:List bd} (hx:nV x) (h: ∀a∈acs,SmAc a):SmAc (mK x acs):=by
 unfold mK;split
 ·exact pa h
 ·exact⟨hx.1,by simp [bm],by simp [bm]⟩
theorem AY {x:mF} {acs:List bd} (hx:nV x) (h: ∀a∈acs,SmAc a):(∀a∈ik acs x,SmAc a)∧(ik acs x).length≤acs.length + 1:=by
 have hb:=Hp hx h;exact⟨fun a ha=>(lH ha).elim (fun e=>e▸⟨hb.1,mod_u64,hb.2.2⟩) (h a),oa _ _⟩
theorem Hq: ∀(l:List mF) (acs:List bd),(∀x∈l,nV x)→(∀a∈acs,SmAc a)→(∀a∈l.foldl ik acs,SmAc a)∧(l.foldl ik acs).length≤acs.length + l.length
 | [],acs,_,h=>⟨h,sm⟩
 | x :: r,acs,hl,h=>by
  have h1:=AY (hl x sm) h
  have h2:=Hq r (ik acs x) (fun y hy=>hl y (by simp [hy])) h1.1
  exact⟨h2.1,by have:=h2.2;simp only [e₀,d₀];omega⟩
theorem Df {l:eh} {t:jX} {sum:Nat} (hl:fG l) (ht:jz t):(∀a∈(js l t sum).acs,SmAc a)∧(js l t sum).acs.length≤l.acs.length + 1 + t.trs.length∧bm (js l t sum).col:=by
 have ha:SmAc (kx l t sum):=⟨(pa hl.2.2).1,mod_u64,mod_u64⟩;have h1:=Hq t.trs (gq (kx l t sum) l.acs) ht.2.2.2.2.2.2 fun a h=>(lH h).elim (fun e=>e▸ha) (hl.2.2 a)
 have h2:=oa (kx l t sum) l.acs;exact⟨h1.1,by have:=h1.2;unfold js;dsimp only;omega,mod_u64⟩
theorem LZ (l:eh) (t:jX) (sum:Nat) (hl:fG l) (ht:jz t) (hs:bm sum):aT Tryz.prog G 95 [eo l,pR t, .int .u64 sum] [] 0 (eo (js l t sum)) [] 0:=by
 have hda:SmAc (kx l t sum):=⟨(pa hl.2.2).1,mod_u64,mod_u64⟩;have RM:SmAc (bE l.acs t.sender).1:=pa hl.2.2;obtain⟨acs,col⟩:=l;obtain⟨snd,seq,gas,fee,memo,trs⟩:=t;obtain⟨h1,h2,h3,h4,h5,h6,h7⟩:=ht;obtain⟨yz,nd,xL⟩:=hl;dsimp only at h1 h2 h3 h4 h5 h6 h7 yz nd xL RM;have c1:=Sj (G:=G) acs col snd om;have c2:=LO (G:=G) (kx ⟨acs,col⟩ ⟨snd,seq,gas,fee,memo,trs⟩ sum) acs om;have OI:=oa (kx ⟨acs,col⟩ ⟨snd,seq,gas,fee,memo,trs⟩ sum) acs;have NY: ∀a∈gq (kx ⟨acs,col⟩ ⟨snd,seq,gas,fee,memo,trs⟩ sum) acs,SmAc a:=fun a h=>(lH h).elim (fun e=>e▸hda) (xL a)
 unfold js;dsimp only;generalize gq (kx ⟨acs,col⟩ ⟨snd,seq,gas,fee,memo,trs⟩ sum) acs=z0 at *;unfold kx at c2;dsimp only at c2;generalize bE acs snd=g at *;obtain⟨⟨gn,gb,gs⟩,XG⟩:=g;obtain⟨yB,VN,XI⟩:=RM;unfold bm at VN XI nd h4 hs;dsimp only at c1 c2 yB VN XI;unfold aV at c1 c2;dsimp only at c1 c2;have e1:=aX.mk (show IntKind.u64.wrap ((gb:Int) - (sum:Int))=(((gb + (18446744073709551616 - sum)) % 18446744073709551616:Nat):Int) by rw [wu64];omega);have e2:=aX.mk (show IntKind.u64.wrap ((gs:Int) + 1)=(((gs + 1) % 18446744073709551616:Nat):Int) by rw [wu64];omega);have e3:=aX.mk (show IntKind.u64.wrap ((col:Int) + (fee:Int))=(((col + fee) % 18446744073709551616:Nat):Int) by rw [wu64];omega);generalize (gb + (18446744073709551616 - sum)) % 18446744073709551616=nb at *;generalize (gs + 1) % 18446744073709551616=ns at *;generalize (col + fee) % 18446744073709551616=nc at *;unfold eo pR;dsimp only;generalize hR:trs.foldl ik z0=R;refine dK seat Tryz.func95 71 ?_;refine aa ?_;(iterate 6 ((all_goals(refine aa ?_));(all_goals(first | (refine ah rfl aA rfl (src (c1)) rfl rfl ?_) | (refine ah rfl aA rfl (c2) rfl rfl ?_) | ((first | refine ag rfl rfl ?_ rfl ?_ | refine ad rfl ?_ ?_);all_goals(intro h;(try simp only [pl] at h);(try (exfalso;omega)))) | skip))));refine av (Nat×List bd) (fun x=> [(37, .int .i64 x.1),(36, .int .i64 trs.length),(35, .sl trs.length (trs.map mU)),(9, .sl x.2.length (x.2.map aV)),(6, .ptr 2 2 0 0 []),(4, .ptr 1 6 0 0 []),(3, .ptr 0 2 0 0 [])]) (fun x=> [(0,⟨33,2,false,0,[.st [.sl acs.length (acs.map aV), .int .u64 col]]⟩),(1,⟨98,6,false,0,[.st [.str snd, .int .u64 seq, .int .u64 gas, .int .u64 fee, .str memo, .sl trs.length (trs.map mU)]]⟩),(2,⟨33,2,false,0,[.st [.nils, .int .u64 0]]⟩)]) 3 (fun x=>x.1≤trs.length∧x.2.length≤acs.length + 1 + x.1∧(∀a∈x.2,SmAc a)∧(trs.drop x.1).foldl ik x.2=R) (fun x=>trs.length - x.1) (0,z0) ⟨a₃ _,dm,NY,by dsimp only;rw [b₁];exact hR⟩ (by dsimp only;exact(vm [(0,_),(1,_),(2,_)] [])) ?_;clear hR OI NY c1 c2;rintro⟨k,z⟩ ⟨hk,hz,Br,BG⟩;try dsimp only
 dsimp only at hk hz Br BG;refine aa ?_;refine ad rfl ?_ ?_ <;> intro h
 ·have aC:k < trs.length:=by have:=ot h;omega
  have aH:=mH aC;have hx:=h7 _ (a₂ aC);have pG:=AY hx Br;rw [a₄ aC,e₀] at BG;have c3:=AU (G:=G) z trs[k].to_ om;have c4:=LO (G:=G) ⟨(mK trs[k] z).name,((mK trs[k] z).bal + trs[k].amt) % 18446744073709551616,(mK trs[k] z).seq⟩ z om;have hpb:=Hp hx Br;have VR:=mI trs[k].to_ z 0;unfold ik at pG BG;have Ei:mK trs[k] z=if (bE z trs[k].to_).2 then(bE z trs[k].to_).1 else⟨trs[k].to_,0,0⟩:=rfl
  generalize gq ⟨(mK trs[k] z).name,((mK trs[k] z).bal + trs[k].amt) % 18446744073709551616,(mK trs[k] z).seq⟩ z=z2 at *;generalize mK trs[k] z=pb at *;generalize trs[k] =x at *;obtain⟨to_,amt⟩:=x;obtain⟨pn,RQ,a0b⟩:=pb;obtain⟨BB,yF⟩:=hx;obtain⟨i0u,YK,l0x⟩:=hpb;unfold bm at yF YK;dsimp only at c3 c4 VR Ei BB yF YK;unfold aV at c4;dsimp only at c4;replace aH:bI (trs.map mU) trs.length (k:Int)=some (.st [.str to_, .int .u64 amt]):=aH;have aH:=aj.mk aH;have e4:=aX.mk (show IntKind.u64.wrap ((RQ:Int) + (amt:Int))=(((RQ + amt) % 18446744073709551616:Nat):Int) by rw [wu64];omega);generalize N7:(RQ + amt) % 18446744073709551616=nb2 at *;rcases VR with ⟨f1,f2⟩ | ⟨j,a,f1,f2,f3⟩
  ·rw [f1] at c3;have hg:bE z to_=(ac0,false):=by unfold bE;rw [f2]
   rw [hg,if_neg sm] at Ei;simp only [bd.mk.injEq] at Ei;obtain⟨rfl,rfl,rfl⟩:=Ei;have e5:=aX.mk (show IntKind.u64.wrap ((0:Int) + (amt:Int))=(nb2:Int) by rw [wu64];omega);refine aa ?_;(iterate 8 ((all_goals(refine aa ?_));(all_goals(first | (refine ah rfl aA rfl (src (c3)) rfl rfl ?_) | (refine ah rfl aA rfl (c4) rfl rfl ?_) | ((first | refine ag rfl rfl ?_ rfl ?_ | refine ad rfl ?_ ?_);all_goals(intro h;(try simp only [pl] at h);(try (exfalso;omega)))) | skip))));exact⟨(k + 1,z2),⟨dm,dm,pG.1,BG⟩,dm,(by dsimp only;exact(vm [(0,_),(1,_),(2,_)] []))⟩
  ·rw [f1,a₆] at c3;have hg:bE z to_=(a,true):=by unfold bE;rw [f3]
   rw [hg,if_pos rfl] at Ei;dsimp only at Ei;obtain⟨hj,ha⟩:=c₇.1 f2;have Oc:=fN hj;rw [ha,← Ei] at Oc;replace Oc:bI (z.map aV) z.length (j:Int)=some (.st [.str pn, .int .u64 RQ, .int .u64 a0b]):=Oc;have Oc:=aj.mk Oc;clear f1 f2 f3 ha Ei;refine aa ?_;(iterate 8 ((all_goals(refine aa ?_));(all_goals(first | (refine ah rfl aA rfl (src (c3)) rfl rfl ?_) | (refine ah rfl aA rfl (c4) rfl rfl ?_) | ((first | refine ag rfl rfl ?_ rfl ?_ | refine ad rfl ?_ ?_);all_goals(intro h;(try simp only [pl] at h);(try (exfalso;omega)))) | skip))));exact⟨(k + 1,z2),⟨dm,dm,pG.1,BG⟩,dm,(by dsimp only;exact(vm [(0,_),(1,_),(2,_)] []))⟩
 ·have aC:k=trs.length:=by have:=oF h;omega
  subst aC;rw [a₈] at BG;have BG:z=R:=BG;subst BG;refine aa ?_;refine au ?_;refine⟨[_],[],[],rfl,rfl,trivial,rfl,⟨?_,trivial⟩,?_⟩
  ·exact .inl ⟨rfl,rfl⟩
  ·exact mm
def gL (l:eh) (price:Nat) (t:jX) (size:Nat):Nat:=
 if (bE l.acs t.sender).2=false then 13 else if (bE l.acs t.sender).1.seq≠t.seq then 14 else if t.seq=18446744073709551615 then 6 else if t.gas < n9 size t.trs.length then 15 else
 if (lG t.gas price).2=false then 6 else if t.fee < (lG t.gas price).1 then 16 else if (fS t).2=false then 6 else if (bE l.acs t.sender).1.bal < (fS t).1 then 17 else
 if 256 < (js l t (fS t).1).acs.length then 3 else 0
theorem Qm (l:eh) (price:Nat) (t:jX) (size:Nat) (hl:fG l) (ht:jz t) (hp:bm price) (hz:size≤1000000000):aE Tryz.prog G 92 [eo l, .int .u64 price,pR t, .int .i64 size] (.int .i64 (gL l price t size)):=by
 have cd:=LZ (G:=G) l t (fS t).1 hl ht (tA t);have cc:=LY (G:=G) t ht;have VL:=Df (sum:=(fS t).1) hl ht;generalize hr:gL l price t size=R;unfold gL at hr;generalize js l t (fS t).1=D at *;generalize fS t=cst at *;obtain⟨cv,cb⟩:=cst;obtain⟨acs,col⟩:=l;obtain⟨snd,seq,gas,fee,memo,trs⟩:=t;obtain⟨h1,h2,h3,h4,h5,h6,h7⟩:=ht;obtain⟨yz,nd,xL⟩:=hl;obtain⟨UM,UA⟩:=D;dsimp only at h1 h2 h3 h4 h5 h6 h7 yz nd xL VL hr cd cc;have c1:=Sj (G:=G) acs col snd om;have cu:=Tu (G:=G) (size:Int) (trs.length:Int) om om;have cn:=Tz (G:=G) gas price h3 hp;have hul:n9 (size:Int) (trs.length:Int) < 18446744073709551616:=by unfold n9 limS;omega
 generalize n9 (size:Int) (trs.length:Int)=us at *;generalize lG gas price=mu at *;obtain⟨mv,mb⟩:=mu;generalize bE acs snd=g at *;obtain⟨⟨gn,gb,gs⟩,XG⟩:=g;dsimp only at c1 cn hr VL;unfold aV at c1;unfold pR eo at *;dsimp only at *;cases XG with
 | false=>
  rw [if_pos rfl] at hr;refine bA seat Tryz.func92 79 ?_;refine aa ?_;refine dZ (c1) ?_;refine au ?_;refine congrArg (MV.int .i64) ?_;(repeat' split at hr) <;> omega
 | true=>
  rw [if_neg sm] at hr;refine bA seat Tryz.func92 79 ?_;refine aa ?_;refine dZ (c1) ?_;refine ad rfl ?_ ?_ <;> intro h
  ·have k0: ¬ (gs:Int)=(seq:Int):=by simpa using h
   have k1:gs≠seq:=om;refine aa ?_;refine au ?_;refine congrArg (MV.int .i64) ?_;(repeat' split at hr) <;> omega
  have k0:(gs:Int)=(seq:Int):=by simpa using h
  have k1:gs=seq:=om;refine aa ?_;refine ad rfl ?_ ?_ <;> intro h
  ·have k2:(seq:Int)=18446744073709551615:=by simpa using h
   refine aa ?_;refine au ?_;refine congrArg (MV.int .i64) ?_;(repeat' split at hr) <;> omega
  have k2: ¬ (seq:Int)=18446744073709551615:=by simpa using h
  refine aa ?_;refine al [ae 0,ae 1,ae 2,ae 3,ae 4,ae 5,dF 6,ae 7,ae 8] ?_;refine aa ?_;refine di (cu) ?_;refine ad rfl ?_ ?_ <;> intro h
  ·have k3:=ot h;refine aa ?_;refine au ?_;refine congrArg (MV.int .i64) ?_;(repeat' split at hr) <;> omega
  have k3:=oF h;refine aa ?_;refine dZ (cn) ?_;refine dZ (cc) ?_;cases mb with
  | false=>
   rw [if_neg om,if_neg om,if_neg om,if_pos rfl] at hr;refine aa ?_;refine au ?_;refine congrArg (MV.int .i64) ?_;(repeat' split at hr) <;> omega
  | true=>
   rw [if_neg om,if_neg om,if_neg om,if_neg sm] at hr;refine aa ?_;refine ad rfl ?_ ?_ <;> intro h
   ·have k4:=ot h;rw [if_pos om] at hr;refine aa ?_;refine au ?_;refine congrArg (MV.int .i64) ?_;(repeat' split at hr) <;> omega
   have k4:=oF h;rw [if_neg om] at hr;cases cb with
   | false=>
    rw [if_pos rfl] at hr;refine aa ?_;refine au ?_;refine congrArg (MV.int .i64) ?_;(repeat' split at hr) <;> omega
   | true=>
    rw [if_neg sm] at hr;refine aa ?_;refine ad rfl ?_ ?_ <;> intro h
    ·have k5:=ot h;refine aa ?_;refine au ?_;refine congrArg (MV.int .i64) ?_;(repeat' split at hr) <;> omega
    have k5:=oF h;refine aa ?_;refine jn (cd) ?_;refine ad rfl ?_ ?_ <;> intro h
    ·have k6:=ot h;refine aa ?_;refine au ?_;refine congrArg (MV.int .i64) ?_;(repeat' split at hr) <;> omega
    have k6:=oF h;refine aa ?_;refine au ?_;refine congrArg (MV.int .i64) ?_;(repeat' split at hr) <;> omega
def qx (l:eh) (price:Nat) (raw:List UInt8):eh×ga:=
 if gC l≠0 then(l,⟨1,[],0,0,0⟩) else if (aW raw).2≠0 then(l,⟨(aW raw).2,[],0,0,0⟩) else
 let t:=(aW raw).1
 let e:=gL l price t raw.length
 (if e≠0 then l else js l t (fS t).1,⟨e,t.sender,t.seq,t.gas,rK t.fee t.gas⟩)
theorem jS {raw:List UInt8}:jz (aW raw).1:=by
 unfold aW;split
 ·exact wY
 ·rename_i h;split
  ·exact wY
  ·split
   ·exact wY
   ·exact Sh om
theorem Hr {raw:List UInt8} (h:(aW raw).2=0):raw.length≤4096:=by
 unfold aW at h;split at h
 ·exact absurd h (by decide)
 ·omega
theorem Jg (l:eh) (price:Nat) (raw:List UInt8) (hl:fG l) (hp:bm price) (qu:raw.length≤140737488355328):aT Tryz.prog G 52 [eo l, .int .u64 price, .sl raw.length (u8s raw)] [] 0 (.tup [eo (qx l price raw).1,fc (qx l price raw).2]) [] 0:=by
 have cv:=LS (G:=G) l hl;have cd:=wZ (G:=G) raw qu;have eP:=jS (raw:=raw);have cc:=LY (G:=G) _ eP;have cf:=fun he:(aW raw).2=0=>Qm (G:=G) l price _ raw.length hl eP hp (by have:=Hr he;omega)
 have cp:=Ty (G:=G) (aW raw).1.fee (aW raw).1.gas eP.2.2.2.1 eP.2.2.1;have Xw:=LZ (G:=G) l _ (fS (aW raw).1).1 hl eP (tA _);generalize hr:qx l price raw=R;obtain⟨⟨Racs,Rcol⟩,⟨Rcode,Rsnd,Rseq,Rgas,Rprio⟩⟩:=R;unfold qx at hr;generalize aW raw=d at *;obtain⟨t,e⟩:=d;dsimp only at *;generalize gC l=vl at *;generalize fS t=cst at *;obtain⟨Ux,b0o⟩:=cst;dsimp only at *;generalize js l t Ux=D at *;generalize gL l price t raw.length=fe at *;obtain⟨snd,seq,gas,fee,memo,trs⟩:=t;dsimp only at *;generalize rK fee gas=pr at *;obtain⟨acs,col⟩:=l;obtain⟨UM,UA⟩:=D;obtain⟨h1,h2,h3,h4,h5,h6,h7⟩:=eP;obtain⟨yz,nd,xL⟩:=hl;dsimp only at h1 h2 h3 h4 h5 h6 h7 yz nd xL;unfold eo pR at *;unfold fc;dsimp only at *;by_cases hv:vl=0
 ·subst hv;rw [if_neg sm] at hr;by_cases he:e=0
  ·subst he;replace cf:=cf rfl;rw [if_neg sm] at hr;have xY:=hr;simp only [a₁,ga.mk.injEq] at xY;obtain⟨hD,rfl,rfl,rfl,rfl,rfl⟩:=xY;clear hr;refine dK seat Tryz.func52 61 ?_;refine aa ?_;refine dZ (cv) ?_;refine jn (cd) ?_;refine al [ae 0,ae 1,ae 2,ae 3,ae 4,dF 5,ae 6,ae 7,ae 8,ae 9,ae 10,ae 11,ae 12,ae 13,ae 14,ae 15,dF 16,ae 17,ae 18,ae 19] ?_;refine aa ?_;refine di (cf) ?_;refine di (cp) ?_;refine ad rfl ?_ ?_ <;> intro h
   ·have Ve:fe≠0:=fun e=>by subst e;simp at h
    rw [if_pos Ve] at hD;simp only [eh.mk.injEq] at hD;obtain⟨rfl,rfl⟩:=hD;refine aa ?_;refine al [ae 0,ae 1,ae 2,ae 3] ?_;refine aa ?_;refine au ?_;exact en [_,_]
   ·have Ve:fe=0:=by
     have: ¬ (fe:Int)≠0:=by simpa using h
     omega
    subst Ve;rw [if_neg sm] at hD;simp only [eh.mk.injEq] at hD;obtain⟨rfl,rfl⟩:=hD;refine aa ?_;refine dZ (cc) ?_;refine al [ae 0,ae 1,ae 2,dF 3,ae 4,ae 5,ae 6] ?_;refine aa ?_;refine tq (Xw) ?_;refine au ?_;exact en [_,_]
  ·rw [if_pos he] at hr;simp only [a₁,eh.mk.injEq,ga.mk.injEq] at hr;obtain⟨⟨rfl,rfl⟩,rfl,rfl,rfl,rfl,rfl⟩:=hr;refine dK seat Tryz.func52 61 ?_;refine aa ?_;refine dZ (cv) ?_;refine jn (cd) ?_;refine ad rfl ?_ ?_ <;> intro h
   ·refine aa ?_;refine au ?_;exact en [_,_]
   ·exfalso;have: ¬ (e:Int)≠0:=by simpa using h
    omega
 ·rw [if_pos hv] at hr;simp only [a₁,eh.mk.injEq,ga.mk.injEq] at hr;obtain⟨⟨rfl,rfl⟩,rfl,rfl,rfl,rfl,rfl⟩:=hr;refine dK seat Tryz.func52 61 ?_;refine aa ?_;refine dZ (cv) ?_;refine ad rfl ?_ ?_ <;> intro h
  ·refine aa ?_;refine au ?_;exact en [_,_]
  ·exfalso;have: ¬ (vl:Int)≠0:=by simpa using h
   omega
theorem Hs: ∀l:List mF,wV l≤100
 | [] =>by simp [wV]
 | x :: r=>by
  have:=Hs r
  unfold wV
  split
  ·omega
  ·split <;> omega
theorem Dg (t:jX):ef t≤100:=by
 have:=Hs t.trs;unfold ef;(repeat' split) <;> omega
theorem AZ (raw:List UInt8):(aW raw).2≤100:=by
 unfold aW;split
 ·simp
 ·split
  ·simp
  ·split
   ·exact Dg _
   ·simp
theorem Jh (l:eh) (p:Nat) (t:jX) (n:Nat):gL l p t n≤100:=by
 unfold gL;(repeat' split) <;> omega
theorem L0 {l:eh} {p:Nat} {t:jX} {n:Nat} (h:gL l p t n=0):(js l t (fS t).1).acs.length≤256:=by
 unfold gL at h;(repeat' split at h) <;> omega
theorem Ji {f g:Nat} (hf:bm f):bm (rK f g):=by
 unfold rK fO bm at *;split
 ·omega
 ·rename_i hg;by_cases hc:g=0∨g≤f * 1000 / 18446744073709551616
  ·simp [hc]
  ·simp only [hc,if_false,if_true]
   show f * 1000 / g < _
   rw [b₆ om];have:f * 1000 < g * 18446744073709551616:=(b₆ om).1 om;omega
theorem kW {l:eh} {p:Nat} {raw:List UInt8} (hl:fG l):fG (qx l p raw).1∧jI (qx l p raw).2:=by
 have hd:=jS (raw:=raw);have h1:=AZ raw;have h2:=Jh l p (aW raw).1 raw.length;have hz: ∀c,c≤100→jI ⟨c,[],0,0,0⟩:=fun c hc=>⟨dm,sm,by simp [bm],by simp [bm],by simp [bm]⟩
 unfold qx;split
 ·exact⟨hl,hz 1 om⟩
 ·split
  ·exact⟨hl,hz _ h1⟩
  ·refine⟨?_,dm,hd.1,hd.2.1,hd.2.2.1,Ji hd.2.2.2.1⟩;dsimp only;split
   ·exact hl
   ·rename_i h3;have h4:=L0 (Decidable.not_not.1 h3);have h5:=Df (sum:=(fS (aW raw).1).1) hl hd;exact⟨om,h5.2.2,h5.1⟩
def jt (p:Nat):List (List UInt8)→eh→List ga→eh×List ga
 | [],l,out=>(l,out)
 | raw :: r,l,out=>jt p r (qx l p raw).1 (out ++ [(qx l p raw).2])
theorem Ht (p:Nat): ∀(r:List (List UInt8)) (l:eh) (out:List ga),fG l→(∀x∈out,jI x)→fG (jt p r l out).1∧(∀x∈(jt p r l out).2,jI x)∧(jt p r l out).2.length=out.length + r.length
 | [],l,out,h1,h2=>⟨h1,h2,rfl⟩
 | raw :: r,l,out,h1,h2=>by
  have h3:=kW (p:=p) (raw:=raw) h1
  have:=Ht p r (qx l p raw).1 (out ++ [(qx l p raw).2]) h3.1 (fa h2 fun x hx=>by rw [b₈.1 hx];exact h3.2)
  refine⟨this.1,this.2.1,?_⟩
  have h4:=this.2.2
  rw [jt,h4,a₇,b₀,d₀]
  omega
theorem Wg (l:eh) (p:Nat) (raws:List (List UInt8)) (hl:fG l) (hp:bm p) (hn:raws.length≤1000000) (hb: ∀b∈raws,b.length≤140737488355328):aT Tryz.prog G 55 [eo l, .int .u64 p,ee raws] [] 0 (.tup [eo (jt p raws l []).1, .sl (jt p raws l []).2.length ((jt p raws l []).2.map fc)]) [] 0:=by
 generalize hr:jt p raws l [] =R;obtain⟨⟨Racs,Rcol⟩,Rout⟩:=R;obtain⟨Og,NZ⟩:=l;unfold ee eo;dsimp only;refine dK seat Tryz.func55 34 ?_;refine aa ?_;refine av (Nat×eh×List ga) (fun x=> [(15, .int .i64 x.1),(14, .int .i64 raws.length),(13, .sl raws.length (raws.map bo)),(8, .ms 2 5 0 x.2.2.length),(6, .ptr 1 2 0 0 []),(3, .ptr 0 2 0 0 []),(1, .int .u64 p)]) (fun x=> [(0,⟨33,2,false,0,[.st [.sl x.2.1.acs.length (x.2.1.acs.map aV), .int .u64 x.2.1.col]]⟩),(1,⟨33,2,false,0,[.st [.nils, .int .u64 0]]⟩),(2,⟨48,5,true,0,x.2.2.map fc⟩)]) 3 (fun x=>x.1≤raws.length∧x.2.2.length=x.1∧fG x.2.1∧jt p (raws.drop x.1) x.2.1 x.2.2=(⟨Racs,Rcol⟩,Rout)) (fun x=>raws.length - x.1) (0,⟨Og,NZ⟩,[]) ⟨a₃ _,rfl,hl,by dsimp only;rw [b₁];exact hr⟩ (by dsimp only;exact(vm [(0,_),(1,_)] [])) ?_;clear hr hl;rintro⟨k,⟨acs,col⟩,out⟩ ⟨hk,sH,Bv,hR⟩;try dsimp only
 dsimp only at hk sH hR;refine aa ?_;refine ad rfl ?_ ?_ <;> intro h
 ·have aC:k < raws.length:=by have:=ot h;omega
  have aH:=iC aC;have kS:=hb _ (a₂ aC);rw [a₄ aC,jt] at hR;generalize raws[k] =raw at *;replace aH:bI (raws.map bo) raws.length (k:Int)=some (.sl raw.length (u8s raw)):=aH;have aH:=aj.mk aH;have c1:=Jg (G:=G) ⟨acs,col⟩ p raw Bv hp kS;have jc:=kW (p:=p) (raw:=raw) Bv;generalize qx ⟨acs,col⟩ p raw=y at *;obtain⟨⟨mQ,qt⟩,⟨ec,R4,RC,RJ,RD⟩⟩:=y;unfold eo fc at c1;dsimp only at c1 hR jc;refine aa ?_;refine jn (c1) ?_;refine aO rfl rfl (by intro R hR;refine da hR ?_;(refine a₀ (a₅ _) ?_;refine⟨_,rfl,?_⟩;refine a₀ ⟨sm,ai (by kernel_rfl) pf⟩ ?_;refine⟨(out ++ [(⟨ec,R4,RC,RJ,RD⟩:ga)]).map fc,sv (by simp;rfl),out.length + 1,sv pf,?_⟩);exact hR) rfl ?_;refine aa ?_;exact⟨(k + 1,⟨mQ,qt⟩,out ++ [⟨ec,R4,RC,RJ,RD⟩]),⟨dm,by dsimp only;rw [a₇,b₀];omega,jc.1,hR⟩,dm,(by dsimp only;rw [a₇,b₀];exact(vm [(0,_),(1,_),(2,_)] []))⟩
 ·have aC:k=raws.length:=by have:=oF h;omega
  subst aC;rw [a₈,jt] at hR;simp only [a₁,eh.mk.injEq] at hR;obtain⟨⟨rfl,rfl⟩,rfl⟩:=hR;refine aa ?_;refine au ?_;refine⟨[_,_],[],[(2,out.length)],rfl,rfl,?_,rfl,⟨?_,?_,trivial⟩,?_⟩
  ·exact⟨by show out.length≤(out.map fc).length;simp,trivial⟩
  ·exact .inl ⟨rfl,rfl⟩
  ·exact .inr ⟨rfl,rfl,rfl,c₈ (a₆ _),bc fc out⟩
  ·exact mm
def gD (p:Nat):List (List UInt8)→Nat→eh→eh×Nat×Nat
 | [],_,l=>(l,0,0)
 | raw :: r,i,l=>if (qx l p raw).2.code≠0 then(lg0,i,(qx l p raw).2.code) else gD p r (i + 1) (qx l p raw).1
theorem L3 (l:eh) (p:Nat) (raws:List (List UInt8)) (hl:fG l) (hp:bm p) (hn:raws.length≤1000000) (hb: ∀b∈raws,b.length≤140737488355328):aT Tryz.prog G 57 [eo l, .int .u64 p,ee raws] [] 0 (.tup [eo (gD p raws 0 l).1, .int .i64 (gD p raws 0 l).2.1, .int .i64 (gD p raws 0 l).2.2]) [] 0:=by
 generalize hr:gD p raws 0 l=R;obtain⟨⟨Racs,Rcol⟩,Rat,Re⟩:=R;obtain⟨Og,NZ⟩:=l;unfold ee eo;dsimp only;refine dK seat Tryz.func57 37 ?_;refine aa ?_;refine av (Nat×eh) (fun x=> [(15, .int .i64 x.1),(14, .int .i64 raws.length),(13, .sl raws.length (raws.map bo)),(6, .ptr 1 2 0 0 []),(3, .ptr 0 2 0 0 []),(1, .int .u64 p)]) (fun x=> [(0,⟨33,2,false,0,[.st [.sl x.2.acs.length (x.2.acs.map aV), .int .u64 x.2.col]]⟩),(1,⟨33,2,false,0,[.st [.nils, .int .u64 0]]⟩)]) 2 (fun x=>x.1≤raws.length∧fG x.2∧gD p (raws.drop x.1) x.1 x.2=(⟨Racs,Rcol⟩,Rat,Re)) (fun x=>raws.length - x.1) (0,⟨Og,NZ⟩) ⟨a₃ _,hl,by dsimp only;rw [b₁];exact hr⟩ (by dsimp only;exact(vm [(0,_),(1,_)] [])) ?_;clear hr hl;rintro⟨k,⟨acs,col⟩⟩ ⟨hk,Bv,hR⟩;try dsimp only
 dsimp only at hk hR;refine aa ?_;refine ad rfl ?_ ?_ <;> intro h
 ·have aC:k < raws.length:=by have:=ot h;omega
  have aH:=iC aC;have kS:=hb _ (a₂ aC);rw [a₄ aC,gD] at hR;generalize raws[k] =raw at *;replace aH:bI (raws.map bo) raws.length (k:Int)=some (.sl raw.length (u8s raw)):=aH;have aH:=aj.mk aH;have c1:=Jg (G:=G) ⟨acs,col⟩ p raw Bv hp kS;have jc:=kW (p:=p) (raw:=raw) Bv;generalize qx ⟨acs,col⟩ p raw=y at *;obtain⟨⟨mQ,qt⟩,⟨ec,R4,RC,RJ,RD⟩⟩:=y;unfold eo fc at c1;dsimp only at c1 hR jc;refine aa ?_;refine jn (c1) ?_;refine ad rfl ?_ ?_ <;> intro h
  ·have he:ec≠0:=fun e=>by subst e;simp at h
   rw [if_pos he] at hR;simp only [lg0,a₁,eh.mk.injEq] at hR;obtain⟨⟨rfl,rfl⟩,rfl,rfl⟩:=hR;refine aa ?_;refine al [ae 0,ae 1,ae 2,ae 3,ae 4,ae 5,ae 6] ?_;refine aa ?_;refine au ?_;exact en [_,_,_]
  ·have he:ec=0:=by
    have: ¬ (ec:Int)≠0:=by simpa using h
    omega
   rw [if_neg (by simp [he])] at hR;refine aa ?_;exact⟨(k + 1,⟨mQ,qt⟩),⟨dm,jc.1,hR⟩,dm,(by dsimp only;exact(vm [(0,_),(1,_)] []))⟩
 ·have aC:k=raws.length:=by have:=oF h;omega
  subst aC;rw [a₈,gD] at hR;simp only [a₁,eh.mk.injEq] at hR;obtain⟨⟨rfl,rfl⟩,rfl,rfl⟩:=hR;refine aa ?_;refine au ?_;refine⟨[_,_,_],[],[],rfl,rfl,trivial,rfl,⟨?_,?_,?_,trivial⟩,?_⟩
  ·exact .inl ⟨rfl,rfl⟩
  ·exact rv
  ·exact rv
  ·exact mm
end
section
open Go.ChangeShapes Go.WideShapes Go.ChangeAt Go.RowKit
def fStr (m:MV):Prop:= ∃s,m= .str s∧s.length≤140737488355328
def fU64 (m:MV):Prop:= ∃n,m= .int .u64 n∧(Lit.int .u64 n).wf=true
def Qn:List (Nat×(MV→Prop)):= [(1,fStr),(1,fU64),(1,fU64)]
def YT (m:MV):Prop:= ∃l,m= .st l∧AF Qn l
theorem dX {P:Program} {o n:Nat} {Q:MV→Prop} {f:Field} {fs:List Field} {qs:List (Nat×(MV→Prop))} (h1:f.offset=o) (h2:Opn P f.type n Q) (h3:CE P (o + n) fs qs):CE P o (f :: fs) ((n,Q) :: qs):=⟨h1,h2,h3⟩
theorem TB:Opn Tryz.prog 91 3 YT:=by
 refine Opn.struct (P:=Tryz.prog) (qs:=Qn) Tryz.underlying91 (by kernel_rfl) ?_;unfold Qn;refine dX rfl (Opn.str Tryz.underlying9 (by kernel_rfl)) ?_;refine dX rfl (Opn.int Tryz.underlying23 (by kernel_rfl)) ?_;refine dX rfl (Opn.int Tryz.underlying23 (by kernel_rfl)) ?_;exact trivial
theorem L4:Opn Tryz.prog 22 1 fun m=> ∃l,m= .sl l.length l∧(∀x∈l,YT x)∧l.length≤140737488355328:=Opn.slice Tryz.underlying22 (by kernel_rfl) (Nat.le_of_ble_eq_true (by kernel_rfl)) om TB
theorem w9 {m:MV} (h:fU64 m): ∃n:Nat,m= .int .u64 n∧bm n:=by
 obtain⟨n,rfl,h⟩:=h;simp [Lit.wf,IntKind.min,IntKind.max,IntKind.signed,IntKind.bits] at h;exact⟨n.toNat,by rw [Int.toNat_of_nonneg om],by unfold bm;omega⟩
theorem Qo {m:MV} (h:YT m): ∃a:bd,m=aV a∧a.name.length≤140737488355328∧bm a.bal∧bm a.seq:=by
 obtain⟨l,rfl,h⟩:=h;unfold Qn at h
 match l,h with
 | [x,y,z],h=>
  obtain⟨⟨s,rfl,hs⟩,h2,h3,_⟩:=h;obtain⟨b,rfl,hb⟩:=w9 h2;obtain⟨q,rfl,hq⟩:=w9 h3;exact⟨⟨s,b,q⟩,rfl,hs,hb,hq⟩
theorem Jj {m:MV} (h: ∃l,m= .sl l.length l∧(∀x∈l,YT x)∧l.length≤140737488355328): ∃rs:List bd,m= .sl rs.length (rs.map aV)∧rs.length≤140737488355328∧∀a∈rs,a.name.length≤140737488355328∧bm a.bal∧bm a.seq:=by
 obtain⟨l,rfl,h,hl⟩:=h;obtain⟨rs,rfl,hr⟩:=te (f:=aV) (R:=fun a=>a.name.length≤140737488355328∧bm a.bal∧bm a.seq) l fun x hx=>Qo (h x hx)
 rw [b₅] at hl;exact⟨rs,by rw [b₅],hl,hr⟩
end
section
variable {G:GS}
attribute [local irreducible] ak aB aD aJ aQ vC aY aw
structure eM where
 com:eh
 chk:eh
 nxt:eh
 opn:Bool
 price:Nat
def appM (a:eM):MV:= .st [eo a.com,eo a.chk,eo a.nxt, .bool a.opn, .int .u64 a.price]
def fB (a:eM):Prop:=fG a.com∧fG a.chk∧fG a.nxt∧bm a.price
def app0:eM:=⟨lg0,lg0,lg0,false,0⟩
theorem lg0_sm:fG lg0:=⟨by simp [lg0],by simp [lg0,bm],by simp [lg0]⟩
theorem app0_sm:fB app0:=⟨lg0_sm,lg0_sm,lg0_sm,by simp [app0,bm]⟩
abbrev lgZ:MV:= .st [.nils, .int .u64 0]
theorem rel_lg0 {σ:Nat→Option Nat} {fz:Fz}:eZ σ fz (eo lg0) lgZ:= .inr ⟨_,rfl,⟨.inr ⟨rfl,rfl⟩,⟨rfl,rfl⟩,trivial⟩⟩
theorem rel_lg {σ:Nat→Option Nat} {fz:Fz} {n:Nat} {l:List MV} {c:Int}:eZ σ fz (.st [.sl n l, .int .u64 c]) (.st [.sl n l, .int .u64 c]):= .inl ⟨rfl,rfl⟩
def bN (acs:List bd) (price:Nat):eM×Nat:=if (kD acs).2≠0 then(app0,(kD acs).2) else(⟨(kD acs).1,(kD acs).1,lg0,false,price⟩,0)
theorem pg {acs:List bd} {p:Nat} (h: ∀a∈acs,pB a) (hp:bm p):fB (bN acs p).1:=by
 unfold bN;split
 ·exact app0_sm
 ·exact⟨w7 h,w7 h,lg0_sm,hp⟩
theorem L5 {acs:List bd} {p:Nat} (h: ∀a∈acs,SmAc a) (hp:bm p):fB (bN acs p).1:=pg (fun a ha=>(h a ha).wd) hp
abbrev apZ:MV:= .st [lgZ,lgZ,lgZ, .bool false, .int .u64 0]
theorem ff {σ:Nat→Option Nat} {fz:Fz}:eZ σ fz (appM app0) apZ:= .inr ⟨_,rfl,⟨rel_lg0,rel_lg0,rel_lg0,⟨rfl,rfl⟩,⟨rfl,rfl⟩,trivial⟩⟩
theorem Hu (l:List bd) (p:Nat) (hl:l.length≤140737488355328) (eP: ∀a∈l,pB a) (hp:bm p):aT Tryz.prog G 16 [.sl l.length (l.map aV), .int .u64 p] [] 0 (.tup [appM (bN l p).1, .int .i64 (bN l p).2]) [] 0:=by
 have c1:=TA (G:=G) l hl eP;unfold bN;generalize kD l=g at *;obtain⟨⟨acs,col⟩,e⟩:=g;unfold eo at c1;dsimp only at c1 ⊢;by_cases he:e=0
 ·subst he;rw [if_neg sm];refine dK seat Tryz.func16 21 ?_;refine aa ?_;refine jn (c1) ?_;refine au ?_;refine⟨[_,_],[],[],rfl,rfl,trivial,rfl,⟨?_,?_,trivial⟩,?_⟩
  ·exact .inr ⟨_,rfl,⟨rel_lg,rel_lg,rel_lg0,⟨rfl,rfl⟩,⟨rfl,rfl⟩,trivial⟩⟩
  ·exact rv
  ·exact mm
 ·rw [if_pos he];refine dK seat Tryz.func16 21 ?_;refine aa ?_;refine jn (c1) ?_;refine ad rfl ?_ ?_ <;> intro h
  ·refine aa ?_;refine au ?_;refine⟨[_,_],[],[],rfl,rfl,trivial,rfl,⟨?_,?_,trivial⟩,?_⟩
   ·exact ff
   ·exact rv
   ·exact mm
  ·exfalso;have: ¬ (e:Int)≠0:=by simpa using h
   omega
theorem TC (l:List bd) (p:Nat) (hl:l.length≤100000) (eP: ∀a∈l,SmAc a) (hp:bm p):aT Tryz.prog G 16 [.sl l.length (l.map aV), .int .u64 p] [] 0 (.tup [appM (bN l p).1, .int .i64 (bN l p).2]) [] 0:=Hu l p om (fun a ha=>(eP a ha).wd) hp
def xa (a:eM) (raw:List UInt8):ga:=(qx a.chk a.price raw).2
def mL (a:eM) (raw:List UInt8):eM:=⟨a.com,(qx a.chk a.price raw).1,a.nxt,a.opn,a.price⟩
theorem xb {a:eM} {raw:List UInt8} (h:fB a):fB (mL a raw):=⟨h.1,(kW h.2.1).1,h.2.2⟩
theorem Hv (a:eM) (raw:List UInt8) (ha:fB a) (qu:raw.length≤140737488355328):aE Tryz.prog G 22 [appM a, .sl raw.length (u8s raw)] (fc (xa a raw)):=by
 have c1:=Jg (G:=G) a.chk a.price raw ha.2.1 ha.2.2.2 qu;unfold xa;obtain⟨⟨a1,b1⟩,⟨a2,b2⟩,⟨a3,b3⟩,op,price⟩:=a;dsimp only at *;generalize qx ⟨a2,b2⟩ price raw=y at *;obtain⟨⟨mQ,qt⟩,⟨ec,R4,RC,RJ,RD⟩⟩:=y;unfold appM eo fc at *;dsimp only at *;refine bA seat Tryz.func22 17 ?_;refine aa ?_;refine jn (c1) ?_;refine au ?_;rfl
theorem Dh (a:eM) (raw:List UInt8) (ha:fB a) (qu:raw.length≤140737488355328):aE Tryz.prog G 23 [appM a, .sl raw.length (u8s raw)] (appM (mL a raw)):=by
 have c1:=Jg (G:=G) a.chk a.price raw ha.2.1 ha.2.2.2 qu;unfold mL;obtain⟨⟨a1,b1⟩,⟨a2,b2⟩,⟨a3,b3⟩,op,price⟩:=a;dsimp only at *;generalize qx ⟨a2,b2⟩ price raw=y at *;obtain⟨⟨mQ,qt⟩,⟨ec,R4,RC,RJ,RD⟩⟩:=y;unfold appM eo fc at *;dsimp only at *;refine bA seat Tryz.func23 16 ?_;refine aa ?_;refine jn (c1) ?_;refine au ?_;rfl
def oe (a:eM):eM:=⟨a.com,a.com,a.nxt,a.opn,a.price⟩
theorem A3 (a:eM):aE Tryz.prog G 25 [appM a] (appM (oe a)):=by
 unfold oe;obtain⟨⟨a1,b1⟩,⟨a2,b2⟩,⟨a3,b3⟩,op,price⟩:=a;unfold appM eo;dsimp only;refine bA seat Tryz.func25 7 ?_;refine aa ?_;refine au ?_;rfl
def rM (a:eM):eM×Nat:=if a.opn=false then(app0,9) else(⟨a.nxt,a.nxt,lg0,false,a.price⟩,0)
theorem Hw {a:eM} (h:fB a):fB (rM a).1:=by
 unfold rM;split
 ·exact app0_sm
 ·exact⟨h.2.2.1,h.2.2.1,lg0_sm,h.2.2.2⟩
theorem Di (a:eM):aT Tryz.prog G 29 [appM a] [] 0 (.tup [appM (rM a).1, .int .i64 (rM a).2]) [] 0:=by
 unfold rM;obtain⟨⟨a1,b1⟩,⟨a2,b2⟩,⟨a3,b3⟩,op,price⟩:=a;dsimp only;cases op with
 | false=>
  rw [if_pos rfl]
  show aT _ _ _ [.st [.st [.sl a1.length (a1.map aV), .int .u64 b1], .st [.sl a2.length (a2.map aV), .int .u64 b2], .st [.sl a3.length (a3.map aV), .int .u64 b3], .bool false, .int .u64 price]] _ _ _ _ _
  refine dK seat Tryz.func29 15 ?_;refine aa ?_;refine au ?_;refine⟨[_,_],[],[],rfl,rfl,trivial,rfl,⟨?_,?_,trivial⟩,?_⟩
  ·exact ff
  ·exact rv
  ·exact mm
 | true=>
  rw [if_neg sm]
  show aT _ _ _ [.st [.st [.sl a1.length (a1.map aV), .int .u64 b1], .st [.sl a2.length (a2.map aV), .int .u64 b2], .st [.sl a3.length (a3.map aV), .int .u64 b3], .bool true, .int .u64 price]] _ _ _ _ _
  refine dK seat Tryz.func29 15 ?_;refine aa ?_;refine au ?_;refine⟨[_,_],[],[],rfl,rfl,trivial,rfl,⟨?_,?_,trivial⟩,?_⟩
  ·exact .inr ⟨_,rfl,⟨rel_lg,rel_lg,rel_lg0,⟨rfl,rfl⟩,⟨rfl,rfl⟩,trivial⟩⟩
  ·exact rv
  ·exact mm
def iS (a:eM) (raws:List (List UInt8)):eM×List ga×Nat:=if a.opn=true then(app0,[],9) else if 512 < raws.length then(app0,[],3) else
 (⟨a.com,a.chk,(jt a.price raws a.com []).1,true,a.price⟩,(jt a.price raws a.com []).2,0)
theorem vf {a:eM} {raws:List (List UInt8)} (h:fB a):fB (iS a raws).1∧(∀r∈(iS a raws).2.1,jI r)∧(iS a raws).2.1.length≤raws.length:=by
 have h1:=Ht a.price raws a.com [] h.1 sm;unfold iS;split
 ·exact⟨app0_sm,sm,sm⟩
 split
 ·exact⟨app0_sm,sm,sm⟩
 ·exact⟨⟨h.1,h.2.1,h1.1,h.2.2.2⟩,h1.2.1,by have:=h1.2.2;simp only [c₄] at this;dsimp only;omega⟩
theorem Sk (a:eM) (raws:List (List UInt8)) (ha:fB a) (hn:raws.length≤1000000) (hb: ∀b∈raws,b.length≤140737488355328):aT Tryz.prog G 32 [appM a,ee raws] [] 0 (.tup [appM (iS a raws).1, .sl (iS a raws).2.1.length ((iS a raws).2.1.map fc), .int .i64 (iS a raws).2.2]) [] 0:=by
 have c1:=Wg (G:=G) a.com a.price raws ha.1 ha.2.2.2 hn hb;unfold iS;obtain⟨⟨a1,b1⟩,⟨a2,b2⟩,⟨a3,b3⟩,op,price⟩:=a;dsimp only at *;generalize jt price raws ⟨a1,b1⟩ [] =y at *;obtain⟨⟨mQ,qt⟩,out⟩:=y;unfold ee at *;have hA: ∀op:Bool,appM ⟨⟨a1,b1⟩,⟨a2,b2⟩,⟨a3,b3⟩,op,price⟩= .st [.st [.sl a1.length (a1.map aV), .int .u64 b1], .st [.sl a2.length (a2.map aV), .int .u64 b2], .st [.sl a3.length (a3.map aV), .int .u64 b3], .bool op, .int .u64 price] :=fun _=>rfl
 rw [hA];unfold eo at c1;dsimp only at c1;cases op with
 | true=>
  rw [if_pos rfl];refine dK seat Tryz.func32 30 ?_;refine aa ?_;refine au ?_;refine⟨[_,_,_],[],[],rfl,rfl,trivial,rfl,⟨?_,?_,?_,trivial⟩,?_⟩
  ·exact ff
  ·exact .inr ⟨rfl,rfl⟩
  ·exact rv
  ·exact mm
 | false=>
  rw [if_neg sm];by_cases hl:512 < raws.length
  ·rw [if_pos hl];refine dK seat Tryz.func32 30 ?_;refine aa ?_;(iterate 4 ((all_goals(refine aa ?_));(all_goals(first | ((first | refine ag rfl rfl ?_ rfl ?_ | refine ad rfl ?_ ?_);all_goals(intro h;(try simp only [pl] at h);(try (exfalso;omega)))) | skip))));all_goals(refine au ?_)
   refine⟨[_,_,_],[],[],rfl,rfl,trivial,rfl,⟨?_,?_,?_,trivial⟩,?_⟩
   ·exact ff
   ·exact .inr ⟨rfl,rfl⟩
   ·exact rv
   ·exact mm
  ·rw [if_neg hl];dsimp only
   show aT _ _ _ _ _ _ (.tup [.st [.st [.sl a1.length (a1.map aV), .int .u64 b1], .st [.sl a2.length (a2.map aV), .int .u64 b2], .st [.sl mQ.length (mQ.map aV), .int .u64 qt], .bool true, .int .u64 price],_,_]) _ _
   refine dK seat Tryz.func32 30 ?_;refine aa ?_;(iterate 6 ((all_goals(refine aa ?_));(all_goals(first | (refine ah rfl aA rfl (c1) rfl rfl ?_) | ((first | refine ag rfl rfl ?_ rfl ?_ | refine ad rfl ?_ ?_);all_goals(intro h;(try simp only [pl] at h);(try (exfalso;omega)))) | skip))));all_goals(refine au ?_)
   exact en [_,_,_]
def tB (l:eh) (p:Nat) (raw:List UInt8):eh:=(qx l p raw).1
theorem Qp (l:eh) (p:Nat) (raw:List UInt8) (hl:fG l) (hp:bm p) (qu:raw.length≤140737488355328):aE Tryz.prog G 53 [eo l, .int .u64 p, .sl raw.length (u8s raw)] (eo (tB l p raw)):=by
 have c1:=Jg (G:=G) l p raw hl hp qu;unfold tB;obtain⟨a1,b1⟩:=l;generalize qx ⟨a1,b1⟩ p raw=y at *;obtain⟨⟨mQ,qt⟩,⟨ec,R4,RC,RJ,RD⟩⟩:=y;unfold eo fc at *;dsimp only at *;refine bA seat Tryz.func53 17 ?_;refine aa ?_;refine jn (c1) ?_;refine au ?_;rfl
end
section
variable {G:GS}
theorem A4 (x n:Int) (hn:0 < n) (im:n < 9223372036854775808):aE Tryz.prog G 36 [.int .i64 x, .int .i64 n] (.int .i64 (x % n)):=by
 have sF:=Pp x n hn;have h1: -9223372036854775808≤x.tmod n + n∧x.tmod n + n < 9223372036854775808∨¬ x.tmod n < 0:=by
  have:=Int.lt_tmod_of_pos x hn;omega
 have gf:=bH.mk (show n≠0 by omega);refine bA seat Tryz.func36 14 ?_;refine aa ?_;refine ad rfl ?_ ?_ <;> intro h
 ·have hx:=ot h;rw [if_pos hx] at sF;refine aa ?_;refine au ?_;exact congrArg (MV.int .i64) sF
 ·have hx:=oF h;rw [if_neg hx] at sF;refine aa ?_;refine au ?_;exact congrArg (MV.int .i64) sF
def oh (L:List Int) (N:Nat) (n:Int):Int:=(L[N]?.getD 0) % n
def eQ (L:List Int) (N:Nat):VM:= [(0,⟨102,2,false,0,[.st [jm L, .int .i64 N]]⟩)]
abbrev numP:MV:= .ptr 0 2 0 0 []
theorem L6 (L:List Int) (N:Nat) (n:Int) (hn:0 < n) (im:n < 9223372036854775808) (hN:N < 4611686018427387904) :
  aT Tryz.prog G 27 [numP, .int .i64 n] (eQ L N) 1 (.int .i64 (oh L N n)) (eQ L (N + 1)) 1:=by
 have cp:=A4 (G:=G) (L[N]?.getD 0) n hn im
 unfold oh
 unfold eQ
 generalize hx:(L[N]?.getD 0)=x at *
 by_cases eS:N < L.length
 ·have aH:=aj.mk (show bI (L.map (MV.int .i64)) L.length (N:Int)=some (.int .i64 x) by rw [CO eS,← hx];simp [eS])
  unfold jm
  refine dK seat Tryz.func27 36 ?_
  refine aa ?_
  refine al [ae 0,ae 1,ae 2,ae 3,ae 4,ae 5,ae 6,ae 7,ae 8,ae 9] ?_
  refine aa ?_
  refine ad rfl ?_ ?_ <;> intro h
  ·refine aa ?_
   refine al [ae 0,ae 1,ae 2,ae 3,ae 4,ae 5,ae 6,ae 7,ae 8,ae 9,ae 10] ?_
   refine aa ?_
   refine dZ (cp) ?_
   exact en [_]
  ·exact absurd (oF h) om
 ·have U2:x=0:=by rw [← hx];simp [eS]
  subst U2
  unfold jm
  refine dK seat Tryz.func27 36 ?_
  refine aa ?_
  refine al [ae 0,ae 1,ae 2,ae 3,ae 4,ae 5,ae 6,ae 7,ae 8,ae 9] ?_
  refine aa ?_
  refine ad rfl ?_ ?_ <;> intro h
  ·exact absurd (ot h) om
  ·refine aa ?_
   refine dZ (cp) ?_
   exact en [_]
end
end Go.Proofs.YtohikcplmbkmeaaGreatDoor
