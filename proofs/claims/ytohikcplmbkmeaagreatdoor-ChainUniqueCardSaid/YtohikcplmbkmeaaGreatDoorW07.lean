/- Parts of a proof, one behind the other: Q2, Q3, Q4, Q5, GB, GC, CV, GD, GE, GF. -/
import Derived.Test.YtohikcplmbkmeaaGreatDoorW06
open And renaming intro → a₀
open Nat renaming le_refl → a₁,zero_add → a₃,le_of_eq → a₇,zero_le → a₉,mul_le_mul_right → b₂,le_of_lt → b₄,lt_succ_self → b₆
open Prod.mk renaming injEq → a₂
open List renaming length_singleton → a₄,length_append → a₅,map_append → a₆,nil_append → a₈,take_succ_eq_append_getElem → b₀,take_length → b₁,mem_singleton → b₃,getElem_mem → b₅,length_nil → b₇,take_zero → b₈,getD_eq_getElem?_getD → b₉,length_set → c₁,mem_of_getElem? → c₂,length_take → c₃,length_cons → c₄,sum_append → c₅,drop_zero → c₆
open Int renaming tmod_eq_emod_of_nonneg → c₀
set_option maxRecDepth 20000
set_option maxHeartbeats 16000000
set_option linter.unusedVariables false
set_option linter.unusedSimpArgs false
namespace Go.Proofs.YtohikcplmbkmeaaGreatDoor
open Go.RowKit
section
variable {G:GS}
def Ab (L:List Int) (N:Nat):lh:=⟨pQ L N,if nextN L (N + 2) 12=0 then 9223372036854775808 else 1 + nextN L (N + 1) 60⟩
def FY (L:List Int) (N j:Nat):List lh:=(List.range j).map fun i=>Ab L (N + 3 * i)
theorem HV (L:List Int) (N j:Nat):FY L N (j + 1)=FY L N j ++ [Ab L (N + 3 * j)] :=by unfold FY;rw [List.range_succ,List.map_append];rfl
theorem xX (L:List Int) (N j:Nat):(FY L N j).length=j:=by simp [FY]
theorem HW (L:List Int) (N:Nat):mo (Ab L N):=by
 have h:=(de L (N + 1) 60 om).2;refine⟨Nat.le_trans (wu L N) om,?_⟩;unfold Ab bo;dsimp only;split <;> omega
theorem Mq (L:List Int) (N j:Nat): ∀x∈FY L N j,mo x:=by
 intro x hx;obtain⟨i,_,rfl⟩:=List.mem_map.1 hx;exact HW L _
def Dj (L:List Int) (N:Nat) (acs:List bf):List UInt8×Nat×Nat:=
 if acs.length=0 then(pQ L N,0,N + 3) else if nextN L (N + 3) 8=0 then(pQ L N,0,N + 4) else((acs.getD (nextN L (N + 4) acs.length) ac0).name,(acs.getD (nextN L (N + 4) acs.length) ac0).seq,N + 5)
def LB (L:List Int) (N sq:Nat):Nat×Nat:=if nextN L N 6=0 then((sq + nextN L (N + 1) 3) % 18446744073709551616,N + 2) else(sq,N + 1)
def Mr (L:List Int) (N fee:Nat):Nat×Nat:=if nextN L N 9=0 then(nextN L (N + 1) 200,N + 2) else(fee,N + 1)
def Dk (L:List Int) (N:Nat) (acs:List bf) (price:Nat):je×Nat:=
 let a:=Dj L N acs
 let b:=LB L a.2.2 a.2.1
 let gas:=150 + nextN L (N + 1) 6 * 40
 let fee:=gas * price % 18446744073709551616 * (1 + nextN L b.2 5) % 18446744073709551616
 let c:=Mr L (b.2 + 1) fee
 let m:=nextN L c.2 3
 (⟨a.1,b.1,gas,c.1,wt L (N + 2),FY L (c.2 + 1) (m + 1)⟩,c.2 + 1 + 3 * (m + 1))
theorem HX {L:List Int} {N:Nat} {acs:List bf} (h: ∀a∈acs,SmAc a):(Dj L N acs).1.length≤5000∧bo (Dj L N acs).2.1∧(Dj L N acs).2.2≤N + 5:=by
 have hn:=wu L N;unfold Dj;split
 ·exact⟨dm,by simp [bo],dm⟩
 ·split
  ·exact⟨dm,by simp [bo],dm⟩
  ·have ha:SmAc (acs.getD (nextN L (N + 4) acs.length) ac0):=by
    rw [b₉];cases hx:acs[nextN L (N + 4) acs.length]? with
    | none=>exact ⟨by simp [ac0],by simp [ac0,bo],by simp [ac0,bo]⟩
    | some x=>exact h x (c₂ hx)
   exact⟨ha.1,ha.2.2,dm⟩
theorem HY {L:List Int} {N sq:Nat} (h:bo sq):bo (LB L N sq).1∧(LB L N sq).2≤N + 2:=by
 unfold LB;split
 ·exact⟨mod_u64,dm⟩
 ·exact⟨h,dm⟩
theorem HZ {L:List Int} {N fee:Nat} (h:bo fee):bo (Mr L N fee).1∧(Mr L N fee).2≤N + 2:=by
 have hx:=(de L (N + 1) 200 om).2;unfold Mr;split
 ·exact⟨by unfold bo;dsimp only;omega,dm⟩
 ·exact⟨h,dm⟩
theorem H0 {L:List Int} {N:Nat} {acs:List bf} {price:Nat} (h: ∀a∈acs,SmAc a):iL (Dk L N acs price).1∧(Dk L N acs price).2≤N + 20:=by
 have h1:=HX (L:=L) (N:=N) h;have h2:=HY (L:=L) (N:=(Dj L N acs).2.2) h1.2.1;unfold Dk;dsimp only;have h3:=HZ (L:=L) (N:=(LB L (Dj L N acs).2.2 (Dj L N acs).2.1).2 + 1) (fee:=(150 + nextN L (N + 1) 6 * 40) * price % 18446744073709551616 * (1 + nextN L (LB L (Dj L N acs).2.2 (Dj L N acs).2.1).2 5) % 18446744073709551616) mod_u64;have hg:=(de L (N + 1) 6 om).2;generalize Mr L _ _=c at *;have hm:=(de L c.2 3 om).2;have hml:=E6 L (N + 2);exact⟨⟨h1.1,h2.1,by unfold bo;dsimp only;omega,h3.1,dm,by dsimp only;rw [xX];omega,Mq L _ _⟩,om⟩
abbrev OH:MV:= .st [.str [], .int .u64 0, .int .u64 0, .int .u64 0, .str [], .nils]
theorem LC (a b:Nat):IntKind.u64.wrap ((a:Int) * (b:Int))=((a * b % 18446744073709551616:Nat):Int):=by
 rw [wu64,← Int.natCast_mul];omega
theorem N8 (a b:Nat):IntKind.u64.wrap ((a:Int) + (b:Int))=(((a + b) % 18446744073709551616:Nat):Int):=by rw [wu64];omega
theorem Ms (L:List Int) (N:Nat) (l:dK) (price:Nat) (hN:N < 4000000000000000000) (hl:eN l) (hp:bo price):aQ Tryz.prog G 49 [numP,eh l, .int .u64 price] (ej L N) 1 (nP (Dk L N l.acs price).1) (ej L (Dk L N l.acs price).2) 1:=by
 obtain⟨acs,col⟩:=l;obtain⟨hl1,hl2,hl3⟩:=hl;have k1:=HX (L:=L) (N:=N) hl3;have k2:=HY (L:=L) (N:=(Dj L N acs).2.2) k1.2.1;dsimp only at hl1 hl2 hl3 k1;unfold Dk;dsimp only;have cn0:=HT (G:=G) L N om;have cn1:=eK (G:=G) L (N + 1) 6 om om om;have b1:=(de L (N + 1) 6 om).2;have cn2:=Mp (G:=G) L (N + 2) om;generalize htx1:Dj L N acs=a at *;obtain⟨snd,sq,N1⟩:=a;dsimp only at *;generalize htx2:LB L N1 sq=b at *;obtain⟨sq2,N2⟩:=b;dsimp only at *;generalize hx1:nextN L (N + 1) 6=x1 at *;generalize hmemo:wt L (N + 2)=memo at *;unfold nP eh;dsimp only;refine dw seat Tryz.func49 96 ?_;refine aa ?_;refine yc (cn0) [(0,0)] ?_;refine aa ?_;refine yc (cn1) [(0,0)] ?_;refine aa ?_;refine yc (cn2) [(0,0)] ?_;refine aa ?_;refine sB Unit (fun _=> [(0,numP),(2, .int .u64 price),(6, .ptr 1 6 0 0 []),(7, .ptr 2 6 0 0 [])]) (fun _=>ej L N1 ++ [(1,⟨98,6,false,0,[OH]⟩),(2,⟨98,6,false,0,[.st [.str snd, .int .u64 sq, .int .u64 (150 + (x1:Int) * 40), .int .u64 0, .str memo, .nils]]⟩)]) (fun _=>3) (fun _=>True) (fun JQ hj=>?_) (fun _ _=>?_)
 ·by_cases h0:acs.length=0
  ·unfold Dj at htx1;rw [if_pos h0] at htx1;simp only [a₂] at htx1;obtain⟨rfl,rfl,rfl⟩:=htx1;refine ag rfl rfl ?_ rfl ?_ <;> intro h
   ·exact absurd (ot h) om
   refine aa ?_;exact hj.nrm () trivial (vm [(1,_),(2,_)] [])
  ·have cn3:=eK (G:=G) L (N + 3) 8 om om om;unfold Dj at htx1;rw [if_neg h0] at htx1;generalize hx3:nextN L (N + 3) 8=x3 at *;refine ag rfl rfl ?_ rfl ?_ <;> intro h
   rotate_left
   ·exact absurd (oF h) om
   refine aa ?_;refine yc (cn3) [(0,0)] ?_;refine aa ?_;by_cases h3:x3=0
   ·rw [if_pos h3] at htx1;simp only [a₂] at htx1;obtain⟨rfl,rfl,rfl⟩:=htx1;refine ad rfl ?_ ?_ <;> intro h
    ·exact absurd (ot h) om
    refine aa ?_;exact hj.nrm () trivial (vm [(1,_),(2,_)] [])
   ·rw [if_neg h3] at htx1;have cn4:=eK (G:=G) L (N + 4) acs.length om om om;have b4:=(de L (N + 4) acs.length om).2;generalize hx4:nextN L (N + 4) acs.length=x4 at *;have hel:=eZ b4;have hgd:acs.getD x4 ac0=acs[x4] :=by simp [b4]
    rw [hgd] at htx1;clear hgd;generalize acs[x4] =a at *;obtain⟨an,ab,asq⟩:=a;replace hel:bF (acs.map aT) acs.length (x4:Int)=some (.st [.str an, .int .u64 ab, .int .u64 asq]):=hel;have hel:=aj.mk hel;simp only [a₂] at htx1;obtain⟨rfl,rfl,rfl⟩:=htx1;refine ad rfl ?_ ?_ <;> intro h
    rotate_left
    ·exact absurd (oF h) om
    refine aa ?_;refine al [ae 0,ae 1,ae 2,ae 3,dj 4,ae 5,ae 6,ae 7,ae 8] ?_;refine aa ?_;refine cK rfl aA rfl [0] (cn4) [(0,0)] [] ⟨rfl,trivial,rfl,lm,mm⟩ rfl rfl rfl rfl ?_;refine aa ?_;refine al [ae 0,ae 1,ae 2,ae 3,ae 4,ae 5,ae 6,ae 7] ?_;refine aa ?_;exact hj.nrm () trivial (vm [(1,_),(2,_)] [])
 ·have cn5:=eK (G:=G) L N1 6 om om om;have cn6:=eK (G:=G) L (N1 + 1) 3 om om om;have b6:=(de L (N1 + 1) 3 om).2;unfold LB at htx2;generalize hx5:nextN L N1 6=x5 at *;generalize hx6:nextN L (N1 + 1) 3=x6 at *;have ea:=aU.mk (N8 sq x6);refine aa ?_;refine yc (cn5) [(0,0)] ?_;refine aa ?_;refine qH Unit (fun _=> [(0,numP),(2, .int .u64 price),(6, .ptr 1 6 0 0 []),(7, .ptr 2 6 0 0 [])]) (fun _=>ej L N2 ++ [(1,⟨98,6,false,0,[OH]⟩),(2,⟨98,6,false,0,[.st [.str snd, .int .u64 sq2, .int .u64 (150 + (x1:Int) * 40), .int .u64 0, .str memo, .nils]]⟩)]) (fun _=>3) (fun _=>True) (fun JQ hj=>?_) (fun _ _=>?_)
  ·by_cases h5:x5=0
   ·rw [if_pos h5] at htx2;simp only [a₂] at htx2;obtain⟨rfl,rfl⟩:=htx2;refine ad rfl ?_ ?_ <;> intro h
    rotate_left
    ·exact absurd h (by simp [h5])
    refine aa ?_;refine al [ae 0,ae 1,ae 2,dj 3,ae 4,ae 5,ae 6,ae 7] ?_;refine aa ?_;refine cK rfl aA rfl [0] (cn6) [(0,0)] [] ⟨rfl,trivial,rfl,lm,mm⟩ rfl rfl rfl rfl ?_;refine aa ?_;exact hj.nrm () trivial (vm [(1,_),(2,_)] [])
   ·rw [if_neg h5] at htx2;simp only [a₂] at htx2;obtain⟨rfl,rfl⟩:=htx2;refine ad rfl ?_ ?_ <;> intro h
    ·exfalso;have:(x5:Int)=0:=by simpa using h
     omega
    refine aa ?_;exact hj.nrm () trivial (vm [(1,_),(2,_)] [])
  ·have k3:=HZ (L:=L) (N:=N2 + 1) (fee:=(150 + x1 * 40) * price % 18446744073709551616 * (1 + nextN L N2 5) % 18446744073709551616) mod_u64;have cn7:=eK (G:=G) L N2 5 om om om;have cn8:=eK (G:=G) L (N2 + 1) 9 om om om;have cn9:=eK (G:=G) L (N2 + 1 + 1) 200 om om om;have b7:=(de L N2 5 om).2;have b9:=(de L (N2 + 1 + 1) 200 om).2;generalize hx7:nextN L N2 5=x7 at *;generalize hfee:(150 + x1 * 40) * price % 18446744073709551616=f0 at *;have em1:=aU.mk (show IntKind.u64.wrap ((150 + (x1:Int) * 40) * (price:Int))=(f0:Int) by rw [← hfee,← LC];rfl);have em2:=aU.mk (show IntKind.u64.wrap ((f0:Int) * (1 + (x7:Int)))=((f0 * (1 + x7) % 18446744073709551616:Nat):Int) by rw [← LC];rfl);generalize f0 * (1 + x7) % 18446744073709551616=f1 at *;generalize htx3:Mr L (N2 + 1) f1=c at *;obtain⟨fee,N3⟩:=c;dsimp only at *;unfold Mr at htx3;generalize hx8:nextN L (N2 + 1) 9=x8 at *;generalize hx9:nextN L (N2 + 1 + 1) 200=x9 at *;refine aa ?_;refine al [ae 0,ae 1,ae 2,ae 3,ae 4,dj 5,ae 6,ae 7,ae 8,ae 9,ae 10] ?_;refine aa ?_;refine cK rfl aA rfl [0] (cn7) [(0,0)] [] ⟨rfl,trivial,rfl,lm,mm⟩ rfl rfl rfl rfl ?_;refine aa ?_;refine yc (cn8) [(0,0)] ?_;refine aa ?_;refine qH Unit (fun _=> [(0,numP),(6, .ptr 1 6 0 0 []),(7, .ptr 2 6 0 0 [])]) (fun _=>ej L N3 ++ [(1,⟨98,6,false,0,[OH]⟩),(2,⟨98,6,false,0,[.st [.str snd, .int .u64 sq2, .int .u64 (150 + (x1:Int) * 40), .int .u64 fee, .str memo, .nils]]⟩)]) (fun _=>3) (fun _=>True) (fun JQ hj=>?_) (fun _ _=>?_)
   ·by_cases h8:x8=0
    ·rw [if_pos h8] at htx3;simp only [a₂] at htx3;obtain⟨rfl,rfl⟩:=htx3;refine ad rfl ?_ ?_ <;> intro h
     rotate_left
     ·exact absurd h (by simp [h8])
     refine aa ?_;refine yc (cn9) [(0,0)] ?_;refine aa ?_;exact hj.nrm () trivial (vm [(1,_),(2,_)] [])
    ·rw [if_neg h8] at htx3;simp only [a₂] at htx3;obtain⟨rfl,rfl⟩:=htx3;refine ad rfl ?_ ?_ <;> intro h
     ·exfalso;have:(x8:Int)=0:=by simpa using h
      omega
     refine aa ?_;exact hj.nrm () trivial (vm [(1,_),(2,_)] [])
   ·have cna:=eK (G:=G) L N3 3 om om om;have ba:=(de L N3 3 om).2;generalize hxa:nextN L N3 3=m at *;generalize hN4:N3 + 1=N4 at *;have hN4b:N4 < 4300000000000000000:=om;clear em1 em2 hx7 hx8 hx9 cn7 cn8 cn9 k3 k1 k2;refine aa ?_;refine yc (cna) [(0,0)] ?_;refine aa ?_;refine av Nat (fun j=> [(10, .int .i64 ((m:Int) - j)),(0,numP),(6, .ptr 1 6 0 0 []),(7, .ptr 2 6 0 0 [])]) (fun j=>ej L (N4 + 3 * j) ++ [(1,⟨98,6,false,0,[OH]⟩),(2,⟨98,6,false,0,[.st [.str snd, .int .u64 sq2, .int .u64 (150 + (x1:Int) * 40), .int .u64 fee, .str memo, .ms 3 2 0 j]]⟩),(3,⟨95,2,true,0,(FY L N4 j).map lC⟩)]) 4 (fun j=>j≤m + 1) (fun j=>m + 1 - j) 0 (a₉ _) (vm [(1,_),(2,_)] []) ?_;intro j hj;try dsimp only
    refine aa ?_;refine ad rfl ?_ ?_ <;> intro h
    ·have hj':j < m + 1:=by have:=ot h;omega
     have d0:=HT (G:=G) L (N4 + 3 * j) om;have d1:=eK (G:=G) L (N4 + 3 * j + 1) 60 om om om;have d2:=eK (G:=G) L (N4 + 3 * j + 1 + 1) 12 om om om;have hb1:=(de L (N4 + 3 * j + 1) 60 om).2;have hsucc:=HV L N4 j;have hll:((FY L N4 j).map lC).length=j:=by rw [List.length_map,xX]
     have hxf:Ab L (N4 + 3 * j)=⟨pQ L (N4 + 3 * j),if nextN L (N4 + 3 * j + 1 + 1) 12=0 then 9223372036854775808 else 1 + nextN L (N4 + 3 * j + 1) 60⟩:=rfl;have hN5:N4 + 3 * (j + 1)=N4 + 3 * j + 1 + 1 + 1:=om;rw [hxf] at hsucc;generalize nextN L (N4 + 3 * j + 1 + 1) 12=y2 at *;generalize nextN L (N4 + 3 * j + 1) 60=y1 at *;generalize pQ L (N4 + 3 * j)=nm at *;clear hxf;refine aa ?_;refine yc (d0) [(0,0)] ?_;refine aa ?_;refine yc (d1) [(0,0)] ?_;refine aa ?_;refine yc (d2) [(0,0)] ?_;refine aa ?_;by_cases hy:y2=0
     ·rw [if_pos hy] at hsucc;refine ad rfl ?_ ?_ <;> intro h
      rotate_left
      ·exact absurd h (by simp [hy])
      refine aa ?_;refine aL rfl rfl (by intro R hR;refine cI hR ?_;(refine a₀ (a₁ _) ?_;refine⟨_,rfl,?_⟩;refine a₀ ⟨hll,ai (by kernel_rfl) pf⟩ ?_;refine⟨(FY L N4 (j + 1)).map lC,sv (by rw [hsucc,a₆];rfl),j + 1,sv pf,?_⟩);exact hR) rfl ?_;refine aa ?_;exact⟨j + 1,by show j + 1≤m + 1;omega,by show m + 1 - (j + 1) < m + 1 - j;omega,(by dsimp only;rw [hN5];exact(vm [(1,_),(2,_),(3,_)] []))⟩
     ·rw [if_neg hy] at hsucc;refine ad rfl ?_ ?_ <;> intro h
      ·exfalso;have:(y2:Int)=0:=by simpa using h
       omega
      refine aa ?_;refine aL rfl rfl (by intro R hR;refine cI hR ?_;(refine a₀ (a₁ _) ?_;refine⟨_,rfl,?_⟩;refine a₀ ⟨hll,ai (by kernel_rfl) pf⟩ ?_;refine⟨(FY L N4 (j + 1)).map lC,sv (by rw [hsucc,a₆];rfl),j + 1,sv pf,?_⟩);exact hR) rfl ?_;refine aa ?_;exact⟨j + 1,by show j + 1≤m + 1;omega,by show m + 1 - (j + 1) < m + 1 - j;omega,(by dsimp only;rw [hN5];exact(vm [(1,_),(2,_),(3,_)] []))⟩
    ·have hj':j=m + 1:=by have:=oF h;omega
     subst hj';have hll:=xX L N4 (m + 1);generalize FY L N4 (m + 1)=xs at *;rw [← hll];refine aa ?_;refine au ?_;refine⟨[_],[],[(3,xs.length)],rfl,rfl,?_,rfl,⟨?_,trivial⟩,?_⟩
     ·exact⟨by show xs.length≤(xs.map lC).length;simp,trivial⟩
     ·exact .inr ⟨_,rfl,⟨⟨rfl,rfl⟩,⟨rfl,rfl⟩,⟨congrArg (MV.int _) om,rfl⟩,⟨rfl,rfl⟩,⟨rfl,rfl⟩, .inr ⟨rfl,rfl,rfl,a₇ (a₃ _),bc lC xs⟩,trivial⟩⟩
     ·exact mm
end
section
variable {G:GS}
attribute [local irreducible] ak aB aD aI aN vC aW aw
theorem rS (t:je):(iZ t).1.length≤4096:=by
 unfold iZ;split
 ·simp
 ·split
  ·simp
  ·dsimp only;omega
def E7 (L:List Int) (N:Nat) (raw:List UInt8):List UInt8×Nat:=
 if raw.length=0 then(raw,N) else if nextN L N 12≠0 then(raw,N + 1) else if nextN L (N + 2) 2=0 then(raw.take (nextN L (N + 1) raw.length),N + 3) else(raw.set (nextN L (N + 1) raw.length) (UInt8.ofNat (nextN L (N + 3) 256)),N + 4)
def ja (L:List Int) (N:Nat) (acs:List bf) (price:Nat):List UInt8×Nat:=E7 L (Dk L N acs price).2 (iZ (Dk L N acs price).1).1
theorem Ku (L:List Int) (N:Nat) (raw:List UInt8):(E7 L N raw).1.length≤raw.length∧(E7 L N raw).2≤N + 4:=by
 unfold E7;(repeat' split) <;> refine⟨?_,?_⟩ <;> dsimp only <;> first | omega | (rw [c₃];omega) | (rw [c₁];omega)
theorem sH {L:List Int} {N:Nat} {acs:List bf} {price:Nat} (h: ∀a∈acs,SmAc a):(ja L N acs price).1.length≤4096∧(ja L N acs price).2≤N + 24:=by
 have h1:=H0 (L:=L) (N:=N) (price:=price) h;have h2:=rS (Dk L N acs price).1;have h3:=Ku L (Dk L N acs price).2 (iZ (Dk L N acs price).1).1;unfold ja;omega
theorem H3 (L:List Int) (N:Nat) (l:dK) (price:Nat) (hN:N < 4000000000000000000) (hl:eN l) (hp:bo price):aQ Tryz.prog G 19 [numP,eh l, .int .u64 price] (ej L N) 1 (.sl (ja L N l.acs price).1.length (u8s (ja L N l.acs price).1)) (ej L (ja L N l.acs price).2) 1:=by
 have c1:=Ms (G:=G) L N l price hN hl hp;have hk:=H0 (L:=L) (N:=N) (price:=price) hl.2.2;have c2:=HA (G:=G) (Dk L N l.acs price).1 hk.1;have hel:=rS (Dk L N l.acs price).1;unfold ja;obtain⟨acs,col⟩:=l;dsimp only at *;generalize Dk L N acs price=T at *;obtain⟨t,N1⟩:=T;obtain⟨snd,seq,gas,fee,memo,trs⟩:=t;dsimp only at *;generalize iZ ⟨snd,seq,gas,fee,memo,trs⟩=en at *;obtain⟨raw,e⟩:=en;dsimp only at *;unfold nP eh at *;dsimp only at *;replace hk:=hk.2;have cn1:=eK (G:=G) L N1 12 om om om;generalize hr:E7 L N1 raw=R;obtain⟨Rr,RN⟩:=R;dsimp only;unfold E7 at hr;refine dw seat Tryz.func19 46 ?_;refine aa ?_;refine yc (c1) [(0,0)] ?_;refine aa ?_;refine jW (c2) ?_;by_cases h0:raw.length=0
 ·rw [if_pos h0] at hr;simp only [a₂] at hr;obtain⟨rfl,rfl⟩:=hr;refine ag rfl rfl ?_ rfl ?_ <;> intro h
  ·exact absurd (ot h) om
  refine aa ?_;refine au ?_;exact en [_]
 rw [if_neg h0] at hr;have cn2:=eK (G:=G) L (N1 + 1) raw.length om om om;have b2:=(de L (N1 + 1) raw.length om).2;have cn3:=eK (G:=G) L (N1 + 1 + 1) 2 om om om;have cn4:=eK (G:=G) L (N1 + 1 + 1 + 1) 256 om om om;rw [show N1 + 2=N1 + 1 + 1 from rfl,show N1 + 3=N1 + 1 + 1 + 1 from rfl,show N1 + 4=N1 + 1 + 1 + 1 + 1 from rfl] at hr;generalize nextN L N1 12=x1 at *;generalize nextN L (N1 + 1) raw.length=x2 at *;generalize nextN L (N1 + 1 + 1) 2=x3 at *;generalize nextN L (N1 + 1 + 1 + 1) 256=x4 at *;refine ag rfl rfl ?_ rfl ?_ <;> intro h
 rotate_left
 ·exact absurd (oF h) om
 refine aa ?_;refine yc (cn1) [(0,0)] ?_;refine aa ?_;by_cases h1:x1=0
 ·rw [if_neg (by simp [h1])] at hr;refine ad rfl ?_ ?_ <;> intro h
  rotate_left
  ·exact absurd h (by simp [h1])
  refine aa ?_;refine yc (cn2) [(0,0)] ?_;refine aa ?_;refine yc (cn3) [(0,0)] ?_;refine aa ?_;by_cases h3:x3=0
  ·rw [if_pos h3] at hr;simp only [a₂] at hr;obtain⟨rfl,rfl⟩:=hr;have fb1:=aj.mk (jo (n:=raw.length) (k:=x2) (κ:= .i64) om);have fb3:=bE.mk (bP raw);refine ad rfl ?_ ?_ <;> intro h
   rotate_left
   ·exact absurd h (by simp [h3])
   have htl:(raw.take x2).length=x2:=by rw [c₃];omega
   rw [htl];have hct:u8s (raw.take x2)=cutL (u8s raw) 0 x2:=by rw [cut_u8];simp
   rw [hct];refine aa ?_;refine au ?_;exact en [_]
  ·rw [if_neg h3] at hr;simp only [a₂] at hr;obtain⟨rfl,rfl⟩:=hr;refine ad rfl ?_ ?_ <;> intro h
   ·exfalso;have:(x3:Int)=0:=by simpa using h
    omega
   refine aa ?_;refine aL rfl rfl (by intro R hR;refine cI hR ?_;refine a₀ ((bP raw)) ?_;refine a₀ ⟨rfl,ai (by kernel_rfl) pf⟩ ?_;refine⟨u8s raw,sv (by show [] ++ u8s raw=_;rw [a₈]),raw.length,sv pf,?_⟩;exact hR) rfl ?_;have f1:=aj.mk (cE b2);have f2:=aj.mk (show bW (u8s raw) (0 + x2)=some (.int .u8 raw[x2].toNat) by rw [bS,a₃];simp [u8s,b2]);have f3:=aU.mk (Mo x4);generalize raw[x2] =ob at *;refine aa ?_;refine yc (cn4) [(0,0)] ?_;refine aa ?_;rw [c₁];refine⟨[_],[],[(30,raw.length)],rfl,rfl,?_,rfl,⟨?_,trivial⟩,?_⟩
   ·exact⟨by show raw.length≤(setL (u8s raw) (0 + x2) _).length;rw [setL_eq];simp [u8s],trivial⟩
   ·refine .inr ⟨rfl,rfl,rfl,a₇ (a₃ _),?_⟩
    show cutL (setL (u8s raw) (0 + x2) (BF (UInt8.ofNat x4))) 0 (0 + raw.length)=u8s (raw.set x2 (UInt8.ofNat x4))
    rw [setL_eq,a₃];have e1:(u8s raw).set x2 (BF (UInt8.ofNat x4))=u8s (raw.set x2 (UInt8.ofNat x4)):=by unfold u8s;rw [List.map_set]
    rw [e1,cut_u8,c₆,a₃,Nat.sub_zero,List.take_of_length_le (by rw [c₁];omega)]
   ·exact mm
 ·rw [if_pos h1] at hr;simp only [a₂] at hr;obtain⟨rfl,rfl⟩:=hr;refine ad rfl ?_ ?_ <;> intro h
  ·exfalso;have:(x1:Int)=0:=by simpa using h
   omega
  refine aa ?_;refine au ?_;exact en [_]
end
section
variable {G:GS}
attribute [local irreducible] ak aB aD aI aN vC aW aw
def mG (L:List Int) (N:Nat) (raw:List UInt8) (out:List (List UInt8)):List UInt8×Nat:=
 if out.length=0 then(raw,N) else if nextN L N 9≠0 then(raw,N + 1) else(out.getD (nextN L (N + 1) out.length) [],N + 2)
def lF (L:List Int) (price:Nat):Nat→Nat→dK→List (List UInt8)→List (List UInt8)×Nat
 | 0,N,_,out=>(out,N)
 | i + 1,N,l,out=>lF L price i (mG L (ja L N l.acs price).2 (ja L N l.acs price).1 out).2 (qX l price (mG L (ja L N l.acs price).2 (ja L N l.acs price).1 out).1) (out ++ [(mG L (ja L N l.acs price).2 (ja L N l.acs price).1 out).1])
def pR (L:List Int) (N:Nat) (a:ef) (n:Nat):List (List UInt8)×Nat:=lF L a.price (nextN L N (n + 1)) (N + 1) a.com []
theorem Ac {L:List Int} {N:Nat} {raw:List UInt8} {out:List (List UInt8)} (h:raw.length≤4096) (ho: ∀b∈out,b.length≤4096):(mG L N raw out).1.length≤4096∧(mG L N raw out).2≤N + 2:=by
 unfold mG;split
 ·exact⟨h,dm⟩
 ·split
  ·exact⟨h,dm⟩
  ·refine⟨?_,dm⟩;dsimp only;rw [b₉];cases hx:out[nextN L (N + 1) out.length]? with
   | none=>simp
   | some x=>exact ho x (c₂ hx)
theorem Ad (L:List Int) (price:Nat): ∀(i N:Nat) (l:dK) (out:List (List UInt8)),eN l→(∀b∈out,b.length≤4096)→(∀b∈(lF L price i N l out).1,b.length≤4096)∧(lF L price i N l out).1.length=out.length + i∧(lF L price i N l out).2≤N + 26 * i
 | 0,N,l,out,_,ho=>⟨ho,rfl,by simp [lF]⟩
 | i + 1,N,l,out,hl,ho=>by
  have h1:=sH (L:=L) (N:=N) (price:=price) hl.2.2
  have h2:=Ac (L:=L) (N:=(ja L N l.acs price).2) h1.1 ho
  have h3:=Ad L price i (mG L (ja L N l.acs price).2 (ja L N l.acs price).1 out).2 (qX l price (mG L (ja L N l.acs price).2 (ja L N l.acs price).1 out).1) (out ++ [(mG L (ja L N l.acs price).2 (ja L N l.acs price).1 out).1]) (jQ hl).1 (ez ho fun b hb=>by rw [b₃.1 hb];exact h2.1)
  refine⟨h3.1,?_,?_⟩
  ·have:=h3.2.1
   rw [lF,this,a₅,a₄];omega
  ·have:=h3.2.2
   rw [lF];omega
theorem H4 {L:List Int} {N:Nat} {a:ef} {n:Nat} (ha:fm a) (hn:n≤100):(∀b∈(pR L N a n).1,b.length≤4096)∧(pR L N a n).1.length≤n∧(pR L N a n).2≤N + 1 + 26 * n:=by
 have h1:=(de L N (n + 1) om).2;have h2:=Ad L a.price (nextN L N (n + 1)) (N + 1) a.com [] ha.1 sm;unfold pR;refine⟨h2.1,?_,?_⟩
 ·have:=h2.2.1;simp only [b₇] at this;omega
 ·have:=h2.2.2;omega
theorem Mt (L:List Int) (N:Nat) (a:ef) (n:Nat) (hN:N < 1000000000000000000) (ha:fm a) (hn:n≤100):aQ Tryz.prog G 30 [numP,appM a, .int .i64 n] (ej L N) 1 (.sl (pR L N a n).1.length ((pR L N a n).1.map bk)) (ej L (pR L N a n).2) 1:=by
 have cn:=eK (G:=G) L N (n + 1) om om om;have bn:=(de L N (n + 1) om).2;unfold pR;obtain⟨⟨a1,b1⟩,⟨a2,b2⟩,⟨a3,b3⟩,op,price⟩:=a;obtain⟨hs1,_,_,hp⟩:=ha;dsimp only at *;generalize nextN L N (n + 1)=m at *;generalize hr:lF L price m (N + 1) ⟨a1,b1⟩ [] =R;obtain⟨Ro,RN⟩:=R;unfold appM eh;dsimp only;refine dw seat Tryz.func30 51 ?_;refine aa ?_;refine yc (cn) [(0,0)] ?_;refine aa ?_;refine av (Nat×Nat×dK×List (List UInt8)) (fun x=> [(9, .int .i64 x.1),(8, .ptr 2 2 0 0 []),(7, .ms 3 1 0 x.2.2.2.length),(4, .ptr 1 8 0 0 []),(0,numP)]) (fun x=>ej L x.2.1 ++ [(1,⟨35,8,false,0,[.st [.st [.sl a1.length (a1.map aT), .int .u64 b1], .st [.sl a2.length (a2.map aT), .int .u64 b2], .st [.sl a3.length (a3.map aT), .int .u64 b3], .bool op, .int .u64 price]]⟩),(2,⟨33,2,false,0,[.st [.sl x.2.2.1.acs.length (x.2.2.1.acs.map aT), .int .u64 x.2.2.1.col]]⟩),(3,⟨41,1,true,0,x.2.2.2.map bk⟩)]) 4 (fun x=>x.1≤101∧x.2.1 + 26 * x.1 < 1000000000000010000∧eN x.2.2.1∧(∀b∈x.2.2.2,b.length≤4096)∧x.2.2.2.length + x.1≤101∧lF L price x.1 x.2.1 x.2.2.1 x.2.2.2=(Ro,RN)) (fun x=>x.1) (m,N + 1,⟨a1,b1⟩,[]) ⟨dm,dm,hs1,sm,by simp;omega,hr⟩ (by dsimp only;exact(vm [(1,_),(2,_)] [])) ?_;clear hr hs1;rintro⟨i,K,⟨acs,col⟩,out⟩ ⟨hi,hK,hsl,hob,hol,hR⟩;try dsimp only
 dsimp only at hi hK hob hol hR;refine aa ?_;refine ad rfl ?_ ?_ <;> intro h
 ·have hi':0 < i:=by have:=ot h;omega
  obtain⟨j,rfl⟩: ∃j,i=j + 1:=⟨i - 1,om⟩
  rw [lF] at hR;have c1:=H3 (G:=G) L K ⟨acs,col⟩ price om hsl hp;have k1:=sH (L:=L) (N:=K) (price:=price) hsl.2.2;have k2:=Ac (L:=L) (N:=(ja L K acs price).2) k1.1 hob;dsimp only at c1 k1 hR;generalize ja L K acs price=rw' at *;obtain⟨raw,K1⟩:=rw';dsimp only at c1 k1 k2 hR;generalize hpk:mG L K1 raw out=pk at *;obtain⟨raw2,K2⟩:=pk;dsimp only at k2 hR;have c4:=Kt (G:=G) ⟨acs,col⟩ price raw2 hsl hp om;have k4:eN (qX ⟨acs,col⟩ price raw2):=(jQ hsl).1;generalize qX ⟨acs,col⟩ price raw2=l2 at *;obtain⟨acs2,col2⟩:=l2;unfold eh at c1 c4;dsimp only at c1 c4;unfold mG at hpk;have hcast:((j + 1:Nat):Int) - 1=(j:Int):=om;refine aa ?_;refine yc (c1) [(0,0)] ?_;refine aa ?_;refine sB Unit (fun _=> [(10, .sl raw2.length (u8s raw2)),(9, .int .i64 (j + 1:Nat)),(8, .ptr 2 2 0 0 []),(7, .ms 3 1 0 out.length),(4, .ptr 1 8 0 0 []),(0,numP)]) (fun _=>ej L K2 ++ [(1,⟨35,8,false,0,[.st [.st [.sl a1.length (a1.map aT), .int .u64 b1], .st [.sl a2.length (a2.map aT), .int .u64 b2], .st [.sl a3.length (a3.map aT), .int .u64 b3], .bool op, .int .u64 price]]⟩),(2,⟨33,2,false,0,[.st [.sl acs.length (acs.map aT), .int .u64 col]]⟩),(3,⟨41,1,true,0,out.map bk⟩)]) (fun _=>4) (fun _=>True) (fun JQ hj=>?_) (fun _ _=>?_)
  ·by_cases h0:out.length=0
   ·rw [if_pos h0] at hpk;simp only [a₂] at hpk;obtain⟨rfl,rfl⟩:=hpk;refine ag rfl rfl ?_ rfl ?_ <;> intro h
    ·exact absurd (ot h) om
    refine aa ?_;exact hj.nrm () trivial (vm [(1,_),(2,_),(3,_)] [])
   rw [if_neg h0] at hpk;have cn1:=eK (G:=G) L K1 9 om om om;have cn2:=eK (G:=G) L (K1 + 1) out.length om om om;have b2:=(de L (K1 + 1) out.length om).2;rw [show K1 + 2=K1 + 1 + 1 from rfl] at hpk;generalize nextN L K1 9=x1 at *;generalize nextN L (K1 + 1) out.length=x2 at *;refine ag rfl rfl ?_ rfl ?_ <;> intro h
   rotate_left
   ·exact absurd (oF h) om
   refine aa ?_;refine yc (cn1) [(0,0)] ?_;refine aa ?_;by_cases h1:x1=0
   ·rw [if_neg (by simp [h1])] at hpk;have hgd:out.getD x2 [] =out[x2] :=by simp [b2]
    have hel:bW (out.map bk) (0 + x2)=some (bk out[x2]):=by rw [bS,a₃];simp [b2]
    rw [hgd] at hpk;clear hgd;generalize out[x2] =ox at *;simp only [a₂] at hpk;obtain⟨rfl,rfl⟩:=hpk;replace hel:bW (out.map bk) (0 + x2)=some (.sl ox.length (u8s ox)):=hel;have hel:=aj.mk hel;have f1:=aj.mk (cE b2);refine ad rfl ?_ ?_ <;> intro h
    rotate_left
    ·exact absurd h (by simp [h1])
    refine aa ?_;refine yc (cn2) [(0,0)] ?_;refine aa ?_;exact hj.nrm () trivial (vm [(1,_),(2,_),(3,_)] [])
   ·rw [if_pos h1] at hpk;simp only [a₂] at hpk;obtain⟨rfl,rfl⟩:=hpk;refine ad rfl ?_ ?_ <;> intro h
    ·exfalso;have:(x1:Int)=0:=by simpa using h
     omega
    refine aa ?_;exact hj.nrm () trivial (vm [(1,_),(2,_),(3,_)] [])
  ·try dsimp only
   have hll:(out.map bk).length=out.length:=by simp
   refine aa ?_;refine aL rfl rfl (by intro R hR;refine cI hR ?_;(refine a₀ (a₁ _) ?_;refine⟨_,rfl,?_⟩;refine a₀ ⟨hll,ai (by kernel_rfl) pf⟩ ?_;refine⟨(out ++ [raw2]).map bk,sv (by rw [a₆];rfl),out.length + 1,sv pf,?_⟩);exact hR) rfl ?_;refine aa ?_;refine dL (c4) ?_;exact⟨(j,K2,⟨acs2,col2⟩,out ++ [raw2]),⟨by dsimp only;omega,by dsimp only;omega,k4,ez hob fun b hb=>by rw [b₃.1 hb];exact k2.1,by dsimp only;rw [a₅,a₄];omega,hR⟩,by dsimp only;omega,(by dsimp only;rw [a₅,a₄];exact(vm [(1,_),(2,_),(3,_)] []))⟩
 ·have hi':i=0:=by have:=oF h;omega
  subst hi';rw [lF] at hR;simp only [a₂] at hR;obtain⟨rfl,rfl⟩:=hR;refine aa ?_;refine⟨[_],[],[(3,out.length)],rfl,rfl,?_,rfl,⟨?_,trivial⟩,?_⟩
  ·exact⟨by show out.length≤(out.map bk).length;simp,trivial⟩
  ·exact .inr ⟨rfl,rfl,rfl,a₇ (a₃ _),bc bk out⟩
  ·exact mm
end
section
variable {G:GS}
attribute [local irreducible] ak aB aD aI aN vC aW aw
theorem Mu {k:Nat} (hk:k < 4): ∃nm:List UInt8,bW [MV.str [97,110,110],MV.str [98,111,98],MV.str [101,118,101],MV.str [122,111,101]] (0 + k)=some (.str nm)∧nm.length≤5:=by
 have h4:k=0∨k=1∨k=2∨k=3:=om;rcases h4 with rfl | rfl | rfl | rfl <;> exact⟨_,rfl,by decide⟩
theorem Mv {k:Nat} (hk:k < 5): ∃v:Nat,bW [MV.int .u64 100000,MV.int .u64 5000,MV.int .u64 700,MV.int .u64 0,MV.int .u64 1099511627776] (0 + k)=some (.int .u64 (v:Int))∧bo v:=by
 have h5:k=0∨k=1∨k=2∨k=3∨k=4:=om;rcases h5 with rfl | rfl | rfl | rfl | rfl
 ·exact⟨100000,rfl,by decide⟩
 ·exact⟨5000,rfl,by decide⟩
 ·exact⟨700,rfl,by decide⟩
 ·exact⟨0,rfl,by decide⟩
 ·exact⟨1099511627776,rfl,by decide⟩
theorem H5 {k:Nat} (hk:k < 3): ∃v:Nat,bW [MV.int .u64 5,MV.int .u64 18446744073709551615,MV.int .u64 18446744073709551614] (0 + k)=some (.int .u64 (v:Int))∧bo v:=by
 have h3:k=0∨k=1∨k=2:=om;rcases h3 with rfl | rfl | rfl
 ·exact⟨5,rfl,by decide⟩
 ·exact⟨18446744073709551615,rfl,by decide⟩
 ·exact⟨18446744073709551614,rfl,by decide⟩
theorem Mw (L:List Int) (N:Nat) (hN:N < 4000000000000000000):qY G L 13 [numP] N fun r N'=> ∃acs:List bf,acs.length≤4∧(∀a∈acs,SmAc a)∧N'≤N + 14∧r= .sl acs.length (acs.map aT):=by
 obtain⟨m,hm,cm⟩:=bg (G:=G) L N 4 om om om;unfold qY;refine seq' seat Tryz.func13 36 ?_;refine aa ?_;refine yc (cm) [(0,0)] ?_;refine aa ?_;refine av (Nat×Nat×List bf) (fun x=> [(4, .int .i64 ((x.1:Int) - 1)),(3, .ms 1 3 0 x.2.2.length),(0,numP)]) (fun x=>ej L x.2.1 ++ [(1,⟨91,3,true,0,x.2.2.map aT⟩)]) 2 (fun x=>x.1 + x.2.2.length≤4∧x.2.1 + 3 * x.1≤N + 14∧(∀a∈x.2.2,SmAc a)) (fun x=>x.1) (m + 1,N + 1,[]) ⟨by simp;omega,dm,sm⟩ (by dsimp only;exact vm [] []) ?_;rintro⟨j,K,acs⟩ ⟨h1,h2,h3⟩;try dsimp only
 dsimp only at h1 h2 h3;refine aa ?_;refine ad rfl ?_ ?_ <;> intro h
 ·have hj:1≤j:=by have:=ot h;omega
  obtain⟨i,rfl⟩: ∃i,j=i + 1:=⟨j - 1,om⟩
  have hcast:((i + 1:Nat):Int) - 1=(i:Int):=om;rw [hcast];obtain⟨nm,f1,g1⟩:=Mu (k:=i) om;obtain⟨x5,hx5,c5⟩:=bg (G:=G) L K 5 om om om;obtain⟨bal,f2,g2⟩:=Mv (k:=x5) hx5;obtain⟨x6,hx6,c6⟩:=bg (G:=G) L (K + 1) 6 om om om;obtain⟨x3,hx3,c3⟩:=bg (G:=G) L (K + 1 + 1) 3 om om om;obtain⟨sq,f3,g3⟩:=H5 (k:=x3) hx3;have f1:=aj.mk f1;have f2:=aj.mk f2;have f3:=aj.mk f3;have i1:=aj.mk (cE (n:=4) (k:=i) om);have i2:=aj.mk (cE hx5);have i3:=aj.mk (cE hx3);have hll:(acs.map aT).length=acs.length:=sm;refine aa ?_;refine al [ae 0,ae 1,ae 2,ae 3,ae 4,ae 5,dj 6,ae 7,ae 8,ae 9,ae 10,ae 11] ?_;refine aa ?_;refine cK rfl aA rfl [0] (c5) [(0,0)] [] ⟨rfl,trivial,rfl,lm,mm⟩ rfl rfl rfl rfl ?_;refine aa ?_;refine yc (c6) [(0,0)] ?_;refine aa ?_;refine ad rfl ?_ ?_ <;> intro h
  ·refine aa ?_;refine yc (c3) [(0,0)] ?_;refine aa ?_;refine aL rfl rfl (by intro R hR;refine cI hR ?_;(refine a₀ (a₁ _) ?_;refine⟨_,rfl,?_⟩;refine a₀ ⟨hll,ai (by kernel_rfl) pf⟩ ?_;refine⟨(acs ++ [(⟨nm,bal,sq⟩:bf)]).map aT,sv (by rw [a₆];rfl),acs.length + 1,sv pf,?_⟩);exact hR) rfl ?_;refine aa ?_;exact⟨(i,K + 1 + 1 + 1,acs ++ [⟨nm,bal,sq⟩]),⟨by dsimp only;rw [a₅,a₄];omega,dm,ez h3 fun a ha=>by rw [b₃.1 ha];exact⟨dm,g2,g3⟩⟩,dm,(by dsimp only;rw [a₅,a₄];exact(vm [(1,_)] []))⟩
  ·refine aa ?_;refine aL rfl rfl (by intro R hR;refine cI hR ?_;(refine a₀ (a₁ _) ?_;refine⟨_,rfl,?_⟩;refine a₀ ⟨hll,ai (by kernel_rfl) pf⟩ ?_;refine⟨(acs ++ [(⟨nm,bal,0⟩:bf)]).map aT,sv (by rw [a₆];rfl),acs.length + 1,sv pf,?_⟩);exact hR) rfl ?_;refine aa ?_;exact⟨(i,K + 1 + 1,acs ++ [⟨nm,bal,0⟩]),⟨by dsimp only;rw [a₅,a₄];omega,dm,ez h3 fun a ha=>by rw [b₃.1 ha];exact⟨dm,g2,by simp [bo]⟩⟩,dm,(by dsimp only;rw [a₅,a₄];exact(vm [(1,_)] []))⟩
 ·refine aa ?_;refine⟨_,_,_,⟨K,⟨⟨acs,om,h3,om,rfl⟩,rfl⟩,rfl,rfl⟩,?_⟩;refine⟨[_],[],[(1,acs.length)],rfl,rfl,?_,rfl,⟨?_,trivial⟩,?_⟩
  ·exact⟨by show acs.length≤(acs.map aT).length;simp,trivial⟩
  ·exact .inr ⟨rfl,rfl,rfl,a₇ (a₃ _),bc aT acs⟩
  ·exact mm
structure ou where
 maxTxs:Int
 maxBytes:Int
 maxTx:Int
 cache:Int
 ttlB:Int
 ttlT:Int
 keep:Bool
 blkB:Int
 blkG:Int
 price:Nat
 self:Int
 nodes:Int
abbrev cfM (c:ou):MV:= .st [.int .i64 c.maxTxs, .int .i64 c.maxBytes, .int .i64 c.maxTx, .int .i64 c.cache, .int .i64 c.ttlB, .int .i64 c.ttlT, .bool c.keep, .int .i64 c.blkB, .int .i64 c.blkG, .int .u64 c.price, .int .i64 c.self, .int .i64 c.nodes]
structure vA (c:ou):Prop where
 maxTxs:1≤c.maxTxs∧c.maxTxs≤512
 maxBytes:1≤c.maxBytes∧c.maxBytes≤1048576
 maxTx:1≤c.maxTx∧c.maxTx≤4096
 cache:0≤c.cache∧c.cache≤1024
 ttlB:0≤c.ttlB∧c.ttlB≤1073741824
 ttlT:0≤c.ttlT∧c.ttlT≤1073741824
 blkB:1≤c.blkB∧c.blkB≤1048576
 blkG: -1≤c.blkG∧c.blkG≤1125899906842624
 price:bo c.price
 self:0≤c.self∧c.self < c.nodes
 nodes:c.nodes≤8
abbrev N9:MV:= .st [.int .i64 0, .int .i64 0, .int .i64 0, .int .i64 0, .int .i64 0, .int .i64 0, .bool false, .int .i64 0, .int .i64 0, .int .u64 0, .int .i64 0, .int .i64 0]
theorem H6 (L:List Int) (N:Nat) (hN:N < 4000000000000000000):qY G L 101 [numP] N fun r N'=> ∃c:ou,vA c∧N'≤N + 14∧r=cfM c:=by
 obtain⟨x0,b0,c0⟩:=bg (G:=G) L (N) 7 om om om;obtain⟨x1,b1,c1⟩:=bg (G:=G) L (N + 1) 400 om om om;obtain⟨x2,b2,c2⟩:=bg (G:=G) L (N + 1 + 1) 140 om om om;obtain⟨x3,b3,c3⟩:=bg (G:=G) L (N + 1 + 1 + 1) 12 om om om;obtain⟨x4,b4,c4⟩:=bg (G:=G) L (N + 1 + 1 + 1 + 1) 4 om om om;obtain⟨x5,b5,c5⟩:=bg (G:=G) L (N + 1 + 1 + 1 + 1 + 1) 3 om om om;obtain⟨x6,b6,c6⟩:=bg (G:=G) L (N + 1 + 1 + 1 + 1 + 1 + 1) 20 om om om;obtain⟨x7,b7,c7⟩:=bg (G:=G) L (N + 1 + 1 + 1 + 1 + 1 + 1 + 1) 3 om om om;obtain⟨x8,b8,c8⟩:=bg (G:=G) L (N + 1 + 1 + 1 + 1 + 1 + 1 + 1 + 1) 400 om om om;obtain⟨x9,b9,c9⟩:=bg (G:=G) L (N + 1 + 1 + 1 + 1 + 1 + 1 + 1 + 1 + 1) 3 om om om;obtain⟨x10,b10,c10⟩:=bg (G:=G) L (N + 1 + 1 + 1 + 1 + 1 + 1 + 1 + 1 + 1 + 1) 3 om om om;have hm:0≤(x5:Int) * x6∧(x5:Int) * x6 < 60:=by
  have e:x5=0∨x5=1∨x5=2:=om;rcases e with rfl | rfl | rfl <;> simp <;> omega
 generalize hM:(x5:Int) * x6=M at *;have em:=aU.mk (show IntKind.i64.wrap ((x5:Int) * x6)=M by rw [hM];exact eo _ om om);unfold qY;refine seq' seat Tryz.func101 47 ?_;refine aa ?_;refine yc (c0) [(0,0)] ?_;refine aa ?_;refine yc (c1) [(0,0)] ?_;refine aa ?_;refine yc (c2) [(0,0)] ?_;refine od ([(11, .int .i64 x2),(9, .int .i64 (250 + (x1:Int))),(6, .int .i64 (1 + (x0:Int))),(2, .ptr 1 12 0 0 []),(0,numP)]) (ej L (N + 1 + 1 + 1) ++ [(1,⟨66,12,false,0,[N9]⟩)]) [] trivial rfl mm mm ?_;refine aa ?_;refine yc (c3) [(0,0)] ?_;refine aa ?_;refine yc (c4) [(0,0)] ?_;refine aa ?_;refine yc (c5) [(0,0)] ?_;refine od ([(18, .int .i64 x5),(16, .int .i64 x4),(14, .int .i64 x3),(12, .int .i64 (60 + (x2:Int))),(9, .int .i64 (250 + (x1:Int))),(6, .int .i64 (1 + (x0:Int))),(2, .ptr 1 12 0 0 []),(0,numP)]) (ej L (N + 1 + 1 + 1 + 1 + 1 + 1) ++ [(1,⟨66,12,false,0,[N9]⟩)]) [] trivial rfl mm mm ?_;refine aa ?_;refine yc (c6) [(0,0)] ?_;refine aa ?_;refine yc (c7) [(0,0)] ?_;refine aa ?_;refine yc (c8) [(0,0)] ?_;refine od ([(26, .int .i64 x8),(24, .bool ((x7:Int) == 0)),(21, .int .i64 M),(16, .int .i64 x4),(14, .int .i64 x3),(12, .int .i64 (60 + (x2:Int))),(9, .int .i64 (250 + (x1:Int))),(6, .int .i64 (1 + (x0:Int))),(2, .ptr 1 12 0 0 []),(0,numP)]) (ej L (N + 1 + 1 + 1 + 1 + 1 + 1 + 1 + 1 + 1) ++ [(1,⟨66,12,false,0,[N9]⟩)]) [] trivial rfl mm mm ?_;refine aa ?_;refine yc (c9) [(0,0)] ?_;refine aa ?_;refine yc (c10) [(0,0)] ?_;refine aa ?_;refine qH (Nat×Int) (fun x=> [(0,numP),(2, .ptr 1 12 0 0 []),(3, .ptr 2 12 0 0 [])]) (fun x=>ej L x.1 ++ [(1,⟨66,12,false,0,[N9]⟩),(2,⟨66,12,false,0,[.st [.int .i64 (1 + (x0:Int)), .int .i64 (250 + (x1:Int)), .int .i64 (60 + (x2:Int)), .int .i64 x3, .int .i64 x4, .int .i64 M, .bool ((x7:Int) == 0), .int .i64 (100 + (x8:Int)), .int .i64 x.2, .int .u64 x9, .int .i64 0, .int .i64 1]]⟩)]) (fun _=>3) (fun x=>x.1≤N + 12∧ -1≤x.2∧x.2≤2000) (fun JQ hj=>?_) (fun x hx=>?_)
 ·refine ad rfl ?_ ?_ <;> intro h
  ·obtain⟨y,hy,cy⟩:=bg (G:=G) L (N + 1 + 1 + 1 + 1 + 1 + 1 + 1 + 1 + 1 + 1 + 1) 900 om om om;refine aa ?_;refine yc (cy) [(0,0)] ?_;refine aa ?_;exact hj.nrm (N + 1 + 1 + 1 + 1 + 1 + 1 + 1 + 1 + 1 + 1 + 1 + 1,200 + (y:Int)) ⟨dm,dm,dm⟩ (by dsimp only;exact(vm [(1,_),(2,_)] []))
  ·refine aa ?_;exact hj.nrm (N + 1 + 1 + 1 + 1 + 1 + 1 + 1 + 1 + 1 + 1 + 1, -1) ⟨dm,dm,dm⟩ (by dsimp only;exact(vm [(1,_),(2,_)] []))
 ·obtain⟨K,g⟩:=x;dsimp only at hx;obtain⟨hK,hg1,hg2⟩:=hx;obtain⟨z,hz,cz⟩:=bg (G:=G) L K 6 om om om;obtain⟨w,hw,cw⟩:=bg (G:=G) L (K + 1) 40 om om om;try dsimp only
  refine aa ?_;refine yc (cz) [(0,0)] ?_;refine aa ?_;refine ad rfl ?_ ?_ <;> intro h
  ·refine aa ?_;refine yc (cw) [(0,0)] ?_;refine aa ?_;refine au ?_;exact⟨_,_,_,⟨_,⟨⟨⟨1 + (x0:Int),250 + (x1:Int),40 + (w:Int),x3,x4,M,(x7:Int) == 0,100 + (x8:Int),g,x9,0,1⟩,⟨dm,dm,dm,dm,dm,dm,dm,dm,by unfold bo;dsimp only;omega,dm,dm⟩,(by show K + 1 + 1≤_;omega),rfl⟩,rfl⟩,rfl,rfl⟩,en [_]⟩
  ·refine aa ?_;refine au ?_;exact⟨_,_,_,⟨_,⟨⟨⟨1 + (x0:Int),250 + (x1:Int),60 + (x2:Int),x3,x4,M,(x7:Int) == 0,100 + (x8:Int),g,x9,0,1⟩,⟨dm,dm,dm,dm,dm,dm,dm,dm,by unfold bo;dsimp only;omega,dm,dm⟩,(by show K + 1≤_;omega),rfl⟩,rfl⟩,rfl,rfl⟩,en [_]⟩
end
section
variable {G:GS}
attribute [local irreducible] ak aB aD aI aN vC aW aw
theorem H7 (x:List UInt8) (hx:x.length < 536870912):aQ Tryz.prog G 117 [.sl x.length (u8s x)] [] 0 (.sl x.length (u8s x)) [] 0:=by
 refine dw seat Tryz.func117 8 ?_;refine aa ?_;refine GX rfl rfl (fun b hb=>?_);cases b with
 | true=>
  have h0:=hb rfl;have h1:x= [] :=List.length_eq_zero_iff.1 h0;subst h1;refine aa ?_;refine au ?_;exact en [_]
 | false=>
  refine aa ?_;refine aL rfl rfl (by intro R hR;refine cI hR ?_;refine a₀ ((bP x)) ?_;refine a₀ ⟨rfl,ai (by kernel_rfl) pf⟩ ?_;refine⟨u8s x,sv (by show [] ++ u8s x=_;rw [a₈]),x.length,sv pf,?_⟩;exact hR) rfl ?_;refine aa ?_;refine⟨[_],[],[(5,x.length)],rfl,rfl,?_,rfl,⟨?_,trivial⟩,?_⟩
  ·exact⟨by show x.length≤(u8s x).length;simp [u8s],trivial⟩
  ·exact rv
  ·exact mm
theorem E8 (l:List (List UInt8)) (hl:l.length≤1000000) (hb: ∀b∈l,b.length < 536870912):aQ Tryz.prog G 68 [dH l] [] 0 (dH l) [] 0:=by
 unfold dH;refine dw seat Tryz.func68 19 ?_;refine aa ?_;refine av Nat (fun k=> [(8, .int .i64 k),(7, .int .i64 l.length),(6, .sl l.length (l.map bk)),(3, .ms 0 1 0 k)]) (fun k=> [(0,⟨41,1,true,0,(l.take k).map bk⟩)]) 1 (fun k=>k≤l.length) (fun k=>l.length - k) 0 (a₉ _) (by rw [b₈];exact(vm [] [])) ?_;intro k hk;try dsimp only
 refine aa ?_;refine ad rfl ?_ ?_ <;> intro h
 ·have hk':k < l.length:=by have:=ot h;omega
  have hel:=gM hk';have hbl:=hb _ (b₅ hk');have hsucc:(l.take (k + 1)).map bk=(l.take k).map bk ++ [bk l[k]] :=by rw [b₀ hk',a₆];rfl
  have hll:((l.take k).map bk).length=k:=by simp;omega
  generalize l[k] =b at *;replace hel:bF (l.map bk) l.length (k:Int)=some (.sl b.length (u8s b)):=hel;have hel:=aj.mk hel;have c1:=H7 (G:=G) b hbl;refine aa ?_;refine jW (c1) ?_;refine aL rfl rfl (by intro R hR;refine cI hR ?_;(refine a₀ (a₁ _) ?_;refine⟨_,rfl,?_⟩;refine a₀ ⟨hll,ai (by kernel_rfl) pf⟩ ?_;refine⟨(l.take (k + 1)).map bk,sv (by rw [hsucc];rfl),k + 1,sv pf,?_⟩);exact hR) rfl ?_;refine aa ?_;exact⟨k + 1,by show k + 1≤l.length;omega,by show l.length - (k + 1) < l.length - k;omega,(by dsimp only;exact(vm [(0,_)] []))⟩
 ·have hk':k=l.length:=by have:=oF h;omega
  subst hk';rw [b₁];refine aa ?_;refine⟨[_],[],[(0,l.length)],rfl,rfl,?_,rfl,⟨?_,trivial⟩,?_⟩
  ·exact⟨by show l.length≤(l.map bk).length;simp,trivial⟩
  ·exact .inr ⟨rfl,rfl,rfl,a₇ (a₃ _),bc bk l⟩
  ·exact mm
theorem BX (n:Nat) (hn:bo n):aE Tryz.prog G 213 [.int .u64 n] (.int .i64 (cX n).length):=by
 unfold bo at hn;have hlen:=(dF hn).2;generalize hr:(cX n).length=R at *;refine bA seat Tryz.func213 11 ?_;refine aa ?_;refine av (Nat×Nat) (fun x=> [(3, .int .i64 x.2),(0, .int .u64 x.1)]) (fun _=> []) 0 (fun x=>x.1 < 18446744073709551616∧x.2 + (cX x.1).length=R + 1) (fun x=>x.1) (n,1) ⟨hn,dm⟩ (by dsimp only;exact(vm [] [])) ?_;rintro⟨m,s⟩ ⟨hm,hs⟩;try dsimp only
 dsimp only at hm hs;have e1:=aU.mk (Hg m);refine aa ?_;refine ad rfl ?_ ?_ <;> intro h
 ·have hge:=ot h;rw [sD om,c₄] at hs;refine aa ?_;exact⟨(m / 128,s + 1),⟨dm,dm⟩,dm,(by dsimp only;exact(vm [] []))⟩
 ·have hge:=oF h;rw [na om,a₄] at hs;have:s=R:=om;subst this;refine aa ?_;refine au ?_;rfl
theorem H8 (n:Nat) (hn:n < 4611686018427387904):aE Tryz.prog G 154 [.int .i64 n] (.int .i64 (iR n)):=by
 have c1:=BX (G:=G) n (by unfold bo;omega);have h2:=(dF (n:=n) om).2;unfold iR;generalize (cX n).length=v at *;have hw:=aU.mk (show IntKind.u64.wrap (n:Int)=(n:Int) from bM _ om om);refine bA seat Tryz.func154 11 ?_;refine aa ?_;(iterate 6 ((all_goals(refine aa ?_));(all_goals(first | (refine ah rfl aA rfl (src (c1)) rfl rfl ?_) | ((first | refine ag rfl rfl ?_ rfl ?_ | refine ad rfl ?_ ?_);all_goals(intro h;(try simp only [pl] at h);(try (exfalso;omega)))) | skip))));all_goals(refine au ?_)
 all_goals(refine congrArg (MV.int .i64) ?_;omega)
def sumB (l:List (List UInt8)):Nat:=(l.map fun b=>iR b.length).sum
theorem wv (l:List (List UInt8)) {k:Nat} (hk:k < l.length):sumB (l.take (k + 1))=sumB (l.take k) + iR l[k].length:=by
 unfold sumB;rw [b₀ hk,a₆,c₅];simp
theorem pS (B:Nat): ∀(l:List (List UInt8)),(∀b∈l,b.length≤B∧bo b.length)→sumB l≤l.length * (B + 11)
 | [],_=>by simp [sumB]
 | b :: l,h=>by
  have h1:=zY (h b sm).2
  have h2:=(h b sm).1
  have ih:=pS B l fun x hx=>h x (by simp [hx])
  have e:sumB (b :: l)=iR b.length + sumB l:=by simp [sumB]
  rw [e,c₄,Nat.add_mul]
  omega
theorem pT (l:List (List UInt8)) (k:Nat):sumB (l.take k)≤sumB l:=by
 have:sumB (l.take k) + sumB (l.drop k)=sumB l:=by
  unfold sumB;rw [← c₅,← a₆,List.take_append_drop]
 omega
theorem H9 (l:List (List UInt8)) (hl:l.length≤1000000) (hb: ∀b∈l,b.length≤300000000):aE Tryz.prog G 115 [dH l] (.int .i64 (sumB l)):=by
 have hsum:=pS 300000000 l fun b h=>⟨hb b h,by have:=hb b h;unfold bo;omega⟩
 have hmax:l.length * (300000000 + 11)≤1000000 * 300000011:=b₂ _ hl;unfold dH;refine bA seat Tryz.func115 19 ?_;refine aa ?_;refine av Nat (fun k=> [(8, .int .i64 k),(7, .int .i64 l.length),(6, .sl l.length (l.map bk)),(3, .int .i64 (sumB (l.take k)))]) (fun _=> []) 0 (fun k=>k≤l.length) (fun k=>l.length - k) 0 (a₉ _) (by rw [b₈];exact(vm [] [])) ?_;intro k hk;try dsimp only
 refine aa ?_;refine ad rfl ?_ ?_ <;> intro h
 ·have hk':k < l.length:=by have:=ot h;omega
  have hel:=gM hk';have hbl:=hb _ (b₅ hk');have hsucc:=wv l hk';have hc1:=pT l k;have hc2:=pT l (k + 1);generalize l[k] =b at *;replace hel:bF (l.map bk) l.length (k:Int)=some (.sl b.length (u8s b)):=hel;have hel:=aj.mk hel;have c1:=xQ (G:=G) b.length om;generalize iR b.length=v at *;refine aa ?_;refine dL (c1) ?_;exact⟨k + 1,by show k + 1≤l.length;omega,by show l.length - (k + 1) < l.length - k;omega,(by dsimp only;rw [hsucc];exact(vm [] []))⟩
 ·have hk':k=l.length:=by have:=oF h;omega
  subst hk';rw [b₁];refine aa ?_;refine au ?_;rfl
theorem Mx (l:List (List UInt8)) (hl:l.length≤1000000) (hb: ∀b∈l,b.length≤300000000):aE Tryz.prog G 100 [dH l] (.int .i64 (sumB l)):=by
 have hsum:=pS 300000000 l fun b h=>⟨hb b h,by have:=hb b h;unfold bo;omega⟩
 have hmax:l.length * (300000000 + 11)≤1000000 * 300000011:=b₂ _ hl;unfold dH;refine bA seat Tryz.func100 19 ?_;refine aa ?_;refine av Nat (fun k=> [(8, .int .i64 k),(7, .int .i64 l.length),(6, .sl l.length (l.map bk)),(3, .int .i64 (sumB (l.take k)))]) (fun _=> []) 0 (fun k=>k≤l.length) (fun k=>l.length - k) 0 (a₉ _) (by rw [b₈];exact(vm [] [])) ?_;intro k hk;try dsimp only
 refine aa ?_;refine ad rfl ?_ ?_ <;> intro h
 ·have hk':k < l.length:=by have:=ot h;omega
  have hel:=gM hk';have hbl:=hb _ (b₅ hk');have hsucc:=wv l hk';have hc1:=pT l k;have hc2:=pT l (k + 1);generalize l[k] =b at *;replace hel:bF (l.map bk) l.length (k:Int)=some (.sl b.length (u8s b)):=hel;have hel:=aj.mk hel;have c1:=H8 (G:=G) b.length om;generalize iR b.length=v at *;refine aa ?_;refine dL (c1) ?_;exact⟨k + 1,by show k + 1≤l.length;omega,by show l.length - (k + 1) < l.length - k;omega,(by dsimp only;rw [hsucc];exact(vm [] []))⟩
 ·have hk':k=l.length:=by have:=oF h;omega
  subst hk';rw [b₁];refine aa ?_;refine au ?_;rfl
end
section
variable {G:GS}
attribute [local irreducible] ak aB aD aI aN vC aW aw
abbrev cj (x:Int):Prop:= -9223372036854775808≤x∧x < 9223372036854775808
structure wx where
 height:Int
 time:Int
 prop:Int
 par:List UInt8
 txs:List UInt8
 app:List UInt8
 res:List UInt8
 deriving DecidableEq
abbrev hdM (h:wx):MV:= .st [.int .i64 h.height, .int .i64 h.time, .int .i64 h.prop,keyM h.par,keyM h.txs,keyM h.app,keyM h.res]
structure jR (h:wx):Prop where
 height:cj h.height
 time:cj h.time
 prop:cj h.prop
 par:h.par.length=32
 txs:h.txs.length=32
 app:h.app.length=32
 res:h.res.length=32
def natP (x:Int):Nat:=(max x 0).toNat
theorem E9 (x:Int) (h:cj x):IntKind.u64.wrap (if (0:Int) > x then 0 else x)=((natP x:Nat):Int):=by
 unfold natP;rw [wu64];have:=h.1;have:=h.2;split <;> omega
theorem kA {x:Int} (h:cj x):bo (natP x):=by unfold natP bo;have:=h.2;omega
def gY (h:wx):List eE:= [⟨1,0,natP h.height,[]⟩,⟨2,0,natP h.time,[]⟩,⟨3,0,natP h.prop,[]⟩,⟨4,2,0,h.par⟩,⟨5,2,0,h.txs⟩,⟨6,2,0,h.app⟩,⟨7,2,0,h.res⟩]
def eD (h:wx):List UInt8:=aF (gY h)
def gi (h:wx):List UInt8:=gP (eD h)
theorem BY {h:wx} (hk:jR h): ∀f∈gY h,iz f∧f.bytes.length≤32:=by
 intro f hf;unfold gY at hf;simp only [List.mem_cons,List.not_mem_nil,or_false] at hf;rcases hf with rfl | rfl | rfl | rfl | rfl | rfl | rfl
 ·exact⟨mC om om (kA hk.height),sm⟩
 ·exact⟨mC om om (kA hk.time),sm⟩
 ·exact⟨mC om om (kA hk.prop),sm⟩
 ·exact⟨mD om om (by rw [hk.par];omega),by rw [hk.par];exact a₁ _⟩
 ·exact⟨mD om om (by rw [hk.txs];omega),by rw [hk.txs];exact a₁ _⟩
 ·exact⟨mD om om (by rw [hk.app];omega),by rw [hk.app];exact a₁ _⟩
 ·exact⟨mD om om (by rw [hk.res];omega),by rw [hk.res];exact a₁ _⟩
theorem jf {h:wx} (hk:jR h):(eD h).length≤400:=by
 have h1:=eO 32 _ (BY hk);have h2:(gY h).length=7:=rfl;rw [h2] at h1;unfold eD;omega
def Fa (n:Nat) (b:List UInt8):MV:= .st [.int .i64 n, .int .i64 2, .int .u64 0, .sl 32 (u8s b)]
theorem pU (n:Nat) {b:List UInt8} (h:b.length=32):Fa n b=bR ⟨n,2,0,b⟩:=by
 unfold Fa bR;dsimp only;rw [h];rfl
def BZ (h:wx):List MV:= [E0 ⟨1,0,natP h.height,[]⟩,E0 ⟨2,0,natP h.time,[]⟩,E0 ⟨3,0,natP h.prop,[]⟩,Fa 4 h.par,Fa 5 h.txs,Fa 6 h.app,Fa 7 h.res]
theorem Kv {h:wx} (hk:jR h):z1 (BZ h) (gY h):=
 .cons (.inr ⟨rfl,rfl⟩) (.cons (.inr ⟨rfl,rfl⟩) (.cons (.inr ⟨rfl,rfl⟩) (.cons (.inl (pU 4 hk.par)) (.cons (.inl (pU 5 hk.txs)) (.cons (.inl (pU 6 hk.app)) (.cons (.inl (pU 7 hk.res)) .nil))))))
theorem uG (h:wx) (hk:jR h):aQ Tryz.prog G 70 [hdM h] [] 0 (.sl (eD h).length (u8s (eD h))) [] 0:=by
 have hl:=jf hk;have cm:=nq (G:=G) (gY h) (BZ h) (Kv hk) (fun f hf=>(BY hk f hf).1) (by show(eD h).length < _;omega) (by show 7 < 1000000;omega)
 show aQ _ _ _ _ _ _ (.sl (aF (gY h)).length (u8s (aF (gY h)))) _ _
 obtain⟨height,time,prop,par,txs,app,res⟩:=h;obtain⟨h1,h2,h3,h4,h5,h6,h7⟩:=hk;dsimp only at h1 h2 h3 h4 h5 h6 h7;have e1:=aU.mk (E9 height h1);have e2:=aU.mk (E9 time h2);have e3:=aU.mk (E9 prop h3);clear hl;generalize hmm:aF (gY ⟨height,time,prop,par,txs,app,res⟩)=mm' at *;clear hmm;refine dw seat Tryz.func70 58 ?_;refine aa ?_;refine av Nat (fun k=> [(16, .int .i64 k),(15, .int .i64 3),(14, .ms 1 1 0 3),(3, .ms 2 4 0 k),(1, .ptr 0 131 0 0 [])]) (fun k=> [(0,⟨79,131,false,0,[.st [.int .i64 height, .int .i64 time, .int .i64 prop,keyM par,keyM txs,keyM app,keyM res]]⟩),(1,⟨3,1,true,0,[.int .i64 height, .int .i64 time, .int .i64 prop]⟩),(2,⟨183,4,true,0,(BZ ⟨height,time,prop,par,txs,app,res⟩).take k⟩)]) 3 (fun k=>k≤3) (fun k=>3 - k) 0 (a₉ _) (vm [(0,_),(1,_)] []) ?_;intro k hk;try dsimp only
 have hk4:k=0∨k=1∨k=2∨k=3:=om;rcases hk4 with rfl | rfl | rfl | rfl
 ·
  refine aa ?_;refine aL rfl rfl (by intro R hR;refine cI hR ?_;(refine a₀ (a₁ _) ?_;refine⟨_,rfl,?_⟩;refine a₀ ⟨(by rfl),ai (by kernel_rfl) pf⟩ ?_;refine⟨(BZ ⟨height,time,prop,par,txs,app,res⟩).take 1,sv (by rfl),1,sv pf,?_⟩);exact hR) rfl ?_;refine aa ?_;exact⟨1,om,by show 3 - 1 < 3 - 0;omega,(by dsimp only;exact(vm [(0,_),(1,_),(2,_)] []))⟩
 ·
  refine aa ?_;refine aL rfl rfl (by intro R hR;refine cI hR ?_;(refine a₀ (a₁ _) ?_;refine⟨_,rfl,?_⟩;refine a₀ ⟨(by rfl),ai (by kernel_rfl) pf⟩ ?_;refine⟨(BZ ⟨height,time,prop,par,txs,app,res⟩).take 2,sv (by rfl),2,sv pf,?_⟩);exact hR) rfl ?_;refine aa ?_;exact⟨2,om,by show 3 - 2 < 3 - 1;omega,(by dsimp only;exact(vm [(0,_),(1,_),(2,_)] []))⟩
 ·
  refine aa ?_;refine aL rfl rfl (by intro R hR;refine cI hR ?_;(refine a₀ (a₁ _) ?_;refine⟨_,rfl,?_⟩;refine a₀ ⟨(by rfl),ai (by kernel_rfl) pf⟩ ?_;refine⟨(BZ ⟨height,time,prop,par,txs,app,res⟩).take 3,sv (by rfl),3,sv pf,?_⟩);exact hR) rfl ?_;refine aa ?_;exact⟨3,om,by show 3 - 3 < 3 - 2;omega,(by dsimp only;exact(vm [(0,_),(1,_),(2,_)] []))⟩
 ·refine aa ?_;refine av Nat (fun k=> [(41, .int .i64 k),(40, .int .i64 4),(39, .ms 0 32 0 4),(3, .ms 1 4 0 (3 + k))]) (fun k=> [(0,⟨68,32,true,0,[keyM par,keyM txs,keyM app,keyM res]⟩),(1,⟨183,4,true,0,(BZ ⟨height,time,prop,par,txs,app,res⟩).take (3 + k)⟩)]) 2 (fun k=>k≤4) (fun k=>4 - k) 0 (a₉ _) (vm [(0,_),(1,_)] []) ?_;clear hk;intro k hk;try dsimp only
  have hk4:k=0∨k=1∨k=2∨k=3∨k=4:=om;rcases hk4 with rfl | rfl | rfl | rfl | rfl
  ·
   refine aa ?_;refine aL rfl rfl (by intro R hR;refine cI hR ?_;refine a₀ ((by show aY (cutL _ 0 32) 1=true;rw [dQ h4];exact bP _)) ?_;refine a₀ ⟨rfl,ai (by kernel_rfl) pf⟩ ?_;refine⟨u8s par,sv (by show [] ++ cutL _ 0 32=_;rw [dQ h4,a₈]),32,sv pf,?_⟩;exact hR) rfl ?_;refine od ([(51, .sl 32 (u8s par)),(48, .int .i64 4),(46, .ms 1 4 0 3),(41, .int .i64 0),(40, .int .i64 4),(39, .ms 0 32 0 4)]) ([(0,⟨68,32,true,0,[keyM par,keyM txs,keyM app,keyM res]⟩),(1,⟨183,4,true,0,(BZ ⟨height,time,prop,par,txs,app,res⟩).take 3⟩)]) [(14,32)] ⟨(by show 32≤(u8s par).length;simp [u8s];omega),trivial⟩ rfl ⟨⟨_,rfl, .inr ⟨rfl,rfl,rfl,a₇ (a₃ _),dQ h4⟩⟩,mm⟩ mm ?_;refine aa ?_;refine aL rfl rfl (by intro R hR;refine cI hR ?_;(refine a₀ (a₁ _) ?_;refine⟨_,rfl,?_⟩;refine a₀ ⟨(by rfl),ai (by kernel_rfl) pf⟩ ?_;refine⟨(BZ ⟨height,time,prop,par,txs,app,res⟩).take 4,sv (by rfl),4,sv pf,?_⟩);exact hR) rfl ?_;refine aa ?_;exact⟨1,om,by show 4 - 1 < 4 - 0;omega,(by dsimp only;exact(vm [(0,_),(1,_)] []))⟩
  ·
   refine aa ?_;refine aL rfl rfl (by intro R hR;refine cI hR ?_;refine a₀ ((by show aY (cutL _ 0 32) 1=true;rw [dQ h5];exact bP _)) ?_;refine a₀ ⟨rfl,ai (by kernel_rfl) pf⟩ ?_;refine⟨u8s txs,sv (by show [] ++ cutL _ 0 32=_;rw [dQ h5,a₈]),32,sv pf,?_⟩;exact hR) rfl ?_;refine od ([(51, .sl 32 (u8s txs)),(48, .int .i64 5),(46, .ms 1 4 0 4),(41, .int .i64 1),(40, .int .i64 4),(39, .ms 0 32 0 4)]) ([(0,⟨68,32,true,0,[keyM par,keyM txs,keyM app,keyM res]⟩),(1,⟨183,4,true,0,(BZ ⟨height,time,prop,par,txs,app,res⟩).take 4⟩)]) [(14,32)] ⟨(by show 32≤(u8s txs).length;simp [u8s];omega),trivial⟩ rfl ⟨⟨_,rfl, .inr ⟨rfl,rfl,rfl,a₇ (a₃ _),dQ h5⟩⟩,mm⟩ mm ?_;refine aa ?_;refine aL rfl rfl (by intro R hR;refine cI hR ?_;(refine a₀ (a₁ _) ?_;refine⟨_,rfl,?_⟩;refine a₀ ⟨(by rfl),ai (by kernel_rfl) pf⟩ ?_;refine⟨(BZ ⟨height,time,prop,par,txs,app,res⟩).take 5,sv (by rfl),5,sv pf,?_⟩);exact hR) rfl ?_;refine aa ?_;exact⟨2,om,by show 4 - 2 < 4 - 1;omega,(by dsimp only;exact(vm [(0,_),(1,_)] []))⟩
  ·
   refine aa ?_;refine aL rfl rfl (by intro R hR;refine cI hR ?_;refine a₀ ((by show aY (cutL _ 0 32) 1=true;rw [dQ h6];exact bP _)) ?_;refine a₀ ⟨rfl,ai (by kernel_rfl) pf⟩ ?_;refine⟨u8s app,sv (by show [] ++ cutL _ 0 32=_;rw [dQ h6,a₈]),32,sv pf,?_⟩;exact hR) rfl ?_;refine od ([(51, .sl 32 (u8s app)),(48, .int .i64 6),(46, .ms 1 4 0 5),(41, .int .i64 2),(40, .int .i64 4),(39, .ms 0 32 0 4)]) ([(0,⟨68,32,true,0,[keyM par,keyM txs,keyM app,keyM res]⟩),(1,⟨183,4,true,0,(BZ ⟨height,time,prop,par,txs,app,res⟩).take 5⟩)]) [(14,32)] ⟨(by show 32≤(u8s app).length;simp [u8s];omega),trivial⟩ rfl ⟨⟨_,rfl, .inr ⟨rfl,rfl,rfl,a₇ (a₃ _),dQ h6⟩⟩,mm⟩ mm ?_;refine aa ?_;refine aL rfl rfl (by intro R hR;refine cI hR ?_;(refine a₀ (a₁ _) ?_;refine⟨_,rfl,?_⟩;refine a₀ ⟨(by rfl),ai (by kernel_rfl) pf⟩ ?_;refine⟨(BZ ⟨height,time,prop,par,txs,app,res⟩).take 6,sv (by rfl),6,sv pf,?_⟩);exact hR) rfl ?_;refine aa ?_;exact⟨3,om,by show 4 - 3 < 4 - 2;omega,(by dsimp only;exact(vm [(0,_),(1,_)] []))⟩
  ·
   refine aa ?_;refine aL rfl rfl (by intro R hR;refine cI hR ?_;refine a₀ ((by show aY (cutL _ 0 32) 1=true;rw [dQ h7];exact bP _)) ?_;refine a₀ ⟨rfl,ai (by kernel_rfl) pf⟩ ?_;refine⟨u8s res,sv (by show [] ++ cutL _ 0 32=_;rw [dQ h7,a₈]),32,sv pf,?_⟩;exact hR) rfl ?_;refine od ([(51, .sl 32 (u8s res)),(48, .int .i64 7),(46, .ms 1 4 0 6),(41, .int .i64 3),(40, .int .i64 4),(39, .ms 0 32 0 4)]) ([(0,⟨68,32,true,0,[keyM par,keyM txs,keyM app,keyM res]⟩),(1,⟨183,4,true,0,(BZ ⟨height,time,prop,par,txs,app,res⟩).take 6⟩)]) [(14,32)] ⟨(by show 32≤(u8s res).length;simp [u8s];omega),trivial⟩ rfl ⟨⟨_,rfl, .inr ⟨rfl,rfl,rfl,a₇ (a₃ _),dQ h7⟩⟩,mm⟩ mm ?_;refine aa ?_;refine aL rfl rfl (by intro R hR;refine cI hR ?_;(refine a₀ (a₁ _) ?_;refine⟨_,rfl,?_⟩;refine a₀ ⟨(by rfl),ai (by kernel_rfl) pf⟩ ?_;refine⟨(BZ ⟨height,time,prop,par,txs,app,res⟩).take 7,sv (by rfl),7,sv pf,?_⟩);exact hR) rfl ?_;refine aa ?_;exact⟨4,om,by show 4 - 4 < 4 - 3;omega,(by dsimp only;exact(vm [(0,_),(1,_)] []))⟩
  ·refine aa ?_;refine bX rfl aA rfl (cm) rfl [(1,7)] mm lm ?_;refine aa ?_;exact en [_]
theorem ow (h:wx) (hk:jR h):aE Tryz.prog G 43 [hdM h] (keyM (gi h)):=by
 have c1:=uG (G:=G) h hk;have c2:=mj (G:=G) (eD h) (by have:=jf hk;omega);unfold gi;obtain⟨height,time,prop,par,txs,app,res⟩:=h;generalize eD ⟨height,time,prop,par,txs,app,res⟩=b at *;generalize gP b=k at *;refine bA seat Tryz.func43 6 ?_;refine aa ?_;refine jW (c1) ?_;refine dL (c2) ?_;refine au ?_;rfl
end
section
variable {G:GS}
attribute [local irreducible] ak aB aD aI aN vC aW aw
structure Oa (c:ou):Prop where
 h1:cj c.maxTxs
 h2:cj c.maxBytes
 h3:cj c.maxTx
 h4:cj c.cache
 h5:cj c.ttlB
 h6:cj c.ttlT
 h7:cj c.blkB
 h8:cj c.blkG
 h9:bo c.price
 h10:cj c.self
 h11:cj c.nodes
def fI (c:ou):Nat→Int
 | 0=>c.maxTxs
 | 1=>c.maxBytes
 | 2=>c.maxTx
 | 3=>c.cache
 | 4=>c.ttlB
 | 5=>c.ttlT
 | 6=>if c.keep then 1 else 0
 | 7=>c.blkB
 | 8=>c.blkG
 | 9=>0
 | 10=>c.self
 | _=>c.nodes
def loI:Nat→Int
 | 0 | 1 | 2 | 7 | 11=>1
 | 8=> -1
 | _=>0
def hiI:Nat→Int
 | 0=>512
 | 1 | 7=>1048576
 | 2=>4096
 | 3=>1024
 | 4 | 5=>1073741824
 | 6=>1
 | 8=>1125899906842624
 | 9=>0
 | 10=>7
 | _=>8
def qZ (c:ou) (k:Nat):Bool:=decide (loI k≤fI c k) && decide (fI c k≤hiI k)
def nH (c:ou):Nat→Bool
 | 0=>true
 | k + 1=>nH c k && qZ c k
def jS (c:ou):Int:=if nH c 12=true∧c.self < c.nodes then 0 else 1
theorem ra {k:Nat} (hk:k < 12):k=0∨k=1∨k=2∨k=3∨k=4∨k=5∨k=6∨k=7∨k=8∨k=9∨k=10∨k=11:=om
theorem uH {c:ou} {k:Nat} (h:qZ c k=false): ∀{n:Nat},k < n→nH c n=false
 | 0,hn=>by omega
 | n + 1,hn=>by
  by_cases e:k=n
  ·subst e;simp [nH,h]
  ·simp [nH,uH h (show k < n by omega)]
theorem wy {c:ou} {k:Nat} (hk:k < 12) (h:qZ c k=false):jS c=1:=by simp [jS,uH h hk]
theorem wz {c:ou} (h:nH c 12=true):jS c=if c.self < c.nodes then 0 else 1:=by simp [jS,h]
theorem rkeys_s:aE Tryz.prog G 108 [] (.sl 12 [.str [109,97,120,45,116,120,115], .str [109,97,120,45,98,121,116,101,115], .str [109,97,120,45,116,120,45,98,121,116,101,115], .str [99,97,99,104,101,45,115,105,122,101], .str [116,116,108,45,98,108,111,99,107,115], .str [116,116,108,45,116,105,109,101], .str [107,101,101,112,45,105,110,118,97,108,105,100], .str [98,108,111,99,107,45,98,121,116,101,115], .str [98,108,111,99,107,45,103,97,115], .str [112,114,105,99,101], .str [115,101,108,102], .str [110,111,100,101,115]]):=by
 refine bA seat Tryz.func108 2 ?_;refine aa ?_
 conv=>whnf
 exact⟨by decide,_,rfl,rfl⟩
theorem Ia {k:Nat} (hk:k < 12):aE Tryz.prog G 110 [.int .i64 k] (.int .i64 (loI k)):=by
 have hel:bW [.int .i64 1, .int .i64 1, .int .i64 1, .int .i64 0, .int .i64 0, .int .i64 0, .int .i64 0, .int .i64 1, .int .i64 (-1), .int .i64 0, .int .i64 0, .int .i64 1] (0 + k)=some (.int .i64 (loI k)):=by
  rcases ra hk with rfl | rfl | rfl | rfl | rfl | rfl | rfl | rfl | rfl | rfl | rfl | rfl <;> rfl
 have hel:=aj.mk hel;have hix:=aj.mk (cE hk);refine bA seat Tryz.func110 7 ?_;refine aa ?_;refine au ?_;rfl
theorem Ib {k:Nat} (hk:k < 12):aE Tryz.prog G 111 [.int .i64 k] (.int .i64 (hiI k)):=by
 have hel:bW [.int .i64 512, .int .i64 1048576, .int .i64 4096, .int .i64 1024, .int .i64 1073741824, .int .i64 1073741824, .int .i64 1, .int .i64 1048576, .int .i64 1125899906842624, .int .i64 0, .int .i64 7, .int .i64 8] (0 + k)=some (.int .i64 (hiI k)):=by
  rcases ra hk with rfl | rfl | rfl | rfl | rfl | rfl | rfl | rfl | rfl | rfl | rfl | rfl <;> rfl
 have hel:=aj.mk hel;have hix:=aj.mk (cE hk);refine bA seat Tryz.func111 7 ?_;refine aa ?_;refine au ?_;rfl
theorem My (c:ou) {k:Nat} (hk:k < 12):aE Tryz.prog G 109 [cfM c, .int .i64 k] (.int .i64 (fI c k)):=by
 have hel:bW [.int .i64 c.maxTxs, .int .i64 c.maxBytes, .int .i64 c.maxTx, .int .i64 c.cache, .int .i64 c.ttlB, .int .i64 c.ttlT, .int .i64 (if c.keep then 1 else 0), .int .i64 c.blkB, .int .i64 c.blkG, .int .i64 0, .int .i64 c.self, .int .i64 c.nodes] (0 + k)=some (.int .i64 (fI c k)):=by
  rcases ra hk with rfl | rfl | rfl | rfl | rfl | rfl | rfl | rfl | rfl | rfl | rfl | rfl <;> rfl
 generalize fI c k=x at *;obtain⟨c0,c1,c2,c3,c4,c5,c6,c7,c8,c9,c10,c11⟩:=c;have hix:=aj.mk (cE hk);cases c6 <;>
 ·have hel:=aj.mk hel;refine bA seat Tryz.func109 33 ?_;refine aa ?_;refine au ?_;rfl
theorem Ic (c:ou):aE Tryz.prog G 63 [cfM c] (.int .i64 (jS c)):=by
 have cv: ∀k,k < 12→_:=fun k hk=>My (G:=G) c (k:=k) hk
 have hb: ∀k,k < 12→qZ c k=false→_:=fun k hk=>wy (c:=c) hk
 have hend:=wz (c:=c);have hF: ∀k,qZ c k=(decide (loI k≤fI c k) && decide (fI c k≤hiI k)):=fun _=>rfl
 have h9:qZ c 9=true:=rfl;have hS: ∀k,nH c (k + 1)=(nH c k && qZ c k):=fun _=>rfl
 have h0:nH c 0=true:=rfl;refine bA seat Tryz.func63 33 ?_;refine aa ?_;refine dL (rkeys_s) ?_;refine av Nat (fun k=> [(6, .int .i64 k),(5, .int .i64 12),(1, .ptr 0 12 0 0 [])]) (fun _=> [(0,⟨66,12,false,0,[cfM c]⟩)]) 1 (fun k=>k≤12∧nH c k=true) (fun k=>12 - k) 0 ⟨om,h0⟩ (vm [(0,_)] []) ?_;rintro k ⟨hk,hok⟩;try dsimp only
 refine aa ?_;refine ad rfl ?_ ?_ <;> intro h
 ·have hk':k < 12:=by have:=ot h;omega
  have cv:=cv k hk';have cl:=Ia (G:=G) hk';have cg:=Ib (G:=G) hk';have hb:=hb k hk';have hF:=hF k;have hS:=hS k;rw [hok] at hS;generalize fI c k=x at *;generalize loI k=lo at *;generalize hiI k=hi at *;by_cases e9:k=9
  ·subst e9;refine aa ?_;exact⟨9 + 1,⟨om,by rw [hS,h9];rfl⟩,by show 12 - (9 + 1) < 12 - 9;omega,(by dsimp only;exact(vm [(0,_)] []))⟩
  ·refine aa ?_;refine ag rfl rfl ?_ rfl ?_ <;> intro h
   rotate_left
   ·exfalso;simp at h;omega
   refine aa ?_;refine dL (cv) ?_;refine dL (cl) ?_;refine ag rfl rfl ?_ rfl ?_ <;> intro h
   ·have h1:=oF h;refine aa ?_;refine dL (cv) ?_;refine dL (cg) ?_;refine ad rfl ?_ ?_ <;> intro h
    ·have h2:=ot h;rw [hb (by rw [hF];simp;omega)];refine aa ?_;refine au ?_;rfl
    ·have h2:=oF h;refine aa ?_;exact⟨k + 1,⟨om,by rw [hS,hF];simp;omega⟩,by show 12 - (k + 1) < 12 - k;omega,(by dsimp only;exact(vm [(0,_)] []))⟩
   ·have h1:=ot h;rw [hb (by rw [hF];simp;omega)];refine aa ?_;refine au ?_;rfl
 ·have hk':k=12:=by have:=oF h;omega
  subst hk';rw [hend hok];refine aa ?_;refine ad rfl ?_ ?_ <;> intro h
  ·have h:=ot h;rw [if_neg om];refine aa ?_;refine au ?_;rfl
  ·have h:=oF h;rw [if_pos om];refine aa ?_;refine au ?_;rfl
abbrev wM (a:Int×Bool):MV:= .st [.int .u64 a.1, .bool a.2]
def lessB (a b:Int×Bool):Bool:=if (a.2 || b.2)=true then a.2 && !b.2 else decide (a.1 < b.1)
theorem Ie (a b:Int×Bool):aE Tryz.prog G 167 [wM a,wM b] (.bool (lessB a b)):=by
 obtain⟨n,m⟩:=a;obtain⟨n',m'⟩:=b;cases m <;> cases m' <;>
 ·refine bA seat Tryz.func167 23 ?_;refine aa ?_;refine au ?_;rfl
theorem pV (n:Int) (h0:0≤n) (h1:n < 9223372036854775808):aE Tryz.prog G 165 [.int .i64 n] (wM (n,false)):=by
 refine bA seat Tryz.func165 6 ?_;refine aa ?_;refine au ?_;rfl
def OI:Nat→List UInt8
 | 0=> [109,97,120,45,116,120,115]
 | 1=> [109,97,120,45,98,121,116,101,115]
 | 2=> [109,97,120,45,116,120,45,98,121,116,101,115]
 | 3=> [99,97,99,104,101,45,115,105,122,101]
 | 4=> [116,116,108,45,98,108,111,99,107,115]
 | 5=> [116,116,108,45,116,105,109,101]
 | 6=> [107,101,101,112,45,105,110,118,97,108,105,100]
 | 7=> [98,108,111,99,107,45,98,121,116,101,115]
 | 8=> [98,108,111,99,107,45,103,97,115]
 | 9=> [112,114,105,99,101]
 | 10=> [115,101,108,102]
 | _=> [110,111,100,101,115]
def Mz (k:Nat):Int×Bool:=if loI k= -1 then(0,true) else(loI k,false)
def MA:Nat→Int×Bool
 | 9=>(18446744073709551615,false)
 | k=>(hiI k,false)
def OJ:Nat→Int×Bool
 | 0=>(100,false)
 | 1=>(65536,false)
 | 2=>(1024,false)
 | 3=>(200,false)
 | 7=>(32768,false)
 | 8=>(0,true)
 | 9 | 11=>(1,false)
 | _=>(0,false)
abbrev rb (k:Nat):MV:= .st [.str (OI k),wM (Mz k),wM (MA k),wM (OJ k)]
abbrev Ig:List MV:= [rb 0,rb 1,rb 2,rb 3,rb 4,rb 5,rb 6,rb 7,rb 8,rb 9,rb 10,rb 11]
def iN (a b v:Int×Bool):Bool:= !lessB v a && !lessB b v
theorem MC:aE Tryz.prog G 105 [] (.arr 12 7 Ig):=by
 have cn: ∀n:Nat,n < 9223372036854775808→aE Tryz.prog G 165 [.int .i64 n] (wM (n,false)):=fun n hn=>pV (G:=G) n om om
 refine bA seat Tryz.func105 54 ?_;refine aa ?_;refine al [dj 0,dj 1,dj 2,ae 3,dj 4,dj 5,dj 6,ae 7,dj 8,dj 9,dj 10,ae 11,dj 12,dj 13,dj 14,ae 15,dj 16,dj 17,dj 18,ae 19,dj 20,dj 21,dj 22,ae 23,dj 24,dj 25,dj 26,ae 27,dj 28,dj 29,dj 30,ae 31,ae 32,dj 33,ae 34,ae 35,dj 36,ae 37,dj 38,ae 39,dj 40,dj 41,dj 42,ae 43,dj 44,dj 45,dj 46,ae 47,ae 48,ae 49] ?_;refine aa ?_;refine cW (cn 1 (by decide)) ?_;refine cW (cn 512 (by decide)) ?_;refine cW (cn 100 (by decide)) ?_;refine cW (cn 1 (by decide)) ?_;refine cW (cn 1048576 (by decide)) ?_;refine cW (cn 65536 (by decide)) ?_;refine cW (cn 1 (by decide)) ?_;refine cW (cn 4096 (by decide)) ?_;refine cW (cn 1024 (by decide)) ?_;refine cW (cn 0 (by decide)) ?_;refine cW (cn 1024 (by decide)) ?_;refine cW (cn 200 (by decide)) ?_;refine cW (cn 0 (by decide)) ?_;refine cW (cn 1073741824 (by decide)) ?_;refine cW (cn 0 (by decide)) ?_;refine cW (cn 0 (by decide)) ?_;refine cW (cn 1073741824 (by decide)) ?_;refine cW (cn 0 (by decide)) ?_;refine cW (cn 0 (by decide)) ?_;refine cW (cn 1 (by decide)) ?_;refine cW (cn 0 (by decide)) ?_;refine cW (cn 1 (by decide)) ?_;refine cW (cn 1048576 (by decide)) ?_;refine cW (cn 32768 (by decide)) ?_;refine cW (cn 1125899906842624 (by decide)) ?_;refine cW (cn 0 (by decide)) ?_;refine cW (cn 1 (by decide)) ?_;refine cW (cn 0 (by decide)) ?_;refine cW (cn 7 (by decide)) ?_;refine cW (cn 0 (by decide)) ?_;refine cW (cn 1 (by decide)) ?_;refine cW (cn 8 (by decide)) ?_;refine cW (cn 1 (by decide)) ?_;refine au ?_;rfl
theorem Ih (nm:List UInt8) (a b d v:Int×Bool):aE Tryz.prog G 107 [.st [.str nm,wM a,wM b,wM d],wM v] (.bool (iN a b v)):=by
 have c1:=Ie (G:=G) v a;have c2:=Ie (G:=G) b v;unfold iN;generalize lessB v a=t1 at *;generalize lessB b v=t2 at *;refine bA seat Tryz.func107 17 ?_;refine aa ?_;refine yv (c1) ?_;cases t1
 ·refine aa ?_;refine dL (c2) ?_;refine au ?_;rfl
 ·refine aa ?_;refine au ?_;rfl
abbrev LD (Z:MV):List MV:= [.ep Z 0 [0], .ep Z 1 [1], .ep Z 2 [2], .ep Z 3 [3], .ep Z 4 [4], .ep Z 5 [5], .nilp, .ep Z 7 [7], .ep Z 8 [8], .nilp, .ep Z 10 [10], .ep Z 11 [11]]
theorem B0 (Z:MV):aE Tryz.prog G 166 [.ep Z 0 []] (.arr 12 1 (LD Z)):=by
 refine bA seat Tryz.func166 34 ?_;refine aa ?_;refine al [ae 0,ae 1,ae 2,ae 3,ae 4,ae 5,ae 6,ae 7,ae 8,ae 9,ae 10,ae 11,ae 12,ae 13,ae 14,ae 15,ae 16,ae 17,ae 18,ae 19,ae 20,ae 21,ae 22,ae 23,ae 24,ae 25,ae 26,ae 27,ae 28,ae 29,ae 30,ae 31] ?_;refine aa ?_;refine au ?_;rfl
def vI (p:Int):(Int×Bool)×Bool:=if p < -1 then((0,false),false) else if p= -1 then((0,true),true) else((p,false),true)
def vW (c:ou):Nat→(Int×Bool)×Bool
 | 6=>(if c.keep then(1,false) else (0,false),true)
 | 9=>((c.price,false),true)
 | k=>vI (fI c k)
abbrev vM (v:(Int×Bool)×Bool):MV:= .tup [wM v.1, .bool v.2]
theorem jT (c:ou) {k:Nat} (i:Nat) (x:Int) (hx:cj x) (hk:bF (LD (cfM c)) 12 (k:Int)=some (.ep (cfM c) i [i])) (hi:fc (cfM c) [i] i=some (.int .i64 x)):aE Tryz.prog G 106 [cfM c, .int .i64 k] (vM (vI x)):=by
 unfold cj at hx;have ci:=B0 (G:=G) (cfM c);have hk:=aj.mk hk;have hi:=aj.mk hi;refine bA seat Tryz.func106 48 ?_;refine aa ?_;refine bX rfl aA rfl (du ci) rfl [(0,1)] mm ⟨.inr ⟨rfl,b₆ 0,rfl,rfl,rfl,rfl⟩,trivial⟩ ?_;refine aa ?_;refine ad rfl ?_ ?_ <;> intro h
 ·have h:=ot h;unfold vI;rw [if_pos h];refine aa ?_;refine au ?_;rfl
 have h:=oF h;refine aa ?_;refine ad rfl ?_ ?_ <;> intro h
 ·have h2:=eq_of_beq h;subst h2;refine aa ?_;refine au ?_;rfl
 have h2:=ne_of_beq_false h;have cn:=pV (G:=G) x om om;refine aa ?_;refine yv (cn) ?_;unfold vI;rw [if_neg ‹_›,if_neg h2];refine aa ?_;refine au ?_;rfl
theorem MD (c:ou):aE Tryz.prog G 106 [cfM c, .int .i64 (9:Nat)] (vM ((c.price,false),true)):=by
 have ci:=B0 (G:=G) (cfM c);refine bA seat Tryz.func106 48 ?_;refine aa ?_;refine bX rfl aA rfl (du ci) rfl [(0,1)] mm ⟨.inr ⟨rfl,b₆ 0,rfl,rfl,rfl,rfl⟩,trivial⟩ ?_;refine aa ?_;refine au ?_;rfl
theorem ME (c:ou):aE Tryz.prog G 106 [cfM c, .int .i64 (6:Nat)] (vM (if c.keep then(1,false) else (0,false),true)):=by
 have ci:=B0 (G:=G) (cfM c);have c0:=pV (G:=G) 0 (by decide) (by decide);have c1:=pV (G:=G) 1 (by decide) (by decide);obtain⟨d0,d1,d2,d3,d4,d5,d6,d7,d8,d9,d10,d11⟩:=c;cases d6
 ·refine bA seat Tryz.func106 48 ?_;refine aa ?_;refine bX rfl aA rfl (du ci) rfl [(0,1)] mm ⟨.inr ⟨rfl,b₆ 0,rfl,rfl,rfl,rfl⟩,trivial⟩ ?_;refine aa ?_;refine dL (c0) ?_;refine au ?_;rfl
 ·refine bA seat Tryz.func106 48 ?_;refine aa ?_;refine bX rfl aA rfl (du ci) rfl [(0,1)] mm ⟨.inr ⟨rfl,b₆ 0,rfl,rfl,rfl,rfl⟩,trivial⟩ ?_;refine aa ?_;refine dL (c1) ?_;refine au ?_;rfl
theorem Kw (c:ou) (hc:Oa c) {k:Nat} (hk:k < 12):aE Tryz.prog G 106 [cfM c, .int .i64 k] (vM (vW c k)):=by
 obtain⟨h1,h2,h3,h4,h5,h6,h7,h8,h9,h10,h11⟩:=hc;rcases ra hk with rfl | rfl | rfl | rfl | rfl | rfl | rfl | rfl | rfl | rfl | rfl | rfl
 ·exact jT c 0 _ h1 rfl rfl
 ·exact jT c 1 _ h2 rfl rfl
 ·exact jT c 2 _ h3 rfl rfl
 ·exact jT c 3 _ h4 rfl rfl
 ·exact jT c 4 _ h5 rfl rfl
 ·exact jT c 5 _ h6 rfl rfl
 ·exact ME c
 ·exact jT c 7 _ h7 rfl rfl
 ·exact jT c 8 _ h8 rfl rfl
 ·exact MD c
 ·exact jT c 10 _ h10 rfl rfl
 ·exact jT c 11 _ h11 rfl rfl
def Pw (c:ou) (k:Nat):Bool:=(vW c k).2 && iN (Mz k) (MA k) (vW c k).1
theorem Kx {p lo hi:Int} {b:Bool} (h1:0≤lo) (h2:b=true→lo=0) (h3:0≤hi):((vI p).2 && iN (lo,b) (hi,false) (vI p).1)=(decide ((if b then -1 else lo)≤p) && decide (p≤hi)):=by
 unfold vI;by_cases hp:p < -1
 ·rw [if_pos hp];cases b <;> simp <;> omega
 ·rw [if_neg hp];by_cases hp2:p= -1
  ·rw [if_pos hp2];subst hp2;cases b <;> simp [iN,lessB] <;> omega
  ·rw [if_neg hp2];cases b
   ·simp [iN,lessB,← decide_not,Int.not_lt]
   ·have h4: -1≤p:=om;simp [iN,lessB,h4,← decide_not,Int.not_lt]
theorem MF {c:ou} (hc:Oa c) {k:Nat} (hk:k < 12):Pw c k=qZ c k:=by
 have hp:=hc.h9;unfold bo at hp;rcases ra hk with rfl | rfl | rfl | rfl | rfl | rfl | rfl | rfl | rfl | rfl | rfl | rfl
 case inr.inr.inr.inr.inr.inr.inl=>show (true && iN _ _ (if c.keep then(1,false) else(0,false)))=(decide (0≤if c.keep then(1:Int) else 0) && decide ((if c.keep then(1:Int) else 0)≤1));cases c.keep <;> rfl
 case inr.inr.inr.inr.inr.inr.inr.inr.inr.inl=>
  show(true && iN (0,false) (18446744073709551615,false) (c.price,false))=true
  simp [iN,lessB];omega
 all_goals exact Kx (by decide) (by decide) (by decide)
theorem Ii {k:Nat} (hk:k < 12):bF Ig 12 (k:Int)=some (rb k):=by
 rcases ra hk with rfl | rfl | rfl | rfl | rfl | rfl | rfl | rfl | rfl | rfl | rfl | rfl <;> rfl
theorem Ij (c:ou) (hc:Oa c):aE Tryz.prog G 62 [cfM c] (.int .i64 (jS c)):=by
 have cr:=MC (G:=G);have cv: ∀k,k < 12→_:=fun k hk=>Kw (G:=G) c hc (k:=k) hk
 have hb: ∀k,k < 12→qZ c k=false→_:=fun k hk=>wy (c:=c) hk
 have hend:=wz (c:=c);have hF: ∀k,k < 12→qZ c k=((vW c k).2 && iN (Mz k) (MA k) (vW c k).1):=fun k hk=>(MF hc hk).symm
 have hS: ∀k,nH c (k + 1)=(nH c k && qZ c k):=fun _=>rfl
 have h0:nH c 0=true:=rfl;have hat:=fun k (hk:k < 12)=>Ii hk
 generalize Ig=R at *;refine bA seat Tryz.func62 32 ?_;refine aa ?_;refine dL (cr) ?_;refine av Nat (fun k=> [(8, .int .i64 k),(7, .arr 12 7 R),(1, .ptr 0 12 0 0 [])]) (fun _=> [(0,⟨66,12,false,0,[cfM c]⟩)]) 1 (fun k=>k≤12∧nH c k=true) (fun k=>12 - k) 0 ⟨om,h0⟩ (vm [(0,_)] []) ?_;rintro k ⟨hk,hok⟩;try dsimp only
 refine aa ?_;refine ad rfl ?_ ?_ <;> intro h
 ·have hk':k < 12:=by have:=ot h;omega
  have cv:=cv k hk';have hb:=hb k hk';have hF:=hF k hk';have hS:=hS k;have hel:aj (bF R 12 (k:Int)) (.st [.str (OI k),wM (Mz k),wM (MA k),wM (OJ k)]):=aj.mk (hat k hk');have cw:=fun v=>Ih (G:=G) (OI k) (Mz k) (MA k) (OJ k) v
  rw [hok] at hS;generalize iN (Mz k) (MA k)=W at *;generalize OI k=nm at *;generalize Mz k=lo at *;generalize MA k=hi at *;generalize OJ k=df at *;generalize vW c k=v at *;obtain⟨⟨v1,v2⟩,v3⟩:=v;obtain⟨l1,l2⟩:=lo;obtain⟨i1,i2⟩:=hi;obtain⟨d1,d2⟩:=df;have cw:=cw (v1,v2);dsimp only at *;generalize W (v1,v2)=t at *;refine aa ?_;refine yv (cv) ?_;cases v3
  ·refine aa ?_;rw [hb (by simp [hF])];refine au ?_;rfl
  ·refine aa ?_;refine yv (cw) ?_;cases t
   ·refine aa ?_;rw [hb (by simp [hF])];refine au ?_;rfl
   ·refine aa ?_;exact⟨k + 1,⟨om,by rw [hS,hF];rfl⟩,by show 12 - (k + 1) < 12 - k;omega,(by dsimp only;exact(vm [(0,_)] []))⟩
 ·have hk':k=12:=by have:=oF h;omega
  subst hk';rw [hend hok];refine aa ?_;refine ad rfl ?_ ?_ <;> intro h
  ·have h:=ot h;rw [if_neg om];refine aa ?_;refine au ?_;rfl
  ·have h:=oF h;rw [if_pos om];refine aa ?_;refine au ?_;rfl
theorem MG {c:ou} (h:vA c):Oa c:=by
 obtain⟨h1,h2,h3,h4,h5,h6,h7,h8,h9,h10,h11⟩:=h;refine⟨?_,?_,?_,?_,?_,?_,?_,?_,h9,?_,?_⟩ <;> (unfold cj;omega)
theorem uI {c:ou} (h:vA c):jS c=0:=by
 obtain⟨h1,h2,h3,h4,h5,h6,h7,h8,h9,h10,h11⟩:=h;have k6:qZ c 6=true:=by
  show(decide (0≤if c.keep then(1:Int) else 0) && decide ((if c.keep then(1:Int) else 0)≤1))=true
  cases c.keep <;> rfl
 have hk:nH c 12=true:=by
  simp only [nH,k6];simp [qZ,loI,hiI,fI];omega
 exact if_pos ⟨hk,h10.2⟩
end
section
variable {G:GS}
attribute [local irreducible] ak aB aD aI aN vC aW aw
theorem B8 (b:List UInt8) (f:eE) (hf:iz f) (hb:b.length + f.bytes.length < 200000000):aQ Tryz.prog G 212 [.ms 0 1 0 b.length,bR f] [(0,⟨5,1,true,0,u8s b⟩)] 1 (.ms 1 1 0 (b ++ aV f).length) [(1,⟨5,1,true,0,u8s (b ++ aV f)⟩)] 2:=by
 have c1:=mh (G:=G) [] f hf (by simp;omega);have hl:=gW hf;rw [a₈] at c1;unfold jn at c1;obtain⟨num,kind,val,bytes⟩:=f;generalize hv:aV ⟨num,kind,val,bytes⟩=v at *;dsimp only at hl hb;unfold bR at *;dsimp only at *;have hlen:(b ++ v).length=b.length + v.length:=a₅;refine dw seat Tryz.func212 15 ?_;refine aa ?_;refine bC rfl aA rfl c1 [] [] ⟨rfl,trivial,rfl,⟨.inr ⟨rfl,rfl⟩, .inl ⟨rfl,rfl⟩,trivial⟩,trivial⟩ rfl rfl ?_;refine aa ?_;refine aL rfl rfl (by intro R hR;refine cI hR ?_;refine a₀ ((by show 0 + v.length≤(u8s v).length;simp [u8s])) ?_;refine⟨_,rfl,?_⟩;refine a₀ ⟨(by simp [u8s]),ai (by kernel_rfl) pf⟩ ?_;refine⟨u8s (b ++ v),sv (by show u8s b ++ cutL (u8s v) 0 (0 + v.length)=_;rw [a₃,cut_u8];simp [u8s]),(b ++ v).length,sv pf,?_⟩;exact hR) rfl ?_;refine aa ?_;exact eb [_] [(1,12)] []
theorem pW (n:Nat) {b:List UInt8} (h:b.length=32):bR ⟨n,2,0,b⟩= .st [.int .i64 n, .int .i64 2, .int .u64 0, .sl 32 (cutL (u8s b) 0 32)] :=by
 rw [dQ h,← pU n h];rfl
theorem gZ {l:List eE} {k:Nat} (hk:k < l.length):aF (l.take (k + 1))=aF (l.take k) ++ aV l[k] :=ng l hk
theorem Fb (h:wx) (hk:jR h):aQ Tryz.prog G 153 [hdM h] [] 0 (.sl (eD h).length (u8s (eD h))) [] 0:=by
 have hl:=jf hk;have hml: ∀k,(aF ((gY h).take k)).length≤400:=fun k=>Nat.le_trans (ni (gY h) k) hl
 show aQ _ _ _ _ _ _ (.sl (aF (gY h)).length (u8s (aF (gY h)))) _ _
 obtain⟨height,time,prop,par,txs,app,res⟩:=h;obtain⟨h1,h2,h3,h4,h5,h6,h7⟩:=hk;dsimp only at h1 h2 h3 h4 h5 h6 h7;have e1:=aU.mk (E9 height h1);have e2:=aU.mk (E9 time h2);have e3:=aU.mk (E9 prop h3);clear hl;refine dw seat Tryz.func153 49 ?_;refine aa ?_;refine av Nat (fun k=> [(15, .int .i64 k),(14, .arr 3 1 [.int .i64 height, .int .i64 time, .int .i64 prop]),(3, .ms 1 1 0 (aF ((gY ⟨height,time,prop,par,txs,app,res⟩).take k)).length),(1, .ptr 0 131 0 0 [])]) (fun k=> [(0,⟨79,131,false,0,[.st [.int .i64 height, .int .i64 time, .int .i64 prop,keyM par,keyM txs,keyM app,keyM res]]⟩),(1,⟨5,1,true,0,u8s (aF ((gY ⟨height,time,prop,par,txs,app,res⟩).take k))⟩)]) 2 (fun k=>k≤3) (fun k=>3 - k) 0 (a₉ _) (by dsimp only;rw [show aF ((gY ⟨height,time,prop,par,txs,app,res⟩).take 0)= [] from rfl];exact(vm [(0,_)] [])) ?_;intro k hk;try dsimp only
 have hk4:k=0∨k=1∨k=2∨k=3:=om;rcases hk4 with rfl | rfl | rfl | rfl
 ·
  have cc:=B8 (G:=G) (aF ((gY ⟨height,time,prop,par,txs,app,res⟩).take 0)) ⟨1,0,natP height,[]⟩ (mC om om (kA h1)) (by have:=hml 0;simp only [b₇];omega);rw [show aF ((gY ⟨height,time,prop,par,txs,app,res⟩).take 0) ++ aV ⟨1,0,natP height,[]⟩=aF ((gY ⟨height,time,prop,par,txs,app,res⟩).take 1) from(gZ (l:=(gY ⟨height,time,prop,par,txs,app,res⟩)) (k:=0) (by show 0 < 7;omega)).symm] at cc;refine aa ?_;refine bC rfl aA rfl cc [(0,1)] [] ⟨rfl,trivial,rfl,⟨rv,oq rfl,trivial⟩,mm⟩ rfl rfl ?_;refine aa ?_;exact⟨1,om,by show 3 - 1 < 3 - 0;omega,(by dsimp only;exact(vm [(0,_),(1,_)] []))⟩
 ·
  have cc:=B8 (G:=G) (aF ((gY ⟨height,time,prop,par,txs,app,res⟩).take 1)) ⟨2,0,natP time,[]⟩ (mC om om (kA h2)) (by have:=hml 1;simp only [b₇];omega);rw [show aF ((gY ⟨height,time,prop,par,txs,app,res⟩).take 1) ++ aV ⟨2,0,natP time,[]⟩=aF ((gY ⟨height,time,prop,par,txs,app,res⟩).take 2) from(gZ (l:=(gY ⟨height,time,prop,par,txs,app,res⟩)) (k:=1) (by show 1 < 7;omega)).symm] at cc;refine aa ?_;refine bC rfl aA rfl cc [(0,1)] [] ⟨rfl,trivial,rfl,⟨rv,oq rfl,trivial⟩,mm⟩ rfl rfl ?_;refine aa ?_;exact⟨2,om,by show 3 - 2 < 3 - 1;omega,(by dsimp only;exact(vm [(0,_),(1,_)] []))⟩
 ·
  have cc:=B8 (G:=G) (aF ((gY ⟨height,time,prop,par,txs,app,res⟩).take 2)) ⟨3,0,natP prop,[]⟩ (mC om om (kA h3)) (by have:=hml 2;simp only [b₇];omega);rw [show aF ((gY ⟨height,time,prop,par,txs,app,res⟩).take 2) ++ aV ⟨3,0,natP prop,[]⟩=aF ((gY ⟨height,time,prop,par,txs,app,res⟩).take 3) from(gZ (l:=(gY ⟨height,time,prop,par,txs,app,res⟩)) (k:=2) (by show 2 < 7;omega)).symm] at cc;refine aa ?_;refine bC rfl aA rfl cc [(0,1)] [] ⟨rfl,trivial,rfl,⟨rv,oq rfl,trivial⟩,mm⟩ rfl rfl ?_;refine aa ?_;exact⟨3,om,by show 3 - 3 < 3 - 2;omega,(by dsimp only;exact(vm [(0,_),(1,_)] []))⟩
 ·refine aa ?_;refine av Nat (fun k=> [(37, .int .i64 k),(36, .arr 4 32 [keyM par,keyM txs,keyM app,keyM res]),(3, .ms 0 1 0 (aF ((gY ⟨height,time,prop,par,txs,app,res⟩).take (3 + k))).length)]) (fun k=> [(0,⟨5,1,true,0,u8s (aF ((gY ⟨height,time,prop,par,txs,app,res⟩).take (3 + k)))⟩)]) 1 (fun k=>k≤4) (fun k=>4 - k) 0 (a₉ _) (vm [(0,_)] []) ?_;clear hk;intro k hk;try dsimp only
  have hk4:k=0∨k=1∨k=2∨k=3∨k=4:=om;rcases hk4 with rfl | rfl | rfl | rfl | rfl
  ·
   have cc:=B8 (G:=G) (aF ((gY ⟨height,time,prop,par,txs,app,res⟩).take 3)) ⟨4,2,0,par⟩ (mD om om (by rw [h4];omega)) (by have:=hml 3;dsimp only;rw [h4];omega);rw [show aF ((gY ⟨height,time,prop,par,txs,app,res⟩).take 3) ++ aV ⟨4,2,0,par⟩=aF ((gY ⟨height,time,prop,par,txs,app,res⟩).take 4) from(gZ (l:=(gY ⟨height,time,prop,par,txs,app,res⟩)) (k:=3) (by show 3 < 7;omega)).symm,pW 4 h4] at cc;refine aa ?_;refine bC rfl aA rfl cc [(0,0)] [] ⟨rfl,trivial,rfl,⟨rv, .inl ⟨rfl,rfl⟩,trivial⟩,mm⟩ rfl rfl ?_;refine aa ?_;exact⟨1,om,by show 4 - 1 < 4 - 0;omega,(by dsimp only;exact(vm [(0,_)] []))⟩
  ·
   have cc:=B8 (G:=G) (aF ((gY ⟨height,time,prop,par,txs,app,res⟩).take 4)) ⟨5,2,0,txs⟩ (mD om om (by rw [h5];omega)) (by have:=hml 4;dsimp only;rw [h5];omega);rw [show aF ((gY ⟨height,time,prop,par,txs,app,res⟩).take 4) ++ aV ⟨5,2,0,txs⟩=aF ((gY ⟨height,time,prop,par,txs,app,res⟩).take 5) from(gZ (l:=(gY ⟨height,time,prop,par,txs,app,res⟩)) (k:=4) (by show 4 < 7;omega)).symm,pW 5 h5] at cc;refine aa ?_;refine bC rfl aA rfl cc [(0,0)] [] ⟨rfl,trivial,rfl,⟨rv, .inl ⟨rfl,rfl⟩,trivial⟩,mm⟩ rfl rfl ?_;refine aa ?_;exact⟨2,om,by show 4 - 2 < 4 - 1;omega,(by dsimp only;exact(vm [(0,_)] []))⟩
  ·
   have cc:=B8 (G:=G) (aF ((gY ⟨height,time,prop,par,txs,app,res⟩).take 5)) ⟨6,2,0,app⟩ (mD om om (by rw [h6];omega)) (by have:=hml 5;dsimp only;rw [h6];omega);rw [show aF ((gY ⟨height,time,prop,par,txs,app,res⟩).take 5) ++ aV ⟨6,2,0,app⟩=aF ((gY ⟨height,time,prop,par,txs,app,res⟩).take 6) from(gZ (l:=(gY ⟨height,time,prop,par,txs,app,res⟩)) (k:=5) (by show 5 < 7;omega)).symm,pW 6 h6] at cc;refine aa ?_;refine bC rfl aA rfl cc [(0,0)] [] ⟨rfl,trivial,rfl,⟨rv, .inl ⟨rfl,rfl⟩,trivial⟩,mm⟩ rfl rfl ?_;refine aa ?_;exact⟨3,om,by show 4 - 3 < 4 - 2;omega,(by dsimp only;exact(vm [(0,_)] []))⟩
  ·
   have cc:=B8 (G:=G) (aF ((gY ⟨height,time,prop,par,txs,app,res⟩).take 6)) ⟨7,2,0,res⟩ (mD om om (by rw [h7];omega)) (by have:=hml 6;dsimp only;rw [h7];omega);rw [show aF ((gY ⟨height,time,prop,par,txs,app,res⟩).take 6) ++ aV ⟨7,2,0,res⟩=aF ((gY ⟨height,time,prop,par,txs,app,res⟩).take 7) from(gZ (l:=(gY ⟨height,time,prop,par,txs,app,res⟩)) (k:=6) (by show 6 < 7;omega)).symm,pW 7 h7] at cc;refine aa ?_;refine bC rfl aA rfl cc [(0,0)] [] ⟨rfl,trivial,rfl,⟨rv, .inl ⟨rfl,rfl⟩,trivial⟩,mm⟩ rfl rfl ?_;refine aa ?_;exact⟨4,om,by show 4 - 4 < 4 - 3;omega,(by dsimp only;exact(vm [(0,_)] []))⟩
  ·rw [show (gY ⟨height,time,prop,par,txs,app,res⟩).take (3 + 4)=gY ⟨height,time,prop,par,txs,app,res⟩ from rfl];generalize aF (gY ⟨height,time,prop,par,txs,app,res⟩)=mm' at *;refine aa ?_;refine⟨[_],[],[(0,mm'.length)],rfl,rfl,?_,rfl,⟨?_,trivial⟩,?_⟩
   ·exact⟨by show mm'.length≤(u8s mm').length;simp [u8s],trivial⟩
   ·exact rv
   ·exact mm
theorem Ky (h:wx) (hk:jR h):aE Tryz.prog G 99 [hdM h] (keyM (gi h)):=by
 have c1:=Fb (G:=G) h hk;have c2:=xI (G:=G) (eD h) (by have:=jf hk;omega);unfold gi;obtain⟨height,time,prop,par,txs,app,res⟩:=h;generalize eD ⟨height,time,prop,par,txs,app,res⟩=b at *;generalize gP b=k at *;refine bA seat Tryz.func99 6 ?_;refine aa ?_;refine jW (c1) ?_;refine dL (c2) ?_;refine au ?_;rfl
theorem Dm (l:List (List UInt8)) (hl:l.length < 60000) (hb: ∀b∈l,b.length < 300000000):aE Tryz.prog G 67 [dH l] (keyM (ee l)):=by
 have c1:=xJ (G:=G) _ l (a₁ _) hl hb;unfold dH;generalize ee l=k at *;refine bA seat Tryz.func67 5 ?_;refine aa ?_;refine dL (c1) ?_;refine au ?_;rfl
end
section
variable {G:GS}
attribute [local irreducible] ak aB aD aI aN vC aW aw
theorem Ae (T:bB) (f:Nat) (e:TypeId) (he:bB.find T e=some (.int .u8)): ∀k:List UInt8,(u8s k).all (gf T (f + 1) e)=true
 | [] =>rfl
 | a :: k=>by
  show(gf T (f + 1) e (.int .u8 a.toNat) && (u8s k).all (gf T (f + 1) e))=true
  rw [Ae T f e he k]
  simp [gf,he,DX]
theorem Dn: ∀(a b:List UInt8),a.length=b.length→r8 (u8s a) (u8s b)=some (decide (a=b))
 | [],[],_=>rfl
 | x :: a,y :: b,h=>by
  show(match DZ (.int .u8 x.toNat) (.int .u8 y.toNat),r8 (u8s a) (u8s b) with | some p,some q=>some (p && q) | _,_=>none)=_
  rw [Dn a b (by simpa using h)]
  have e:DZ (.int .u8 x.toNat) (.int .u8 y.toNat)=some (decide (x=y)):=by
   show some (decide ((x.toNat:Int)=(y.toNat:Int)))=_
   have:((x.toNat:Int)=(y.toNat:Int))↔x=y:=by rw [Int.ofNat_inj,UInt8.toNat_inj]
   simp [this]
  rw [e]
  simp
 | [],_ :: _,h=>by simp at h
 | _ :: _,[],h=>by simp at h
theorem gd {a b:List UInt8} (h:a.length=b.length):DZ (keyM a) (keyM b)=some (decide (a=b)):=Dn a b h
theorem rh (f:Nat) (k:List UInt8):gf tab (f + 2) 68 (keyM k)=true:=by
 have h1:bB.find tab 68=some (.arr 32 5 1):=rfl;have h2:=Ae tab f 5 rfl k;unfold keyM;rw [gf.eq_def];simp only [h1];rw [h2];rfl
theorem eqT_key:NB Tryz.prog tab 68=true:=by kernel_rfl
theorem fT (a b:List UInt8):NB Tryz.prog tab 68=true∧gf tab 9 68 (keyM a)=true∧gf tab 9 68 (keyM b)=true:=⟨eqT_key,rh 7 a,rh 7 b⟩
theorem eqI (a b:Int):DZ (.int .i64 a) (.int .i64 b)=some (decide (a=b)):=rfl
theorem Ob (f:Nat) (a:Int):gf tab (f + 1) 3 (.int .i64 a)=true:=by
 have h1:bB.find tab 3=some (.int .i64):=rfl;rw [gf.eq_def];simp only [h1];rfl
structure dO where
 height:Int
 time:Int
 hash:List UInt8
 app:List UInt8
 res:List UInt8
 deriving DecidableEq
abbrev fw (t:dO):MV:= .st [.int .i64 t.height, .int .i64 t.time,keyM t.hash,keyM t.app,keyM t.res]
structure jx (t:dO):Prop where
 height:cj t.height
 time:cj t.time
 hash:t.hash.length=32
 app:t.app.length=32
 res:t.res.length=32
theorem Ik {a b:dO} (ha:jx a) (hb:jx b):DZ (fw a) (fw b)=some (decide (a=b)):=by
 have k1:=gd (a:=a.hash) (b:=b.hash) (by rw [ha.hash,hb.hash]);have k3:=gd (a:=a.app) (b:=b.app) (by rw [ha.app,hb.app]);have k4:=gd (a:=a.res) (b:=b.res) (by rw [ha.res,hb.res]);obtain⟨a1,a2,a3,a4,a5⟩:=a;obtain⟨b1,b2,b3,b4,b5⟩:=b
 show r8 [.int .i64 a1, .int .i64 a2,keyM a3,keyM a4,keyM a5] [.int .i64 b1, .int .i64 b2,keyM b3,keyM b4,keyM b5] =_
 dsimp only at k1 k3 k4;simp only [r8,eqI,k1,k3,k4];rw [Option.some.injEq,Bool.eq_iff_iff];simp [dO.mk.injEq]
theorem Af (t:dO):gf tab 9 70 (fw t)=true:=by
 have h1:bB.find tab 70=some (.struct [(0,3),(1,3),(2,68),(34,68),(66,68)] 98):=rfl;have h2:bB.find tab 3=some (.int .i64):=rfl;have h3:bB.find tab 68=some (.arr 32 5 1):=rfl;unfold fw;rw [gf.eq_def];simp only [h1,confMs,h2,h3,rh 6,Ob 7];rfl
theorem Dp (a b:dO):NB Tryz.prog tab 70=true∧gf tab 9 70 (fw a)=true∧gf tab 9 70 (fw b)=true:=⟨by kernel_rfl,Af a,Af b⟩
structure dv where
 hd:wx
 txs:List (List UInt8)
 deriving DecidableEq
abbrev blkM (b:dv):MV:= .st [hdM b.hd, .sl b.txs.length (b.txs.map bk)]
def fA (t:dO) (b:dv) (nodes maxBytes:Int):Nat:=
 if nodes < 1∨8 < nodes∨t.height < 0∨1073741824 < t.height then 1 else if b.hd.height≠t.height + 1∨1073741824 < b.hd.height then 30 else if b.hd.prop≠b.hd.height % nodes then 36 else
 if b.hd.time≤t.time∨1099511627776 < b.hd.time then 31 else if b.hd.par≠t.hash then 32 else if b.hd.app≠t.app then 33 else if b.hd.res≠t.res then 34 else if b.hd.txs≠ee b.txs then 35 else
 if 512 < b.txs.length∨maxBytes < sumB b.txs then 3 else 0
theorem MH (t:dO) (b:dv) (nodes maxBytes:Int) (ht:jx t) (hb:jR b.hd) (hn:cj nodes) (hm:cj maxBytes) (hl:b.txs.length < 60000) (hx: ∀x∈b.txs,x.length < 300000000):aE Tryz.prog G 65 [fw t,blkM b, .int .i64 nodes, .int .i64 maxBytes] (.int .i64 (fA t b nodes maxBytes)):=by
 have cr:=sE (G:=G) _ b.txs (a₁ _) om hx;have cs:=H9 (G:=G) b.txs om (fun x h=>b₄ (hx x h));have hsum:=pS 300000000 b.txs fun x h=>⟨b₄ (hx x h),by have:=hx x h;unfold bo;omega⟩
 have hmax:b.txs.length * (300000000 + 11)≤60000 * 300000011:=b₂ _ (b₄ hl);have hrl:=fQ b.txs;generalize hr:fA t b nodes maxBytes=R;obtain⟨⟨height,time,prop,par,txs,app,res⟩,l⟩:=b;obtain⟨theight,ttime,thash,tapp,tres⟩:=t;obtain⟨h1,h2,h3,h4,h5,h6,h7⟩:=hb;obtain⟨t1,t2,t3,t4,t5⟩:=ht;unfold fA at hr;unfold dH at cs;try unfold dH at cr
 unfold cj at *;dsimp only at h1 h2 h3 h4 h5 h6 h7 t1 t2 t3 t4 t5 hl hx hr cr cs hsum hmax hrl;have q1:=aj.mk (gd (a:=par) (b:=thash) (by rw [h4,t3]));have q2:=aj.mk (gd (a:=app) (b:=tapp) (by rw [h6,t4]));have q3:=aj.mk (gd (a:=res) (b:=tres) (by rw [h7,t5]));have q4:=aj.mk (gd (a:=txs) (b:=ee l) (by rw [h5,hrl]));have s1:=bE.mk (fT par thash);have s2:=bE.mk (fT app tapp);have s3:=bE.mk (fT res tres);have s4:=bE.mk (fT txs (ee l));generalize ee l=rt at *;generalize sumB l=sm at *;clear hx hrl;dsimp only [fw,blkM,hdM];refine bA seat Tryz.func65 97 ?_;refine aa ?_;by_cases c1:nodes < 1∨8 < nodes∨theight < 0∨1073741824 < theight
 ·rw [if_pos c1] at hr;subst hr;(iterate 6 ((all_goals(refine aa ?_));(all_goals(first | ((first | refine ag rfl rfl ?_ rfl ?_ | refine ad rfl ?_ ?_);all_goals(intro h;(try simp only [pl] at h);(try (exfalso;omega)))) | skip))));all_goals(refine au ?_)
  all_goals rfl
 rw [if_neg c1] at hr;have hne:=bE.mk (show nodes≠0 by omega);(iterate 4 ((all_goals(refine aa ?_));(all_goals(first | ((first | refine ag rfl rfl ?_ rfl ?_ | refine ad rfl ?_ ?_);all_goals(intro h;(try simp only [pl] at h);(try (exfalso;omega)))) | skip))));refine aa ?_;by_cases c2:height≠theight + 1∨1073741824 < height
 ·rw [if_pos c2] at hr;subst hr;(iterate 4 ((all_goals(refine aa ?_));(all_goals(first | ((first | refine ag rfl rfl ?_ rfl ?_ | refine ad rfl ?_ ?_);all_goals(intro h;(try simp only [pl] at h);(try (exfalso;omega)))) | skip))));all_goals(refine au ?_)
  all_goals rfl
 rw [if_neg c2] at hr;(iterate 2 ((all_goals(refine aa ?_));(all_goals(first | ((first | refine ag rfl rfl ?_ rfl ?_ | refine ad rfl ?_ ?_);all_goals(intro h;(try simp only [pl] at h);(try (exfalso;omega)))) | skip))));refine aa ?_;have hmod:height.tmod nodes=height % nodes:=c₀ om;refine al [ae 0,ae 1,ae 2,ae 3,ae 4,ae 5,ae 6,ae 7] ?_;refine aa ?_;refine ad rfl ?_ ?_ <;> intro h
 ·have c3:prop≠height % nodes:=by
   rw [← hmod];simpa using h
  rw [if_pos c3] at hr;subst hr;refine aa ?_;refine au ?_;rfl
 have c3:prop=height % nodes:=by
  rw [← hmod];simpa using h
 rw [if_neg (by simp [c3])] at hr;refine aa ?_;by_cases c4:time≤ttime∨1099511627776 < time
 ·rw [if_pos c4] at hr;subst hr;(iterate 4 ((all_goals(refine aa ?_));(all_goals(first | ((first | refine ag rfl rfl ?_ rfl ?_ | refine ad rfl ?_ ?_);all_goals(intro h;(try simp only [pl] at h);(try (exfalso;omega)))) | skip))));all_goals(refine au ?_)
  all_goals rfl
 rw [if_neg c4] at hr;(iterate 2 ((all_goals(refine aa ?_));(all_goals(first | ((first | refine ag rfl rfl ?_ rfl ?_ | refine ad rfl ?_ ?_);all_goals(intro h;(try simp only [pl] at h);(try (exfalso;omega)))) | skip))));refine aa ?_;refine ad rfl ?_ ?_ <;> intro h
 ·have c5:par≠thash:=by simpa using h
  rw [if_pos c5] at hr;subst hr;refine aa ?_;refine au ?_;rfl
 have c5:par=thash:=by simpa using h
 rw [if_neg (by simp [c5])] at hr;refine aa ?_;refine ad rfl ?_ ?_ <;> intro h
 ·have c6:app≠tapp:=by simpa using h
  rw [if_pos c6] at hr;subst hr;refine aa ?_;refine au ?_;rfl
 have c6:app=tapp:=by simpa using h
 rw [if_neg (by simp [c6])] at hr;refine aa ?_;refine ad rfl ?_ ?_ <;> intro h
 ·have c7:res≠tres:=by simpa using h
  rw [if_pos c7] at hr;subst hr;refine aa ?_;refine au ?_;rfl
 have c7:res=tres:=by simpa using h
 rw [if_neg (by simp [c7])] at hr;refine aa ?_;refine al [ae 0,ae 1,ae 2,ae 3,dj 4,ae 5,ae 6] ?_;refine aa ?_;refine cW (cr) ?_;refine ad rfl ?_ ?_ <;> intro h
 ·have c8:txs≠rt:=by simpa using h
  rw [if_pos c8] at hr;subst hr;refine aa ?_;refine au ?_;rfl
 have c8:txs=rt:=by simpa using h
 rw [if_neg (by simp [c8])] at hr;refine aa ?_;by_cases c9:512 < l.length∨maxBytes < sm
 ·rw [if_pos c9] at hr;subst hr;(iterate 5 ((all_goals(refine aa ?_));(all_goals(first | (refine ah rfl aA rfl (src (cs)) rfl rfl ?_) | ((first | refine ag rfl rfl ?_ rfl ?_ | refine ad rfl ?_ ?_);all_goals(intro h;(try simp only [pl] at h);(try (exfalso;omega)))) | skip))));all_goals(refine au ?_)
  all_goals rfl
 rw [if_neg c9] at hr;subst hr;(iterate 5 ((all_goals(refine aa ?_));(all_goals(first | (refine ah rfl aA rfl (src (cs)) rfl rfl ?_) | ((first | refine ag rfl rfl ?_ rfl ?_ | refine ad rfl ?_ ?_);all_goals(intro h;(try simp only [pl] at h);(try (exfalso;omega)))) | skip))));all_goals(refine au ?_)
 all_goals rfl
theorem ri (t:dO) (b:dv) (nodes maxBytes:Int) (ht:jx t) (hb:jR b.hd) (hn:cj nodes) (hm:cj maxBytes) (hl:b.txs.length < 60000) (hx: ∀x∈b.txs,x.length < 300000000):aE Tryz.prog G 60 [fw t,blkM b, .int .i64 nodes, .int .i64 maxBytes] (.int .i64 (fA t b nodes maxBytes)):=by
 have cr:=Dm (G:=G) b.txs hl hx;have cs:=Mx (G:=G) b.txs om (fun x h=>b₄ (hx x h));have hsum:=pS 300000000 b.txs fun x h=>⟨b₄ (hx x h),by have:=hx x h;unfold bo;omega⟩
 have hmax:b.txs.length * (300000000 + 11)≤60000 * 300000011:=b₂ _ (b₄ hl);have hrl:=fQ b.txs;generalize hr:fA t b nodes maxBytes=R;obtain⟨⟨height,time,prop,par,txs,app,res⟩,l⟩:=b;obtain⟨theight,ttime,thash,tapp,tres⟩:=t;obtain⟨h1,h2,h3,h4,h5,h6,h7⟩:=hb;obtain⟨t1,t2,t3,t4,t5⟩:=ht;unfold fA at hr;unfold dH at cs;try unfold dH at cr
 unfold cj at *;dsimp only at h1 h2 h3 h4 h5 h6 h7 t1 t2 t3 t4 t5 hl hx hr cr cs hsum hmax hrl;have q1:=aj.mk (gd (a:=par) (b:=thash) (by rw [h4,t3]));have q2:=aj.mk (gd (a:=app) (b:=tapp) (by rw [h6,t4]));have q3:=aj.mk (gd (a:=res) (b:=tres) (by rw [h7,t5]));have q4:=aj.mk (gd (a:=txs) (b:=ee l) (by rw [h5,hrl]));have s1:=bE.mk (fT par thash);have s2:=bE.mk (fT app tapp);have s3:=bE.mk (fT res tres);have s4:=bE.mk (fT txs (ee l));generalize ee l=rt at *;generalize sumB l=sm at *;clear hx hrl;dsimp only [fw,blkM,hdM];refine bA seat Tryz.func60 97 ?_;refine aa ?_;by_cases c1:nodes < 1∨8 < nodes∨theight < 0∨1073741824 < theight
 ·rw [if_pos c1] at hr;subst hr;(iterate 6 ((all_goals(refine aa ?_));(all_goals(first | ((first | refine ag rfl rfl ?_ rfl ?_ | refine ad rfl ?_ ?_);all_goals(intro h;(try simp only [pl] at h);(try (exfalso;omega)))) | skip))));all_goals(refine au ?_)
  all_goals rfl
 rw [if_neg c1] at hr;have hne:=bE.mk (show nodes≠0 by omega);(iterate 4 ((all_goals(refine aa ?_));(all_goals(first | ((first | refine ag rfl rfl ?_ rfl ?_ | refine ad rfl ?_ ?_);all_goals(intro h;(try simp only [pl] at h);(try (exfalso;omega)))) | skip))));refine aa ?_;by_cases c2:height≠theight + 1∨1073741824 < height
 ·rw [if_pos c2] at hr;subst hr;(iterate 4 ((all_goals(refine aa ?_));(all_goals(first | ((first | refine ag rfl rfl ?_ rfl ?_ | refine ad rfl ?_ ?_);all_goals(intro h;(try simp only [pl] at h);(try (exfalso;omega)))) | skip))));all_goals(refine au ?_)
  all_goals rfl
 rw [if_neg c2] at hr;(iterate 2 ((all_goals(refine aa ?_));(all_goals(first | ((first | refine ag rfl rfl ?_ rfl ?_ | refine ad rfl ?_ ?_);all_goals(intro h;(try simp only [pl] at h);(try (exfalso;omega)))) | skip))));refine aa ?_;have hmod:height.tmod nodes=height % nodes:=c₀ om;refine al [ae 0,ae 1,ae 2,ae 3,ae 4,ae 5,ae 6,ae 7] ?_;refine aa ?_;refine ad rfl ?_ ?_ <;> intro h
 ·have c3:prop≠height % nodes:=by
   rw [← hmod];simpa using h
  rw [if_pos c3] at hr;subst hr;refine aa ?_;refine au ?_;rfl
 have c3:prop=height % nodes:=by
  rw [← hmod];simpa using h
 rw [if_neg (by simp [c3])] at hr;refine aa ?_;by_cases c4:time≤ttime∨1099511627776 < time
 ·rw [if_pos c4] at hr;subst hr;(iterate 4 ((all_goals(refine aa ?_));(all_goals(first | ((first | refine ag rfl rfl ?_ rfl ?_ | refine ad rfl ?_ ?_);all_goals(intro h;(try simp only [pl] at h);(try (exfalso;omega)))) | skip))));all_goals(refine au ?_)
  all_goals rfl
 rw [if_neg c4] at hr;(iterate 2 ((all_goals(refine aa ?_));(all_goals(first | ((first | refine ag rfl rfl ?_ rfl ?_ | refine ad rfl ?_ ?_);all_goals(intro h;(try simp only [pl] at h);(try (exfalso;omega)))) | skip))));refine aa ?_;refine ad rfl ?_ ?_ <;> intro h
 ·have c5:par≠thash:=by simpa using h
  rw [if_pos c5] at hr;subst hr;refine aa ?_;refine au ?_;rfl
 have c5:par=thash:=by simpa using h
 rw [if_neg (by simp [c5])] at hr;refine aa ?_;refine ad rfl ?_ ?_ <;> intro h
 ·have c6:app≠tapp:=by simpa using h
  rw [if_pos c6] at hr;subst hr;refine aa ?_;refine au ?_;rfl
 have c6:app=tapp:=by simpa using h
 rw [if_neg (by simp [c6])] at hr;refine aa ?_;refine ad rfl ?_ ?_ <;> intro h
 ·have c7:res≠tres:=by simpa using h
  rw [if_pos c7] at hr;subst hr;refine aa ?_;refine au ?_;rfl
 have c7:res=tres:=by simpa using h
 rw [if_neg (by simp [c7])] at hr;refine aa ?_;refine al [ae 0,ae 1,ae 2,ae 3,dj 4,ae 5,ae 6] ?_;refine aa ?_;refine cW (cr) ?_;refine ad rfl ?_ ?_ <;> intro h
 ·have c8:txs≠rt:=by simpa using h
  rw [if_pos c8] at hr;subst hr;refine aa ?_;refine au ?_;rfl
 have c8:txs=rt:=by simpa using h
 rw [if_neg (by simp [c8])] at hr;refine aa ?_;by_cases c9:512 < l.length∨maxBytes < sm
 ·rw [if_pos c9] at hr;subst hr;(iterate 5 ((all_goals(refine aa ?_));(all_goals(first | (refine ah rfl aA rfl (src (cs)) rfl rfl ?_) | ((first | refine ag rfl rfl ?_ rfl ?_ | refine ad rfl ?_ ?_);all_goals(intro h;(try simp only [pl] at h);(try (exfalso;omega)))) | skip))));all_goals(refine au ?_)
  all_goals rfl
 rw [if_neg c9] at hr;subst hr;(iterate 5 ((all_goals(refine aa ?_));(all_goals(first | (refine ah rfl aA rfl (src (cs)) rfl rfl ?_) | ((first | refine ag rfl rfl ?_ rfl ?_ | refine ad rfl ?_ ?_);all_goals(intro h;(try simp only [pl] at h);(try (exfalso;omega)))) | skip))));all_goals(refine au ?_)
 all_goals rfl
end
section
variable {G:GS}
attribute [local irreducible] ak aB aD aI aN vC aW aw
def dU (t:dO) (time prop:Int) (raws:List (List UInt8)):dv:=⟨⟨t.height + 1,if t.time + 1 > time then t.time + 1 else time,prop,t.hash,ee raws,t.app,t.res⟩,raws⟩
abbrev keyZ:MV:=keyM (List.replicate 32 0)
abbrev LF:MV:= .st [.int .i64 0, .int .i64 0, .int .i64 0,keyZ,keyZ,keyZ,keyZ]
theorem Il (t:dO) (time prop:Int) (raws:List (List UInt8)) (h1: -1000≤t.height∧t.height < 4611686018427387904) (h2: -1000≤t.time∧t.time < 4611686018427387904) (hl:raws.length < 60000) (hx: ∀x∈raws,x.length < 300000000):aQ Tryz.prog G 215 [fw t, .int .i64 time, .int .i64 prop,dH raws] [] 0 (blkM (dU t time prop raws)) [] 0:=by
 have cr:=sE (G:=G) _ raws (a₁ _) om hx;obtain⟨height,ttime,hash,app,res⟩:=t;unfold dU dH;dsimp only at *;generalize ee raws=rt at *;dsimp only [fw,blkM,hdM];refine dw seat Tryz.func215 47 ?_;refine aa ?_;refine al [ae 0,ae 1,ae 2,ae 3,ae 4,ae 5,ae 6,ae 7,ae 8,ae 9,ae 10,ae 11,dj 12,ae 13,ae 14,ae 15,ae 16,ae 17,ae 18,ae 19,ae 20] ?_;refine aa ?_;refine cW (cr) ?_;generalize hT:(if ttime + 1 > time then ttime + 1 else time)=T at *;refine av Nat (fun k=> [(33, .int .i64 k),(32, .int .i64 raws.length),(31, .sl raws.length (raws.map bk)),(9, .ptr 1 132 0 0 []),(8, .ptr 0 132 0 0 [])]) (fun k=> [(0,⟨81,132,false,0,[.st [LF, .nils]]⟩),(1,⟨81,132,false,0,[.st [.st [.int .i64 (height + 1), .int .i64 T, .int .i64 prop,keyM hash,keyM rt,keyM app,keyM res], .ms 2 1 0 k]]⟩),(2,⟨41,1,true,0,(raws.take k).map bk⟩)]) 3 (fun k=>k≤raws.length) (fun k=>raws.length - k) 0 (a₉ _) (by rw [b₈];exact(vm [(0,_),(1,_)] [])) ?_;intro k hk;try dsimp only
 refine aa ?_;refine ad rfl ?_ ?_ <;> intro h
 ·have hk':k < raws.length:=by have:=ot h;omega
  have hel:=gM hk';have hbl:=hx _ (b₅ hk');have hsucc:(raws.take (k + 1)).map bk=(raws.take k).map bk ++ [bk raws[k]] :=by rw [b₀ hk',a₆];rfl
  have hll:((raws.take k).map bk).length=k:=by simp;omega
  generalize raws[k] =b at *;replace hel:bF (raws.map bk) raws.length (k:Int)=some (.sl b.length (u8s b)):=hel;have hel:=aj.mk hel;have hsf:=bE.mk (show 0 + b.length≤(u8s b).length by simp [u8s]);have hcut:cutL (u8s b) 0 (0 + b.length)=u8s b:=by rw [cut_u8,c₆,a₃,Nat.sub_zero,b₁]
  refine aa ?_;refine al [ae 0,ae 1,ae 2,ae 3,ae 4,ae 5,ae 6,ae 7,ae 8] ?_;refine aa ?_;refine aZ rfl (by intro R hR;refine cI hR ?_;refine a₀ ((bP b)) ?_;refine a₀ ⟨rfl,ai (by kernel_rfl) pf⟩ ?_;refine⟨u8s b,sv (by show [] ++ u8s b=_;rw [a₈]),b.length,sv pf,?_⟩;exact hR) rfl ?_;refine aa ?_;refine aZ rfl (by intro R hR;refine cI hR ?_;(refine a₀ (a₁ _) ?_;refine⟨_,rfl,?_⟩;refine a₀ ⟨hll,ai (by kernel_rfl) pf⟩ ?_;refine⟨(raws.take (k + 1)).map bk,sv (by rw [hsucc];show _ ++ [MV.sl b.length (cutL (u8s b) 0 (0 + b.length))] =_;rw [hcut];rfl),k + 1,sv pf,?_⟩);exact hR) rfl ?_;refine aa ?_;exact⟨k + 1,by show k + 1≤raws.length;omega,by show raws.length - (k + 1) < raws.length - k;omega,(by dsimp only;exact(vm [(0,_),(1,_),(2,_)] []))⟩
 ·have hk':k=raws.length:=by have:=oF h;omega
  subst hk';rw [b₁];refine aa ?_;refine au ?_;refine⟨[_],[],[(2,raws.length)],rfl,rfl,?_,rfl,⟨?_,trivial⟩,?_⟩
  ·exact⟨by show raws.length≤(raws.map bk).length;simp,trivial⟩
  ·exact .inr ⟨_,rfl,⟨.inl ⟨rfl,rfl⟩, .inr ⟨rfl,rfl,rfl,a₇ (a₃ _),bc bk raws⟩,trivial⟩⟩
  ·exact mm
theorem Dq (t:dO) (time prop:Int) (raws:List (List UInt8)) (h1: -1000≤t.height∧t.height < 4611686018427387904) (h2: -1000≤t.time∧t.time < 4611686018427387904) (hl:raws.length < 60000) (hx: ∀x∈raws,x.length < 300000000):aQ Tryz.prog G 42 [fw t, .int .i64 time, .int .i64 prop,dH raws] [] 0 (blkM (dU t time prop raws)) [] 0:=by
 have cr:=Dm (G:=G) raws hl hx;have co:=E8 (G:=G) raws om (fun b h=>by have:=hx b h;omega);obtain⟨height,ttime,hash,app,res⟩:=t;unfold dU;unfold dH at *;dsimp only at *;generalize ee raws=rt at *;dsimp only [fw,blkM,hdM];refine dw seat Tryz.func42 32 ?_;refine aa ?_;refine al [ae 0,ae 1,ae 2,ae 3,ae 4,ae 5,ae 6,ae 7,ae 8,ae 9,ae 10,ae 11,dj 12,ae 13,ae 14,ae 15,ae 16,ae 17,ae 18,ae 19] ?_;refine aa ?_;refine cW (cr) ?_;generalize hT:(if ttime + 1 > time then ttime + 1 else time)=T at *;refine al [ae 0,ae 1,dj 2,ae 3,ae 4] ?_;refine aa ?_;refine pF (co) ?_;refine au ?_;exact en [_]
def iE (l:dK):dO:=⟨0,0,gP (nG l),nG l,lE []⟩
theorem pX (l:dK):(nG l).length=32:=fQ _
theorem MI (l:dK) (hl:eN l):aE Tryz.prog G 64 [eh l] (fw (iE l)):=by
 have c1:=HG (G:=G) l hl;have hd:=pX l;have c2:=mj (G:=G) (nG l) om;have c3:=HH (G:=G) [] sm sm;unfold iE;obtain⟨acs,col⟩:=l;generalize nG ⟨acs,col⟩=d at *;generalize lE [] =rd at *;rw [hd,← dQ hd] at c2;generalize gP d=sd at *;unfold eh at *;dsimp only at *;dsimp only [fw,blkM,hdM];refine bA seat Tryz.func64 11 ?_;refine aa ?_;refine dL (c1) ?_;refine al [ae 0,dj 1,ae 2,dj 3,ae 4,ae 5] ?_;refine aa ?_;refine cW (c2) ?_;refine cW (c3) ?_;refine au ?_;rfl
theorem Im (l:dK) (hl:eN l):aE Tryz.prog G 58 [eh l] (fw (iE l)):=by
 have c1:=C9 (G:=G) l hl;have hd:=pX l;have c2:=xI (G:=G) (nG l) om;have c3:=Da (G:=G) [] sm sm;unfold iE;obtain⟨acs,col⟩:=l;generalize nG ⟨acs,col⟩=d at *;generalize lE [] =rd at *;rw [hd,← dQ hd] at c2;generalize gP d=sd at *;unfold eh at *;dsimp only at *;dsimp only [fw,blkM,hdM];refine bA seat Tryz.func58 11 ?_;refine aa ?_;refine dL (c1) ?_;refine al [ae 0,dj 1,ae 2,dj 3,ae 4,ae 5] ?_;refine aa ?_;refine cW (c2) ?_;refine cW (c3) ?_;refine au ?_;rfl
def nI (b:dv) (l:dK) (r:List fu):dO:=⟨b.hd.height,b.hd.time,gi b.hd,nG l,lE r⟩
theorem MJ (b:dv) (l:dK) (r:List fu) (hb:jR b.hd) (hl:eN l) (hr:r.length≤50000) (hrs: ∀x∈r,iS x):aE Tryz.prog G 66 [blkM b,eh l, .sl r.length (r.map eA)] (fw (nI b l r)):=by
 have c1:=ow (G:=G) b.hd hb;have c2:=HG (G:=G) l hl;have c3:=HH (G:=G) r hr hrs;unfold nI;obtain⟨⟨height,time,prop,par,txs,app,res⟩,raws⟩:=b;obtain⟨acs,col⟩:=l;dsimp only at *;generalize gi ⟨height,time,prop,par,txs,app,res⟩=hs at *;generalize nG ⟨acs,col⟩=d at *;generalize lE r=rd at *;unfold eh at *;dsimp only at *;dsimp only [fw,blkM,hdM];refine bA seat Tryz.func66 21 ?_;refine aa ?_;refine al [ae 0,ae 1,ae 2,ae 3,ae 4,ae 5,ae 6,ae 7,dj 8,ae 9,dj 10,ae 11,dj 12,ae 13,ae 14] ?_;refine aa ?_;refine cW (c1) ?_;refine cW (c2) ?_;refine cW (c3) ?_;refine au ?_;rfl
theorem Io (t:dO) (b:dv) (l:dK) (r:List fu) (hb:jR b.hd) (hl:eN l) (hr:r.length≤50000) (hrs: ∀x∈r,iS x):aE Tryz.prog G 59 [fw t,blkM b,eh l, .sl r.length (r.map eA)] (fw (nI b l r)):=by
 have c1:=Ky (G:=G) b.hd hb;have c2:=C9 (G:=G) l hl;have c3:=Da (G:=G) r hr hrs;unfold nI;obtain⟨⟨height,time,prop,par,txs,app,res⟩,raws⟩:=b;obtain⟨acs,col⟩:=l;dsimp only at *;generalize gi ⟨height,time,prop,par,txs,app,res⟩=hs at *;generalize nG ⟨acs,col⟩=d at *;generalize lE r=rd at *;unfold eh at *;dsimp only at *;obtain⟨t1,t2,t3,t4,t5⟩:=t;dsimp only [fw,blkM,hdM];refine bA seat Tryz.func59 23 ?_;refine aa ?_;refine al [ae 0,ae 1,ae 2,ae 3,ae 4,ae 5,ae 6,ae 7,dj 8,ae 9,dj 10,ae 11,dj 12,ae 13,ae 14] ?_;refine aa ?_;refine cW (c1) ?_;refine cW (c2) ?_;refine cW (c3) ?_;refine au ?_;rfl
end
end Go.Proofs.YtohikcplmbkmeaaGreatDoor
