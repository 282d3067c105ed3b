/- Parts of a proof, one behind the other: Q3, Q5, PC, N2, PD, PE, X1, X2, X3, X4, W3, KM, W4, W5. -/
import Derived.Test.YthdhlcicpcnbhaaGreatDoorW06
open Bool renaming noConfusion → a₀,and_eq_true → c₀
open List renaming length_append → a₁,length_singleton → a₂,mem_singleton → a₄,take_of_length_le → a₆,append_assoc → a₈,filter_sublist → a₉,length_set → b₀,map_cons → b₁,filter_eq_self → b₃,map_append → b₄,mem_filter → b₅,length_take → b₈,getElem_mem → b₉,take_succ_eq_append_getElem → c₁,nil_append → c₂,mem_append → c₃,take_succ_cons → c₄,nodup_append → c₇,mem_or_eq_of_mem_set → c₈,length_drop → c₉,length_cons → d₀,append_nil → d₁,drop_zero → d₂,length_filter_le → d₃,mem_of_mem_take → d₄,mem_map_of_mem → d₅,map_set → d₆,mem_map → d₈,filter_filter → d₉,drop_length → e₀,nodup_cons → e₂
open And renaming intro → a₃
open Nat renaming le_of_ble_eq_true → a₅,zero_add → a₇,le_refl → b₂,le_of_eq → b₆,zero_le → c₅,le_trans → d₇,not_lt_zero → e₃
open Prod.mk renaming injEq → b₇
open Int renaming toNat_natCast → c₆,natCast_zero → e₁
set_option maxRecDepth 20000
set_option maxHeartbeats 16000000
set_option linter.unusedVariables false
set_option linter.unusedSimpArgs false
namespace Go.Proofs.YthdhlcicpcnbhaaGreatDoor
open Go.RowKit
section
variable {G:GS}
attribute [local irreducible] aj aC aG aL aO vC aU au
theorem rb (t:iJ):(eW t).1.length≤4096:=by
 unfold eW;split
 ·simp
 ·split
  ·simp
  ·dsimp only;omega
def FO (L:List Int) (N:Nat) (raw:List UInt8):List UInt8×Nat:=
 if raw.length=0 then(raw,N) else if nextN L N 12≠0 then(raw,N + 1) else if nextN L (N + 2) 2=0 then(raw.take (nextN L (N + 1) raw.length),N + 3) else(raw.set (nextN L (N + 1) raw.length) (UInt8.ofNat (nextN L (N + 3) 256)),N + 4)
def vH (L:List Int) (N:Nat) (acs:List aW) (price:Nat):List UInt8×Nat:=FO L (D8 L N acs price).2 (eW (D8 L N acs price).1).1
theorem Ld (L:List Int) (N:Nat) (raw:List UInt8):(FO L N raw).1.length≤raw.length∧(FO L N raw).2≤N + 4:=by
 unfold FO;(repeat' split) <;> refine⟨?_,?_⟩ <;> dsimp only <;> first | omega | (rw [b₈];omega) | (rw [b₀];omega)
theorem yg {L:List Int} {N:Nat} {acs:List aW} {price:Nat} (h: ∀a∈acs,eM a):(vH L N acs price).1.length≤4096∧(vH L N acs price).2≤N + 24:=by
 have h1:=Ix (L:=L) (N:=N) (price:=price) h;have h2:=rb (D8 L N acs price).1;have h3:=Ld L (D8 L N acs price).2 (eW (D8 L N acs price).1).1;unfold vH;omega
theorem Iy (L:List Int) (N:Nat) (l:gr) (price:Nat) (hN:N < 4000000000000000000) (hl:kS l) (hp:bh price):aH Tryz.prog G 20 [numP,lgM l, .int .u64 price] (dI L N) 1 (.sl (vH L N l.acs price).1.length (u8s (vH L N l.acs price).1)) (dI L (vH L N l.acs price).2) 1:=by
 have c1:=Nf (G:=G) L N l price hN hl hp;have hk:=Ix (L:=L) (N:=N) (price:=price) hl.2.2;have c2:=An (G:=G) (D8 L N l.acs price).1 hk.1;have hel:=rb (D8 L N l.acs price).1;unfold vH;obtain⟨acs,col⟩:=l;dsimp only at *;generalize D8 L N acs price=T at *;obtain⟨t,N1⟩:=T;obtain⟨snd,seq,gas,fee,memo,trs⟩:=t;dsimp only at *;generalize eW ⟨snd,seq,gas,fee,memo,trs⟩=en at *;obtain⟨raw,e⟩:=en;dsimp only at *;unfold nh lgM at *;dsimp only at *;replace hk:=hk.2;have cn1:=eQ (G:=G) L N1 12 om om om;generalize hr:FO L N1 raw=R;obtain⟨Rr,RN⟩:=R;dsimp only;unfold FO at hr;refine bR seat Tryz.func20 46 ?_;refine ae ?_;refine yc (c1) [(0,0)] ?_;refine ae ?_;refine jS (c2) ?_;by_cases h0:raw.length=0
 ·rw [if_pos h0] at hr;simp only [b₇] at hr;obtain⟨rfl,rfl⟩:=hr;refine ah rfl rfl ?_ rfl ?_ <;> intro h
  ·exact absurd (ot h) om
  refine ae ?_;refine av ?_;exact en [_]
 rw [if_neg h0] at hr;have cn2:=eQ (G:=G) L (N1 + 1) raw.length om om om;have b2:=(cW L (N1 + 1) raw.length om).2;have cn3:=eQ (G:=G) L (N1 + 1 + 1) 2 om om om;have cn4:=eQ (G:=G) L (N1 + 1 + 1 + 1) 256 om om om;rw [show N1 + 2=N1 + 1 + 1 from rfl,show N1 + 3=N1 + 1 + 1 + 1 from rfl,show N1 + 4=N1 + 1 + 1 + 1 + 1 from rfl] at hr;generalize nextN L N1 12=x1 at *;generalize nextN L (N1 + 1) raw.length=x2 at *;generalize nextN L (N1 + 1 + 1) 2=x3 at *;generalize nextN L (N1 + 1 + 1 + 1) 256=x4 at *;refine ah rfl rfl ?_ rfl ?_ <;> intro h
 rotate_left
 ·exact absurd (oF h) om
 refine ae ?_;refine yc (cn1) [(0,0)] ?_;refine ae ?_;by_cases h1:x1=0
 ·rw [if_neg (by simp [h1])] at hr;refine ad rfl ?_ ?_ <;> intro h
  rotate_left
  ·exact absurd h (by simp [h1])
  refine ae ?_;refine yc (cn2) [(0,0)] ?_;refine ae ?_;refine yc (cn3) [(0,0)] ?_;refine ae ?_;by_cases h3:x3=0
  ·rw [if_pos h3] at hr;simp only [b₇] at hr;obtain⟨rfl,rfl⟩:=hr;have fb1:=al.mk (nt (n:=raw.length) (k:=x2) (κ:= .i64) om);have fb3:=bN.mk (cG raw);refine ad rfl ?_ ?_ <;> intro h
   rotate_left
   ·exact absurd h (by simp [h3])
   have htl:(raw.take x2).length=x2:=by rw [b₈];omega
   rw [htl];have hct:u8s (raw.take x2)=cutL (u8s raw) 0 x2:=by rw [cut_u8];simp
   rw [hct];refine ae ?_;refine av ?_;exact en [_]
  ·rw [if_neg h3] at hr;simp only [b₇] at hr;obtain⟨rfl,rfl⟩:=hr;refine ad rfl ?_ ?_ <;> intro h
   ·exfalso;have:(x3:Int)=0:=by simpa using h
    omega
   refine ae ?_;refine aY rfl rfl (by intro R hR;refine dM hR ?_;refine a₃ ((cG raw)) ?_;refine a₃ ⟨rfl,aE (by kernel_rfl) pf⟩ ?_;refine⟨u8s raw,sv (by show [] ++ u8s raw=_;rw [c₂]),raw.length,sv pf,?_⟩;exact hR) rfl ?_;have f1:=al.mk (ca b2);have f2:=al.mk (show bH (u8s raw) (0 + x2)=some (.int .u8 raw[x2].toNat) by rw [bD,a₇];simp [u8s,b2]);have f3:=aT.mk (Na x4);generalize raw[x2] =ob at *;refine ae ?_;refine yc (cn4) [(0,0)] ?_;refine ae ?_;rw [b₀];refine⟨[_],[],[(30,raw.length)],rfl,rfl,?_,rfl,⟨?_,trivial⟩,?_⟩
   ·exact⟨by show raw.length≤(setL (u8s raw) (0 + x2) _).length;rw [setL_eq];simp [u8s],trivial⟩
   ·refine .inr ⟨rfl,rfl,rfl,b₆ (a₇ _),?_⟩
    show cutL (setL (u8s raw) (0 + x2) (KJ (UInt8.ofNat x4))) 0 (0 + raw.length)=u8s (raw.set x2 (UInt8.ofNat x4))
    rw [setL_eq,a₇];have e1:(u8s raw).set x2 (KJ (UInt8.ofNat x4))=u8s (raw.set x2 (UInt8.ofNat x4)):=by unfold u8s;rw [d₆]
    rw [e1,cut_u8,d₂,a₇,Nat.sub_zero,a₆ (by rw [b₀];omega)]
   ·exact mm
 ·rw [if_pos h1] at hr;simp only [b₇] at hr;obtain⟨rfl,rfl⟩:=hr;refine ad rfl ?_ ?_ <;> intro h
  ·exfalso;have:(x1:Int)=0:=by simpa using h
   omega
  refine ae ?_;refine av ?_;exact en [_]
end
section
variable {G:GS}
attribute [local irreducible] aj aC aG aL aO vC aU au
theorem Ng {k:Nat} (hk:k < 4): ∃nm:List UInt8,bH [MV.str [97,110,110],MV.str [98,111,98],MV.str [101,118,101],MV.str [122,111,101]] (0 + k)=some (.str nm)∧nm.length≤5:=by
 have h4:k=0∨k=1∨k=2∨k=3:=om;rcases h4 with rfl | rfl | rfl | rfl <;> exact⟨_,rfl,by decide⟩
theorem Nh {k:Nat} (hk:k < 5): ∃v:Nat,bH [MV.int .u64 100000,MV.int .u64 5000,MV.int .u64 700,MV.int .u64 0,MV.int .u64 1099511627776] (0 + k)=some (.int .u64 (v:Int))∧bh v:=by
 have h5:k=0∨k=1∨k=2∨k=3∨k=4:=om;rcases h5 with rfl | rfl | rfl | rfl | rfl
 ·exact⟨100000,rfl,by decide⟩
 ·exact⟨5000,rfl,by decide⟩
 ·exact⟨700,rfl,by decide⟩
 ·exact⟨0,rfl,by decide⟩
 ·exact⟨1099511627776,rfl,by decide⟩
theorem Iz {k:Nat} (hk:k < 3): ∃v:Nat,bH [MV.int .u64 5,MV.int .u64 18446744073709551615,MV.int .u64 18446744073709551614] (0 + k)=some (.int .u64 (v:Int))∧bh v:=by
 have h3:k=0∨k=1∨k=2:=om;rcases h3 with rfl | rfl | rfl
 ·exact⟨5,rfl,by decide⟩
 ·exact⟨18446744073709551615,rfl,by decide⟩
 ·exact⟨18446744073709551614,rfl,by decide⟩
theorem Cu (L:List Int) (N:Nat) (hN:N < 4000000000000000000):Cr G L 15 [numP] N fun r N'=> ∃acs:List aW,acs.length≤4∧(∀a∈acs,eM a)∧N'≤N + 14∧r= .sl acs.length (acs.map aV):=by
 obtain⟨m,hm,cm⟩:=bk (G:=G) L N 4 om om om;unfold Cr;refine gC seat Tryz.func15 rfl rfl (a₅ rfl) (a₅ rfl) (N:=36) rfl rfl ?_;refine ae ?_;refine yc (cm) [(0,0)] ?_;refine ae ?_;refine ar (Nat×Nat×List aW) (fun x=> [(4, .int .i64 ((x.1:Int) - 1)),(3, .ms 1 3 0 x.2.2.length),(0,numP)]) (fun x=>dI L x.2.1 ++ [(1,⟨87,3,true,0,x.2.2.map aV⟩)]) 2 (fun x=>x.1 + x.2.2.length≤4∧x.2.1 + 3 * x.1≤N + 14∧(∀a∈x.2.2,eM a)) (fun x=>x.1) (m + 1,N + 1,[]) ⟨by simp;omega,dm,sm⟩ (by dsimp only;exact vm [] []) ?_;rintro⟨j,K,acs⟩ ⟨h1,h2,h3⟩;try dsimp only
 dsimp only at h1 h2 h3;refine ae ?_;refine ad rfl ?_ ?_ <;> intro h
 ·have hj:1≤j:=by have:=ot h;omega
  obtain⟨i,rfl⟩: ∃i,j=i + 1:=⟨j - 1,om⟩
  have hcast:((i + 1:Nat):Int) - 1=(i:Int):=om;rw [hcast];obtain⟨nm,f1,g1⟩:=Ng (k:=i) om;obtain⟨x5,hx5,c5⟩:=bk (G:=G) L K 5 om om om;obtain⟨bal,f2,g2⟩:=Nh (k:=x5) hx5;obtain⟨x6,hx6,c6⟩:=bk (G:=G) L (K + 1) 6 om om om;obtain⟨x3,hx3,c3⟩:=bk (G:=G) L (K + 1 + 1) 3 om om om;obtain⟨sq,f3,g3⟩:=Iz (k:=x3) hx3;have f1:=al.mk f1;have f2:=al.mk f2;have f3:=al.mk f3;have i1:=al.mk (ca (n:=4) (k:=i) om);have i2:=al.mk (ca hx5);have i3:=al.mk (ca hx3);have hll:(acs.map aV).length=acs.length:=sm;refine ae ?_;refine aw [ag 0,ag 1,ag 2,ag 3,ag 4,ag 5,de 6,ag 7,ag 8,ag 9,ag 10,ag 11] ?_;refine ae ?_;refine bG rfl (fun _ h=>h) rfl [0] (c5) [(0,0)] [] ⟨rfl,trivial,rfl,lm,mm⟩ rfl rfl rfl rfl rfl ?_;refine ae ?_;refine yc (c6) [(0,0)] ?_;refine ae ?_;refine ad rfl ?_ ?_ <;> intro h
  ·refine ae ?_;refine yc (c3) [(0,0)] ?_;refine ae ?_;refine aY rfl rfl (by intro R hR;refine dM hR ?_;(refine a₃ (b₂ _) ?_;refine⟨_,rfl,?_⟩;refine a₃ ⟨hll,aE (by kernel_rfl) pf⟩ ?_;refine⟨(acs ++ [(⟨nm,bal,sq⟩:aW)]).map aV,sv (by rw [b₄];rfl),acs.length + 1,sv pf,?_⟩);exact hR) rfl ?_;refine ae ?_;exact⟨(i,K + 1 + 1 + 1,acs ++ [⟨nm,bal,sq⟩]),⟨by dsimp only;rw [a₁,a₂];omega,dm,eV h3 fun a ha=>by rw [a₄.1 ha];exact⟨dm,g2,g3⟩⟩,dm,(by dsimp only;rw [a₁,a₂];exact(vm [(1,_)] []))⟩
  ·refine ae ?_;refine aY rfl rfl (by intro R hR;refine dM hR ?_;(refine a₃ (b₂ _) ?_;refine⟨_,rfl,?_⟩;refine a₃ ⟨hll,aE (by kernel_rfl) pf⟩ ?_;refine⟨(acs ++ [(⟨nm,bal,0⟩:aW)]).map aV,sv (by rw [b₄];rfl),acs.length + 1,sv pf,?_⟩);exact hR) rfl ?_;refine ae ?_;exact⟨(i,K + 1 + 1,acs ++ [⟨nm,bal,0⟩]),⟨by dsimp only;rw [a₁,a₂];omega,dm,eV h3 fun a ha=>by rw [a₄.1 ha];exact⟨dm,g2,by simp [bh]⟩⟩,dm,(by dsimp only;rw [a₁,a₂];exact(vm [(1,_)] []))⟩
 ·refine ae ?_;refine⟨_,_,_,⟨K,⟨⟨acs,om,h3,om,rfl⟩,rfl⟩,rfl,rfl⟩,?_⟩;refine⟨[_],[],[(1,acs.length)],rfl,rfl,?_,rfl,⟨?_,trivial⟩,?_⟩
  ·exact⟨by show acs.length≤(acs.map aV).length;simp,trivial⟩
  ·exact .inr ⟨rfl,rfl,rfl,b₆ (a₇ _),bT aV acs⟩
  ·exact mm
structure ll where
 maxTxs:Int
 maxBytes:Int
 maxTx:Int
 cache:Int
 ttlB:Int
 ttlT:Int
 keep:Bool
 blkB:Int
 blkG:Int
 price:Nat
 self:Int
 nodes:Int
abbrev cfM (c:ll):MV:= .st [.int .i64 c.maxTxs, .int .i64 c.maxBytes, .int .i64 c.maxTx, .int .i64 c.cache, .int .i64 c.ttlB, .int .i64 c.ttlT, .bool c.keep, .int .i64 c.blkB, .int .i64 c.blkG, .int .u64 c.price, .int .i64 c.self, .int .i64 c.nodes]
structure rJ (c:ll):Prop where
 maxTxs:1≤c.maxTxs∧c.maxTxs≤512
 maxBytes:1≤c.maxBytes∧c.maxBytes≤1048576
 maxTx:1≤c.maxTx∧c.maxTx≤4096
 cache:0≤c.cache∧c.cache≤1024
 ttlB:0≤c.ttlB∧c.ttlB≤1073741824
 ttlT:0≤c.ttlT∧c.ttlT≤1073741824
 blkB:1≤c.blkB∧c.blkB≤1048576
 blkG: -1≤c.blkG∧c.blkG≤1125899906842624
 price:bh c.price
 self:0≤c.self∧c.self < c.nodes
 nodes:c.nodes≤8
abbrev Le:MV:= .st [.int .i64 0, .int .i64 0, .int .i64 0, .int .i64 0, .int .i64 0, .int .i64 0, .bool false, .int .i64 0, .int .i64 0, .int .u64 0, .int .i64 0, .int .i64 0]
theorem IA (L:List Int) (N:Nat) (hN:N < 4000000000000000000):Cr G L 14 [numP] N fun r N'=> ∃c:ll,rJ c∧N'≤N + 14∧r=cfM c:=by
 obtain⟨x0,b0,c0⟩:=bk (G:=G) L (N) 7 om om om;obtain⟨x1,b1,c1⟩:=bk (G:=G) L (N + 1) 400 om om om;obtain⟨x2,b2,c2⟩:=bk (G:=G) L (N + 1 + 1) 140 om om om;obtain⟨x3,b3,c3⟩:=bk (G:=G) L (N + 1 + 1 + 1) 12 om om om;obtain⟨x4,b4,c4⟩:=bk (G:=G) L (N + 1 + 1 + 1 + 1) 4 om om om;obtain⟨x5,b5,c5⟩:=bk (G:=G) L (N + 1 + 1 + 1 + 1 + 1) 3 om om om;obtain⟨x6,b6,c6⟩:=bk (G:=G) L (N + 1 + 1 + 1 + 1 + 1 + 1) 20 om om om;obtain⟨x7,b7,c7⟩:=bk (G:=G) L (N + 1 + 1 + 1 + 1 + 1 + 1 + 1) 3 om om om;obtain⟨x8,b8,c8⟩:=bk (G:=G) L (N + 1 + 1 + 1 + 1 + 1 + 1 + 1 + 1) 400 om om om;obtain⟨x9,b9,c9⟩:=bk (G:=G) L (N + 1 + 1 + 1 + 1 + 1 + 1 + 1 + 1 + 1) 3 om om om;obtain⟨x10,b10,c10⟩:=bk (G:=G) L (N + 1 + 1 + 1 + 1 + 1 + 1 + 1 + 1 + 1 + 1) 3 om om om;have hm:0≤(x5:Int) * x6∧(x5:Int) * x6 < 60:=by
  have e:x5=0∨x5=1∨x5=2:=om;rcases e with rfl | rfl | rfl <;> simp <;> omega
 generalize hM:(x5:Int) * x6=M at *;have em:=aT.mk (show IntKind.i64.wrap ((x5:Int) * x6)=M by rw [hM];exact dW _ om om);unfold Cr;refine gC seat Tryz.func14 rfl rfl (a₅ rfl) (a₅ rfl) (N:=47) rfl rfl ?_;refine ae ?_;refine yc (c0) [(0,0)] ?_;refine ae ?_;refine yc (c1) [(0,0)] ?_;refine ae ?_;refine yc (c2) [(0,0)] ?_;refine qc ([(11, .int .i64 x2),(9, .int .i64 (250 + (x1:Int))),(6, .int .i64 (1 + (x0:Int))),(2, .ptr 1 12 0 0 []),(0,numP)]) (dI L (N + 1 + 1 + 1) ++ [(1,⟨24,12,false,0,[Le]⟩)]) [] trivial rfl mm mm ?_;refine ae ?_;refine yc (c3) [(0,0)] ?_;refine ae ?_;refine yc (c4) [(0,0)] ?_;refine ae ?_;refine yc (c5) [(0,0)] ?_;refine qc ([(18, .int .i64 x5),(16, .int .i64 x4),(14, .int .i64 x3),(12, .int .i64 (60 + (x2:Int))),(9, .int .i64 (250 + (x1:Int))),(6, .int .i64 (1 + (x0:Int))),(2, .ptr 1 12 0 0 []),(0,numP)]) (dI L (N + 1 + 1 + 1 + 1 + 1 + 1) ++ [(1,⟨24,12,false,0,[Le]⟩)]) [] trivial rfl mm mm ?_;refine ae ?_;refine yc (c6) [(0,0)] ?_;refine ae ?_;refine yc (c7) [(0,0)] ?_;refine ae ?_;refine yc (c8) [(0,0)] ?_;refine qc ([(26, .int .i64 x8),(24, .bool ((x7:Int) == 0)),(21, .int .i64 M),(16, .int .i64 x4),(14, .int .i64 x3),(12, .int .i64 (60 + (x2:Int))),(9, .int .i64 (250 + (x1:Int))),(6, .int .i64 (1 + (x0:Int))),(2, .ptr 1 12 0 0 []),(0,numP)]) (dI L (N + 1 + 1 + 1 + 1 + 1 + 1 + 1 + 1 + 1) ++ [(1,⟨24,12,false,0,[Le]⟩)]) [] trivial rfl mm mm ?_;refine ae ?_;refine yc (c9) [(0,0)] ?_;refine ae ?_;refine yc (c10) [(0,0)] ?_;refine ae ?_;refine xI (Nat×Int) (fun x=> [(0,numP),(2, .ptr 1 12 0 0 []),(3, .ptr 2 12 0 0 [])]) (fun x=>dI L x.1 ++ [(1,⟨24,12,false,0,[Le]⟩),(2,⟨24,12,false,0,[.st [.int .i64 (1 + (x0:Int)), .int .i64 (250 + (x1:Int)), .int .i64 (60 + (x2:Int)), .int .i64 x3, .int .i64 x4, .int .i64 M, .bool ((x7:Int) == 0), .int .i64 (100 + (x8:Int)), .int .i64 x.2, .int .u64 x9, .int .i64 0, .int .i64 1]]⟩)]) (fun _=>3) (fun x=>x.1≤N + 12∧ -1≤x.2∧x.2≤2000) (fun JQ hj=>?_) (fun x hx=>?_)
 ·refine ad rfl ?_ ?_ <;> intro h
  ·obtain⟨y,hy,cy⟩:=bk (G:=G) L (N + 1 + 1 + 1 + 1 + 1 + 1 + 1 + 1 + 1 + 1 + 1) 900 om om om;refine ae ?_;refine yc (cy) [(0,0)] ?_;refine ae ?_;exact hj.nrm (N + 1 + 1 + 1 + 1 + 1 + 1 + 1 + 1 + 1 + 1 + 1 + 1,200 + (y:Int)) ⟨dm,dm,dm⟩ (by dsimp only;exact(vm [(1,_),(2,_)] []))
  ·refine ae ?_;exact hj.nrm (N + 1 + 1 + 1 + 1 + 1 + 1 + 1 + 1 + 1 + 1 + 1, -1) ⟨dm,dm,dm⟩ (by dsimp only;exact(vm [(1,_),(2,_)] []))
 ·obtain⟨K,g⟩:=x;dsimp only at hx;obtain⟨hK,hg1,hg2⟩:=hx;obtain⟨z,hz,cz⟩:=bk (G:=G) L K 6 om om om;obtain⟨w,hw,cw⟩:=bk (G:=G) L (K + 1) 40 om om om;try dsimp only
  refine ae ?_;refine yc (cz) [(0,0)] ?_;refine ae ?_;refine ad rfl ?_ ?_ <;> intro h
  ·refine ae ?_;refine yc (cw) [(0,0)] ?_;refine ae ?_;refine av ?_;exact⟨_,_,_,⟨_,⟨⟨⟨1 + (x0:Int),250 + (x1:Int),40 + (w:Int),x3,x4,M,(x7:Int) == 0,100 + (x8:Int),g,x9,0,1⟩,⟨dm,dm,dm,dm,dm,dm,dm,dm,by unfold bh;dsimp only;omega,dm,dm⟩,(by show K + 1 + 1≤_;omega),rfl⟩,rfl⟩,rfl,rfl⟩,en [_]⟩
  ·refine ae ?_;refine av ?_;exact⟨_,_,_,⟨_,⟨⟨⟨1 + (x0:Int),250 + (x1:Int),60 + (x2:Int),x3,x4,M,(x7:Int) == 0,100 + (x8:Int),g,x9,0,1⟩,⟨dm,dm,dm,dm,dm,dm,dm,dm,by unfold bh;dsimp only;omega,dm,dm⟩,(by show K + 1≤_;omega),rfl⟩,rfl⟩,rfl,rfl⟩,en [_]⟩
end
section
variable {G:GS}
attribute [local irreducible] aj aC aG aL aO vC aU au
structure OC (B:Nat) (e:Ent):Prop where
 key:e.key.length=32
 raw:e.raw.length≤4096
 sender:e.sender.length≤5000
 height:0≤e.height∧e.height < 4611686018427387904
 time:0≤e.time∧e.time < 4611686018427387904
 peers:e.peers.length≤B
 gas:0≤e.gas∧e.gas < 18446744073709551616
def kY (k:List UInt8) (l:List Ent):Int:=posK k (l.map (·.key)) 0
theorem OD (l:List Ent) (key:List UInt8) (hl:l.length≤1000000) (hk32:key.length=32) (hs: ∀e∈l,e.key.length=32):aD Tryz.prog G 28 [.sl l.length (l.map aA),keyM key] (.int .i64 (kY key l)):=by
 generalize hr:kY key l=R;unfold kY at hr;refine aZ seat Tryz.func28 20 ?_;refine ae ?_;refine ar Nat (fun k=> [(9, .int .i64 k),(8, .int .i64 l.length),(7, .sl l.length (l.map aA)),(3, .ptr 0 32 0 0 [])]) (fun _=> [(0,⟨55,32,false,0,[keyM key]⟩)]) 1 (fun k=>k≤l.length∧posK key ((l.drop k).map (·.key)) k=R) (fun k=>l.length - k) 0 ⟨c₅ _,by rw [d₂];exact hr⟩ (vm [(0,_)] []) ?_;rintro k ⟨hk,hR⟩;try dsimp only
 refine ae ?_;refine ad rfl ?_ ?_ <;> intro h
 ·have hk':k < l.length:=by have:=ot h;omega
  have hel:=eF hk';have h32:=hs _ (b₉ hk');rw [List.drop_eq_getElem_cons hk',b₁,posK] at hR;generalize l[k] =a at *;have hel:=al.mk hel;have q1:=al.mk (qm (a:=a.key) (b:=key) (by rw [h32,hk32]));have s1:=bN.mk (iL a.key key);by_cases he:a.key=key
  ·rw [if_pos he] at hR;rw [decide_eq_true he] at q1;subst hR;refine ae ?_;refine av ?_;rfl
  ·rw [if_neg he] at hR;rw [decide_eq_false he] at q1;refine ae ?_;exact⟨k + 1,⟨by show k + 1≤l.length;omega,hR⟩,by show l.length - (k + 1) < l.length - k;omega,(by dsimp only;exact(vm [(0,_)] []))⟩
 ·have hk':k=l.length:=by have:=oF h;omega
  subst hk';rw [e₀,List.map_nil,posK] at hR;subst hR;refine ae ?_;refine av ?_;rfl
theorem pj (k:List UInt8) (l:List Ent):kY k l= -1∨∃j:Nat,kY k l=(j:Int)∧j < l.length:=by
 rcases jY k (l.map (·.key)) 0 with h | ⟨j,h,hj⟩
 ·exact .inl h
 ·exact .inr ⟨j,by unfold kY;rw [h,a₇],by simpa using hj⟩
structure cY where
 cfg:ll
 app:nR
 height:Int
 time:Int
 arr:Int
 ents:List Ent
 cache:List (List UInt8)
abbrev cO (s:cY):MV:= .st [cfM s.cfg,appM s.app, .int .i64 s.height, .int .i64 s.time, .int .i64 s.arr, .sl s.ents.length (s.ents.map aA), .sl s.cache.length (s.cache.map keyM)]
class Fx where
 P:ll→gr→gr→Bool→Nat→Prop
structure ug (F:Fx) (B:Nat) (s:cY):Prop where
 cfg:rJ s.cfg
 app:ig s.app
 height:0≤s.height∧s.height≤1000000000000
 time:0≤s.time∧s.time≤100 * B
 arr:0≤s.arr∧s.arr≤B
 ents:s.ents.length≤B
 entk: ∀e∈s.ents,OC B e
 cache:s.cache.length≤1024
 ck:eG s.cache
 fx:F.P s.cfg s.app.com s.app.nxt s.app.opn s.app.price
abbrev ef [FX:Fx] (B:Nat) (s:cY):Prop:=ug FX B s
def cA (s:cY) (k:List UInt8):cY:={ s with cache:=ik k s.cache s.cfg.cache }
def ga (s:cY) (k:List UInt8):cY:={ s with cache:=gu k s.cache }
def gd (s:cY) (k:List UInt8):cY:=if s.cfg.keep=true then s else ga s k
def fC (s:cY) (k:List UInt8):cY×Bool:=if kY k s.ents < 0 then(s,false) else({ s with ents:=s.ents.take (kY k s.ents).toNat ++ s.ents.drop ((kY k s.ents).toNat + 1) },true)
theorem qp [FX:Fx] {B:Nat} {s:cY} {k:List UInt8} (h:ef B s) (hk:k.length=32):ef B (cA s k):=by
 have:=Il (size:=s.cfg.cache) hk h.ck;exact⟨h.cfg,h.app,h.height,h.time,h.arr,h.ents,h.entk,by have:=this.2;have:=h.cache;show(ik k s.cache s.cfg.cache).length≤_;omega,this.1,h.fx⟩
theorem jZ [FX:Fx] {B:Nat} {s:cY} {k:List UInt8} (h:ef B s):ef B (ga s k):=by
 have:=Ik (k:=k) h.ck;exact⟨h.cfg,h.app,h.height,h.time,h.arr,h.ents,h.entk,by have:=this.2;have:=h.cache;show(gu k s.cache).length≤_;omega,this.1,h.fx⟩
theorem ml [FX:Fx] {B:Nat} {s:cY} {k:List UInt8} (h:ef B s):ef B (gd s k):=by
 unfold gd;split
 ·exact h
 ·exact jZ h
theorem uh [FX:Fx] {B:Nat} {s:cY} {k:List UInt8} (h:ef B s):ef B (fC s k).1:=by
 unfold fC;split
 ·exact h
 ·refine⟨h.cfg,h.app,h.height,h.time,h.arr,?_,fun e he=>?_,h.cache,h.ck,h.fx⟩
  ·have:=h.ents;dsimp only;rw [a₁,b₈,c₉];rcases pj k s.ents with h0 | ⟨j,hj,hlt⟩
   ·omega
   ·rw [hj,c₆];omega
  ·exact(c₃.1 he).elim (fun he=>h.entk e (d₄ he)) (fun he=>h.entk e (List.mem_of_mem_drop he))
theorem IB [FX:Fx] {B:Nat} (s:cY) (k:List UInt8) (h:ef B s) (hk:k.length=32):aD Tryz.prog G 59 [cO s,keyM k] (cO (cA s k)):=by
 obtain⟨⟨f1,f2,f3,f4,f5,f6,keep,f8,f9,f10,f11,f12⟩,⟨⟨a1,a2⟩,⟨a3,a4⟩,⟨a5,a6⟩,a7,a8⟩,height,time,arr,ents,cache⟩:=s;have h1:cache.length≤1024:=h.cache;have h2:0≤f4∧f4≤1024:=h.cfg.cache;have c1:=MZ (G:=G) cache f4 k om (by unfold Aw;omega) hk h.ck
 show aD _ _ _ _ (cO ⟨⟨f1,f2,f3,f4,f5,f6,keep,f8,f9,f10,f11,f12⟩,⟨⟨a1,a2⟩,⟨a3,a4⟩,⟨a5,a6⟩,a7,a8⟩,height,time,arr,ents,ik k cache f4⟩)
 generalize ik k cache f4=nc at *;clear h;dsimp only [cO,cfM,appM,lgM];try generalize a1.map aV=b1 at *
 try generalize a1.length=d1 at *
 try generalize a3.map aV=b3 at *
 try generalize a3.length=d3 at *
 try generalize a5.map aV=b5 at *
 try generalize a5.length=d5 at *
 refine aZ seat Tryz.func59 17 ?_;refine ae ?_;refine jS (c1) ?_;(refine wo [_] rfl (by kernel_rfl) ?_;(refine av ?_);exact rfl)
theorem ui [FX:Fx] {B:Nat} (s:cY) (k:List UInt8) (h:ef B s) (hk:k.length=32):aD Tryz.prog G 64 [cO s,keyM k] (cO (ga s k)):=by
 obtain⟨⟨f1,f2,f3,f4,f5,f6,keep,f8,f9,f10,f11,f12⟩,⟨⟨a1,a2⟩,⟨a3,a4⟩,⟨a5,a6⟩,a7,a8⟩,height,time,arr,ents,cache⟩:=s;have h1:cache.length≤1024:=h.cache;have c1:=MY (G:=G) cache k om hk h.ck
 show aD _ _ _ _ (cO ⟨⟨f1,f2,f3,f4,f5,f6,keep,f8,f9,f10,f11,f12⟩,⟨⟨a1,a2⟩,⟨a3,a4⟩,⟨a5,a6⟩,a7,a8⟩,height,time,arr,ents,gu k cache⟩)
 generalize gu k cache=nc at *;clear h;dsimp only [cO,cfM,appM,lgM];try generalize a1.map aV=b1 at *
 try generalize a1.length=d1 at *
 try generalize a3.map aV=b3 at *
 try generalize a3.length=d3 at *
 try generalize a5.map aV=b5 at *
 try generalize a5.length=d5 at *
 refine aZ seat Tryz.func64 14 ?_;refine ae ?_;refine jS (c1) ?_;(refine wo [_] rfl (by kernel_rfl) ?_;(refine av ?_);exact rfl)
theorem Cv [FX:Fx] {B:Nat} (s:cY) (k:List UInt8) (h:ef B s) (hk:k.length=32):aD Tryz.prog G 61 [cO s,keyM k] (cO (gd s k)):=by
 have c1:=ui (G:=G) s k h hk;obtain⟨⟨f1,f2,f3,f4,f5,f6,keep,f8,f9,f10,f11,f12⟩,⟨⟨a1,a2⟩,⟨a3,a4⟩,⟨a5,a6⟩,a7,a8⟩,height,time,arr,ents,cache⟩:=s;cases keep with
 | true=>
  show aD _ _ _ _ (cO ⟨⟨f1,f2,f3,f4,f5,f6,true,f8,f9,f10,f11,f12⟩,⟨⟨a1,a2⟩,⟨a3,a4⟩,⟨a5,a6⟩,a7,a8⟩,height,time,arr,ents,cache⟩)
  clear c1 h;dsimp only [cO,cfM,appM,lgM];try generalize a1.map aV=b1 at *
  try generalize a1.length=d1 at *
  try generalize a3.map aV=b3 at *
  try generalize a3.length=d3 at *
  try generalize a5.map aV=b5 at *
  try generalize a5.length=d5 at *
  refine aZ seat Tryz.func61 12 ?_;refine ae ?_;(refine wo [_] rfl (by kernel_rfl) ?_;(refine av ?_);exact rfl)
 | false=>
  show aD _ _ _ _ (cO ⟨⟨f1,f2,f3,f4,f5,f6,false,f8,f9,f10,f11,f12⟩,⟨⟨a1,a2⟩,⟨a3,a4⟩,⟨a5,a6⟩,a7,a8⟩,height,time,arr,ents,gu k cache⟩)
  change aD _ _ _ _ (cO ⟨⟨f1,f2,f3,f4,f5,f6,false,f8,f9,f10,f11,f12⟩,⟨⟨a1,a2⟩,⟨a3,a4⟩,⟨a5,a6⟩,a7,a8⟩,height,time,arr,ents,gu k cache⟩) at c1;generalize gu k cache=nc at *;clear h;dsimp only [cO,cfM,appM,lgM] at c1;dsimp only [cO,cfM,appM,lgM];try generalize a1.map aV=b1 at *
  try generalize a1.length=d1 at *
  try generalize a3.map aV=b3 at *
  try generalize a3.length=d3 at *
  try generalize a5.map aV=b5 at *
  try generalize a5.length=d5 at *
  refine aZ seat Tryz.func61 12 ?_;refine ae ?_;refine cC (c1) ?_;(refine wo [_] rfl (by kernel_rfl) ?_;(refine av ?_);exact rfl)
theorem FP [FX:Fx] {B:Nat} (s:cY) (k:List UInt8) (h:ef B s) (hB:B≤100000) (hk:k.length=32):aD Tryz.prog G 65 [cO s,keyM k] (.tup [cO (fC s k).1, .bool (fC s k).2]):=by
 have hls:=h.ents;have hek:=h.entk;clear h;unfold fC;obtain⟨⟨f1,f2,f3,f4,f5,f6,keep,f8,f9,f10,f11,f12⟩,⟨⟨a1,a2⟩,⟨a3,a4⟩,⟨a5,a6⟩,a7,a8⟩,height,time,arr,ents,cache⟩:=s;change ents.length≤B at hls;have c1:=OD (G:=G) ents k om hk (fun e he=>(hek e he).key);clear hek;dsimp only;rcases pj k ents with h0 | ⟨j,hj,hlt⟩
 ·rw [h0] at c1 ⊢;rw [if_pos om];dsimp only [cO,cfM,appM,lgM];try generalize a1.map aV=b1 at *
  try generalize a1.length=d1 at *
  try generalize a3.map aV=b3 at *
  try generalize a3.length=d3 at *
  try generalize a5.map aV=b5 at *
  try generalize a5.length=d5 at *
  refine aZ seat Tryz.func65 20 ?_;refine ae ?_;refine cC (c1) ?_;(refine wo [_,_] rfl (by kernel_rfl) ?_;(refine av ?_);exact rfl)
 ·rw [hj] at c1 ⊢;rw [if_neg om,c₆];have c2:=FL (G:=G) ents j hlt om;generalize ents.take j ++ ents.drop (j + 1)=ne at *;dsimp only [cO,cfM,appM,lgM];try generalize a1.map aV=b1 at *
  try generalize a1.length=d1 at *
  try generalize a3.map aV=b3 at *
  try generalize a3.length=d3 at *
  try generalize a5.map aV=b5 at *
  try generalize a5.length=d5 at *
  refine aZ seat Tryz.func65 20 ?_;refine ae ?_;refine cC (c1) ?_;refine jS (c2) ?_;(refine wo [_,_] rfl (by kernel_rfl) ?_;(refine av ?_);exact rfl)
def cZ (n:Int):Bool:=decide (1≤n∧n≤15)
theorem AA (n:Int):aD Tryz.prog G 67 [.int .i64 n] (.bool (cZ n)):=by
 generalize hr:cZ n=R;unfold cZ at hr;refine aZ seat Tryz.func67 9 ?_;refine ae ?_;refine ah rfl rfl ?_ rfl ?_ <;> intro h
 ·have k1:=ot h;refine ae ?_;refine av ?_;rw [← hr];exact congrArg MV.bool (decide_eq_decide.2 om)
 ·have k1:=oF h;refine ae ?_;refine av ?_;rw [← hr];exact congrArg MV.bool (decide_eq_false om).symm
def qq (s:cY) (gas:Nat):Bool:=decide (0≤s.cfg.blkG∧s.cfg.blkG < gas)
theorem Lf [FX:Fx] {B:Nat} (s:cY) (gas:Nat) (h:ef B s):aD Tryz.prog G 62 [cO s, .int .u64 gas] (.bool (qq s gas)):=by
 have hg:=h.cfg.blkG;clear h;generalize hr:qq s gas=R;obtain⟨⟨f1,f2,f3,f4,f5,f6,keep,f8,f9,f10,f11,f12⟩,⟨⟨a1,a2⟩,⟨a3,a4⟩,⟨a5,a6⟩,a7,a8⟩,height,time,arr,ents,cache⟩:=s;change decide (0≤f9∧f9 < gas)=R at hr;change -1≤f9∧f9≤1125899906842624 at hg;have hw:0≤f9→aT (IntKind.u64.wrap f9) f9:=fun h0=>aT.mk (bt _ om om)
 dsimp only [cO,cfM,appM,lgM];try generalize a1.map aV=b1 at *
 try generalize a1.length=d1 at *
 try generalize a3.map aV=b3 at *
 try generalize a3.length=d3 at *
 try generalize a5.map aV=b5 at *
 try generalize a5.length=d5 at *
 refine aZ seat Tryz.func62 17 ?_;refine ae ?_;refine ah rfl rfl ?_ rfl ?_ <;> intro h
 ·have k1:=ot h;have hw:=hw k1;refine ae ?_;refine av ?_;rw [← hr];exact congrArg MV.bool (decide_eq_decide.2 om)
 ·have k1:=oF h;refine ae ?_;refine av ?_;rw [← hr];exact congrArg MV.bool (decide_eq_false om).symm
end
section
mutual
theorem IC: ∀{v:MV},Fs v=true→v.idFree=true
 | .int _ _,_=>rfl
 | .bool _,_=>rfl
 | .str _,_=>rfl
 | .nilp,_=>rfl
 | .arr ..,_=>rfl
 | .sl ..,_=>rfl
 | .st l,h=>mW (v:=l) h
 | .nils,h=>a₀ h
 | .nilf,h=>a₀ h
 | .nili,h=>a₀ h
 | .ptr ..,h=>a₀ h
 | .gp ..,h=>a₀ h
 | .ep ..,h=>a₀ h
 | .ms ..,h=>a₀ h
 | .fn ..,h=>a₀ h
 | .ifc ..,h=>a₀ h
 | .tup _,h=>a₀ h
 | .undef,h=>a₀ h
theorem mW: ∀{v:List MV},qY v=true→MV.idFrees v=true
 | [],_=>rfl
 | m :: l,h=>by
  unfold qY at h
  cases hm:Fs m with
  | false=>rw [hm] at h;exact a₀ h
  | true=>
   rw [hm] at h
   unfold MV.idFrees
   rw [IC hm,mW h]
   rfl
end
theorem uj: ∀{v:MV},v.idFree=true→dH v=true
 | .tup _,h=>a₀ h
 | .undef,_=>rfl
 | .int _ _,_=>rfl
 | .bool _,_=>rfl
 | .str _,_=>rfl
 | .nilp,_=>rfl
 | .arr ..,_=>rfl
 | .sl ..,_=>rfl
 | .st l,h=>h
 | .nils,_=>rfl
 | .nilf,_=>rfl
 | .nili,_=>rfl
 | .ptr ..,h=>a₀ h
 | .gp ..,h=>h
 | .ep ..,h=>h
 | .ms ..,h=>a₀ h
 | .fn ..,h=>h
 | .ifc ..,h=>h
theorem rh: ∀{v:List MV},MV.idFrees v=true→qe v=true
 | [],_=>rfl
 | m :: l,h=>by
  unfold MV.idFrees at h
  rw [c₀] at h
  unfold qe
  rw [uj h.1,rh h.2]
  rfl
theorem wF: ∀{vs:List MV},MV.idFrees vs=true→dH (kF vs)=true
 | [],_=>rfl
 | [v],h=>by
  have h2:(v.idFree && MV.idFrees [])=true:=h
  rw [c₀] at h2
  exact uj h2.1
 | a :: b :: l,h=>rh h
mutual
def Pn:MV→MV
 | .nils=> .sl 0 []
 | .st l=> .st (AB l)
 | m=>m
def AB:List MV→List MV
 | [] => []
 | m :: l=>Pn m :: AB l
end
mutual
def Ni:MV→Bool
 | .nils=>true
 | .st l=>AD l
 | m=>Fs m
def AD:List MV→Bool
 | [] =>true
 | m :: l=>bif Ni m then AD l else false
end
mutual
theorem Nj {σ:Nat→Option Nat} {fz:Fz}: ∀{v:MV},Ni v=true→cN σ fz (Pn v) v∧(Pn v).idFree=true
 | .nils,_=>⟨.inr ⟨rfl,rfl⟩,rfl⟩
 | .st l,h=>⟨.inr ⟨_,rfl,(rW (v:=l) h).1⟩,(rW (σ:=σ) (fz:=fz) (v:=l) h).2⟩
 | .int _ _,_=>⟨gF _ rfl,rfl⟩
 | .bool _,_=>⟨gF _ rfl,rfl⟩
 | .str _,_=>⟨gF _ rfl,rfl⟩
 | .nilp,_=>⟨gF _ rfl,rfl⟩
 | .arr ..,_=>⟨gF _ rfl,rfl⟩
 | .sl ..,_=>⟨gF _ rfl,rfl⟩
 | .nilf,h=>a₀ h
 | .nili,h=>a₀ h
 | .ptr ..,h=>a₀ h
 | .gp ..,h=>a₀ h
 | .ep ..,h=>a₀ h
 | .ms ..,h=>a₀ h
 | .fn ..,h=>a₀ h
 | .ifc ..,h=>a₀ h
 | .tup _,h=>a₀ h
 | .undef,h=>a₀ h
theorem rW {σ:Nat→Option Nat} {fz:Fz}: ∀{v:List MV},AD v=true→cN.relVs σ fz (AB v) v∧MV.idFrees (AB v)=true
 | [],_=>⟨trivial,rfl⟩
 | m :: l,h=>by
  unfold AD at h
  cases hm:Ni m with
  | false=>rw [hm] at h;exact a₀ h
  | true=>
   rw [hm] at h
   have h1:=Nj (σ:=σ) (fz:=fz) hm
   have h2:=rW (σ:=σ) (fz:=fz) (v:=l) h
   refine⟨⟨h1.1,h2.1⟩,?_⟩
   unfold AB MV.idFrees
   rw [h1.2,h2.2]
   rfl
end
section
variable {T:bf} {rs:List ResultVar} {M:VM} {E:VE} {n:Nat}
theorem D9 {P:MV→Prop} (vs:List MV) (hP:P (kF vs)) (hc:qY vs=true) (h1:dK T M E rs (fun v=>v=vs)):DB T 0 rs (fun r M n=>(P r∧dH r=true)∧M= [] ∧n=0) .ret E M n:=
 gD (fun v hv=>by subst hv;exact⟨kF v,[],0,⟨⟨hP,wF (mW hc)⟩,rfl,rfl⟩,v,[],[],rfl,rfl,trivial,rfl,dv v (mW hc),trivial⟩) h1
theorem ri {P:MV→Prop} (vs:List MV) (h1:dK T M E rs (fun v=>v=vs)) (hc:AD vs=true) (hP:P (kF (AB vs))):DB T 0 rs (fun r M n=>(P r∧dH r=true)∧M= [] ∧n=0) .ret E M n:=
 gD (fun v hv=>by
  subst hv;have k:=rW (σ:=bZ 0 []) (fz:=kz M []) hc;exact⟨kF (AB v),[],0,⟨⟨hP,wF k.2⟩,rfl,rfl⟩,AB v,[],[],rfl,rfl,trivial,rfl,k.1,trivial⟩) h1
end
section
variable {Pg:Program} {T:bf} {N:Nat} {ents:List FuncId} {G:GS} {ops:Array Oper} {d:Tmp} {ty:TypeId} {pos:String} {after:Array Edge} {g:Option (Nat×Bool)} {rest:List Oper} {K:VK} {E:VE} {M:VM} {n:Nat}
 {f:Operand} {args:Array Operand} {ats:Array TypeId} {f0:FuncId} {vs:List MV} {res:MV}
theorem cE (hc:aH Pg G f0 vs [] 0 res [] 0) (hd:Nat.blt d N=true) (h2:ents.contains f0=true) (h1: ∀R:FuncId×List MV→Prop,R (f0,vs)→(dt E f args.toList).runP R) (hf:(dH res && MV.idFrees vs)=true)
  (h:aj Pg T N ents G ops rest K ((d,res) :: E) M n):aC Pg T N ents G ops ⟨some d, .call ⟨.value f,args,ats⟩,ty,pos,after,g⟩ rest K E M n:=by
 rw [c₀] at hf
 exact rT hd h1 h2 hc hf.1 (dv vs hf.2) h
theorem uk {P:MV→Prop} (hc:yd Pg G f0 vs P) (hd:Nat.blt d N=true) (h2:ents.contains f0=true) (h1: ∀R:FuncId×List MV→Prop,R (f0,vs)→(dt E f args.toList).runP R) (hf:MV.idFrees vs=true)
  (h: ∀r,P r→aj Pg T N ents G ops rest K ((d,r) :: E) M n):aC Pg T N ents G ops ⟨some d, .call ⟨.value f,args,ats⟩,ty,pos,after,g⟩ rest K E M n:=
 Ie hd h1 h2 hc [] trivial (dv vs hf) h
variable {n0 n':Nat} {y:Code} {Q:Exit→VK}
theorem jq (E':VE) (M':VM) (n':Nat) (hm:iu n0 E' M' n' E M) (h:vC Pg T N ents G n0 y Q E' M' n'):aj Pg T N ents G ops [] (aU Pg T N ents G n0 y Q .normal) E M n:=Rs.re _ _ _ hm h
end
theorem Ea {p q:Prop} (h:q) (s:GP q→p:=by intro hq;(repeat(first | ((with_reducible apply tE);exact rfl;exact rfl;exact rfl;exact rfl;kernel_rfl) | ((with_reducible apply oU);exact rfl;exact rfl;exact rfl;exact Nat.zero_le _;exact rfl;exact rfl;kernel_rfl) | ((with_reducible apply zY);exact rfl;exact rfl;kernel_rfl) | ((with_reducible apply oW);exact rfl;exact rfl;kernel_rfl) | ((with_reducible apply wk);exact rfl;exact jA) | ((with_reducible apply tt)) | ((with_reducible apply zT)) | ((with_reducible apply tn)) | ((with_reducible apply tF);exact rfl;exact rfl;exact rfl;exact rfl;exact rfl;kernel_rfl) | ((with_reducible apply oV);exact rfl;exact rfl;exact rfl;exact rfl;exact Nat.zero_le _;exact rfl;exact rfl;kernel_rfl) | ((with_reducible apply wm);exact rfl;exact rfl;exact jA) | ((with_reducible apply zU);(exact(show fV _ _ _=true by kernel_rfl))) | ((with_reducible apply qb);exact rfl;exact jA) | ((with_reducible apply tr);exact rfl;exact jA) | ((with_reducible apply ts);exact rfl;exact rfl;exact rfl;exact jA) | ((with_reducible apply lM);exact rfl;exact rfl;exact rfl) | ((with_reducible apply lN);exact rfl;exact rfl;exact rfl) | ((with_reducible apply tq);exact rfl;exact rfl;exact jA;exact rfl) | ((with_reducible apply qa);exact rfl;exact rfl;exact jA) | ((with_reducible apply aY);exact rfl;exact rfl;exact jA;exact rfl) | ((with_reducible apply zP)) | ((with_reducible apply th)) | ((with_reducible apply lH)) | ((with_reducible apply oO);exact rfl) | ((with_reducible apply oP);exact rfl) | ((with_reducible apply oN)) | ((with_reducible apply tf)) | ((with_reducible apply tg)) | ((with_reducible apply zQ)) | ((with_reducible apply tj)) | ((with_reducible apply tm)) | ((with_reducible apply lI)) | ((with_reducible apply lJ)) | ((with_reducible apply lK);exact rfl) | ((with_reducible apply lL);exact rfl) | ((with_reducible apply oS)) | ((with_reducible apply oT)) | ((with_reducible apply oM)) | (with_reducible refine oQ (by assumption) ?_) | (with_reducible refine oR (by assumption) ?_) | ((with_reducible apply qd);exact rfl;exact rfl;exact jA) | ((with_reducible apply tz);exact rfl;exact rfl;exact rfl;exact rfl;exact jA) | ((with_reducible apply zW);exact rfl;exact rfl;exact jA) | ((with_reducible apply tw)) | ((with_reducible apply kG);exact rfl) | ((with_reducible apply tu);exact rfl) | ((with_reducible apply lP);exact rfl;exact rfl;exact rfl) | ((with_reducible apply lQ);exact rfl;exact rfl;exact rfl) | ((with_reducible apply jP);exact rfl;exact rfl) | ((with_reducible apply zV)) | ((with_reducible apply nN);exact rfl;exact jA;exact rfl) | ((with_reducible apply mO);exact rfl;exact jA) | ((with_reducible apply bO);exact rfl;exact jA;exact rfl) | ((with_reducible apply jO);exact rfl;exact rfl) | ((with_reducible apply zS))));exact hq.out):p:=s ⟨h⟩
end
section
variable {G:GS}
attribute [local irreducible] aj aC aG aL aO vC aU au
structure FQ where
 code:Int
 key:List MV
 prio:Int
 ev:Nat×List MV
 exp:Nat×List MV
 inv:Nat×List MV
 dn:Nat×List MV
 fl:Nat×List MV
 tx:Nat×List MV
 height:Int
 dig:List MV
def nY (r:FQ):MV:= .st [.int .i64 r.code, .arr 32 1 r.key, .int .u64 r.prio, .sl r.ev.1 r.ev.2, .sl r.exp.1 r.exp.2, .sl r.inv.1 r.inv.2, .sl r.dn.1 r.dn.2, .sl r.fl.1 r.fl.2, .sl r.tx.1 r.tx.2, .int .i64 r.height, .arr 32 1 r.dig]
theorem ef.mono [FX:Fx] {B B':Nat} {s:cY} (h:ef B s) (hb:B≤B'):ef B' s:=
 ⟨h.cfg,h.app,h.height,⟨h.time.1,by have:=h.time.2;omega⟩,⟨h.arr.1,by have:=h.arr.2;omega⟩,d₇ h.ents hb,fun e he=>let k:=h.entk e he;⟨k.key,k.raw,k.sender,k.height,k.time,d₇ k.peers hb,k.gas⟩,h.cache,h.ck,h.fx⟩
theorem Cw: ∀(l:List Int),bE (l.map (MV.int .i64)) 1=true
 | [] =>rfl
 | _ :: _=>rfl
abbrev appZ:MV:= .st [lgZ,lgZ,lgZ, .bool false, .int .u64 0]
abbrev po:MV:= .st [Le,appZ, .int .i64 0, .int .i64 0, .int .i64 0, .nils, .nils]
end
section
variable {G:GS}
attribute [local irreducible] aj aC aG aL aO vC aU au
theorem AE (p s t m:Int): ∀(O:List Ent) (c b:Int),∀e∈(selG p s t m O c b).1,e∈O
 | [],c,b=>by simp [selG]
 | x :: O,c,b=>by
  unfold selG
  split
  ·simp
  ·have ih:=AE p s t m O (c - 1) (b - x.raw.length)
   generalize selG p s t m O (c - 1) (b - x.raw.length)=r at *
   obtain⟨v,c',b'⟩:=r
   intro e he
   rcases List.mem_cons.1 he with rfl | he
   ·exact List.mem_cons_self ..
   ·exact List.mem_cons_of_mem _ (ih e he)
theorem AF (p s t m:Int): ∀(O:List Ent) (c b:Int),(selG p s t m O c b).1.length≤O.length
 | [],c,b=>by simp [selG]
 | x :: O,c,b=>by
  unfold selG
  split
  ·simp
  ·have ih:=AF p s t m O (c - 1) (b - x.raw.length)
   generalize selG p s t m O (c - 1) (b - x.raw.length)=r at *
   obtain⟨v,c',b'⟩:=r
   simp only [d₀]
   dsimp only at ih
   omega
theorem yh (p s t m:Int) (l:List Ent) (hk: ∀e∈l,e.key.length=32):eG (cV p s t m l).1∧(cV p s t m l).1.length≤l.length:=by
 have h1:=AE p s t m (aB l) l.length (bytesS l);have h2:=AF p s t m (aB l) l.length (bytesS l);rw [qo] at h2;unfold cV;generalize selG p s t m (aB l) l.length (bytesS l)=r at *;obtain⟨v,c,b⟩:=r;dsimp only at *;split
 ·refine⟨fun x hx=>?_,by simpa using h2⟩;obtain⟨e,he,rfl⟩:=d₈.1 hx;exact hk e ((ja l).mem_iff.1 (h1 e he))
 ·exact⟨fun x hx=>absurd hx (List.not_mem_nil),c₅ _⟩
abbrev k0:List MV:=u8s (List.replicate 32 0)
abbrev GR:MV:= .st [.int .i64 0, .arr 32 1 k0, .int .u64 0, .nils, .nils, .nils, .nils, .nils, .nils, .int .i64 0, .arr 32 1 k0]
end
section
variable {G:GS}
attribute [local irreducible] aj aC aG aL aO vC aU au
def dQ (s:cY) (i peer:Int):cY:=if 0≤i∧cZ peer=true then(match s.ents[i.toNat]? with | some e=>if peer∈e.peers then s else { s with ents:=s.ents.set i.toNat { e with peers:=e.peers ++ [peer] } } | none=>s) else s
theorem Lg [FX:Fx] {B:Nat} (s:cY) (i peer:Int) (hi:i < s.ents.length) (hs:ef B s) (hB:B≤100000):yd Tryz.prog G 58 [cO s, .int .i64 i, .int .i64 peer] (fun r=> ∃s',r=cO s'∧ef (B + 1) s'∧s'=dQ s i peer):=by
 have c1:=AA (G:=G) peer;have hls:=hs.ents;unfold yd;refine gC seat Tryz.func58 rfl rfl (a₅ rfl) (a₅ rfl) (N:=47) rfl rfl ?_;refine ae ?_;refine ah rfl rfl ?_ rfl ?_ <;> intro h
 ·have h0:0≤i:=by have:=oF h;omega
  obtain⟨k,rfl⟩: ∃k:Nat,i=k:=⟨i.toNat,om⟩
  have hk:k < s.ents.length:=om;have hel:=al.mk (eF hk);have hep:=hs.entk _ (b₉ hk);generalize hek:s.ents[k] =e at *;have c2:=H6 (G:=G) e.peers peer (by have:=hep.peers;omega);have hpl:e.peers.length≤100000:=d₇ hep.peers hB;have hnth:al (bH (s.ents.map aA) (0 + k)) (aA e):=al.mk (by rw [bD,a₇];simp [hk,hek]);have hS:dQ s k peer=if cZ peer=true then(if decide (peer∈e.peers)=true then s else { s with ents:=s.ents.set k { e with peers:=e.peers ++ [peer] } }) else s:=by
   unfold dQ;by_cases hp:cZ peer=true
   ·rw [if_pos ⟨h0,hp⟩,if_pos hp,c₆,List.getElem?_eq_getElem hk,hek];simp only [decide_eq_true_eq]
   ·rw [if_neg (fun x=>hp x.2),if_neg hp]
  generalize cZ peer=bp at *;generalize decide (peer∈e.peers)=bi at *;refine ae ?_;refine cE (aa (c1)) rfl rfl (fun _ h=>h) (by kernel_rfl) ?_;refine ae ?_;refine ah rfl rfl ?_ rfl ?_ <;> intro h
  ·refine ae ?_;refine cE (aa (c2)) rfl rfl (fun _ h=>h) (by kernel_rfl) ?_;refine ae ?_;refine ad rfl ?_ ?_ <;> intro h
   ·refine ae ?_;(refine D9 [_] (⟨s,rfl,hs.mono om,by rw [hS];simp_all⟩) (by kernel_rfl) ?_;(refine av ?_);exact rfl)
   ·refine ae ?_;refine aY rfl rfl (by intro R hR;refine dM hR ?_;refine a₃ ((fO _)) ?_;refine a₃ ⟨rfl,aE (by kernel_rfl) pf⟩ ?_;refine⟨s.ents.map aA,sv (by rfl),s.ents.length,sv pf,?_⟩;exact hR) rfl ?_;refine ae ?_;refine aY rfl rfl (by intro R hR;refine dM hR ?_;refine a₃ ((Cw _)) ?_;refine a₃ ⟨rfl,aE (by kernel_rfl) pf⟩ ?_;refine⟨e.peers.map (MV.int .i64),sv (by rfl),e.peers.length,sv pf,?_⟩;exact hR) rfl ?_;refine ae ?_;obtain⟨Z,hZ⟩: ∃Z,Z=e.peers ++ [peer] :=⟨_,rfl⟩
    have hZl:Z.length=e.peers.length + 1:=by rw [hZ];simp
    refine aY rfl rfl (by intro R hR;refine dM hR ?_;(refine a₃ (b₂ _) ?_;refine⟨_,rfl,?_⟩;refine a₃ ⟨sm,aE (by kernel_rfl) pf⟩ ?_;refine⟨Z.map (MV.int .i64),sv (by rw [hZ];simp;rfl),Z.length,sv pf,?_⟩);exact hR) rfl ?_;iterate 2 (refine PO ?_)
    refine qc ([(41, .sl Z.length (Z.map (MV.int .i64))),(43, .ptr 20 41 (0 + k) (0 + 40) ([] ++ [9])),(7, .ms 20 41 0 s.ents.length),(6, .ptr 1 25 0 0 []),(3, .ptr 0 25 0 0 [])]) ([(20,⟨64,41,true,0,s.ents.map aA⟩),(1,⟨42,25,false,0,[po]⟩),(0,⟨42,25,false,0,[cO s]⟩)]) [(33,Z.length)] mm rfl mm mm ?_;obtain⟨e1,e2,e3,e4,e5,e6,e7,e8,e9,e10⟩:=e;have hst:aT (setL (s.ents.map aA) (0 + k) (aA ⟨e1,e2,e3,e4,e5,e6,e7,e8,e9,Z⟩)) ((s.ents.set k ⟨e1,e2,e3,e4,e5,e6,e7,e8,e9,Z⟩).map aA):=aT.mk (by rw [setL_eq,a₇,d₆]);have hok:ef (B + 1) { s with ents:=s.ents.set k ⟨e1,e2,e3,e4,e5,e6,e7,e8,e9,Z⟩ }:=by
     have hm:=hs.mono (B':=B + 1) om;refine⟨hm.cfg,hm.app,hm.height,hm.time,hm.arr,by dsimp only;rw [b₀];exact hm.ents,fun x hx=>?_,hm.cache,hm.ck,hm.fx⟩;rcases c₈ hx with hx | rfl
     ·exact hm.entk x hx
     ·exact⟨hep.key,hep.raw,hep.sender,hep.height,hep.time,by have:=hep.peers;dsimp only at *;omega,hep.gas⟩
    have hlen:(s.ents.set k ⟨e1,e2,e3,e4,e5,e6,e7,e8,e9,Z⟩).length=s.ents.length:=b₀ ..;generalize hW9:s.ents.set k ⟨e1,e2,e3,e4,e5,e6,e7,e8,e9,Z⟩=W at *;iterate 3 (refine PO ?_)
    refine qc ([(7, .ms 20 41 0 s.ents.length),(6, .ptr 1 25 0 0 []),(3, .ptr 0 25 0 0 [])]) ([(20,⟨64,41,true,0,setL (s.ents.map aA) (0 + k) (aA ⟨e1,e2,e3,e4,e5,e6,e7,e8,e9,Z⟩)⟩),(1,⟨42,25,false,0,[po]⟩),(0,⟨42,25,false,0,[cO s]⟩)]) [] trivial rfl mm mm ?_;rw [hst.out,← hlen];refine qc ([(7, .sl W.length (W.map aA)),(6, .ptr 1 25 0 0 []),(3, .ptr 0 25 0 0 [])]) ([(1,⟨42,25,false,0,[po]⟩),(0,⟨42,25,false,0,[cO s]⟩)]) [(20,W.length)] mm rfl mm mm ?_;refine ae ?_;(refine D9 [_] (⟨{ s with ents:=W },rfl,hok,by rw [hS,← hW9,hZ];simp_all⟩) (by kernel_rfl) ?_;(refine av ?_);exact rfl)
  ·refine ae ?_;(refine D9 [_] (⟨s,rfl,hs.mono om,by rw [hS];simp_all⟩) (by kernel_rfl) ?_;(refine av ?_);exact rfl)
 ·refine ae ?_;(refine D9 [_] (⟨s,rfl,hs.mono om,by unfold dQ;rw [if_neg (by simp at h;omega)]⟩) (by kernel_rfl) ?_;(refine av ?_);exact rfl)
end
section
variable {G:GS}
attribute [local irreducible] aj aC aG aL aO vC aU au
def gH (c:Int):FQ:=⟨c,k0,0,(0,[]),(0,[]),(0,[]),(0,[]),(0,[]),(0,[]),0,k0⟩
def iM (s:cY) (l:List (List UInt8)):cY:=l.foldl (fun s k=>ga (fC s k).1 k) s
theorem Cx (s:cY) (l:List (List UInt8)) {k:Nat} (hk:k < l.length):iM s (l.take (k + 1))=ga (fC (iM s (l.take k)) l[k]).1 l[k] :=by
 unfold iM;rw [c₁ hk,List.foldl_append];rfl
def AG (s:cY) (key raw:List UInt8) (peer:Int) (r:kU):Ent:=⟨key,raw,r.sender,r.seq,r.gas,r.prio,s.height,s.time,s.arr,if cZ peer=true then [peer] else []⟩
def jr (s:cY) (key raw:List UInt8) (peer:Int) (r:kU) (ks:List (List UInt8)):cY:=
 let s2:=iM s ks
 { s2 with app:=fB s2.app raw,ents:=s2.ents ++ [AG s2 key raw peer r],arr:=s2.arr + 1 }
def Nk (key:List UInt8) (r:kU) (ks:List (List UInt8)):FQ:=⟨0,u8s key,r.prio,(ks.length,ks.map keyM),(0,[]),(0,[]),(0,[]),(0,[]),(0,[]),0,k0⟩
def gf (s:cY) (key raw:List UInt8) (peer:Int):cY×FQ:=
 let r:=fX s.app raw
 if r.code≠0 then(gd s key,gH r.code) else if qq s r.gas=true then(gd s key,gH 22) else
 let v:=cV r.prio raw.length s.cfg.maxTxs s.cfg.maxBytes s.ents
 if v.2=false then(ga s key,gH 24) else(jr s key raw peer r v.1,Nk key r v.1)
def bP (s:cY) (raw:List UInt8) (peer:Int):cY×FQ:=
 if s.cfg.maxTx < (raw.length:Int) then(s,gH 20) else if s.cfg.blkB < (i6 raw.length:Int) then(s,gH 21) else
 let key:=bm raw
 if 0≤kY key s.ents∨0≤posK key s.cache 0 then(dQ (cA s key) (kY key s.ents) peer,gH 23) else gf (cA s key) key raw peer
theorem um [FX:Fx] {B:Nat} (s:cY) (raw:List UInt8) (peer:Int) (hraw:raw.length≤1000000) (hs:ef B s) (hB:B≤100000):yd Tryz.prog G 22 [cO s, .sl raw.length (u8s raw), .int .i64 peer] (fun r=> ∃s' rp,r= .tup [cO s',nY rp] ∧ef (B + 1) s'∧(s',rp)=bP s raw peer):=by
 have hm1:=hs.mono (B':=B + 1) om;have hmx:=hs.cfg.maxTx;have hmt:=hs.cfg.maxTxs;have hmb:=hs.cfg.maxBytes;have c1:=K6 (G:=G) raw.length om;have c2:=Oj (G:=G) raw om;have hk32:(bm raw).length=32:=jV raw;have hC:bP s raw peer=(if s.cfg.maxTx < (raw.length:Int) then(s,gH 20) else if s.cfg.blkB < (i6 raw.length:Int) then(s,gH 21) else if 0≤kY (bm raw) s.ents∨0≤posK (bm raw) s.cache 0 then(dQ (cA s (bm raw)) (kY (bm raw) s.ents) peer,gH 23) else gf (cA s (bm raw)) (bm raw) raw peer):=by
  unfold bP;dsimp only
 generalize bP s raw peer=C at *;generalize bm raw=key at *;have c3:=OD (G:=G) s.ents key (by have:=hs.ents;omega) hk32 (fun e he=>(hs.entk e he).key);have c4:=OA (G:=G) s.cache key (by have:=hs.cache;omega) hk32 hs.ck;have c5:=IB (G:=G) s key hs hk32;have hpo:=qp (B:=B) hs hk32;have c6: ∀{i:Int},i < s.ents.length→yd Tryz.prog G 58 [cO (cA s key), .int .i64 i, .int .i64 peer] (fun r=> ∃s',r=cO s'∧ef (B + 1) s'∧s'=dQ (cA s key) i peer):=fun hi=>Lg (cA s key) _ peer hi hpo hB
 have hi:=pj key s.ents;have hil:kY key s.ents < s.ents.length:=om;generalize kY key s.ents=i at *;unfold yd;refine gC seat Tryz.func22 rfl rfl (a₅ rfl) (a₅ rfl) (N:=163) rfl rfl ?_;refine ae ?_;refine ad rfl ?_ ?_ <;> intro h
 ·refine ae ?_;(refine ri [_,_] (by(refine av ?_);exact rfl) (by kernel_rfl) (⟨s,⟨_,_,_,(_,_),(_,_),(_,_),(_,_),(_,_),(_,_),_,_⟩,rfl,hm1,by rw [hC,if_pos (by have:=ot h;omega)];rfl⟩))
 ·have hr:=oF h;rw [if_neg om] at hC;clear hi;refine ae ?_;refine aw [ag 0,ag 1,de 2,ag 3,ag 4,ag 5,ag 6] ?_;refine ae ?_;refine jQ rfl (fun _ h=>h) rfl [] (aa (c1)) rfl [] trivial (dv _ (by kernel_rfl)) rfl ?_;refine ae ?_;refine ad rfl ?_ ?_ <;> intro h
  ·refine ae ?_;(refine ri [_,_] (by(refine av ?_);exact rfl) (by kernel_rfl) (⟨s,⟨_,_,_,(_,_),(_,_),(_,_),(_,_),(_,_),(_,_),_,_⟩,rfl,hm1,by rw [hC,if_pos (by have:=ot h;omega)];rfl⟩))
  ·rw [if_neg (by have:=oF h;omega)] at hC;refine ae ?_;refine cE (aa (c2)) rfl rfl (fun _ h=>h) (by kernel_rfl) ?_;refine ae ?_;refine cE (aa (c3)) rfl rfl (fun _ h=>h) (by kernel_rfl) ?_;refine ae ?_;have hcase:(¬ 0≤i∧¬ 0≤posK key s.cache 0)∨(0≤i∨0≤posK key s.cache 0):=om;rcases hcase with ⟨hc1,hc2⟩ | hc
   ·rw [if_neg om] at hC;unfold gf at hC;dsimp only at hC;rw [decide_eq_false hc2] at c4;refine ah rfl rfl ?_ rfl ?_ <;> intro h
    rotate_left
    ·exact absurd (ot h) om
    refine ae ?_;refine cE (aa (c4)) rfl rfl (fun _ h=>h) (by kernel_rfl) ?_;refine ae ?_;refine cE (aa (c5)) rfl rfl (fun _ h=>h) (by kernel_rfl) ?_;clear c6 c5 c4 c3 c2 c1;generalize cA s key=s1 at *;have hm2:=hpo.mono (B':=B + 1) om;have d1:=K9 (G:=G) s1.app raw hpo.app om;have hres:DS (fX s1.app raw):=(Cp hpo.app.2.1).2;generalize fX s1.app raw=r at *;have d2:=Cv (G:=G) s1 key hpo hk32;have hf2:=(ml (k:=key) hpo).mono (B':=B + 1) om;generalize gd s1 key=sf at *;have d3:=Lf (G:=G) s1 r.gas hpo;have hmt:=hpo.cfg.maxTxs;have hmb:=hpo.cfg.maxBytes;have d4:=FK (G:=G) s1.ents (by have:=hpo.ents;omega) (fun e he=>by have:=(hpo.entk e he).raw;omega) r.prio raw.length s1.cfg.maxTxs s1.cfg.maxBytes om om;have hsel:=yh r.prio raw.length s1.cfg.maxTxs s1.cfg.maxBytes s1.ents (fun e he=>(hpo.entk e he).key);have d5:=ui (G:=G) s1 key hpo hk32;have hd5:=(jZ (k:=key) hpo).mono (B':=B + 1) om;generalize ga s1 key=sd at *;unfold MX at d4;generalize cV r.prio raw.length s1.cfg.maxTxs s1.cfg.maxBytes s1.ents=sel at *;obtain⟨ks,okk⟩:=sel;dsimp only at d4 hsel hC;refine Ea ?_;refine jq ([(1, .sl raw.length (u8s raw)),(2, .int .i64 peer),(3, .ptr 0 25 0 0 []),(6, .ptr 1 25 0 0 []),(7, .ptr 2 73 0 0 []),(8, .ptr 3 32 0 0 [])]) ([(0,⟨42,25,false,0,[cO s1]⟩),(1,⟨42,25,false,0,[po]⟩),(2,⟨57,73,false,0,[GR]⟩),(3,⟨55,32,false,0,[keyM key]⟩)]) (4) (vm [(0,_),(1,_),(2,_),(3,_)] []) ?_;refine ae ?_;refine cE (aa (d1)) rfl rfl (fun _ h=>h) (by kernel_rfl) ?_;refine ae ?_;refine ad rfl ?_ ?_ <;> intro h
    ·refine ae ?_;refine aw [ag 0,ag 1,de 2,ag 3,ag 4,ag 5,ag 6,ag 7] ?_;refine ae ?_;refine jQ rfl (fun _ h=>h) rfl [] (aa (d2)) rfl [] trivial (dv _ (by kernel_rfl)) rfl ?_;refine ae ?_;(refine ri [_,_] (by(refine av ?_);exact rfl) (by kernel_rfl) (⟨sf,⟨_,_,_,(_,_),(_,_),(_,_),(_,_),(_,_),(_,_),_,_⟩,rfl,hf2,by rw [hC,if_pos (by simpa using h)];rfl⟩))
    ·have hcode:r.code=0:=by simp at h;omega
     rw [if_neg (by simp [hcode])] at hC;refine ae ?_;refine cE (aa (d3)) rfl rfl (fun _ h=>h) (by kernel_rfl) ?_;refine ae ?_;refine ad rfl ?_ ?_ <;> intro h
     ·refine ae ?_;refine cE (aa (d2)) rfl rfl (fun _ h=>h) (by kernel_rfl) ?_;refine ae ?_;(refine ri [_,_] (by(refine av ?_);exact rfl) (by kernel_rfl) (⟨sf,⟨_,_,_,(_,_),(_,_),(_,_),(_,_),(_,_),(_,_),_,_⟩,rfl,hf2,by rw [hC,if_pos h];rfl⟩))
     ·rw [if_neg (by rw [h];simp)] at hC;refine ae ?_;refine cE (d4) rfl rfl (fun _ h=>h) (by kernel_rfl) ?_;refine ae ?_;refine ad rfl ?_ ?_ <;> intro h
      ·refine ae ?_;refine cE (aa (d5)) rfl rfl (fun _ h=>h) (by kernel_rfl) ?_;refine ae ?_;(refine ri [_,_] (by(refine av ?_);exact rfl) (by kernel_rfl) (⟨sd,⟨_,_,_,(_,_),(_,_),(_,_),(_,_),(_,_),(_,_),_,_⟩,rfl,hd5,by rw [hC,if_pos (by simpa using h)];rfl⟩))
      ·rw [if_neg (by simpa using h)] at hC;obtain⟨hk,hkl⟩:=hsel;clear d1 d2 d3 d4 d5;have hkb:ks.length≤100000:=by have:=hpo.ents;omega
       refine ae ?_;refine ar (Nat×cY) (fun x=> [(102, .int .i64 x.1),(101, .int .i64 ks.length),(100, .sl ks.length (ks.map keyM)),(11, .sl ks.length (ks.map keyM)),(1, .sl raw.length (u8s raw)),(2, .int .i64 peer),(3, .ptr 0 25 0 0 []),(6, .ptr 1 25 0 0 []),(7, .ptr 2 73 0 0 []),(8, .ptr 3 32 0 0 []),(10, .ptr 4 5 0 0 [])]) (fun x=> [(0,⟨42,25,false,0,[cO x.2]⟩),(1,⟨42,25,false,0,[po]⟩),(2,⟨57,73,false,0,[GR]⟩),(3,⟨55,32,false,0,[keyM key]⟩),(4,⟨105,5,false,0,[jy r]⟩)]) 5 (fun x=>x.1≤ks.length∧ef B x.2∧x.2=iM s1 (ks.take x.1)) (fun x=>ks.length - x.1) (0,s1) ⟨c₅ _,hpo,rfl⟩ (by dsimp only;exact(vm [(0,_),(1,_),(2,_),(3,_),(4,_)] [])) ?_;rintro⟨k,s2⟩ ⟨hki,hs2,hev⟩;try dsimp only
       dsimp only at hki hs2 hev;refine ae ?_;refine ad rfl ?_ ?_ <;> intro h
       ·have hk':k < ks.length:=by have:=ot h;omega
        have hel:=al.mk (mV hk');have hkk:=hk _ (b₉ hk');have hevn:=Cx s1 ks hk';rw [← hev] at hevn;generalize ks[k] =q at *;have e1:=FP (G:=G) s2 q hs2 hB hkk;have o1:=uh (k:=q) hs2;generalize fC s2 q=lv at *;obtain⟨s3,b3⟩:=lv;dsimp only at e1 o1 hevn;have e2:=ui (G:=G) s3 q o1 hkk;have o2:=jZ (k:=q) o1;generalize ga s3 q=s4 at *;refine ae ?_;refine cE (aa (e1)) rfl rfl (fun _ h=>h) (by kernel_rfl) ?_;refine ae ?_;refine cE (aa (e2)) rfl rfl (fun _ h=>h) (by kernel_rfl) ?_;refine ae ?_;exact⟨(k + 1,s4),⟨dm,o2,hevn.symm⟩,dm,(by dsimp only;exact(vm [(0,_),(1,_),(2,_),(3,_),(4,_)] []))⟩
       ·have hk9:k=ks.length:=by have:=oF h;omega
        rw [hk9,List.take_length] at hev;have hA:jr s1 key raw peer r ks={ s2 with app:=fB s2.app raw,ents:=s2.ents ++ [AG s2 key raw peer r],arr:=s2.arr + 1 }:=by
         unfold jr;rw [← hev]
        rw [hA] at hC;unfold AG at hC;clear hA;have e3:=Ib (G:=G) s2.app raw hs2.app om;have o3:ef B { s2 with app:=fB s2.app raw }:=⟨hs2.cfg,tX hs2.app,hs2.height,hs2.time,hs2.arr,hs2.ents,hs2.entk,hs2.cache,hs2.ck,hs2.fx⟩;generalize fB s2.app raw=a3 at *;refine ae ?_;refine cE (aa (e3)) rfl rfl (fun _ h=>h) (by kernel_rfl) ?_;refine Ea ?_;refine jq ([(1, .sl raw.length (u8s raw)),(2, .int .i64 peer),(3, .ptr 0 25 0 0 []),(6, .ptr 1 25 0 0 []),(7, .ptr 2 73 0 0 []),(8, .ptr 3 32 0 0 []),(10, .ptr 4 5 0 0 []),(11, .sl ks.length (ks.map keyM))]) ([(0,⟨42,25,false,0,[cO { s2 with app:=a3 }]⟩),(1,⟨42,25,false,0,[po]⟩),(2,⟨57,73,false,0,[GR]⟩),(3,⟨55,32,false,0,[keyM key]⟩),(4,⟨105,5,false,0,[jy r]⟩)]) (5) (vm [(0,_),(1,_),(2,_),(3,_),(4,_)] []) ?_;generalize hs3:{ s2 with app:=a3 }=s3 at *;have e4:=AA (G:=G) peer;generalize cZ peer=bp at *;refine ae ?_;refine aw [ag 0,ag 1,ag 2,ag 3,ag 4,ag 5,ag 6,ag 7,ag 8,ag 9,ag 10,ag 11,ag 12,ag 13,ag 14,ag 15,ag 16,ag 17,ag 18,ag 19,ag 20] ?_;refine ae ?_;refine bO rfl (by intro R hR;refine dM hR ?_;refine a₃ ((cG raw)) ?_;refine a₃ ⟨rfl,aE (by kernel_rfl) pf⟩ ?_;refine⟨u8s raw,sv (by show [] ++ u8s raw=_;rw [c₂]),raw.length,sv pf,?_⟩;exact hR) rfl ?_;refine ae ?_;refine cE (aa (e4)) rfl rfl (fun _ h=>h) (by kernel_rfl) ?_;refine rS (List Int) (fun ps=> [(3, .ptr 0 25 0 0 []),(6, .ptr 1 25 0 0 []),(7, .ptr 2 73 0 0 []),(8, .ptr 3 32 0 0 []),(10, .ptr 4 5 0 0 []),(11, .sl ks.length (ks.map keyM)),(15, .ptr 5 41 0 0 [])]) (fun ps=> [(0,⟨42,25,false,0,[cO s3]⟩),(1,⟨42,25,false,0,[po]⟩),(2,⟨57,73,false,0,[GR]⟩),(3,⟨55,32,false,0,[keyM key]⟩),(4,⟨105,5,false,0,[jy r]⟩),(5,⟨64,41,false,0,[aA ⟨key,raw,r.sender,r.seq,r.gas,r.prio,s3.height,s3.time,s3.arr,ps⟩]⟩)]) (fun _=>6) (fun ps=>ps=if bp=true then [peer] else []) (fun JQ hj=>?_) (fun ps hps=>?_)
        ·refine ae ?_;refine ad rfl ?_ ?_ <;> intro h
         ·refine ae ?_;exact hj.nrm [peer] (by rw [if_pos h]) (vm [(0,_),(1,_),(2,_),(3,_),(4,_),(5,_)] [(8,raw.length),(28,1)])
         ·refine ae ?_;exact hj.nrm [] (by rw [if_neg (by rw [h];simp)]) (vm [(0,_),(1,_),(2,_),(3,_),(4,_),(5,_)] [(8,raw.length)])
        ·have hpl:ps.length≤1:=by rw [hps];split <;> simp
         generalize hen:(⟨key,raw,r.sender,r.seq,r.gas,r.prio,s3.height,s3.time,s3.arr,ps⟩:Ent)=en;have hs4:ef (B + 1) { s3 with ents:=s3.ents ++ [en],arr:=s3.arr + 1 }:=by
          have hm:=o3.mono (B':=B + 1) (by omega);have ha:=o3.arr;refine⟨hm.cfg,hm.app,hm.height,hm.time,by dsimp only;omega,by have:=o3.ents;dsimp only;rw [a₁,a₂];omega,fun x hx=>?_,hm.cache,hm.ck,hm.fx⟩;rcases c₃.1 hx with hx | hx
          ·exact hm.entk x hx
          ·obtain rfl:=a₄.1 hx;rw [← hen];have:=o3.height;have:=o3.time;have:=hs.cfg.maxTx;exact⟨hk32,by dsimp only;omega,hres.2.1,by dsimp only;omega,by dsimp only;omega,by dsimp only;omega,by have:=hres.2.2.2.1;unfold bh at this;dsimp only;omega⟩
         have hen9:s3.ents.length≤100000:=by have:=o3.ents;omega
         have hra:=o3.arr;obtain⟨W,hW⟩: ∃W,W=s3.ents ++ [en] :=⟨_,rfl⟩
         have hWl:W.length=s3.ents.length + 1:=by rw [hW];simp
         rw [← hW] at hs4;try dsimp only
         refine ae ?_;refine aw [ag 0,ag 1,ag 2,ag 3,ag 4,ag 5,ag 6,ag 7,ag 8] ?_;refine ae ?_;refine bO rfl (by intro R hR;refine dM hR ?_;refine a₃ ((fO _)) ?_;refine a₃ ⟨rfl,aE (by kernel_rfl) pf⟩ ?_;refine⟨s3.ents.map aA,sv (by rfl),s3.ents.length,sv pf,?_⟩;exact hR) rfl ?_;refine ae ?_;refine bO rfl (by intro R hR;refine dM hR ?_;(refine a₃ (b₂ _) ?_;refine⟨_,rfl,?_⟩;refine a₃ ⟨(by simp),aE (by kernel_rfl) pf⟩ ?_;refine⟨W.map aA,sv (by rw [hW];simp;rfl),W.length,sv pf,?_⟩);exact hR) rfl ?_;refine Ea ?_;refine jq ([(3, .ptr 0 25 0 0 []),(6, .ptr 1 25 0 0 []),(7, .ptr 2 73 0 0 []),(8, .ptr 3 32 0 0 []),(10, .ptr 4 5 0 0 []),(11, .sl ks.length (ks.map keyM))]) ([(0,⟨42,25,false,0,[cO { s3 with ents:=W,arr:=s3.arr + 1 }]⟩),(1,⟨42,25,false,0,[po]⟩),(2,⟨57,73,false,0,[GR]⟩),(3,⟨55,32,false,0,[keyM key]⟩),(4,⟨105,5,false,0,[jy r]⟩)]) (5) (vm [(0,_),(1,_),(2,_),(3,_),(4,_)] [(12,W.length)]) ?_;generalize hs5:{ s3 with ents:=W,arr:=s3.arr + 1 }=s5 at *;refine ae ?_;refine aw [ag 0,ag 1,ag 2,ag 3,ag 4,ag 5,ag 6,ag 7] ?_;refine ae ?_;(refine ri [_,_] (by(refine av ?_);exact rfl) (by kernel_rfl) (⟨s5,⟨_,_,_,(_,_),(_,_),(_,_),(_,_),(_,_),(_,_),_,_⟩,rfl,hs4,by rw [hC,← hs5,hW,← hen,← hs3,hps];rfl⟩))
   ·clear c1 c2 c3;by_cases hi0:0≤i
    ·clear c4;refine ah rfl rfl ?_ rfl ?_ <;> intro h
     ·exact absurd (oF h) om
     refine ae ?_;refine cE (aa (c5)) rfl rfl (fun _ h=>h) (by kernel_rfl) ?_;refine ae ?_;refine uk (c6 hil) rfl rfl (fun _ h=>h) (by kernel_rfl) ?_;rintro _ ⟨s',rfl,hs',hse⟩;refine ae ?_;(refine ri [_,_] (by(refine av ?_);exact rfl) (by kernel_rfl) (⟨s',⟨_,_,_,(_,_),(_,_),(_,_),(_,_),(_,_),(_,_),_,_⟩,rfl,hs',by rw [hC,if_pos om,hse];rfl⟩))
    ·rw [decide_eq_true om] at c4;refine ah rfl rfl ?_ rfl ?_ <;> intro h
     rotate_left
     ·exact absurd (ot h) om
     refine ae ?_;refine cE (aa (c4)) rfl rfl (fun _ h=>h) (by kernel_rfl) ?_;refine ae ?_;refine cE (aa (c5)) rfl rfl (fun _ h=>h) (by kernel_rfl) ?_;refine ae ?_;refine uk (c6 hil) rfl rfl (fun _ h=>h) (by kernel_rfl) ?_;rintro _ ⟨s',rfl,hs',hse⟩;refine ae ?_;(refine ri [_,_] (by(refine av ?_);exact rfl) (by kernel_rfl) (⟨s',⟨_,_,_,(_,_),(_,_),(_,_),(_,_),(_,_),(_,_),_,_⟩,rfl,hs',by rw [hC,if_pos om,hse];rfl⟩))
end
section
theorem mn (k:List UInt8): ∀(l:List (List UInt8)) (i:Nat),posK k l i < 0↔k ∉ l
 | [],_=>by simp [posK]
 | a :: r,i=>by
  unfold posK
  split
  ·rename_i h;subst h;simp
  ·rename_i h
   rw [mn k r (i + 1)]
   simp [Ne.symm h]
theorem Eb (k:List UInt8): ∀(l:List (List UInt8)) (i:Nat),posK k l i < 0∨(i:Int)≤posK k l i
 | [],_=> .inl (by simp [posK])
 | a :: r,i=>by
  unfold posK
  split
  ·exact .inr (Int.le_refl _)
  ·rcases Eb k r (i + 1) with h | h
   ·exact .inl h
   ·exact .inr om
theorem Nl {α:Type} (f:α→List UInt8) (k:List UInt8): ∀(l:List α) (i:Nat),(l.map f).Nodup→(if posK k (l.map f) i < 0 then l else l.take (posK k (l.map f) i - i).toNat ++ l.drop ((posK k (l.map f) i - i).toNat + 1))=l.filter (fun x=>decide (f x≠k))
 | [],i,_=>by simp [posK]
 | a :: r,i,hd=>by
  rw [b₁,e₂] at hd
  by_cases h:f a=k
  ·have hp:posK k ((a :: r).map f) i=i:=by rw [b₁,posK,if_pos h]
   rw [hp,if_neg om,Int.sub_self]
   have:r.filter (fun x=>decide (f x≠k))=r:=b₃.2 fun x hx=>decide_eq_true fun e=>hd.1 (by rw [h,← e];exact d₅ hx)
   simp [h]
   simpa using this.symm
  ·have hp:posK k ((a :: r).map f) i=posK k (r.map f) (i + 1):=by rw [b₁,posK,if_neg h]
   have ih:=Nl f k r (i + 1) hd.2
   rw [hp]
   rw [List.filter_cons_of_pos (by simpa using h),← ih]
   rcases Eb k (r.map f) (i + 1) with h0 | h0
   ·rw [if_pos h0,if_pos h0]
   ·rw [if_neg om,if_neg om]
    have e:(posK k (r.map f) (i + 1) - (i:Int)).toNat=(posK k (r.map f) (i + 1) - ((i + 1:Nat):Int)).toNat + 1:=om
    rw [e]
    rfl
theorem gg {k:List UInt8} {l:List (List UInt8)} (hd:l.Nodup):gu k l=l.filter (fun x=>decide (x≠k)):=by
 have h:=Nl id k l 0 (by simpa using hd);simp only [List.map_id,e₁,Int.sub_zero,id] at h;exact h
theorem uo {s:cY} {k:List UInt8} (hd:(s.ents.map (·.key)).Nodup):(fC s k).1={ s with ents:=s.ents.filter (fun e=>decide (e.key≠k)) }:=by
 have h:=Nl (·.key) k s.ents 0 hd;simp only [e₁,Int.sub_zero] at h;unfold fC kY;split
 ·rename_i hp;rw [if_pos hp] at h;rw [← h]
 ·rename_i hp;rw [if_neg hp] at h;rw [← h]
theorem j9 {α:Type} {f:α→List UInt8} {l:List α} {p:α→Bool} (h:(l.map f).Nodup):((l.filter p).map f).Nodup:=h.sublist ((a₉).map f)
theorem jc: ∀(ks:List (List UInt8)) {s:cY},(s.ents.map (·.key)).Nodup→s.cache.Nodup→iM s ks={ s with ents:=s.ents.filter (fun e=>decide (e.key ∉ ks)),cache:=s.cache.filter (fun x=>decide (x ∉ ks)) }
 | [],s,_,_=>by
  rw [b₃.2 fun _ _=>by simp,b₃.2 fun _ _=>by simp]
  rfl
 | k :: ks,s,h1,h2=>by
  show iM (ga (fC s k).1 k) ks=_
  rw [uo h1]
  unfold ga
  dsimp only
  rw [gg h2,jc ks (j9 h1) (h2.sublist a₉)]
  dsimp only
  rw [d₉,d₉]
  congr 1
  ·congr 1
   funext e
   simp [Bool.and_comm]
  ·congr 1
   funext e
   simp [Bool.and_comm]
theorem uq {k:List UInt8} {l:List (List UInt8)} {size:Int} (hd:l.Nodup) (hk:k∈l):ik k l size=l.filter (fun x=>decide (x≠k)) ++ [k] :=by
 have hp: ¬ posK k l 0 < 0:=fun h=>(mn k l 0).1 h hk
 unfold ik;rw [if_pos om,← gg hd];unfold gu;rw [if_neg hp]
theorem qt {k:List UInt8} {l:List (List UInt8)} {size:Int} (hk:k ∉ l):ik k l size=uc k l (max 0 (min size 1024)):=by
 unfold ik;rw [if_neg (by have:=(mn k l 0).2 hk;omega)]
theorem AH {k:List UInt8} {l:List (List UInt8)} {size:Int} (hd:l.Nodup):(ik k l size).Nodup:=by
 by_cases hk:k∈l
 ·rw [uq hd hk];refine c₇.2 ⟨hd.sublist a₉,sm,fun a ha b hb=>?_⟩;rw [a₄.1 hb];have:=(b₅.1 ha).2;simpa using this
 ·rw [qt hk];have:(l ++ [k]).Nodup:=c₇.2 ⟨hd,sm,fun a ha b hb e=>hk (by rw [← a₄.1 hb,← e];exact ha)⟩;unfold uc;split
  ·exact this.sublist (List.drop_sublist _ _)
  ·exact this
theorem FR {k:List UInt8} {l:List (List UInt8)} {size:Int} (h0:0≤size∧size≤1024) (hd:l.Nodup) (hl:(l.length:Int)≤size):((ik k l size).length:Int)≤size:=by
 by_cases hk:k∈l
 ·rw [uq hd hk,a₁,a₂];have:(l.filter (fun x=>decide (x≠k))).length < l.length:=by
   rw [List.length_filter_lt_length_iff_exists];exact⟨k,hk,sm⟩
  omega
 ·rw [qt hk];unfold uc;split
  ·rw [c₉,a₁,a₂];omega
  ·rename_i h;rw [a₁,a₂];omega
theorem AI {k:List UInt8} {l:List (List UInt8)} (hd:l.Nodup):(gu k l).Nodup:=by rw [gg hd];exact hd.sublist List.filter_sublist
structure dR (s:cY):Prop where
 cl:(s.cache.length:Int)≤s.cfg.cache
 cd:s.cache.Nodup
 el:(s.ents.length:Int)≤s.cfg.maxTxs
 eb:(bytesS s.ents:Int)≤s.cfg.maxBytes
 kd:(s.ents.map (·.key)).Nodup
 ks: ∀e∈s.ents,e.key=bm e.raw∧(e.raw.length:Int)≤s.cfg.maxTx
 od:s.ents.Pairwise (fun a b=>a.order < b.order)
 oa: ∀e∈s.ents,e.order < s.arr
theorem ur {s:cY} (k:List UInt8) (hc:rJ s.cfg) (h:dR s):dR (cA s k):=⟨FR hc.cache h.cd h.cl,AH h.cd,h.el,h.eb,h.kd,h.ks,h.od,h.oa⟩
theorem uu {s:cY} (k:List UInt8) (h:dR s):dR (ga s k):=by
 refine⟨?_,AI h.cd,h.el,h.eb,h.kd,h.ks,h.od,h.oa⟩;have:=h.cl;have:=d₃ (fun x=>decide (x≠k)) s.cache
 show((gu k s.cache).length:Int)≤_
 rw [gg h.cd]
 show _≤s.cfg.cache
 omega
theorem pq {s:cY} (k:List UInt8) (h:dR s):dR (gd s k):=by
 unfold gd;split
 ·exact h
 ·exact uu k h
theorem Cy {l m:List Ent} (h:l.map (fun e=>e.raw.length)=m.map (fun e=>e.raw.length)):bytesS l=bytesS m:=by unfold bytesS;rw [h]
theorem Cz {s:cY} (i peer:Int) (h:dR s):dR (dQ s i peer):=by
 unfold dQ;split
 ·split
  ·rename_i e he;split
   ·exact h
   ·have hj:=(List.getElem?_eq_some_iff.1 he).1;have hm: ∀{β:Type} (f:Ent→β),(∀ps,f { e with peers:=ps }=f e)→∀ps,(s.ents.set i.toNat { e with peers:=ps }).map f=s.ents.map f:=by
     intro β f hf ps;rw [d₆,hf];apply List.ext_getElem?;intro j;rw [List.getElem?_set];split
     ·rename_i hij;subst hij;rw [if_pos (by simpa using hj),List.getElem?_map,he];rfl
     ·rfl
    have mem: ∀x∈s.ents.set i.toNat { e with peers:=e.peers ++ [peer] },∃y∈s.ents,y.key=x.key∧y.raw=x.raw∧y.order=x.order:=by
     intro x hx;rcases c₈ hx with hx | rfl
     ·exact⟨x,hx,rfl,rfl,rfl⟩
     ·exact⟨e,List.mem_of_getElem? he,rfl,rfl,rfl⟩
    refine⟨h.cl,h.cd,?_,?_,?_,fun x hx=>?_,?_,fun x hx=>?_⟩
    ·dsimp only;rw [b₀];exact h.el
    ·dsimp only;rw [Cy (hm (fun e=>e.raw.length) (fun _=>rfl) _)];exact h.eb
    ·dsimp only;rw [hm (·.key) (fun _=>rfl)];exact h.kd
    ·obtain⟨y,hy,h1,h2,_⟩:=mem x hx;rw [← h1,← h2];exact h.ks y hy
    ·have h1:=h.od;rw [← List.pairwise_map (f:=fun e:Ent=>e.order) (R:=fun a b:Int=>a < b)] at h1 ⊢;dsimp only;rw [hm (·.order) (fun _=>rfl)];exact h1
    ·obtain⟨y,hy,_,_,h3⟩:=mem x hx;rw [← h3];exact h.oa y hy
  ·exact h
 ·exact h
end
section
theorem AJ (p s t m:Int): ∀(O:List Ent) (c b:Int),∃k,k≤O.length∧selG p s t m O c b=(O.take k,c - k,b - bytesS (O.take k))∧
  (∀j (hj:j < O.length),j < k→fY (c - j) (b - bytesS (O.take j)) s t m=false∧O[j].prio < p)
 | [],c,b=>⟨0,b₂ _,by simp [selG,bytesS],fun j hj=>absurd hj (e₃ _)⟩
 | e :: l,c,b=>by
  rw [selG]
  cases hr:fY c b s t m || decide (p≤e.prio) with
  | true=>exact ⟨0,c₅ _,by simp [bytesS],fun j hj h=>absurd h (e₃ _)⟩
  | false=>
   obtain⟨k,h1,h2,h3⟩:=AJ p s t m l (c - 1) (b - e.raw.length)
   rw [Bool.or_eq_false_iff] at hr
   have hb: ∀j,b - e.raw.length - bytesS (l.take j)=b - bytesS ((e :: l).take (j + 1)):=fun j=>by
    rw [c₄];simp [bytesS];omega
   refine⟨k + 1,by simp;omega,?_,fun j hj hjk=>?_⟩
   ·rw [h2,hb]
    simp only [c₄,b₇,true_and,and_true]
    omega
   ·cases j with
    | zero=>exact ⟨by simpa [bytesS] using hr.1,by have:=oF hr.2;simpa using this⟩
    | succ j=>
     have:=h3 j (by simpa using hj) om
     rw [hb] at this
     refine⟨?_,by simpa using this.2⟩
     rw [← this.1]
     congr 1
     omega
theorem FT {p s t m:Int} {l:List Ent} (h:(cV p s t m l).2=true): ∃k,k≤(aB l).length∧(cV p s t m l).1=((aB l).take k).map (·.key)∧
  (∀j (hj:j < (aB l).length),j < k→fY ((l.length:Int) - j) ((bytesS l:Int) - bytesS ((aB l).take j)) s t m=false∧(aB l)[j].prio < p)∧fY ((l.length:Int) - k) ((bytesS l:Int) - bytesS ((aB l).take k)) s t m=true:=by
 obtain⟨k,h1,h2,h3⟩:=AJ p s t m (aB l) l.length (bytesS l)
 refine⟨k,h1,?_,h3,?_⟩
 ·unfold cV at h ⊢
  rw [h2] at h ⊢
  dsimp only at h ⊢
  cases hr:fY ((l.length:Int) - k) ((bytesS l:Int) - bytesS ((aB l).take k)) s t m with
  | true=>rfl
  | false=>rw [hr] at h;cases h
 ·unfold cV at h
  rw [h2] at h
  dsimp only at h
  cases hr:fY ((l.length:Int) - k) ((bytesS l:Int) - bytesS ((aB l).take k)) s t m with
  | true=>rfl
  | false=>rw [hr] at h;cases h
theorem ID (c b s t m:Int) (hs:0≤s) (hm:0≤m):fY c b s t m=decide (c + 1≤t∧b + s≤m):=by
 unfold fY;exact decide_eq_decide.2 om
theorem rj: ∀(O:List Ent) (k:Nat),(O.map (·.key)).Nodup→O.filter (fun e=>decide (e.key ∉ (O.take k).map (·.key)))=O.drop k
 | [],k,_=>by simp
 | e :: O,0,_=>by
  rw [List.take_zero,d₂]
  exact b₃.2 fun _ _=>by simp
 | e :: O,k + 1,h=>by
  rw [b₁,e₂] at h
  rw [c₄,List.drop_succ_cons,← rj O k h.2,List.filter_cons_of_neg sm]
  refine List.filter_congr fun x hx=>?_
  have:x.key≠e.key:=fun he=>h.1 (by rw [← he];exact d₅ hx)
  simp [this]
theorem IE {p sz t m:Int} {l:List Ent} (hd:(l.map (·.key)).Nodup) (h0:0≤sz) (hm:0≤m) (h:(cV p sz t m l).2=true) :
  ((l.filter fun e=>decide (e.key ∉ (cV p sz t m l).1)).length:Int) + 1≤t∧(bytesS (l.filter fun e=>decide (e.key ∉ (cV p sz t m l).1)):Int) + sz≤m∧(cV p sz t m l).1.Nodup∧
  ∃k,(cV p sz t m l).1=((aB l).take k).map (·.key)∧∀e∈(aB l).take k,e∈l∧e.prio < p:=by
 obtain⟨k,h1,h2,h3,h4⟩:=FT h
 have hp:=ja l
 have hO:((aB l).map (·.key)).Nodup:=(hp.map _).nodup_iff.2 hd
 have hf:(l.filter fun e=>decide (e.key ∉ (cV p sz t m l).1)).Perm ((aB l).drop k):=by
  rw [h2,← rj _ k hO]
  exact(hp.filter _).symm
 rw [ID _ _ _ _ _ h0 hm] at h4
 have h4:=ot h4
 have hl:l.length=(aB l).length:=hp.length_eq.symm
 have hb:=fZ (aB l) k
 rw [kX hp] at hb
 refine⟨?_,?_,?_,k,h2,fun e he=>⟨hp.mem_iff.1 (d₄ he),?_⟩⟩
 ·rw [hf.length_eq,c₉];omega
 ·rw [kX hf];omega
 ·rw [h2];exact hO.sublist ((List.take_sublist _ _).map _)
 ·obtain⟨j,hj,rfl⟩:=List.mem_iff_getElem.1 he
  rw [b₈] at hj
  rw [List.getElem_take]
  exact(h3 j om om).2
theorem AK {s:cY} {key raw:List UInt8} {peer:Int} {r:kU} (hc:rJ s.cfg) (h:dR s) (hk:key=bm raw) (hnew: ∀e∈s.ents,e.key≠key) (hr:(raw.length:Int)≤s.cfg.maxTx) (hsel:(cV r.prio raw.length s.cfg.maxTxs s.cfg.maxBytes s.ents).2=true) :
  dR (jr s key raw peer r (cV r.prio raw.length s.cfg.maxTxs s.cfg.maxBytes s.ents).1):=by
 obtain⟨h1,h2,_,_⟩:=IE h.kd om (by have:=hc.maxBytes;omega) hsel
 generalize (cV r.prio raw.length s.cfg.maxTxs s.cfg.maxBytes s.ents).1=ks at *
 unfold jr
 rw [jc ks h.kd h.cd]
 dsimp only
 have hb: ∀(a:List Ent) (e:Ent),bytesS (a ++ [e])=bytesS a + e.raw.length:=fun a e=>by simp [bytesS]
 refine⟨?_,h.cd.sublist a₉,?_,?_,?_,fun x hx=>?_,?_,fun x hx=>?_⟩
 ·have:=d₃ (fun x=>decide (x ∉ ks)) s.cache
  have:=h.cl
  dsimp only
  omega
 ·dsimp only
  rw [a₁,a₂]
  omega
 ·dsimp only
  rw [hb]
  unfold AG
  dsimp only
  omega
 ·dsimp only
  rw [b₄,List.map_singleton]
  refine c₇.2 ⟨j9 h.kd,sm,fun a ha b hb=>?_⟩
  rw [a₄.1 hb]
  obtain⟨e,he,rfl⟩:=d₈.1 ha
  exact hnew e (b₅.1 he).1
 ·rcases c₃.1 hx with hx | hx
  ·exact h.ks x (b₅.1 hx).1
  ·rw [a₄.1 hx]
   exact⟨hk,hr⟩
 ·dsimp only
  refine List.pairwise_append.2 ⟨h.od.sublist a₉,sm,fun a ha b hb=>?_⟩
  rw [a₄.1 hb]
  exact h.oa a (b₅.1 ha).1
 ·dsimp only
  rcases c₃.1 hx with hx | hx
  ·have:=h.oa x (b₅.1 hx).1
   omega
  ·rw [a₄.1 hx]
   show s.arr < s.arr + 1
   omega
theorem IF {s:cY} {key:List UInt8}: ¬ 0≤kY key s.ents↔ ∀e∈s.ents,e.key≠key:=by
 have h:=mn key (s.ents.map (·.key)) 0;unfold kY;rw [show (¬ 0≤posK key (s.ents.map (·.key)) 0)↔posK key (s.ents.map (·.key)) 0 < 0 by omega,h];simp only [d₈,not_exists,not_and]
theorem rm {s:cY} {raw:List UInt8} {peer:Int} (hc:rJ s.cfg) (h:dR s):dR (bP s raw peer).1:=by
 unfold bP gf;dsimp only;have hp:=ur (bm raw) hc h;generalize hk:bm raw=key at *;split
 ·exact h
 split
 ·exact h
 split
 ·exact Cz _ _ hp
 rename_i h1 h2 h3;split
 ·exact pq _ hp
 split
 ·exact pq _ hp
 split
 ·exact uu _ hp
 rename_i h4;refine AK (s:=cA s key) hc hp hk.symm (IF.1 (by show ¬ 0≤kY key s.ents;omega)) (by show(raw.length:Int)≤s.cfg.maxTx;omega) ?_;cases hq:(cV (fX (cA s key).app raw).prio raw.length (cA s key).cfg.maxTxs (cA s key).cfg.maxBytes (cA s key).ents).2 with
 | true=>rfl
 | false=>exact absurd hq h4
end
section
def uw:List fA→kM→kM
 | [],x=>x
 | f :: r,x=>if f.num=1 then uw r ⟨f.bytes,x.amt⟩ else if f.num=2 then uw r ⟨x.to_,f.val⟩ else uw r x
def gQ (b:List UInt8):kM:=uw (aJ b).1 ⟨[],0⟩
def fm:List fA→iJ→iJ
 | [],t=>t
 | f :: r,t=>
  if f.num=1 then fm r ⟨f.bytes,t.seq,t.gas,t.fee,t.memo,t.trs⟩ else
  if f.num=2 then fm r ⟨t.sender,f.val,t.gas,t.fee,t.memo,t.trs⟩ else
  if f.num=3 then fm r ⟨t.sender,t.seq,f.val,t.fee,t.memo,t.trs⟩ else
  if f.num=4 then fm r ⟨t.sender,t.seq,t.gas,f.val,t.memo,t.trs⟩ else
  if f.num=5 then fm r ⟨t.sender,t.seq,t.gas,t.fee,f.bytes,t.trs⟩ else
  if f.num=6 then fm r ⟨t.sender,t.seq,t.gas,t.fee,t.memo,t.trs ++ [gQ f.bytes]⟩ else fm r t
theorem yi: ∀(l:List fA) (x:kM),(iY l x).2=true→uw l x=(iY l x).1
 | [],x,_=>rfl
 | f :: r,x,h=>by
  rw [iY] at h ⊢
  rw [uw]
  split at h
  ·rename_i h1;rw [if_pos h1.1,if_pos h1];exact yi r _ h
  ·rename_i h1
   split at h
   ·rename_i h2;rw [if_neg om,if_pos h2.1,if_neg h1,if_pos h2];exact yi r _ h
   ·cases h
theorem IG {b:List UInt8} (h:(cX b).2=true):gQ b=(cX b).1:=by
 unfold cX at h ⊢;unfold gQ;have h1:=yi (aJ b).1 ⟨[],0⟩;generalize iY (aJ b).1 ⟨[],0⟩=r at *;obtain⟨x,ok⟩:=r;dsimp only at *;rw [c₀] at h;exact h1 h.1
theorem ux: ∀(l:List fA) (t:iJ),(bB l t).2=true→fm l t=(bB l t).1
 | [],t,_=>rfl
 | f :: r,t,h=>by
  rw [bB] at h ⊢
  rw [fm]
  split at h
  ·rename_i h1;rw [if_pos h1.1,if_pos h1];exact ux r _ h
  rename_i n1
  split at h
  ·rename_i h2;rw [if_neg om,if_pos h2.1,if_neg n1,if_pos h2];exact ux r _ h
  rename_i n2
  split at h
  ·rename_i h3;rw [if_neg om,if_neg om,if_pos h3.1,if_neg n1,if_neg n2,if_pos h3];exact ux r _ h
  rename_i n3
  split at h
  ·rename_i h4;rw [if_neg om,if_neg om,if_neg om,if_pos h4.1,if_neg n1,if_neg n2,if_neg n3,if_pos h4];exact ux r _ h
  rename_i n4
  split at h
  ·rename_i h5;rw [if_neg om,if_neg om,if_neg om,if_neg om,if_pos h5.1,if_neg n1,if_neg n2,if_neg n3,if_neg n4,if_pos h5];exact ux r _ h
  rename_i n5
  split at h
  ·rename_i h6
   rw [if_neg om,if_neg om,if_neg om,if_neg om,if_neg om,if_pos h6.1,if_neg n1,if_neg n2,if_neg n3,if_neg n4,if_neg n5,if_pos h6]
   split at h
   ·rename_i h7;rw [if_pos h7,IG h7];exact ux r _ h
   ·cases h
  ·cases h
theorem AM (n:Nat) (s s':List UInt8):(bA n s).length≤(bA n s').length + 1:=by
 unfold bA;split <;> split <;> simp
theorem yj (n v v':Nat):(cj n v).length≤(cj n v').length + 1:=by
 unfold cj;split <;> split <;> simp
theorem dE (t:iJ):(ib t).length=(bA 1 t.sender).length + (cj 2 t.seq).length + (cj 3 t.gas).length + (cj 4 t.fee).length + (bA 5 t.memo).length + t.trs.length:=by
 unfold ib;simp only [a₁,List.length_map]
theorem js: ∀(l:List fA) (t:iJ),(ib (fm l t)).length≤(ib t).length + l.length
 | [],t=>by rw [fm];simp
 | f :: r,t=>by
  rw [fm,d₀]
  split
  ·have h:=js r ⟨f.bytes,t.seq,t.gas,t.fee,t.memo,t.trs⟩
   have:=AM 1 f.bytes t.sender
   rw [dE ⟨f.bytes,t.seq,t.gas,t.fee,t.memo,t.trs⟩] at h;rw [dE t];dsimp only at h;omega
  split
  ·have h:=js r ⟨t.sender,f.val,t.gas,t.fee,t.memo,t.trs⟩
   have:=yj 2 f.val t.seq
   rw [dE ⟨t.sender,f.val,t.gas,t.fee,t.memo,t.trs⟩] at h;rw [dE t];dsimp only at h;omega
  split
  ·have h:=js r ⟨t.sender,t.seq,f.val,t.fee,t.memo,t.trs⟩
   have:=yj 3 f.val t.gas
   rw [dE ⟨t.sender,t.seq,f.val,t.fee,t.memo,t.trs⟩] at h;rw [dE t];dsimp only at h;omega
  split
  ·have h:=js r ⟨t.sender,t.seq,t.gas,f.val,t.memo,t.trs⟩
   have:=yj 4 f.val t.fee
   rw [dE ⟨t.sender,t.seq,t.gas,f.val,t.memo,t.trs⟩] at h;rw [dE t];dsimp only at h;omega
  split
  ·have h:=js r ⟨t.sender,t.seq,t.gas,t.fee,f.bytes,t.trs⟩
   have:=AM 5 f.bytes t.memo
   rw [dE ⟨t.sender,t.seq,t.gas,t.fee,f.bytes,t.trs⟩] at h;rw [dE t];dsimp only at h;omega
  split
  ·have h:=js r ⟨t.sender,t.seq,t.gas,t.fee,t.memo,t.trs ++ [gQ f.bytes]⟩
   rw [dE ⟨t.sender,t.seq,t.gas,t.fee,t.memo,t.trs ++ [gQ f.bytes]⟩] at h;rw [dE t];dsimp only at h
   rw [a₁,a₂] at h;omega
  ·have h:=js r t
   omega
theorem yk: ∀(l:List fA) (x:kM),(∀f∈l,jw f∧f.bytes.length≤5000)→lY x→lY (uw l x)
 | [],x,_,h=>h
 | f :: r,x,hl,h=>by
  have hf:=hl f sm
  have hr: ∀g∈r,jw g∧g.bytes.length≤5000:=fun g hg=>hl g (by simp [hg])
  rw [uw]
  split
  ·exact yk r _ hr ⟨hf.2,h.2⟩
  split
  ·exact yk r _ hr ⟨h.1,by have:=hf.1;unfold jw at this;unfold bh;dsimp only;omega⟩
  ·exact yk r _ hr h
theorem FU {b:List UInt8} (hb:b.length≤5000):lY (gQ b):=by
 have h:=eX b;exact yk _ _ (fun f hf=>⟨(h.1 f hf).1,by have:=(h.1 f hf).2;omega⟩) ⟨sm,by simp [bh]⟩
theorem mo: ∀(l:List fA) (t:iJ),(∀f∈l,jw f∧f.bytes.length≤5000)→t.trs.length + l.length≤5000→gE t→gE (fm l t)
 | [],t,_,_,h=>h
 | f :: r,t,hl,hn,h=>by
  have hf:=hl f sm
  have hr: ∀g∈r,jw g∧g.bytes.length≤5000:=fun g hg=>hl g (by simp [hg])
  have hv:bh f.val:=by have:=hf.1;unfold jw at this;unfold bh;omega
  simp only [d₀] at hn
  have hh:=h
  obtain⟨h1,h2,h3,h4,h5,h6,h7⟩:=h
  rw [fm]
  split
  ·exact mo r _ hr dm ⟨hf.2,h2,h3,h4,h5,h6,h7⟩
  split
  ·exact mo r _ hr dm ⟨h1,hv,h3,h4,h5,h6,h7⟩
  split
  ·exact mo r _ hr dm ⟨h1,h2,hv,h4,h5,h6,h7⟩
  split
  ·exact mo r _ hr dm ⟨h1,h2,h3,hv,h5,h6,h7⟩
  split
  ·exact mo r _ hr dm ⟨h1,h2,h3,h4,hf.2,h6,h7⟩
  split
  ·exact mo r _ hr (by dsimp only;rw [a₁,a₂];omega) ⟨h1,h2,h3,h4,h5,by dsimp only;rw [a₁,a₂];omega,eV h7 fun x hx=>by rw [a₄.1 hx];exact FU hf.2⟩
  ·exact mo r _ hr om hh
theorem uy {raw:List UInt8} (h:raw.length≤4096):gE (fm (aJ raw).1 tx0):=by
 have hf:=eX raw;refine mo _ tx0 (fun f hm=>⟨(hf.1 f hm).1,by have:=(hf.1 f hm).2;omega⟩) ?_ tS
 show 0 + _≤_
 omega
theorem CA {x:kM} (h:lY x):cX (lZ x).bytes=(x,true):=by
 have hok:=o6 h;unfold cX lZ;dsimp only;have hf:aJ (bc (bA 1 x.to_ ++ cj 2 x.amt))=(bA 1 x.to_ ++ cj 2 x.amt,0,0):=by
  have:=nO (bA 1 x.to_ ++ cj 2 x.amt) 1024 0 [] (fun f hf=>(hok.1 f hf).1) om;simpa [aJ] using this
 rw [hf];have hr:iY (bA 1 x.to_ ++ cj 2 x.amt) ⟨[],0⟩=(x,true):=by
  obtain⟨to_,amt⟩:=x;unfold bA cj;dsimp only;by_cases h1:to_= [] <;> by_cases h2:amt=0 <;> simp [h1,h2,iY]
 rw [hr];simp
theorem IH: ∀(l:List kM) (t:iJ),(∀x∈l,lY x)→bB (l.map lZ) t=(⟨t.sender,t.seq,t.gas,t.fee,t.memo,t.trs ++ l⟩,true)
 | [],t,_=>by simp [bB]
 | x :: l,t,h=>by
  rw [b₁,bB]
  have h1:=CA (h x sm)
  have n6:(lZ x).num=6:=rfl
  have k2:(lZ x).kind=2:=rfl
  rw [n6,k2,h1]
  simp only [show ¬ ((6:Nat)=1∧(2:Nat)=2) by omega,show ¬ ((6:Nat)=2∧(2:Nat)=0) by omega,show ¬ ((6:Nat)=3∧(2:Nat)=0) by omega,show ¬ ((6:Nat)=4∧(2:Nat)=0) by omega,show ¬ ((6:Nat)=5∧(2:Nat)=2) by omega,if_false,and_self,if_true]
  refine(IH l _ fun y hy=>h y (by simp [hy])).trans ?_
  simp
theorem Lh {t:iJ} (h:gE t):bB (ib t) tx0=(t,true):=by
 obtain⟨sender,seq,gas,fee,memo,trs⟩:=t;obtain⟨h1,h2,h3,h4,h5,h6,h7⟩:=h;dsimp only at h7;unfold ib;dsimp only;have t1: ∀(r:List fA),bB (bA 1 sender ++ r) ⟨[],0,0,0,[],[]⟩=bB r ⟨sender,0,0,0,[],[]⟩:=fun r=>by
  unfold bA;by_cases h:sender= [] <;> simp [h,bB]
 have t2: ∀(r:List fA),bB (cj 2 seq ++ r) ⟨sender,0,0,0,[],[]⟩=bB r ⟨sender,seq,0,0,[],[]⟩:=fun r=>by
  unfold cj;by_cases h:seq=0 <;> simp [h,bB]
 have t3: ∀(r:List fA),bB (cj 3 gas ++ r) ⟨sender,seq,0,0,[],[]⟩=bB r ⟨sender,seq,gas,0,[],[]⟩:=fun r=>by
  unfold cj;by_cases h:gas=0 <;> simp [h,bB]
 have t4: ∀(r:List fA),bB (cj 4 fee ++ r) ⟨sender,seq,gas,0,[],[]⟩=bB r ⟨sender,seq,gas,fee,[],[]⟩:=fun r=>by
  unfold cj;by_cases h:fee=0 <;> simp [h,bB]
 have t5: ∀(r:List fA),bB (bA 5 memo ++ r) ⟨sender,seq,gas,fee,[],[]⟩=bB r ⟨sender,seq,gas,fee,memo,[]⟩:=fun r=>by
  unfold bA;by_cases h:memo= [] <;> simp [h,bB]
 rw [a₈,a₈,a₈,a₈]
 show bB _ ⟨[],0,0,0,[],[]⟩=_
 rw [t1,t2,t3,t4,t5,IH trs _ h7];simp
theorem FV (raw:List UInt8):aS raw=if 4096 < raw.length then(tx0,3) else if (aJ raw).2.2≠0∨eE (fm (aJ raw).1 tx0)≠raw then(tx0,4) else if cU (fm (aJ raw).1 tx0)≠0 then(tx0,cU (fm (aJ raw).1 tx0)) else(fm (aJ raw).1 tx0,0):=by
 unfold aS;by_cases h1:4096 < raw.length
 ·rw [if_pos h1,if_pos h1]
 rw [if_neg h1,if_neg h1];by_cases he:(aJ raw).2.2≠0
 ·rw [if_pos (.inl he),if_pos (.inl he)]
 by_cases hok:(bB (aJ raw).1 tx0).2=true
 ·rw [ux _ _ hok];by_cases hf:eE (bB (aJ raw).1 tx0).1≠raw
  ·rw [if_pos (.inr (.inr hf)),if_pos (.inr hf)]
  ·have n1: ¬ ((aJ raw).2.2≠0∨(bB (aJ raw).1 tx0).2=false∨eE (bB (aJ raw).1 tx0).1≠raw):=fun h=>h.elim he fun h=>h.elim (fun h=>by rw [hok] at h;cases h) hf
   have n2: ¬ ((aJ raw).2.2≠0∨eE (bB (aJ raw).1 tx0).1≠raw):=fun h=>h.elim he hf
   rw [if_neg n1,if_neg n2]
 ·have hno:(bB (aJ raw).1 tx0).2=false:=by simpa using hok
  suffices hx:eE (fm (aJ raw).1 tx0)≠raw by rw [if_pos (.inr (.inl hno)),if_pos (.inr hx)]
  intro hf;have hsm:=uy (raw:=raw) om;have hlen:=js (aJ raw).1 tx0;have h1024:=(eX raw).2;have h0:(ib tx0).length=0:=rfl;have hfo:=tN hsm;have hfm:=nO (ib (fm (aJ raw).1 tx0)) 1024 0 [] (fun f hf=>(hfo.1 f hf).1) om;have e:aJ raw=(ib (fm (aJ raw).1 tx0),0,0):=by
   have h2:aJ (eE (fm (aJ raw).1 tx0))=(ib (fm (aJ raw).1 tx0),0,0):=by simpa [aJ,eE] using hfm
   rw [hf] at h2;exact h2
  have e1:(aJ raw).1=ib (fm (aJ raw).1 tx0):=congrArg Prod.fst e;have e2:=Lh hsm;rw [← e1] at e2;exact absurd (show(bB (aJ raw).1 tx0).2=true by rw [e2]) (by rw [hno];simp)
end
section
section
variable {Pg:Program} {G:GS} {f:FuncId} {args:List MV} {M0 M1:VM} {n0 n1:Nat} {res:MV}
theorem II {w:World} {P:bC} {adr adr2:dV} {ρ:Nat→Nat} {b:MB} {g:Nat} (h:nd w P adr b g) (k: ∀c g,adr c=some g→adr2 (ρ c)=some g):nd w P adr2 { b with l:=bif b.row then b.l else renVs ρ b.l } g:=by
 have hlen:(bif b.row then b.l else renVs ρ b.l).length=b.l.length:=by
  cases b.row
  ·exact eT _
  ·rfl
 refine⟨?_,h.pe,by simp only [hlen];exact h.le⟩;rcases h.has' with ⟨cur,parts,c1,c2,c3,c4,c5⟩ | ⟨m1,m2,ks,vs,o,m3,m4,m5⟩
 ·refine .inl ⟨cur,parts,c1,by simp only [hlen];exact c2,c3,fun j x p hx hp=>?_,c5⟩;simp only at hx ⊢;cases hrow:b.row with
  | true=>rw [hrow] at hx c4;exact c4 j x p hx hp
  | false=>
   rw [hrow] at hx c4;simp only [cond_false,gz] at hx;cases hj:b.l[j]? with
   | none=>rw [hj] at hx;cases hx
   | some y=>
    rw [hj] at hx;injection hx with hx
    subst hx;exact oC (c4 j y p hj hp) k
 ·exact .inr ⟨m1,m2,ks,vs,o,by simp [m1,m3,renVs,cH],m4,m5⟩
def AN (a n1:Nat) (c:Nat):Nat:=bif Nat.beq c a then n1 else c
theorem rn (a:Nat) (ha:a < n1) (hn:n0≤n1) (hall:M1.all (fun x=>Nat.blt x.1 n1)=true) (h:aH Pg G f args M0 n0 res M1 n1):aH Pg G f args M0 n0 (cH (AN a n1) res) (jv (AN a n1) M1) (n1 + 1):=by
 intro w P adr vals h1 h2 h3 h4 h5;refine(h w P adr vals h1 h2 h3 h4 h5).mono ?_;rintro e w' ⟨v,rfl,P',adr',j1,j2,j3,j4,j5,j6,j7,j8⟩;have hlt: ∀{c b},VM.get M1 c=some b→c < n1:=fun {c b} hc=>by
  rcases Nat.lt_or_ge c n1 with h | h
  ·exact h
  ·rw [pV hall h] at hc;cases hc
 have hr: ∀c,AN a n1 c=if c=a then n1 else c:=fun c=>by
  unfold AN;by_cases h:c=a
  ·subst h;simp
  ·simp [fD h,h]
 have key: ∀c g,adr' c=some g→(fun c=>if c=n1 then adr' a else adr' c) (AN a n1 c)=some g:=fun c g hc=>by
  dsimp only;rw [hr];by_cases h:c=a
  ·subst h;simp [hc]
  ·rw [if_neg h,if_neg]
   ·exact hc
   ·rintro rfl;rw [j5 c (b₂ _)] at hc;cases hc
 have hinj: ∀c d b b',VM.get M1 c=some b→VM.get M1 d=some b'→AN a n1 c=AN a n1 d→c=d:=fun c d b b' hc hd he=>by
  have:=hlt hc;have:=hlt hd;rw [hr,hr] at he;split at he <;> split at he <;> omega
 have back: ∀c,c < n1→(fun c=>if c=n1 then adr' a else adr' c) (AN a n1 c)=adr' c:=fun c hc=>by
  dsimp only;rw [hr];by_cases h:c=a
  ·subst h;simp
  ·rw [if_neg h,if_neg om]
 refine⟨v,rfl,P',fun c=>if c=n1 then adr' a else adr' c,⟨fun c b' hc=>?_,fun c c' b1 b2 g hc hc' hg hg'=>?_,j1.prot⟩,sO j2 key,⟨j3.prot,j3.cell,fun c g hc=>?_,j3.size⟩,fun c hc=>?_,fun c hc=>?_,fun c g hc=>?_,j7,j8⟩
 ·obtain⟨c0,b0,rfl,hc0,rfl⟩:=jG M1 c b' hc hinj;rcases j1.blk c0 b0 hc0 with q | ⟨g,q1,q2⟩
  ·refine .inl ⟨q.1,?_,(back c0 (hlt hc0)).trans q.2.2.1,q.2.2.2⟩;simp [q.1,q.2.1]
  ·exact .inr ⟨g,key c0 g q1,II q2 key⟩
 ·obtain⟨c0,b0,rfl,hc0,rfl⟩:=jG M1 c b1 hc hinj;obtain⟨d0,d1,rfl,hd0,rfl⟩:=jG M1 c' b2 hc' hinj;rw [j1.inj c0 d0 b0 d1 g hc0 hd0 ((back c0 (hlt hc0)).symm.trans hg) ((back d0 (hlt hd0)).symm.trans hg')]
 ·have hk:=j3.num c g hc;have:c≠n1:=by rintro rfl;rw [j5 c (b₂ _)] at hk;cases hk
  simp only [this,if_false];exact hk
 ·have:c≠n1:=om;simp only [this,if_false];exact j4 c hc
 ·have:c≠n1:=om;simp only [this,if_false];exact j5 c om
 ·by_cases h:c=n1
  ·simp only [h,if_true] at hc;exact j6 a g hc
  ·simp only [h,if_false] at hc;exact j6 c g hc
end
end
section
variable {G:GS}
attribute [local irreducible] aj aC aG aL aO vC aU au
def yM (c:Nat) (b:List UInt8):VM:= [(0,⟨278,1,false,0,[.st [.ms c 1 0 b.length]]⟩),(c,⟨5,1,true,0,u8s b⟩)]
abbrev Po:MV:= .ptr 0 1 0 0 []
theorem yl (f:fA) (hf:jw f) (hb:f.bytes.length < 400000000) :
  aH Tryz.prog G 247 [.sl 0 [],db f] [] 0 (.tup [.ms 0 1 0 (bS f).length, .int .i64 0]) (kI (bS f)) 1:=by
 have:=HV (G:=G) [] f hf (by simpa using hb)
 simpa [u8s] using this
theorem qu (b s:List UInt8) (n:Nat) (hn:1≤n∧n≤100) (hb:b.length < 400000000) (hs:s.length < 100000000) :
  aH Tryz.prog G 233 [Po, .int .i64 n, .ifc 9 (.str s)] (yM 1 b) 2 (.tup []) (yM 2 (b ++ bc (bA n s))) 3:=by
 by_cases h0:s= []
 ·subst h0
  have e:bc (bA n [])= [] :=rfl
  rw [e,d₁]
  refine rn (n1:=2) 1 (by decide) (by decide) rfl (res:= .tup []) (M1:=yM 1 b) ?_
  unfold yM
  refine bR seat Tryz.func233 61 ?_
  refine ae ?_
  exact en []
 ·have e:bc (bA n s)=bS ⟨n,2,0,s⟩:=by unfold bA;rw [if_neg h0];simp [bc]
  have hok:jw (⟨n,2,0,s⟩:fA):=⟨dm,dm, .inr ⟨rfl,rfl,dm⟩⟩
  have c1:=yl (G:=G) ⟨n,2,0,s⟩ hok dm
  have hpl:=kN hok
  rw [e]
  unfold kI db at c1
  dsimp only at c1 hpl
  generalize bS ⟨n,2,0,s⟩=piece at *
  unfold yM
  refine bR seat Tryz.func233 61 ?_
  refine ae ?_
  refine ad rfl ?_ ?_ <;> intro h
  ·exact absurd h (by simp;intro h;exact absurd h h0)
  refine ae ?_
  refine yc (c1) [] ?_
  refine ae ?_
  refine aY rfl rfl (by intro R hR;refine dM hR ?_;refine a₃ (b₆ (by simp [u8s])) ?_;refine⟨_,rfl,?_⟩;refine a₃ ⟨(by simp [u8s]),aE (by kernel_rfl) pf⟩ ?_;refine⟨u8s (b ++ piece),sv (by simp [u8s,cutL,a₆]),(b ++ piece).length,sv pf,?_⟩;exact hR) rfl ?_
  refine ae ?_
  exact eb [] [(2,49)] []
theorem pt (b:List UInt8) (n v:Nat) (hn:1≤n∧n≤100) (hb:b.length < 400000000) (hv:bh v) :
  aH Tryz.prog G 233 [Po, .int .i64 n, .ifc 22 (.int .u64 v)] (yM 1 b) 2 (.tup []) (yM 2 (b ++ bc (cj n v))) 3:=by
 by_cases h0:v=0
 ·subst h0
  have e:bc (cj n 0)= [] :=rfl
  rw [e,d₁]
  refine rn (n1:=2) 1 (by decide) (by decide) rfl (res:= .tup []) (M1:=yM 1 b) ?_
  unfold yM
  refine bR seat Tryz.func233 61 ?_
  refine ae ?_
  exact en []
 ·have e:bc (cj n v)=bS ⟨n,0,v,[]⟩:=by unfold cj;rw [if_neg h0];simp [bc]
  have hok:jw (⟨n,0,v,[]⟩:fA):=⟨dm,dm, .inl ⟨rfl,rfl,hv⟩⟩
  have c1:=yl (G:=G) ⟨n,0,v,[]⟩ hok (by dsimp only;simp)
  have hpl:(bS ⟨n,0,v,[]⟩).length≤20:=by simpa using kN hok
  rw [e]
  unfold kI db at c1
  dsimp only at c1 hpl
  generalize bS ⟨n,0,v,[]⟩=piece at *
  unfold yM
  refine bR seat Tryz.func233 61 ?_
  refine ae ?_
  refine ad rfl ?_ ?_ <;> intro h
  ·exact absurd h (by have:=eq_of_beq h;omega)
  refine ae ?_
  refine yc (c1) [] ?_
  refine ae ?_
  refine aY rfl rfl (by intro R hR;refine dM hR ?_;refine a₃ (b₆ (by simp [u8s])) ?_;refine⟨_,rfl,?_⟩;refine a₃ ⟨(by simp [u8s]),aE (by kernel_rfl) pf⟩ ?_;refine⟨u8s (b ++ piece),sv (by simp [u8s,cutL,a₆]),(b ++ piece).length,sv pf,?_⟩;exact hR) rfl ?_
  refine ae ?_
  exact eb [] [(2,50)] []
theorem CB (b x:List UInt8) (n:Nat) (hn:1≤n∧n≤100) (hb:b.length < 400000000) (hs:x.length < 100000000) :
  aH Tryz.prog G 233 [Po, .int .i64 n, .ifc 51 (.sl x.length (u8s x))] (yM 1 b) 2 (.tup []) (yM 2 (b ++ bS ⟨n,2,0,x⟩)) 3:=by
 have hok:jw (⟨n,2,0,x⟩:fA):=⟨dm,dm, .inr ⟨rfl,rfl,dm⟩⟩
 have c1:=yl (G:=G) ⟨n,2,0,x⟩ hok dm
 have hpl:=kN hok
 unfold kI db at c1
 dsimp only at c1 hpl
 generalize bS ⟨n,2,0,x⟩=piece at *
 unfold yM
 refine bR seat Tryz.func233 61 ?_
 refine ae ?_
 refine yc (c1) [] ?_
 refine ae ?_
 refine aY rfl rfl (by intro R hR;refine dM hR ?_;refine a₃ (b₆ (by simp [u8s])) ?_;refine⟨_,rfl,?_⟩;refine a₃ ⟨(by simp [u8s]),aE (by kernel_rfl) pf⟩ ?_;refine⟨u8s (b ++ piece),sv (by simp [u8s,cutL,a₆]),(b ++ piece).length,sv pf,?_⟩;exact hR) rfl ?_
 refine ae ?_
 exact eb [] [(2,46)] []
end
section
variable {G:GS}
attribute [local irreducible] aj aC aG aL aO vC aU au
theorem msgS_app (a b:List fA):bc (a ++ b)=bc a ++ bc b:=by simp [bc]
theorem FW (t:iJ) (ht:gE t):aH Tryz.prog G 197 [nh t] [] 0 (.sl (eE t).length (u8s (eE t))) [] 0:=by
 have hfl:=qk ht;obtain⟨sender,seq,gas,fee,memo,trs⟩:=t;obtain⟨h1,h2,h3,h4,h5,h6,h7⟩:=ht;dsimp only at h1 h2 h3 h4 h5 h6 h7;generalize hF:eE ⟨sender,seq,gas,fee,memo,trs⟩=F at *;have hF2: ∀k,F=bc (bA 1 sender) ++ bc (cj 2 seq) ++ bc (cj 3 gas) ++ bc (cj 4 fee) ++ bc (bA 5 memo) ++ bc ((trs.take k).map lZ) ++ bc ((trs.drop k).map lZ):=fun k=>by
  rw [← hF];unfold eE ib;have e:bc (trs.map lZ)=bc ((trs.take k).map lZ) ++ bc ((trs.drop k).map lZ):=by rw [← msgS_app,← b₄,List.take_append_drop]
  simp only [msgS_app,e,a₈]
 have hl0:=congrArg List.length (hF2 0);simp only [a₁] at hl0;have c1:=qu (G:=G) [] sender 1 om sm om;rw [c₂] at c1;generalize bc (bA 1 sender)=p1 at *;have c2:=pt (G:=G) p1 2 seq om om h2;have q2:(p1 ++ bc (cj 2 seq)).length=p1.length + (bc (cj 2 seq)).length:=a₁;generalize p1 ++ bc (cj 2 seq)=p2 at *;have c3:=pt (G:=G) p2 3 gas om om h3;have q3:(p2 ++ bc (cj 3 gas)).length=p2.length + (bc (cj 3 gas)).length:=a₁;generalize p2 ++ bc (cj 3 gas)=p3 at *;have c4:=pt (G:=G) p3 4 fee om om h4;have q4:(p3 ++ bc (cj 4 fee)).length=p3.length + (bc (cj 4 fee)).length:=a₁;generalize p3 ++ bc (cj 4 fee)=p4 at *;have c5:=qu (G:=G) p4 memo 5 om om om;generalize p4 ++ bc (bA 5 memo)=p5 at *;clear hl0 q2 q3 q4 hF;unfold yM at c1 c2 c3 c4 c5;unfold nh;dsimp only;refine bR seat Tryz.func197 49 ?_;refine ae ?_;refine yc (c1) [(0,2)] ?_;refine ae ?_;refine yc (c2) [(0,2),(1,8)] ?_;refine ae ?_;refine yc (c3) [(0,2),(1,14)] ?_;refine ae ?_;refine yc (c4) [(0,2),(1,20)] ?_;refine ae ?_;refine yc (c5) [(0,2),(1,26)] ?_;refine ae ?_;refine ar Nat (fun k=> [(30, .int .i64 k),(29, .int .i64 trs.length),(28, .sl trs.length (trs.map lh)),(3, .ptr 0 1 0 0 [])]) (fun k=>yM 1 (p5 ++ bc ((trs.take k).map lZ))) 2 (fun k=>k≤trs.length) (fun k=>trs.length - k) 0 (c₅ _) ?_ ?_
 ·rw [show p5 ++ bc ((trs.take 0).map lZ)=p5 by simp [bc]];unfold yM;exact(vm [(0,_),(1,_)] [])
 intro k hk;have hFk:=hF2 k;have hlk:=congrArg List.length hFk;simp only [a₁] at hlk;try dsimp only
 by_cases hk':k < trs.length
 ·have hsu:p5 ++ bc ((trs.take (k + 1)).map lZ)=p5 ++ bc ((trs.take k).map lZ) ++ bS (lZ trs[k]):=by
   rw [c₁ hk',b₄,msgS_app,a₈];congr 2;simp [bc]
  have hel:=kP hk';have hx:=h7 _ (b₉ hk');have hin:=mS hx;rw [show lZ trs[k] =⟨6,2,0,bc (bA 1 trs[k].to_ ++ cj 2 trs[k].amt)⟩ from rfl] at hsu;have hb1:(p5 ++ bc ((trs.take k).map lZ)).length < 400000000:=by rw [a₁];omega
  generalize p5 ++ bc ((trs.take k).map lZ)=acc at *;generalize hac:p5 ++ bc ((trs.take (k + 1)).map lZ)=acc2 at *;generalize trs[k] =x at *;obtain⟨to_,amt⟩:=x;unfold lh at hel;dsimp only at hel hsu hx hin;have hel:=al.mk hel;obtain⟨hx1,hx2⟩:=hx;dsimp only at hx1 hx2;rw [msgS_app] at hsu hin;have d1:=qu (G:=G) [] to_ 1 om sm om;rw [c₂] at d1;rw [a₁] at hin;have hiq:(bc (bA 1 to_) ++ bc (cj 2 amt)).length≤10040:=by rw [a₁];exact hin
  generalize bc (bA 1 to_)=i1 at *;have d2:=pt (G:=G) i1 2 amt om om hx2;generalize i1 ++ bc (cj 2 amt)=i2 at *;have d3:=CB (G:=G) acc i2 6 om hb1 om;rw [← hsu] at d3;unfold yM at *;refine ae ?_;refine ad rfl ?_ ?_ <;> intro h
  rotate_left
  ·exact absurd (oF h) om
  refine ae ?_;refine yc (d1) [(0,7)] ?_;refine ae ?_;refine yc (d2) [(0,7),(1,13)] ?_;refine ae ?_;refine bQ rfl (fun _ h=>h) rfl (d3) [(0,0),(1,1)] [(19,i2.length)] ⟨rfl,mm,rfl,lm,mm⟩ rfl rfl ?_;refine ae ?_;refine⟨k + 1,om,by show trs.length - (k + 1) < trs.length - k;omega,?_⟩;dsimp only;rw [hac];exact(vm [(0,0),(1,25)] [])
 ·have e:k=trs.length:=om;subst e;rw [e₀,show bc (([] :List kM).map lZ)= [] by rfl,d₁] at hFk;rw [← hFk];unfold yM;refine ae ?_;refine ad rfl ?_ ?_ <;> intro h
  ·exact absurd (ot h) om
  refine ae ?_;refine⟨[_],[],[(1,F.length)],rfl,rfl,?_,rfl,⟨?_,trivial⟩,?_⟩
  ·exact⟨by show F.length≤(u8s F).length;simp [u8s],trivial⟩
  ·exact .inr ⟨rfl,rfl,rfl,b₆ (a₇ _),by simp [cutL,u8s,a₆]⟩
  ·exact mm
end
end Go.Proofs.YthdhlcicpcnbhaaGreatDoor
