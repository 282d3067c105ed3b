/- Parts of a proof, one behind the other: Q3, Q5, PC, N2, PD, PE, X1, X2, X3, X4, W3, KM, W4, W5. -/
import Derived.Test.YthdhlcicpcnbhaaGreatDoorV06
open Bool renaming noConfusion → a₀,and_eq_true → c₀
open List renaming length_append → a₁,length_singleton → a₂,mem_singleton → a₄,take_of_length_le → a₆,append_assoc → a₈,filter_sublist → a₉,length_set → b₀,map_cons → b₁,filter_eq_self → b₃,map_append → b₄,mem_filter → b₅,length_take → b₈,getElem_mem → b₉,take_succ_eq_append_getElem → c₁,nil_append → c₂,mem_append → c₃,take_succ_cons → c₄,nodup_append → c₇,mem_or_eq_of_mem_set → c₈,length_drop → c₉,length_cons → d₀,append_nil → d₁,drop_zero → d₂,length_filter_le → d₃,mem_of_mem_take → d₄,mem_map_of_mem → d₅,map_set → d₆,mem_map → d₈,filter_filter → d₉,drop_length → e₀,nodup_cons → e₂
open And renaming intro → a₃
open Nat renaming le_of_ble_eq_true → a₅,zero_add → a₇,le_refl → b₂,le_of_eq → b₆,zero_le → c₅,le_trans → d₇,not_lt_zero → e₃
open Prod.mk renaming injEq → b₇
open Int renaming toNat_natCast → c₆,natCast_zero → e₁
set_option maxRecDepth 20000
set_option maxHeartbeats 16000000
set_option linter.unusedVariables false
set_option linter.unusedSimpArgs false
namespace Go.Proofs.YthdhlcicpcnbhaaGreatDoor
open Go.RowKit
section
variable {G:GS}
attribute [local irreducible] aj aC aG aM aQ vC aY aA
theorem rH (t:iP):(fk t).1.length≤4096:=by
 unfold fk;split
 ·simp
 ·split
  ·simp
  ·dsimp only;omega
def Gh (L:List Int) (N:Nat) (raw:List UInt8):List UInt8×Nat:=
 if raw.length=0 then(raw,N) else if nextN L N 12≠0 then(raw,N + 1) else if nextN L (N + 2) 2=0 then(raw.take (nextN L (N + 1) raw.length),N + 3) else(raw.set (nextN L (N + 1) raw.length) (UInt8.ofNat (nextN L (N + 3) 256)),N + 4)
def qB (L:List Int) (N:Nat) (acs:List aW) (price:Nat):List UInt8×Nat:=Gh L (Et L N acs price).2 (fk (Et L N acs price).1).1
theorem LL (L:List Int) (N:Nat) (raw:List UInt8):(Gh L N raw).1.length≤raw.length∧(Gh L N raw).2≤N + 4:=by
 unfold Gh;(repeat' split) <;> refine⟨?_,?_⟩ <;> dsimp only <;> first | omega | (rw [b₈];omega) | (rw [b₀];omega)
theorem nh {L:List Int} {N:Nat} {acs:List aW} {price:Nat} (h: ∀a∈acs,eX a):(qB L N acs price).1.length≤4096∧(qB L N acs price).2≤N + 24:=by
 have h1:=IY (L:=L) (N:=N) (price:=price) h;have h2:=rH (Et L N acs price).1;have h3:=LL L (Et L N acs price).2 (fk (Et L N acs price).1).1;unfold qB;omega
theorem wP (L:List Int) (N:Nat) (l:fH) (price:Nat) (hN:N < 4000000000000000000) (hl:iQ l) (hp:bl price):aL Tryz.prog G 20 [numP,lgM l, .int .u64 price] (ek L N) 1 (.sl (qB L N l.acs price).1.length (u8s (qB L N l.acs price).1)) (ek L (qB L N l.acs price).2) 1:=by
 have c1:=NR (G:=G) L N l price hN hl hp;have hk:=IY (L:=L) (N:=N) (price:=price) hl.2.2;have c2:=AA (G:=G) (Et L N l.acs price).1 hk.1;have hel:=rH (Et L N l.acs price).1;unfold qB;obtain⟨acs,col⟩:=l;dsimp only at *;generalize Et L N acs price=T at *;obtain⟨t,N1⟩:=T;obtain⟨snd,seq,gas,fee,memo,trs⟩:=t;dsimp only at *;generalize fk ⟨snd,seq,gas,fee,memo,trs⟩=en at *;obtain⟨raw,e⟩:=en;dsimp only at *;unfold nA lgM at *;dsimp only at *;replace hk:=hk.2;have cn1:=fc (G:=G) L N1 12 om om om;generalize hr:Gh L N1 raw=R;obtain⟨Rr,RN⟩:=R;dsimp only;unfold Gh at hr;refine bU seat Tryz.func20 46 ?_;refine ad ?_;refine yc (c1) [(0,0)] ?_;refine ad ?_;refine kX (c2) ?_;by_cases h0:raw.length=0
 ·rw [if_pos h0] at hr;simp only [b₇] at hr;obtain⟨rfl,rfl⟩:=hr;refine ah rfl rfl ?_ rfl ?_ <;> intro h
  ·exact absurd (ot h) om
  refine ad ?_;refine aw ?_;exact en [_]
 rw [if_neg h0] at hr;have cn2:=fc (G:=G) L (N1 + 1) raw.length om om om;have b2:=(di L (N1 + 1) raw.length om).2;have cn3:=fc (G:=G) L (N1 + 1 + 1) 2 om om om;have cn4:=fc (G:=G) L (N1 + 1 + 1 + 1) 256 om om om;rw [show N1 + 2=N1 + 1 + 1 from rfl,show N1 + 3=N1 + 1 + 1 + 1 from rfl,show N1 + 4=N1 + 1 + 1 + 1 + 1 from rfl] at hr;generalize nextN L N1 12=x1 at *;generalize nextN L (N1 + 1) raw.length=x2 at *;generalize nextN L (N1 + 1 + 1) 2=x3 at *;generalize nextN L (N1 + 1 + 1 + 1) 256=x4 at *;refine ah rfl rfl ?_ rfl ?_ <;> intro h
 rotate_left
 ·exact absurd (oF h) om
 refine ad ?_;refine yc (cn1) [(0,0)] ?_;refine ad ?_;by_cases h1:x1=0
 ·rw [if_neg (by simp [h1])] at hr;refine ae rfl ?_ ?_ <;> intro h
  rotate_left
  ·exact absurd h (by simp [h1])
  refine ad ?_;refine yc (cn2) [(0,0)] ?_;refine ad ?_;refine yc (cn3) [(0,0)] ?_;refine ad ?_;by_cases h3:x3=0
  ·rw [if_pos h3] at hr;simp only [b₇] at hr;obtain⟨rfl,rfl⟩:=hr;have fb1:=al.mk (mj (n:=raw.length) (k:=x2) (κ:= .i64) om);have fb3:=bJ.mk (dh raw);refine ae rfl ?_ ?_ <;> intro h
   rotate_left
   ·exact absurd h (by simp [h3])
   have htl:(raw.take x2).length=x2:=by rw [b₈];omega
   rw [htl];have hct:u8s (raw.take x2)=cutL (u8s raw) 0 x2:=by rw [cut_u8];simp
   rw [hct];refine ad ?_;refine aw ?_;exact en [_]
  ·rw [if_neg h3] at hr;simp only [b₇] at hr;obtain⟨rfl,rfl⟩:=hr;refine ae rfl ?_ ?_ <;> intro h
   ·exfalso;have:(x3:Int)=0:=by simpa using h
    omega
   refine ad ?_;refine bc rfl rfl (by intro R hR;refine dZ hR ?_;refine a₃ ((dh raw)) ?_;refine a₃ ⟨rfl,aF (by kernel_rfl) pf⟩ ?_;refine⟨u8s raw,sv (by show [] ++ u8s raw=_;rw [c₂]),raw.length,sv pf,?_⟩;exact hR) rfl ?_;have f1:=al.mk (cB b2);have f2:=al.mk (show bK (u8s raw) (0 + x2)=some (.int .u8 raw[x2].toNat) by rw [bF,a₇];simp [u8s,b2]);have f3:=aX.mk (NN x4);generalize raw[x2] =ob at *;refine ad ?_;refine yc (cn4) [(0,0)] ?_;refine ad ?_;rw [b₀];refine⟨[_],[],[(30,raw.length)],rfl,rfl,?_,rfl,⟨?_,trivial⟩,?_⟩
   ·exact⟨by show raw.length≤(setL (u8s raw) (0 + x2) _).length;rw [setL_eq];simp [u8s],trivial⟩
   ·refine .inr ⟨rfl,rfl,rfl,b₆ (a₇ _),?_⟩
    show cutL (setL (u8s raw) (0 + x2) (Ln (UInt8.ofNat x4))) 0 (0 + raw.length)=u8s (raw.set x2 (UInt8.ofNat x4))
    rw [setL_eq,a₇];have e1:(u8s raw).set x2 (Ln (UInt8.ofNat x4))=u8s (raw.set x2 (UInt8.ofNat x4)):=by unfold u8s;rw [d₆]
    rw [e1,cut_u8,d₂,a₇,Nat.sub_zero,a₆ (by rw [b₀];omega)]
   ·exact mm
 ·rw [if_pos h1] at hr;simp only [b₇] at hr;obtain⟨rfl,rfl⟩:=hr;refine ae rfl ?_ ?_ <;> intro h
  ·exfalso;have:(x1:Int)=0:=by simpa using h
   omega
  refine ad ?_;refine aw ?_;exact en [_]
end
section
variable {G:GS}
attribute [local irreducible] aj aC aG aM aQ vC aY aA
theorem NS {k:Nat} (hk:k < 4): ∃nm:List UInt8,bK [MV.str [97,110,110],MV.str [98,111,98],MV.str [101,118,101],MV.str [122,111,101]] (0 + k)=some (.str nm)∧nm.length≤5:=by
 have h4:k=0∨k=1∨k=2∨k=3:=om;rcases h4 with rfl | rfl | rfl | rfl <;> exact⟨_,rfl,by decide⟩
theorem NT {k:Nat} (hk:k < 5): ∃v:Nat,bK [MV.int .u64 100000,MV.int .u64 5000,MV.int .u64 700,MV.int .u64 0,MV.int .u64 1099511627776] (0 + k)=some (.int .u64 (v:Int))∧bl v:=by
 have h5:k=0∨k=1∨k=2∨k=3∨k=4:=om;rcases h5 with rfl | rfl | rfl | rfl | rfl
 ·exact⟨100000,rfl,by decide⟩
 ·exact⟨5000,rfl,by decide⟩
 ·exact⟨700,rfl,by decide⟩
 ·exact⟨0,rfl,by decide⟩
 ·exact⟨1099511627776,rfl,by decide⟩
theorem IZ {k:Nat} (hk:k < 3): ∃v:Nat,bK [MV.int .u64 5,MV.int .u64 18446744073709551615,MV.int .u64 18446744073709551614] (0 + k)=some (.int .u64 (v:Int))∧bl v:=by
 have h3:k=0∨k=1∨k=2:=om;rcases h3 with rfl | rfl | rfl
 ·exact⟨5,rfl,by decide⟩
 ·exact⟨18446744073709551615,rfl,by decide⟩
 ·exact⟨18446744073709551614,rfl,by decide⟩
theorem NU (L:List Int) (N:Nat) (hN:N < 4000000000000000000):CJ G L 15 [numP] N fun r N'=> ∃acs:List aW,acs.length≤4∧(∀a∈acs,eX a)∧N'≤N + 14∧r= .sl acs.length (acs.map bd):=by
 obtain⟨m,hm,cm⟩:=cQ (G:=G) L N 4 om om om;unfold CJ;refine gR seat Tryz.func15 rfl rfl (a₅ rfl) (a₅ rfl) (N:=36) rfl rfl ?_;refine ad ?_;refine yc (cm) [(0,0)] ?_;refine ad ?_;refine ar (Nat×Nat×List aW) (fun x=> [(4, .int .i64 ((x.1:Int) - 1)),(3, .ms 1 3 0 x.2.2.length),(0,numP)]) (fun x=>ek L x.2.1 ++ [(1,⟨87,3,true,0,x.2.2.map bd⟩)]) 2 (fun x=>x.1 + x.2.2.length≤4∧x.2.1 + 3 * x.1≤N + 14∧(∀a∈x.2.2,eX a)) (fun x=>x.1) (m + 1,N + 1,[]) ⟨by simp;omega,dm,sm⟩ (by dsimp only;exact vm [] []) ?_;rintro⟨j,K,acs⟩ ⟨h1,h2,h3⟩;try dsimp only
 dsimp only at h1 h2 h3;refine ad ?_;refine ae rfl ?_ ?_ <;> intro h
 ·have hj:1≤j:=by have:=ot h;omega
  obtain⟨i,rfl⟩: ∃i,j=i + 1:=⟨j - 1,om⟩
  have hcast:((i + 1:Nat):Int) - 1=(i:Int):=om;rw [hcast];obtain⟨nm,f1,g1⟩:=NS (k:=i) om;obtain⟨x5,hx5,c5⟩:=cQ (G:=G) L K 5 om om om;obtain⟨bal,f2,g2⟩:=NT (k:=x5) hx5;obtain⟨x6,hx6,c6⟩:=cQ (G:=G) L (K + 1) 6 om om om;obtain⟨x3,hx3,c3⟩:=cQ (G:=G) L (K + 1 + 1) 3 om om om;obtain⟨sq,f3,g3⟩:=IZ (k:=x3) hx3;have f1:=al.mk f1;have f2:=al.mk f2;have f3:=al.mk f3;have i1:=al.mk (cB (n:=4) (k:=i) om);have i2:=al.mk (cB hx5);have i3:=al.mk (cB hx3);have hll:(acs.map bd).length=acs.length:=sm;refine ad ?_;refine av [ag 0,ag 1,ag 2,ag 3,ag 4,ag 5,da 6,ag 7,ag 8,ag 9,ag 10,ag 11] ?_;refine ad ?_;refine bB rfl (fun _ h=>h) rfl [0] (c5) [(0,0)] [] ⟨rfl,trivial,rfl,lm,mm⟩ rfl rfl rfl rfl rfl ?_;refine ad ?_;refine yc (c6) [(0,0)] ?_;refine ad ?_;refine ae rfl ?_ ?_ <;> intro h
  ·refine ad ?_;refine yc (c3) [(0,0)] ?_;refine ad ?_;refine bc rfl rfl (by intro R hR;refine dZ hR ?_;(refine a₃ (b₂ _) ?_;refine⟨_,rfl,?_⟩;refine a₃ ⟨hll,aF (by kernel_rfl) pf⟩ ?_;refine⟨(acs ++ [(⟨nm,bal,sq⟩:aW)]).map bd,sv (by rw [b₄];rfl),acs.length + 1,sv pf,?_⟩);exact hR) rfl ?_;refine ad ?_;exact⟨(i,K + 1 + 1 + 1,acs ++ [⟨nm,bal,sq⟩]),⟨by dsimp only;rw [a₁,a₂];omega,dm,fj h3 fun a ha=>by rw [a₄.1 ha];exact⟨dm,g2,g3⟩⟩,dm,(by dsimp only;rw [a₁,a₂];exact(vm [(1,_)] []))⟩
  ·refine ad ?_;refine bc rfl rfl (by intro R hR;refine dZ hR ?_;(refine a₃ (b₂ _) ?_;refine⟨_,rfl,?_⟩;refine a₃ ⟨hll,aF (by kernel_rfl) pf⟩ ?_;refine⟨(acs ++ [(⟨nm,bal,0⟩:aW)]).map bd,sv (by rw [b₄];rfl),acs.length + 1,sv pf,?_⟩);exact hR) rfl ?_;refine ad ?_;exact⟨(i,K + 1 + 1,acs ++ [⟨nm,bal,0⟩]),⟨by dsimp only;rw [a₁,a₂];omega,dm,fj h3 fun a ha=>by rw [a₄.1 ha];exact⟨dm,g2,by simp [bl]⟩⟩,dm,(by dsimp only;rw [a₁,a₂];exact(vm [(1,_)] []))⟩
 ·refine ad ?_;refine⟨_,_,_,⟨K,⟨⟨acs,om,h3,om,rfl⟩,rfl⟩,rfl,rfl⟩,?_⟩;refine⟨[_],[],[(1,acs.length)],rfl,rfl,?_,rfl,⟨?_,trivial⟩,?_⟩
  ·exact⟨by show acs.length≤(acs.map bd).length;simp,trivial⟩
  ·exact .inr ⟨rfl,rfl,rfl,b₆ (a₇ _),bV bd acs⟩
  ·exact mm
structure nD where
 maxTxs:Int
 maxBytes:Int
 maxTx:Int
 cache:Int
 ttlB:Int
 ttlT:Int
 keep:Bool
 blkB:Int
 blkG:Int
 price:Nat
 self:Int
 nodes:Int
abbrev cfM (c:nD):MV:= .st [.int .i64 c.maxTxs, .int .i64 c.maxBytes, .int .i64 c.maxTx, .int .i64 c.cache, .int .i64 c.ttlB, .int .i64 c.ttlT, .bool c.keep, .int .i64 c.blkB, .int .i64 c.blkG, .int .u64 c.price, .int .i64 c.self, .int .i64 c.nodes]
structure qC (c:nD):Prop where
 maxTxs:1≤c.maxTxs∧c.maxTxs≤512
 maxBytes:1≤c.maxBytes∧c.maxBytes≤1048576
 maxTx:1≤c.maxTx∧c.maxTx≤4096
 cache:0≤c.cache∧c.cache≤1024
 ttlB:0≤c.ttlB∧c.ttlB≤1073741824
 ttlT:0≤c.ttlT∧c.ttlT≤1073741824
 blkB:1≤c.blkB∧c.blkB≤1048576
 blkG: -1≤c.blkG∧c.blkG≤1125899906842624
 price:bl c.price
 self:0≤c.self∧c.self < c.nodes
 nodes:c.nodes≤8
abbrev Pd:MV:= .st [.int .i64 0, .int .i64 0, .int .i64 0, .int .i64 0, .int .i64 0, .int .i64 0, .bool false, .int .i64 0, .int .i64 0, .int .u64 0, .int .i64 0, .int .i64 0]
theorem I0 (L:List Int) (N:Nat) (hN:N < 4000000000000000000):CJ G L 14 [numP] N fun r N'=> ∃c:nD,qC c∧N'≤N + 14∧r=cfM c:=by
 obtain⟨x0,b0,c0⟩:=cQ (G:=G) L (N) 7 om om om;obtain⟨x1,b1,c1⟩:=cQ (G:=G) L (N + 1) 400 om om om;obtain⟨x2,b2,c2⟩:=cQ (G:=G) L (N + 1 + 1) 140 om om om;obtain⟨x3,b3,c3⟩:=cQ (G:=G) L (N + 1 + 1 + 1) 12 om om om;obtain⟨x4,b4,c4⟩:=cQ (G:=G) L (N + 1 + 1 + 1 + 1) 4 om om om;obtain⟨x5,b5,c5⟩:=cQ (G:=G) L (N + 1 + 1 + 1 + 1 + 1) 3 om om om;obtain⟨x6,b6,c6⟩:=cQ (G:=G) L (N + 1 + 1 + 1 + 1 + 1 + 1) 20 om om om;obtain⟨x7,b7,c7⟩:=cQ (G:=G) L (N + 1 + 1 + 1 + 1 + 1 + 1 + 1) 3 om om om;obtain⟨x8,b8,c8⟩:=cQ (G:=G) L (N + 1 + 1 + 1 + 1 + 1 + 1 + 1 + 1) 400 om om om;obtain⟨x9,b9,c9⟩:=cQ (G:=G) L (N + 1 + 1 + 1 + 1 + 1 + 1 + 1 + 1 + 1) 3 om om om;obtain⟨x10,b10,c10⟩:=cQ (G:=G) L (N + 1 + 1 + 1 + 1 + 1 + 1 + 1 + 1 + 1 + 1) 3 om om om;have hm:0≤(x5:Int) * x6∧(x5:Int) * x6 < 60:=by
  have e:x5=0∨x5=1∨x5=2:=om;rcases e with rfl | rfl | rfl <;> simp <;> omega
 generalize hM:(x5:Int) * x6=M at *;have em:=aX.mk (show IntKind.i64.wrap ((x5:Int) * x6)=M by rw [hM];exact eM _ om om);unfold CJ;refine gR seat Tryz.func14 rfl rfl (a₅ rfl) (a₅ rfl) (N:=47) rfl rfl ?_;refine ad ?_;refine yc (c0) [(0,0)] ?_;refine ad ?_;refine yc (c1) [(0,0)] ?_;refine ad ?_;refine yc (c2) [(0,0)] ?_;refine Ab ([(11, .int .i64 x2),(9, .int .i64 (250 + (x1:Int))),(6, .int .i64 (1 + (x0:Int))),(2, .ptr 1 12 0 0 []),(0,numP)]) (ek L (N + 1 + 1 + 1) ++ [(1,⟨24,12,false,0,[Pd]⟩)]) [] trivial rfl mm mm ?_;refine ad ?_;refine yc (c3) [(0,0)] ?_;refine ad ?_;refine yc (c4) [(0,0)] ?_;refine ad ?_;refine yc (c5) [(0,0)] ?_;refine Ab ([(18, .int .i64 x5),(16, .int .i64 x4),(14, .int .i64 x3),(12, .int .i64 (60 + (x2:Int))),(9, .int .i64 (250 + (x1:Int))),(6, .int .i64 (1 + (x0:Int))),(2, .ptr 1 12 0 0 []),(0,numP)]) (ek L (N + 1 + 1 + 1 + 1 + 1 + 1) ++ [(1,⟨24,12,false,0,[Pd]⟩)]) [] trivial rfl mm mm ?_;refine ad ?_;refine yc (c6) [(0,0)] ?_;refine ad ?_;refine yc (c7) [(0,0)] ?_;refine ad ?_;refine yc (c8) [(0,0)] ?_;refine Ab ([(26, .int .i64 x8),(24, .bool ((x7:Int) == 0)),(21, .int .i64 M),(16, .int .i64 x4),(14, .int .i64 x3),(12, .int .i64 (60 + (x2:Int))),(9, .int .i64 (250 + (x1:Int))),(6, .int .i64 (1 + (x0:Int))),(2, .ptr 1 12 0 0 []),(0,numP)]) (ek L (N + 1 + 1 + 1 + 1 + 1 + 1 + 1 + 1 + 1) ++ [(1,⟨24,12,false,0,[Pd]⟩)]) [] trivial rfl mm mm ?_;refine ad ?_;refine yc (c9) [(0,0)] ?_;refine ad ?_;refine yc (c10) [(0,0)] ?_;refine ad ?_;refine Cs (Nat×Int) (fun x=> [(0,numP),(2, .ptr 1 12 0 0 []),(3, .ptr 2 12 0 0 [])]) (fun x=>ek L x.1 ++ [(1,⟨24,12,false,0,[Pd]⟩),(2,⟨24,12,false,0,[.st [.int .i64 (1 + (x0:Int)), .int .i64 (250 + (x1:Int)), .int .i64 (60 + (x2:Int)), .int .i64 x3, .int .i64 x4, .int .i64 M, .bool ((x7:Int) == 0), .int .i64 (100 + (x8:Int)), .int .i64 x.2, .int .u64 x9, .int .i64 0, .int .i64 1]]⟩)]) (fun _=>3) (fun x=>x.1≤N + 12∧ -1≤x.2∧x.2≤2000) (fun JQ hj=>?_) (fun x hx=>?_)
 ·refine ae rfl ?_ ?_ <;> intro h
  ·obtain⟨y,hy,cy⟩:=cQ (G:=G) L (N + 1 + 1 + 1 + 1 + 1 + 1 + 1 + 1 + 1 + 1 + 1) 900 om om om;refine ad ?_;refine yc (cy) [(0,0)] ?_;refine ad ?_;exact hj.nrm (N + 1 + 1 + 1 + 1 + 1 + 1 + 1 + 1 + 1 + 1 + 1 + 1,200 + (y:Int)) ⟨dm,dm,dm⟩ (by dsimp only;exact(vm [(1,_),(2,_)] []))
  ·refine ad ?_;exact hj.nrm (N + 1 + 1 + 1 + 1 + 1 + 1 + 1 + 1 + 1 + 1 + 1, -1) ⟨dm,dm,dm⟩ (by dsimp only;exact(vm [(1,_),(2,_)] []))
 ·obtain⟨K,g⟩:=x;dsimp only at hx;obtain⟨hK,hg1,hg2⟩:=hx;obtain⟨z,hz,cz⟩:=cQ (G:=G) L K 6 om om om;obtain⟨w,hw,cw⟩:=cQ (G:=G) L (K + 1) 40 om om om;try dsimp only
  refine ad ?_;refine yc (cz) [(0,0)] ?_;refine ad ?_;refine ae rfl ?_ ?_ <;> intro h
  ·refine ad ?_;refine yc (cw) [(0,0)] ?_;refine ad ?_;refine aw ?_;exact⟨_,_,_,⟨_,⟨⟨⟨1 + (x0:Int),250 + (x1:Int),40 + (w:Int),x3,x4,M,(x7:Int) == 0,100 + (x8:Int),g,x9,0,1⟩,⟨dm,dm,dm,dm,dm,dm,dm,dm,by unfold bl;dsimp only;omega,dm,dm⟩,(by show K + 1 + 1≤_;omega),rfl⟩,rfl⟩,rfl,rfl⟩,en [_]⟩
  ·refine ad ?_;refine aw ?_;exact⟨_,_,_,⟨_,⟨⟨⟨1 + (x0:Int),250 + (x1:Int),60 + (x2:Int),x3,x4,M,(x7:Int) == 0,100 + (x8:Int),g,x9,0,1⟩,⟨dm,dm,dm,dm,dm,dm,dm,dm,by unfold bl;dsimp only;omega,dm,dm⟩,(by show K + 1≤_;omega),rfl⟩,rfl⟩,rfl,rfl⟩,en [_]⟩
end
section
variable {G:GS}
attribute [local irreducible] aj aC aG aM aQ vC aY aA
structure Pe (B:Nat) (e:Ent):Prop where
 key:e.key.length=32
 raw:e.raw.length≤4096
 sender:e.sender.length≤5000
 height:0≤e.height∧e.height < 4611686018427387904
 time:0≤e.time∧e.time < 4611686018427387904
 peers:e.peers.length≤B
 gas:0≤e.gas∧e.gas < 18446744073709551616
def jF (k:List UInt8) (l:List Ent):Int:=posK k (l.map (·.key)) 0
theorem NV (l:List Ent) (key:List UInt8) (hl:l.length≤1000000) (hk32:key.length=32) (hs: ∀e∈l,e.key.length=32):aD Tryz.prog G 28 [.sl l.length (l.map au),keyM key] (.int .i64 (jF key l)):=by
 generalize hr:jF key l=R;unfold jF at hr;refine bf seat Tryz.func28 20 ?_;refine ad ?_;refine ar Nat (fun k=> [(9, .int .i64 k),(8, .int .i64 l.length),(7, .sl l.length (l.map au)),(3, .ptr 0 32 0 0 [])]) (fun _=> [(0,⟨55,32,false,0,[keyM key]⟩)]) 1 (fun k=>k≤l.length∧posK key ((l.drop k).map (·.key)) k=R) (fun k=>l.length - k) 0 ⟨c₅ _,by rw [d₂];exact hr⟩ (vm [(0,_)] []) ?_;rintro k ⟨hk,hR⟩;try dsimp only
 refine ad ?_;refine ae rfl ?_ ?_ <;> intro h
 ·have hk':k < l.length:=by have:=ot h;omega
  have hel:=dS hk';have h32:=hs _ (b₉ hk');rw [List.drop_eq_getElem_cons hk',b₁,posK] at hR;generalize l[k] =a at *;have hel:=al.mk hel;have q1:=al.mk (qy (a:=a.key) (b:=key) (by rw [h32,hk32]));have s1:=bJ.mk (ig a.key key);by_cases he:a.key=key
  ·rw [if_pos he] at hR;rw [decide_eq_true he] at q1;subst hR;refine ad ?_;refine aw ?_;rfl
  ·rw [if_neg he] at hR;rw [decide_eq_false he] at q1;refine ad ?_;exact⟨k + 1,⟨by show k + 1≤l.length;omega,hR⟩,by show l.length - (k + 1) < l.length - k;omega,(by dsimp only;exact(vm [(0,_)] []))⟩
 ·have hk':k=l.length:=by have:=oF h;omega
  subst hk';rw [e₀,List.map_nil,posK] at hR;subst hR;refine ad ?_;refine aw ?_;rfl
theorem pF (k:List UInt8) (l:List Ent):jF k l= -1∨∃j:Nat,jF k l=(j:Int)∧j < l.length:=by
 rcases ku k (l.map (·.key)) 0 with h | ⟨j,h,hj⟩
 ·exact .inl h
 ·exact .inr ⟨j,by unfold jF;rw [h,a₇],by simpa using hj⟩
structure cL where
 cfg:nD
 app:nC
 height:Int
 time:Int
 arr:Int
 ents:List Ent
 cache:List (List UInt8)
abbrev dq (s:cL):MV:= .st [cfM s.cfg,appM s.app, .int .i64 s.height, .int .i64 s.time, .int .i64 s.arr, .sl s.ents.length (s.ents.map au), .sl s.cache.length (s.cache.map keyM)]
class Fx where
 P:nD→fH→fH→Bool→Nat→Prop
structure kv (F:Fx) (B:Nat) (s:cL):Prop where
 cfg:qC s.cfg
 app:gz s.app
 height:0≤s.height∧s.height≤1000000000000
 time:0≤s.time∧s.time≤100 * B
 arr:0≤s.arr∧s.arr≤B
 ents:s.ents.length≤B
 entk: ∀e∈s.ents,Pe B e
 cache:s.cache.length≤1024
 ck:eF s.cache
 fx:F.P s.cfg s.app.com s.app.nxt s.app.opn s.app.price
abbrev dU [FX:Fx] (B:Nat) (s:cL):Prop:=kv FX B s
def bm (s:cL) (k:List UInt8):cL:={ s with cache:=gL k s.cache s.cfg.cache }
def eJ (s:cL) (k:List UInt8):cL:={ s with cache:=gD k s.cache }
def dw (s:cL) (k:List UInt8):cL:=if s.cfg.keep=true then s else eJ s k
def dC (s:cL) (k:List UInt8):cL×Bool:=if jF k s.ents < 0 then(s,false) else({ s with ents:=s.ents.take (jF k s.ents).toNat ++ s.ents.drop ((jF k s.ents).toNat + 1) },true)
theorem qD [FX:Fx] {B:Nat} {s:cL} {k:List UInt8} (h:dU B s) (hk:k.length=32):dU B (bm s k):=by
 have:=IM (size:=s.cfg.cache) hk h.ck;exact⟨h.cfg,h.app,h.height,h.time,h.arr,h.ents,h.entk,by have:=this.2;have:=h.cache;show(gL k s.cache s.cfg.cache).length≤_;omega,this.1,h.fx⟩
theorem kx [FX:Fx] {B:Nat} {s:cL} {k:List UInt8} (h:dU B s):dU B (eJ s k):=by
 have:=IL (k:=k) h.ck;exact⟨h.cfg,h.app,h.height,h.time,h.arr,h.ents,h.entk,by have:=this.2;have:=h.cache;show(gD k s.cache).length≤_;omega,this.1,h.fx⟩
theorem mD [FX:Fx] {B:Nat} {s:cL} {k:List UInt8} (h:dU B s):dU B (dw s k):=by
 unfold dw;split
 ·exact h
 ·exact kx h
theorem uu [FX:Fx] {B:Nat} {s:cL} {k:List UInt8} (h:dU B s):dU B (dC s k).1:=by
 unfold dC;split
 ·exact h
 ·refine⟨h.cfg,h.app,h.height,h.time,h.arr,?_,fun e he=>?_,h.cache,h.ck,h.fx⟩
  ·have:=h.ents;dsimp only;rw [a₁,b₈,c₉];rcases pF k s.ents with h0 | ⟨j,hj,hlt⟩
   ·omega
   ·rw [hj,c₆];omega
  ·exact(c₃.1 he).elim (fun he=>h.entk e (d₄ he)) (fun he=>h.entk e (List.mem_of_mem_drop he))
theorem I1 [FX:Fx] {B:Nat} (s:cL) (k:List UInt8) (h:dU B s) (hk:k.length=32):aD Tryz.prog G 59 [dq s,keyM k] (dq (bm s k)):=by
 obtain⟨⟨f1,f2,f3,f4,f5,f6,keep,f8,f9,f10,f11,f12⟩,⟨⟨a1,a2⟩,⟨a3,a4⟩,⟨a5,a6⟩,a7,a8⟩,height,time,arr,ents,cache⟩:=s;have h1:cache.length≤1024:=h.cache;have h2:0≤f4∧f4≤1024:=h.cfg.cache;have c1:=NL (G:=G) cache f4 k om (by unfold CH;omega) hk h.ck
 show aD _ _ _ _ (dq ⟨⟨f1,f2,f3,f4,f5,f6,keep,f8,f9,f10,f11,f12⟩,⟨⟨a1,a2⟩,⟨a3,a4⟩,⟨a5,a6⟩,a7,a8⟩,height,time,arr,ents,gL k cache f4⟩)
 generalize gL k cache f4=nc at *;clear h;dsimp only [dq,cfM,appM,lgM];try generalize a1.map bd=b1 at *
 try generalize a1.length=d1 at *
 try generalize a3.map bd=b3 at *
 try generalize a3.length=d3 at *
 try generalize a5.map bd=b5 at *
 try generalize a5.length=d5 at *
 refine bf seat Tryz.func59 17 ?_;refine ad ?_;refine kX (c1) ?_;(refine wC [_] rfl (by kernel_rfl) ?_;(refine aw ?_);exact rfl)
theorem uw [FX:Fx] {B:Nat} (s:cL) (k:List UInt8) (h:dU B s) (hk:k.length=32):aD Tryz.prog G 64 [dq s,keyM k] (dq (eJ s k)):=by
 obtain⟨⟨f1,f2,f3,f4,f5,f6,keep,f8,f9,f10,f11,f12⟩,⟨⟨a1,a2⟩,⟨a3,a4⟩,⟨a5,a6⟩,a7,a8⟩,height,time,arr,ents,cache⟩:=s;have h1:cache.length≤1024:=h.cache;have c1:=NK (G:=G) cache k om hk h.ck
 show aD _ _ _ _ (dq ⟨⟨f1,f2,f3,f4,f5,f6,keep,f8,f9,f10,f11,f12⟩,⟨⟨a1,a2⟩,⟨a3,a4⟩,⟨a5,a6⟩,a7,a8⟩,height,time,arr,ents,gD k cache⟩)
 generalize gD k cache=nc at *;clear h;dsimp only [dq,cfM,appM,lgM];try generalize a1.map bd=b1 at *
 try generalize a1.length=d1 at *
 try generalize a3.map bd=b3 at *
 try generalize a3.length=d3 at *
 try generalize a5.map bd=b5 at *
 try generalize a5.length=d5 at *
 refine bf seat Tryz.func64 14 ?_;refine ad ?_;refine kX (c1) ?_;(refine wC [_] rfl (by kernel_rfl) ?_;(refine aw ?_);exact rfl)
theorem CM [FX:Fx] {B:Nat} (s:cL) (k:List UInt8) (h:dU B s) (hk:k.length=32):aD Tryz.prog G 61 [dq s,keyM k] (dq (dw s k)):=by
 have c1:=uw (G:=G) s k h hk;obtain⟨⟨f1,f2,f3,f4,f5,f6,keep,f8,f9,f10,f11,f12⟩,⟨⟨a1,a2⟩,⟨a3,a4⟩,⟨a5,a6⟩,a7,a8⟩,height,time,arr,ents,cache⟩:=s;cases keep with
 | true=>
  show aD _ _ _ _ (dq ⟨⟨f1,f2,f3,f4,f5,f6,true,f8,f9,f10,f11,f12⟩,⟨⟨a1,a2⟩,⟨a3,a4⟩,⟨a5,a6⟩,a7,a8⟩,height,time,arr,ents,cache⟩)
  clear c1 h;dsimp only [dq,cfM,appM,lgM];try generalize a1.map bd=b1 at *
  try generalize a1.length=d1 at *
  try generalize a3.map bd=b3 at *
  try generalize a3.length=d3 at *
  try generalize a5.map bd=b5 at *
  try generalize a5.length=d5 at *
  refine bf seat Tryz.func61 12 ?_;refine ad ?_;(refine wC [_] rfl (by kernel_rfl) ?_;(refine aw ?_);exact rfl)
 | false=>
  show aD _ _ _ _ (dq ⟨⟨f1,f2,f3,f4,f5,f6,false,f8,f9,f10,f11,f12⟩,⟨⟨a1,a2⟩,⟨a3,a4⟩,⟨a5,a6⟩,a7,a8⟩,height,time,arr,ents,gD k cache⟩)
  change aD _ _ _ _ (dq ⟨⟨f1,f2,f3,f4,f5,f6,false,f8,f9,f10,f11,f12⟩,⟨⟨a1,a2⟩,⟨a3,a4⟩,⟨a5,a6⟩,a7,a8⟩,height,time,arr,ents,gD k cache⟩) at c1;generalize gD k cache=nc at *;clear h;dsimp only [dq,cfM,appM,lgM] at c1;dsimp only [dq,cfM,appM,lgM];try generalize a1.map bd=b1 at *
  try generalize a1.length=d1 at *
  try generalize a3.map bd=b3 at *
  try generalize a3.length=d3 at *
  try generalize a5.map bd=b5 at *
  try generalize a5.length=d5 at *
  refine bf seat Tryz.func61 12 ?_;refine ad ?_;refine bL (c1) ?_;(refine wC [_] rfl (by kernel_rfl) ?_;(refine aw ?_);exact rfl)
theorem Gi [FX:Fx] {B:Nat} (s:cL) (k:List UInt8) (h:dU B s) (hB:B≤100000) (hk:k.length=32):aD Tryz.prog G 65 [dq s,keyM k] (.tup [dq (dC s k).1, .bool (dC s k).2]):=by
 have hls:=h.ents;have hek:=h.entk;clear h;unfold dC;obtain⟨⟨f1,f2,f3,f4,f5,f6,keep,f8,f9,f10,f11,f12⟩,⟨⟨a1,a2⟩,⟨a3,a4⟩,⟨a5,a6⟩,a7,a8⟩,height,time,arr,ents,cache⟩:=s;change ents.length≤B at hls;have c1:=NV (G:=G) ents k om hk (fun e he=>(hek e he).key);clear hek;dsimp only;rcases pF k ents with h0 | ⟨j,hj,hlt⟩
 ·rw [h0] at c1 ⊢;rw [if_pos om];dsimp only [dq,cfM,appM,lgM];try generalize a1.map bd=b1 at *
  try generalize a1.length=d1 at *
  try generalize a3.map bd=b3 at *
  try generalize a3.length=d3 at *
  try generalize a5.map bd=b5 at *
  try generalize a5.length=d5 at *
  refine bf seat Tryz.func65 20 ?_;refine ad ?_;refine bL (c1) ?_;(refine wC [_,_] rfl (by kernel_rfl) ?_;(refine aw ?_);exact rfl)
 ·rw [hj] at c1 ⊢;rw [if_neg om,c₆];have c2:=Gf (G:=G) ents j hlt om;generalize ents.take j ++ ents.drop (j + 1)=ne at *;dsimp only [dq,cfM,appM,lgM];try generalize a1.map bd=b1 at *
  try generalize a1.length=d1 at *
  try generalize a3.map bd=b3 at *
  try generalize a3.length=d3 at *
  try generalize a5.map bd=b5 at *
  try generalize a5.length=d5 at *
  refine bf seat Tryz.func65 20 ?_;refine ad ?_;refine bL (c1) ?_;refine kX (c2) ?_;(refine wC [_,_] rfl (by kernel_rfl) ?_;(refine aw ?_);exact rfl)
def dt (n:Int):Bool:=decide (1≤n∧n≤15)
theorem AO (n:Int):aD Tryz.prog G 67 [.int .i64 n] (.bool (dt n)):=by
 generalize hr:dt n=R;unfold dt at hr;refine bf seat Tryz.func67 9 ?_;refine ad ?_;refine ah rfl rfl ?_ rfl ?_ <;> intro h
 ·have k1:=ot h;refine ad ?_;refine aw ?_;rw [← hr];exact congrArg MV.bool (decide_eq_decide.2 om)
 ·have k1:=oF h;refine ad ?_;refine aw ?_;rw [← hr];exact congrArg MV.bool (decide_eq_false om).symm
def qE (s:cL) (gas:Nat):Bool:=decide (0≤s.cfg.blkG∧s.cfg.blkG < gas)
theorem LM [FX:Fx] {B:Nat} (s:cL) (gas:Nat) (h:dU B s):aD Tryz.prog G 62 [dq s, .int .u64 gas] (.bool (qE s gas)):=by
 have hg:=h.cfg.blkG;clear h;generalize hr:qE s gas=R;obtain⟨⟨f1,f2,f3,f4,f5,f6,keep,f8,f9,f10,f11,f12⟩,⟨⟨a1,a2⟩,⟨a3,a4⟩,⟨a5,a6⟩,a7,a8⟩,height,time,arr,ents,cache⟩:=s;change decide (0≤f9∧f9 < gas)=R at hr;change -1≤f9∧f9≤1125899906842624 at hg;have hw:0≤f9→aX (IntKind.u64.wrap f9) f9:=fun h0=>aX.mk (bu _ om om)
 dsimp only [dq,cfM,appM,lgM];try generalize a1.map bd=b1 at *
 try generalize a1.length=d1 at *
 try generalize a3.map bd=b3 at *
 try generalize a3.length=d3 at *
 try generalize a5.map bd=b5 at *
 try generalize a5.length=d5 at *
 refine bf seat Tryz.func62 17 ?_;refine ad ?_;refine ah rfl rfl ?_ rfl ?_ <;> intro h
 ·have k1:=ot h;have hw:=hw k1;refine ad ?_;refine aw ?_;rw [← hr];exact congrArg MV.bool (decide_eq_decide.2 om)
 ·have k1:=oF h;refine ad ?_;refine aw ?_;rw [← hr];exact congrArg MV.bool (decide_eq_false om).symm
end
section
mutual
theorem I2: ∀{v:MV},FR v=true→v.idFree=true
 | .int _ _,_=>rfl
 | .bool _,_=>rfl
 | .str _,_=>rfl
 | .nilp,_=>rfl
 | .arr ..,_=>rfl
 | .sl ..,_=>rfl
 | .st l,h=>ni (v:=l) h
 | .nils,h=>a₀ h
 | .nilf,h=>a₀ h
 | .nili,h=>a₀ h
 | .ptr ..,h=>a₀ h
 | .gp ..,h=>a₀ h
 | .ep ..,h=>a₀ h
 | .ms ..,h=>a₀ h
 | .fn ..,h=>a₀ h
 | .ifc ..,h=>a₀ h
 | .tup _,h=>a₀ h
 | .undef,h=>a₀ h
theorem ni: ∀{v:List MV},rD v=true→MV.idFrees v=true
 | [],_=>rfl
 | m :: l,h=>by
  unfold rD at h
  cases hm:FR m with
  | false=>rw [hm] at h;exact a₀ h
  | true=>
   rw [hm] at h
   unfold MV.idFrees
   rw [I2 hm,ni h]
   rfl
end
theorem ux: ∀{v:MV},v.idFree=true→dR v=true
 | .tup _,h=>a₀ h
 | .undef,_=>rfl
 | .int _ _,_=>rfl
 | .bool _,_=>rfl
 | .str _,_=>rfl
 | .nilp,_=>rfl
 | .arr ..,_=>rfl
 | .sl ..,_=>rfl
 | .st l,h=>h
 | .nils,_=>rfl
 | .nilf,_=>rfl
 | .nili,_=>rfl
 | .ptr ..,h=>a₀ h
 | .gp ..,h=>h
 | .ep ..,h=>h
 | .ms ..,h=>a₀ h
 | .fn ..,h=>h
 | .ifc ..,h=>h
theorem rI: ∀{v:List MV},MV.idFrees v=true→qp v=true
 | [],_=>rfl
 | m :: l,h=>by
  unfold MV.idFrees at h
  rw [c₀] at h
  unfold qp
  rw [ux h.1,rI h.2]
  rfl
theorem wQ: ∀{vs:List MV},MV.idFrees vs=true→dR (kV vs)=true
 | [],_=>rfl
 | [v],h=>by
  have h2:(v.idFree && MV.idFrees [])=true:=h
  rw [c₀] at h2
  exact ux h2.1
 | a :: b :: l,h=>rI h
mutual
def P6:MV→MV
 | .nils=> .sl 0 []
 | .st l=> .st (AP l)
 | m=>m
def AP:List MV→List MV
 | [] => []
 | m :: l=>P6 m :: AP l
end
mutual
def NW:MV→Bool
 | .nils=>true
 | .st l=>AQ l
 | m=>FR m
def AQ:List MV→Bool
 | [] =>true
 | m :: l=>bif NW m then AQ l else false
end
mutual
theorem NX {σ:Nat→Option Nat} {fz:Fz}: ∀{v:MV},NW v=true→cU σ fz (P6 v) v∧(P6 v).idFree=true
 | .nils,_=>⟨.inr ⟨rfl,rfl⟩,rfl⟩
 | .st l,h=>⟨.inr ⟨_,rfl,(sn (v:=l) h).1⟩,(sn (σ:=σ) (fz:=fz) (v:=l) h).2⟩
 | .int _ _,_=>⟨gU _ rfl,rfl⟩
 | .bool _,_=>⟨gU _ rfl,rfl⟩
 | .str _,_=>⟨gU _ rfl,rfl⟩
 | .nilp,_=>⟨gU _ rfl,rfl⟩
 | .arr ..,_=>⟨gU _ rfl,rfl⟩
 | .sl ..,_=>⟨gU _ rfl,rfl⟩
 | .nilf,h=>a₀ h
 | .nili,h=>a₀ h
 | .ptr ..,h=>a₀ h
 | .gp ..,h=>a₀ h
 | .ep ..,h=>a₀ h
 | .ms ..,h=>a₀ h
 | .fn ..,h=>a₀ h
 | .ifc ..,h=>a₀ h
 | .tup _,h=>a₀ h
 | .undef,h=>a₀ h
theorem sn {σ:Nat→Option Nat} {fz:Fz}: ∀{v:List MV},AQ v=true→cU.relVs σ fz (AP v) v∧MV.idFrees (AP v)=true
 | [],_=>⟨trivial,rfl⟩
 | m :: l,h=>by
  unfold AQ at h
  cases hm:NW m with
  | false=>rw [hm] at h;exact a₀ h
  | true=>
   rw [hm] at h
   have h1:=NX (σ:=σ) (fz:=fz) hm
   have h2:=sn (σ:=σ) (fz:=fz) (v:=l) h
   refine⟨⟨h1.1,h2.1⟩,?_⟩
   unfold AP MV.idFrees
   rw [h1.2,h2.2]
   rfl
end
section
variable {T:bh} {rs:List ResultVar} {M:VM} {E:VE} {n:Nat}
theorem Eu {P:MV→Prop} (vs:List MV) (hP:P (kV vs)) (hc:rD vs=true) (h1:dW T M E rs (fun v=>v=vs)):DY T 0 rs (fun r M n=>(P r∧dR r=true)∧M= [] ∧n=0) .ret E M n:=
 gS (fun v hv=>by subst hv;exact⟨kV v,[],0,⟨⟨hP,wQ (ni hc)⟩,rfl,rfl⟩,v,[],[],rfl,rfl,trivial,rfl,dI v (ni hc),trivial⟩) h1
theorem rJ {P:MV→Prop} (vs:List MV) (h1:dW T M E rs (fun v=>v=vs)) (hc:AQ vs=true) (hP:P (kV (AP vs))):DY T 0 rs (fun r M n=>(P r∧dR r=true)∧M= [] ∧n=0) .ret E M n:=
 gS (fun v hv=>by
  subst hv;have k:=sn (σ:=cA 0 []) (fz:=kP M []) hc;exact⟨kV (AP v),[],0,⟨⟨hP,wQ k.2⟩,rfl,rfl⟩,AP v,[],[],rfl,rfl,trivial,rfl,k.1,trivial⟩) h1
end
section
variable {Pg:Program} {T:bh} {N:Nat} {ents:List FuncId} {G:GS} {ops:Array Oper} {d:Tmp} {ty:TypeId} {pos:String} {after:Array Edge} {g:Option (Nat×Bool)} {rest:List Oper} {K:VK} {E:VE} {M:VM} {n:Nat}
 {f:Operand} {args:Array Operand} {ats:Array TypeId} {f0:FuncId} {vs:List MV} {res:MV}
theorem cH (hc:aL Pg G f0 vs [] 0 res [] 0) (hd:Nat.blt d N=true) (h2:ents.contains f0=true) (h1: ∀R:FuncId×List MV→Prop,R (f0,vs)→(dG E f args.toList).runP R) (hf:(dR res && MV.idFrees vs)=true)
  (h:aj Pg T N ents G ops rest K ((d,res) :: E) M n):aC Pg T N ents G ops ⟨some d, .call ⟨.value f,args,ats⟩,ty,pos,after,g⟩ rest K E M n:=by
 rw [c₀] at hf
 exact sj hd h1 h2 hc hf.1 (dI vs hf.2) h
theorem uy {P:MV→Prop} (hc:CI Pg G f0 vs P) (hd:Nat.blt d N=true) (h2:ents.contains f0=true) (h1: ∀R:FuncId×List MV→Prop,R (f0,vs)→(dG E f args.toList).runP R) (hf:MV.idFrees vs=true)
  (h: ∀r,P r→aj Pg T N ents G ops rest K ((d,r) :: E) M n):aC Pg T N ents G ops ⟨some d, .call ⟨.value f,args,ats⟩,ty,pos,after,g⟩ rest K E M n:=
 IG hd h1 h2 hc [] trivial (dI vs hf) h
variable {n0 n':Nat} {y:Code} {Q:Exit→VK}
theorem iW (E':VE) (M':VM) (n':Nat) (hm:iL n0 E' M' n' E M) (h:vC Pg T N ents G n0 y Q E' M' n'):aj Pg T N ents G ops [] (aY Pg T N ents G n0 y Q .normal) E M n:=Rs.re _ _ _ hm h
end
theorem BI {p q:Prop} (h:q) (s:Hm q→p:=by intro hq;(repeat(first | ((with_reducible apply tP);exact rfl;exact rfl;exact rfl;exact rfl;kernel_rfl) | ((with_reducible apply o9);exact rfl;exact rfl;exact rfl;exact Nat.zero_le _;exact rfl;exact rfl;kernel_rfl) | ((with_reducible apply Ah);exact rfl;exact rfl;kernel_rfl) | ((with_reducible apply pg);exact rfl;exact rfl;kernel_rfl) | ((with_reducible apply wA);exact rfl;exact jR) | ((with_reducible apply tJ)) | ((with_reducible apply Aa)) | ((with_reducible apply tE)) | ((with_reducible apply tQ);exact rfl;exact rfl;exact rfl;exact rfl;exact rfl;kernel_rfl) | ((with_reducible apply pa);exact rfl;exact rfl;exact rfl;exact rfl;exact Nat.zero_le _;exact rfl;exact rfl;kernel_rfl) | ((with_reducible apply wB);exact rfl;exact rfl;exact jR) | ((with_reducible apply Ac);(exact(show gw _ _ _=true by kernel_rfl))) | ((with_reducible apply qn);exact rfl;exact jR) | ((with_reducible apply tH);exact rfl;exact jR) | ((with_reducible apply tI);exact rfl;exact rfl;exact rfl;exact jR) | ((with_reducible apply l7);exact rfl;exact rfl;exact rfl) | ((with_reducible apply l8);exact rfl;exact rfl;exact rfl) | ((with_reducible apply tG);exact rfl;exact rfl;exact jR;exact rfl) | ((with_reducible apply qm);exact rfl;exact rfl;exact jR) | ((with_reducible apply bc);exact rfl;exact rfl;exact jR;exact rfl) | ((with_reducible apply z1)) | ((with_reducible apply tz)) | ((with_reducible apply lW)) | ((with_reducible apply oZ);exact rfl) | ((with_reducible apply o4);exact rfl) | ((with_reducible apply oY)) | ((with_reducible apply tu)) | ((with_reducible apply tw)) | ((with_reducible apply z6)) | ((with_reducible apply tC)) | ((with_reducible apply tD)) | ((with_reducible apply lX)) | ((with_reducible apply lY)) | ((with_reducible apply lZ);exact rfl) | ((with_reducible apply l6);exact rfl) | ((with_reducible apply o7)) | ((with_reducible apply o8)) | ((with_reducible apply oX)) | (with_reducible refine o5 (by assumption) ?_) | (with_reducible refine o6 (by assumption) ?_) | ((with_reducible apply qo);exact rfl;exact rfl;exact jR) | ((with_reducible apply tM);exact rfl;exact rfl;exact rfl;exact rfl;exact jR) | ((with_reducible apply Ae);exact rfl;exact rfl;exact jR) | ((with_reducible apply tL)) | ((with_reducible apply kW);exact rfl) | ((with_reducible apply tK);exact rfl) | ((with_reducible apply l9);exact rfl;exact rfl;exact rfl) | ((with_reducible apply ma);exact rfl;exact rfl;exact rfl) | ((with_reducible apply km);exact rfl;exact rfl) | ((with_reducible apply Ad)) | ((with_reducible apply n9);exact rfl;exact jR;exact rfl) | ((with_reducible apply mY);exact rfl;exact jR) | ((with_reducible apply bQ);exact rfl;exact jR;exact rfl) | ((with_reducible apply kg);exact rfl;exact rfl) | ((with_reducible apply z8))));exact hq.out):p:=s ⟨h⟩
end
section
variable {G:GS}
attribute [local irreducible] aj aC aG aM aQ vC aY aA
structure Gj where
 code:Int
 key:List MV
 prio:Int
 ev:Nat×List MV
 exp:Nat×List MV
 inv:Nat×List MV
 dn:Nat×List MV
 fl:Nat×List MV
 tx:Nat×List MV
 height:Int
 dig:List MV
def pG (r:Gj):MV:= .st [.int .i64 r.code, .arr 32 1 r.key, .int .u64 r.prio, .sl r.ev.1 r.ev.2, .sl r.exp.1 r.exp.2, .sl r.inv.1 r.inv.2, .sl r.dn.1 r.dn.2, .sl r.fl.1 r.fl.2, .sl r.tx.1 r.tx.2, .int .i64 r.height, .arr 32 1 r.dig]
theorem dU.mono [FX:Fx] {B B':Nat} {s:cL} (h:dU B s) (hb:B≤B'):dU B' s:=
 ⟨h.cfg,h.app,h.height,⟨h.time.1,by have:=h.time.2;omega⟩,⟨h.arr.1,by have:=h.arr.2;omega⟩,d₇ h.ents hb,fun e he=>let k:=h.entk e he;⟨k.key,k.raw,k.sender,k.height,k.time,d₇ k.peers hb,k.gas⟩,h.cache,h.ck,h.fx⟩
theorem CN: ∀(l:List Int),bH (l.map (MV.int .i64)) 1=true
 | [] =>rfl
 | _ :: _=>rfl
abbrev appZ:MV:= .st [lgZ,lgZ,lgZ, .bool false, .int .u64 0]
abbrev pH:MV:= .st [Pd,appZ, .int .i64 0, .int .i64 0, .int .i64 0, .nils, .nils]
end
section
variable {G:GS}
attribute [local irreducible] aj aC aG aM aQ vC aY aA
theorem AR (p s t m:Int): ∀(O:List Ent) (c b:Int),∀e∈(selG p s t m O c b).1,e∈O
 | [],c,b=>by simp [selG]
 | x :: O,c,b=>by
  unfold selG
  split
  ·simp
  ·have ih:=AR p s t m O (c - 1) (b - x.raw.length)
   generalize selG p s t m O (c - 1) (b - x.raw.length)=r at *
   obtain⟨v,c',b'⟩:=r
   intro e he
   rcases List.mem_cons.1 he with rfl | he
   ·exact List.mem_cons_self ..
   ·exact List.mem_cons_of_mem _ (ih e he)
theorem AS (p s t m:Int): ∀(O:List Ent) (c b:Int),(selG p s t m O c b).1.length≤O.length
 | [],c,b=>by simp [selG]
 | x :: O,c,b=>by
  unfold selG
  split
  ·simp
  ·have ih:=AS p s t m O (c - 1) (b - x.raw.length)
   generalize selG p s t m O (c - 1) (b - x.raw.length)=r at *
   obtain⟨v,c',b'⟩:=r
   simp only [d₀]
   dsimp only at ih
   omega
theorem yu (p s t m:Int) (l:List Ent) (hk: ∀e∈l,e.key.length=32):eF (cK p s t m l).1∧(cK p s t m l).1.length≤l.length:=by
 have h1:=AR p s t m (aB l) l.length (bytesS l);have h2:=AS p s t m (aB l) l.length (bytesS l);rw [qA] at h2;unfold cK;generalize selG p s t m (aB l) l.length (bytesS l)=r at *;obtain⟨v,c,b⟩:=r;dsimp only at *;split
 ·refine⟨fun x hx=>?_,by simpa using h2⟩;obtain⟨e,he,rfl⟩:=d₈.1 hx;exact hk e ((js l).mem_iff.1 (h1 e he))
 ·exact⟨fun x hx=>absurd hx (List.not_mem_nil),c₅ _⟩
abbrev k0:List MV:=u8s (List.replicate 32 0)
abbrev Ho:MV:= .st [.int .i64 0, .arr 32 1 k0, .int .u64 0, .nils, .nils, .nils, .nils, .nils, .nils, .int .i64 0, .arr 32 1 k0]
end
section
variable {G:GS}
attribute [local irreducible] aj aC aG aM aQ vC aY aA
def dj (s:cL) (i peer:Int):cL:=if 0≤i∧dt peer=true then(match s.ents[i.toNat]? with | some e=>if peer∈e.peers then s else { s with ents:=s.ents.set i.toNat { e with peers:=e.peers ++ [peer] } } | none=>s) else s
theorem LN [FX:Fx] {B:Nat} (s:cL) (i peer:Int) (hi:i < s.ents.length) (hs:dU B s) (hB:B≤100000):CI Tryz.prog G 58 [dq s, .int .i64 i, .int .i64 peer] (fun r=> ∃s',r=dq s'∧dU (B + 1) s'∧s'=dj s i peer):=by
 have c1:=AO (G:=G) peer;have hls:=hs.ents;unfold CI;refine gR seat Tryz.func58 rfl rfl (a₅ rfl) (a₅ rfl) (N:=47) rfl rfl ?_;refine ad ?_;refine ah rfl rfl ?_ rfl ?_ <;> intro h
 ·have h0:0≤i:=by have:=oF h;omega
  obtain⟨k,rfl⟩: ∃k:Nat,i=k:=⟨i.toNat,om⟩
  have hk:k < s.ents.length:=om;have hel:=al.mk (dS hk);have hep:=hs.entk _ (b₉ hk);generalize hek:s.ents[k] =e at *;have c2:=Iz (G:=G) e.peers peer (by have:=hep.peers;omega);have hpl:e.peers.length≤100000:=d₇ hep.peers hB;have hnth:al (bK (s.ents.map au) (0 + k)) (au e):=al.mk (by rw [bF,a₇];simp [hk,hek]);have hS:dj s k peer=if dt peer=true then(if decide (peer∈e.peers)=true then s else { s with ents:=s.ents.set k { e with peers:=e.peers ++ [peer] } }) else s:=by
   unfold dj;by_cases hp:dt peer=true
   ·rw [if_pos ⟨h0,hp⟩,if_pos hp,c₆,List.getElem?_eq_getElem hk,hek];simp only [decide_eq_true_eq]
   ·rw [if_neg (fun x=>hp x.2),if_neg hp]
  generalize dt peer=bp at *;generalize decide (peer∈e.peers)=bi at *;refine ad ?_;refine cH (aa (c1)) rfl rfl (fun _ h=>h) (by kernel_rfl) ?_;refine ad ?_;refine ah rfl rfl ?_ rfl ?_ <;> intro h
  ·refine ad ?_;refine cH (aa (c2)) rfl rfl (fun _ h=>h) (by kernel_rfl) ?_;refine ad ?_;refine ae rfl ?_ ?_ <;> intro h
   ·refine ad ?_;(refine Eu [_] (⟨s,rfl,hs.mono om,by rw [hS];simp_all⟩) (by kernel_rfl) ?_;(refine aw ?_);exact rfl)
   ·refine ad ?_;refine bc rfl rfl (by intro R hR;refine dZ hR ?_;refine a₃ ((fu _)) ?_;refine a₃ ⟨rfl,aF (by kernel_rfl) pf⟩ ?_;refine⟨s.ents.map au,sv (by rfl),s.ents.length,sv pf,?_⟩;exact hR) rfl ?_;refine ad ?_;refine bc rfl rfl (by intro R hR;refine dZ hR ?_;refine a₃ ((CN _)) ?_;refine a₃ ⟨rfl,aF (by kernel_rfl) pf⟩ ?_;refine⟨e.peers.map (MV.int .i64),sv (by rfl),e.peers.length,sv pf,?_⟩;exact hR) rfl ?_;refine ad ?_;obtain⟨Z,hZ⟩: ∃Z,Z=e.peers ++ [peer] :=⟨_,rfl⟩
    have hZl:Z.length=e.peers.length + 1:=by rw [hZ];simp
    refine bc rfl rfl (by intro R hR;refine dZ hR ?_;(refine a₃ (b₂ _) ?_;refine⟨_,rfl,?_⟩;refine a₃ ⟨sm,aF (by kernel_rfl) pf⟩ ?_;refine⟨Z.map (MV.int .i64),sv (by rw [hZ];simp;rfl),Z.length,sv pf,?_⟩);exact hR) rfl ?_;iterate 2 (refine Qu ?_)
    refine Ab ([(41, .sl Z.length (Z.map (MV.int .i64))),(43, .ptr 20 41 (0 + k) (0 + 40) ([] ++ [9])),(7, .ms 20 41 0 s.ents.length),(6, .ptr 1 25 0 0 []),(3, .ptr 0 25 0 0 [])]) ([(20,⟨64,41,true,0,s.ents.map au⟩),(1,⟨42,25,false,0,[pH]⟩),(0,⟨42,25,false,0,[dq s]⟩)]) [(33,Z.length)] mm rfl mm mm ?_;obtain⟨e1,e2,e3,e4,e5,e6,e7,e8,e9,e10⟩:=e;have hst:aX (setL (s.ents.map au) (0 + k) (au ⟨e1,e2,e3,e4,e5,e6,e7,e8,e9,Z⟩)) ((s.ents.set k ⟨e1,e2,e3,e4,e5,e6,e7,e8,e9,Z⟩).map au):=aX.mk (by rw [setL_eq,a₇,d₆]);have hok:dU (B + 1) { s with ents:=s.ents.set k ⟨e1,e2,e3,e4,e5,e6,e7,e8,e9,Z⟩ }:=by
     have hm:=hs.mono (B':=B + 1) om;refine⟨hm.cfg,hm.app,hm.height,hm.time,hm.arr,by dsimp only;rw [b₀];exact hm.ents,fun x hx=>?_,hm.cache,hm.ck,hm.fx⟩;rcases c₈ hx with hx | rfl
     ·exact hm.entk x hx
     ·exact⟨hep.key,hep.raw,hep.sender,hep.height,hep.time,by have:=hep.peers;dsimp only at *;omega,hep.gas⟩
    have hlen:(s.ents.set k ⟨e1,e2,e3,e4,e5,e6,e7,e8,e9,Z⟩).length=s.ents.length:=b₀ ..;generalize hW9:s.ents.set k ⟨e1,e2,e3,e4,e5,e6,e7,e8,e9,Z⟩=W at *;iterate 3 (refine Qu ?_)
    refine Ab ([(7, .ms 20 41 0 s.ents.length),(6, .ptr 1 25 0 0 []),(3, .ptr 0 25 0 0 [])]) ([(20,⟨64,41,true,0,setL (s.ents.map au) (0 + k) (au ⟨e1,e2,e3,e4,e5,e6,e7,e8,e9,Z⟩)⟩),(1,⟨42,25,false,0,[pH]⟩),(0,⟨42,25,false,0,[dq s]⟩)]) [] trivial rfl mm mm ?_;rw [hst.out,← hlen];refine Ab ([(7, .sl W.length (W.map au)),(6, .ptr 1 25 0 0 []),(3, .ptr 0 25 0 0 [])]) ([(1,⟨42,25,false,0,[pH]⟩),(0,⟨42,25,false,0,[dq s]⟩)]) [(20,W.length)] mm rfl mm mm ?_;refine ad ?_;(refine Eu [_] (⟨{ s with ents:=W },rfl,hok,by rw [hS,← hW9,hZ];simp_all⟩) (by kernel_rfl) ?_;(refine aw ?_);exact rfl)
  ·refine ad ?_;(refine Eu [_] (⟨s,rfl,hs.mono om,by rw [hS];simp_all⟩) (by kernel_rfl) ?_;(refine aw ?_);exact rfl)
 ·refine ad ?_;(refine Eu [_] (⟨s,rfl,hs.mono om,by unfold dj;rw [if_neg (by simp at h;omega)]⟩) (by kernel_rfl) ?_;(refine aw ?_);exact rfl)
end
section
variable {G:GS}
attribute [local irreducible] aj aC aG aM aQ vC aY aA
def fw (c:Int):Gj:=⟨c,k0,0,(0,[]),(0,[]),(0,[]),(0,[]),(0,[]),(0,[]),0,k0⟩
def fA (s:cL) (l:List (List UInt8)):cL:=l.foldl (fun s k=>eJ (dC s k).1 k) s
theorem CO (s:cL) (l:List (List UInt8)) {k:Nat} (hk:k < l.length):fA s (l.take (k + 1))=eJ (dC (fA s (l.take k)) l[k]).1 l[k] :=by
 unfold fA;rw [c₁ hk,List.foldl_append];rfl
def AT (s:cL) (key raw:List UInt8) (peer:Int) (r:lp):Ent:=⟨key,raw,r.sender,r.seq,r.gas,r.prio,s.height,s.time,s.arr,if dt peer=true then [peer] else []⟩
def fS (s:cL) (key raw:List UInt8) (peer:Int) (r:lp) (ks:List (List UInt8)):cL:=
 let s2:=fA s ks
 { s2 with app:=fq s2.app raw,ents:=s2.ents ++ [AT s2 key raw peer r],arr:=s2.arr + 1 }
def LO (key:List UInt8) (r:lp) (ks:List (List UInt8)):Gj:=⟨0,u8s key,r.prio,(ks.length,ks.map keyM),(0,[]),(0,[]),(0,[]),(0,[]),(0,[]),0,k0⟩
def fB (s:cL) (key raw:List UInt8) (peer:Int):cL×Gj:=
 let r:=bM s.app raw
 if r.code≠0 then(dw s key,fw r.code) else if qE s r.gas=true then(dw s key,fw 22) else
 let v:=cK r.prio raw.length s.cfg.maxTxs s.cfg.maxBytes s.ents
 if v.2=false then(eJ s key,fw 24) else(fS s key raw peer r v.1,LO key r v.1)
def aO (s:cL) (raw:List UInt8) (peer:Int):cL×Gj:=
 if s.cfg.maxTx < (raw.length:Int) then(s,fw 20) else if s.cfg.blkB < (iE raw.length:Int) then(s,fw 21) else
 let key:=aT raw
 if 0≤jF key s.ents∨0≤posK key s.cache 0 then(dj (bm s key) (jF key s.ents) peer,fw 23) else fB (bm s key) key raw peer
theorem I3 [FX:Fx] {B:Nat} (s:cL) (raw:List UInt8) (peer:Int) (hraw:raw.length≤1000000) (hs:dU B s) (hB:B≤100000):CI Tryz.prog G 22 [dq s, .sl raw.length (u8s raw), .int .i64 peer] (fun r=> ∃s' rp,r= .tup [dq s',pG rp] ∧dU (B + 1) s'∧(s',rp)=aO s raw peer):=by
 have hm1:=hs.mono (B':=B + 1) om;have hmx:=hs.cfg.maxTx;have hmt:=hs.cfg.maxTxs;have hmb:=hs.cfg.maxBytes;have c1:=LG (G:=G) raw.length om;have c2:=Is (G:=G) raw om;have hk32:(aT raw).length=32:=gy raw;have hC:aO s raw peer=(if s.cfg.maxTx < (raw.length:Int) then(s,fw 20) else if s.cfg.blkB < (iE raw.length:Int) then(s,fw 21) else if 0≤jF (aT raw) s.ents∨0≤posK (aT raw) s.cache 0 then(dj (bm s (aT raw)) (jF (aT raw) s.ents) peer,fw 23) else fB (bm s (aT raw)) (aT raw) raw peer):=by
  unfold aO;dsimp only
 generalize aO s raw peer=C at *;generalize aT raw=key at *;have c3:=NV (G:=G) s.ents key (by have:=hs.ents;omega) hk32 (fun e he=>(hs.entk e he).key);have c4:=Er (G:=G) s.cache key (by have:=hs.cache;omega) hk32 hs.ck;have c5:=I1 (G:=G) s key hs hk32;have hpo:=qD (B:=B) hs hk32;have c6: ∀{i:Int},i < s.ents.length→CI Tryz.prog G 58 [dq (bm s key), .int .i64 i, .int .i64 peer] (fun r=> ∃s',r=dq s'∧dU (B + 1) s'∧s'=dj (bm s key) i peer):=fun hi=>LN (bm s key) _ peer hi hpo hB
 have hi:=pF key s.ents;have hil:jF key s.ents < s.ents.length:=om;generalize jF key s.ents=i at *;unfold CI;refine gR seat Tryz.func22 rfl rfl (a₅ rfl) (a₅ rfl) (N:=163) rfl rfl ?_;refine ad ?_;refine ae rfl ?_ ?_ <;> intro h
 ·refine ad ?_;(refine rJ [_,_] (by(refine aw ?_);exact rfl) (by kernel_rfl) (⟨s,⟨_,_,_,(_,_),(_,_),(_,_),(_,_),(_,_),(_,_),_,_⟩,rfl,hm1,by rw [hC,if_pos (by have:=ot h;omega)];rfl⟩))
 ·have hr:=oF h;rw [if_neg om] at hC;clear hi;refine ad ?_;refine av [ag 0,ag 1,da 2,ag 3,ag 4,ag 5,ag 6] ?_;refine ad ?_;refine kn rfl (fun _ h=>h) rfl [] (aa (c1)) rfl [] trivial (dI _ (by kernel_rfl)) rfl ?_;refine ad ?_;refine ae rfl ?_ ?_ <;> intro h
  ·refine ad ?_;(refine rJ [_,_] (by(refine aw ?_);exact rfl) (by kernel_rfl) (⟨s,⟨_,_,_,(_,_),(_,_),(_,_),(_,_),(_,_),(_,_),_,_⟩,rfl,hm1,by rw [hC,if_pos (by have:=ot h;omega)];rfl⟩))
  ·rw [if_neg (by have:=oF h;omega)] at hC;refine ad ?_;refine cH (aa (c2)) rfl rfl (fun _ h=>h) (by kernel_rfl) ?_;refine ad ?_;refine cH (aa (c3)) rfl rfl (fun _ h=>h) (by kernel_rfl) ?_;refine ad ?_;have hcase:(¬ 0≤i∧¬ 0≤posK key s.cache 0)∨(0≤i∨0≤posK key s.cache 0):=om;rcases hcase with ⟨hc1,hc2⟩ | hc
   ·rw [if_neg om] at hC;unfold fB at hC;dsimp only at hC;rw [decide_eq_false hc2] at c4;refine ah rfl rfl ?_ rfl ?_ <;> intro h
    rotate_left
    ·exact absurd (ot h) om
    refine ad ?_;refine cH (aa (c4)) rfl rfl (fun _ h=>h) (by kernel_rfl) ?_;refine ad ?_;refine cH (aa (c5)) rfl rfl (fun _ h=>h) (by kernel_rfl) ?_;clear c6 c5 c4 c3 c2 c1;generalize bm s key=s1 at *;have hm2:=hpo.mono (B':=B + 1) om;have d1:=yn (G:=G) s1.app raw hpo.app om;have hres:Ei (bM s1.app raw):=(ui hpo.app.2.1).2;generalize bM s1.app raw=r at *;have d2:=CM (G:=G) s1 key hpo hk32;have hf2:=(mD (k:=key) hpo).mono (B':=B + 1) om;generalize dw s1 key=sf at *;have d3:=LM (G:=G) s1 r.gas hpo;have hmt:=hpo.cfg.maxTxs;have hmb:=hpo.cfg.maxBytes;have d4:=Ge (G:=G) s1.ents (by have:=hpo.ents;omega) (fun e he=>by have:=(hpo.entk e he).raw;omega) r.prio raw.length s1.cfg.maxTxs s1.cfg.maxBytes om om;have hsel:=yu r.prio raw.length s1.cfg.maxTxs s1.cfg.maxBytes s1.ents (fun e he=>(hpo.entk e he).key);have d5:=uw (G:=G) s1 key hpo hk32;have hd5:=(kx (k:=key) hpo).mono (B':=B + 1) om;generalize eJ s1 key=sd at *;unfold NJ at d4;generalize cK r.prio raw.length s1.cfg.maxTxs s1.cfg.maxBytes s1.ents=sel at *;obtain⟨ks,okk⟩:=sel;dsimp only at d4 hsel hC;refine BI ?_;refine iW ([(1, .sl raw.length (u8s raw)),(2, .int .i64 peer),(3, .ptr 0 25 0 0 []),(6, .ptr 1 25 0 0 []),(7, .ptr 2 73 0 0 []),(8, .ptr 3 32 0 0 [])]) ([(0,⟨42,25,false,0,[dq s1]⟩),(1,⟨42,25,false,0,[pH]⟩),(2,⟨57,73,false,0,[Ho]⟩),(3,⟨55,32,false,0,[keyM key]⟩)]) (4) (vm [(0,_),(1,_),(2,_),(3,_)] []) ?_;refine ad ?_;refine cH (aa (d1)) rfl rfl (fun _ h=>h) (by kernel_rfl) ?_;refine ad ?_;refine ae rfl ?_ ?_ <;> intro h
    ·refine ad ?_;refine av [ag 0,ag 1,da 2,ag 3,ag 4,ag 5,ag 6,ag 7] ?_;refine ad ?_;refine kn rfl (fun _ h=>h) rfl [] (aa (d2)) rfl [] trivial (dI _ (by kernel_rfl)) rfl ?_;refine ad ?_;(refine rJ [_,_] (by(refine aw ?_);exact rfl) (by kernel_rfl) (⟨sf,⟨_,_,_,(_,_),(_,_),(_,_),(_,_),(_,_),(_,_),_,_⟩,rfl,hf2,by rw [hC,if_pos (by simpa using h)];rfl⟩))
    ·have hcode:r.code=0:=by simp at h;omega
     rw [if_neg (by simp [hcode])] at hC;refine ad ?_;refine cH (aa (d3)) rfl rfl (fun _ h=>h) (by kernel_rfl) ?_;refine ad ?_;refine ae rfl ?_ ?_ <;> intro h
     ·refine ad ?_;refine cH (aa (d2)) rfl rfl (fun _ h=>h) (by kernel_rfl) ?_;refine ad ?_;(refine rJ [_,_] (by(refine aw ?_);exact rfl) (by kernel_rfl) (⟨sf,⟨_,_,_,(_,_),(_,_),(_,_),(_,_),(_,_),(_,_),_,_⟩,rfl,hf2,by rw [hC,if_pos h];rfl⟩))
     ·rw [if_neg (by rw [h];simp)] at hC;refine ad ?_;refine cH (d4) rfl rfl (fun _ h=>h) (by kernel_rfl) ?_;refine ad ?_;refine ae rfl ?_ ?_ <;> intro h
      ·refine ad ?_;refine cH (aa (d5)) rfl rfl (fun _ h=>h) (by kernel_rfl) ?_;refine ad ?_;(refine rJ [_,_] (by(refine aw ?_);exact rfl) (by kernel_rfl) (⟨sd,⟨_,_,_,(_,_),(_,_),(_,_),(_,_),(_,_),(_,_),_,_⟩,rfl,hd5,by rw [hC,if_pos (by simpa using h)];rfl⟩))
      ·rw [if_neg (by simpa using h)] at hC;obtain⟨hk,hkl⟩:=hsel;clear d1 d2 d3 d4 d5;have hkb:ks.length≤100000:=by have:=hpo.ents;omega
       refine ad ?_;refine ar (Nat×cL) (fun x=> [(102, .int .i64 x.1),(101, .int .i64 ks.length),(100, .sl ks.length (ks.map keyM)),(11, .sl ks.length (ks.map keyM)),(1, .sl raw.length (u8s raw)),(2, .int .i64 peer),(3, .ptr 0 25 0 0 []),(6, .ptr 1 25 0 0 []),(7, .ptr 2 73 0 0 []),(8, .ptr 3 32 0 0 []),(10, .ptr 4 5 0 0 [])]) (fun x=> [(0,⟨42,25,false,0,[dq x.2]⟩),(1,⟨42,25,false,0,[pH]⟩),(2,⟨57,73,false,0,[Ho]⟩),(3,⟨55,32,false,0,[keyM key]⟩),(4,⟨105,5,false,0,[jO r]⟩)]) 5 (fun x=>x.1≤ks.length∧dU B x.2∧x.2=fA s1 (ks.take x.1)) (fun x=>ks.length - x.1) (0,s1) ⟨c₅ _,hpo,rfl⟩ (by dsimp only;exact(vm [(0,_),(1,_),(2,_),(3,_),(4,_)] [])) ?_;rintro⟨k,s2⟩ ⟨hki,hs2,hev⟩;try dsimp only
       dsimp only at hki hs2 hev;refine ad ?_;refine ae rfl ?_ ?_ <;> intro h
       ·have hk':k < ks.length:=by have:=ot h;omega
        have hel:=al.mk (lz hk');have hkk:=hk _ (b₉ hk');have hevn:=CO s1 ks hk';rw [← hev] at hevn;generalize ks[k] =q at *;have e1:=Gi (G:=G) s2 q hs2 hB hkk;have o1:=uu (k:=q) hs2;generalize dC s2 q=lv at *;obtain⟨s3,b3⟩:=lv;dsimp only at e1 o1 hevn;have e2:=uw (G:=G) s3 q o1 hkk;have o2:=kx (k:=q) o1;generalize eJ s3 q=s4 at *;refine ad ?_;refine cH (aa (e1)) rfl rfl (fun _ h=>h) (by kernel_rfl) ?_;refine ad ?_;refine cH (aa (e2)) rfl rfl (fun _ h=>h) (by kernel_rfl) ?_;refine ad ?_;exact⟨(k + 1,s4),⟨dm,o2,hevn.symm⟩,dm,(by dsimp only;exact(vm [(0,_),(1,_),(2,_),(3,_),(4,_)] []))⟩
       ·have hk9:k=ks.length:=by have:=oF h;omega
        rw [hk9,List.take_length] at hev;have hA:fS s1 key raw peer r ks={ s2 with app:=fq s2.app raw,ents:=s2.ents ++ [AT s2 key raw peer r],arr:=s2.arr + 1 }:=by
         unfold fS;rw [← hev]
        rw [hA] at hC;unfold AT at hC;clear hA;have e3:=IE (G:=G) s2.app raw hs2.app om;have o3:dU B { s2 with app:=fq s2.app raw }:=⟨hs2.cfg,uj hs2.app,hs2.height,hs2.time,hs2.arr,hs2.ents,hs2.entk,hs2.cache,hs2.ck,hs2.fx⟩;generalize fq s2.app raw=a3 at *;refine ad ?_;refine cH (aa (e3)) rfl rfl (fun _ h=>h) (by kernel_rfl) ?_;refine BI ?_;refine iW ([(1, .sl raw.length (u8s raw)),(2, .int .i64 peer),(3, .ptr 0 25 0 0 []),(6, .ptr 1 25 0 0 []),(7, .ptr 2 73 0 0 []),(8, .ptr 3 32 0 0 []),(10, .ptr 4 5 0 0 []),(11, .sl ks.length (ks.map keyM))]) ([(0,⟨42,25,false,0,[dq { s2 with app:=a3 }]⟩),(1,⟨42,25,false,0,[pH]⟩),(2,⟨57,73,false,0,[Ho]⟩),(3,⟨55,32,false,0,[keyM key]⟩),(4,⟨105,5,false,0,[jO r]⟩)]) (5) (vm [(0,_),(1,_),(2,_),(3,_),(4,_)] []) ?_;generalize hs3:{ s2 with app:=a3 }=s3 at *;have e4:=AO (G:=G) peer;generalize dt peer=bp at *;refine ad ?_;refine av [ag 0,ag 1,ag 2,ag 3,ag 4,ag 5,ag 6,ag 7,ag 8,ag 9,ag 10,ag 11,ag 12,ag 13,ag 14,ag 15,ag 16,ag 17,ag 18,ag 19,ag 20] ?_;refine ad ?_;refine bQ rfl (by intro R hR;refine dZ hR ?_;refine a₃ ((dh raw)) ?_;refine a₃ ⟨rfl,aF (by kernel_rfl) pf⟩ ?_;refine⟨u8s raw,sv (by show [] ++ u8s raw=_;rw [c₂]),raw.length,sv pf,?_⟩;exact hR) rfl ?_;refine ad ?_;refine cH (aa (e4)) rfl rfl (fun _ h=>h) (by kernel_rfl) ?_;refine si (List Int) (fun ps=> [(3, .ptr 0 25 0 0 []),(6, .ptr 1 25 0 0 []),(7, .ptr 2 73 0 0 []),(8, .ptr 3 32 0 0 []),(10, .ptr 4 5 0 0 []),(11, .sl ks.length (ks.map keyM)),(15, .ptr 5 41 0 0 [])]) (fun ps=> [(0,⟨42,25,false,0,[dq s3]⟩),(1,⟨42,25,false,0,[pH]⟩),(2,⟨57,73,false,0,[Ho]⟩),(3,⟨55,32,false,0,[keyM key]⟩),(4,⟨105,5,false,0,[jO r]⟩),(5,⟨64,41,false,0,[au ⟨key,raw,r.sender,r.seq,r.gas,r.prio,s3.height,s3.time,s3.arr,ps⟩]⟩)]) (fun _=>6) (fun ps=>ps=if bp=true then [peer] else []) (fun JQ hj=>?_) (fun ps hps=>?_)
        ·refine ad ?_;refine ae rfl ?_ ?_ <;> intro h
         ·refine ad ?_;exact hj.nrm [peer] (by rw [if_pos h]) (vm [(0,_),(1,_),(2,_),(3,_),(4,_),(5,_)] [(8,raw.length),(28,1)])
         ·refine ad ?_;exact hj.nrm [] (by rw [if_neg (by rw [h];simp)]) (vm [(0,_),(1,_),(2,_),(3,_),(4,_),(5,_)] [(8,raw.length)])
        ·have hpl:ps.length≤1:=by rw [hps];split <;> simp
         generalize hen:(⟨key,raw,r.sender,r.seq,r.gas,r.prio,s3.height,s3.time,s3.arr,ps⟩:Ent)=en;have hs4:dU (B + 1) { s3 with ents:=s3.ents ++ [en],arr:=s3.arr + 1 }:=by
          have hm:=o3.mono (B':=B + 1) (by omega);have ha:=o3.arr;refine⟨hm.cfg,hm.app,hm.height,hm.time,by dsimp only;omega,by have:=o3.ents;dsimp only;rw [a₁,a₂];omega,fun x hx=>?_,hm.cache,hm.ck,hm.fx⟩;rcases c₃.1 hx with hx | hx
          ·exact hm.entk x hx
          ·obtain rfl:=a₄.1 hx;rw [← hen];have:=o3.height;have:=o3.time;have:=hs.cfg.maxTx;exact⟨hk32,by dsimp only;omega,hres.2.1,by dsimp only;omega,by dsimp only;omega,by dsimp only;omega,by have:=hres.2.2.2.1;unfold bl at this;dsimp only;omega⟩
         have hen9:s3.ents.length≤100000:=by have:=o3.ents;omega
         have hra:=o3.arr;obtain⟨W,hW⟩: ∃W,W=s3.ents ++ [en] :=⟨_,rfl⟩
         have hWl:W.length=s3.ents.length + 1:=by rw [hW];simp
         rw [← hW] at hs4;try dsimp only
         refine ad ?_;refine av [ag 0,ag 1,ag 2,ag 3,ag 4,ag 5,ag 6,ag 7,ag 8] ?_;refine ad ?_;refine bQ rfl (by intro R hR;refine dZ hR ?_;refine a₃ ((fu _)) ?_;refine a₃ ⟨rfl,aF (by kernel_rfl) pf⟩ ?_;refine⟨s3.ents.map au,sv (by rfl),s3.ents.length,sv pf,?_⟩;exact hR) rfl ?_;refine ad ?_;refine bQ rfl (by intro R hR;refine dZ hR ?_;(refine a₃ (b₂ _) ?_;refine⟨_,rfl,?_⟩;refine a₃ ⟨(by simp),aF (by kernel_rfl) pf⟩ ?_;refine⟨W.map au,sv (by rw [hW];simp;rfl),W.length,sv pf,?_⟩);exact hR) rfl ?_;refine BI ?_;refine iW ([(3, .ptr 0 25 0 0 []),(6, .ptr 1 25 0 0 []),(7, .ptr 2 73 0 0 []),(8, .ptr 3 32 0 0 []),(10, .ptr 4 5 0 0 []),(11, .sl ks.length (ks.map keyM))]) ([(0,⟨42,25,false,0,[dq { s3 with ents:=W,arr:=s3.arr + 1 }]⟩),(1,⟨42,25,false,0,[pH]⟩),(2,⟨57,73,false,0,[Ho]⟩),(3,⟨55,32,false,0,[keyM key]⟩),(4,⟨105,5,false,0,[jO r]⟩)]) (5) (vm [(0,_),(1,_),(2,_),(3,_),(4,_)] [(12,W.length)]) ?_;generalize hs5:{ s3 with ents:=W,arr:=s3.arr + 1 }=s5 at *;refine ad ?_;refine av [ag 0,ag 1,ag 2,ag 3,ag 4,ag 5,ag 6,ag 7] ?_;refine ad ?_;(refine rJ [_,_] (by(refine aw ?_);exact rfl) (by kernel_rfl) (⟨s5,⟨_,_,_,(_,_),(_,_),(_,_),(_,_),(_,_),(_,_),_,_⟩,rfl,hs4,by rw [hC,← hs5,hW,← hen,← hs3,hps];rfl⟩))
   ·clear c1 c2 c3;by_cases hi0:0≤i
    ·clear c4;refine ah rfl rfl ?_ rfl ?_ <;> intro h
     ·exact absurd (oF h) om
     refine ad ?_;refine cH (aa (c5)) rfl rfl (fun _ h=>h) (by kernel_rfl) ?_;refine ad ?_;refine uy (c6 hil) rfl rfl (fun _ h=>h) (by kernel_rfl) ?_;rintro _ ⟨s',rfl,hs',hse⟩;refine ad ?_;(refine rJ [_,_] (by(refine aw ?_);exact rfl) (by kernel_rfl) (⟨s',⟨_,_,_,(_,_),(_,_),(_,_),(_,_),(_,_),(_,_),_,_⟩,rfl,hs',by rw [hC,if_pos om,hse];rfl⟩))
    ·rw [decide_eq_true om] at c4;refine ah rfl rfl ?_ rfl ?_ <;> intro h
     rotate_left
     ·exact absurd (ot h) om
     refine ad ?_;refine cH (aa (c4)) rfl rfl (fun _ h=>h) (by kernel_rfl) ?_;refine ad ?_;refine cH (aa (c5)) rfl rfl (fun _ h=>h) (by kernel_rfl) ?_;refine ad ?_;refine uy (c6 hil) rfl rfl (fun _ h=>h) (by kernel_rfl) ?_;rintro _ ⟨s',rfl,hs',hse⟩;refine ad ?_;(refine rJ [_,_] (by(refine aw ?_);exact rfl) (by kernel_rfl) (⟨s',⟨_,_,_,(_,_),(_,_),(_,_),(_,_),(_,_),(_,_),_,_⟩,rfl,hs',by rw [hC,if_pos om,hse];rfl⟩))
end
section
theorem gE (k:List UInt8): ∀(l:List (List UInt8)) (i:Nat),posK k l i < 0↔k ∉ l
 | [],_=>by simp [posK]
 | a :: r,i=>by
  unfold posK
  split
  ·rename_i h;subst h;simp
  ·rename_i h
   rw [gE k r (i + 1)]
   simp [Ne.symm h]
theorem Ev (k:List UInt8): ∀(l:List (List UInt8)) (i:Nat),posK k l i < 0∨(i:Int)≤posK k l i
 | [],_=> .inl (by simp [posK])
 | a :: r,i=>by
  unfold posK
  split
  ·exact .inr (Int.le_refl _)
  ·rcases Ev k r (i + 1) with h | h
   ·exact .inl h
   ·exact .inr om
theorem NY {α:Type} (f:α→List UInt8) (k:List UInt8): ∀(l:List α) (i:Nat),(l.map f).Nodup→(if posK k (l.map f) i < 0 then l else l.take (posK k (l.map f) i - i).toNat ++ l.drop ((posK k (l.map f) i - i).toNat + 1))=l.filter (fun x=>decide (f x≠k))
 | [],i,_=>by simp [posK]
 | a :: r,i,hd=>by
  rw [b₁,e₂] at hd
  by_cases h:f a=k
  ·have hp:posK k ((a :: r).map f) i=i:=by rw [b₁,posK,if_pos h]
   rw [hp,if_neg om,Int.sub_self]
   have:r.filter (fun x=>decide (f x≠k))=r:=b₃.2 fun x hx=>decide_eq_true fun e=>hd.1 (by rw [h,← e];exact d₅ hx)
   simp [h]
   simpa using this.symm
  ·have hp:posK k ((a :: r).map f) i=posK k (r.map f) (i + 1):=by rw [b₁,posK,if_neg h]
   have ih:=NY f k r (i + 1) hd.2
   rw [hp]
   rw [List.filter_cons_of_pos (by simpa using h),← ih]
   rcases Ev k (r.map f) (i + 1) with h0 | h0
   ·rw [if_pos h0,if_pos h0]
   ·rw [if_neg om,if_neg om]
    have e:(posK k (r.map f) (i + 1) - (i:Int)).toNat=(posK k (r.map f) (i + 1) - ((i + 1:Nat):Int)).toNat + 1:=om
    rw [e]
    rfl
theorem fC {k:List UInt8} {l:List (List UInt8)} (hd:l.Nodup):gD k l=l.filter (fun x=>decide (x≠k)):=by
 have h:=NY id k l 0 (by simpa using hd);simp only [List.map_id,e₁,Int.sub_zero,id] at h;exact h
theorem uz {s:cL} {k:List UInt8} (hd:(s.ents.map (·.key)).Nodup):(dC s k).1={ s with ents:=s.ents.filter (fun e=>decide (e.key≠k)) }:=by
 have h:=NY (·.key) k s.ents 0 hd;simp only [e₁,Int.sub_zero] at h;unfold dC jF;split
 ·rename_i hp;rw [if_pos hp] at h;rw [← h]
 ·rename_i hp;rw [if_neg hp] at h;rw [← h]
theorem ky {α:Type} {f:α→List UInt8} {l:List α} {p:α→Bool} (h:(l.map f).Nodup):((l.filter p).map f).Nodup:=h.sublist ((a₉).map f)
theorem ju: ∀(ks:List (List UInt8)) {s:cL},(s.ents.map (·.key)).Nodup→s.cache.Nodup→fA s ks={ s with ents:=s.ents.filter (fun e=>decide (e.key ∉ ks)),cache:=s.cache.filter (fun x=>decide (x ∉ ks)) }
 | [],s,_,_=>by
  rw [b₃.2 fun _ _=>by simp,b₃.2 fun _ _=>by simp]
  rfl
 | k :: ks,s,h1,h2=>by
  show fA (eJ (dC s k).1 k) ks=_
  rw [uz h1]
  unfold eJ
  dsimp only
  rw [fC h2,ju ks (ky h1) (h2.sublist a₉)]
  dsimp only
  rw [d₉,d₉]
  congr 1
  ·congr 1
   funext e
   simp [Bool.and_comm]
  ·congr 1
   funext e
   simp [Bool.and_comm]
theorem uA {k:List UInt8} {l:List (List UInt8)} {size:Int} (hd:l.Nodup) (hk:k∈l):gL k l size=l.filter (fun x=>decide (x≠k)) ++ [k] :=by
 have hp: ¬ posK k l 0 < 0:=fun h=>(gE k l 0).1 h hk
 unfold gL;rw [if_pos om,← fC hd];unfold gD;rw [if_neg hp]
theorem nj {k:List UInt8} {l:List (List UInt8)} {size:Int} (hk:k ∉ l):gL k l size=rG k l (max 0 (min size 1024)):=by
 unfold gL;rw [if_neg (by have:=(gE k l 0).2 hk;omega)]
theorem AU {k:List UInt8} {l:List (List UInt8)} {size:Int} (hd:l.Nodup):(gL k l size).Nodup:=by
 by_cases hk:k∈l
 ·rw [uA hd hk];refine c₇.2 ⟨hd.sublist a₉,sm,fun a ha b hb=>?_⟩;rw [a₄.1 hb];have:=(b₅.1 ha).2;simpa using this
 ·rw [nj hk];have:(l ++ [k]).Nodup:=c₇.2 ⟨hd,sm,fun a ha b hb e=>hk (by rw [← a₄.1 hb,← e];exact ha)⟩;unfold rG;split
  ·exact this.sublist (List.drop_sublist _ _)
  ·exact this
theorem Gk {k:List UInt8} {l:List (List UInt8)} {size:Int} (h0:0≤size∧size≤1024) (hd:l.Nodup) (hl:(l.length:Int)≤size):((gL k l size).length:Int)≤size:=by
 by_cases hk:k∈l
 ·rw [uA hd hk,a₁,a₂];have:(l.filter (fun x=>decide (x≠k))).length < l.length:=by
   rw [List.length_filter_lt_length_iff_exists];exact⟨k,hk,sm⟩
  omega
 ·rw [nj hk];unfold rG;split
  ·rw [c₉,a₁,a₂];omega
  ·rename_i h;rw [a₁,a₂];omega
theorem AV {k:List UInt8} {l:List (List UInt8)} (hd:l.Nodup):(gD k l).Nodup:=by rw [fC hd];exact hd.sublist List.filter_sublist
structure cZ (s:cL):Prop where
 cl:(s.cache.length:Int)≤s.cfg.cache
 cd:s.cache.Nodup
 el:(s.ents.length:Int)≤s.cfg.maxTxs
 eb:(bytesS s.ents:Int)≤s.cfg.maxBytes
 kd:(s.ents.map (·.key)).Nodup
 ks: ∀e∈s.ents,e.key=aT e.raw∧(e.raw.length:Int)≤s.cfg.maxTx
 od:s.ents.Pairwise (fun a b=>a.order < b.order)
 oa: ∀e∈s.ents,e.order < s.arr
theorem lA {s:cL} (k:List UInt8) (hc:qC s.cfg) (h:cZ s):cZ (bm s k):=⟨Gk hc.cache h.cd h.cl,AU h.cd,h.el,h.eb,h.kd,h.ks,h.od,h.oa⟩
theorem uB {s:cL} (k:List UInt8) (h:cZ s):cZ (eJ s k):=by
 refine⟨?_,AV h.cd,h.el,h.eb,h.kd,h.ks,h.od,h.oa⟩;have:=h.cl;have:=d₃ (fun x=>decide (x≠k)) s.cache
 show((gD k s.cache).length:Int)≤_
 rw [fC h.cd]
 show _≤s.cfg.cache
 omega
theorem pI {s:cL} (k:List UInt8) (h:cZ s):cZ (dw s k):=by
 unfold dw;split
 ·exact h
 ·exact uB k h
theorem CP {l m:List Ent} (h:l.map (fun e=>e.raw.length)=m.map (fun e=>e.raw.length)):bytesS l=bytesS m:=by unfold bytesS;rw [h]
theorem CQ {s:cL} (i peer:Int) (h:cZ s):cZ (dj s i peer):=by
 unfold dj;split
 ·split
  ·rename_i e he;split
   ·exact h
   ·have hj:=(List.getElem?_eq_some_iff.1 he).1;have hm: ∀{β:Type} (f:Ent→β),(∀ps,f { e with peers:=ps }=f e)→∀ps,(s.ents.set i.toNat { e with peers:=ps }).map f=s.ents.map f:=by
     intro β f hf ps;rw [d₆,hf];apply List.ext_getElem?;intro j;rw [List.getElem?_set];split
     ·rename_i hij;subst hij;rw [if_pos (by simpa using hj),List.getElem?_map,he];rfl
     ·rfl
    have mem: ∀x∈s.ents.set i.toNat { e with peers:=e.peers ++ [peer] },∃y∈s.ents,y.key=x.key∧y.raw=x.raw∧y.order=x.order:=by
     intro x hx;rcases c₈ hx with hx | rfl
     ·exact⟨x,hx,rfl,rfl,rfl⟩
     ·exact⟨e,List.mem_of_getElem? he,rfl,rfl,rfl⟩
    refine⟨h.cl,h.cd,?_,?_,?_,fun x hx=>?_,?_,fun x hx=>?_⟩
    ·dsimp only;rw [b₀];exact h.el
    ·dsimp only;rw [CP (hm (fun e=>e.raw.length) (fun _=>rfl) _)];exact h.eb
    ·dsimp only;rw [hm (·.key) (fun _=>rfl)];exact h.kd
    ·obtain⟨y,hy,h1,h2,_⟩:=mem x hx;rw [← h1,← h2];exact h.ks y hy
    ·have h1:=h.od;rw [← List.pairwise_map (f:=fun e:Ent=>e.order) (R:=fun a b:Int=>a < b)] at h1 ⊢;dsimp only;rw [hm (·.order) (fun _=>rfl)];exact h1
    ·obtain⟨y,hy,_,_,h3⟩:=mem x hx;rw [← h3];exact h.oa y hy
  ·exact h
 ·exact h
end
section
theorem AW (p s t m:Int): ∀(O:List Ent) (c b:Int),∃k,k≤O.length∧selG p s t m O c b=(O.take k,c - k,b - bytesS (O.take k))∧
  (∀j (hj:j < O.length),j < k→gA (c - j) (b - bytesS (O.take j)) s t m=false∧O[j].prio < p)
 | [],c,b=>⟨0,b₂ _,by simp [selG,bytesS],fun j hj=>absurd hj (e₃ _)⟩
 | e :: l,c,b=>by
  rw [selG]
  cases hr:gA c b s t m || decide (p≤e.prio) with
  | true=>exact ⟨0,c₅ _,by simp [bytesS],fun j hj h=>absurd h (e₃ _)⟩
  | false=>
   obtain⟨k,h1,h2,h3⟩:=AW p s t m l (c - 1) (b - e.raw.length)
   rw [Bool.or_eq_false_iff] at hr
   have hb: ∀j,b - e.raw.length - bytesS (l.take j)=b - bytesS ((e :: l).take (j + 1)):=fun j=>by
    rw [c₄];simp [bytesS];omega
   refine⟨k + 1,by simp;omega,?_,fun j hj hjk=>?_⟩
   ·rw [h2,hb]
    simp only [c₄,b₇,true_and,and_true]
    omega
   ·cases j with
    | zero=>exact ⟨by simpa [bytesS] using hr.1,by have:=oF hr.2;simpa using this⟩
    | succ j=>
     have:=h3 j (by simpa using hj) om
     rw [hb] at this
     refine⟨?_,by simpa using this.2⟩
     rw [← this.1]
     congr 1
     omega
theorem Gl {p s t m:Int} {l:List Ent} (h:(cK p s t m l).2=true): ∃k,k≤(aB l).length∧(cK p s t m l).1=((aB l).take k).map (·.key)∧
  (∀j (hj:j < (aB l).length),j < k→gA ((l.length:Int) - j) ((bytesS l:Int) - bytesS ((aB l).take j)) s t m=false∧(aB l)[j].prio < p)∧gA ((l.length:Int) - k) ((bytesS l:Int) - bytesS ((aB l).take k)) s t m=true:=by
 obtain⟨k,h1,h2,h3⟩:=AW p s t m (aB l) l.length (bytesS l)
 refine⟨k,h1,?_,h3,?_⟩
 ·unfold cK at h ⊢
  rw [h2] at h ⊢
  dsimp only at h ⊢
  cases hr:gA ((l.length:Int) - k) ((bytesS l:Int) - bytesS ((aB l).take k)) s t m with
  | true=>rfl
  | false=>rw [hr] at h;cases h
 ·unfold cK at h
  rw [h2] at h
  dsimp only at h
  cases hr:gA ((l.length:Int) - k) ((bytesS l:Int) - bytesS ((aB l).take k)) s t m with
  | true=>rfl
  | false=>rw [hr] at h;cases h
theorem I4 (c b s t m:Int) (hs:0≤s) (hm:0≤m):gA c b s t m=decide (c + 1≤t∧b + s≤m):=by
 unfold gA;exact decide_eq_decide.2 om
theorem rK: ∀(O:List Ent) (k:Nat),(O.map (·.key)).Nodup→O.filter (fun e=>decide (e.key ∉ (O.take k).map (·.key)))=O.drop k
 | [],k,_=>by simp
 | e :: O,0,_=>by
  rw [List.take_zero,d₂]
  exact b₃.2 fun _ _=>by simp
 | e :: O,k + 1,h=>by
  rw [b₁,e₂] at h
  rw [c₄,List.drop_succ_cons,← rK O k h.2,List.filter_cons_of_neg sm]
  refine List.filter_congr fun x hx=>?_
  have:x.key≠e.key:=fun he=>h.1 (by rw [← he];exact d₅ hx)
  simp [this]
theorem I5 {p sz t m:Int} {l:List Ent} (hd:(l.map (·.key)).Nodup) (h0:0≤sz) (hm:0≤m) (h:(cK p sz t m l).2=true) :
  ((l.filter fun e=>decide (e.key ∉ (cK p sz t m l).1)).length:Int) + 1≤t∧(bytesS (l.filter fun e=>decide (e.key ∉ (cK p sz t m l).1)):Int) + sz≤m∧(cK p sz t m l).1.Nodup∧
  ∃k,(cK p sz t m l).1=((aB l).take k).map (·.key)∧∀e∈(aB l).take k,e∈l∧e.prio < p:=by
 obtain⟨k,h1,h2,h3,h4⟩:=Gl h
 have hp:=js l
 have hO:((aB l).map (·.key)).Nodup:=(hp.map _).nodup_iff.2 hd
 have hf:(l.filter fun e=>decide (e.key ∉ (cK p sz t m l).1)).Perm ((aB l).drop k):=by
  rw [h2,← rK _ k hO]
  exact(hp.filter _).symm
 rw [I4 _ _ _ _ _ h0 hm] at h4
 have h4:=ot h4
 have hl:l.length=(aB l).length:=hp.length_eq.symm
 have hb:=gC (aB l) k
 rw [lu hp] at hb
 refine⟨?_,?_,?_,k,h2,fun e he=>⟨hp.mem_iff.1 (d₄ he),?_⟩⟩
 ·rw [hf.length_eq,c₉];omega
 ·rw [lu hf];omega
 ·rw [h2];exact hO.sublist ((List.take_sublist _ _).map _)
 ·obtain⟨j,hj,rfl⟩:=List.mem_iff_getElem.1 he
  rw [b₈] at hj
  rw [List.getElem_take]
  exact(h3 j om om).2
theorem AX {s:cL} {key raw:List UInt8} {peer:Int} {r:lp} (hc:qC s.cfg) (h:cZ s) (hk:key=aT raw) (hnew: ∀e∈s.ents,e.key≠key) (hr:(raw.length:Int)≤s.cfg.maxTx) (hsel:(cK r.prio raw.length s.cfg.maxTxs s.cfg.maxBytes s.ents).2=true) :
  cZ (fS s key raw peer r (cK r.prio raw.length s.cfg.maxTxs s.cfg.maxBytes s.ents).1):=by
 obtain⟨h1,h2,_,_⟩:=I5 h.kd om (by have:=hc.maxBytes;omega) hsel
 generalize (cK r.prio raw.length s.cfg.maxTxs s.cfg.maxBytes s.ents).1=ks at *
 unfold fS
 rw [ju ks h.kd h.cd]
 dsimp only
 have hb: ∀(a:List Ent) (e:Ent),bytesS (a ++ [e])=bytesS a + e.raw.length:=fun a e=>by simp [bytesS]
 refine⟨?_,h.cd.sublist a₉,?_,?_,?_,fun x hx=>?_,?_,fun x hx=>?_⟩
 ·have:=d₃ (fun x=>decide (x ∉ ks)) s.cache
  have:=h.cl
  dsimp only
  omega
 ·dsimp only
  rw [a₁,a₂]
  omega
 ·dsimp only
  rw [hb]
  unfold AT
  dsimp only
  omega
 ·dsimp only
  rw [b₄,List.map_singleton]
  refine c₇.2 ⟨ky h.kd,sm,fun a ha b hb=>?_⟩
  rw [a₄.1 hb]
  obtain⟨e,he,rfl⟩:=d₈.1 ha
  exact hnew e (b₅.1 he).1
 ·rcases c₃.1 hx with hx | hx
  ·exact h.ks x (b₅.1 hx).1
  ·rw [a₄.1 hx]
   exact⟨hk,hr⟩
 ·dsimp only
  refine List.pairwise_append.2 ⟨h.od.sublist a₉,sm,fun a ha b hb=>?_⟩
  rw [a₄.1 hb]
  exact h.oa a (b₅.1 ha).1
 ·dsimp only
  rcases c₃.1 hx with hx | hx
  ·have:=h.oa x (b₅.1 hx).1
   omega
  ·rw [a₄.1 hx]
   show s.arr < s.arr + 1
   omega
theorem uC {s:cL} {key:List UInt8}: ¬ 0≤jF key s.ents↔ ∀e∈s.ents,e.key≠key:=by
 have h:=gE key (s.ents.map (·.key)) 0;unfold jF;rw [show (¬ 0≤posK key (s.ents.map (·.key)) 0)↔posK key (s.ents.map (·.key)) 0 < 0 by omega,h];simp only [d₈,not_exists,not_and]
theorem jG {s:cL} {raw:List UInt8} {peer:Int} (hc:qC s.cfg) (h:cZ s):cZ (aO s raw peer).1:=by
 unfold aO fB;dsimp only;have hp:=lA (aT raw) hc h;generalize hk:aT raw=key at *;split
 ·exact h
 split
 ·exact h
 split
 ·exact CQ _ _ hp
 rename_i h1 h2 h3;split
 ·exact pI _ hp
 split
 ·exact pI _ hp
 split
 ·exact uB _ hp
 rename_i h4;refine AX (s:=bm s key) hc hp hk.symm (uC.1 (by show ¬ 0≤jF key s.ents;omega)) (by show(raw.length:Int)≤s.cfg.maxTx;omega) ?_;cases hq:(cK (bM (bm s key).app raw).prio raw.length (bm s key).cfg.maxTxs (bm s key).cfg.maxBytes (bm s key).ents).2 with
 | true=>rfl
 | false=>exact absurd hq h4
end
section
def uD:List fR→jc→jc
 | [],x=>x
 | f :: r,x=>if f.num=1 then uD r ⟨f.bytes,x.amt⟩ else if f.num=2 then uD r ⟨x.to_,f.val⟩ else uD r x
def ik (b:List UInt8):jc:=uD (aH b).1 ⟨[],0⟩
def fN:List fR→iP→iP
 | [],t=>t
 | f :: r,t=>
  if f.num=1 then fN r ⟨f.bytes,t.seq,t.gas,t.fee,t.memo,t.trs⟩ else
  if f.num=2 then fN r ⟨t.sender,f.val,t.gas,t.fee,t.memo,t.trs⟩ else
  if f.num=3 then fN r ⟨t.sender,t.seq,f.val,t.fee,t.memo,t.trs⟩ else
  if f.num=4 then fN r ⟨t.sender,t.seq,t.gas,f.val,t.memo,t.trs⟩ else
  if f.num=5 then fN r ⟨t.sender,t.seq,t.gas,t.fee,f.bytes,t.trs⟩ else
  if f.num=6 then fN r ⟨t.sender,t.seq,t.gas,t.fee,t.memo,t.trs ++ [ik f.bytes]⟩ else fN r t
theorem yw: ∀(l:List fR) (x:jc),(jq l x).2=true→uD l x=(jq l x).1
 | [],x,_=>rfl
 | f :: r,x,h=>by
  rw [jq] at h ⊢
  rw [uD]
  split at h
  ·rename_i h1;rw [if_pos h1.1,if_pos h1];exact yw r _ h
  ·rename_i h1
   split at h
   ·rename_i h2;rw [if_neg om,if_pos h2.1,if_neg h1,if_pos h2];exact yw r _ h
   ·cases h
theorem I6 {b:List UInt8} (h:(dk b).2=true):ik b=(dk b).1:=by
 unfold dk at h ⊢;unfold ik;have h1:=yw (aH b).1 ⟨[],0⟩;generalize jq (aH b).1 ⟨[],0⟩=r at *;obtain⟨x,ok⟩:=r;dsimp only at *;rw [c₀] at h;exact h1 h.1
theorem uE: ∀(l:List fR) (t:iP),(bA l t).2=true→fN l t=(bA l t).1
 | [],t,_=>rfl
 | f :: r,t,h=>by
  rw [bA] at h ⊢
  rw [fN]
  split at h
  ·rename_i h1;rw [if_pos h1.1,if_pos h1];exact uE r _ h
  rename_i n1
  split at h
  ·rename_i h2;rw [if_neg om,if_pos h2.1,if_neg n1,if_pos h2];exact uE r _ h
  rename_i n2
  split at h
  ·rename_i h3;rw [if_neg om,if_neg om,if_pos h3.1,if_neg n1,if_neg n2,if_pos h3];exact uE r _ h
  rename_i n3
  split at h
  ·rename_i h4;rw [if_neg om,if_neg om,if_neg om,if_pos h4.1,if_neg n1,if_neg n2,if_neg n3,if_pos h4];exact uE r _ h
  rename_i n4
  split at h
  ·rename_i h5;rw [if_neg om,if_neg om,if_neg om,if_neg om,if_pos h5.1,if_neg n1,if_neg n2,if_neg n3,if_neg n4,if_pos h5];exact uE r _ h
  rename_i n5
  split at h
  ·rename_i h6
   rw [if_neg om,if_neg om,if_neg om,if_neg om,if_neg om,if_pos h6.1,if_neg n1,if_neg n2,if_neg n3,if_neg n4,if_neg n5,if_pos h6]
   split at h
   ·rename_i h7;rw [if_pos h7,I6 h7];exact uE r _ h
   ·cases h
  ·cases h
theorem AY (n:Nat) (s s':List UInt8):(bD n s).length≤(bD n s').length + 1:=by
 unfold bD;split <;> split <;> simp
theorem yx (n v v':Nat):(cC n v).length≤(cC n v').length + 1:=by
 unfold cC;split <;> split <;> simp
theorem dO (t:iP):(iC t).length=(bD 1 t.sender).length + (cC 2 t.seq).length + (cC 3 t.gas).length + (cC 4 t.fee).length + (bD 5 t.memo).length + t.trs.length:=by
 unfold iC;simp only [a₁,List.length_map]
theorem jH: ∀(l:List fR) (t:iP),(iC (fN l t)).length≤(iC t).length + l.length
 | [],t=>by rw [fN];simp
 | f :: r,t=>by
  rw [fN,d₀]
  split
  ·have h:=jH r ⟨f.bytes,t.seq,t.gas,t.fee,t.memo,t.trs⟩
   have:=AY 1 f.bytes t.sender
   rw [dO ⟨f.bytes,t.seq,t.gas,t.fee,t.memo,t.trs⟩] at h;rw [dO t];dsimp only at h;omega
  split
  ·have h:=jH r ⟨t.sender,f.val,t.gas,t.fee,t.memo,t.trs⟩
   have:=yx 2 f.val t.seq
   rw [dO ⟨t.sender,f.val,t.gas,t.fee,t.memo,t.trs⟩] at h;rw [dO t];dsimp only at h;omega
  split
  ·have h:=jH r ⟨t.sender,t.seq,f.val,t.fee,t.memo,t.trs⟩
   have:=yx 3 f.val t.gas
   rw [dO ⟨t.sender,t.seq,f.val,t.fee,t.memo,t.trs⟩] at h;rw [dO t];dsimp only at h;omega
  split
  ·have h:=jH r ⟨t.sender,t.seq,t.gas,f.val,t.memo,t.trs⟩
   have:=yx 4 f.val t.fee
   rw [dO ⟨t.sender,t.seq,t.gas,f.val,t.memo,t.trs⟩] at h;rw [dO t];dsimp only at h;omega
  split
  ·have h:=jH r ⟨t.sender,t.seq,t.gas,t.fee,f.bytes,t.trs⟩
   have:=AY 5 f.bytes t.memo
   rw [dO ⟨t.sender,t.seq,t.gas,t.fee,f.bytes,t.trs⟩] at h;rw [dO t];dsimp only at h;omega
  split
  ·have h:=jH r ⟨t.sender,t.seq,t.gas,t.fee,t.memo,t.trs ++ [ik f.bytes]⟩
   rw [dO ⟨t.sender,t.seq,t.gas,t.fee,t.memo,t.trs ++ [ik f.bytes]⟩] at h;rw [dO t];dsimp only at h
   rw [a₁,a₂] at h;omega
  ·have h:=jH r t
   omega
theorem yy: ∀(l:List fR) (x:jc),(∀f∈l,jM f∧f.bytes.length≤5000)→mo x→mo (uD l x)
 | [],x,_,h=>h
 | f :: r,x,hl,h=>by
  have hf:=hl f sm
  have hr: ∀g∈r,jM g∧g.bytes.length≤5000:=fun g hg=>hl g (by simp [hg])
  rw [uD]
  split
  ·exact yy r _ hr ⟨hf.2,h.2⟩
  split
  ·exact yy r _ hr ⟨h.1,by have:=hf.1;unfold jM at this;unfold bl;dsimp only;omega⟩
  ·exact yy r _ hr h
theorem Gm {b:List UInt8} (hb:b.length≤5000):mo (ik b):=by
 have h:=fm b;exact yy _ _ (fun f hf=>⟨(h.1 f hf).1,by have:=(h.1 f hf).2;omega⟩) ⟨sm,by simp [bl]⟩
theorem mF: ∀(l:List fR) (t:iP),(∀f∈l,jM f∧f.bytes.length≤5000)→t.trs.length + l.length≤5000→gT t→gT (fN l t)
 | [],t,_,_,h=>h
 | f :: r,t,hl,hn,h=>by
  have hf:=hl f sm
  have hr: ∀g∈r,jM g∧g.bytes.length≤5000:=fun g hg=>hl g (by simp [hg])
  have hv:bl f.val:=by have:=hf.1;unfold jM at this;unfold bl;omega
  simp only [d₀] at hn
  have hh:=h
  obtain⟨h1,h2,h3,h4,h5,h6,h7⟩:=h
  rw [fN]
  split
  ·exact mF r _ hr dm ⟨hf.2,h2,h3,h4,h5,h6,h7⟩
  split
  ·exact mF r _ hr dm ⟨h1,hv,h3,h4,h5,h6,h7⟩
  split
  ·exact mF r _ hr dm ⟨h1,h2,hv,h4,h5,h6,h7⟩
  split
  ·exact mF r _ hr dm ⟨h1,h2,h3,hv,h5,h6,h7⟩
  split
  ·exact mF r _ hr dm ⟨h1,h2,h3,h4,hf.2,h6,h7⟩
  split
  ·exact mF r _ hr (by dsimp only;rw [a₁,a₂];omega) ⟨h1,h2,h3,h4,h5,by dsimp only;rw [a₁,a₂];omega,fj h7 fun x hx=>by rw [a₄.1 hx];exact Gm hf.2⟩
  ·exact mF r _ hr om hh
theorem uF {raw:List UInt8} (h:raw.length≤4096):gT (fN (aH raw).1 tx0):=by
 have hf:=fm raw;refine mF _ tx0 (fun f hm=>⟨(hf.1 f hm).1,by have:=(hf.1 f hm).2;omega⟩) ?_ uc
 show 0 + _≤_
 omega
theorem CR {x:jc} (h:mo x):dk (mq x).bytes=(x,true):=by
 have hok:=py h;unfold dk mq;dsimp only;have hf:aH (bg (bD 1 x.to_ ++ cC 2 x.amt))=(bD 1 x.to_ ++ cC 2 x.amt,0,0):=by
  have:=oc (bD 1 x.to_ ++ cC 2 x.amt) 1024 0 [] (fun f hf=>(hok.1 f hf).1) om;simpa [aH] using this
 rw [hf];have hr:jq (bD 1 x.to_ ++ cC 2 x.amt) ⟨[],0⟩=(x,true):=by
  obtain⟨to_,amt⟩:=x;unfold bD cC;dsimp only;by_cases h1:to_= [] <;> by_cases h2:amt=0 <;> simp [h1,h2,jq]
 rw [hr];simp
theorem I7: ∀(l:List jc) (t:iP),(∀x∈l,mo x)→bA (l.map mq) t=(⟨t.sender,t.seq,t.gas,t.fee,t.memo,t.trs ++ l⟩,true)
 | [],t,_=>by simp [bA]
 | x :: l,t,h=>by
  rw [b₁,bA]
  have h1:=CR (h x sm)
  have n6:(mq x).num=6:=rfl
  have k2:(mq x).kind=2:=rfl
  rw [n6,k2,h1]
  simp only [show ¬ ((6:Nat)=1∧(2:Nat)=2) by omega,show ¬ ((6:Nat)=2∧(2:Nat)=0) by omega,show ¬ ((6:Nat)=3∧(2:Nat)=0) by omega,show ¬ ((6:Nat)=4∧(2:Nat)=0) by omega,show ¬ ((6:Nat)=5∧(2:Nat)=2) by omega,if_false,and_self,if_true]
  refine(I7 l _ fun y hy=>h y (by simp [hy])).trans ?_
  simp
theorem LP {t:iP} (h:gT t):bA (iC t) tx0=(t,true):=by
 obtain⟨sender,seq,gas,fee,memo,trs⟩:=t;obtain⟨h1,h2,h3,h4,h5,h6,h7⟩:=h;dsimp only at h7;unfold iC;dsimp only;have t1: ∀(r:List fR),bA (bD 1 sender ++ r) ⟨[],0,0,0,[],[]⟩=bA r ⟨sender,0,0,0,[],[]⟩:=fun r=>by
  unfold bD;by_cases h:sender= [] <;> simp [h,bA]
 have t2: ∀(r:List fR),bA (cC 2 seq ++ r) ⟨sender,0,0,0,[],[]⟩=bA r ⟨sender,seq,0,0,[],[]⟩:=fun r=>by
  unfold cC;by_cases h:seq=0 <;> simp [h,bA]
 have t3: ∀(r:List fR),bA (cC 3 gas ++ r) ⟨sender,seq,0,0,[],[]⟩=bA r ⟨sender,seq,gas,0,[],[]⟩:=fun r=>by
  unfold cC;by_cases h:gas=0 <;> simp [h,bA]
 have t4: ∀(r:List fR),bA (cC 4 fee ++ r) ⟨sender,seq,gas,0,[],[]⟩=bA r ⟨sender,seq,gas,fee,[],[]⟩:=fun r=>by
  unfold cC;by_cases h:fee=0 <;> simp [h,bA]
 have t5: ∀(r:List fR),bA (bD 5 memo ++ r) ⟨sender,seq,gas,fee,[],[]⟩=bA r ⟨sender,seq,gas,fee,memo,[]⟩:=fun r=>by
  unfold bD;by_cases h:memo= [] <;> simp [h,bA]
 rw [a₈,a₈,a₈,a₈]
 show bA _ ⟨[],0,0,0,[],[]⟩=_
 rw [t1,t2,t3,t4,t5,I7 trs _ h7];simp
theorem Gn (raw:List UInt8):aI raw=if 4096 < raw.length then(tx0,3) else if (aH raw).2.2≠0∨eQ (fN (aH raw).1 tx0)≠raw then(tx0,4) else if cE (fN (aH raw).1 tx0)≠0 then(tx0,cE (fN (aH raw).1 tx0)) else(fN (aH raw).1 tx0,0):=by
 unfold aI;by_cases h1:4096 < raw.length
 ·rw [if_pos h1,if_pos h1]
 rw [if_neg h1,if_neg h1];by_cases he:(aH raw).2.2≠0
 ·rw [if_pos (.inl he),if_pos (.inl he)]
 by_cases hok:(bA (aH raw).1 tx0).2=true
 ·rw [uE _ _ hok];by_cases hf:eQ (bA (aH raw).1 tx0).1≠raw
  ·rw [if_pos (.inr (.inr hf)),if_pos (.inr hf)]
  ·have n1: ¬ ((aH raw).2.2≠0∨(bA (aH raw).1 tx0).2=false∨eQ (bA (aH raw).1 tx0).1≠raw):=fun h=>h.elim he fun h=>h.elim (fun h=>by rw [hok] at h;cases h) hf
   have n2: ¬ ((aH raw).2.2≠0∨eQ (bA (aH raw).1 tx0).1≠raw):=fun h=>h.elim he hf
   rw [if_neg n1,if_neg n2]
 ·have hno:(bA (aH raw).1 tx0).2=false:=by simpa using hok
  suffices hx:eQ (fN (aH raw).1 tx0)≠raw by rw [if_pos (.inr (.inl hno)),if_pos (.inr hx)]
  intro hf;have hsm:=uF (raw:=raw) om;have hlen:=jH (aH raw).1 tx0;have h1024:=(fm raw).2;have h0:(iC tx0).length=0:=rfl;have hfo:=tY hsm;have hfm:=oc (iC (fN (aH raw).1 tx0)) 1024 0 [] (fun f hf=>(hfo.1 f hf).1) om;have e:aH raw=(iC (fN (aH raw).1 tx0),0,0):=by
   have h2:aH (eQ (fN (aH raw).1 tx0))=(iC (fN (aH raw).1 tx0),0,0):=by simpa [aH,eQ] using hfm
   rw [hf] at h2;exact h2
  have e1:(aH raw).1=iC (fN (aH raw).1 tx0):=congrArg Prod.fst e;have e2:=LP hsm;rw [← e1] at e2;exact absurd (show(bA (aH raw).1 tx0).2=true by rw [e2]) (by rw [hno];simp)
end
section
section
variable {Pg:Program} {G:GS} {f:FuncId} {args:List MV} {M0 M1:VM} {n0 n1:Nat} {res:MV}
theorem I8 {w:World} {P:bE} {adr adr2:er} {ρ:Nat→Nat} {b:MB} {g:Nat} (h:nv w P adr b g) (k: ∀c g,adr c=some g→adr2 (ρ c)=some g):nv w P adr2 { b with l:=bif b.row then b.l else renVs ρ b.l } g:=by
 have hlen:(bif b.row then b.l else renVs ρ b.l).length=b.l.length:=by
  cases b.row
  ·exact fg _
  ·rfl
 refine⟨?_,h.pe,by simp only [hlen];exact h.le⟩;rcases h.has' with ⟨cur,parts,c1,c2,c3,c4,c5⟩ | ⟨m1,m2,ks,vs,o,m3,m4,m5⟩
 ·refine .inl ⟨cur,parts,c1,by simp only [hlen];exact c2,c3,fun j x p hx hp=>?_,c5⟩;simp only at hx ⊢;cases hrow:b.row with
  | true=>rw [hrow] at hx c4;exact c4 j x p hx hp
  | false=>
   rw [hrow] at hx c4;simp only [cond_false,gP] at hx;cases hj:b.l[j]? with
   | none=>rw [hj] at hx;cases hx
   | some y=>
    rw [hj] at hx;injection hx with hx
    subst hx;exact oO (c4 j y p hj hp) k
 ·exact .inr ⟨m1,m2,ks,vs,o,by simp [m1,m3,renVs,cJ],m4,m5⟩
def AZ (a n1:Nat) (c:Nat):Nat:=bif Nat.beq c a then n1 else c
theorem rL (a:Nat) (ha:a < n1) (hn:n0≤n1) (hall:M1.all (fun x=>Nat.blt x.1 n1)=true) (h:aL Pg G f args M0 n0 res M1 n1):aL Pg G f args M0 n0 (cJ (AZ a n1) res) (jL (AZ a n1) M1) (n1 + 1):=by
 intro w P adr vals h1 h2 h3 h4 h5;refine(h w P adr vals h1 h2 h3 h4 h5).mono ?_;rintro e w' ⟨v,rfl,P',adr',j1,j2,j3,j4,j5,j6,j7,j8⟩;have hlt: ∀{c b},VM.get M1 c=some b→c < n1:=fun {c b} hc=>by
  rcases Nat.lt_or_ge c n1 with h | h
  ·exact h
  ·rw [qf hall h] at hc;cases hc
 have hr: ∀c,AZ a n1 c=if c=a then n1 else c:=fun c=>by
  unfold AZ;by_cases h:c=a
  ·subst h;simp
  ·simp [fT h,h]
 have key: ∀c g,adr' c=some g→(fun c=>if c=n1 then adr' a else adr' c) (AZ a n1 c)=some g:=fun c g hc=>by
  dsimp only;rw [hr];by_cases h:c=a
  ·subst h;simp [hc]
  ·rw [if_neg h,if_neg]
   ·exact hc
   ·rintro rfl;rw [j5 c (b₂ _)] at hc;cases hc
 have hinj: ∀c d b b',VM.get M1 c=some b→VM.get M1 d=some b'→AZ a n1 c=AZ a n1 d→c=d:=fun c d b b' hc hd he=>by
  have:=hlt hc;have:=hlt hd;rw [hr,hr] at he;split at he <;> split at he <;> omega
 have back: ∀c,c < n1→(fun c=>if c=n1 then adr' a else adr' c) (AZ a n1 c)=adr' c:=fun c hc=>by
  dsimp only;rw [hr];by_cases h:c=a
  ·subst h;simp
  ·rw [if_neg h,if_neg om]
 refine⟨v,rfl,P',fun c=>if c=n1 then adr' a else adr' c,⟨fun c b' hc=>?_,fun c c' b1 b2 g hc hc' hg hg'=>?_,j1.prot⟩,s9 j2 key,⟨j3.prot,j3.cell,fun c g hc=>?_,j3.size⟩,fun c hc=>?_,fun c hc=>?_,fun c g hc=>?_,j7,j8⟩
 ·obtain⟨c0,b0,rfl,hc0,rfl⟩:=jX M1 c b' hc hinj;rcases j1.blk c0 b0 hc0 with q | ⟨g,q1,q2⟩
  ·refine .inl ⟨q.1,?_,(back c0 (hlt hc0)).trans q.2.2.1,q.2.2.2⟩;simp [q.1,q.2.1]
  ·exact .inr ⟨g,key c0 g q1,I8 q2 key⟩
 ·obtain⟨c0,b0,rfl,hc0,rfl⟩:=jX M1 c b1 hc hinj;obtain⟨d0,d1,rfl,hd0,rfl⟩:=jX M1 c' b2 hc' hinj;rw [j1.inj c0 d0 b0 d1 g hc0 hd0 ((back c0 (hlt hc0)).symm.trans hg) ((back d0 (hlt hd0)).symm.trans hg')]
 ·have hk:=j3.num c g hc;have:c≠n1:=by rintro rfl;rw [j5 c (b₂ _)] at hk;cases hk
  simp only [this,if_false];exact hk
 ·have:c≠n1:=om;simp only [this,if_false];exact j4 c hc
 ·have:c≠n1:=om;simp only [this,if_false];exact j5 c om
 ·by_cases h:c=n1
  ·simp only [h,if_true] at hc;exact j6 a g hc
  ·simp only [h,if_false] at hc;exact j6 c g hc
end
end
section
variable {G:GS}
attribute [local irreducible] aj aC aG aM aQ vC aY aA
def yX (c:Nat) (b:List UInt8):VM:= [(0,⟨278,1,false,0,[.st [.ms c 1 0 b.length]]⟩),(c,⟨5,1,true,0,u8s b⟩)]
abbrev P7:MV:= .ptr 0 1 0 0 []
theorem yz (f:fR) (hf:jM f) (hb:f.bytes.length < 400000000) :
  aL Tryz.prog G 247 [.sl 0 [],dz f] [] 0 (.tup [.ms 0 1 0 (bT f).length, .int .i64 0]) (kZ (bT f)) 1:=by
 have:=Ip (G:=G) [] f hf (by simpa using hb)
 simpa [u8s] using this
theorem qF (b s:List UInt8) (n:Nat) (hn:1≤n∧n≤100) (hb:b.length < 400000000) (hs:s.length < 100000000) :
  aL Tryz.prog G 233 [P7, .int .i64 n, .ifc 9 (.str s)] (yX 1 b) 2 (.tup []) (yX 2 (b ++ bg (bD n s))) 3:=by
 by_cases h0:s= []
 ·subst h0
  have e:bg (bD n [])= [] :=rfl
  rw [e,d₁]
  refine rL (n1:=2) 1 (by decide) (by decide) rfl (res:= .tup []) (M1:=yX 1 b) ?_
  unfold yX
  refine bU seat Tryz.func233 61 ?_
  refine ad ?_
  exact en []
 ·have e:bg (bD n s)=bT ⟨n,2,0,s⟩:=by unfold bD;rw [if_neg h0];simp [bg]
  have hok:jM (⟨n,2,0,s⟩:fR):=⟨dm,dm, .inr ⟨rfl,rfl,dm⟩⟩
  have c1:=yz (G:=G) ⟨n,2,0,s⟩ hok dm
  have hpl:=k9 hok
  rw [e]
  unfold kZ dz at c1
  dsimp only at c1 hpl
  generalize bT ⟨n,2,0,s⟩=piece at *
  unfold yX
  refine bU seat Tryz.func233 61 ?_
  refine ad ?_
  refine ae rfl ?_ ?_ <;> intro h
  ·exact absurd h (by simp;intro h;exact absurd h h0)
  refine ad ?_
  refine yc (c1) [] ?_
  refine ad ?_
  refine bc rfl rfl (by intro R hR;refine dZ hR ?_;refine a₃ (b₆ (by simp [u8s])) ?_;refine⟨_,rfl,?_⟩;refine a₃ ⟨(by simp [u8s]),aF (by kernel_rfl) pf⟩ ?_;refine⟨u8s (b ++ piece),sv (by simp [u8s,cutL,a₆]),(b ++ piece).length,sv pf,?_⟩;exact hR) rfl ?_
  refine ad ?_
  exact eb [] [(2,49)] []
theorem pJ (b:List UInt8) (n v:Nat) (hn:1≤n∧n≤100) (hb:b.length < 400000000) (hv:bl v) :
  aL Tryz.prog G 233 [P7, .int .i64 n, .ifc 22 (.int .u64 v)] (yX 1 b) 2 (.tup []) (yX 2 (b ++ bg (cC n v))) 3:=by
 by_cases h0:v=0
 ·subst h0
  have e:bg (cC n 0)= [] :=rfl
  rw [e,d₁]
  refine rL (n1:=2) 1 (by decide) (by decide) rfl (res:= .tup []) (M1:=yX 1 b) ?_
  unfold yX
  refine bU seat Tryz.func233 61 ?_
  refine ad ?_
  exact en []
 ·have e:bg (cC n v)=bT ⟨n,0,v,[]⟩:=by unfold cC;rw [if_neg h0];simp [bg]
  have hok:jM (⟨n,0,v,[]⟩:fR):=⟨dm,dm, .inl ⟨rfl,rfl,hv⟩⟩
  have c1:=yz (G:=G) ⟨n,0,v,[]⟩ hok (by dsimp only;simp)
  have hpl:(bT ⟨n,0,v,[]⟩).length≤20:=by simpa using k9 hok
  rw [e]
  unfold kZ dz at c1
  dsimp only at c1 hpl
  generalize bT ⟨n,0,v,[]⟩=piece at *
  unfold yX
  refine bU seat Tryz.func233 61 ?_
  refine ad ?_
  refine ae rfl ?_ ?_ <;> intro h
  ·exact absurd h (by have:=eq_of_beq h;omega)
  refine ad ?_
  refine yc (c1) [] ?_
  refine ad ?_
  refine bc rfl rfl (by intro R hR;refine dZ hR ?_;refine a₃ (b₆ (by simp [u8s])) ?_;refine⟨_,rfl,?_⟩;refine a₃ ⟨(by simp [u8s]),aF (by kernel_rfl) pf⟩ ?_;refine⟨u8s (b ++ piece),sv (by simp [u8s,cutL,a₆]),(b ++ piece).length,sv pf,?_⟩;exact hR) rfl ?_
  refine ad ?_
  exact eb [] [(2,50)] []
theorem CS (b x:List UInt8) (n:Nat) (hn:1≤n∧n≤100) (hb:b.length < 400000000) (hs:x.length < 100000000) :
  aL Tryz.prog G 233 [P7, .int .i64 n, .ifc 51 (.sl x.length (u8s x))] (yX 1 b) 2 (.tup []) (yX 2 (b ++ bT ⟨n,2,0,x⟩)) 3:=by
 have hok:jM (⟨n,2,0,x⟩:fR):=⟨dm,dm, .inr ⟨rfl,rfl,dm⟩⟩
 have c1:=yz (G:=G) ⟨n,2,0,x⟩ hok dm
 have hpl:=k9 hok
 unfold kZ dz at c1
 dsimp only at c1 hpl
 generalize bT ⟨n,2,0,x⟩=piece at *
 unfold yX
 refine bU seat Tryz.func233 61 ?_
 refine ad ?_
 refine yc (c1) [] ?_
 refine ad ?_
 refine bc rfl rfl (by intro R hR;refine dZ hR ?_;refine a₃ (b₆ (by simp [u8s])) ?_;refine⟨_,rfl,?_⟩;refine a₃ ⟨(by simp [u8s]),aF (by kernel_rfl) pf⟩ ?_;refine⟨u8s (b ++ piece),sv (by simp [u8s,cutL,a₆]),(b ++ piece).length,sv pf,?_⟩;exact hR) rfl ?_
 refine ad ?_
 exact eb [] [(2,46)] []
end
section
variable {G:GS}
attribute [local irreducible] aj aC aG aM aQ vC aY aA
theorem msgS_app (a b:List fR):bg (a ++ b)=bg a ++ bg b:=by simp [bg]
theorem Gp (t:iP) (ht:gT t):aL Tryz.prog G 197 [nA t] [] 0 (.sl (eQ t).length (u8s (eQ t))) [] 0:=by
 have hfl:=qv ht;obtain⟨sender,seq,gas,fee,memo,trs⟩:=t;obtain⟨h1,h2,h3,h4,h5,h6,h7⟩:=ht;dsimp only at h1 h2 h3 h4 h5 h6 h7;generalize hF:eQ ⟨sender,seq,gas,fee,memo,trs⟩=F at *;have hF2: ∀k,F=bg (bD 1 sender) ++ bg (cC 2 seq) ++ bg (cC 3 gas) ++ bg (cC 4 fee) ++ bg (bD 5 memo) ++ bg ((trs.take k).map mq) ++ bg ((trs.drop k).map mq):=fun k=>by
  rw [← hF];unfold eQ iC;have e:bg (trs.map mq)=bg ((trs.take k).map mq) ++ bg ((trs.drop k).map mq):=by rw [← msgS_app,← b₄,List.take_append_drop]
  simp only [msgS_app,e,a₈]
 have hl0:=congrArg List.length (hF2 0);simp only [a₁] at hl0;have c1:=qF (G:=G) [] sender 1 om sm om;rw [c₂] at c1;generalize bg (bD 1 sender)=p1 at *;have c2:=pJ (G:=G) p1 2 seq om om h2;have q2:(p1 ++ bg (cC 2 seq)).length=p1.length + (bg (cC 2 seq)).length:=a₁;generalize p1 ++ bg (cC 2 seq)=p2 at *;have c3:=pJ (G:=G) p2 3 gas om om h3;have q3:(p2 ++ bg (cC 3 gas)).length=p2.length + (bg (cC 3 gas)).length:=a₁;generalize p2 ++ bg (cC 3 gas)=p3 at *;have c4:=pJ (G:=G) p3 4 fee om om h4;have q4:(p3 ++ bg (cC 4 fee)).length=p3.length + (bg (cC 4 fee)).length:=a₁;generalize p3 ++ bg (cC 4 fee)=p4 at *;have c5:=qF (G:=G) p4 memo 5 om om om;generalize p4 ++ bg (bD 5 memo)=p5 at *;clear hl0 q2 q3 q4 hF;unfold yX at c1 c2 c3 c4 c5;unfold nA;dsimp only;refine bU seat Tryz.func197 49 ?_;refine ad ?_;refine yc (c1) [(0,2)] ?_;refine ad ?_;refine yc (c2) [(0,2),(1,8)] ?_;refine ad ?_;refine yc (c3) [(0,2),(1,14)] ?_;refine ad ?_;refine yc (c4) [(0,2),(1,20)] ?_;refine ad ?_;refine yc (c5) [(0,2),(1,26)] ?_;refine ad ?_;refine ar Nat (fun k=> [(30, .int .i64 k),(29, .int .i64 trs.length),(28, .sl trs.length (trs.map lG)),(3, .ptr 0 1 0 0 [])]) (fun k=>yX 1 (p5 ++ bg ((trs.take k).map mq))) 2 (fun k=>k≤trs.length) (fun k=>trs.length - k) 0 (c₅ _) ?_ ?_
 ·rw [show p5 ++ bg ((trs.take 0).map mq)=p5 by simp [bg]];unfold yX;exact(vm [(0,_),(1,_)] [])
 intro k hk;have hFk:=hF2 k;have hlk:=congrArg List.length hFk;simp only [a₁] at hlk;try dsimp only
 by_cases hk':k < trs.length
 ·have hsu:p5 ++ bg ((trs.take (k + 1)).map mq)=p5 ++ bg ((trs.take k).map mq) ++ bT (mq trs[k]):=by
   rw [c₁ hk',b₄,msgS_app,a₈];congr 2;simp [bg]
  have hel:=lh hk';have hx:=h7 _ (b₉ hk');have hin:=nf hx;rw [show mq trs[k] =⟨6,2,0,bg (bD 1 trs[k].to_ ++ cC 2 trs[k].amt)⟩ from rfl] at hsu;have hb1:(p5 ++ bg ((trs.take k).map mq)).length < 400000000:=by rw [a₁];omega
  generalize p5 ++ bg ((trs.take k).map mq)=acc at *;generalize hac:p5 ++ bg ((trs.take (k + 1)).map mq)=acc2 at *;generalize trs[k] =x at *;obtain⟨to_,amt⟩:=x;unfold lG at hel;dsimp only at hel hsu hx hin;have hel:=al.mk hel;obtain⟨hx1,hx2⟩:=hx;dsimp only at hx1 hx2;rw [msgS_app] at hsu hin;have d1:=qF (G:=G) [] to_ 1 om sm om;rw [c₂] at d1;rw [a₁] at hin;have hiq:(bg (bD 1 to_) ++ bg (cC 2 amt)).length≤10040:=by rw [a₁];exact hin
  generalize bg (bD 1 to_)=i1 at *;have d2:=pJ (G:=G) i1 2 amt om om hx2;generalize i1 ++ bg (cC 2 amt)=i2 at *;have d3:=CS (G:=G) acc i2 6 om hb1 om;rw [← hsu] at d3;unfold yX at *;refine ad ?_;refine ae rfl ?_ ?_ <;> intro h
  rotate_left
  ·exact absurd (oF h) om
  refine ad ?_;refine yc (d1) [(0,7)] ?_;refine ad ?_;refine yc (d2) [(0,7),(1,13)] ?_;refine ad ?_;refine bR rfl (fun _ h=>h) rfl (d3) [(0,0),(1,1)] [(19,i2.length)] ⟨rfl,mm,rfl,lm,mm⟩ rfl rfl ?_;refine ad ?_;refine⟨k + 1,om,by show trs.length - (k + 1) < trs.length - k;omega,?_⟩;dsimp only;rw [hac];exact(vm [(0,0),(1,25)] [])
 ·have e:k=trs.length:=om;subst e;rw [e₀,show bg (([] :List jc).map mq)= [] by rfl,d₁] at hFk;rw [← hFk];unfold yX;refine ad ?_;refine ae rfl ?_ ?_ <;> intro h
  ·exact absurd (ot h) om
  refine ad ?_;refine⟨[_],[],[(1,F.length)],rfl,rfl,?_,rfl,⟨?_,trivial⟩,?_⟩
  ·exact⟨by show F.length≤(u8s F).length;simp [u8s],trivial⟩
  ·exact .inr ⟨rfl,rfl,rfl,b₆ (a₇ _),by simp [cutL,u8s,a₆]⟩
  ·exact mm
end
end Go.Proofs.YthdhlcicpcnbhaaGreatDoor
