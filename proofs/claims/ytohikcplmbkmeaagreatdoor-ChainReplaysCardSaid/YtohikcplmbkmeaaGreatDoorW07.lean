/- Parts of a proof. -/
import Derived.Test.YtohikcplmbkmeaaGreatDoorW06
open And renaming intro → a₀
open Nat renaming le_refl → a₁,zero_add → a₃,le_of_eq → a₇,zero_le → a₉,lt_succ_self → b₂,mul_le_mul_right → c₀
open Prod.mk renaming injEq → a₂
open List renaming length_singleton → a₄,length_append → a₅,map_append → a₆,nil_append → a₈,mem_singleton → b₀,take_succ_eq_append_getElem → b₁,length_nil → b₃,getD_eq_getElem?_getD → b₄,getElem_mem → b₅,take_length → b₆,length_set → b₇,take_zero → b₈,mem_of_getElem? → b₉,length_take → c₂,length_cons → c₃,sum_append → c₅
open Int renaming emod_lt_of_pos → c₁,emod_nonneg → c₄
set_option maxRecDepth 20000
set_option maxHeartbeats 16000000
set_option linter.unusedVariables false
set_option linter.unusedSimpArgs false
namespace Go.Proofs.YtohikcplmbkmeaaGreatDoor
open Go.RowKit
section
def cY (Pg:Program) (G:GS) (f:FuncId) (args:List MV) (P:MV→Prop):Prop:=vQ Pg G f args [] 0 fun r M n=>(P r∧ek r=true)∧M= [] ∧n=0
def tC (G:GS) (L:List Int) (f:FuncId) (args:List MV) (k:Nat) (P:MV→Nat→Prop):Prop:=vQ Tryz.prog G f args (eQ L k) 1 fun r M n=> ∃k',(P r k'∧ek r=true)∧M=eQ L k'∧n=1
section
variable {Pg:Program} {T:bD} {N:Nat} {ents:List FuncId} {G:GS} {ops:Array Oper} {d:Tmp} {ty:TypeId} {pos:String} {after:Array Edge} {g:Option (Nat×Bool)} {rest:List Oper} {K:VK} {E:VE} {M:VM} {n:Nat}
 {f:Operand} {args:Array Operand} {er:Array TypeId} {f0:FuncId} {vs:List MV}
theorem L7 (hd:Nat.blt d N=true) (h1: ∀R:FuncId×List MV→Prop,R (f0,vs)→(eI E f args.toList).runP R) (h2:ents.contains f0=true) {bC:List MV} {P:MV→Prop} (hc:cY Pg G f0 bC P) (bs:List (Nat×Nat)) (hb:EP M bs)
  (hm:eZ.relVs (dw 0 []) (lU M bs) bC vs) (h: ∀r,P r→ak Pg T N ents G ops rest K ((d,r) :: E) (VM.bump M bs) n):aB Pg T N ents G ops ⟨some d, .call ⟨.value f,args,er⟩,ty,pos,after,g⟩ rest K E M n:=by
 refine wE hd h1 h2 hc [] bs ⟨rfl,hb,rfl,hm,trivial⟩ rfl ?_
 rintro r _ _ ⟨⟨hP,hf⟩,rfl,rfl⟩
 refine⟨rfl,?_⟩
 rw [ke r hf]
 exact h r hP
theorem lI (hd:Nat.blt d N=true) (h1: ∀R:FuncId×List MV→Prop,R (f0,vs)→(eI E f args.toList).runP R) (h2:ents.contains f0=true) {bC:List MV} {L:List Int} {k:Nat} {P:MV→Nat→Prop} (hc:tC G L f0 bC k P) (hg:Pg=Tryz.prog) (b:Nat) (bs:List (Nat×Nat))
  (hm:fg 0 bC (eQ L k) 1 vs M [(0,b)] bs) (h3:jj M [(0,b)] =true) (h: ∀r k',P r k'→ak Pg T N ents G ops rest K ((d,r) :: E) (kU (ug n [(0,b)]) (eQ L k') ++ jw (VM.bump M bs) [(0,b)]) (n + 1)):aB Pg T N ents G ops ⟨some d, .call ⟨.value f,args,er⟩,ty,pos,after,g⟩ rest K E M n:=by
 subst hg
 refine wE hd h1 h2 hc [(0,b)] bs hm h3 ?_
 rintro r _ _ ⟨k',⟨hP,hf⟩,rfl,rfl⟩
 refine⟨rfl,?_⟩
 rw [ke r hf]
 exact h r k' hP
end
theorem bu {G:GS} (L:List Int) (k n:Nat) (hn:0 < n) (im:n < 4611686018427387904) (hk:k < 4611686018427387904): ∃x:Nat,x < n∧aT Tryz.prog G 27 [numP, .int .i64 (n:Int)] (eQ L k) 1 (.int .i64 (x:Int)) (eQ L (k + 1)) 1:=by
 have h1:=c₄ (L[k]?.getD 0) (show(n:Int)≠0 by omega);have h2:=c₁ (L[k]?.getD 0) (show(0:Int) < n by omega);refine⟨(oh L k n).toNat,by unfold oh;omega,?_⟩;rw [show (((oh L k n).toNat:Nat):Int)=oh L k n by unfold oh;omega];exact L6 L k n om om hk
end
section
variable {G:GS}
attribute [local irreducible] ak aB aD aJ aQ vC aY aw
theorem L8 (L:List Int) (N:Nat) (n:Int) (hn:0 < n):0≤oh L N n∧oh L N n < n:=⟨c₄ _ om,c₁ _ hn⟩
def nextN (L:List Int) (N:Nat) (n:Nat):Nat:=(oh L N n).toNat
theorem dC (L:List Int) (N n:Nat) (hn:0 < n):oh L N n=(nextN L N n:Int)∧nextN L N n < n:=by
 have:=L8 L N n om;unfold nextN;omega
theorem fC (L:List Int) (N n:Nat) (hn:0 < n) (im:n < 4611686018427387904) (hN:N < 4611686018427387904) :
  aT Tryz.prog G 27 [numP, .int .i64 (n:Int)] (eQ L N) 1 (.int .i64 (nextN L N n:Int)) (eQ L (N + 1)) 1:=by
 have:=L6 (G:=G) L N n om om hN
 rw [(dC L N n hn).1] at this
 exact this
def xc:List (List UInt8):= [[97,110,110],[98,111,98],[101,118,101],[122,111,101],[110,101,119],[120,45,49]]
def rN (L:List Int) (N:Nat):List UInt8:=xc.getD (nextN L N 6) []
theorem L9 {k:Nat} (hk:k < 6):cE (xc.map MV.str) (0 + k)=some (.str (xc.getD k [])):=by
 have h6:k=0∨k=1∨k=2∨k=3∨k=4∨k=5:=om;rcases h6 with rfl | rfl | rfl | rfl | rfl | rfl <;> rfl
theorem Ma (L:List Int) (N:Nat) (hN:N < 4611686018427387904):aT Tryz.prog G 83 [numP] (eQ L N) 1 (.str (rN L N)) (eQ L (N + 1)) 1:=by
 have h6:=(dC L N 6 om).2;have cn:=fC (G:=G) L N 6 om om hN;have f1:=aj.mk (cI h6);have f2:=aj.mk (show cE [MV.str [97,110,110],MV.str [98,111,98],MV.str [101,118,101],MV.str [122,111,101],MV.str [110,101,119],MV.str [120,45,49]] (0 + nextN L N 6)=some (.str (xc.getD (nextN L N 6) [])) from L9 h6);unfold rN;generalize nextN L N 6=x at *;generalize xc.getD x [] =nm at *;refine dK seat Tryz.func83 8 ?_;refine aa ?_;refine yc (cn) [(0,0)] ?_;refine aa ?_;exact en [_]
theorem TE (L:List Int):aT Tryz.prog G 14 [jm L] [] 0 numP (eQ L 0) 1:=by
 refine dK seat Tryz.func14 6 ?_;refine aa ?_;exact eb [_] [(0,3)] []
theorem TF (k:Nat):IntKind.u8.wrap (k:Int)=((UInt8.ofNat k).toNat:Int):=by
 rw [w8,UInt8.toNat_ofNat'];exact(Int.natCast_emod _ 256).symm
def xd:List (List UInt8):= [[],[],[],[114,101,110,116],[195,169,228,184,150],[97,10,98],[116,104,97,110,107,115,32,102,111,114,32,97,108,108,32,116,104,101,32,102,105,115,104,44,32,97,110,100,32,102,111,114,32,116,104,101,32,99,104,105,112,115]]
def zl (L:List Int) (N:Nat):List UInt8:=xd.getD (nextN L N 7) []
theorem Mb {k:Nat} (hk:k < 7):cE (xd.map MV.str) (0 + k)=some (.str (xd.getD k [])):=by
 have h6:k=0∨k=1∨k=2∨k=3∨k=4∨k=5∨k=6:=om;rcases h6 with rfl | rfl | rfl | rfl | rfl | rfl | rfl <;> rfl
theorem zm (L:List Int) (N:Nat):(rN L N).length≤5:=by
 have h:=(dC L N 6 om).2;unfold rN;generalize nextN L N 6=k at *;have h6:k=0∨k=1∨k=2∨k=3∨k=4∨k=5:=om;rcases h6 with rfl | rfl | rfl | rfl | rfl | rfl <;> decide
theorem Jk (L:List Int) (N:Nat):(zl L N).length≤50:=by
 have h:=(dC L N 7 om).2;unfold zl;generalize nextN L N 7=k at *;have h6:k=0∨k=1∨k=2∨k=3∨k=4∨k=5∨k=6:=om;rcases h6 with rfl | rfl | rfl | rfl | rfl | rfl | rfl <;> decide
theorem TG (L:List Int) (N:Nat) (hN:N < 4611686018427387904):aT Tryz.prog G 84 [numP] (eQ L N) 1 (.str (zl L N)) (eQ L (N + 1)) 1:=by
 have h7:=(dC L N 7 om).2;have cn:=fC (G:=G) L N 7 om om hN;have f1:=aj.mk (cI h7);have f2:=aj.mk (Mb h7);unfold xd at f2;simp only [List.map_cons,List.map_nil] at f2;unfold zl xd;generalize nextN L N 7=x at *;generalize List.getD _ x [] =nm at *;refine dK seat Tryz.func84 8 ?_;refine aa ?_;refine yc (cn) [(0,0)] ?_;refine aa ?_;exact en [_]
end
section
variable {G:GS}
def Dj (L:List Int) (N:Nat):mF:=⟨rN L N,if nextN L (N + 2) 12=0 then 9223372036854775808 else 1 + nextN L (N + 1) 60⟩
def Kj (L:List Int) (N j:Nat):List mF:=(List.range j).map fun i=>Dj L (N + 3 * i)
theorem Mc (L:List Int) (N j:Nat):Kj L N (j + 1)=Kj L N j ++ [Dj L (N + 3 * j)] :=by unfold Kj;rw [List.range_succ,List.map_append];rfl
theorem A5 (L:List Int) (N j:Nat):(Kj L N j).length=j:=by simp [Kj]
theorem Md (L:List Int) (N:Nat):nV (Dj L N):=by
 have h:=(dC L (N + 1) 60 om).2;refine⟨Nat.le_trans (zm L N) om,?_⟩;unfold Dj bm;dsimp only;split <;> omega
theorem TH (L:List Int) (N j:Nat): ∀x∈Kj L N j,nV x:=by
 intro x hx;obtain⟨i,_,rfl⟩:=List.mem_map.1 hx;exact Md L _
def Hy (L:List Int) (N:Nat) (acs:List bd):List UInt8×Nat×Nat:=
 if acs.length=0 then(rN L N,0,N + 3) else if nextN L (N + 3) 8=0 then(rN L N,0,N + 4) else((acs.getD (nextN L (N + 4) acs.length) ac0).name,(acs.getD (nextN L (N + 4) acs.length) ac0).seq,N + 5)
def Sl (L:List Int) (N sq:Nat):Nat×Nat:=if nextN L N 6=0 then((sq + nextN L (N + 1) 3) % 18446744073709551616,N + 2) else(sq,N + 1)
def TI (L:List Int) (N fee:Nat):Nat×Nat:=if nextN L N 9=0 then(nextN L (N + 1) 200,N + 2) else(fee,N + 1)
def Hz (L:List Int) (N:Nat) (acs:List bd) (price:Nat):jX×Nat:=
 let a:=Hy L N acs
 let b:=Sl L a.2.2 a.2.1
 let gas:=150 + nextN L (N + 1) 6 * 40
 let fee:=gas * price % 18446744073709551616 * (1 + nextN L b.2 5) % 18446744073709551616
 let c:=TI L (b.2 + 1) fee
 let m:=nextN L c.2 3
 (⟨a.1,b.1,gas,c.1,zl L (N + 2),Kj L (c.2 + 1) (m + 1)⟩,c.2 + 1 + 3 * (m + 1))
theorem Me {L:List Int} {N:Nat} {acs:List bd} (h: ∀a∈acs,SmAc a):(Hy L N acs).1.length≤5000∧bm (Hy L N acs).2.1∧(Hy L N acs).2.2≤N + 5:=by
 have hn:=zm L N;unfold Hy;split
 ·exact⟨dm,by simp [bm],dm⟩
 ·split
  ·exact⟨dm,by simp [bm],dm⟩
  ·have ha:SmAc (acs.getD (nextN L (N + 4) acs.length) ac0):=by
    rw [b₄];cases hx:acs[nextN L (N + 4) acs.length]? with
    | none=>exact ⟨by simp [ac0],by simp [ac0,bm],by simp [ac0,bm]⟩
    | some x=>exact h x (b₉ hx)
   exact⟨ha.1,ha.2.2,dm⟩
theorem Mf {L:List Int} {N sq:Nat} (h:bm sq):bm (Sl L N sq).1∧(Sl L N sq).2≤N + 2:=by
 unfold Sl;split
 ·exact⟨mod_u64,dm⟩
 ·exact⟨h,dm⟩
theorem Mg {L:List Int} {N fee:Nat} (h:bm fee):bm (TI L N fee).1∧(TI L N fee).2≤N + 2:=by
 have hx:=(dC L (N + 1) 200 om).2;unfold TI;split
 ·exact⟨by unfold bm;dsimp only;omega,dm⟩
 ·exact⟨h,dm⟩
theorem Mh {L:List Int} {N:Nat} {acs:List bd} {price:Nat} (h: ∀a∈acs,SmAc a):jz (Hz L N acs price).1∧(Hz L N acs price).2≤N + 20:=by
 have h1:=Me (L:=L) (N:=N) h;have h2:=Mf (L:=L) (N:=(Hy L N acs).2.2) h1.2.1;unfold Hz;dsimp only;have h3:=Mg (L:=L) (N:=(Sl L (Hy L N acs).2.2 (Hy L N acs).2.1).2 + 1) (fee:=(150 + nextN L (N + 1) 6 * 40) * price % 18446744073709551616 * (1 + nextN L (Sl L (Hy L N acs).2.2 (Hy L N acs).2.1).2 5) % 18446744073709551616) mod_u64;have hg:=(dC L (N + 1) 6 om).2;generalize TI L _ _=c at *;have hm:=(dC L c.2 3 om).2;have OL:=Jk L (N + 2);exact⟨⟨h1.1,h2.1,by unfold bm;dsimp only;omega,h3.1,dm,by dsimp only;rw [A5];omega,TH L _ _⟩,om⟩
abbrev YU:MV:= .st [.str [], .int .u64 0, .int .u64 0, .int .u64 0, .str [], .nils]
theorem Sm (a b:Nat):IntKind.u64.wrap ((a:Int) * (b:Int))=((a * b % 18446744073709551616:Nat):Int):=by
 rw [wu64,← Int.natCast_mul];omega
theorem Wh (a b:Nat):IntKind.u64.wrap ((a:Int) + (b:Int))=(((a + b) % 18446744073709551616:Nat):Int):=by rw [wu64];omega
theorem TJ (L:List Int) (N:Nat) (l:eh) (price:Nat) (hN:N < 4000000000000000000) (hl:fG l) (hp:bm price):aT Tryz.prog G 49 [numP,eo l, .int .u64 price] (eQ L N) 1 (pR (Hz L N l.acs price).1) (eQ L (Hz L N l.acs price).2) 1:=by
 obtain⟨acs,col⟩:=l;obtain⟨yz,nd,xL⟩:=hl;have k1:=Me (L:=L) (N:=N) xL;have k2:=Mf (L:=L) (N:=(Hy L N acs).2.2) k1.2.1;dsimp only at yz nd xL k1;unfold Hz;dsimp only;have cn0:=Ma (G:=G) L N om;have YB:=fC (G:=G) L (N + 1) 6 om om om;have b1:=(dC L (N + 1) 6 om).2;have Yy:=TG (G:=G) L (N + 2) om;generalize tT:Hy L N acs=a at *;obtain⟨snd,sq,N1⟩:=a;dsimp only at *;generalize Gj:Sl L N1 sq=b at *;obtain⟨Z3,N2⟩:=b;dsimp only at *;generalize BB:nextN L (N + 1) 6=x1 at *;generalize e0n:zl L (N + 2)=memo at *;unfold pR eo;dsimp only;refine dK seat Tryz.func49 96 ?_;refine aa ?_;refine yc (cn0) [(0,0)] ?_;refine aa ?_;refine yc (YB) [(0,0)] ?_;refine aa ?_;refine yc (Yy) [(0,0)] ?_;refine aa ?_;refine uY Unit (fun _=> [(0,numP),(2, .int .u64 price),(6, .ptr 1 6 0 0 []),(7, .ptr 2 6 0 0 [])]) (fun _=>eQ L N1 ++ [(1,⟨98,6,false,0,[YU]⟩),(2,⟨98,6,false,0,[.st [.str snd, .int .u64 sq, .int .u64 (150 + (x1:Int) * 40), .int .u64 0, .str memo, .nils]]⟩)]) (fun _=>3) (fun _=>True) (fun JQ hj=>?_) (fun _ _=>?_)
 ·by_cases h0:acs.length=0
  ·unfold Hy at tT;rw [if_pos h0] at tT;simp only [a₂] at tT;obtain⟨rfl,rfl,rfl⟩:=tT;refine ag rfl rfl ?_ rfl ?_ <;> intro h
   ·exact absurd (ot h) om
   refine aa ?_;exact hj.nrm () trivial (vm [(1,_),(2,_)] [])
  ·have cn3:=fC (G:=G) L (N + 3) 8 om om om;unfold Hy at tT;rw [if_neg h0] at tT;generalize SG:nextN L (N + 3) 8=x3 at *;refine ag rfl rfl ?_ rfl ?_ <;> intro h
   rotate_left
   ·exact absurd (oF h) om
   refine aa ?_;refine yc (cn3) [(0,0)] ?_;refine aa ?_;by_cases h3:x3=0
   ·rw [if_pos h3] at tT;simp only [a₂] at tT;obtain⟨rfl,rfl,rfl⟩:=tT;refine ad rfl ?_ ?_ <;> intro h
    ·exact absurd (ot h) om
    refine aa ?_;exact hj.nrm () trivial (vm [(1,_),(2,_)] [])
   ·rw [if_neg h3] at tT;have cn4:=fC (G:=G) L (N + 4) acs.length om om om;have b4:=(dC L (N + 4) acs.length om).2;generalize hx4:nextN L (N + 4) acs.length=x4 at *;have aH:=fN b4;have UR:acs.getD x4 ac0=acs[x4] :=by simp [b4]
    rw [UR] at tT;clear UR;generalize acs[x4] =a at *;obtain⟨an,ab,asq⟩:=a;replace aH:bI (acs.map aV) acs.length (x4:Int)=some (.st [.str an, .int .u64 ab, .int .u64 asq]):=aH;have aH:=aj.mk aH;simp only [a₂] at tT;obtain⟨rfl,rfl,rfl⟩:=tT;refine ad rfl ?_ ?_ <;> intro h
    rotate_left
    ·exact absurd (oF h) om
    refine aa ?_;refine al [ae 0,ae 1,ae 2,ae 3,dF 4,ae 5,ae 6,ae 7,ae 8] ?_;refine aa ?_;refine de rfl aA rfl [0] (cn4) [(0,0)] [] ⟨rfl,trivial,rfl,lm,mm⟩ rfl rfl rfl rfl ?_;refine aa ?_;refine al [ae 0,ae 1,ae 2,ae 3,ae 4,ae 5,ae 6,ae 7] ?_;refine aa ?_;exact hj.nrm () trivial (vm [(1,_),(2,_)] [])
 ·have cn5:=fC (G:=G) L N1 6 om om om;have cn6:=fC (G:=G) L (N1 + 1) 3 om om om;have b6:=(dC L (N1 + 1) 3 om).2;unfold Sl at Gj;generalize VB:nextN L N1 6=x5 at *;generalize hx6:nextN L (N1 + 1) 3=x6 at *;have ea:=aX.mk (Wh sq x6);refine aa ?_;refine yc (cn5) [(0,0)] ?_;refine aa ?_;refine wv Unit (fun _=> [(0,numP),(2, .int .u64 price),(6, .ptr 1 6 0 0 []),(7, .ptr 2 6 0 0 [])]) (fun _=>eQ L N2 ++ [(1,⟨98,6,false,0,[YU]⟩),(2,⟨98,6,false,0,[.st [.str snd, .int .u64 Z3, .int .u64 (150 + (x1:Int) * 40), .int .u64 0, .str memo, .nils]]⟩)]) (fun _=>3) (fun _=>True) (fun JQ hj=>?_) (fun _ _=>?_)
  ·by_cases h5:x5=0
   ·rw [if_pos h5] at Gj;simp only [a₂] at Gj;obtain⟨rfl,rfl⟩:=Gj;refine ad rfl ?_ ?_ <;> intro h
    rotate_left
    ·exact absurd h (by simp [h5])
    refine aa ?_;refine al [ae 0,ae 1,ae 2,dF 3,ae 4,ae 5,ae 6,ae 7] ?_;refine aa ?_;refine de rfl aA rfl [0] (cn6) [(0,0)] [] ⟨rfl,trivial,rfl,lm,mm⟩ rfl rfl rfl rfl ?_;refine aa ?_;exact hj.nrm () trivial (vm [(1,_),(2,_)] [])
   ·rw [if_neg h5] at Gj;simp only [a₂] at Gj;obtain⟨rfl,rfl⟩:=Gj;refine ad rfl ?_ ?_ <;> intro h
    ·exfalso;have:(x5:Int)=0:=by simpa using h
     omega
    refine aa ?_;exact hj.nrm () trivial (vm [(1,_),(2,_)] [])
  ·have k3:=Mg (L:=L) (N:=N2 + 1) (fee:=(150 + x1 * 40) * price % 18446744073709551616 * (1 + nextN L N2 5) % 18446744073709551616) mod_u64;have cn7:=fC (G:=G) L N2 5 om om om;have cn8:=fC (G:=G) L (N2 + 1) 9 om om om;have cn9:=fC (G:=G) L (N2 + 1 + 1) 200 om om om;have b7:=(dC L N2 5 om).2;have b9:=(dC L (N2 + 1 + 1) 200 om).2;generalize hx7:nextN L N2 5=x7 at *;generalize Z9:(150 + x1 * 40) * price % 18446744073709551616=f0 at *;have em1:=aX.mk (show IntKind.u64.wrap ((150 + (x1:Int) * 40) * (price:Int))=(f0:Int) by rw [← Z9,← Sm];rfl);have em2:=aX.mk (show IntKind.u64.wrap ((f0:Int) * (1 + (x7:Int)))=((f0 * (1 + x7) % 18446744073709551616:Nat):Int) by rw [← Sm];rfl);generalize f0 * (1 + x7) % 18446744073709551616=f1 at *;generalize Gg:TI L (N2 + 1) f1=c at *;obtain⟨fee,N3⟩:=c;dsimp only at *;unfold TI at Gg;generalize hx8:nextN L (N2 + 1) 9=x8 at *;generalize hx9:nextN L (N2 + 1 + 1) 200=x9 at *;refine aa ?_;refine al [ae 0,ae 1,ae 2,ae 3,ae 4,dF 5,ae 6,ae 7,ae 8,ae 9,ae 10] ?_;refine aa ?_;refine de rfl aA rfl [0] (cn7) [(0,0)] [] ⟨rfl,trivial,rfl,lm,mm⟩ rfl rfl rfl rfl ?_;refine aa ?_;refine yc (cn8) [(0,0)] ?_;refine aa ?_;refine wv Unit (fun _=> [(0,numP),(6, .ptr 1 6 0 0 []),(7, .ptr 2 6 0 0 [])]) (fun _=>eQ L N3 ++ [(1,⟨98,6,false,0,[YU]⟩),(2,⟨98,6,false,0,[.st [.str snd, .int .u64 Z3, .int .u64 (150 + (x1:Int) * 40), .int .u64 fee, .str memo, .nils]]⟩)]) (fun _=>3) (fun _=>True) (fun JQ hj=>?_) (fun _ _=>?_)
   ·by_cases h8:x8=0
    ·rw [if_pos h8] at Gg;simp only [a₂] at Gg;obtain⟨rfl,rfl⟩:=Gg;refine ad rfl ?_ ?_ <;> intro h
     rotate_left
     ·exact absurd h (by simp [h8])
     refine aa ?_;refine yc (cn9) [(0,0)] ?_;refine aa ?_;exact hj.nrm () trivial (vm [(1,_),(2,_)] [])
    ·rw [if_neg h8] at Gg;simp only [a₂] at Gg;obtain⟨rfl,rfl⟩:=Gg;refine ad rfl ?_ ?_ <;> intro h
     ·exfalso;have:(x8:Int)=0:=by simpa using h
      omega
     refine aa ?_;exact hj.nrm () trivial (vm [(1,_),(2,_)] [])
   ·have cna:=fC (G:=G) L N3 3 om om om;have ba:=(dC L N3 3 om).2;generalize hxa:nextN L N3 3=m at *;generalize hN4:N3 + 1=N4 at *;have j0m:N4 < 4300000000000000000:=om;clear em1 em2 hx7 hx8 hx9 cn7 cn8 cn9 k3 k1 k2;refine aa ?_;refine yc (cna) [(0,0)] ?_;refine aa ?_;refine av Nat (fun j=> [(10, .int .i64 ((m:Int) - j)),(0,numP),(6, .ptr 1 6 0 0 []),(7, .ptr 2 6 0 0 [])]) (fun j=>eQ L (N4 + 3 * j) ++ [(1,⟨98,6,false,0,[YU]⟩),(2,⟨98,6,false,0,[.st [.str snd, .int .u64 Z3, .int .u64 (150 + (x1:Int) * 40), .int .u64 fee, .str memo, .ms 3 2 0 j]]⟩),(3,⟨95,2,true,0,(Kj L N4 j).map mU⟩)]) 4 (fun j=>j≤m + 1) (fun j=>m + 1 - j) 0 (a₉ _) (vm [(1,_),(2,_)] []) ?_;intro j hj;try dsimp only
    refine aa ?_;refine ad rfl ?_ ?_ <;> intro h
    ·have OA:j < m + 1:=by have:=ot h;omega
     have d0:=Ma (G:=G) L (N4 + 3 * j) om;have d1:=fC (G:=G) L (N4 + 3 * j + 1) 60 om om om;have d2:=fC (G:=G) L (N4 + 3 * j + 1 + 1) 12 om om om;have sM:=(dC L (N4 + 3 * j + 1) 60 om).2;have cW:=Mc L N4 j;have ni:((Kj L N4 j).map mU).length=j:=by rw [List.length_map,A5]
     have hxf:Dj L (N4 + 3 * j)=⟨rN L (N4 + 3 * j),if nextN L (N4 + 3 * j + 1 + 1) 12=0 then 9223372036854775808 else 1 + nextN L (N4 + 3 * j + 1) 60⟩:=rfl;have hN5:N4 + 3 * (j + 1)=N4 + 3 * j + 1 + 1 + 1:=om;rw [hxf] at cW;generalize nextN L (N4 + 3 * j + 1 + 1) 12=y2 at *;generalize nextN L (N4 + 3 * j + 1) 60=y1 at *;generalize rN L (N4 + 3 * j)=nm at *;clear hxf;refine aa ?_;refine yc (d0) [(0,0)] ?_;refine aa ?_;refine yc (d1) [(0,0)] ?_;refine aa ?_;refine yc (d2) [(0,0)] ?_;refine aa ?_;by_cases hy:y2=0
     ·rw [if_pos hy] at cW;refine ad rfl ?_ ?_ <;> intro h
      rotate_left
      ·exact absurd h (by simp [hy])
      refine aa ?_;refine aO rfl rfl (by intro R hR;refine da hR ?_;(refine a₀ (a₁ _) ?_;refine⟨_,rfl,?_⟩;refine a₀ ⟨ni,ai (by kernel_rfl) pf⟩ ?_;refine⟨(Kj L N4 (j + 1)).map mU,sv (by rw [cW,a₆];rfl),j + 1,sv pf,?_⟩);exact hR) rfl ?_;refine aa ?_;exact⟨j + 1,by show j + 1≤m + 1;omega,by show m + 1 - (j + 1) < m + 1 - j;omega,(by dsimp only;rw [hN5];exact(vm [(1,_),(2,_),(3,_)] []))⟩
     ·rw [if_neg hy] at cW;refine ad rfl ?_ ?_ <;> intro h
      ·exfalso;have:(y2:Int)=0:=by simpa using h
       omega
      refine aa ?_;refine aO rfl rfl (by intro R hR;refine da hR ?_;(refine a₀ (a₁ _) ?_;refine⟨_,rfl,?_⟩;refine a₀ ⟨ni,ai (by kernel_rfl) pf⟩ ?_;refine⟨(Kj L N4 (j + 1)).map mU,sv (by rw [cW,a₆];rfl),j + 1,sv pf,?_⟩);exact hR) rfl ?_;refine aa ?_;exact⟨j + 1,by show j + 1≤m + 1;omega,by show m + 1 - (j + 1) < m + 1 - j;omega,(by dsimp only;rw [hN5];exact(vm [(1,_),(2,_),(3,_)] []))⟩
    ·have OA:j=m + 1:=by have:=oF h;omega
     subst OA;have ni:=A5 L N4 (m + 1);generalize Kj L N4 (m + 1)=xs at *;rw [← ni];refine aa ?_;refine au ?_;refine⟨[_],[],[(3,xs.length)],rfl,rfl,?_,rfl,⟨?_,trivial⟩,?_⟩
     ·exact⟨by show xs.length≤(xs.map mU).length;simp,trivial⟩
     ·exact .inr ⟨_,rfl,⟨⟨rfl,rfl⟩,⟨rfl,rfl⟩,⟨congrArg (MV.int _) om,rfl⟩,⟨rfl,rfl⟩,⟨rfl,rfl⟩, .inr ⟨rfl,rfl,rfl,a₇ (a₃ _),bc mU xs⟩,trivial⟩⟩
     ·exact mm
end
section
variable {G:GS}
attribute [local irreducible] ak aB aD aJ aQ vC aY aw
theorem uu (t:jX):(jQ t).1.length≤4096:=by
 unfold jQ;split
 ·simp
 ·split
  ·simp
  ·dsimp only;omega
def Jl (L:List Int) (N:Nat) (raw:List UInt8):List UInt8×Nat:=
 if raw.length=0 then(raw,N) else if nextN L N 12≠0 then(raw,N + 1) else if nextN L (N + 2) 2=0 then(raw.take (nextN L (N + 1) raw.length),N + 3) else(raw.set (nextN L (N + 1) raw.length) (UInt8.ofNat (nextN L (N + 3) 256)),N + 4)
def jT (L:List Int) (N:Nat) (acs:List bd) (price:Nat):List UInt8×Nat:=Jl L (Hz L N acs price).2 (jQ (Hz L N acs price).1).1
theorem Qq (L:List Int) (N:Nat) (raw:List UInt8):(Jl L N raw).1.length≤raw.length∧(Jl L N raw).2≤N + 4:=by
 unfold Jl;(repeat' split) <;> refine⟨?_,?_⟩ <;> dsimp only <;> first | omega | (rw [c₂];omega) | (rw [b₇];omega)
theorem vg {L:List Int} {N:Nat} {acs:List bd} {price:Nat} (h: ∀a∈acs,SmAc a):(jT L N acs price).1.length≤4096∧(jT L N acs price).2≤N + 24:=by
 have h1:=Mh (L:=L) (N:=N) (price:=price) h;have h2:=uu (Hz L N acs price).1;have h3:=Qq L (Hz L N acs price).2 (jQ (Hz L N acs price).1).1;unfold jT;omega
theorem Mi (L:List Int) (N:Nat) (l:eh) (price:Nat) (hN:N < 4000000000000000000) (hl:fG l) (hp:bm price):aT Tryz.prog G 19 [numP,eo l, .int .u64 price] (eQ L N) 1 (.sl (jT L N l.acs price).1.length (u8s (jT L N l.acs price).1)) (eQ L (jT L N l.acs price).2) 1:=by
 have c1:=TJ (G:=G) L N l price hN hl hp;have hk:=Mh (L:=L) (N:=N) (price:=price) hl.2.2;have c2:=LN (G:=G) (Hz L N l.acs price).1 hk.1;have aH:=uu (Hz L N l.acs price).1;unfold jT;obtain⟨acs,col⟩:=l;dsimp only at *;generalize Hz L N acs price=T at *;obtain⟨t,N1⟩:=T;obtain⟨snd,seq,gas,fee,memo,trs⟩:=t;dsimp only at *;generalize jQ ⟨snd,seq,gas,fee,memo,trs⟩=en at *;obtain⟨raw,e⟩:=en;dsimp only at *;unfold pR eo at *;dsimp only at *;replace hk:=hk.2;have YB:=fC (G:=G) L N1 12 om om om;generalize hr:Jl L N1 raw=R;obtain⟨Rr,RN⟩:=R;dsimp only;unfold Jl at hr;refine dK seat Tryz.func19 46 ?_;refine aa ?_;refine yc (c1) [(0,0)] ?_;refine aa ?_;refine jn (c2) ?_;by_cases h0:raw.length=0
 ·rw [if_pos h0] at hr;simp only [a₂] at hr;obtain⟨rfl,rfl⟩:=hr;refine ag rfl rfl ?_ rfl ?_ <;> intro h
  ·exact absurd (ot h) om
  refine aa ?_;refine au ?_;exact en [_]
 rw [if_neg h0] at hr;have Yy:=fC (G:=G) L (N1 + 1) raw.length om om om;have b2:=(dC L (N1 + 1) raw.length om).2;have cn3:=fC (G:=G) L (N1 + 1 + 1) 2 om om om;have cn4:=fC (G:=G) L (N1 + 1 + 1 + 1) 256 om om om;rw [show N1 + 2=N1 + 1 + 1 from rfl,show N1 + 3=N1 + 1 + 1 + 1 from rfl,show N1 + 4=N1 + 1 + 1 + 1 + 1 from rfl] at hr;generalize nextN L N1 12=x1 at *;generalize nextN L (N1 + 1) raw.length=x2 at *;generalize nextN L (N1 + 1 + 1) 2=x3 at *;generalize nextN L (N1 + 1 + 1 + 1) 256=x4 at *;refine ag rfl rfl ?_ rfl ?_ <;> intro h
 rotate_left
 ·exact absurd (oF h) om
 refine aa ?_;refine yc (YB) [(0,0)] ?_;refine aa ?_;by_cases h1:x1=0
 ·rw [if_neg (by simp [h1])] at hr;refine ad rfl ?_ ?_ <;> intro h
  rotate_left
  ·exact absurd h (by simp [h1])
  refine aa ?_;refine yc (Yy) [(0,0)] ?_;refine aa ?_;refine yc (cn3) [(0,0)] ?_;refine aa ?_;by_cases h3:x3=0
  ·rw [if_pos h3] at hr;simp only [a₂] at hr;obtain⟨rfl,rfl⟩:=hr;have NR:=aj.mk (kh (n:=raw.length) (k:=x2) (κ:= .i64) om);have RX:=bH.mk (bX raw);refine ad rfl ?_ ?_ <;> intro h
   rotate_left
   ·exact absurd h (by simp [h3])
   have Kt:(raw.take x2).length=x2:=by rw [c₂];omega
   rw [Kt];have hct:u8s (raw.take x2)=cutL (u8s raw) 0 x2:=by rw [cut_u8];simp
   rw [hct];refine aa ?_;refine au ?_;exact en [_]
  ·rw [if_neg h3] at hr;simp only [a₂] at hr;obtain⟨rfl,rfl⟩:=hr;refine ad rfl ?_ ?_ <;> intro h
   ·exfalso;have:(x3:Int)=0:=by simpa using h
    omega
   refine aa ?_;refine aO rfl rfl (by intro R hR;refine da hR ?_;refine a₀ ((bX raw)) ?_;refine a₀ ⟨rfl,ai (by kernel_rfl) pf⟩ ?_;refine⟨u8s raw,sv (by show [] ++ u8s raw=_;rw [a₈]),raw.length,sv pf,?_⟩;exact hR) rfl ?_;have f1:=aj.mk (cI b2);have f2:=aj.mk (show cE (u8s raw) (0 + x2)=some (.int .u8 raw[x2].toNat) by rw [bZ,a₃];simp [u8s,b2]);have f3:=aX.mk (TF x4);generalize raw[x2] =ob at *;refine aa ?_;refine yc (cn4) [(0,0)] ?_;refine aa ?_;rw [b₇];refine⟨[_],[],[(30,raw.length)],rfl,rfl,?_,rfl,⟨?_,trivial⟩,?_⟩
   ·exact⟨by show raw.length≤(setL (u8s raw) (0 + x2) _).length;rw [setL_eq];simp [u8s],trivial⟩
   ·refine .inr ⟨rfl,rfl,rfl,a₇ (a₃ _),?_⟩
    show cutL (setL (u8s raw) (0 + x2) (yt (UInt8.ofNat x4))) 0 (0 + raw.length)=u8s (raw.set x2 (UInt8.ofNat x4))
    rw [setL_eq,a₃];have e1:(u8s raw).set x2 (yt (UInt8.ofNat x4))=u8s (raw.set x2 (UInt8.ofNat x4)):=by unfold u8s;rw [List.map_set]
    rw [e1,cut_u8,List.drop_zero,a₃,Nat.sub_zero,List.take_of_length_le (by rw [b₇];omega)]
   ·exact mm
 ·rw [if_pos h1] at hr;simp only [a₂] at hr;obtain⟨rfl,rfl⟩:=hr;refine ad rfl ?_ ?_ <;> intro h
  ·exfalso;have:(x1:Int)=0:=by simpa using h
   omega
  refine aa ?_;refine au ?_;exact en [_]
def oi (L:List Int) (N:Nat) (raw:List UInt8) (out:List (List UInt8)):List UInt8×Nat:=
 if out.length=0 then(raw,N) else if nextN L N 9≠0 then(raw,N + 1) else(out.getD (nextN L (N + 1) out.length) [],N + 2)
def mX (L:List Int) (price:Nat):Nat→Nat→eh→List (List UInt8)→List (List UInt8)×Nat
 | 0,N,_,out=>(out,N)
 | i + 1,N,l,out=>mX L price i (oi L (jT L N l.acs price).2 (jT L N l.acs price).1 out).2 (tB l price (oi L (jT L N l.acs price).2 (jT L N l.acs price).1 out).1) (out ++ [(oi L (jT L N l.acs price).2 (jT L N l.acs price).1 out).1])
def rO (L:List Int) (N:Nat) (a:eM) (n:Nat):List (List UInt8)×Nat:=mX L a.price (nextN L N (n + 1)) (N + 1) a.com []
theorem Dk {L:List Int} {N:Nat} {raw:List UInt8} {out:List (List UInt8)} (h:raw.length≤4096) (ho: ∀b∈out,b.length≤4096):(oi L N raw out).1.length≤4096∧(oi L N raw out).2≤N + 2:=by
 unfold oi;split
 ·exact⟨h,dm⟩
 ·split
  ·exact⟨h,dm⟩
  ·refine⟨?_,dm⟩;dsimp only;rw [b₄];cases hx:out[nextN L (N + 1) out.length]? with
   | none=>simp
   | some x=>exact ho x (b₉ hx)
theorem Dm (L:List Int) (price:Nat): ∀(i N:Nat) (l:eh) (out:List (List UInt8)),fG l→(∀b∈out,b.length≤4096)→(∀b∈(mX L price i N l out).1,b.length≤4096)∧(mX L price i N l out).1.length=out.length + i∧(mX L price i N l out).2≤N + 26 * i
 | 0,N,l,out,_,ho=>⟨ho,rfl,by simp [mX]⟩
 | i + 1,N,l,out,hl,ho=>by
  have h1:=vg (L:=L) (N:=N) (price:=price) hl.2.2
  have h2:=Dk (L:=L) (N:=(jT L N l.acs price).2) h1.1 ho
  have h3:=Dm L price i (oi L (jT L N l.acs price).2 (jT L N l.acs price).1 out).2 (tB l price (oi L (jT L N l.acs price).2 (jT L N l.acs price).1 out).1) (out ++ [(oi L (jT L N l.acs price).2 (jT L N l.acs price).1 out).1]) (kW hl).1 (fa ho fun b hb=>by rw [b₀.1 hb];exact h2.1)
  refine⟨h3.1,?_,?_⟩
  ·have:=h3.2.1
   rw [mX,this,a₅,a₄];omega
  ·have:=h3.2.2
   rw [mX];omega
theorem Mj {L:List Int} {N:Nat} {a:eM} {n:Nat} (ha:fB a) (hn:n≤100):(∀b∈(rO L N a n).1,b.length≤4096)∧(rO L N a n).1.length≤n∧(rO L N a n).2≤N + 1 + 26 * n:=by
 have h1:=(dC L N (n + 1) om).2;have h2:=Dm L a.price (nextN L N (n + 1)) (N + 1) a.com [] ha.1 sm;unfold rO;refine⟨h2.1,?_,?_⟩
 ·have:=h2.2.1;simp only [b₃] at this;omega
 ·have:=h2.2.2;omega
theorem TK (L:List Int) (N:Nat) (a:eM) (n:Nat) (hN:N < 1000000000000000000) (ha:fB a) (hn:n≤100):aT Tryz.prog G 30 [numP,appM a, .int .i64 n] (eQ L N) 1 (.sl (rO L N a n).1.length ((rO L N a n).1.map bo)) (eQ L (rO L N a n).2) 1:=by
 have cn:=fC (G:=G) L N (n + 1) om om om;have bn:=(dC L N (n + 1) om).2;unfold rO;obtain⟨⟨a1,b1⟩,⟨a2,b2⟩,⟨a3,b3⟩,op,price⟩:=a;obtain⟨tX,_,_,hp⟩:=ha;dsimp only at *;generalize nextN L N (n + 1)=m at *;generalize hr:mX L price m (N + 1) ⟨a1,b1⟩ [] =R;obtain⟨Ro,RN⟩:=R;unfold appM eo;dsimp only;refine dK seat Tryz.func30 51 ?_;refine aa ?_;refine yc (cn) [(0,0)] ?_;refine aa ?_;refine av (Nat×Nat×eh×List (List UInt8)) (fun x=> [(9, .int .i64 x.1),(8, .ptr 2 2 0 0 []),(7, .ms 3 1 0 x.2.2.2.length),(4, .ptr 1 8 0 0 []),(0,numP)]) (fun x=>eQ L x.2.1 ++ [(1,⟨35,8,false,0,[.st [.st [.sl a1.length (a1.map aV), .int .u64 b1], .st [.sl a2.length (a2.map aV), .int .u64 b2], .st [.sl a3.length (a3.map aV), .int .u64 b3], .bool op, .int .u64 price]]⟩),(2,⟨33,2,false,0,[.st [.sl x.2.2.1.acs.length (x.2.2.1.acs.map aV), .int .u64 x.2.2.1.col]]⟩),(3,⟨41,1,true,0,x.2.2.2.map bo⟩)]) 4 (fun x=>x.1≤101∧x.2.1 + 26 * x.1 < 1000000000000010000∧fG x.2.2.1∧(∀b∈x.2.2.2,b.length≤4096)∧x.2.2.2.length + x.1≤101∧mX L price x.1 x.2.1 x.2.2.1 x.2.2.2=(Ro,RN)) (fun x=>x.1) (m,N + 1,⟨a1,b1⟩,[]) ⟨dm,dm,tX,sm,by simp;omega,hr⟩ (by dsimp only;exact(vm [(1,_),(2,_)] [])) ?_;clear hr tX;rintro⟨i,K,⟨acs,col⟩,out⟩ ⟨hi,hK,Bv,Uu,OE,hR⟩;try dsimp only
 dsimp only at hi hK Uu OE hR;refine aa ?_;refine ad rfl ?_ ?_ <;> intro h
 ·have gS:0 < i:=by have:=ot h;omega
  obtain⟨j,rfl⟩: ∃j,i=j + 1:=⟨i - 1,om⟩
  rw [mX] at hR;have c1:=Mi (G:=G) L K ⟨acs,col⟩ price om Bv hp;have k1:=vg (L:=L) (N:=K) (price:=price) Bv.2.2;have k2:=Dk (L:=L) (N:=(jT L K acs price).2) k1.1 Uu;dsimp only at c1 k1 hR;generalize jT L K acs price=rw' at *;obtain⟨raw,K1⟩:=rw';dsimp only at c1 k1 k2 hR;generalize El:oi L K1 raw out=pk at *;obtain⟨Gd,K2⟩:=pk;dsimp only at k2 hR;have c4:=Qp (G:=G) ⟨acs,col⟩ price Gd Bv hp om;have k4:fG (tB ⟨acs,col⟩ price Gd):=(kW Bv).1;generalize tB ⟨acs,col⟩ price Gd=l2 at *;obtain⟨b0q,a0h⟩:=l2;unfold eo at c1 c4;dsimp only at c1 c4;unfold oi at El;have zV:((j + 1:Nat):Int) - 1=(j:Int):=om;refine aa ?_;refine yc (c1) [(0,0)] ?_;refine aa ?_;refine uY Unit (fun _=> [(10, .sl Gd.length (u8s Gd)),(9, .int .i64 (j + 1:Nat)),(8, .ptr 2 2 0 0 []),(7, .ms 3 1 0 out.length),(4, .ptr 1 8 0 0 []),(0,numP)]) (fun _=>eQ L K2 ++ [(1,⟨35,8,false,0,[.st [.st [.sl a1.length (a1.map aV), .int .u64 b1], .st [.sl a2.length (a2.map aV), .int .u64 b2], .st [.sl a3.length (a3.map aV), .int .u64 b3], .bool op, .int .u64 price]]⟩),(2,⟨33,2,false,0,[.st [.sl acs.length (acs.map aV), .int .u64 col]]⟩),(3,⟨41,1,true,0,out.map bo⟩)]) (fun _=>4) (fun _=>True) (fun JQ hj=>?_) (fun _ _=>?_)
  ·by_cases h0:out.length=0
   ·rw [if_pos h0] at El;simp only [a₂] at El;obtain⟨rfl,rfl⟩:=El;refine ag rfl rfl ?_ rfl ?_ <;> intro h
    ·exact absurd (ot h) om
    refine aa ?_;exact hj.nrm () trivial (vm [(1,_),(2,_),(3,_)] [])
   rw [if_neg h0] at El;have YB:=fC (G:=G) L K1 9 om om om;have Yy:=fC (G:=G) L (K1 + 1) out.length om om om;have b2:=(dC L (K1 + 1) out.length om).2;rw [show K1 + 2=K1 + 1 + 1 from rfl] at El;generalize nextN L K1 9=x1 at *;generalize nextN L (K1 + 1) out.length=x2 at *;refine ag rfl rfl ?_ rfl ?_ <;> intro h
   rotate_left
   ·exact absurd (oF h) om
   refine aa ?_;refine yc (YB) [(0,0)] ?_;refine aa ?_;by_cases h1:x1=0
   ·rw [if_neg (by simp [h1])] at El;have UR:out.getD x2 [] =out[x2] :=by simp [b2]
    have aH:cE (out.map bo) (0 + x2)=some (bo out[x2]):=by rw [bZ,a₃];simp [b2]
    rw [UR] at El;clear UR;generalize out[x2] =ox at *;simp only [a₂] at El;obtain⟨rfl,rfl⟩:=El;replace aH:cE (out.map bo) (0 + x2)=some (.sl ox.length (u8s ox)):=aH;have aH:=aj.mk aH;have f1:=aj.mk (cI b2);refine ad rfl ?_ ?_ <;> intro h
    rotate_left
    ·exact absurd h (by simp [h1])
    refine aa ?_;refine yc (Yy) [(0,0)] ?_;refine aa ?_;exact hj.nrm () trivial (vm [(1,_),(2,_),(3,_)] [])
   ·rw [if_pos h1] at El;simp only [a₂] at El;obtain⟨rfl,rfl⟩:=El;refine ad rfl ?_ ?_ <;> intro h
    ·exfalso;have:(x1:Int)=0:=by simpa using h
     omega
    refine aa ?_;exact hj.nrm () trivial (vm [(1,_),(2,_),(3,_)] [])
  ·try dsimp only
   have ni:(out.map bo).length=out.length:=by simp
   refine aa ?_;refine aO rfl rfl (by intro R hR;refine da hR ?_;(refine a₀ (a₁ _) ?_;refine⟨_,rfl,?_⟩;refine a₀ ⟨ni,ai (by kernel_rfl) pf⟩ ?_;refine⟨(out ++ [Gd]).map bo,sv (by rw [a₆];rfl),out.length + 1,sv pf,?_⟩);exact hR) rfl ?_;refine aa ?_;refine dZ (c4) ?_;exact⟨(j,K2,⟨b0q,a0h⟩,out ++ [Gd]),⟨by dsimp only;omega,by dsimp only;omega,k4,fa Uu fun b hb=>by rw [b₀.1 hb];exact k2.1,by dsimp only;rw [a₅,a₄];omega,hR⟩,by dsimp only;omega,(by dsimp only;rw [a₅,a₄];exact(vm [(1,_),(2,_),(3,_)] []))⟩
 ·have gS:i=0:=by have:=oF h;omega
  subst gS;rw [mX] at hR;simp only [a₂] at hR;obtain⟨rfl,rfl⟩:=hR;refine aa ?_;refine⟨[_],[],[(3,out.length)],rfl,rfl,?_,rfl,⟨?_,trivial⟩,?_⟩
  ·exact⟨by show out.length≤(out.map bo).length;simp,trivial⟩
  ·exact .inr ⟨rfl,rfl,rfl,a₇ (a₃ _),bc bo out⟩
  ·exact mm
theorem TL {k:Nat} (hk:k < 4): ∃nm:List UInt8,cE [MV.str [97,110,110],MV.str [98,111,98],MV.str [101,118,101],MV.str [122,111,101]] (0 + k)=some (.str nm)∧nm.length≤5:=by
 have h4:k=0∨k=1∨k=2∨k=3:=om;rcases h4 with rfl | rfl | rfl | rfl <;> exact⟨_,rfl,by decide⟩
theorem TM {k:Nat} (hk:k < 5): ∃v:Nat,cE [MV.int .u64 100000,MV.int .u64 5000,MV.int .u64 700,MV.int .u64 0,MV.int .u64 1099511627776] (0 + k)=some (.int .u64 (v:Int))∧bm v:=by
 have h5:k=0∨k=1∨k=2∨k=3∨k=4:=om;rcases h5 with rfl | rfl | rfl | rfl | rfl
 ·exact⟨100000,rfl,by decide⟩
 ·exact⟨5000,rfl,by decide⟩
 ·exact⟨700,rfl,by decide⟩
 ·exact⟨0,rfl,by decide⟩
 ·exact⟨1099511627776,rfl,by decide⟩
theorem Mk {k:Nat} (hk:k < 3): ∃v:Nat,cE [MV.int .u64 5,MV.int .u64 18446744073709551615,MV.int .u64 18446744073709551614] (0 + k)=some (.int .u64 (v:Int))∧bm v:=by
 have h3:k=0∨k=1∨k=2:=om;rcases h3 with rfl | rfl | rfl
 ·exact⟨5,rfl,by decide⟩
 ·exact⟨18446744073709551615,rfl,by decide⟩
 ·exact⟨18446744073709551614,rfl,by decide⟩
theorem TN (L:List Int) (N:Nat) (hN:N < 4000000000000000000):tC G L 13 [numP] N fun r N'=> ∃acs:List bd,acs.length≤4∧(∀a∈acs,SmAc a)∧N'≤N + 14∧r= .sl acs.length (acs.map aV):=by
 obtain⟨m,hm,cm⟩:=bu (G:=G) L N 4 om om om;unfold tC;refine seq' seat Tryz.func13 36 ?_;refine aa ?_;refine yc (cm) [(0,0)] ?_;refine aa ?_;refine av (Nat×Nat×List bd) (fun x=> [(4, .int .i64 ((x.1:Int) - 1)),(3, .ms 1 3 0 x.2.2.length),(0,numP)]) (fun x=>eQ L x.2.1 ++ [(1,⟨91,3,true,0,x.2.2.map aV⟩)]) 2 (fun x=>x.1 + x.2.2.length≤4∧x.2.1 + 3 * x.1≤N + 14∧(∀a∈x.2.2,SmAc a)) (fun x=>x.1) (m + 1,N + 1,[]) ⟨by simp;omega,dm,sm⟩ (by dsimp only;exact vm [] []) ?_;rintro⟨j,K,acs⟩ ⟨h1,h2,h3⟩;try dsimp only
 dsimp only at h1 h2 h3;refine aa ?_;refine ad rfl ?_ ?_ <;> intro h
 ·have hj:1≤j:=by have:=ot h;omega
  obtain⟨i,rfl⟩: ∃i,j=i + 1:=⟨j - 1,om⟩
  have zV:((i + 1:Nat):Int) - 1=(i:Int):=om;rw [zV];obtain⟨nm,f1,g1⟩:=TL (k:=i) om;obtain⟨x5,VB,c5⟩:=bu (G:=G) L K 5 om om om;obtain⟨bal,f2,g2⟩:=TM (k:=x5) VB;obtain⟨x6,hx6,c6⟩:=bu (G:=G) L (K + 1) 6 om om om;obtain⟨x3,SG,c3⟩:=bu (G:=G) L (K + 1 + 1) 3 om om om;obtain⟨sq,f3,g3⟩:=Mk (k:=x3) SG;have f1:=aj.mk f1;have f2:=aj.mk f2;have f3:=aj.mk f3;have i1:=aj.mk (cI (n:=4) (k:=i) om);have i2:=aj.mk (cI VB);have i3:=aj.mk (cI SG);have ni:(acs.map aV).length=acs.length:=sm;refine aa ?_;refine al [ae 0,ae 1,ae 2,ae 3,ae 4,ae 5,dF 6,ae 7,ae 8,ae 9,ae 10,ae 11] ?_;refine aa ?_;refine de rfl aA rfl [0] (c5) [(0,0)] [] ⟨rfl,trivial,rfl,lm,mm⟩ rfl rfl rfl rfl ?_;refine aa ?_;refine yc (c6) [(0,0)] ?_;refine aa ?_;refine ad rfl ?_ ?_ <;> intro h
  ·refine aa ?_;refine yc (c3) [(0,0)] ?_;refine aa ?_;refine aO rfl rfl (by intro R hR;refine da hR ?_;(refine a₀ (a₁ _) ?_;refine⟨_,rfl,?_⟩;refine a₀ ⟨ni,ai (by kernel_rfl) pf⟩ ?_;refine⟨(acs ++ [(⟨nm,bal,sq⟩:bd)]).map aV,sv (by rw [a₆];rfl),acs.length + 1,sv pf,?_⟩);exact hR) rfl ?_;refine aa ?_;exact⟨(i,K + 1 + 1 + 1,acs ++ [⟨nm,bal,sq⟩]),⟨by dsimp only;rw [a₅,a₄];omega,dm,fa h3 fun a ha=>by rw [b₀.1 ha];exact⟨dm,g2,g3⟩⟩,dm,(by dsimp only;rw [a₅,a₄];exact(vm [(1,_)] []))⟩
  ·refine aa ?_;refine aO rfl rfl (by intro R hR;refine da hR ?_;(refine a₀ (a₁ _) ?_;refine⟨_,rfl,?_⟩;refine a₀ ⟨ni,ai (by kernel_rfl) pf⟩ ?_;refine⟨(acs ++ [(⟨nm,bal,0⟩:bd)]).map aV,sv (by rw [a₆];rfl),acs.length + 1,sv pf,?_⟩);exact hR) rfl ?_;refine aa ?_;exact⟨(i,K + 1 + 1,acs ++ [⟨nm,bal,0⟩]),⟨by dsimp only;rw [a₅,a₄];omega,dm,fa h3 fun a ha=>by rw [b₀.1 ha];exact⟨dm,g2,by simp [bm]⟩⟩,dm,(by dsimp only;rw [a₅,a₄];exact(vm [(1,_)] []))⟩
 ·refine aa ?_;refine⟨_,_,_,⟨K,⟨⟨acs,om,h3,om,rfl⟩,rfl⟩,rfl,rfl⟩,?_⟩;refine⟨[_],[],[(1,acs.length)],rfl,rfl,?_,rfl,⟨?_,trivial⟩,?_⟩
  ·exact⟨by show acs.length≤(acs.map aV).length;simp,trivial⟩
  ·exact .inr ⟨rfl,rfl,rfl,a₇ (a₃ _),bc aV acs⟩
  ·exact mm
structure nf where
 maxTxs:Int
 maxBytes:Int
 maxTx:Int
 cache:Int
 ttlB:Int
 ttlT:Int
 keep:Bool
 blkB:Int
 blkG:Int
 price:Nat
 self:Int
 nodes:Int
abbrev cfM (c:nf):MV:= .st [.int .i64 c.maxTxs, .int .i64 c.maxBytes, .int .i64 c.maxTx, .int .i64 c.cache, .int .i64 c.ttlB, .int .i64 c.ttlT, .bool c.keep, .int .i64 c.blkB, .int .i64 c.blkG, .int .u64 c.price, .int .i64 c.self, .int .i64 c.nodes]
structure A6 (c:nf):Prop where
 maxTxs:1≤c.maxTxs∧c.maxTxs≤512
 maxBytes:1≤c.maxBytes∧c.maxBytes≤1048576
 maxTx:1≤c.maxTx∧c.maxTx≤4096
 cache:0≤c.cache∧c.cache≤1024
 ttlB:0≤c.ttlB∧c.ttlB≤1073741824
 ttlT:0≤c.ttlT∧c.ttlT≤1073741824
 blkB:1≤c.blkB∧c.blkB≤1048576
 blkG: -1≤c.blkG∧c.blkG≤1125899906842624
 price:bm c.price
 self:0≤c.self∧c.self < c.nodes
 nodes:c.nodes≤8
abbrev Wi:MV:= .st [.int .i64 0, .int .i64 0, .int .i64 0, .int .i64 0, .int .i64 0, .int .i64 0, .bool false, .int .i64 0, .int .i64 0, .int .u64 0, .int .i64 0, .int .i64 0]
theorem Ml (L:List Int) (N:Nat) (hN:N < 4000000000000000000):tC G L 101 [numP] N fun r N'=> ∃c:nf,A6 c∧N'≤N + 14∧r=cfM c:=by
 obtain⟨x0,b0,c0⟩:=bu (G:=G) L (N) 7 om om om;obtain⟨x1,b1,c1⟩:=bu (G:=G) L (N + 1) 400 om om om;obtain⟨x2,b2,c2⟩:=bu (G:=G) L (N + 1 + 1) 140 om om om;obtain⟨x3,b3,c3⟩:=bu (G:=G) L (N + 1 + 1 + 1) 12 om om om;obtain⟨x4,b4,c4⟩:=bu (G:=G) L (N + 1 + 1 + 1 + 1) 4 om om om;obtain⟨x5,b5,c5⟩:=bu (G:=G) L (N + 1 + 1 + 1 + 1 + 1) 3 om om om;obtain⟨x6,b6,c6⟩:=bu (G:=G) L (N + 1 + 1 + 1 + 1 + 1 + 1) 20 om om om;obtain⟨x7,b7,c7⟩:=bu (G:=G) L (N + 1 + 1 + 1 + 1 + 1 + 1 + 1) 3 om om om;obtain⟨x8,b8,c8⟩:=bu (G:=G) L (N + 1 + 1 + 1 + 1 + 1 + 1 + 1 + 1) 400 om om om;obtain⟨x9,b9,c9⟩:=bu (G:=G) L (N + 1 + 1 + 1 + 1 + 1 + 1 + 1 + 1 + 1) 3 om om om;obtain⟨x10,Zh,c10⟩:=bu (G:=G) L (N + 1 + 1 + 1 + 1 + 1 + 1 + 1 + 1 + 1 + 1) 3 om om om;have hm:0≤(x5:Int) * x6∧(x5:Int) * x6 < 60:=by
  have e:x5=0∨x5=1∨x5=2:=om;rcases e with rfl | rfl | rfl <;> simp <;> omega
 generalize hM:(x5:Int) * x6=M at *;have em:=aX.mk (show IntKind.i64.wrap ((x5:Int) * x6)=M by rw [hM];exact eX _ om om);unfold tC;refine seq' seat Tryz.func101 47 ?_;refine aa ?_;refine yc (c0) [(0,0)] ?_;refine aa ?_;refine yc (c1) [(0,0)] ?_;refine aa ?_;refine yc (c2) [(0,0)] ?_;refine qg ([(11, .int .i64 x2),(9, .int .i64 (250 + (x1:Int))),(6, .int .i64 (1 + (x0:Int))),(2, .ptr 1 12 0 0 []),(0,numP)]) (eQ L (N + 1 + 1 + 1) ++ [(1,⟨66,12,false,0,[Wi]⟩)]) [] trivial rfl mm mm ?_;refine aa ?_;refine yc (c3) [(0,0)] ?_;refine aa ?_;refine yc (c4) [(0,0)] ?_;refine aa ?_;refine yc (c5) [(0,0)] ?_;refine qg ([(18, .int .i64 x5),(16, .int .i64 x4),(14, .int .i64 x3),(12, .int .i64 (60 + (x2:Int))),(9, .int .i64 (250 + (x1:Int))),(6, .int .i64 (1 + (x0:Int))),(2, .ptr 1 12 0 0 []),(0,numP)]) (eQ L (N + 1 + 1 + 1 + 1 + 1 + 1) ++ [(1,⟨66,12,false,0,[Wi]⟩)]) [] trivial rfl mm mm ?_;refine aa ?_;refine yc (c6) [(0,0)] ?_;refine aa ?_;refine yc (c7) [(0,0)] ?_;refine aa ?_;refine yc (c8) [(0,0)] ?_;refine qg ([(26, .int .i64 x8),(24, .bool ((x7:Int) == 0)),(21, .int .i64 M),(16, .int .i64 x4),(14, .int .i64 x3),(12, .int .i64 (60 + (x2:Int))),(9, .int .i64 (250 + (x1:Int))),(6, .int .i64 (1 + (x0:Int))),(2, .ptr 1 12 0 0 []),(0,numP)]) (eQ L (N + 1 + 1 + 1 + 1 + 1 + 1 + 1 + 1 + 1) ++ [(1,⟨66,12,false,0,[Wi]⟩)]) [] trivial rfl mm mm ?_;refine aa ?_;refine yc (c9) [(0,0)] ?_;refine aa ?_;refine yc (c10) [(0,0)] ?_;refine aa ?_;refine wv (Nat×Int) (fun x=> [(0,numP),(2, .ptr 1 12 0 0 []),(3, .ptr 2 12 0 0 [])]) (fun x=>eQ L x.1 ++ [(1,⟨66,12,false,0,[Wi]⟩),(2,⟨66,12,false,0,[.st [.int .i64 (1 + (x0:Int)), .int .i64 (250 + (x1:Int)), .int .i64 (60 + (x2:Int)), .int .i64 x3, .int .i64 x4, .int .i64 M, .bool ((x7:Int) == 0), .int .i64 (100 + (x8:Int)), .int .i64 x.2, .int .u64 x9, .int .i64 0, .int .i64 1]]⟩)]) (fun _=>3) (fun x=>x.1≤N + 12∧ -1≤x.2∧x.2≤2000) (fun JQ hj=>?_) (fun x hx=>?_)
 ·refine ad rfl ?_ ?_ <;> intro h
  ·obtain⟨y,hy,cy⟩:=bu (G:=G) L (N + 1 + 1 + 1 + 1 + 1 + 1 + 1 + 1 + 1 + 1 + 1) 900 om om om;refine aa ?_;refine yc (cy) [(0,0)] ?_;refine aa ?_;exact hj.nrm (N + 1 + 1 + 1 + 1 + 1 + 1 + 1 + 1 + 1 + 1 + 1 + 1,200 + (y:Int)) ⟨dm,dm,dm⟩ (by dsimp only;exact(vm [(1,_),(2,_)] []))
  ·refine aa ?_;exact hj.nrm (N + 1 + 1 + 1 + 1 + 1 + 1 + 1 + 1 + 1 + 1 + 1, -1) ⟨dm,dm,dm⟩ (by dsimp only;exact(vm [(1,_),(2,_)] []))
 ·obtain⟨K,g⟩:=x;dsimp only at hx;obtain⟨hK,yB,VN⟩:=hx;obtain⟨z,hz,cz⟩:=bu (G:=G) L K 6 om om om;obtain⟨w,hw,cw⟩:=bu (G:=G) L (K + 1) 40 om om om;try dsimp only
  refine aa ?_;refine yc (cz) [(0,0)] ?_;refine aa ?_;refine ad rfl ?_ ?_ <;> intro h
  ·refine aa ?_;refine yc (cw) [(0,0)] ?_;refine aa ?_;refine au ?_;exact⟨_,_,_,⟨_,⟨⟨⟨1 + (x0:Int),250 + (x1:Int),40 + (w:Int),x3,x4,M,(x7:Int) == 0,100 + (x8:Int),g,x9,0,1⟩,⟨dm,dm,dm,dm,dm,dm,dm,dm,by unfold bm;dsimp only;omega,dm,dm⟩,(by show K + 1 + 1≤_;omega),rfl⟩,rfl⟩,rfl,rfl⟩,en [_]⟩
  ·refine aa ?_;refine au ?_;exact⟨_,_,_,⟨_,⟨⟨⟨1 + (x0:Int),250 + (x1:Int),60 + (x2:Int),x3,x4,M,(x7:Int) == 0,100 + (x8:Int),g,x9,0,1⟩,⟨dm,dm,dm,dm,dm,dm,dm,dm,by unfold bm;dsimp only;omega,dm,dm⟩,(by show K + 1≤_;omega),rfl⟩,rfl⟩,rfl,rfl⟩,en [_]⟩
theorem Mm (x:List UInt8) (hx:x.length < 536870912):aT Tryz.prog G 117 [.sl x.length (u8s x)] [] 0 (.sl x.length (u8s x)) [] 0:=by
 refine dK seat Tryz.func117 8 ?_;refine aa ?_;refine Lj rfl rfl (fun b hb=>?_);cases b with
 | true=>
  have h0:=hb rfl;have h1:x= [] :=List.length_eq_zero_iff.1 h0;subst h1;refine aa ?_;refine au ?_;exact en [_]
 | false=>
  refine aa ?_;refine aO rfl rfl (by intro R hR;refine da hR ?_;refine a₀ ((bX x)) ?_;refine a₀ ⟨rfl,ai (by kernel_rfl) pf⟩ ?_;refine⟨u8s x,sv (by show [] ++ u8s x=_;rw [a₈]),x.length,sv pf,?_⟩;exact hR) rfl ?_;refine aa ?_;refine⟨[_],[],[(5,x.length)],rfl,rfl,?_,rfl,⟨?_,trivial⟩,?_⟩
  ·exact⟨by show x.length≤(u8s x).length;simp [u8s],trivial⟩
  ·exact rv
  ·exact mm
theorem Jm (l:List (List UInt8)) (hl:l.length≤1000000) (hb: ∀b∈l,b.length < 536870912):aT Tryz.prog G 68 [ee l] [] 0 (ee l) [] 0:=by
 unfold ee;refine dK seat Tryz.func68 19 ?_;refine aa ?_;refine av Nat (fun k=> [(8, .int .i64 k),(7, .int .i64 l.length),(6, .sl l.length (l.map bo)),(3, .ms 0 1 0 k)]) (fun k=> [(0,⟨41,1,true,0,(l.take k).map bo⟩)]) 1 (fun k=>k≤l.length) (fun k=>l.length - k) 0 (a₉ _) (by rw [b₈];exact(vm [] [])) ?_;intro k hk;try dsimp only
 refine aa ?_;refine ad rfl ?_ ?_ <;> intro h
 ·have aC:k < l.length:=by have:=ot h;omega
  have aH:=iC aC;have kS:=hb _ (b₅ aC);have cW:(l.take (k + 1)).map bo=(l.take k).map bo ++ [bo l[k]] :=by rw [b₁ aC,a₆];rfl
  have ni:((l.take k).map bo).length=k:=by simp;omega
  generalize l[k] =b at *;replace aH:bI (l.map bo) l.length (k:Int)=some (.sl b.length (u8s b)):=aH;have aH:=aj.mk aH;have c1:=Mm (G:=G) b kS;refine aa ?_;refine jn (c1) ?_;refine aO rfl rfl (by intro R hR;refine da hR ?_;(refine a₀ (a₁ _) ?_;refine⟨_,rfl,?_⟩;refine a₀ ⟨ni,ai (by kernel_rfl) pf⟩ ?_;refine⟨(l.take (k + 1)).map bo,sv (by rw [cW];rfl),k + 1,sv pf,?_⟩);exact hR) rfl ?_;refine aa ?_;exact⟨k + 1,by show k + 1≤l.length;omega,by show l.length - (k + 1) < l.length - k;omega,(by dsimp only;exact(vm [(0,_)] []))⟩
 ·have aC:k=l.length:=by have:=oF h;omega
  subst aC;rw [b₆];refine aa ?_;refine⟨[_],[],[(0,l.length)],rfl,rfl,?_,rfl,⟨?_,trivial⟩,?_⟩
  ·exact⟨by show l.length≤(l.map bo).length;simp,trivial⟩
  ·exact .inr ⟨rfl,rfl,rfl,a₇ (a₃ _),bc bo l⟩
  ·exact mm
theorem FG (n:Nat) (hn:bm n):aE Tryz.prog G 213 [.int .u64 n] (.int .i64 (dr n).length):=by
 unfold bm at hn;have hlen:=(dW hn).2;generalize hr:(dr n).length=R at *;refine bA seat Tryz.func213 11 ?_;refine aa ?_;refine av (Nat×Nat) (fun x=> [(3, .int .i64 x.2),(0, .int .u64 x.1)]) (fun _=> []) 0 (fun x=>x.1 < 18446744073709551616∧x.2 + (dr x.1).length=R + 1) (fun x=>x.1) (n,1) ⟨hn,dm⟩ (by dsimp only;exact(vm [] [])) ?_;rintro⟨m,s⟩ ⟨hm,hs⟩;try dsimp only
 dsimp only at hm hs;have e1:=aX.mk (Ls m);refine aa ?_;refine ad rfl ?_ ?_ <;> intro h
 ·have Ko:=ot h;rw [u7 om,c₃] at hs;refine aa ?_;exact⟨(m / 128,s + 1),⟨dm,dm⟩,dm,(by dsimp only;exact(vm [] []))⟩
 ·have Ko:=oF h;rw [oU om,a₄] at hs;have:s=R:=om;subst this;refine aa ?_;refine au ?_;rfl
theorem Mn (n:Nat) (hn:n < 4611686018427387904):aE Tryz.prog G 154 [.int .i64 n] (.int .i64 (jH n)):=by
 have c1:=FG (G:=G) n (by unfold bm;omega);have h2:=(dW (n:=n) om).2;unfold jH;generalize (dr n).length=v at *;have hw:=aX.mk (show IntKind.u64.wrap (n:Int)=(n:Int) from bS _ om om);refine bA seat Tryz.func154 11 ?_;refine aa ?_;(iterate 6 ((all_goals(refine aa ?_));(all_goals(first | (refine ah rfl aA rfl (src (c1)) rfl rfl ?_) | ((first | refine ag rfl rfl ?_ rfl ?_ | refine ad rfl ?_ ?_);all_goals(intro h;(try simp only [pl] at h);(try (exfalso;omega)))) | skip))));all_goals(refine au ?_)
 all_goals(refine congrArg (MV.int .i64) ?_;omega)
def sumB (l:List (List UInt8)):Nat:=(l.map fun b=>jH b.length).sum
theorem zn (l:List (List UInt8)) {k:Nat} (hk:k < l.length):sumB (l.take (k + 1))=sumB (l.take k) + jH l[k].length:=by
 unfold sumB;rw [b₁ hk,a₆,c₅];simp
theorem rP (B:Nat): ∀(l:List (List UInt8)),(∀b∈l,b.length≤B∧bm b.length)→sumB l≤l.length * (B + 11)
 | [],_=>by simp [sumB]
 | b :: l,h=>by
  have h1:=Db (h b sm).2
  have h2:=(h b sm).1
  have ih:=rP B l fun x hx=>h x (by simp [hx])
  have e:sumB (b :: l)=jH b.length + sumB l:=by simp [sumB]
  rw [e,c₃,Nat.add_mul]
  omega
theorem rQ (l:List (List UInt8)) (k:Nat):sumB (l.take k)≤sumB l:=by
 have:sumB (l.take k) + sumB (l.drop k)=sumB l:=by
  unfold sumB;rw [← c₅,← a₆,List.take_append_drop]
 omega
theorem Mo (l:List (List UInt8)) (hl:l.length≤1000000) (hb: ∀b∈l,b.length≤300000000):aE Tryz.prog G 115 [ee l] (.int .i64 (sumB l)):=by
 have Kf:=rP 300000000 l fun b h=>⟨hb b h,by have:=hb b h;unfold bm;omega⟩
 have J7:l.length * (300000000 + 11)≤1000000 * 300000011:=c₀ _ hl;unfold ee;refine bA seat Tryz.func115 19 ?_;refine aa ?_;refine av Nat (fun k=> [(8, .int .i64 k),(7, .int .i64 l.length),(6, .sl l.length (l.map bo)),(3, .int .i64 (sumB (l.take k)))]) (fun _=> []) 0 (fun k=>k≤l.length) (fun k=>l.length - k) 0 (a₉ _) (by rw [b₈];exact(vm [] [])) ?_;intro k hk;try dsimp only
 refine aa ?_;refine ad rfl ?_ ?_ <;> intro h
 ·have aC:k < l.length:=by have:=ot h;omega
  have aH:=iC aC;have kS:=hb _ (b₅ aC);have cW:=zn l aC;have H9:=rQ l k;have Bu:=rQ l (k + 1);generalize l[k] =b at *;replace aH:bI (l.map bo) l.length (k:Int)=some (.sl b.length (u8s b)):=aH;have aH:=aj.mk aH;have c1:=AW (G:=G) b.length om;generalize jH b.length=v at *;refine aa ?_;refine dZ (c1) ?_;exact⟨k + 1,by show k + 1≤l.length;omega,by show l.length - (k + 1) < l.length - k;omega,(by dsimp only;rw [cW];exact(vm [] []))⟩
 ·have aC:k=l.length:=by have:=oF h;omega
  subst aC;rw [b₆];refine aa ?_;refine au ?_;rfl
theorem TO (l:List (List UInt8)) (hl:l.length≤1000000) (hb: ∀b∈l,b.length≤300000000):aE Tryz.prog G 100 [ee l] (.int .i64 (sumB l)):=by
 have Kf:=rP 300000000 l fun b h=>⟨hb b h,by have:=hb b h;unfold bm;omega⟩
 have J7:l.length * (300000000 + 11)≤1000000 * 300000011:=c₀ _ hl;unfold ee;refine bA seat Tryz.func100 19 ?_;refine aa ?_;refine av Nat (fun k=> [(8, .int .i64 k),(7, .int .i64 l.length),(6, .sl l.length (l.map bo)),(3, .int .i64 (sumB (l.take k)))]) (fun _=> []) 0 (fun k=>k≤l.length) (fun k=>l.length - k) 0 (a₉ _) (by rw [b₈];exact(vm [] [])) ?_;intro k hk;try dsimp only
 refine aa ?_;refine ad rfl ?_ ?_ <;> intro h
 ·have aC:k < l.length:=by have:=ot h;omega
  have aH:=iC aC;have kS:=hb _ (b₅ aC);have cW:=zn l aC;have H9:=rQ l k;have Bu:=rQ l (k + 1);generalize l[k] =b at *;replace aH:bI (l.map bo) l.length (k:Int)=some (.sl b.length (u8s b)):=aH;have aH:=aj.mk aH;have c1:=Mn (G:=G) b.length om;generalize jH b.length=v at *;refine aa ?_;refine dZ (c1) ?_;exact⟨k + 1,by show k + 1≤l.length;omega,by show l.length - (k + 1) < l.length - k;omega,(by dsimp only;rw [cW];exact(vm [] []))⟩
 ·have aC:k=l.length:=by have:=oF h;omega
  subst aC;rw [b₆];refine aa ?_;refine au ?_;rfl
abbrev cQ (x:Int):Prop:= -9223372036854775808≤x∧x < 9223372036854775808
structure zo where
 height:Int
 time:Int
 prop:Int
 par:List UInt8
 txs:List UInt8
 app:List UInt8
 res:List UInt8
 deriving DecidableEq
abbrev hdM (h:zo):MV:= .st [.int .i64 h.height, .int .i64 h.time, .int .i64 h.prop,keyM h.par,keyM h.txs,keyM h.app,keyM h.res]
structure kX (h:zo):Prop where
 height:cQ h.height
 time:cQ h.time
 prop:cQ h.prop
 par:h.par.length=32
 txs:h.txs.length=32
 app:h.app.length=32
 res:h.res.length=32
def natP (x:Int):Nat:=(max x 0).toNat
theorem Jn (x:Int) (h:cQ x):IntKind.u64.wrap (if (0:Int) > x then 0 else x)=((natP x:Nat):Int):=by
 unfold natP;rw [wu64];have:=h.1;have:=h.2;split <;> omega
theorem lJ {x:Int} (h:cQ x):bm (natP x):=by unfold natP bm;have:=h.2;omega
def iT (h:zo):List fq:= [⟨1,0,natP h.height,[]⟩,⟨2,0,natP h.time,[]⟩,⟨3,0,natP h.prop,[]⟩,⟨4,2,0,h.par⟩,⟨5,2,0,h.txs⟩,⟨6,2,0,h.app⟩,⟨7,2,0,h.res⟩]
def fm (h:zo):List UInt8:=aG (iT h)
def mY (h:zo):List UInt8:=iH (fm h)
theorem FH {h:zo} (hk:kX h): ∀f∈iT h,jo f∧f.bytes.length≤32:=by
 intro f hf;unfold iT at hf;simp only [List.mem_cons,List.not_mem_nil,or_false] at hf;rcases hf with rfl | rfl | rfl | rfl | rfl | rfl | rfl
 ·exact⟨oc om om (lJ hk.height),sm⟩
 ·exact⟨oc om om (lJ hk.time),sm⟩
 ·exact⟨oc om om (lJ hk.prop),sm⟩
 ·exact⟨od om om (by rw [hk.par];omega),by rw [hk.par];exact a₁ _⟩
 ·exact⟨od om om (by rw [hk.txs];omega),by rw [hk.txs];exact a₁ _⟩
 ·exact⟨od om om (by rw [hk.app];omega),by rw [hk.app];exact a₁ _⟩
 ·exact⟨od om om (by rw [hk.res];omega),by rw [hk.res];exact a₁ _⟩
theorem jY {h:zo} (hk:kX h):(fm h).length≤400:=by
 have h1:=fJ 32 _ (FH hk);have h2:(iT h).length=7:=rfl;rw [h2] at h1;unfold fm;omega
def Jo (n:Nat) (b:List UInt8):MV:= .st [.int .i64 n, .int .i64 2, .int .u64 0, .sl 32 (u8s b)]
theorem rR (n:Nat) {b:List UInt8} (h:b.length=32):Jo n b=cj ⟨n,2,0,b⟩:=by
 unfold Jo cj;dsimp only;rw [h];rfl
def FI (h:zo):List MV:= [Jf ⟨1,0,natP h.height,[]⟩,Jf ⟨2,0,natP h.time,[]⟩,Jf ⟨3,0,natP h.prop,[]⟩,Jo 4 h.par,Jo 5 h.txs,Jo 6 h.app,Jo 7 h.res]
theorem Qr {h:zo} (hk:kX h):Dd (FI h) (iT h):=
 .cons (.inr ⟨rfl,rfl⟩) (.cons (.inr ⟨rfl,rfl⟩) (.cons (.inr ⟨rfl,rfl⟩) (.cons (.inl (rR 4 hk.par)) (.cons (.inl (rR 5 hk.txs)) (.cons (.inl (rR 6 hk.app)) (.cons (.inl (rR 7 hk.res)) .nil))))))
theorem xe (h:zo) (hk:kX h):aT Tryz.prog G 70 [hdM h] [] 0 (.sl (fm h).length (u8s (fm h))) [] 0:=by
 have hl:=jY hk;have cm:=o7 (G:=G) (iT h) (FI h) (Qr hk) (fun f hf=>(FH hk f hf).1) (by show(fm h).length < _;omega) (by show 7 < 1000000;omega)
 show aT _ _ _ _ _ _ (.sl (aG (iT h)).length (u8s (aG (iT h)))) _ _
 obtain⟨height,time,prop,par,txs,app,res⟩:=h;obtain⟨h1,h2,h3,h4,h5,h6,h7⟩:=hk;dsimp only at h1 h2 h3 h4 h5 h6 h7;have e1:=aX.mk (Jn height h1);have e2:=aX.mk (Jn time h2);have e3:=aX.mk (Jn prop h3);clear hl;generalize OK:aG (iT ⟨height,time,prop,par,txs,app,res⟩)=mm' at *;clear OK;refine dK seat Tryz.func70 58 ?_;refine aa ?_;refine av Nat (fun k=> [(16, .int .i64 k),(15, .int .i64 3),(14, .ms 1 1 0 3),(3, .ms 2 4 0 k),(1, .ptr 0 131 0 0 [])]) (fun k=> [(0,⟨79,131,false,0,[.st [.int .i64 height, .int .i64 time, .int .i64 prop,keyM par,keyM txs,keyM app,keyM res]]⟩),(1,⟨3,1,true,0,[.int .i64 height, .int .i64 time, .int .i64 prop]⟩),(2,⟨183,4,true,0,(FI ⟨height,time,prop,par,txs,app,res⟩).take k⟩)]) 3 (fun k=>k≤3) (fun k=>3 - k) 0 (a₉ _) (vm [(0,_),(1,_)] []) ?_;intro k hk;try dsimp only
 have U7:k=0∨k=1∨k=2∨k=3:=om;rcases U7 with rfl | rfl | rfl | rfl
 ·
  refine aa ?_;refine aO rfl rfl (by intro R hR;refine da hR ?_;(refine a₀ (a₁ _) ?_;refine⟨_,rfl,?_⟩;refine a₀ ⟨(by rfl),ai (by kernel_rfl) pf⟩ ?_;refine⟨(FI ⟨height,time,prop,par,txs,app,res⟩).take 1,sv (by rfl),1,sv pf,?_⟩);exact hR) rfl ?_;refine aa ?_;exact⟨1,om,by show 3 - 1 < 3 - 0;omega,(by dsimp only;exact(vm [(0,_),(1,_),(2,_)] []))⟩
 ·
  refine aa ?_;refine aO rfl rfl (by intro R hR;refine da hR ?_;(refine a₀ (a₁ _) ?_;refine⟨_,rfl,?_⟩;refine a₀ ⟨(by rfl),ai (by kernel_rfl) pf⟩ ?_;refine⟨(FI ⟨height,time,prop,par,txs,app,res⟩).take 2,sv (by rfl),2,sv pf,?_⟩);exact hR) rfl ?_;refine aa ?_;exact⟨2,om,by show 3 - 2 < 3 - 1;omega,(by dsimp only;exact(vm [(0,_),(1,_),(2,_)] []))⟩
 ·
  refine aa ?_;refine aO rfl rfl (by intro R hR;refine da hR ?_;(refine a₀ (a₁ _) ?_;refine⟨_,rfl,?_⟩;refine a₀ ⟨(by rfl),ai (by kernel_rfl) pf⟩ ?_;refine⟨(FI ⟨height,time,prop,par,txs,app,res⟩).take 3,sv (by rfl),3,sv pf,?_⟩);exact hR) rfl ?_;refine aa ?_;exact⟨3,om,by show 3 - 3 < 3 - 2;omega,(by dsimp only;exact(vm [(0,_),(1,_),(2,_)] []))⟩
 ·refine aa ?_;refine av Nat (fun k=> [(41, .int .i64 k),(40, .int .i64 4),(39, .ms 0 32 0 4),(3, .ms 1 4 0 (3 + k))]) (fun k=> [(0,⟨68,32,true,0,[keyM par,keyM txs,keyM app,keyM res]⟩),(1,⟨183,4,true,0,(FI ⟨height,time,prop,par,txs,app,res⟩).take (3 + k)⟩)]) 2 (fun k=>k≤4) (fun k=>4 - k) 0 (a₉ _) (vm [(0,_),(1,_)] []) ?_;clear hk;intro k hk;try dsimp only
  have U7:k=0∨k=1∨k=2∨k=3∨k=4:=om;rcases U7 with rfl | rfl | rfl | rfl | rfl
  ·
   refine aa ?_;refine aO rfl rfl (by intro R hR;refine da hR ?_;refine a₀ ((by show bg (cutL _ 0 32) 1=true;rw [eA h4];exact bX _)) ?_;refine a₀ ⟨rfl,ai (by kernel_rfl) pf⟩ ?_;refine⟨u8s par,sv (by show [] ++ cutL _ 0 32=_;rw [eA h4,a₈]),32,sv pf,?_⟩;exact hR) rfl ?_;refine qg ([(51, .sl 32 (u8s par)),(48, .int .i64 4),(46, .ms 1 4 0 3),(41, .int .i64 0),(40, .int .i64 4),(39, .ms 0 32 0 4)]) ([(0,⟨68,32,true,0,[keyM par,keyM txs,keyM app,keyM res]⟩),(1,⟨183,4,true,0,(FI ⟨height,time,prop,par,txs,app,res⟩).take 3⟩)]) [(14,32)] ⟨(by show 32≤(u8s par).length;simp [u8s];omega),trivial⟩ rfl ⟨⟨_,rfl, .inr ⟨rfl,rfl,rfl,a₇ (a₃ _),eA h4⟩⟩,mm⟩ mm ?_;refine aa ?_;refine aO rfl rfl (by intro R hR;refine da hR ?_;(refine a₀ (a₁ _) ?_;refine⟨_,rfl,?_⟩;refine a₀ ⟨(by rfl),ai (by kernel_rfl) pf⟩ ?_;refine⟨(FI ⟨height,time,prop,par,txs,app,res⟩).take 4,sv (by rfl),4,sv pf,?_⟩);exact hR) rfl ?_;refine aa ?_;exact⟨1,om,by show 4 - 1 < 4 - 0;omega,(by dsimp only;exact(vm [(0,_),(1,_)] []))⟩
  ·
   refine aa ?_;refine aO rfl rfl (by intro R hR;refine da hR ?_;refine a₀ ((by show bg (cutL _ 0 32) 1=true;rw [eA h5];exact bX _)) ?_;refine a₀ ⟨rfl,ai (by kernel_rfl) pf⟩ ?_;refine⟨u8s txs,sv (by show [] ++ cutL _ 0 32=_;rw [eA h5,a₈]),32,sv pf,?_⟩;exact hR) rfl ?_;refine qg ([(51, .sl 32 (u8s txs)),(48, .int .i64 5),(46, .ms 1 4 0 4),(41, .int .i64 1),(40, .int .i64 4),(39, .ms 0 32 0 4)]) ([(0,⟨68,32,true,0,[keyM par,keyM txs,keyM app,keyM res]⟩),(1,⟨183,4,true,0,(FI ⟨height,time,prop,par,txs,app,res⟩).take 4⟩)]) [(14,32)] ⟨(by show 32≤(u8s txs).length;simp [u8s];omega),trivial⟩ rfl ⟨⟨_,rfl, .inr ⟨rfl,rfl,rfl,a₇ (a₃ _),eA h5⟩⟩,mm⟩ mm ?_;refine aa ?_;refine aO rfl rfl (by intro R hR;refine da hR ?_;(refine a₀ (a₁ _) ?_;refine⟨_,rfl,?_⟩;refine a₀ ⟨(by rfl),ai (by kernel_rfl) pf⟩ ?_;refine⟨(FI ⟨height,time,prop,par,txs,app,res⟩).take 5,sv (by rfl),5,sv pf,?_⟩);exact hR) rfl ?_;refine aa ?_;exact⟨2,om,by show 4 - 2 < 4 - 1;omega,(by dsimp only;exact(vm [(0,_),(1,_)] []))⟩
  ·
   refine aa ?_;refine aO rfl rfl (by intro R hR;refine da hR ?_;refine a₀ ((by show bg (cutL _ 0 32) 1=true;rw [eA h6];exact bX _)) ?_;refine a₀ ⟨rfl,ai (by kernel_rfl) pf⟩ ?_;refine⟨u8s app,sv (by show [] ++ cutL _ 0 32=_;rw [eA h6,a₈]),32,sv pf,?_⟩;exact hR) rfl ?_;refine qg ([(51, .sl 32 (u8s app)),(48, .int .i64 6),(46, .ms 1 4 0 5),(41, .int .i64 2),(40, .int .i64 4),(39, .ms 0 32 0 4)]) ([(0,⟨68,32,true,0,[keyM par,keyM txs,keyM app,keyM res]⟩),(1,⟨183,4,true,0,(FI ⟨height,time,prop,par,txs,app,res⟩).take 5⟩)]) [(14,32)] ⟨(by show 32≤(u8s app).length;simp [u8s];omega),trivial⟩ rfl ⟨⟨_,rfl, .inr ⟨rfl,rfl,rfl,a₇ (a₃ _),eA h6⟩⟩,mm⟩ mm ?_;refine aa ?_;refine aO rfl rfl (by intro R hR;refine da hR ?_;(refine a₀ (a₁ _) ?_;refine⟨_,rfl,?_⟩;refine a₀ ⟨(by rfl),ai (by kernel_rfl) pf⟩ ?_;refine⟨(FI ⟨height,time,prop,par,txs,app,res⟩).take 6,sv (by rfl),6,sv pf,?_⟩);exact hR) rfl ?_;refine aa ?_;exact⟨3,om,by show 4 - 3 < 4 - 2;omega,(by dsimp only;exact(vm [(0,_),(1,_)] []))⟩
  ·
   refine aa ?_;refine aO rfl rfl (by intro R hR;refine da hR ?_;refine a₀ ((by show bg (cutL _ 0 32) 1=true;rw [eA h7];exact bX _)) ?_;refine a₀ ⟨rfl,ai (by kernel_rfl) pf⟩ ?_;refine⟨u8s res,sv (by show [] ++ cutL _ 0 32=_;rw [eA h7,a₈]),32,sv pf,?_⟩;exact hR) rfl ?_;refine qg ([(51, .sl 32 (u8s res)),(48, .int .i64 7),(46, .ms 1 4 0 6),(41, .int .i64 3),(40, .int .i64 4),(39, .ms 0 32 0 4)]) ([(0,⟨68,32,true,0,[keyM par,keyM txs,keyM app,keyM res]⟩),(1,⟨183,4,true,0,(FI ⟨height,time,prop,par,txs,app,res⟩).take 6⟩)]) [(14,32)] ⟨(by show 32≤(u8s res).length;simp [u8s];omega),trivial⟩ rfl ⟨⟨_,rfl, .inr ⟨rfl,rfl,rfl,a₇ (a₃ _),eA h7⟩⟩,mm⟩ mm ?_;refine aa ?_;refine aO rfl rfl (by intro R hR;refine da hR ?_;(refine a₀ (a₁ _) ?_;refine⟨_,rfl,?_⟩;refine a₀ ⟨(by rfl),ai (by kernel_rfl) pf⟩ ?_;refine⟨(FI ⟨height,time,prop,par,txs,app,res⟩).take 7,sv (by rfl),7,sv pf,?_⟩);exact hR) rfl ?_;refine aa ?_;exact⟨4,om,by show 4 - 4 < 4 - 3;omega,(by dsimp only;exact(vm [(0,_),(1,_)] []))⟩
  ·refine aa ?_;refine cX rfl aA rfl (cm) rfl [(1,7)] mm lm ?_;refine aa ?_;exact en [_]
theorem xf (h:zo) (hk:kX h):aE Tryz.prog G 43 [hdM h] (keyM (mY h)):=by
 have c1:=xe (G:=G) h hk;have c2:=nS (G:=G) (fm h) (by have:=jY hk;omega);unfold mY;obtain⟨height,time,prop,par,txs,app,res⟩:=h;generalize fm ⟨height,time,prop,par,txs,app,res⟩=b at *;generalize iH b=k at *;refine bA seat Tryz.func43 6 ?_;refine aa ?_;refine jn (c1) ?_;refine dZ (c2) ?_;refine au ?_;rfl
structure Qs (c:nf):Prop where
 h1:cQ c.maxTxs
 h2:cQ c.maxBytes
 h3:cQ c.maxTx
 h4:cQ c.cache
 h5:cQ c.ttlB
 h6:cQ c.ttlT
 h7:cQ c.blkB
 h8:cQ c.blkG
 h9:bm c.price
 Gb:cQ c.self
 h11:cQ c.nodes
def fI (c:nf):Nat→Int
 | 0=>c.maxTxs
 | 1=>c.maxBytes
 | 2=>c.maxTx
 | 3=>c.cache
 | 4=>c.ttlB
 | 5=>c.ttlT
 | 6=>if c.keep then 1 else 0
 | 7=>c.blkB
 | 8=>c.blkG
 | 9=>0
 | 10=>c.self
 | _=>c.nodes
def loI:Nat→Int
 | 0 | 1 | 2 | 7 | 11=>1
 | 8=> -1
 | _=>0
def hiI:Nat→Int
 | 0=>512
 | 1 | 7=>1048576
 | 2=>4096
 | 3=>1024
 | 4 | 5=>1073741824
 | 6=>1
 | 8=>1125899906842624
 | 9=>0
 | 10=>7
 | _=>8
def tD (c:nf) (k:Nat):Bool:=decide (loI k≤fI c k) && decide (fI c k≤hiI k)
def pD (c:nf):Nat→Bool
 | 0=>true
 | k + 1=>pD c k && tD c k
def ky (c:nf):Int:=if pD c 12=true∧c.self < c.nodes then 0 else 1
theorem tE {k:Nat} (hk:k < 12):k=0∨k=1∨k=2∨k=3∨k=4∨k=5∨k=6∨k=7∨k=8∨k=9∨k=10∨k=11:=om
theorem xg {c:nf} {k:Nat} (h:tD c k=false): ∀{n:Nat},k < n→pD c n=false
 | 0,hn=>by omega
 | n + 1,hn=>by
  by_cases e:k=n
  ·subst e;simp [pD,h]
  ·simp [pD,xg h (show k < n by omega)]
theorem zp {c:nf} {k:Nat} (hk:k < 12) (h:tD c k=false):ky c=1:=by simp [ky,xg h hk]
theorem zq {c:nf} (h:pD c 12=true):ky c=if c.self < c.nodes then 0 else 1:=by simp [ky,h]
theorem rkeys_s:aE Tryz.prog G 108 [] (.sl 12 [.str [109,97,120,45,116,120,115], .str [109,97,120,45,98,121,116,101,115], .str [109,97,120,45,116,120,45,98,121,116,101,115], .str [99,97,99,104,101,45,115,105,122,101], .str [116,116,108,45,98,108,111,99,107,115], .str [116,116,108,45,116,105,109,101], .str [107,101,101,112,45,105,110,118,97,108,105,100], .str [98,108,111,99,107,45,98,121,116,101,115], .str [98,108,111,99,107,45,103,97,115], .str [112,114,105,99,101], .str [115,101,108,102], .str [110,111,100,101,115]]):=by
 refine bA seat Tryz.func108 2 ?_;refine aa ?_
 conv=>whnf
 exact⟨by decide,_,rfl,rfl⟩
theorem Mp {k:Nat} (hk:k < 12):aE Tryz.prog G 110 [.int .i64 k] (.int .i64 (loI k)):=by
 have aH:cE [.int .i64 1, .int .i64 1, .int .i64 1, .int .i64 0, .int .i64 0, .int .i64 0, .int .i64 0, .int .i64 1, .int .i64 (-1), .int .i64 0, .int .i64 0, .int .i64 1] (0 + k)=some (.int .i64 (loI k)):=by
  rcases tE hk with rfl | rfl | rfl | rfl | rfl | rfl | rfl | rfl | rfl | rfl | rfl | rfl <;> rfl
 have aH:=aj.mk aH;have UG:=aj.mk (cI hk);refine bA seat Tryz.func110 7 ?_;refine aa ?_;refine au ?_;rfl
theorem Mq {k:Nat} (hk:k < 12):aE Tryz.prog G 111 [.int .i64 k] (.int .i64 (hiI k)):=by
 have aH:cE [.int .i64 512, .int .i64 1048576, .int .i64 4096, .int .i64 1024, .int .i64 1073741824, .int .i64 1073741824, .int .i64 1, .int .i64 1048576, .int .i64 1125899906842624, .int .i64 0, .int .i64 7, .int .i64 8] (0 + k)=some (.int .i64 (hiI k)):=by
  rcases tE hk with rfl | rfl | rfl | rfl | rfl | rfl | rfl | rfl | rfl | rfl | rfl | rfl <;> rfl
 have aH:=aj.mk aH;have UG:=aj.mk (cI hk);refine bA seat Tryz.func111 7 ?_;refine aa ?_;refine au ?_;rfl
theorem TP (c:nf) {k:Nat} (hk:k < 12):aE Tryz.prog G 109 [cfM c, .int .i64 k] (.int .i64 (fI c k)):=by
 have aH:cE [.int .i64 c.maxTxs, .int .i64 c.maxBytes, .int .i64 c.maxTx, .int .i64 c.cache, .int .i64 c.ttlB, .int .i64 c.ttlT, .int .i64 (if c.keep then 1 else 0), .int .i64 c.blkB, .int .i64 c.blkG, .int .i64 0, .int .i64 c.self, .int .i64 c.nodes] (0 + k)=some (.int .i64 (fI c k)):=by
  rcases tE hk with rfl | rfl | rfl | rfl | rfl | rfl | rfl | rfl | rfl | rfl | rfl | rfl <;> rfl
 generalize fI c k=x at *;obtain⟨c0,c1,c2,c3,c4,c5,c6,c7,c8,c9,c10,c11⟩:=c;have UG:=aj.mk (cI hk);cases c6 <;>
 ·have aH:=aj.mk aH;refine bA seat Tryz.func109 33 ?_;refine aa ?_;refine au ?_;rfl
theorem Dn (c:nf):aE Tryz.prog G 63 [cfM c] (.int .i64 (ky c)):=by
 have cv: ∀k,k < 12→_:=fun k hk=>TP (G:=G) c (k:=k) hk
 have hb: ∀k,k < 12→tD c k=false→_:=fun k hk=>zp (c:=c) hk
 have UF:=zq (c:=c);have hF: ∀k,tD c k=(decide (loI k≤fI c k) && decide (fI c k≤hiI k)):=fun _=>rfl
 have h9:tD c 9=true:=rfl;have hS: ∀k,pD c (k + 1)=(pD c k && tD c k):=fun _=>rfl
 have h0:pD c 0=true:=rfl;refine bA seat Tryz.func63 33 ?_;refine aa ?_;refine dZ (rkeys_s) ?_;refine av Nat (fun k=> [(6, .int .i64 k),(5, .int .i64 12),(1, .ptr 0 12 0 0 [])]) (fun _=> [(0,⟨66,12,false,0,[cfM c]⟩)]) 1 (fun k=>k≤12∧pD c k=true) (fun k=>12 - k) 0 ⟨om,h0⟩ (vm [(0,_)] []) ?_;rintro k ⟨hk,eG⟩;try dsimp only
 refine aa ?_;refine ad rfl ?_ ?_ <;> intro h
 ·have aC:k < 12:=by have:=ot h;omega
  have cv:=cv k aC;have cl:=Mp (G:=G) aC;have cg:=Mq (G:=G) aC;have hb:=hb k aC;have hF:=hF k;have hS:=hS k;rw [eG] at hS;generalize fI c k=x at *;generalize loI k=lo at *;generalize hiI k=hi at *;by_cases e9:k=9
  ·subst e9;refine aa ?_;exact⟨9 + 1,⟨om,by rw [hS,h9];rfl⟩,by show 12 - (9 + 1) < 12 - 9;omega,(by dsimp only;exact(vm [(0,_)] []))⟩
  ·refine aa ?_;refine ag rfl rfl ?_ rfl ?_ <;> intro h
   rotate_left
   ·exfalso;simp at h;omega
   refine aa ?_;refine dZ (cv) ?_;refine dZ (cl) ?_;refine ag rfl rfl ?_ rfl ?_ <;> intro h
   ·have h1:=oF h;refine aa ?_;refine dZ (cv) ?_;refine dZ (cg) ?_;refine ad rfl ?_ ?_ <;> intro h
    ·have h2:=ot h;rw [hb (by rw [hF];simp;omega)];refine aa ?_;refine au ?_;rfl
    ·have h2:=oF h;refine aa ?_;exact⟨k + 1,⟨om,by rw [hS,hF];simp;omega⟩,by show 12 - (k + 1) < 12 - k;omega,(by dsimp only;exact(vm [(0,_)] []))⟩
   ·have h1:=ot h;rw [hb (by rw [hF];simp;omega)];refine aa ?_;refine au ?_;rfl
 ·have aC:k=12:=by have:=oF h;omega
  subst aC;rw [UF eG];refine aa ?_;refine ad rfl ?_ ?_ <;> intro h
  ·have h:=ot h;rw [if_neg om];refine aa ?_;refine au ?_;rfl
  ·have h:=oF h;rw [if_pos om];refine aa ?_;refine au ?_;rfl
abbrev wM (a:Int×Bool):MV:= .st [.int .u64 a.1, .bool a.2]
def lessB (a b:Int×Bool):Bool:=if (a.2 || b.2)=true then a.2 && !b.2 else decide (a.1 < b.1)
theorem Mr (a b:Int×Bool):aE Tryz.prog G 167 [wM a,wM b] (.bool (lessB a b)):=by
 obtain⟨n,m⟩:=a;obtain⟨n',m'⟩:=b;cases m <;> cases m' <;>
 ·refine bA seat Tryz.func167 23 ?_;refine aa ?_;refine au ?_;rfl
theorem rS (n:Int) (h0:0≤n) (h1:n < 9223372036854775808):aE Tryz.prog G 165 [.int .i64 n] (wM (n,false)):=by
 refine bA seat Tryz.func165 6 ?_;refine aa ?_;refine au ?_;rfl
def YV:Nat→List UInt8
 | 0=> [109,97,120,45,116,120,115]
 | 1=> [109,97,120,45,98,121,116,101,115]
 | 2=> [109,97,120,45,116,120,45,98,121,116,101,115]
 | 3=> [99,97,99,104,101,45,115,105,122,101]
 | 4=> [116,116,108,45,98,108,111,99,107,115]
 | 5=> [116,116,108,45,116,105,109,101]
 | 6=> [107,101,101,112,45,105,110,118,97,108,105,100]
 | 7=> [98,108,111,99,107,45,98,121,116,101,115]
 | 8=> [98,108,111,99,107,45,103,97,115]
 | 9=> [112,114,105,99,101]
 | 10=> [115,101,108,102]
 | _=> [110,111,100,101,115]
def TQ (k:Nat):Int×Bool:=if loI k= -1 then(0,true) else(loI k,false)
def TR:Nat→Int×Bool
 | 9=>(18446744073709551615,false)
 | k=>(hiI k,false)
def YW:Nat→Int×Bool
 | 0=>(100,false)
 | 1=>(65536,false)
 | 2=>(1024,false)
 | 3=>(200,false)
 | 7=>(32768,false)
 | 8=>(0,true)
 | 9 | 11=>(1,false)
 | _=>(0,false)
abbrev tF (k:Nat):MV:= .st [.str (YV k),wM (TQ k),wM (TR k),wM (YW k)]
abbrev Ms:List MV:= [tF 0,tF 1,tF 2,tF 3,tF 4,tF 5,tF 6,tF 7,tF 8,tF 9,tF 10,tF 11]
def jB (a b v:Int×Bool):Bool:= !lessB v a && !lessB b v
theorem TS:aE Tryz.prog G 105 [] (.arr 12 7 Ms):=by
 have cn: ∀n:Nat,n < 9223372036854775808→aE Tryz.prog G 165 [.int .i64 n] (wM (n,false)):=fun n hn=>rS (G:=G) n om om
 refine bA seat Tryz.func105 54 ?_;refine aa ?_;refine al [dF 0,dF 1,dF 2,ae 3,dF 4,dF 5,dF 6,ae 7,dF 8,dF 9,dF 10,ae 11,dF 12,dF 13,dF 14,ae 15,dF 16,dF 17,dF 18,ae 19,dF 20,dF 21,dF 22,ae 23,dF 24,dF 25,dF 26,ae 27,dF 28,dF 29,dF 30,ae 31,ae 32,dF 33,ae 34,ae 35,dF 36,ae 37,dF 38,ae 39,dF 40,dF 41,dF 42,ae 43,dF 44,dF 45,dF 46,ae 47,ae 48,ae 49] ?_;refine aa ?_;refine di (cn 1 (by decide)) ?_;refine di (cn 512 (by decide)) ?_;refine di (cn 100 (by decide)) ?_;refine di (cn 1 (by decide)) ?_;refine di (cn 1048576 (by decide)) ?_;refine di (cn 65536 (by decide)) ?_;refine di (cn 1 (by decide)) ?_;refine di (cn 4096 (by decide)) ?_;refine di (cn 1024 (by decide)) ?_;refine di (cn 0 (by decide)) ?_;refine di (cn 1024 (by decide)) ?_;refine di (cn 200 (by decide)) ?_;refine di (cn 0 (by decide)) ?_;refine di (cn 1073741824 (by decide)) ?_;refine di (cn 0 (by decide)) ?_;refine di (cn 0 (by decide)) ?_;refine di (cn 1073741824 (by decide)) ?_;refine di (cn 0 (by decide)) ?_;refine di (cn 0 (by decide)) ?_;refine di (cn 1 (by decide)) ?_;refine di (cn 0 (by decide)) ?_;refine di (cn 1 (by decide)) ?_;refine di (cn 1048576 (by decide)) ?_;refine di (cn 32768 (by decide)) ?_;refine di (cn 1125899906842624 (by decide)) ?_;refine di (cn 0 (by decide)) ?_;refine di (cn 1 (by decide)) ?_;refine di (cn 0 (by decide)) ?_;refine di (cn 7 (by decide)) ?_;refine di (cn 0 (by decide)) ?_;refine di (cn 1 (by decide)) ?_;refine di (cn 8 (by decide)) ?_;refine di (cn 1 (by decide)) ?_;refine au ?_;rfl
theorem Mt (nm:List UInt8) (a b d v:Int×Bool):aE Tryz.prog G 107 [.st [.str nm,wM a,wM b,wM d],wM v] (.bool (jB a b v)):=by
 have c1:=Mr (G:=G) v a;have c2:=Mr (G:=G) b v;unfold jB;generalize lessB v a=t1 at *;generalize lessB b v=t2 at *;refine bA seat Tryz.func107 17 ?_;refine aa ?_;refine yv (c1) ?_;cases t1
 ·refine aa ?_;refine dZ (c2) ?_;refine au ?_;rfl
 ·refine aa ?_;refine au ?_;rfl
abbrev Sn (Z:MV):List MV:= [.ep Z 0 [0], .ep Z 1 [1], .ep Z 2 [2], .ep Z 3 [3], .ep Z 4 [4], .ep Z 5 [5], .nilp, .ep Z 7 [7], .ep Z 8 [8], .nilp, .ep Z 10 [10], .ep Z 11 [11]]
theorem FJ (Z:MV):aE Tryz.prog G 166 [.ep Z 0 []] (.arr 12 1 (Sn Z)):=by
 refine bA seat Tryz.func166 34 ?_;refine aa ?_;refine al [ae 0,ae 1,ae 2,ae 3,ae 4,ae 5,ae 6,ae 7,ae 8,ae 9,ae 10,ae 11,ae 12,ae 13,ae 14,ae 15,ae 16,ae 17,ae 18,ae 19,ae 20,ae 21,ae 22,ae 23,ae 24,ae 25,ae 26,ae 27,ae 28,ae 29,ae 30,ae 31] ?_;refine aa ?_;refine au ?_;rfl
def vI (p:Int):(Int×Bool)×Bool:=if p < -1 then((0,false),false) else if p= -1 then((0,true),true) else((p,false),true)
def vW (c:nf):Nat→(Int×Bool)×Bool
 | 6=>(if c.keep then(1,false) else (0,false),true)
 | 9=>((c.price,false),true)
 | k=>vI (fI c k)
abbrev vM (v:(Int×Bool)×Bool):MV:= .tup [wM v.1, .bool v.2]
theorem kY (c:nf) {k:Nat} (i:Nat) (x:Int) (hx:cQ x) (hk:bI (Sn (cfM c)) 12 (k:Int)=some (.ep (cfM c) i [i])) (hi:fj (cfM c) [i] i=some (.int .i64 x)):aE Tryz.prog G 106 [cfM c, .int .i64 k] (vM (vI x)):=by
 unfold cQ at hx;have ci:=FJ (G:=G) (cfM c);have hk:=aj.mk hk;have hi:=aj.mk hi;refine bA seat Tryz.func106 48 ?_;refine aa ?_;refine cX rfl aA rfl (dL ci) rfl [(0,1)] mm ⟨.inr ⟨rfl,b₂ 0,rfl,rfl,rfl,rfl⟩,trivial⟩ ?_;refine aa ?_;refine ad rfl ?_ ?_ <;> intro h
 ·have h:=ot h;unfold vI;rw [if_pos h];refine aa ?_;refine au ?_;rfl
 have h:=oF h;refine aa ?_;refine ad rfl ?_ ?_ <;> intro h
 ·have h2:=eq_of_beq h;subst h2;refine aa ?_;refine au ?_;rfl
 have h2:=ne_of_beq_false h;have cn:=rS (G:=G) x om om;refine aa ?_;refine yv (cn) ?_;unfold vI;rw [if_neg ‹_›,if_neg h2];refine aa ?_;refine au ?_;rfl
theorem TT (c:nf):aE Tryz.prog G 106 [cfM c, .int .i64 (9:Nat)] (vM ((c.price,false),true)):=by
 have ci:=FJ (G:=G) (cfM c);refine bA seat Tryz.func106 48 ?_;refine aa ?_;refine cX rfl aA rfl (dL ci) rfl [(0,1)] mm ⟨.inr ⟨rfl,b₂ 0,rfl,rfl,rfl,rfl⟩,trivial⟩ ?_;refine aa ?_;refine au ?_;rfl
theorem TU (c:nf):aE Tryz.prog G 106 [cfM c, .int .i64 (6:Nat)] (vM (if c.keep then(1,false) else (0,false),true)):=by
 have ci:=FJ (G:=G) (cfM c);have c0:=rS (G:=G) 0 (by decide) (by decide);have c1:=rS (G:=G) 1 (by decide) (by decide);obtain⟨d0,d1,d2,d3,d4,d5,d6,d7,d8,d9,d10,d11⟩:=c;cases d6
 ·refine bA seat Tryz.func106 48 ?_;refine aa ?_;refine cX rfl aA rfl (dL ci) rfl [(0,1)] mm ⟨.inr ⟨rfl,b₂ 0,rfl,rfl,rfl,rfl⟩,trivial⟩ ?_;refine aa ?_;refine dZ (c0) ?_;refine au ?_;rfl
 ·refine bA seat Tryz.func106 48 ?_;refine aa ?_;refine cX rfl aA rfl (dL ci) rfl [(0,1)] mm ⟨.inr ⟨rfl,b₂ 0,rfl,rfl,rfl,rfl⟩,trivial⟩ ?_;refine aa ?_;refine dZ (c1) ?_;refine au ?_;rfl
theorem Qt (c:nf) (hc:Qs c) {k:Nat} (hk:k < 12):aE Tryz.prog G 106 [cfM c, .int .i64 k] (vM (vW c k)):=by
 obtain⟨h1,h2,h3,h4,h5,h6,h7,h8,h9,Gb,h11⟩:=hc;rcases tE hk with rfl | rfl | rfl | rfl | rfl | rfl | rfl | rfl | rfl | rfl | rfl | rfl
 ·exact kY c 0 _ h1 rfl rfl
 ·exact kY c 1 _ h2 rfl rfl
 ·exact kY c 2 _ h3 rfl rfl
 ·exact kY c 3 _ h4 rfl rfl
 ·exact kY c 4 _ h5 rfl rfl
 ·exact kY c 5 _ h6 rfl rfl
 ·exact TU c
 ·exact kY c 7 _ h7 rfl rfl
 ·exact kY c 8 _ h8 rfl rfl
 ·exact TT c
 ·exact kY c 10 _ Gb rfl rfl
 ·exact kY c 11 _ h11 rfl rfl
def okW (c:nf) (k:Nat):Bool:=(vW c k).2 && jB (TQ k) (TR k) (vW c k).1
theorem Qu {p lo hi:Int} {b:Bool} (h1:0≤lo) (h2:b=true→lo=0) (h3:0≤hi):((vI p).2 && jB (lo,b) (hi,false) (vI p).1)=(decide ((if b then -1 else lo)≤p) && decide (p≤hi)):=by
 unfold vI;by_cases hp:p < -1
 ·rw [if_pos hp];cases b <;> simp <;> omega
 ·rw [if_neg hp];by_cases NY:p= -1
  ·rw [if_pos NY];subst NY;cases b <;> simp [jB,lessB] <;> omega
  ·rw [if_neg NY];cases b
   ·simp [jB,lessB,← decide_not,Int.not_lt]
   ·have h4: -1≤p:=om;simp [jB,lessB,h4,← decide_not,Int.not_lt]
theorem TV {c:nf} (hc:Qs c) {k:Nat} (hk:k < 12):okW c k=tD c k:=by
 have hp:=hc.h9;unfold bm at hp;rcases tE hk with rfl | rfl | rfl | rfl | rfl | rfl | rfl | rfl | rfl | rfl | rfl | rfl
 case inr.inr.inr.inr.inr.inr.inl=>show (true && jB _ _ (if c.keep then(1,false) else(0,false)))=(decide (0≤if c.keep then(1:Int) else 0) && decide ((if c.keep then(1:Int) else 0)≤1));cases c.keep <;> rfl
 case inr.inr.inr.inr.inr.inr.inr.inr.inr.inl=>
  show(true && jB (0,false) (18446744073709551615,false) (c.price,false))=true
  simp [jB,lessB];omega
 all_goals exact Qu (by decide) (by decide) (by decide)
theorem Mu {k:Nat} (hk:k < 12):bI Ms 12 (k:Int)=some (tF k):=by
 rcases tE hk with rfl | rfl | rfl | rfl | rfl | rfl | rfl | rfl | rfl | rfl | rfl | rfl <;> rfl
theorem Mv (c:nf) (hc:Qs c):aE Tryz.prog G 62 [cfM c] (.int .i64 (ky c)):=by
 have cr:=TS (G:=G);have cv: ∀k,k < 12→_:=fun k hk=>Qt (G:=G) c hc (k:=k) hk
 have hb: ∀k,k < 12→tD c k=false→_:=fun k hk=>zp (c:=c) hk
 have UF:=zq (c:=c);have hF: ∀k,k < 12→tD c k=((vW c k).2 && jB (TQ k) (TR k) (vW c k).1):=fun k hk=>(TV hc hk).symm
 have hS: ∀k,pD c (k + 1)=(pD c k && tD c k):=fun _=>rfl
 have h0:pD c 0=true:=rfl;have hat:=fun k (hk:k < 12)=>Mu hk
 generalize Ms=R at *;refine bA seat Tryz.func62 32 ?_;refine aa ?_;refine dZ (cr) ?_;refine av Nat (fun k=> [(8, .int .i64 k),(7, .arr 12 7 R),(1, .ptr 0 12 0 0 [])]) (fun _=> [(0,⟨66,12,false,0,[cfM c]⟩)]) 1 (fun k=>k≤12∧pD c k=true) (fun k=>12 - k) 0 ⟨om,h0⟩ (vm [(0,_)] []) ?_;rintro k ⟨hk,eG⟩;try dsimp only
 refine aa ?_;refine ad rfl ?_ ?_ <;> intro h
 ·have aC:k < 12:=by have:=ot h;omega
  have cv:=cv k aC;have hb:=hb k aC;have hF:=hF k aC;have hS:=hS k;have aH:aj (bI R 12 (k:Int)) (.st [.str (YV k),wM (TQ k),wM (TR k),wM (YW k)]):=aj.mk (hat k aC);have cw:=fun v=>Mt (G:=G) (YV k) (TQ k) (TR k) (YW k) v
  rw [eG] at hS;generalize jB (TQ k) (TR k)=W at *;generalize YV k=nm at *;generalize TQ k=lo at *;generalize TR k=hi at *;generalize YW k=df at *;generalize vW c k=v at *;obtain⟨⟨v1,v2⟩,v3⟩:=v;obtain⟨l1,l2⟩:=lo;obtain⟨i1,i2⟩:=hi;obtain⟨d1,d2⟩:=df;have cw:=cw (v1,v2);dsimp only at *;generalize W (v1,v2)=t at *;refine aa ?_;refine yv (cv) ?_;cases v3
  ·refine aa ?_;rw [hb (by simp [hF])];refine au ?_;rfl
  ·refine aa ?_;refine yv (cw) ?_;cases t
   ·refine aa ?_;rw [hb (by simp [hF])];refine au ?_;rfl
   ·refine aa ?_;exact⟨k + 1,⟨om,by rw [hS,hF];rfl⟩,by show 12 - (k + 1) < 12 - k;omega,(by dsimp only;exact(vm [(0,_)] []))⟩
 ·have aC:k=12:=by have:=oF h;omega
  subst aC;rw [UF eG];refine aa ?_;refine ad rfl ?_ ?_ <;> intro h
  ·have h:=ot h;rw [if_neg om];refine aa ?_;refine au ?_;rfl
  ·have h:=oF h;rw [if_pos om];refine aa ?_;refine au ?_;rfl
theorem TW {c:nf} (h:A6 c):Qs c:=by
 obtain⟨h1,h2,h3,h4,h5,h6,h7,h8,h9,Gb,h11⟩:=h;refine⟨?_,?_,?_,?_,?_,?_,?_,?_,h9,?_,?_⟩ <;> (unfold cQ;omega)
theorem xh {c:nf} (h:A6 c):ky c=0:=by
 obtain⟨h1,h2,h3,h4,h5,h6,h7,h8,h9,Gb,h11⟩:=h;have k6:tD c 6=true:=by
  show(decide (0≤if c.keep then(1:Int) else 0) && decide ((if c.keep then(1:Int) else 0)≤1))=true
  cases c.keep <;> rfl
 have hk:pD c 12=true:=by
  simp only [pD,k6];simp [tD,loI,hiI,fI];omega
 exact if_pos ⟨hk,Gb.2⟩
end
section
open Go.ChangeShapes Go.WideShapes Go.ChangeAt Go.RowKit
def fI64 (m:MV):Prop:= ∃n,m= .int .i64 n∧(Lit.int .i64 n).wf=true
def fBool (m:MV):Prop:= ∃b,m= .bool b
def Mw:List (Nat×(MV→Prop)):= [(1,fI64),(1,fI64),(1,fI64),(1,fI64),(1,fI64),(1,fI64),(1,fBool),(1,fI64),(1,fI64),(1,fU64),(1,fI64),(1,fI64)]
theorem Qv:Opn Tryz.prog 66 12 fun m=> ∃l,m= .st l∧AF Mw l:=by
 refine Opn.struct (P:=Tryz.prog) (qs:=Mw) Tryz.underlying66 (by kernel_rfl) ?_;unfold Mw;refine dX rfl iE ?_;refine dX rfl iE ?_;refine dX rfl iE ?_;refine dX rfl iE ?_;refine dX rfl iE ?_;refine dX rfl iE ?_;refine dX rfl (Opn.bool Tryz.underlying4 (by kernel_rfl)) ?_;refine dX rfl iE ?_;refine dX rfl iE ?_;refine dX rfl (Opn.int Tryz.underlying23 (by kernel_rfl)) ?_;refine dX rfl iE ?_;refine dX rfl iE ?_;exact trivial
theorem gP {m:MV} (h:fI64 m): ∃n:Int,m= .int .i64 n∧cQ n:=by
 obtain⟨n,rfl,h⟩:=h;simp [Lit.wf,IntKind.min,IntKind.max,IntKind.signed,IntKind.bits] at h;exact⟨n,rfl,by unfold cQ;omega⟩
theorem eV {q:Nat×(MV→Prop)} {qs:List (Nat×(MV→Prop))}: ∀{l:List MV},AF (q :: qs) l→∃m r,l=m :: r∧q.2 m∧AF qs r
 | [],h=>h.elim
 | m :: r,h=>⟨m,r,rfl,h.1,h.2⟩
theorem Mx: ∀{l:List MV},AF [] l→l= []
 | [],_=>rfl
 | _ :: _,h=>h.elim
theorem My {m:MV} (h: ∃l,m= .st l∧AF Mw l): ∃c:nf,m=cfM c∧Qs c:=by
 obtain⟨l,rfl,h⟩:=h;unfold Mw at h;obtain⟨_,l1,rfl,h1,g1⟩:=eV h;obtain⟨_,l2,rfl,h2,g2⟩:=eV g1;obtain⟨_,l3,rfl,h3,g3⟩:=eV g2;obtain⟨_,l4,rfl,h4,g4⟩:=eV g3;obtain⟨_,l5,rfl,h5,g5⟩:=eV g4;obtain⟨_,l6,rfl,h6,g6⟩:=eV g5;obtain⟨_,l7,rfl,h7,g7⟩:=eV g6;obtain⟨_,l8,rfl,h8,g8⟩:=eV g7;obtain⟨_,l9,rfl,h9,g9⟩:=eV g8;obtain⟨_,l10,rfl,Gb,g10⟩:=eV g9;obtain⟨_,l11,rfl,h11,g11⟩:=eV g10;obtain⟨_,l12,rfl,Yf,g12⟩:=eV g11;obtain rfl:=Mx g12;obtain⟨b,rfl⟩:=h7;obtain⟨a1,rfl,b1⟩:=gP h1;obtain⟨a2,rfl,b2⟩:=gP h2;obtain⟨a3,rfl,b3⟩:=gP h3;obtain⟨a4,rfl,b4⟩:=gP h4;obtain⟨a5,rfl,b5⟩:=gP h5;obtain⟨a6,rfl,b6⟩:=gP h6;obtain⟨a8,rfl,b8⟩:=gP h8;obtain⟨a9,rfl,b9⟩:=gP h9;obtain⟨a10,rfl,Zh⟩:=w9 Gb;obtain⟨a11,rfl,b11⟩:=gP h11;obtain⟨a12,rfl,b12⟩:=gP Yf;exact⟨⟨a1,a2,a3,a4,a5,a6,b,a8,a9,a10,a11,a12⟩,rfl,b1,b2,b3,b4,b5,b6,b8,b9,Zh,b11,b12⟩
end
section
variable {G:GS}
attribute [local irreducible] ak aB aD aJ aQ vC aY aw
theorem FK (b:List UInt8) (f:fq) (hf:jo f) (hb:b.length + f.bytes.length < 200000000):aT Tryz.prog G 212 [.ms 0 1 0 b.length,cj f] [(0,⟨5,1,true,0,u8s b⟩)] 1 (.ms 1 1 0 (b ++ aZ f).length) [(1,⟨5,1,true,0,u8s (b ++ aZ f)⟩)] 2:=by
 have c1:=nR (G:=G) [] f hf (by simp;omega);have hl:=iQ hf;rw [a₈] at c1;unfold kg at c1;obtain⟨num,kind,val,bytes⟩:=f;generalize hv:aZ ⟨num,kind,val,bytes⟩=v at *;dsimp only at hl hb;unfold cj at *;dsimp only at *;have hlen:(b ++ v).length=b.length + v.length:=a₅;refine dK seat Tryz.func212 15 ?_;refine aa ?_;refine bF rfl aA rfl c1 [] [] ⟨rfl,trivial,rfl,⟨.inr ⟨rfl,rfl⟩, .inl ⟨rfl,rfl⟩,trivial⟩,trivial⟩ rfl rfl ?_;refine aa ?_;refine aO rfl rfl (by intro R hR;refine da hR ?_;refine a₀ ((by show 0 + v.length≤(u8s v).length;simp [u8s])) ?_;refine⟨_,rfl,?_⟩;refine a₀ ⟨(by simp [u8s]),ai (by kernel_rfl) pf⟩ ?_;refine⟨u8s (b ++ v),sv (by show u8s b ++ cutL (u8s v) 0 (0 + v.length)=_;rw [a₃,cut_u8];simp [u8s]),(b ++ v).length,sv pf,?_⟩;exact hR) rfl ?_;refine aa ?_;exact eb [_] [(1,12)] []
theorem rT (n:Nat) {b:List UInt8} (h:b.length=32):cj ⟨n,2,0,b⟩= .st [.int .i64 n, .int .i64 2, .int .u64 0, .sl 32 (cutL (u8s b) 0 32)] :=by
 rw [eA h,← rR n h];rfl
theorem iU {l:List fq} {k:Nat} (hk:k < l.length):aG (l.take (k + 1))=aG (l.take k) ++ aZ l[k] :=oX l hk
theorem Jp (h:zo) (hk:kX h):aT Tryz.prog G 153 [hdM h] [] 0 (.sl (fm h).length (u8s (fm h))) [] 0:=by
 have hl:=jY hk;have OL: ∀k,(aG ((iT h).take k)).length≤400:=fun k=>Nat.le_trans (oY (iT h) k) hl
 show aT _ _ _ _ _ _ (.sl (aG (iT h)).length (u8s (aG (iT h)))) _ _
 obtain⟨height,time,prop,par,txs,app,res⟩:=h;obtain⟨h1,h2,h3,h4,h5,h6,h7⟩:=hk;dsimp only at h1 h2 h3 h4 h5 h6 h7;have e1:=aX.mk (Jn height h1);have e2:=aX.mk (Jn time h2);have e3:=aX.mk (Jn prop h3);clear hl;refine dK seat Tryz.func153 49 ?_;refine aa ?_;refine av Nat (fun k=> [(15, .int .i64 k),(14, .arr 3 1 [.int .i64 height, .int .i64 time, .int .i64 prop]),(3, .ms 1 1 0 (aG ((iT ⟨height,time,prop,par,txs,app,res⟩).take k)).length),(1, .ptr 0 131 0 0 [])]) (fun k=> [(0,⟨79,131,false,0,[.st [.int .i64 height, .int .i64 time, .int .i64 prop,keyM par,keyM txs,keyM app,keyM res]]⟩),(1,⟨5,1,true,0,u8s (aG ((iT ⟨height,time,prop,par,txs,app,res⟩).take k))⟩)]) 2 (fun k=>k≤3) (fun k=>3 - k) 0 (a₉ _) (by dsimp only;rw [show aG ((iT ⟨height,time,prop,par,txs,app,res⟩).take 0)= [] from rfl];exact(vm [(0,_)] [])) ?_;intro k hk;try dsimp only
 have U7:k=0∨k=1∨k=2∨k=3:=om;rcases U7 with rfl | rfl | rfl | rfl
 ·
  have cc:=FK (G:=G) (aG ((iT ⟨height,time,prop,par,txs,app,res⟩).take 0)) ⟨1,0,natP height,[]⟩ (oc om om (lJ h1)) (by have:=OL 0;simp only [b₃];omega);rw [show aG ((iT ⟨height,time,prop,par,txs,app,res⟩).take 0) ++ aZ ⟨1,0,natP height,[]⟩=aG ((iT ⟨height,time,prop,par,txs,app,res⟩).take 1) from(iU (l:=(iT ⟨height,time,prop,par,txs,app,res⟩)) (k:=0) (by show 0 < 7;omega)).symm] at cc;refine aa ?_;refine bF rfl aA rfl cc [(0,1)] [] ⟨rfl,trivial,rfl,⟨rv,ql rfl,trivial⟩,mm⟩ rfl rfl ?_;refine aa ?_;exact⟨1,om,by show 3 - 1 < 3 - 0;omega,(by dsimp only;exact(vm [(0,_),(1,_)] []))⟩
 ·
  have cc:=FK (G:=G) (aG ((iT ⟨height,time,prop,par,txs,app,res⟩).take 1)) ⟨2,0,natP time,[]⟩ (oc om om (lJ h2)) (by have:=OL 1;simp only [b₃];omega);rw [show aG ((iT ⟨height,time,prop,par,txs,app,res⟩).take 1) ++ aZ ⟨2,0,natP time,[]⟩=aG ((iT ⟨height,time,prop,par,txs,app,res⟩).take 2) from(iU (l:=(iT ⟨height,time,prop,par,txs,app,res⟩)) (k:=1) (by show 1 < 7;omega)).symm] at cc;refine aa ?_;refine bF rfl aA rfl cc [(0,1)] [] ⟨rfl,trivial,rfl,⟨rv,ql rfl,trivial⟩,mm⟩ rfl rfl ?_;refine aa ?_;exact⟨2,om,by show 3 - 2 < 3 - 1;omega,(by dsimp only;exact(vm [(0,_),(1,_)] []))⟩
 ·
  have cc:=FK (G:=G) (aG ((iT ⟨height,time,prop,par,txs,app,res⟩).take 2)) ⟨3,0,natP prop,[]⟩ (oc om om (lJ h3)) (by have:=OL 2;simp only [b₃];omega);rw [show aG ((iT ⟨height,time,prop,par,txs,app,res⟩).take 2) ++ aZ ⟨3,0,natP prop,[]⟩=aG ((iT ⟨height,time,prop,par,txs,app,res⟩).take 3) from(iU (l:=(iT ⟨height,time,prop,par,txs,app,res⟩)) (k:=2) (by show 2 < 7;omega)).symm] at cc;refine aa ?_;refine bF rfl aA rfl cc [(0,1)] [] ⟨rfl,trivial,rfl,⟨rv,ql rfl,trivial⟩,mm⟩ rfl rfl ?_;refine aa ?_;exact⟨3,om,by show 3 - 3 < 3 - 2;omega,(by dsimp only;exact(vm [(0,_),(1,_)] []))⟩
 ·refine aa ?_;refine av Nat (fun k=> [(37, .int .i64 k),(36, .arr 4 32 [keyM par,keyM txs,keyM app,keyM res]),(3, .ms 0 1 0 (aG ((iT ⟨height,time,prop,par,txs,app,res⟩).take (3 + k))).length)]) (fun k=> [(0,⟨5,1,true,0,u8s (aG ((iT ⟨height,time,prop,par,txs,app,res⟩).take (3 + k)))⟩)]) 1 (fun k=>k≤4) (fun k=>4 - k) 0 (a₉ _) (vm [(0,_)] []) ?_;clear hk;intro k hk;try dsimp only
  have U7:k=0∨k=1∨k=2∨k=3∨k=4:=om;rcases U7 with rfl | rfl | rfl | rfl | rfl
  ·
   have cc:=FK (G:=G) (aG ((iT ⟨height,time,prop,par,txs,app,res⟩).take 3)) ⟨4,2,0,par⟩ (od om om (by rw [h4];omega)) (by have:=OL 3;dsimp only;rw [h4];omega);rw [show aG ((iT ⟨height,time,prop,par,txs,app,res⟩).take 3) ++ aZ ⟨4,2,0,par⟩=aG ((iT ⟨height,time,prop,par,txs,app,res⟩).take 4) from(iU (l:=(iT ⟨height,time,prop,par,txs,app,res⟩)) (k:=3) (by show 3 < 7;omega)).symm,rT 4 h4] at cc;refine aa ?_;refine bF rfl aA rfl cc [(0,0)] [] ⟨rfl,trivial,rfl,⟨rv, .inl ⟨rfl,rfl⟩,trivial⟩,mm⟩ rfl rfl ?_;refine aa ?_;exact⟨1,om,by show 4 - 1 < 4 - 0;omega,(by dsimp only;exact(vm [(0,_)] []))⟩
  ·
   have cc:=FK (G:=G) (aG ((iT ⟨height,time,prop,par,txs,app,res⟩).take 4)) ⟨5,2,0,txs⟩ (od om om (by rw [h5];omega)) (by have:=OL 4;dsimp only;rw [h5];omega);rw [show aG ((iT ⟨height,time,prop,par,txs,app,res⟩).take 4) ++ aZ ⟨5,2,0,txs⟩=aG ((iT ⟨height,time,prop,par,txs,app,res⟩).take 5) from(iU (l:=(iT ⟨height,time,prop,par,txs,app,res⟩)) (k:=4) (by show 4 < 7;omega)).symm,rT 5 h5] at cc;refine aa ?_;refine bF rfl aA rfl cc [(0,0)] [] ⟨rfl,trivial,rfl,⟨rv, .inl ⟨rfl,rfl⟩,trivial⟩,mm⟩ rfl rfl ?_;refine aa ?_;exact⟨2,om,by show 4 - 2 < 4 - 1;omega,(by dsimp only;exact(vm [(0,_)] []))⟩
  ·
   have cc:=FK (G:=G) (aG ((iT ⟨height,time,prop,par,txs,app,res⟩).take 5)) ⟨6,2,0,app⟩ (od om om (by rw [h6];omega)) (by have:=OL 5;dsimp only;rw [h6];omega);rw [show aG ((iT ⟨height,time,prop,par,txs,app,res⟩).take 5) ++ aZ ⟨6,2,0,app⟩=aG ((iT ⟨height,time,prop,par,txs,app,res⟩).take 6) from(iU (l:=(iT ⟨height,time,prop,par,txs,app,res⟩)) (k:=5) (by show 5 < 7;omega)).symm,rT 6 h6] at cc;refine aa ?_;refine bF rfl aA rfl cc [(0,0)] [] ⟨rfl,trivial,rfl,⟨rv, .inl ⟨rfl,rfl⟩,trivial⟩,mm⟩ rfl rfl ?_;refine aa ?_;exact⟨3,om,by show 4 - 3 < 4 - 2;omega,(by dsimp only;exact(vm [(0,_)] []))⟩
  ·
   have cc:=FK (G:=G) (aG ((iT ⟨height,time,prop,par,txs,app,res⟩).take 6)) ⟨7,2,0,res⟩ (od om om (by rw [h7];omega)) (by have:=OL 6;dsimp only;rw [h7];omega);rw [show aG ((iT ⟨height,time,prop,par,txs,app,res⟩).take 6) ++ aZ ⟨7,2,0,res⟩=aG ((iT ⟨height,time,prop,par,txs,app,res⟩).take 7) from(iU (l:=(iT ⟨height,time,prop,par,txs,app,res⟩)) (k:=6) (by show 6 < 7;omega)).symm,rT 7 h7] at cc;refine aa ?_;refine bF rfl aA rfl cc [(0,0)] [] ⟨rfl,trivial,rfl,⟨rv, .inl ⟨rfl,rfl⟩,trivial⟩,mm⟩ rfl rfl ?_;refine aa ?_;exact⟨4,om,by show 4 - 4 < 4 - 3;omega,(by dsimp only;exact(vm [(0,_)] []))⟩
  ·rw [show (iT ⟨height,time,prop,par,txs,app,res⟩).take (3 + 4)=iT ⟨height,time,prop,par,txs,app,res⟩ from rfl];generalize aG (iT ⟨height,time,prop,par,txs,app,res⟩)=mm' at *;refine aa ?_;refine⟨[_],[],[(0,mm'.length)],rfl,rfl,?_,rfl,⟨?_,trivial⟩,?_⟩
   ·exact⟨by show mm'.length≤(u8s mm').length;simp [u8s],trivial⟩
   ·exact rv
   ·exact mm
theorem Qw (h:zo) (hk:kX h):aE Tryz.prog G 99 [hdM h] (keyM (mY h)):=by
 have c1:=Jp (G:=G) h hk;have c2:=AN (G:=G) (fm h) (by have:=jY hk;omega);unfold mY;obtain⟨height,time,prop,par,txs,app,res⟩:=h;generalize fm ⟨height,time,prop,par,txs,app,res⟩=b at *;generalize iH b=k at *;refine bA seat Tryz.func99 6 ?_;refine aa ?_;refine jn (c1) ?_;refine dZ (c2) ?_;refine au ?_;rfl
theorem HA (l:List (List UInt8)) (hl:l.length < 60000) (hb: ∀b∈l,b.length < 300000000):aE Tryz.prog G 67 [ee l] (keyM (eL l)):=by
 have c1:=AO (G:=G) _ l (a₁ _) hl hb;unfold ee;generalize eL l=k at *;refine bA seat Tryz.func67 5 ?_;refine aa ?_;refine dZ (c1) ?_;refine au ?_;rfl
end
end Go.Proofs.YtohikcplmbkmeaaGreatDoor
