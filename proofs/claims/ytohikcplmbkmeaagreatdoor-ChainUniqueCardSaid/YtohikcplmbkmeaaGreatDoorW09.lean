/- Parts of a proof, one behind the other: PH, PM, PO, N4, PG, PGb, N3, PNa, PN, PP, Shelf2, W3, KM, W4, W5, W7. -/
import Derived.Test.YtohikcplmbkmeaaGreatDoorW08
open And renaming intro → a₀
open List renaming length_append → a₁,replicate → a₃,getElem_mem → a₅,mem_singleton → a₆,take_of_length_le → a₇,length_singleton → a₈,append_assoc → a₉,take_succ_eq_append_getElem → b₀,mem_append → b₁,drop_eq_getElem_cons → b₂,drop_length → b₄,map_append → b₇,drop_zero → b₈,length_cons → b₉,append_nil → c₀,length_take → c₂,take_length → c₃,length_set → c₄,nil_append → c₅
open Nat renaming zero_le → a₂,le_refl → a₄,le_trans → b₅,le_of_eq → b₆,add_sub_cancel → c₁
open Prod.mk renaming injEq → b₃
set_option maxRecDepth 20000
set_option maxHeartbeats 16000000
set_option linter.unusedVariables false
set_option linter.unusedSimpArgs false
namespace Go.Proofs.YtohikcplmbkmeaaGreatDoor
open Go.RowKit
section
variable {G:GS}
attribute [local irreducible] ak aB aD aI aN vC aW aw
theorem ic (b:dv) (h:dI b):aQ Tryz.prog G 216 [blkM b] [] 0 (.sl (qb b).length (u8s (qb b))) [] 0:=by
 have c1:=uG (G:=G) b.hd h.hd;have hn:=h.n;have hF: ∃F,yw b=F∧F.length=b.txs.length + 1∧F.take 1= [⟨1,2,0,eD b.hd⟩] ∧∀k (hk:k < b.txs.length),F.take (k + 1 + 1)=F.take (k + 1) ++ [⟨2,2,0,b.txs[k]⟩] :=by
  refine⟨_,rfl,by simp [yw],rfl,fun k hk=>?_⟩;have hk2:k + 1 < (yw b).length:=by simp [yw];omega
  rw [b₀ hk2];congr 2;simp [yw]
 have c2:=nj (G:=G) (yw b) (fun f hf=>((uO h).1 f hf).1) (by have:=sJ h;unfold qb at this;omega) (by have:=(uO h).2;omega);unfold qb;obtain⟨F,hFe,hFl,hF1,hF2⟩:=hF;rw [hFe] at c2 ⊢;clear hFe h;generalize aF F=R at *;obtain⟨hd,txs⟩:=b;dsimp only at *;generalize eD hd=H at *;refine dw seat Tryz.func216 26 ?_;refine aa ?_;refine aG (c1) rfl rfl aA (by kernel_rfl) ?_;refine aa ?_;refine av (Nat×List eE) (fun x=> [(14, .int .i64 x.1),(13, .int .i64 txs.length),(12, .sl txs.length (txs.map bk)),(3, .ms 0 4 0 x.2.length)]) (fun x=> [(0,⟨183,4,true,0,x.2.map bR⟩)]) 1 (fun x=>x.1≤txs.length∧x.2=F.take (x.1 + 1)) (fun x=>txs.length - x.1) (0,[⟨1,2,0,H⟩]) ⟨a₂ _,hF1.symm⟩ (by dsimp only;exact(vm [(0,_)] [])) ?_;rintro⟨k,W⟩ ⟨hk,hW⟩;try dsimp only
 dsimp only at hk hW;have hWl:W.length=k + 1:=by rw [hW,c₂];omega
 refine aa ?_;refine ad rfl ?_ ?_ <;> intro h
 ·have hk':k < txs.length:=by have:=ot h;omega
  have hel:=aj.mk (gM hk');have hW2:=hF2 k hk';rw [← hW] at hW2;generalize txs[k] =x at *;refine aa ?_;obtain⟨W2,hW3⟩: ∃W2:List eE,W2=W ++ [⟨2,2,0,x⟩] :=⟨_,rfl⟩
  have hW2l:W2.length=k + 1 + 1:=by rw [hW3];simp;omega
  refine aL rfl rfl (by intro R hR;refine cI hR ?_;(refine a₀ (a₄ _) ?_;refine⟨_,rfl,?_⟩;refine a₀ ⟨sm,ai (by kernel_rfl) pf⟩ ?_;refine⟨W2.map bR,sv (by rw [hW3];simp;rfl),W2.length,sv pf,?_⟩);exact hR) rfl ?_;refine aa ?_;exact⟨(k + 1,W2),⟨dm,hW3.trans hW2.symm⟩,dm,(by dsimp only;exact(vm [(0,_)] []))⟩
 ·have hk':k=txs.length:=by have:=oF h;omega
  subst hk';have hWF:W=F:=by rw [hW,← hFl,c₃]
  subst hWF;refine aa ?_;refine bC rfl aA rfl (c2) [] [(0,W.length)] ⟨rfl,mm,rfl,lm,mm⟩ rfl rfl ?_;refine aa ?_;(refine LI [_] rfl (by kernel_rfl) ?_;(refine au ?_);exact rfl)
theorem wN (b:dv) (hb:dI b):bZ Tryz.prog G 229 [blkM b] (fun r=> ∃(raw:List UInt8) (e:Int),r= .tup [.sl raw.length (u8s raw), .int .i64 e] ∧cj e∧(e=0→raw=qb b∧(1≤b.hd.height∧b.hd.height≤1073741824)∧(1≤b.hd.time∧b.hd.time≤1099511627776)∧0≤b.hd.prop∧(qb b).length≤2097152)):=by
 have c1:=ic (G:=G) b hb;have hl:=sJ hb;have hn:=hb.n;clear hb;generalize qb b=R at *;obtain⟨⟨height,time,prop,par,txs,app,res⟩,l⟩:=b;dsimp only at *;have bad1:((1:Int)=0→([] :List UInt8)=R∧(1≤height∧height≤1073741824)∧(1≤time∧time≤1099511627776)∧0≤prop∧R.length≤2097152):=fun h=>absurd h (by decide)
 have bad3:((3:Int)=0→([] :List UInt8)=R∧(1≤height∧height≤1073741824)∧(1≤time∧time≤1099511627776)∧0≤prop∧R.length≤2097152):=fun h=>absurd h (by decide)
 have i1:cj 1:=by simp [cj]
 have i3:cj 3:=by simp [cj]
 have i0:cj 0:=by simp [cj]
 unfold bZ;refine seq' seat Tryz.func229 46 ?_;refine aa ?_;refine ag rfl rfl ?_ rfl ?_ <;> intro h
 ·have k1:=oF h;refine aa ?_;refine ag rfl rfl ?_ rfl ?_ <;> intro h
  ·have k2:=oF h;refine aa ?_;refine ag rfl rfl ?_ rfl ?_ <;> intro h
   ·have k3:=oF h;refine aa ?_;refine ag rfl rfl ?_ rfl ?_ <;> intro h
    ·have k4:=oF h;refine aa ?_;refine ag rfl rfl ?_ rfl ?_ <;> intro h
     ·have k5:=oF h;refine aa ?_;refine ad rfl ?_ ?_ <;> intro h
      ·refine aa ?_;(refine bu [_,_] (by(refine au ?_);exact rfl) (by kernel_rfl) (⟨[],1,rfl,i1,bad1⟩))
      ·refine aa ?_;refine ad rfl ?_ ?_ <;> intro h
       ·refine aa ?_;(refine bu [_,_] (by(refine au ?_);exact rfl) (by kernel_rfl) (⟨[],3,rfl,i3,bad3⟩))
       ·refine aa ?_;refine aG (c1) rfl rfl aA (by kernel_rfl) ?_;refine aa ?_;refine ad rfl ?_ ?_ <;> intro h
        ·refine aa ?_;(refine bu [_,_] (by(refine au ?_);exact rfl) (by kernel_rfl) (⟨[],3,rfl,i3,bad3⟩))
        ·have k6:=oF h;dsimp only at k1 k2 k3 k4 k5 k6;refine aa ?_;(refine bu [_,_] (by(refine au ?_);exact rfl) (by kernel_rfl) (⟨R,0,rfl,i0,fun _=>⟨rfl,om,om,om,om⟩⟩))
     ·refine aa ?_;(refine bu [_,_] (by(refine au ?_);exact rfl) (by kernel_rfl) (⟨[],1,rfl,i1,bad1⟩))
    ·refine aa ?_;(refine bu [_,_] (by(refine au ?_);exact rfl) (by kernel_rfl) (⟨[],1,rfl,i1,bad1⟩))
   ·refine aa ?_;(refine bu [_,_] (by(refine au ?_);exact rfl) (by kernel_rfl) (⟨[],1,rfl,i1,bad1⟩))
  ·refine aa ?_;(refine bu [_,_] (by(refine au ?_);exact rfl) (by kernel_rfl) (⟨[],1,rfl,i1,bad1⟩))
 ·refine aa ?_;(refine bu [_,_] (by(refine au ?_);exact rfl) (by kernel_rfl) (⟨[],1,rfl,i1,bad1⟩))
def hd0:wx:=⟨0,0,0,a₃ 32 0,a₃ 32 0,a₃ 32 0,a₃ 32 0⟩
theorem hd0_ok:jR hd0:=⟨by simp [hd0,cj],by simp [hd0,cj],by simp [hd0,cj],by simp [hd0],by simp [hd0],by simp [hd0],by simp [hd0]⟩
end
section
variable {G:GS}
attribute [local irreducible] ak aB aD aI aN vC aW aw
def uP (ks:List (List UInt8)):MV:= .arr 4 32 (ks.map keyM)
theorem MS {ks:List (List UInt8)} {i:Nat} (hi:i < ks.length):bW (ks.map keyM) i=some (keyM ks[i]):=by
 rw [bS];simp [hi]
theorem MT {ks:List (List UInt8)} {i j:Nat} (hi:i < ks.length) (hj:j < ks[i].length) (x:UInt8):ff (uP ks) ([] ++ [i] ++ [j]) (0 + i * 32 + j * 1) (BF x)=some (uP (ks.set i (ks[i].set j x))):=by
 have h1:=k9 hj x
 show(match bW (ks.map keyM) i with | some m=>bif Nat.ble (i * 32) (0 + i * 32 + j * 1) && (BF x).idFree then(match ff m [j] (0 + i * 32 + j * 1 - i * 32) (BF x) with | some m'=>some (MV.arr 4 32 (setL (ks.map keyM) i m')) | none=>none) else none | none=>none)=_
 rw [MS hi];have e1:Nat.ble (i * 32) (0 + i * 32 + j * 1)=true:=by rw [Nat.ble_eq];omega
 have e2:0 + i * 32 + j * 1 - i * 32=0 + j * 1:=om;dsimp only;rw [e1,e2];rw [show ([j] :List Nat)= [] ++ [j] from rfl,h1]
 show some (MV.arr 4 32 (setL (ks.map keyM) i (keyM (ks[i].set j x))))=_
 rw [setL_eq];unfold uP;rw [List.map_set]
theorem mK {l:List eE} {k:Nat} (hk:k < l.length): ∃(num kind val:Nat) (bytes:List UInt8),l[k]? =some ⟨num,kind,val,bytes⟩∧aj (bF (l.map bR) l.length (k:Int)) (.st [.int .i64 num, .int .i64 kind, .int .u64 val, .sl bytes.length (u8s bytes)]):=
 ⟨l[k].num,l[k].kind,l[k].val,l[k].bytes,by rw [List.getElem?_eq_getElem hk],aj.mk (nf hk)⟩
structure O4 (ks:List (List UInt8)):Prop where
 n:ks.length=4
 k: ∀x∈ks,x.length=32
abbrev RH (b:List UInt8) (r:MV):Prop:= ∃(h:wx) (ok:Bool),r= .tup [hdM h, .bool ok] ∧jR h∧(ok=true→eD h=b∧0≤h.height∧0≤h.time∧0≤h.prop)
theorem KI (b:List UInt8) (hb:b.length≤5000000):bZ Tryz.prog G 269 [.sl b.length (u8s b)] (RH b):=by
  have c1:=pH (G:=G) b om;have hf:=eX b;generalize aC b=F at *;obtain⟨l,at_,e⟩:=F;dsimp only at c1 hf;have bad: ∀h:wx,jR h→RH b (.tup [hdM h, .bool false]):=fun h hk=>⟨h,false,rfl,hk,fun h=>Bool.noConfusion h⟩
  have bad0:=bad hd0 hd0_ok;unfold bZ;refine seq' seat Tryz.func269 102 ?_;refine aa ?_;refine aG (c1) rfl rfl aA (by kernel_rfl) ?_;refine aa ?_;refine ag rfl rfl ?_ rfl ?_ <;> intro h
  · have k0:e=0:=by simpa using h
    refine aa ?_;refine ad rfl ?_ ?_ <;> intro h
    · refine aa ?_;(refine gB [_,_] (bad0) (by kernel_rfl) ?_;(refine au ?_);exact rfl)
    · have k7:l.length=7:=by
        have h7:(l.length:Int)=7:=by simpa using h
        omega
      refine aa ?_;refine av Nat (fun i=> [(8, .int .i64 i),(7, .ptr 1 131 0 0 []),(4, .sl l.length (l.map bR)),(2, .ptr 0 131 0 0 []),(0, .sl b.length (u8s b))]) (fun _=> [(0,⟨79,131,false,0,[LF]⟩),(1,⟨79,131,false,0,[LF]⟩)]) 2 (fun i=>i≤3∧∀j < i,∀f,l[j]? =some f→f.val≤9223372036854775807) (fun i=>3 - i) 0 ⟨a₂ _,fun j hj=>absurd hj om⟩ (vm [(0,_),(1,_)] []) ?_;rintro i ⟨hi,hI⟩;try dsimp only
      refine aa ?_;refine ad rfl ?_ ?_ <;> intro h
      · have hi':i < 3:=by have:=ot h;omega
        obtain⟨num,kind,val,bytes,hf,hel⟩:=mK (l:=l) (k:=i) om;refine aa ?_;refine ad rfl ?_ ?_ <;> intro h
        · refine aa ?_;(refine gB [_,_] (bad0) (by kernel_rfl) ?_;(refine au ?_);exact rfl)
        · have hv:val≤9223372036854775807:=by have:=oF h;omega
          refine aa ?_;refine⟨i + 1,⟨om,fun j hj f hfj=>?_⟩,dm,(by dsimp only;exact(vm [(0,_),(1,_)] []))⟩;by_cases hji:j < i
          · exact hI j hji f hfj
          · rw [show j=i by omega,hf] at hfj;cases hfj;exact hv
      · have hi3:i=3:=by have:=oF h;omega
        subst hi3;obtain⟨n0,d0,v0,b0,e0,f0⟩:=mK (l:=l) (k:=0) om;obtain⟨n1,d1,v1,b1,e1,f1⟩:=mK (l:=l) (k:=1) om;obtain⟨n2,d2,v2,b2,e2,f2⟩:=mK (l:=l) (k:=2) om;have w0:v0≤9223372036854775807:=hI 0 om _ e0;have w1:v1≤9223372036854775807:=hI 1 om _ e1;have w2:v2≤9223372036854775807:=hI 2 om _ e2;replace f0:aj (bF (l.map bR) l.length (0:Int)) _:=f0;replace f1:aj (bF (l.map bR) l.length (1:Int)) _:=f1;replace f2:aj (bF (l.map bR) l.length (2:Int)) _:=f2;clear e0 e1 e2 hI;refine aa ?_;refine al [ae 0,ae 1,ae 2,ae 3,ae 4,ae 5,ae 6,ae 7,ae 8,ae 9,ae 10,ae 11,ae 12,ae 13,ae 14,ae 15,ae 16,ae 17,ae 18,ae 19,ae 20] ?_;refine aa ?_;obtain⟨h1,hh1⟩: ∃h1:wx,h1=⟨v0,v1,v2,a₃ 32 0,a₃ 32 0,a₃ 32 0,a₃ 32 0⟩:=⟨_,rfl⟩
        have h1k:jR h1:=by rw [hh1];exact⟨by simp [cj];omega,by simp [cj];omega,by simp [cj];omega,sm,sm,sm,sm⟩
        have bad1:=bad h1 h1k;rw [hh1] at bad1;refine av (Nat×List (List UInt8)) (fun x=> [(55, .int .i64 x.1),(9, .ptr 2 128 0 0 []),(7, .ptr 1 131 0 0 []),(4, .sl l.length (l.map bR)),(2, .ptr 0 131 0 0 []),(0, .sl b.length (u8s b))]) (fun x=> [(0,⟨79,131,false,0,[LF]⟩),(1,⟨79,131,false,0,[.st [.int .i64 v0, .int .i64 v1, .int .i64 v2,keyZ,keyZ,keyZ,keyZ]]⟩),(2,⟨272,128,false,0,[uP x.2]⟩)]) 3 (fun x=>x.1≤4∧O4 x.2) (fun x=>4 - x.1) (0,a₃ 4 (a₃ 32 0)) ⟨a₂ _,⟨rfl,sm⟩⟩ (vm [(0,_),(1,_),(2,_)] []) ?_;rintro⟨i,ks⟩ ⟨hi,hks⟩;try dsimp only
        dsimp only at hi hks;refine aa ?_;refine ad rfl ?_ ?_ <;> intro h
        · have hi':i < 4:=by have:=ot h;omega
          obtain⟨num,kind,val,bytes,hf,hel⟩:=mK (l:=l) (k:=i + 3) om;replace hel:aj (bF (l.map bR) l.length ((i:Int) + 3)) _:=hel;refine aa ?_;refine ad rfl ?_ ?_ <;> intro h
          · refine aa ?_;(refine gB [_,_] (bad1) (by kernel_rfl) ?_;(refine au ?_);exact rfl)
          · have hbl:bytes.length=32:=by
              have:(bytes.length:Int)=32:=by simpa using h
              omega
            refine aa ?_;refine av (Nat×List (List UInt8)) (fun x=> [(67, .int .i64 x.1),(10, .int .i64 i),(55, .int .i64 i),(9, .ptr 2 128 0 0 []),(7, .ptr 1 131 0 0 []),(4, .sl l.length (l.map bR)),(2, .ptr 0 131 0 0 []),(0, .sl b.length (u8s b))]) (fun x=> [(0,⟨79,131,false,0,[LF]⟩),(1,⟨79,131,false,0,[.st [.int .i64 v0, .int .i64 v1, .int .i64 v2,keyZ,keyZ,keyZ,keyZ]]⟩),(2,⟨272,128,false,0,[uP x.2]⟩)]) 3 (fun x=>x.1≤32∧O4 x.2) (fun x=>32 - x.1) (0,ks) ⟨a₂ _,hks⟩ (by dsimp only;exact(vm [(0,_),(1,_),(2,_)] [])) ?_;rintro⟨j,ks2⟩ ⟨hj,hk2⟩;try dsimp only
            dsimp only at hj hk2;refine aa ?_;refine ad rfl ?_ ?_ <;> intro h
            · have hj':j < 32:=by have:=ot h;omega
              have hb1:=aj.mk (BI (l:=bytes) (k:=j) om);have hki:i < ks2.length:=by rw [hk2.n];exact hi'
              have hkl:ks2[i].length=32:=hk2.k _ (a₅ hki);have hst:=aj.mk (MT hki (j:=j) om bytes[j]);have hk3:O4 (ks2.set i (ks2[i].set j bytes[j])):=⟨by rw [c₄];exact hk2.n,fun x hx=>by
                rcases List.mem_or_eq_of_mem_set hx with hx | rfl
                · exact hk2.k x hx
                · rw [c₄];exact hkl⟩
              generalize ks2.set i (ks2[i].set j bytes[j])=ks3 at *;generalize bytes[j] =y at *;refine aa ?_;refine al [ae 0,ae 1,ae 2,ae 3,ae 4,ae 5,ae 6,ae 7,ae 8,ae 9,ae 10,ae 11,ae 12,ae 13] ?_;refine aa ?_;exact⟨(j + 1,ks3),⟨dm,hk3⟩,dm,(by dsimp only;exact(vm [(0,_),(1,_),(2,_)] []))⟩
            · refine aa ?_;exact⟨(i + 1,ks2),⟨dm,hk2⟩,dm,(by dsimp only;exact(vm [(0,_),(1,_),(2,_)] []))⟩
        · obtain⟨kn,kk⟩:=hks
          match ks,kn,kk with
          | [k0,k1,k2,k3],_,kk=>
            have q0:=kk k0 sm;have q1:=kk k1 sm;have q2:=kk k2 sm;have q3:=kk k3 sm;have ho:jR ⟨v0,v1,v2,k0,k1,k2,k3⟩:=⟨by simp [cj];omega,by simp [cj];omega,by simp [cj];omega,q0,q1,q2,q3⟩;have d1:=uG (G:=G) _ ho;have d2:=sG (G:=G) (eD ⟨v0,v1,v2,k0,k1,k2,k3⟩) b;have fin:(eD ⟨v0,v1,v2,k0,k1,k2,k3⟩ == b)=true→eD ⟨v0,v1,v2,k0,k1,k2,k3⟩=b:=fun h=>by simpa using h
            have good:RH b (.tup [hdM ⟨v0,v1,v2,k0,k1,k2,k3⟩, .bool (eD ⟨v0,v1,v2,k0,k1,k2,k3⟩ == b)]):=⟨_,_,rfl,ho,fun h=>⟨fin h,dm,dm,dm⟩⟩;clear fin;generalize eD ⟨v0,v1,v2,k0,k1,k2,k3⟩=H at *;refine aa ?_;refine al [ae 0,ae 1,ae 2,ae 3,ae 4,ae 5,ae 6,ae 7,ae 8,ae 9,ae 10,ae 11,ae 12,ae 13,ae 14,ae 15] ?_;refine aa ?_;refine al [ae 0,ae 1,dj 2,ae 3,dj 4,ae 5,ae 6] ?_;refine aa ?_;refine bQ rfl aA rfl [] (d1) rfl [] trivial (bd _ (by kernel_rfl)) rfl ?_;refine aa ?_;refine bQ rfl aA rfl [] (src (d2)) rfl [] trivial (bd _ (by kernel_rfl)) rfl ?_;refine aa ?_;(refine gB [_,_] (good) (by kernel_rfl) ?_;(refine au ?_);exact rfl)
  · refine aa ?_;(refine gB [_,_] (bad0) (by kernel_rfl) ?_;(refine au ?_);exact rfl)
end
section
variable {G:GS}
attribute [local irreducible] ak aB aD aI aN vC aW aw
theorem KJ {h h0:wx} (hk:jR h) (h0k:jR h0) (e:eD h=eD h0) (p1:0≤h.height) (p2:0≤h.time):h.height=natP h0.height∧h.time=natP h0.time:=by
 have e1:=wL hk;rw [e,wL h0k] at e1;have e2:gY h0=gY h:=congrArg (·.1) e1;unfold gY at e2;have e3:natP h0.height=natP h.height:=by injection e2 with a;injection a
 have e4:natP h0.time=natP h.time:=by injection e2 with _ a;injection a with a;injection a
 rw [e3,e4,Dw p1,Dw p2];exact⟨rfl,rfl⟩
abbrev blk0:dv:=⟨hd0,[]⟩
theorem blk0_ok:dI blk0:=⟨hd0_ok,a₂ _,fun x hx=>by cases hx⟩
structure Od (b0 b:dv):Prop where
 h1:1≤b.hd.height∧b.hd.height≤1073741824
 t1:1≤b.hd.time∧b.hd.time≤1099511627776
 p1:0≤b.hd.prop
 h2:b.hd.height=natP b0.hd.height
 t2:b.hd.time=natP b0.hd.time
abbrev DC (b0:dv) (r:MV):Prop:= ∃(b:dv) (e:Int),r= .tup [blkM b, .int .i64 e] ∧cj e∧dI b∧(e=0→Od b0 b)
theorem IC (b0:dv) (h0:dI b0):bZ Tryz.prog G 234 [.sl (qb b0).length (u8s (qb b0))] (DC b0):=by
 have c1:=pH (G:=G) (qb b0) (by have:=sJ h0;omega);rw [Fj h0] at c1;have hbl:=jf h0.hd;have c2:=KI (G:=G) (eD b0.hd) om;have hl:=sJ h0;have i1:cj 1:=by simp [cj]
 have i3:cj 3:=by simp [cj]
 have i4:cj 4:=by simp [cj]
 have bad: ∀e:Int,cj e→e≠0→DC b0 (.tup [blkM blk0, .int .i64 e]):=fun e he h=>⟨blk0,e,rfl,he,blk0_ok,fun h2=>absurd h2 h⟩
 have bad3:=bad 3 i3 (by decide);have bad4:=bad 4 i4 (by decide);have hn:=h0.n;have hlen:=h0.len;have hFl:(yw b0).length=b0.txs.length + 1:=by simp [yw]
 have hF0:aj (bF ((yw b0).map bR) (b0.txs.length + 1) (0:Int)) (.st [.int .i64 (1:Nat), .int .i64 (2:Nat), .int .u64 (0:Nat), .sl (eD b0.hd).length (u8s (eD b0.hd))]):=aj.mk (cO (k:=0) om rfl);obtain⟨R,hR⟩: ∃R,qb b0=R:=⟨_,rfl⟩
 rw [hR] at c1 hl ⊢;obtain⟨H,hH⟩: ∃H,eD b0.hd=H:=⟨_,rfl⟩
 rw [hFl] at c1;rw [hH] at c2 hF0 hbl;unfold bZ;refine seq' seat Tryz.func234 76 ?_;refine aa ?_;refine ad rfl ?_ ?_ <;> intro h
 ·refine aa ?_;(refine bu [_,_] (by(refine au ?_);exact rfl) (by kernel_rfl) (⟨blk0,3,rfl,i3,blk0_ok,fun h=>absurd h (by decide)⟩))
 ·refine aa ?_;refine aG (c1) rfl rfl aA (by kernel_rfl) ?_;refine aa ?_;refine aM (c2) rfl rfl aA (by kernel_rfl) ?_;rintro _ ⟨hh,ok,rfl,hok,hfact⟩;refine aa ?_;cases ok with
  | false=>
   refine aa ?_;(refine bu [_,_] (by(refine au ?_);exact rfl) (by kernel_rfl) (⟨blk0,4,rfl,i4,blk0_ok,fun h=>absurd h (by decide)⟩))
  | true=>
   obtain⟨f1,f2,f3,f4⟩:=hfact rfl;have e1:=KJ hok h0.hd (f1.trans hH.symm) f2 f3;have hb1:dI ⟨hh,b0.txs⟩:=⟨hok,hn,hlen⟩;have c3:=ic (G:=G) ⟨hh,b0.txs⟩ hb1;have c4:=wN (G:=G) ⟨hh,b0.txs⟩ hb1;have fb1:aj (dz (b0.txs.length + 1) (some (.int .i64 (1:Int))) none) (1,b0.txs.length + 1):=aj.mk (fW (n:=b0.txs.length + 1) (k:=1) (κ:= .i64) om);obtain⟨n,hn1⟩: ∃n,n=b0.txs.length:=⟨_,rfl⟩
   have hcut:cutL ((yw b0).map bR) 1 (n + 1)=b0.txs.map fun x=>bR ⟨2,2,0,x⟩:=by
    unfold cutL yw;rw [List.map_cons,List.drop_succ_cons,b₈,List.map_map,hn1,c₁];exact a₇ sm
   have d3:=sG (G:=G) (qb ⟨hh,b0.txs⟩) R;clear hfact c1 c2;generalize qb ⟨hh,b0.txs⟩=R2 at *;rw [← hn1] at fb1 hF0;simp only [← hn1];refine aa ?_;simp only [hcut,c₁];refine av (Nat×List (List UInt8)) (fun x=> [(48, .int .i64 x.1),(47, .int .i64 n),(46, .sl n (b0.txs.map fun x=>bR ⟨2,2,0,x⟩)),(9, .ptr 1 132 0 0 []),(2, .ptr 0 132 0 0 []),(0, .sl R.length (u8s R))]) (fun x=> [(0,⟨81,132,false,0,[.st [LF, .nils]]⟩),(1,⟨81,132,false,0,[.st [hdM hh, .ms 2 1 0 x.2.length]]⟩),(2,⟨41,1,true,0,x.2.map bk⟩)]) 3 (fun x=>x.1≤n∧x.2=b0.txs.take x.1) (fun x=>n - x.1) (0,[]) ⟨a₂ _,rfl⟩ (by dsimp only;exact(vm [(0,_),(1,_)] [])) ?_;rintro⟨k,W⟩ ⟨hk,hW⟩;try dsimp only
   dsimp only at hk hW;have hWl:W.length=k:=by rw [hW,c₂];omega
   by_cases hkn:k < n
   ·have hk':k < b0.txs.length:=om;have hel:aj (bF (b0.txs.map fun x=>bR ⟨2,2,0,x⟩) n (k:Int)) (bR ⟨2,2,0,b0.txs[k]⟩):=aj.mk (cO hkn (by simp [hk']));obtain⟨W2,hW2⟩: ∃W2,W2=W ++ [b0.txs[k]] :=⟨_,rfl⟩
    have hW3:W2=b0.txs.take (k + 1):=by rw [hW2,hW,b₀ hk']
    generalize b0.txs[k] =x at *;have hW2l:W2.length=W.length + 1:=by rw [hW2];simp
    replace hel:aj (bF (b0.txs.map fun x=>bR ⟨2,2,0,x⟩) n (k:Int)) (.st [.int .i64 (2:Nat), .int .i64 (2:Nat), .int .u64 (0:Nat), .sl x.length (u8s x)]):=hel;have hlt:decide ((k:Int) < n)=true:=decide_eq_true om;refine aa ?_;refine ad rfl ?_ ?_ <;> intro h
    ·refine aa ?_;refine aL rfl rfl (by intro R hR;refine cI hR ?_;(refine a₀ (a₄ _) ?_;refine⟨_,rfl,?_⟩;refine a₀ ⟨sm,ai (by kernel_rfl) pf⟩ ?_;refine⟨W2.map bk,sv (by rw [hW2];simp;rfl),W2.length,sv pf,?_⟩);exact hR) rfl ?_;refine aa ?_;exact⟨(k + 1,W2),⟨dm,hW3⟩,dm,(by dsimp only;exact(vm [(0,_),(1,_),(2,_)] []))⟩
    ·rw [hlt] at h;cases h
   ·have hke:k=b0.txs.length:=om;have hWe:W=b0.txs:=by rw [hW,hke,c₃]
    subst hWe;iterate 1 (refine Lt ?_)
    have hge:decide ((k:Int) < n)=false:=decide_eq_false om;clear hW;refine od ([(48, .int .i64 k),(47, .int .i64 n),(9, .ptr 1 132 0 0 []),(2, .ptr 0 132 0 0 []),(0, .sl R.length (u8s R))]) ([(0,⟨81,132,false,0,[.st [LF, .nils]]⟩),(1,⟨81,132,false,0,[blkM ⟨hh,b0.txs⟩]⟩)]) [(2,b0.txs.length)] mm rfl mm mm ?_;refine aa ?_;refine ad rfl ?_ ?_ <;> intro h
    ·rw [hge] at h;cases h
    ·refine aa ?_;refine aG (c3) rfl rfl aA (by kernel_rfl) ?_;refine aa ?_;refine aG (src (d3)) rfl rfl aA (by kernel_rfl) ?_;refine aa ?_;refine ad rfl ?_ ?_ <;> intro h
     ·refine aa ?_;(refine bu [_,_] (by(refine au ?_);exact rfl) (by kernel_rfl) (⟨blk0,4,rfl,i4,blk0_ok,fun h=>absurd h (by decide)⟩))
     ·refine aa ?_;refine aM (c4) rfl rfl aA (by kernel_rfl) ?_;rintro _ ⟨raw,e,rfl,he,hf⟩;refine aa ?_;refine ad rfl ?_ ?_ <;> intro h
      ·have hne:e≠0:=by simpa using h
       refine aa ?_;(refine bu [_,_] (by(refine au ?_);exact rfl) (by kernel_rfl) (⟨blk0,e,rfl,he,blk0_ok,fun h=>absurd h hne⟩))
      ·have he0:e=0:=by simpa using h
       obtain⟨_,g1,g2,g3,_⟩:=hf he0;refine aa ?_;(refine bu [_,_] (by(refine au ?_);exact rfl) (by kernel_rfl) (⟨⟨hh,b0.txs⟩,0,rfl,by simp [cj],hb1,fun _=>⟨g1,g2,g3,e1.1,e1.2⟩⟩))
end
section
section
variable {T:bB} {M:VM} {E:VE} {l:List ResultVar} {K:List MV→Prop}
theorem Oe {t:Nat} {v:MV} (hv:VE.get E t=some v) (h:dY T M E l fun r=>K (v :: r)):dY T M E (.tmp t :: l) K:=by
 unfold dY;rw [hv];exact h
theorem MU {p ty c es k fo:Nat} {path:List Nat} {b:MB} {m r:MV} (hp:VE.get E p=some (.ptr c es k fo path)) (hc:VM.get M c=some b) (hm:bW b.l k=some m) (hr:xE m path=some r) (hk:(EI T ty b.es es r && JT m path fo)=true) (h:dY T M E l fun x=>K (r :: x)):dY T M E (.cell p ty :: l) K:=by
 have h2:=l9 (Pg:=default) (n:=0) (dst:=none) (ty:=0) (pos:=default) (after:= #[]) (g:=none) (x:= .tmp p) (R:=fun y:MV×Dl=>dY T M E l fun x=>K (y.1 :: x)) hp hc hm hr hk h;change (rd (VE.get E) (.tmp p) fun p=>gG T (VM.get M) ty p).runP _ at h2;unfold rd at h2;rw [show iV (VE.get E) (Operand.tmp p)=some (.ptr c es k fo path) from hp] at h2;unfold dY;rw [hp];exact h2
theorem rvq {rs:List ResultVar} {vs:List MV} (h:dY T M E rs (fun v=>v=vs):=by first | ((repeat(first | ((with_reducible apply MU);(case hp=>exact rfl);(case hc=>exact rfl);(case hm=>exact rfl);(case hr=>exact rfl);(case hk=>kernel_rfl)) | ((with_reducible apply Oe);(case hv=>exact rfl))));exact rfl) | (refine au ?_;exact rfl)):dY T M E rs (fun v=>v=vs):=h
end
end
section
variable {G:GS}
attribute [local irreducible] ak aB aD aI aN vC aW aw
theorem ID [FX:Fx] {B:Nat} (s:jC) (raws:List (List UInt8)) (res:List fu) (hs:dV B s) (hB:B≤100000) (hn:raws.length≤100000) (hb: ∀b∈raws,b.length≤1000000) (hr: ∀r∈res,iS r) (hrn:res.length≤100000):bZ Tryz.prog G 266 [gD s,dH raws, .sl res.length (res.map eA)] (fun r=> ∃(s':jC) (ks:List (List UInt8)),r= .tup [gD s', .sl ks.length (ks.map keyM)] ∧dV B s'∧dD ks):=by
 unfold dH;unfold bZ;refine seq' seat Tryz.func266 56 ?_;refine aa ?_;refine av (Nat×jC×List (List UInt8)) (fun x=> [(9, .int .i64 x.1),(8, .ms 2 32 0 x.2.2.length),(1, .sl raws.length (raws.map bk)),(2, .sl res.length (res.map eA)),(3, .ptr 0 25 0 0 []),(6, .ptr 1 25 0 0 [])]) (fun x=> [(0,⟨75,25,false,0,[gD x.2.1]⟩),(1,⟨75,25,false,0,[Dt]⟩),(2,⟨68,32,true,0,x.2.2.map keyM⟩)]) 3 (fun x=>x.1≤raws.length∧dV B x.2.1∧dD x.2.2∧x.2.2.length≤x.1) (fun x=>raws.length - x.1) (0,s,[]) ⟨a₂ _,hs,by simp [dD],a₄ _⟩ (by dsimp only;exact(vm [(0,_),(1,_)] [])) ?_;rintro⟨k,s1,ks⟩ ⟨hki,hs1,hk32,hkl⟩;try dsimp only
 dsimp only at hki hs1 hk32 hkl;refine aa ?_;refine ag rfl rfl ?_ rfl ?_ <;> intro h
 ·have hk1:k < raws.length:=by have:=ot h;omega
  refine aa ?_;refine ad rfl ?_ ?_ <;> intro h
  ·have hk2:k < res.length:=by have:=ot h;omega
   have f1:=gM hk1;have f2:=BV hk2;have hb1:=hb _ (a₅ hk1);have hr1:=hr _ (a₅ hk2);generalize raws[k] =raw at *;generalize res[k] =r at *;have f1:=aj.mk f1;have f2:=aj.mk f2;have c1:=mj (G:=G) raw om;have hq:=eJ raw;generalize gP raw=q at *;have c2:=Aj (G:=G) s1 q hs1 hq;have o2:=wE (B:=B) hs1 hq;generalize rk s1 q=s2 at *;have c3:=oA (G:=G) s1 q hs1 hq;have o3:=mI (B:=B) (k:=q) hs1;generalize kD s1 q=s3 at *;refine aa ?_;refine aG (src (c1)) rfl rfl aA (by kernel_rfl) ?_;refine aa ?_;refine qH jC (fun y=> [(10, .ptr 3 32 0 0 []),(9, .int .i64 k),(8, .ms 2 32 0 ks.length),(1, .sl raws.length (raws.map bk)),(2, .sl res.length (res.map eA)),(3, .ptr 0 25 0 0 []),(6, .ptr 1 25 0 0 [])]) (fun y=> [(0,⟨75,25,false,0,[gD y]⟩),(1,⟨75,25,false,0,[Dt]⟩),(2,⟨68,32,true,0,ks.map keyM⟩),(3,⟨68,32,false,0,[keyM q]⟩)]) (fun _=>4) (fun y=>dV B y) (fun JQ hj=>?_) (fun s4 hs4=>?_)
   ·refine ad rfl ?_ ?_ <;> intro h
    ·refine aa ?_;refine aG (src (c2)) rfl rfl aA (by kernel_rfl) ?_;refine aa ?_;exact hj.nrm s2 o2 (vm [(0,_),(1,_),(2,_),(3,_)] [])
    ·refine aa ?_;refine aG (src (c3)) rfl rfl aA (by kernel_rfl) ?_;refine aa ?_;exact hj.nrm s3 o3 (vm [(0,_),(1,_),(2,_),(3,_)] [])
   ·clear c1 c2 c3;have c4:=nz (G:=G) s4 q hs4 hB hq;have o4:=lu (B:=B) (k:=q) hs4;generalize jb s4 q=lv at *;obtain⟨s5,b5⟩:=lv;dsimp only at c4 o4;try dsimp only
    refine aa ?_;refine aG (src (c4)) rfl rfl aA (by kernel_rfl) ?_;refine aa ?_;refine ad rfl ?_ ?_ <;> intro h
    ·refine aa ?_;obtain⟨W,hW⟩: ∃W,W=ks ++ [q] :=⟨_,rfl⟩
     have hWl:W.length=ks.length + 1:=by rw [hW];simp
     have hW32:dD W:=by
      intro x hx;rw [hW] at hx;rcases b₁.1 hx with hx | hx
      ·exact hk32 x hx
      ·rw [a₆.1 hx];exact hq
     refine aL rfl rfl (by intro R hR;refine cI hR ?_;(refine a₀ (a₄ _) ?_;refine⟨_,rfl,?_⟩;refine a₀ ⟨sm,ai (by kernel_rfl) pf⟩ ?_;refine⟨W.map keyM,sv (by rw [hW];simp;rfl),W.length,sv pf,?_⟩);exact hR) rfl ?_;refine aa ?_;exact⟨(k + 1,s5,W),⟨dm,o4,hW32,dm⟩,dm,(by dsimp only;exact(vm [(0,_),(1,_),(2,_)] []))⟩
    ·refine aa ?_;exact⟨(k + 1,s5,ks),⟨dm,o4,hk32,dm⟩,dm,(by dsimp only;exact(vm [(0,_),(1,_),(2,_)] []))⟩
  ·refine aa ?_;refine au ?_;refine⟨_,_,_,⟨⟨⟨s1,ks,rfl,hs1,hk32⟩,rfl⟩,rfl,rfl⟩,?_⟩;refine⟨[_,_],[],[(2,ks.length)],rfl,rfl,?_,rfl,⟨?_,?_,trivial⟩,?_⟩
   ·exact⟨by show ks.length≤(ks.map keyM).length;simp,trivial⟩
   ·exact .inl ⟨rfl,rfl⟩
   ·exact rv
   ·exact mm
 ·refine aa ?_;refine au ?_;refine⟨_,_,_,⟨⟨⟨s1,ks,rfl,hs1,hk32⟩,rfl⟩,rfl,rfl⟩,?_⟩;refine⟨[_,_],[],[(2,ks.length)],rfl,rfl,?_,rfl,⟨?_,?_,trivial⟩,?_⟩
  ·exact⟨by show ks.length≤(ks.map keyM).length;simp,trivial⟩
  ·exact .inl ⟨rfl,rfl⟩
  ·exact rv
  ·exact mm
theorem MW {B:Nat} (c:ou) (hc:vA c) (l:List eY) (hl:l.length≤100000) (he: ∀e∈l,LH B e) (ht tm:Int) (h1:0≤ht∧ht < 4611686018427387904) (h2:0≤tm∧tm < 4611686018427387904):bZ Tryz.prog G 275 [cfM c, .sl l.length (l.map bN), .int .i64 ht, .int .i64 tm] (fun r=> ∃ks:List (List UInt8),r= .sl ks.length (ks.map keyM)∧dD ks∧ks.length≤l.length):=by
 have b1:=hc.ttlB;have b2:=hc.ttlT;unfold bZ;refine seq' seat Tryz.func275 39 ?_;refine aa ?_;refine av (Nat×List (List UInt8)) (fun x=> [(14, .int .i64 x.1),(13, .int .i64 l.length),(12, .sl l.length (l.map bN)),(9, .ms 1 32 0 x.2.length),(2, .int .i64 ht),(3, .int .i64 tm),(4, .ptr 0 12 0 0 [])]) (fun x=> [(0,⟨66,12,false,0,[cfM c]⟩),(1,⟨68,32,true,0,x.2.map keyM⟩)]) 2 (fun x=>x.1≤l.length∧dD x.2∧x.2.length≤x.1) (fun x=>l.length - x.1) (0,[]) ⟨a₂ _,by simp [dD],a₄ _⟩ (by dsimp only;exact(vm [(0,_)] [])) ?_;rintro⟨k,ks⟩ ⟨hki,hk32,hkl⟩;try dsimp only
 dsimp only at hki hk32 hkl;refine aa ?_;refine ad rfl ?_ ?_ <;> intro h
 ·have hk':k < l.length:=by have:=ot h;omega
  have hel:=eG hk';have heo:=he _ (a₅ hk');generalize l[k] =e at *;have hel:=aj.mk hel;have c1:=Iv (G:=G) ht e.height c.ttlB h1 heo.height (by unfold cj;omega);have c2:=Iv (G:=G) tm e.time c.ttlT h2 heo.time (by unfold cj;omega);generalize Ai ht e.height c.ttlB=l1 at *;generalize Ai tm e.time c.ttlT=l2 at *;have hkey:=heo.key;clear heo;obtain⟨W,hW⟩: ∃W,W=ks ++ [e.key] :=⟨_,rfl⟩
  have hWl:W.length=ks.length + 1:=by rw [hW];simp
  have hW32:dD W:=by
   intro x hx;rw [hW] at hx;rcases b₁.1 hx with hx | hx
   ·exact hk32 x hx
   ·rw [a₆.1 hx];exact hkey
  refine aa ?_;refine aG (src (c1)) rfl rfl aA (by kernel_rfl) ?_;refine aa ?_;refine ag rfl rfl ?_ rfl ?_ <;> intro h
  ·refine aa ?_;refine aG (src (c2)) rfl rfl aA (by kernel_rfl) ?_;refine aa ?_;refine ad rfl ?_ ?_ <;> intro h
   ·refine aa ?_;refine aL rfl rfl (by intro R hR;refine cI hR ?_;(refine a₀ (a₄ _) ?_;refine⟨_,rfl,?_⟩;refine a₀ ⟨sm,ai (by kernel_rfl) pf⟩ ?_;refine⟨W.map keyM,sv (by rw [hW];simp;rfl),W.length,sv pf,?_⟩);exact hR) rfl ?_;refine aa ?_;exact⟨(k + 1,W),⟨dm,hW32,dm⟩,dm,(by dsimp only;exact(vm [(0,_),(1,_)] []))⟩
   ·refine aa ?_;exact⟨(k + 1,ks),⟨dm,hk32,dm⟩,dm,(by dsimp only;exact(vm [(0,_),(1,_)] []))⟩
  ·refine aa ?_;refine aL rfl rfl (by intro R hR;refine cI hR ?_;(refine a₀ (a₄ _) ?_;refine⟨_,rfl,?_⟩;refine a₀ ⟨sm,ai (by kernel_rfl) pf⟩ ?_;refine⟨W.map keyM,sv (by rw [hW];simp;rfl),W.length,sv pf,?_⟩);exact hR) rfl ?_;refine aa ?_;exact⟨(k + 1,W),⟨dm,hW32,dm⟩,dm,(by dsimp only;exact(vm [(0,_),(1,_)] []))⟩
 ·refine aa ?_;refine au ?_;refine⟨_,_,_,⟨⟨⟨ks,rfl,hk32,om⟩,rfl⟩,rfl,rfl⟩,?_⟩;refine⟨[_],[],[(1,ks.length)],rfl,rfl,?_,rfl,⟨?_,trivial⟩,?_⟩
  ·exact⟨by show ks.length≤(ks.map keyM).length;simp,trivial⟩
  ·exact rv
  ·exact mm
theorem KK [FX:Fx] {B:Nat} (s:jC) (hs:dV B s) (hB:B≤100000):bZ Tryz.prog G 267 [gD s] (fun r=> ∃(s':jC) (ks:List (List UInt8)),r= .tup [gD s', .sl ks.length (ks.map keyM)] ∧dV B s'∧dD ks):=by
 have g1:=hs.ents;have g2:=hs.height;have g3:=hs.time;have c0:=MW (G:=G) s.cfg hs.cfg s.ents om hs.entk s.height s.time om om;unfold bZ;refine seq' seat Tryz.func267 34 ?_;refine aa ?_;refine aM (c0) rfl rfl aA (by kernel_rfl) ?_;rintro _ ⟨ks,rfl,hk,hkl⟩;have hkb:ks.length≤100000:=om;refine aa ?_;refine av (Nat×jC) (fun x=> [(18, .int .i64 x.1),(17, .int .i64 ks.length),(16, .sl ks.length (ks.map keyM)),(4, .sl ks.length (ks.map keyM)),(1, .ptr 0 25 0 0 []),(2, .ptr 1 25 0 0 [])]) (fun x=> [(0,⟨75,25,false,0,[gD x.2]⟩),(1,⟨75,25,false,0,[Dt]⟩)]) 2 (fun x=>x.1≤ks.length∧dV B x.2) (fun x=>ks.length - x.1) (0,s) ⟨a₂ _,hs⟩ (by dsimp only;exact(vm [(0,_),(1,_)] [])) ?_;rintro⟨k,s2⟩ ⟨hki,hs2⟩;try dsimp only
 dsimp only at hki hs2;refine aa ?_;refine ad rfl ?_ ?_ <;> intro h
 ·have hk':k < ks.length:=by have:=ot h;omega
  have hel:=aj.mk (p8 hk');have hkk:=hk _ (a₅ hk');generalize ks[k] =q at *;have e1:=nz (G:=G) s2 q hs2 hB hkk;have o1:=lu (k:=q) hs2;generalize jb s2 q=lv at *;obtain⟨s3,b3⟩:=lv;dsimp only at e1 o1;have e2:=p9 (G:=G) s3 q o1 hkk;have o2:=nw (k:=q) o1;generalize rl s3 q=s4 at *;refine aa ?_;refine aG (src (e1)) rfl rfl aA (by kernel_rfl) ?_;refine aa ?_;refine aG (src (e2)) rfl rfl aA (by kernel_rfl) ?_;refine aa ?_;exact⟨(k + 1,s4),⟨dm,o2⟩,dm,(by dsimp only;exact(vm [(0,_),(1,_)] []))⟩
 ·refine aa ?_;(refine gB [_,_] (⟨s2,ks,rfl,hs2,hk⟩) (by kernel_rfl) ?_;exact rvq)
theorem Fk [FX:Fx] {B:Nat} (s:jC) (hs:dV B s) (hB:B≤100000):bZ Tryz.prog G 268 [gD s] (fun r=> ∃(s':jC) (ks:List (List UInt8)),r= .tup [gD s', .sl ks.length (ks.map keyM)] ∧dV B s'∧dD ks):=by
 have g1:=hs.ents;have c0:=Dh (G:=G) s.app;have o0:dV B { s with app:=qV s.app }:=⟨hs.cfg,⟨hs.app.1,hs.app.1,hs.app.2.2⟩,hs.height,hs.time,hs.arr,hs.ents,hs.entk,hs.cache,hs.ck,hs.fx⟩;generalize qV s.app=a0 at *;unfold bZ;refine seq' seat Tryz.func268 66 ?_;refine aa ?_;refine aG (src (c0)) rfl rfl aA (by kernel_rfl) ?_;refine aa ?_;refine av (Nat×ef×List (List UInt8)) (fun x=> [(17, .int .i64 x.1),(16, .int .i64 s.ents.length),(15, .sl s.ents.length (s.ents.map bN)),(4, .ms 2 32 0 x.2.2.length),(1, .ptr 0 25 0 0 []),(2, .ptr 1 25 0 0 [])]) (fun x=> [(0,⟨75,25,false,0,[gD { s with app:=x.2.1 }]⟩),(1,⟨75,25,false,0,[Dt]⟩),(2,⟨68,32,true,0,x.2.2.map keyM⟩)]) 3 (fun x=>x.1≤s.ents.length∧dV B { s with app:=x.2.1 }∧dD x.2.2∧x.2.2.length≤x.1) (fun x=>s.ents.length - x.1) (0,a0,[]) ⟨a₂ _,o0,by simp [dD],a₄ _⟩ (by dsimp only;exact(vm [(0,_),(1,_)] [])) ?_;rintro⟨k,a,ks⟩ ⟨hki,hsa,hk32,hkl⟩;try dsimp only
 dsimp only at hki hsa hk32 hkl;refine aa ?_;refine ad rfl ?_ ?_ <;> intro h
 ·have hk':k < s.ents.length:=by have:=ot h;omega
  have hel:=eG hk';have heo:=hs.entk _ (a₅ hk');generalize s.ents[k] =e at *;have hel:=aj.mk hel;have c1:=Dg (G:=G) a e.raw hsa.app (by have:=heo.raw;omega);have c2:=Aa (G:=G) a e.raw hsa.app (by have:=heo.raw;omega);have o2:dV B { s with app:=lr a e.raw }:=⟨hs.cfg,uD hsa.app,hs.height,hs.time,hs.arr,hs.ents,hs.entk,hs.cache,hs.ck,hsa.fx⟩;generalize lr a e.raw=a2 at *;generalize uC a e.raw=r at *;have c3:=Ds (G:=G) { s with app:=a } r.gas hsa;generalize Cb { s with app:=a } r.gas=hv at *;have hkey:=heo.key;clear heo;obtain⟨W,hW⟩: ∃W,W=ks ++ [e.key] :=⟨_,rfl⟩
  have hWl:W.length=ks.length + 1:=by rw [hW];simp
  have hW32:dD W:=by
   intro x hx;rw [hW] at hx;rcases b₁.1 hx with hx | hx
   ·exact hk32 x hx
   ·rw [a₆.1 hx];exact hkey
  refine aa ?_;refine aG (src (c1)) rfl rfl aA (by kernel_rfl) ?_;refine aa ?_;refine ag rfl rfl ?_ rfl ?_ <;> intro h
  ·refine aa ?_;refine aG (src (c3)) rfl rfl aA (by kernel_rfl) ?_;refine aa ?_;refine ad rfl ?_ ?_ <;> intro h
   ·refine aa ?_;refine aG (src (c2)) rfl rfl aA (by kernel_rfl) ?_;refine aa ?_;exact⟨(k + 1,a2,ks),⟨dm,o2,hk32,dm⟩,dm,(by dsimp only;exact(vm [(0,_),(1,_),(2,_)] []))⟩
   ·refine aa ?_;refine aL rfl rfl (by intro R hR;refine cI hR ?_;(refine a₀ (a₄ _) ?_;refine⟨_,rfl,?_⟩;refine a₀ ⟨sm,ai (by kernel_rfl) pf⟩ ?_;refine⟨W.map keyM,sv (by rw [hW];simp;rfl),W.length,sv pf,?_⟩);exact hR) rfl ?_;refine aa ?_;exact⟨(k + 1,a,W),⟨dm,hsa,hW32,dm⟩,dm,(by dsimp only;exact(vm [(0,_),(1,_),(2,_)] []))⟩
  ·refine aa ?_;refine aL rfl rfl (by intro R hR;refine cI hR ?_;(refine a₀ (a₄ _) ?_;refine⟨_,rfl,?_⟩;refine a₀ ⟨sm,ai (by kernel_rfl) pf⟩ ?_;refine⟨W.map keyM,sv (by rw [hW];simp;rfl),W.length,sv pf,?_⟩);exact hR) rfl ?_;refine aa ?_;exact⟨(k + 1,a,W),⟨dm,hsa,hW32,dm⟩,dm,(by dsimp only;exact(vm [(0,_),(1,_),(2,_)] []))⟩
 ·have hkb:ks.length≤100000:=om;clear c0 o0 hki hkl;generalize { s with app:=a }=s1 at *;refine aa ?_;refine av (Nat×jC) (fun x=> [(50, .int .i64 x.1),(49, .int .i64 ks.length),(48, .sl ks.length (ks.map keyM)),(4, .sl ks.length (ks.map keyM)),(1, .ptr 0 25 0 0 []),(2, .ptr 1 25 0 0 [])]) (fun x=> [(0,⟨75,25,false,0,[gD x.2]⟩),(1,⟨75,25,false,0,[Dt]⟩)]) 2 (fun x=>x.1≤ks.length∧dV B x.2) (fun x=>ks.length - x.1) (0,s1) ⟨a₂ _,hsa⟩ (by dsimp only;exact(vm [(0,_),(1,_)] [(2,ks.length)])) ?_;rintro⟨k,s2⟩ ⟨hki,hs2⟩;try dsimp only
  dsimp only at hki hs2;refine aa ?_;refine ad rfl ?_ ?_ <;> intro h
  ·have hk':k < ks.length:=by have:=ot h;omega
   have hel:=aj.mk (p8 hk');have hkk:=hk32 _ (a₅ hk');generalize ks[k] =q at *;have e1:=nz (G:=G) s2 q hs2 hB hkk;have o1:=lu (k:=q) hs2;generalize jb s2 q=lv at *;obtain⟨s3,b3⟩:=lv;dsimp only at e1 o1;have e2:=oA (G:=G) s3 q o1 hkk;have o2:=mI (k:=q) o1;generalize kD s3 q=s4 at *;refine aa ?_;refine aG (src (e1)) rfl rfl aA (by kernel_rfl) ?_;refine aa ?_;refine aG (src (e2)) rfl rfl aA (by kernel_rfl) ?_;refine aa ?_;exact⟨(k + 1,s4),⟨dm,o2⟩,dm,(by dsimp only;exact(vm [(0,_),(1,_)] []))⟩
  ·refine aa ?_;(refine gB [_,_] (⟨s2,ks,rfl,hs2,hk32⟩) (by kernel_rfl) ?_;exact rvq)
theorem IE [FX:Fx] {B:Nat} (s:jC) (raws:List (List UInt8)) (res:List fu) (hs:dV B s) (hB:B≤100000) (hn:raws.length≤100000) (hb: ∀b∈raws,b.length≤1000000) (hr: ∀r∈res,iS r) (hrn:res.length≤100000) (ht tm:Int) (h1:0≤ht∧ht≤1000000000000) (h2:0≤tm∧tm≤100 * B):bZ Tryz.prog G 231 [gD s,dH raws, .sl res.length (res.map eA), .int .i64 ht, .int .i64 tm] (fun r=> ∃s' rp,r= .tup [gD s',LJ rp] ∧dV B s'):=by
 obtain⟨t1,e1⟩: ∃t1,t1=(if s.time < tm then tm else s.time):=⟨_,rfl⟩
 have hst:=hs.time;have b1:0≤t1∧t1≤100 * B:=by rw [e1];split <;> omega
 have o0:dV B { s with height:=ht,time:=t1 }:=⟨hs.cfg,hs.app,h1,b1,hs.arr,hs.ents,hs.entk,hs.cache,hs.ck,hs.fx⟩;have e1:=aU.mk e1.symm;have c0:bZ Tryz.prog G 266 [gD { s with height:=ht,time:=t1 },dH raws, .sl res.length (res.map eA)] _:=ID (G:=G) _ raws res o0 hB hn hb hr hrn;unfold bZ;refine seq' seat Tryz.func231 44 ?_;refine aa ?_;refine aM (c0) rfl rfl aA (by kernel_rfl) ?_;rintro _ ⟨s1,k1,rfl,hs1,hk1⟩;have c1:=KK (G:=G) s1 hs1 hB;refine aa ?_;refine aM (c1) rfl rfl aA (by kernel_rfl) ?_;rintro _ ⟨s2,k2,rfl,hs2,hk2⟩;have c2:=Fk (G:=G) s2 hs2 hB;refine aa ?_;refine aM (c2) rfl rfl aA (by kernel_rfl) ?_;rintro _ ⟨s3,k3,rfl,hs3,hk3⟩;refine aa ?_;refine al [ae 0,ae 1,ae 2,ae 3] ?_;refine aa ?_;(refine bu [_,_] (rvq) (by kernel_rfl) (⟨s3,⟨_,_,_,(_,_),(_,_),(_,_),(_,_),(_,_),(_,_),_,_⟩,rfl,hs3⟩))
end
section
variable {G:GS}
attribute [local irreducible] ak aB aD aI aN vC aW aw
theorem KN (c:ou) (acs:List bf) (cv:aE Tryz.prog G 63 [cfM c] (.int .i64 0)) (hp:bo c.price) (hl:acs.length≤100000) (hsm: ∀a∈acs,SmAc a) (h0:(bm acs c.price).2=0):bZ Tryz.prog G 155 [cfM c, .sl acs.length (acs.map aT)] (fun r=> ∃(s:jC) (e:Int),r= .tup [gD s, .int .i64 e] ∧s=⟨c,(bm acs c.price).1,0,0,0,[],[]⟩∧e=0):=by
 have c1:=Mm (G:=G) acs c.price hl hsm hp;rw [h0] at c1;generalize (bm acs c.price).1=a at *;unfold bZ;refine seq' seat Tryz.func155 29 ?_;refine aa ?_;refine aG (src (cv)) rfl rfl aA (by kernel_rfl) ?_;refine aa ?_;refine aG (c1) rfl rfl aA (by kernel_rfl) ?_;refine aa ?_;(refine bu [_,_] (by(refine au ?_);exact rfl) (by kernel_rfl) (⟨⟨c,a,0,0,0,[],[]⟩,0,rfl,rfl,rfl⟩))
end
section
section
variable {T:bB} {rs:List ResultVar} {M:VM} {E:VE} {n:Nat}
theorem Au {P:MV→Prop} (vs rv:List MV) (bs:List (Nat×Nat)) (h1:dY T M E rs (fun v=>v=vs)) (hb:Bd M bs) (hm:eu.relVs (da 0 []) (kI M bs) rv vs) (hf:dM (iy rv)=true) (hP:P (iy rv)):tJ T 0 rs (fun r M n=>(P r∧dM r=true)∧M= [] ∧n=0) .ret E M n:=
 eQ (fun v hv=>by subst hv;exact⟨iy rv,[],0,⟨⟨hP,hf⟩,rfl,rfl⟩,rv,[],bs,rfl,rfl,hb,rfl,hm,trivial⟩) h1
end
end
section
abbrev tip0:dO:=⟨0,0,a₃ 32 0,a₃ 32 0,a₃ 32 0⟩
def iF (a:ef) (b:dv):ef:=(qW (jw a b.txs).1).1
def iG (a:ef) (b:dv):dO:=nI b (iF a b).com (jw a b.txs).2.1
def repL (nodes bytes:Int):List dv→Nat→ef→dO→ef×dO×Nat×Nat
 | [],_,a,t=>(a,t,0,0)
 | b :: r,i,a,t=>if fA t b nodes bytes≠0 then(app0,tip0,i,fA t b nodes bytes) else repL nodes bytes r (i + 1) (iF a b) (iG a b)
theorem qc (nodes bytes:Int): ∀(l r:List dv) (i:Nat) (a:ef) (t:dO),(repL nodes bytes l i a t).2.2.2=0→repL nodes bytes (l ++ r) i a t=repL nodes bytes r (i + l.length) (repL nodes bytes l i a t).1 (repL nodes bytes l i a t).2.1
 | [],r,i,a,t,_=>rfl
 | b :: l,r,i,a,t,h=>by
  rw [List.cons_append]
  rw [repL] at h ⊢
  rw [repL]
  by_cases hc:fA t b nodes bytes=0
  ·rw [if_neg (by rw [hc];simp)] at h ⊢
   rw [if_neg (by rw [hc];simp)]
   rw [qc nodes bytes l r (i + 1) _ _ h,b₉]
   congr 1
   omega
  ·rw [if_pos hc] at h
   exact absurd h hc
class Nx where
 c:ou
 acs:List bf
abbrev Nw [NX:Nx] (L:dK):Fx:=⟨fun cfg com nxt opn price=>cfg=NX.c∧com=L∧nxt=lg0∧opn=false∧price=NX.c.price⟩
structure IF [NX:Nx] (bl:List dv) (L:dK) (t:dO):Prop where
 h:repL NX.c.nodes NX.c.blkB bl 0 (bm NX.acs NX.c.price).1 (iE (bm NX.acs NX.c.price).1.com)=(⟨L,L,lg0,false,NX.c.price⟩,t,0,0)
structure Ce [NX:Nx] (t:dO) (b:dv):Prop where
 h:fA t b NX.c.nodes NX.c.blkB=0
theorem IG {t:dO} {b:dv} {n m:Int} (h:fA t b n m=0):b.txs.length≤512:=by
 unfold fA at h;by_cases hl:512 < b.txs.length∨m < sumB b.txs
 ·rw [if_pos hl] at h;(repeat' split at h) <;> omega
 ·omega
theorem Av {a:ef} {L:dK} {p:Nat} {b:dv} (h1:a.com=L) (h3:a.opn=false) (h4:a.price=p) (hl:b.txs.length≤512):iF a b=⟨(iD p b.txs L []).1,(iD p b.txs L []).1,lg0,false,p⟩∧(jw a b.txs).2=((iD p b.txs L []).2,0)∧(qW (jw a b.txs).1).2=0:=by
 subst h1;subst h4;unfold iF jw;rw [if_neg (by rw [h3];simp),if_neg om];unfold qW;rw [if_neg sm];exact⟨rfl,rfl,rfl⟩
theorem IH [NX:Nx] {bl:List dv} {L:dK} {t:dO} {b:dv} (h:IF bl L t) (hc:Ce t b) {a:ef} (h1:a.com=L) (h3:a.opn=false) (h4:a.price=NX.c.price):IF (bl ++ [b]) (iF a b).com (iG a b)∧(iF a b).nxt=lg0∧(iF a b).opn=false∧(iF a b).price=NX.c.price:=by
 have hl:=IG hc.h;have e1:=Av (b:=b) h1 h3 h4 hl;have e2:=Av (a:=⟨L,L,lg0,false,NX.c.price⟩) (b:=b) rfl rfl rfl hl;have hA:iF ⟨L,L,lg0,false,NX.c.price⟩ b=iF a b:=e2.1.trans e1.1.symm;have hT:iG ⟨L,L,lg0,false,NX.c.price⟩ b=iG a b:=by
  unfold iG;rw [hA,e1.2.1,e2.2.1]
 refine⟨⟨?_⟩,by rw [e1.1],by rw [e1.1],by rw [e1.1]⟩;rw [qc _ _ _ _ _ _ _ (by rw [h.h]),h.h,repL,if_neg (by rw [hc.h];simp),repL,hA,hT,e1.1]
theorem KO [NX:Nx] (h0:(bm NX.acs NX.c.price).2=0):IF [] (bm NX.acs NX.c.price).1.com (iE (bm NX.acs NX.c.price).1.com)∧(bm NX.acs NX.c.price).1.nxt=lg0∧(bm NX.acs NX.c.price).1.opn=false∧(bm NX.acs NX.c.price).1.price=NX.c.price:=by
 have hg:(jB NX.acs).2=0:=by
  unfold bm at h0;split at h0
  ·rename_i h;exact absurd h0 h
  ·rename_i h;exact Decidable.not_not.1 h
 have e:bm NX.acs NX.c.price=(⟨(jB NX.acs).1,(jB NX.acs).1,lg0,false,NX.c.price⟩,0):=by
  unfold bm;rw [if_neg (by rw [hg];simp)]
 refine⟨⟨?_⟩,by rw [e],by rw [e],by rw [e]⟩;rw [repL,e]
theorem Aw [NX:Nx] {t:dO} {time prop:Int} {raws:List (List UInt8)} (h1:1≤NX.c.nodes∧NX.c.nodes≤8) (h2:0≤t.height∧t.height < 1073741824) (h3:prop=(t.height + 1) % NX.c.nodes) (h4:(if t.time + 1 > time then t.time + 1 else time)≤1099511627776) (h5:raws.length≤512) (h6:(sumB raws:Int)≤NX.c.blkB):Ce t (dU t time prop raws):=by
 refine⟨?_⟩;have ht:t.time < (if t.time + 1 > time then t.time + 1 else time):=by split <;> omega
 unfold fA dU;dsimp only;rw [if_neg om,if_neg om,if_neg (by rw [h3];simp),if_neg om,if_neg sm,if_neg sm,if_neg sm,if_neg sm,if_neg om]
theorem II (l:List (List UInt8)) (x:List UInt8):sumB (l ++ [x])=sumB l + iR x.length:=by simp [sumB]
theorem oB (price:Nat) (m:Int): ∀(l:List eY) (rs:FZ) (lg:dK) (out:List (List UInt8)),(sumB out:Int) + rs.room≤m→0≤rs.room→(sumB (iO price l rs lg out):Int)≤m
 | [],rs,lg,out,h,h0=>by unfold iO;omega
 | e :: r,rs,lg,out,h,h0=>by
  unfold iO
  split
  ·rename_i hc
   have ht:=hc.1
   unfold mJ at ht ⊢
   split at ht
   ·cases ht
   ·rename_i hn
    rw [if_neg hn]
    refine oB price m r _ _ _ ?_ ?_
    ·rw [II];dsimp only;omega
    ·dsimp only;omega
  ·exact oB price m r rs lg out h h0
theorem Cf (s:jC) (b g m:Int) (hb:b≤m) (hm:0≤m):(sumB (jU s b g):Int)≤m:=by
 unfold jU;split
 ·simp [sumB];exact hm
 ·rename_i h;unfold uL at h ⊢;split at h
  ·exact absurd rfl h
  ·rename_i hn;rw [if_neg hn];refine oB _ m _ _ _ _ ?_ ?_
   ·dsimp only;simp [sumB];exact hb
   ·dsimp only;omega
end
section
variable {G:GS}
attribute [local irreducible] ak aB aD aI aN vC aW aw
def nJ:Option (List (List UInt8))→MV
 | none=> .nils
 | some l=> .sl l.length (l.map keyM)
structure oE where
 st:jC
 tip:dO
 blocks:List dv
 sent:List (Option (List (List UInt8)))
 held:Bool
 prop:dv
 log:List UInt8
abbrev kG (n:oE):MV:= .st [gD n.st,fw n.tip, .sl n.blocks.length (n.blocks.map blkM), .sl n.sent.length (n.sent.map nJ), .bool n.held,blkM n.prop, .sl n.log.length (u8s n.log)]
def ya (B:Nat):Option (List (List UInt8))→Prop
 | none=>True
 | some l=>dD l∧l.length≤B
structure fB [NX:Nx] (B:Nat) (n:oE):Prop where
 st: @dV (Nw n.st.app.com) B n.st
 tip:jx n.tip
 th:0≤n.tip.height∧n.tip.height≤B
 tt:0≤n.tip.time∧n.tip.time≤100 * B
 blocks:n.blocks.length≤B
 sent:n.sent.length=15
 sk: ∀l∈n.sent,ya B l
 prop:dI n.prop
 ph:n.prop.hd.height≤B
 pt:n.prop.hd.time≤100 * B
 log:n.log.length≤16777216
 rep:IF n.blocks n.st.app.com n.tip
 chk:n.held=true→Ce n.tip n.prop
 bok: ∀b∈n.blocks,dI b
theorem ya.mono {B B':Nat} (hb:B≤B'): ∀{l},ya B l→ya B' l
 | none,_=>trivial
 | some _,h=>⟨h.1,b₅ h.2 hb⟩
theorem fB.mono [NX:Nx] {B B':Nat} {n:oE} (h:fB B n) (hb:B≤B'):fB B' n:=
 ⟨h.st.mono (FX:=_) hb,h.tip,⟨h.th.1,by have:=h.th.2;omega⟩,⟨h.tt.1,by have:=h.tt.2;omega⟩,b₅ h.blocks hb,h.sent,fun l hl=>(h.sk l hl).mono hb,h.prop,by have:=h.ph;omega,by have:=h.pt;omega,h.log,h.rep,h.chk,h.bok⟩
abbrev ND [NX:Nx] (B:Nat) (r:MV):Prop:= ∃n rp,r= .tup [kG n,LJ rp] ∧fB B n
abbrev tipZ:MV:= .st [.int .i64 0, .int .i64 0,keyZ,keyZ,keyZ]
abbrev blkZ:MV:= .st [LF, .nils]
abbrev KP:MV:= .st [Dt,tipZ, .nils, .nils, .bool false,blkZ, .nils]
theorem dh [NX:Nx] {B:Nat} (n:oE) (e:Int) (hn:fB B n):bZ Tryz.prog G 158 [kG n, .int .i64 e] (ND B):=by
 unfold bZ;refine seq' seat Tryz.func158 9 ?_;refine aa ?_;(refine bu [_,_] (by(refine au ?_);exact rfl) (by kernel_rfl) (⟨n,⟨_,_,_,(_,_),(_,_),(_,_),(_,_),(_,_),(_,_),_,_⟩,rfl,hn⟩))
theorem Fl (c:ou) (b g:Int) (hc:vA c) (hb:cj b) (hg:cj g):bZ Tryz.prog G 227 [cfM c, .int .i64 b, .int .i64 g] (fun r=> ∃x y:Int,r= .tup [.int .i64 x, .int .i64 y] ∧cj x∧cj y∧x≤c.blkB):=by
 have k1:=hc.blkB;have k2:=hc.blkG;have i1:cj c.blkB:=by unfold cj;omega
 have i2:cj c.blkG:=by unfold cj;omega
 have hx:cj (if c.blkB < b then c.blkB else b):=by split <;> assumption
 have hz:(if c.blkB < b then c.blkB else b)≤c.blkB:=by split <;> omega
 have hy:cj (if c.blkG < g then c.blkG else g):=by split <;> assumption
 unfold bZ;refine seq' seat Tryz.func227 26 ?_;refine aa ?_;refine ad rfl ?_ ?_ <;> intro h
 ·refine aa ?_;(refine gB [_,_] (⟨_,_,rfl,hx,hg,hz⟩) (by kernel_rfl) ?_;(refine au ?_);exact rfl)
 ·refine aa ?_;refine ad rfl ?_ ?_ <;> intro h
  ·refine aa ?_;(refine gB [_,_] (⟨_,_,rfl,hx,i2,hz⟩) (by kernel_rfl) ?_;(refine au ?_);exact rfl)
  ·refine aa ?_;(refine gB [_,_] (⟨_,_,rfl,hx,hy,hz⟩) (by kernel_rfl) ?_;(refine au ?_);exact rfl)
theorem wO (l:List fu):(lE l).length=32:=by
 unfold lE;exact fQ _
theorem KQ {a b c:List UInt8} (ha:a.length=32) (hb:b.length=32) (hc:c.length=32):jx ⟨0,0,a,b,c⟩∧(⟨0,0,a,b,c⟩:dO).height=0∧(⟨0,0,a,b,c⟩:dO).time=0:=⟨⟨by simp [cj],by simp [cj],ha,hb,hc⟩,rfl,rfl⟩
theorem nA (l:dK):jx (iE l)∧(iE l).height=0∧(iE l).time=0:=by
 unfold iE;exact KQ (eJ _) (pX _) (wO _)
theorem IJ: ∀x,some x=(Tryz.prog.info? 73).map (·.bytes)→x=24:=fun _ h=>Option.some.inj (h.trans (show(Tryz.prog.info? 73).map (·.bytes)=some 24 by kernel_rfl))
theorem Of [NX:Nx] (hc:vA NX.c) (cv:aE Tryz.prog G 63 [cfM NX.c] (.int .i64 0)) (hl:NX.acs.length≤100000) (hsm: ∀a∈NX.acs,SmAc a) (h0:(bm NX.acs NX.c.price).2=0):bZ Tryz.prog G 102 [cfM NX.c, .sl NX.acs.length (NX.acs.map aT)] (fun r=> ∃n:oE,r= .tup [kG n, .int .i64 0] ∧fB 0 n):=by
 have c0:=KN (G:=G) NX.c NX.acs cv hc.price hl hsm h0;have k1:=HM (acs:=NX.acs) (p:=NX.c.price) hsm hc.price;obtain⟨r1,r2,r3,r4⟩:=KO h0;generalize (bm NX.acs NX.c.price).1=a at *;have hs: @dV (Nw a.com) 0 ⟨NX.c,a,0,0,0,[],[]⟩:=Iw.mk (F:=Nw a.com) hc k1 sm sm sm sm sm sm (by simp [dD]) ⟨rfl,rfl,r2,r3,r4⟩;generalize hse:(⟨NX.c,a,0,0,0,[],[]⟩:jC)=s at *;have hsa:s.app=a:=by rw [← hse]
 rw [← hsa] at hs r1;have c1:=MI (G:=G) s.app.com (by rw [hsa];exact k1.1);have hT:=nA s.app.com;have hb2:=IJ;generalize iE s.app.com=tp at *;have hnd:fB 0 ⟨s,tp,[],a₃ 15 none,false,blk0,[]⟩:=⟨hs,hT.1,dm,dm,a₂ _,sm,by simp [ya],blk0_ok,by dsimp only [hd0];omega,by dsimp only [hd0];omega,a₂ _,r1,fun h=>(by cases h),sm⟩;clear hs hsa r1 k1 hse;unfold bZ;refine seq' seat Tryz.func102 25 ?_;refine aa ?_;refine aM (c0) rfl rfl aA (by kernel_rfl) ?_;rintro _ ⟨s0,e0,rfl,hs0,he0⟩;subst he0;rw [hs0];clear hs0 s0;refine aa ?_;refine al [ae 0,ae 1,ae 2,ae 3,dj 4,ae 5,ae 6,ae 7,ae 8] ?_;refine aa ?_;refine bQ rfl aA rfl [] (src (c1)) rfl [] trivial (bd _ (by kernel_rfl)) rfl ?_;refine aa ?_;refine aZ rfl (by intro R hR;refine cI hR ?_;refine a₀ (b₅ (Nat.mul_le_mul_left _ (b₆ (hb2 _ rfl))) (by decide)) ?_;exact hR) rfl ?_;refine aa ?_;(refine Au [_,_] [kG ⟨s,tp,[],a₃ 15 none,false,blk0,[]⟩, .int .i64 0] [(18,15)] (by(refine au ?_);exact rfl) ?_ ?_ (by kernel_rfl) (⟨_,rfl,hnd⟩))
 ·exact⟨a₄ 15,trivial⟩
 ·exact lm
end
section
variable {G:GS}
attribute [local irreducible] ak aB aD aI aN vC aW aw
theorem rr: ∀(l:List dv),aY (l.map blkM) 132=true
 | [] =>rfl
 | _ :: _=>rfl
theorem MX {l:List (Option (List (List UInt8)))} {k:Nat} (hk:k < l.length):bF (l.map nJ) l.length (k:Int)=some (nJ l[k]):=cO hk (by simp [hk])
abbrev Py (s:MV) (tp:dO) (bl:MV) (se:MV) (log:List UInt8):MV:= .st [s,fw tp,bl,se, .bool false,blkZ, .sl log.length (u8s log)]
theorem KR {h t:Int} {a b c:List UInt8} (h1:cj h) (h2:cj t) (ha:a.length=32) (hb:b.length=32) (hc:c.length=32):jx ⟨h,t,a,b,c⟩∧(⟨h,t,a,b,c⟩:dO).height=h∧(⟨h,t,a,b,c⟩:dO).time=t:=⟨⟨h1,h2,ha,hb,hc⟩,rfl,rfl⟩
theorem qd {b:dv} (l:dK) (r:List fu) (hb:jR b.hd):jx (nI b l r)∧(nI b l r).height=b.hd.height∧(nI b l r).time=b.hd.time:=by
 unfold nI gi;exact KR hb.height hb.time (eJ _) (pX _) (wO _)
theorem Ax [NX:Nx] {B:Nat} (n:oE) (b:dv) (hn:fB B n) (hB:B≤90000) (hb:dI b) (hbh:b.hd.height≤B + 1) (hbt:b.hd.time≤100 * (B + 1)) (hck:Ce n.tip b):bZ Tryz.prog G 160 [kG n,blkM b] (ND (B + 1)):=by
 have c0:=wN (G:=G) b hb;have hst:=hn.st;have hln:=hn.log;have hbl:=hn.blocks;have hF:=xV (raws:=b.txs) hst.app;have hbn:=hb.n;have hblen:=hb.len;have cF:=N7 (G:=G) n.st.app b.txs hst.app om (fun x hx=>by have:=hblen x hx;omega);have hfx:=hst.fx;have hrep:=IH hn.rep hck rfl hfx.2.2.2.1 hfx.2.2.2.2;have hcn:n.st.cfg=NX.c:=hfx.1;clear hfx hck;unfold iG iF at hrep;generalize jw n.st.app b.txs=f at *;obtain⟨a,rs,eF⟩:=f;dsimp only at hF cF hrep;have cC:=HN (G:=G) a;have hC:=Di hF.1;generalize qW a=q at *;obtain⟨a2,eC⟩:=q;dsimp only at cC hC hrep;have cA:=MJ (G:=G) b a2.com rs hb.hd hC.1 (by have:=hF.2.2;omega) hF.2.1;have hA:=qd a2.com rs hb.hd;generalize nI b a2.com rs=tp at *;have cH:=ow (G:=G) b.hd hb.hd;generalize gi b.hd=hk at *;have hm:=hn.mono (B':=B + 1) om;obtain⟨W,hW⟩: ∃W,W=n.blocks ++ [b] :=⟨_,rfl⟩
 have hWl:W.length=n.blocks.length + 1:=by rw [hW];simp
 unfold bZ;refine seq' seat Tryz.func160 125 ?_;refine aa ?_;refine aM (c0) rfl rfl aA (by kernel_rfl) ?_;rintro _ ⟨raw,e,rfl,he,hf⟩;refine aa ?_;refine ad rfl ?_ ?_ <;> intro h
 ·refine aa ?_;refine aM (dh n e hm) rfl rfl aA (by kernel_rfl) ?_;rintro _ ⟨n2,rp,rfl,hn2⟩;refine aa ?_;(refine bu [_,_] (rvq) (by kernel_rfl) (⟨n2,rp,rfl,hn2⟩))
 ·have he0:e=0:=by simpa using h
  obtain⟨f1,f2,f3,f4,f5⟩:=hf he0;have c1:=As (G:=G) n.log raw hln (by rw [f1];omega);clear f1 f5;refine aa ?_;refine aM (c1) rfl rfl aA (by kernel_rfl) ?_;rintro _ ⟨log,e1,rfl,he1,hlog⟩;refine aa ?_;refine ad rfl ?_ ?_ <;> intro h
  ·refine aa ?_;refine aM (dh n e1 hm) rfl rfl aA (by kernel_rfl) ?_;rintro _ ⟨n2,rp,rfl,hn2⟩;refine aa ?_;(refine bu [_,_] (rvq) (by kernel_rfl) (⟨n2,rp,rfl,hn2⟩))
  ·refine aa ?_;refine aG (cF) rfl rfl aA (by kernel_rfl) ?_;refine aa ?_;refine ad rfl ?_ ?_ <;> intro h
   ·refine aa ?_;refine aM (dh n eF hm) rfl rfl aA (by kernel_rfl) ?_;rintro _ ⟨n2,rp,rfl,hn2⟩;refine aa ?_;(refine bu [_,_] (rvq) (by kernel_rfl) (⟨n2,rp,rfl,hn2⟩))
   ·refine aa ?_;refine al [ae 0,ae 1,ae 2,ae 3,ae 4,ae 5,ae 6,ae 7,ae 8,ae 9,ae 10,ae 11,ae 12] ?_;refine aa ?_;refine aZ rfl (by intro R hR;refine cI hR ?_;refine a₀ ((rr _)) ?_;refine a₀ ⟨rfl,ai (by kernel_rfl) pf⟩ ?_;refine⟨n.blocks.map blkM,sv (by rfl),n.blocks.length,sv pf,?_⟩;exact hR) rfl ?_;refine aa ?_;refine aZ rfl (by intro R hR;refine cI hR ?_;(refine a₀ (a₄ _) ?_;refine⟨_,rfl,?_⟩;refine a₀ ⟨sm,ai (by kernel_rfl) pf⟩ ?_;refine⟨W.map blkM,sv (by rw [hW];simp;rfl),W.length,sv pf,?_⟩);exact hR) rfl ?_;refine aa ?_;refine aG (cC) rfl rfl aA (by kernel_rfl) ?_;refine aa ?_;refine aG (src (cA)) rfl rfl aA (by kernel_rfl) ?_;refine aa ?_;have o0: @dV (Nw a2.com) (B + 1) { n.st with app:=a2 }:=Iw.mk (F:=Nw a2.com) hm.st.cfg hC hm.st.height hm.st.time hm.st.arr hm.st.ents hm.st.entk hm.st.cache hm.st.ck ⟨hcn,rfl,hrep.2⟩;have cU:bZ Tryz.prog G 231 [gD { n.st with app:=a2 },dH b.txs, .sl rs.length (rs.map eA), .int .i64 b.hd.height, .int .i64 b.hd.time] _:=IE (G:=G) (FX:=_) _ b.txs rs o0 om om (fun x hx=>by have:=hblen x hx;omega) hF.2.1 (by have:=hF.2.2;omega) _ _ ⟨om,om⟩ ⟨om,om⟩;refine aM (cU) rfl rfl aA (by kernel_rfl) ?_;rintro _ ⟨s3,rp,rfl,hs3⟩;refine aa ?_;have hslen:=hn.sent;have hsk:=hn.sk;have hse:=hs3.ents;have hsek:=hs3.entk;refine av (Nat×List (Option (List (List UInt8)))) (fun x=> [(105, .int .i64 x.1),(104, .int .i64 n.sent.length),(103, .sl n.sent.length (n.sent.map nJ)),(12, .ptr 5 25 0 0 []),(13, .ptr 6 73 0 0 []),(11, .ptr 4 259 0 0 []),(3, .ptr 1 132 0 0 []),(4, .ptr 2 259 0 0 []),(5, .ptr 3 73 0 0 [])])
     (fun x=> [(1,⟨81,132,false,0,[blkM b]⟩),(2,⟨120,259,false,0,[KP]⟩),(3,⟨163,73,false,0,[Fh]⟩),(4,⟨120,259,false,0,[Py (gD s3) tp (.sl W.length (W.map blkM)) (.ms 7 1 0 x.2.length) log]⟩),(5,⟨75,25,false,0,[gD s3]⟩),(6,⟨163,73,false,0,[LJ rp]⟩),(7,⟨73,1,true,0,x.2.map nJ⟩)]) 8
     (fun x=>x.1≤n.sent.length∧x.2.length=x.1∧∀l∈x.2,ya (B + 1) l) (fun x=>n.sent.length - x.1) (0,[]) ⟨a₂ _,rfl,sm⟩ (by dsimp only;exact(vm [(1,_),(2,_),(3,_),(4,_),(5,_),(6,_)] [(45,W.length)])) ?_
    clear c0 hf cF cC cA cU o0;rintro⟨k,Z⟩ ⟨hki,hZl,hZk⟩;try dsimp only
    dsimp only at hki hZl hZk;refine aa ?_;refine ad rfl ?_ ?_ <;> intro h
    ·have hk':k < n.sent.length:=by have:=ot h;omega
     have hel:=aj.mk (MX hk');have hkl:=hsk _ (a₅ hk');generalize n.sent[k] =l at *;cases l with
     | none=>
      replace hkl:dD ([] :List (List UInt8))∧([] :List (List UInt8)).length≤B:=⟨by simp [dD],a₂ _⟩;have cP:=Dv (G:=G) [] s3.ents hkl.1 sm om (fun e he=>(hsek e he).key);have hps:=rn s3.ents [] hkl.1;generalize pruneS s3.ents [] =ps at *;obtain⟨Z2,hZ2⟩: ∃Z2,Z2=Z ++ [some ps] :=⟨_,rfl⟩
      have hZ2l:Z2.length=Z.length + 1:=by rw [hZ2];simp
      have hZ2k: ∀l∈Z2,ya (B + 1) l:=by
       intro l hl;rw [hZ2] at hl;rcases b₁.1 hl with hl | hl
       ·exact hZk l hl
       ·rw [a₆.1 hl];exact⟨hps.1,b₅ hps.2 (by have:=hkl.2;omega)⟩
      refine aa ?_;refine al [ae 0,ae 1,ae 2,ae 3,ae 4,dj 5,ae 6,ae 7,ae 8,ae 9] ?_;refine aa ?_;refine pF (cP) ?_;refine aZ rfl (by intro R hR;refine cI hR ?_;(refine a₀ (a₄ _) ?_;refine⟨_,rfl,?_⟩;refine a₀ ⟨sm,ai (by kernel_rfl) pf⟩ ?_;refine⟨Z2.map nJ,sv (by rw [hZ2,b₇];rfl),Z2.length,sv pf,?_⟩);exact hR) rfl ?_;refine aa ?_;exact⟨(k + 1,Z2),⟨dm,dm,hZ2k⟩,dm,(by dsimp only;exact(vm [(1,_),(2,_),(3,_),(4,_),(5,_),(6,_),(7,_)] []))⟩
     | some ks=>
      replace hkl:dD ks∧ks.length≤B:=hkl;have cP:=Dv (G:=G) ks s3.ents hkl.1 (by have:=hkl.2;omega) om (fun e he=>(hsek e he).key);have hps:=rn s3.ents ks hkl.1;generalize pruneS s3.ents ks=ps at *;obtain⟨Z2,hZ2⟩: ∃Z2,Z2=Z ++ [some ps] :=⟨_,rfl⟩
      have hZ2l:Z2.length=Z.length + 1:=by rw [hZ2];simp
      have hZ2k: ∀l∈Z2,ya (B + 1) l:=by
       intro l hl;rw [hZ2] at hl;rcases b₁.1 hl with hl | hl
       ·exact hZk l hl
       ·rw [a₆.1 hl];exact⟨hps.1,b₅ hps.2 (by have:=hkl.2;omega)⟩
      refine aa ?_;refine al [ae 0,ae 1,ae 2,ae 3,ae 4,dj 5,ae 6,ae 7,ae 8,ae 9] ?_;refine aa ?_;refine pF (cP) ?_;refine aZ rfl (by intro R hR;refine cI hR ?_;(refine a₀ (a₄ _) ?_;refine⟨_,rfl,?_⟩;refine a₀ ⟨sm,ai (by kernel_rfl) pf⟩ ?_;refine⟨Z2.map nJ,sv (by rw [hZ2,b₇];rfl),Z2.length,sv pf,?_⟩);exact hR) rfl ?_;refine aa ?_;exact⟨(k + 1,Z2),⟨dm,dm,hZ2k⟩,dm,(by dsimp only;exact(vm [(1,_),(2,_),(3,_),(4,_),(5,_),(6,_),(7,_)] []))⟩
    ·have hke:k=n.sent.length:=by have:=oF h;omega
     have hse3:s3.app.com=a2.com:=hs3.fx.2.1;rw [← hse3] at hs3;have hrp:=hrep.1;rw [← hse3,← hW] at hrp;have hbok: ∀x∈W,dI x:=fun x hx=>by
      rw [hW] at hx;rcases b₁.1 hx with hx | hx
      ·exact hn.bok x hx
      ·rw [a₆.1 hx];exact hb
     have hnd:fB (B + 1) ⟨s3,tp,W,Z,false,blk0,log⟩:=⟨hs3,hA.1,dm,dm,dm,dm,hZk,blk0_ok,by dsimp only [hd0];omega,by dsimp only [hd0];omega,hlog,hrp,fun h=>(by cases h),hbok⟩;refine aa ?_;refine aG (src (cH)) rfl rfl aA (by kernel_rfl) ?_;refine aa ?_;refine al [ae 0,ae 1,ae 2,ae 3] ?_;refine aa ?_;(refine Au [_,_] [kG ⟨s3,tp,W,Z,false,blk0,log⟩,LJ ⟨rp.code,rp.key,rp.prio,rp.ev,rp.exp,rp.inv,rp.dn,rp.fl,rp.tx,rp.height,u8s hk⟩] [(7,Z.length)] (rvq) ?_ ?_ (by kernel_rfl) (⟨_,_,rfl,hnd⟩))
     ·exact⟨by show Z.length≤(Z.map nJ).length;simp,trivial⟩
     ·exact lm
end
end Go.Proofs.YtohikcplmbkmeaaGreatDoor
namespace Go.Proofs
open Go.Shelf
def Tryz.sortAcc_ren:Go.Shelf.Ren:=⟨fun | 6=>75 | 15=>125 | 14=>124 | 28=>188 | 29=>189 | 20=>180 | 21=>181 | 22=>182 | 23=>183 | 24=>184 | 25=>185 | 26=>186 | 27=>187 | 46=>242 | 47=>243 | 48=>244 | 49=>245 | 50=>246 | 57=>271 | n=>n,fun | 22=>22 | 24=>91 | 25=>140 | 3=>3 | 39=>190 | 0=>0 | 53=>178 | 55=>23 | 4=>4 | 46=>239 | 45=>238 | 50=>196 | 5=>5 | 9=>9 | 66=>296 | 70=>227 | 76=>331 | 77=>283 | n=>n,fun | n=>n⟩
theorem Tryz.sortAcc:Go.Proofs.SlLaysF0.n6 Tryz.prog Tryz.sortAcc_ren:={
 mixed:=by kernel_rfl
 f6:=⟨Tryz.f75.name,by decide,Tryz.func75.trans (congrArg some (by kernel_rfl))⟩
 f14:=⟨Tryz.f124.name,by decide,Tryz.func124.trans (congrArg some (by kernel_rfl))⟩
 f15:=Tryz.func125.trans (congrArg some (by kernel_rfl))
 f20:=⟨Tryz.f180.name,by decide,Tryz.func180.trans (congrArg some (by kernel_rfl))⟩
 f21:=⟨Tryz.f181.name,by decide,Tryz.func181.trans (congrArg some (by kernel_rfl))⟩
 f22:=⟨Tryz.f182.name,by decide,Tryz.func182.trans (congrArg some (by kernel_rfl))⟩
 f23:=⟨Tryz.f183.name,by decide,Tryz.func183.trans (congrArg some (by kernel_rfl))⟩
 f24:=⟨Tryz.f184.name,by decide,Tryz.func184.trans (congrArg some (by kernel_rfl))⟩
 f25:=⟨Tryz.f185.name,by decide,Tryz.func185.trans (congrArg some (by kernel_rfl))⟩
 f26:=⟨Tryz.f186.name,by decide,Tryz.func186.trans (congrArg some (by kernel_rfl))⟩
 f27:=⟨Tryz.f187.name,by decide,Tryz.func187.trans (congrArg some (by kernel_rfl))⟩
 f28:=Tryz.func188.trans (congrArg some (by kernel_rfl))
 f29:=Tryz.func189.trans (congrArg some (by kernel_rfl))
 f46:=⟨Tryz.f242.name,by decide,Tryz.func242.trans (congrArg some (by kernel_rfl))⟩
 f47:=Tryz.func243.trans (congrArg some (by kernel_rfl))
 f48:=Tryz.func244.trans (congrArg some (by kernel_rfl))
 f49:=⟨Tryz.f245.name,by decide,Tryz.func245.trans (congrArg some (by kernel_rfl))⟩
 f50:=⟨Tryz.f246.name,by decide,Tryz.func246.trans (congrArg some (by kernel_rfl))⟩
 f57:=⟨Tryz.f271.name,by decide,Tryz.func271.trans (congrArg some (by kernel_rfl))⟩
 t0:=Tryz.underlying0
 a0:=Tryz.isAgg0
 z0:=Tryz.sizeOf0
 v0:=Tryz.zeroValue0
 t3:=Tryz.underlying3
 a3:=Tryz.isAgg3
 z3:=Tryz.sizeOf3
 v3:=Tryz.zeroValue3
 t4:=Tryz.underlying4
 a4:=Tryz.isAgg4
 z4:=Tryz.sizeOf4
 v4:=Tryz.zeroValue4
 t5:=Tryz.underlying5
 a5:=Tryz.isAgg5
 z5:=Tryz.sizeOf5
 v5:=Tryz.zeroValue5
 t9:=Tryz.underlying9
 a9:=Tryz.isAgg9
 z9:=Tryz.sizeOf9
 v9:=Tryz.zeroValue9
 t22:=Tryz.underlying22
 a22:=Tryz.isAgg22
 z22:=Tryz.sizeOf22
 v22:=Tryz.zeroValue22
 t25:=Tryz.underlying140
 a25:=Tryz.isAgg140
 z25:=Tryz.sizeOf140
 v25:=Tryz.zeroValue140
 t39:=Tryz.underlying190
 a39:=Tryz.isAgg190
 z39:=Tryz.sizeOf190
 v39:=Tryz.zeroValue190
 t45:=Tryz.underlying238
 a45:=Tryz.isAgg238
 z45:=Tryz.sizeOf238
 v45:=Tryz.zeroValue238
 t46:=Tryz.underlying239
 a46:=Tryz.isAgg239
 z46:=Tryz.sizeOf239
 v46:=Tryz.zeroValue239
 t50:=Tryz.underlying196
 a50:=Tryz.isAgg196
 z50:=Tryz.sizeOf196
 v50:=Tryz.zeroValue196
 t53:=Tryz.underlying178
 a53:=Tryz.isAgg178
 z53:=Tryz.sizeOf178
 v53:=Tryz.zeroValue178
 t55:=Tryz.underlying23
 a55:=Tryz.isAgg23
 z55:=Tryz.sizeOf23
 v55:=Tryz.zeroValue23
 t66:=Tryz.underlying296
 a66:=Tryz.isAgg296
 z66:=Tryz.sizeOf296
 v66:=Tryz.zeroValue296
 t70:=Tryz.underlying227
 a70:=Tryz.isAgg227
 z70:=Tryz.sizeOf227
 v70:=Tryz.zeroValue227
 t76:=Tryz.underlying331
 a76:=Tryz.isAgg331
 z76:=Tryz.sizeOf331
 v76:=Tryz.zeroValue331
 t77:=Tryz.underlying283
 a77:=Tryz.isAgg283
 z77:=Tryz.sizeOf283
 v77:=Tryz.zeroValue283 }
end Go.Proofs
namespace Go.Proofs.YtohikcplmbkmeaaGreatDoor
open Go.RowKit
section
def uQ:List eE→lh→lh
 | [],x=>x
 | f :: r,x=>if f.num=1 then uQ r ⟨f.bytes,x.amt⟩ else if f.num=2 then uQ r ⟨x.to_,f.val⟩ else uQ r x
def ig (b:List UInt8):lh:=uQ (aC b).1 ⟨[],0⟩
def gj:List eE→je→je
 | [],t=>t
 | f :: r,t=>
  if f.num=1 then gj r ⟨f.bytes,t.seq,t.gas,t.fee,t.memo,t.trs⟩ else
  if f.num=2 then gj r ⟨t.sender,f.val,t.gas,t.fee,t.memo,t.trs⟩ else
  if f.num=3 then gj r ⟨t.sender,t.seq,f.val,t.fee,t.memo,t.trs⟩ else
  if f.num=4 then gj r ⟨t.sender,t.seq,t.gas,f.val,t.memo,t.trs⟩ else
  if f.num=5 then gj r ⟨t.sender,t.seq,t.gas,t.fee,f.bytes,t.trs⟩ else
  if f.num=6 then gj r ⟨t.sender,t.seq,t.gas,t.fee,t.memo,t.trs ++ [ig f.bytes]⟩ else gj r t
theorem yb: ∀(l:List eE) (x:lh),(jt l x).2=true→uQ l x=(jt l x).1
 | [],x,_=>rfl
 | f :: r,x,h=>by
  rw [jt] at h ⊢
  rw [uQ]
  split at h
  ·rename_i h1;rw [if_pos h1.1,if_pos h1];exact yb r _ h
  ·rename_i h1
   split at h
   ·rename_i h2;rw [if_neg om,if_pos h2.1,if_neg h1,if_pos h2];exact yb r _ h
   ·cases h
theorem IK {b:List UInt8} (h:(dJ b).2=true):ig b=(dJ b).1:=by
 unfold dJ at h ⊢;unfold ig;have h1:=yb (aC b).1 ⟨[],0⟩;generalize jt (aC b).1 ⟨[],0⟩=r at *;obtain⟨x,ok⟩:=r;dsimp only at *;rw [Bool.and_eq_true] at h;exact h1 h.1
theorem uR: ∀(l:List eE) (t:je),(bL l t).2=true→gj l t=(bL l t).1
 | [],t,_=>rfl
 | f :: r,t,h=>by
  rw [bL] at h ⊢
  rw [gj]
  split at h
  ·rename_i h1;rw [if_pos h1.1,if_pos h1];exact uR r _ h
  rename_i n1
  split at h
  ·rename_i h2;rw [if_neg om,if_pos h2.1,if_neg n1,if_pos h2];exact uR r _ h
  rename_i n2
  split at h
  ·rename_i h3;rw [if_neg om,if_neg om,if_pos h3.1,if_neg n1,if_neg n2,if_pos h3];exact uR r _ h
  rename_i n3
  split at h
  ·rename_i h4;rw [if_neg om,if_neg om,if_neg om,if_pos h4.1,if_neg n1,if_neg n2,if_neg n3,if_pos h4];exact uR r _ h
  rename_i n4
  split at h
  ·rename_i h5;rw [if_neg om,if_neg om,if_neg om,if_neg om,if_pos h5.1,if_neg n1,if_neg n2,if_neg n3,if_neg n4,if_pos h5];exact uR r _ h
  rename_i n5
  split at h
  ·rename_i h6
   rw [if_neg om,if_neg om,if_neg om,if_neg om,if_neg om,if_pos h6.1,if_neg n1,if_neg n2,if_neg n3,if_neg n4,if_neg n5,if_pos h6]
   split at h
   ·rename_i h7;rw [if_pos h7,IK h7];exact uR r _ h
   ·cases h
  ·cases h
theorem Ay (n:Nat) (s s':List UInt8):(bJ n s).length≤(bJ n s').length + 1:=by
 unfold bJ;split <;> split <;> simp
theorem yd (n v v':Nat):(db n v).length≤(db n v').length + 1:=by
 unfold db;split <;> split <;> simp
theorem el (t:je):(iB t).length=(bJ 1 t.sender).length + (db 2 t.seq).length + (db 3 t.gas).length + (db 4 t.fee).length + (bJ 5 t.memo).length + t.trs.length:=by
 unfold iB;simp only [a₁,List.length_map]
theorem jM: ∀(l:List eE) (t:je),(iB (gj l t)).length≤(iB t).length + l.length
 | [],t=>by rw [gj];simp
 | f :: r,t=>by
  rw [gj,b₉]
  split
  ·have h:=jM r ⟨f.bytes,t.seq,t.gas,t.fee,t.memo,t.trs⟩
   have:=Ay 1 f.bytes t.sender
   rw [el ⟨f.bytes,t.seq,t.gas,t.fee,t.memo,t.trs⟩] at h;rw [el t];dsimp only at h;omega
  split
  ·have h:=jM r ⟨t.sender,f.val,t.gas,t.fee,t.memo,t.trs⟩
   have:=yd 2 f.val t.seq
   rw [el ⟨t.sender,f.val,t.gas,t.fee,t.memo,t.trs⟩] at h;rw [el t];dsimp only at h;omega
  split
  ·have h:=jM r ⟨t.sender,t.seq,f.val,t.fee,t.memo,t.trs⟩
   have:=yd 3 f.val t.gas
   rw [el ⟨t.sender,t.seq,f.val,t.fee,t.memo,t.trs⟩] at h;rw [el t];dsimp only at h;omega
  split
  ·have h:=jM r ⟨t.sender,t.seq,t.gas,f.val,t.memo,t.trs⟩
   have:=yd 4 f.val t.fee
   rw [el ⟨t.sender,t.seq,t.gas,f.val,t.memo,t.trs⟩] at h;rw [el t];dsimp only at h;omega
  split
  ·have h:=jM r ⟨t.sender,t.seq,t.gas,t.fee,f.bytes,t.trs⟩
   have:=Ay 5 f.bytes t.memo
   rw [el ⟨t.sender,t.seq,t.gas,t.fee,f.bytes,t.trs⟩] at h;rw [el t];dsimp only at h;omega
  split
  ·have h:=jM r ⟨t.sender,t.seq,t.gas,t.fee,t.memo,t.trs ++ [ig f.bytes]⟩
   rw [el ⟨t.sender,t.seq,t.gas,t.fee,t.memo,t.trs ++ [ig f.bytes]⟩] at h;rw [el t];dsimp only at h
   rw [a₁,a₈] at h;omega
  ·have h:=jM r t
   omega
theorem ye: ∀(l:List eE) (x:lh),(∀f∈l,iz f∧f.bytes.length≤5000)→mo x→mo (uQ l x)
 | [],x,_,h=>h
 | f :: r,x,hl,h=>by
  have hf:=hl f sm
  have hr: ∀g∈r,iz g∧g.bytes.length≤5000:=fun g hg=>hl g (by simp [hg])
  rw [uQ]
  split
  ·exact ye r _ hr ⟨hf.2,h.2⟩
  split
  ·exact ye r _ hr ⟨h.1,by have:=hf.1;unfold iz at this;unfold bo;dsimp only;omega⟩
  ·exact ye r _ hr h
theorem Fm {b:List UInt8} (hb:b.length≤5000):mo (ig b):=by
 have h:=eX b;exact ye _ _ (fun f hf=>⟨(h.1 f hf).1,by have:=(h.1 f hf).2;omega⟩) ⟨sm,by simp [bo]⟩
theorem mL: ∀(l:List eE) (t:je),(∀f∈l,iz f∧f.bytes.length≤5000)→t.trs.length + l.length≤5000→iL t→iL (gj l t)
 | [],t,_,_,h=>h
 | f :: r,t,hl,hn,h=>by
  have hf:=hl f sm
  have hr: ∀g∈r,iz g∧g.bytes.length≤5000:=fun g hg=>hl g (by simp [hg])
  have hv:bo f.val:=by have:=hf.1;unfold iz at this;unfold bo;omega
  simp only [b₉] at hn
  have hh:=h
  obtain⟨h1,h2,h3,h4,h5,h6,h7⟩:=h
  rw [gj]
  split
  ·exact mL r _ hr dm ⟨hf.2,h2,h3,h4,h5,h6,h7⟩
  split
  ·exact mL r _ hr dm ⟨h1,hv,h3,h4,h5,h6,h7⟩
  split
  ·exact mL r _ hr dm ⟨h1,h2,hv,h4,h5,h6,h7⟩
  split
  ·exact mL r _ hr dm ⟨h1,h2,h3,hv,h5,h6,h7⟩
  split
  ·exact mL r _ hr dm ⟨h1,h2,h3,h4,hf.2,h6,h7⟩
  split
  ·exact mL r _ hr (by dsimp only;rw [a₁,a₈];omega) ⟨h1,h2,h3,h4,h5,by dsimp only;rw [a₁,a₈];omega,ez h7 fun x hx=>by rw [a₆.1 hx];exact Fm hf.2⟩
  ·exact mL r _ hr om hh
theorem uS {raw:List UInt8} (h:raw.length≤4096):iL (gj (aC raw).1 tx0):=by
 have hf:=eX raw;refine mL _ tx0 (fun f hm=>⟨(hf.1 f hm).1,by have:=(hf.1 f hm).2;omega⟩) ?_ uw
 show 0 + _≤_
 omega
theorem Cg {x:lh} (h:mo x):dJ (mq x).bytes=(x,true):=by
 have hok:=pL h;unfold dJ mq;dsimp only;have hf:aC (aF (bJ 1 x.to_ ++ db 2 x.amt))=(bJ 1 x.to_ ++ db 2 x.amt,0,0):=by
  have:=jm (bJ 1 x.to_ ++ db 2 x.amt) 1024 0 [] (fun f hf=>(hok.1 f hf).1) om;simpa [aC] using this
 rw [hf];have hr:jt (bJ 1 x.to_ ++ db 2 x.amt) ⟨[],0⟩=(x,true):=by
  obtain⟨to_,amt⟩:=x;unfold bJ db;dsimp only;by_cases h1:to_= [] <;> by_cases h2:amt=0 <;> simp [h1,h2,jt]
 rw [hr];simp
theorem IL: ∀(l:List lh) (t:je),(∀x∈l,mo x)→bL (l.map mq) t=(⟨t.sender,t.seq,t.gas,t.fee,t.memo,t.trs ++ l⟩,true)
 | [],t,_=>by simp [bL]
 | x :: l,t,h=>by
  rw [List.map_cons,bL]
  have h1:=Cg (h x sm)
  have n6:(mq x).num=6:=rfl
  have k2:(mq x).kind=2:=rfl
  rw [n6,k2,h1]
  simp only [show ¬ ((6:Nat)=1∧(2:Nat)=2) by omega,show ¬ ((6:Nat)=2∧(2:Nat)=0) by omega,show ¬ ((6:Nat)=3∧(2:Nat)=0) by omega,show ¬ ((6:Nat)=4∧(2:Nat)=0) by omega,show ¬ ((6:Nat)=5∧(2:Nat)=2) by omega,if_false,and_self,if_true]
  refine(IL l _ fun y hy=>h y (by simp [hy])).trans ?_
  simp
theorem KS {t:je} (h:iL t):bL (iB t) tx0=(t,true):=by
 obtain⟨sender,seq,gas,fee,memo,trs⟩:=t;obtain⟨h1,h2,h3,h4,h5,h6,h7⟩:=h;dsimp only at h7;unfold iB;dsimp only;have t1: ∀(r:List eE),bL (bJ 1 sender ++ r) ⟨[],0,0,0,[],[]⟩=bL r ⟨sender,0,0,0,[],[]⟩:=fun r=>by
  unfold bJ;by_cases h:sender= [] <;> simp [h,bL]
 have t2: ∀(r:List eE),bL (db 2 seq ++ r) ⟨sender,0,0,0,[],[]⟩=bL r ⟨sender,seq,0,0,[],[]⟩:=fun r=>by
  unfold db;by_cases h:seq=0 <;> simp [h,bL]
 have t3: ∀(r:List eE),bL (db 3 gas ++ r) ⟨sender,seq,0,0,[],[]⟩=bL r ⟨sender,seq,gas,0,[],[]⟩:=fun r=>by
  unfold db;by_cases h:gas=0 <;> simp [h,bL]
 have t4: ∀(r:List eE),bL (db 4 fee ++ r) ⟨sender,seq,gas,0,[],[]⟩=bL r ⟨sender,seq,gas,fee,[],[]⟩:=fun r=>by
  unfold db;by_cases h:fee=0 <;> simp [h,bL]
 have t5: ∀(r:List eE),bL (bJ 5 memo ++ r) ⟨sender,seq,gas,fee,[],[]⟩=bL r ⟨sender,seq,gas,fee,memo,[]⟩:=fun r=>by
  unfold bJ;by_cases h:memo= [] <;> simp [h,bL]
 rw [a₉,a₉,a₉,a₉]
 show bL _ ⟨[],0,0,0,[],[]⟩=_
 rw [t1,t2,t3,t4,t5,IL trs _ h7];simp
theorem Fo (raw:List UInt8):aS raw=if 4096 < raw.length then(tx0,3) else if (aC raw).2.2≠0∨fk (gj (aC raw).1 tx0)≠raw then(tx0,4) else if dG (gj (aC raw).1 tx0)≠0 then(tx0,dG (gj (aC raw).1 tx0)) else(gj (aC raw).1 tx0,0):=by
 unfold aS;by_cases h1:4096 < raw.length
 ·rw [if_pos h1,if_pos h1]
 rw [if_neg h1,if_neg h1];by_cases he:(aC raw).2.2≠0
 ·rw [if_pos (.inl he),if_pos (.inl he)]
 by_cases hok:(bL (aC raw).1 tx0).2=true
 ·rw [uR _ _ hok];by_cases hf:fk (bL (aC raw).1 tx0).1≠raw
  ·rw [if_pos (.inr (.inr hf)),if_pos (.inr hf)]
  ·have n1: ¬ ((aC raw).2.2≠0∨(bL (aC raw).1 tx0).2=false∨fk (bL (aC raw).1 tx0).1≠raw):=fun h=>h.elim he fun h=>h.elim (fun h=>by rw [hok] at h;cases h) hf
   have n2: ¬ ((aC raw).2.2≠0∨fk (bL (aC raw).1 tx0).1≠raw):=fun h=>h.elim he hf
   rw [if_neg n1,if_neg n2]
 ·have hno:(bL (aC raw).1 tx0).2=false:=by simpa using hok
  suffices hx:fk (gj (aC raw).1 tx0)≠raw by rw [if_pos (.inr (.inl hno)),if_pos (.inr hx)]
  intro hf;have hsm:=uS (raw:=raw) om;have hlen:=jM (aC raw).1 tx0;have h1024:=(eX raw).2;have h0:(iB tx0).length=0:=rfl;have hfo:=um hsm;have hfm:=jm (iB (gj (aC raw).1 tx0)) 1024 0 [] (fun f hf=>(hfo.1 f hf).1) om;have e:aC raw=(iB (gj (aC raw).1 tx0),0,0):=by
   have h2:aC (fk (gj (aC raw).1 tx0))=(iB (gj (aC raw).1 tx0),0,0):=by simpa [aC,fk] using hfm
   rw [hf] at h2;exact h2
  have e1:(aC raw).1=iB (gj (aC raw).1 tx0):=congrArg Prod.fst e;have e2:=KS hsm;rw [← e1] at e2;exact absurd (show(bL (aC raw).1 tx0).2=true by rw [e2]) (by rw [hno];simp)
end
section
section
variable {Pg:Program} {G:GS} {f:FuncId} {args:List MV} {M0 M1:VM} {n0 n1:Nat} {res:MV}
theorem IM {w:World} {P:bT} {adr adr2:fV} {ρ:Nat→Nat} {b:MB} {g:Nat} (h:nD w P adr b g) (k: ∀c g,adr c=some g→adr2 (ρ c)=some g):nD w P adr2 { b with l:=bif b.row then b.l else renVs ρ b.l } g:=by
 have hlen:(bif b.row then b.l else renVs ρ b.l).length=b.l.length:=by
  cases b.row
  ·exact fN _
  ·rfl
 refine⟨?_,h.pe,by simp only [hlen];exact h.le⟩;rcases h.has' with ⟨cur,parts,c1,c2,c3,c4,c5⟩ | ⟨m1,m2,ks,vs,o,m3,m4,m5⟩
 ·refine .inl ⟨cur,parts,c1,by simp only [hlen];exact c2,c3,fun j x p hx hp=>?_,c5⟩;simp only at hx ⊢;cases hrow:b.row with
  | true=>rw [hrow] at hx c4;exact c4 j x p hx hp
  | false=>
   rw [hrow] at hx c4;simp only [cond_false,gT] at hx;cases hj:b.l[j]? with
   | none=>rw [hj] at hx;cases hx
   | some y=>
    rw [hj] at hx;injection hx with hx
    subst hx;exact oU (c4 j y p hj hp) k
 ·exact .inr ⟨m1,m2,ks,vs,o,by simp [m1,m3,renVs,dr],m4,m5⟩
def Az (a n1:Nat) (c:Nat):Nat:=bif Nat.beq c a then n1 else c
theorem rW (a:Nat) (ha:a < n1) (hn:n0≤n1) (hall:M1.all (fun x=>Nat.blt x.1 n1)=true) (h:aQ Pg G f args M0 n0 res M1 n1):aQ Pg G f args M0 n0 (dr (Az a n1) res) (jO (Az a n1) M1) (n1 + 1):=by
 intro w P adr vals h1 h2 h3 h4 h5;refine(h w P adr vals h1 h2 h3 h4 h5).mono ?_;rintro e w' ⟨v,rfl,P',adr',j1,j2,j3,j4,j5,j6,j7,j8⟩;have hlt: ∀{c b},VM.get M1 c=some b→c < n1:=fun {c b} hc=>by
  rcases Nat.lt_or_ge c n1 with h | h
  ·exact h
  ·rw [qC hall h] at hc;cases hc
 have hr: ∀c,Az a n1 c=if c=a then n1 else c:=fun c=>by
  unfold Az;by_cases h:c=a
  ·subst h;simp
  ·simp [gE h,h]
 have key: ∀c g,adr' c=some g→(fun c=>if c=n1 then adr' a else adr' c) (Az a n1 c)=some g:=fun c g hc=>by
  dsimp only;rw [hr];by_cases h:c=a
  ·subst h;simp [hc]
  ·rw [if_neg h,if_neg]
   ·exact hc
   ·rintro rfl;rw [j5 c (a₄ _)] at hc;cases hc
 have hinj: ∀c d b b',VM.get M1 c=some b→VM.get M1 d=some b'→Az a n1 c=Az a n1 d→c=d:=fun c d b b' hc hd he=>by
  have:=hlt hc;have:=hlt hd;rw [hr,hr] at he;split at he <;> split at he <;> omega
 have back: ∀c,c < n1→(fun c=>if c=n1 then adr' a else adr' c) (Az a n1 c)=adr' c:=fun c hc=>by
  dsimp only;rw [hr];by_cases h:c=a
  ·subst h;simp
  ·rw [if_neg h,if_neg om]
 refine⟨v,rfl,P',fun c=>if c=n1 then adr' a else adr' c,⟨fun c b' hc=>?_,fun c c' b1 b2 g hc hc' hg hg'=>?_,j1.prot⟩,tn j2 key,⟨j3.prot,j3.cell,fun c g hc=>?_,j3.size⟩,fun c hc=>?_,fun c hc=>?_,fun c g hc=>?_,j7,j8⟩
 ·obtain⟨c0,b0,rfl,hc0,rfl⟩:=kc M1 c b' hc hinj;rcases j1.blk c0 b0 hc0 with q | ⟨g,q1,q2⟩
  ·refine .inl ⟨q.1,?_,(back c0 (hlt hc0)).trans q.2.2.1,q.2.2.2⟩;simp [q.1,q.2.1]
  ·exact .inr ⟨g,key c0 g q1,IM q2 key⟩
 ·obtain⟨c0,b0,rfl,hc0,rfl⟩:=kc M1 c b1 hc hinj;obtain⟨d0,d1,rfl,hd0,rfl⟩:=kc M1 c' b2 hc' hinj;rw [j1.inj c0 d0 b0 d1 g hc0 hd0 ((back c0 (hlt hc0)).symm.trans hg) ((back d0 (hlt hd0)).symm.trans hg')]
 ·have hk:=j3.num c g hc;have:c≠n1:=by rintro rfl;rw [j5 c (a₄ _)] at hk;cases hk
  simp only [this,if_false];exact hk
 ·have:c≠n1:=om;simp only [this,if_false];exact j4 c hc
 ·have:c≠n1:=om;simp only [this,if_false];exact j5 c om
 ·by_cases h:c=n1
  ·simp only [h,if_true] at hc;exact j6 a g hc
  ·simp only [h,if_false] at hc;exact j6 c g hc
end
end
section
variable {G:GS}
attribute [local irreducible] ak aB aD aI aN vC aW aw
def yx (c:Nat) (b:List UInt8):VM:= [(0,⟨250,1,false,0,[.st [.ms c 1 0 b.length]]⟩),(c,⟨5,1,true,0,u8s b⟩)]
abbrev O5:MV:= .ptr 0 1 0 0 []
theorem yf (f:eE) (hf:iz f) (hb:f.bytes.length < 400000000) :
  aQ Tryz.prog G 152 [.sl 0 [],bR f] [] 0 (.tup [.ms 0 1 0 (aV f).length, .int .i64 0]) (jn (aV f)) 1:=by
 have:=mh (G:=G) [] f hf (by simpa using hb)
 simpa [u8s] using this
theorem ru (b s:List UInt8) (n:Nat) (hn:1≤n∧n≤100) (hb:b.length < 400000000) (hs:s.length < 100000000) :
  aQ Tryz.prog G 192 [O5, .int .i64 n, .ifc 9 (.str s)] (yx 1 b) 2 (.tup []) (yx 2 (b ++ aF (bJ n s))) 3:=by
 by_cases h0:s= []
 ·subst h0
  have e:aF (bJ n [])= [] :=rfl
  rw [e,c₀]
  refine rW (n1:=2) 1 (by decide) (by decide) rfl (res:= .tup []) (M1:=yx 1 b) ?_
  unfold yx
  refine dw seat Tryz.func192 61 ?_
  refine aa ?_
  exact en []
 ·have e:aF (bJ n s)=aV ⟨n,2,0,s⟩:=by unfold bJ;rw [if_neg h0];simp [aF]
  have hok:iz (⟨n,2,0,s⟩:eE):=⟨dm,dm, .inr ⟨rfl,rfl,dm⟩⟩
  have c1:=yf (G:=G) ⟨n,2,0,s⟩ hok dm
  have hpl:=gW hok
  rw [e]
  unfold jn bR at c1
  dsimp only at c1 hpl
  generalize aV ⟨n,2,0,s⟩=piece at *
  unfold yx
  refine dw seat Tryz.func192 61 ?_
  refine aa ?_
  refine ad rfl ?_ ?_ <;> intro h
  ·exact absurd h (by simp;intro h;exact absurd h h0)
  refine aa ?_
  refine yc (c1) [] ?_
  refine aa ?_
  refine aL rfl rfl (by intro R hR;refine cI hR ?_;refine a₀ (b₆ (by simp [u8s])) ?_;refine⟨_,rfl,?_⟩;refine a₀ ⟨(by simp [u8s]),ai (by kernel_rfl) pf⟩ ?_;refine⟨u8s (b ++ piece),sv (by simp [u8s,cutL,a₇]),(b ++ piece).length,sv pf,?_⟩;exact hR) rfl ?_
  refine aa ?_
  exact eb [] [(2,49)] []
theorem qe (b:List UInt8) (n v:Nat) (hn:1≤n∧n≤100) (hb:b.length < 400000000) (hv:bo v) :
  aQ Tryz.prog G 192 [O5, .int .i64 n, .ifc 23 (.int .u64 v)] (yx 1 b) 2 (.tup []) (yx 2 (b ++ aF (db n v))) 3:=by
 by_cases h0:v=0
 ·subst h0
  have e:aF (db n 0)= [] :=rfl
  rw [e,c₀]
  refine rW (n1:=2) 1 (by decide) (by decide) rfl (res:= .tup []) (M1:=yx 1 b) ?_
  unfold yx
  refine dw seat Tryz.func192 61 ?_
  refine aa ?_
  exact en []
 ·have e:aF (db n v)=aV ⟨n,0,v,[]⟩:=by unfold db;rw [if_neg h0];simp [aF]
  have hok:iz (⟨n,0,v,[]⟩:eE):=⟨dm,dm, .inl ⟨rfl,rfl,hv⟩⟩
  have c1:=yf (G:=G) ⟨n,0,v,[]⟩ hok (by dsimp only;simp)
  have hpl:(aV ⟨n,0,v,[]⟩).length≤20:=by simpa using gW hok
  rw [e]
  unfold jn bR at c1
  dsimp only at c1 hpl
  generalize aV ⟨n,0,v,[]⟩=piece at *
  unfold yx
  refine dw seat Tryz.func192 61 ?_
  refine aa ?_
  refine ad rfl ?_ ?_ <;> intro h
  ·exact absurd h (by have:=eq_of_beq h;omega)
  refine aa ?_
  refine yc (c1) [] ?_
  refine aa ?_
  refine aL rfl rfl (by intro R hR;refine cI hR ?_;refine a₀ (b₆ (by simp [u8s])) ?_;refine⟨_,rfl,?_⟩;refine a₀ ⟨(by simp [u8s]),ai (by kernel_rfl) pf⟩ ?_;refine⟨u8s (b ++ piece),sv (by simp [u8s,cutL,a₇]),(b ++ piece).length,sv pf,?_⟩;exact hR) rfl ?_
  refine aa ?_
  exact eb [] [(2,50)] []
theorem Ch (b x:List UInt8) (n:Nat) (hn:1≤n∧n≤100) (hb:b.length < 400000000) (hs:x.length < 100000000) :
  aQ Tryz.prog G 192 [O5, .int .i64 n, .ifc 41 (.sl x.length (u8s x))] (yx 1 b) 2 (.tup []) (yx 2 (b ++ aV ⟨n,2,0,x⟩)) 3:=by
 have hok:iz (⟨n,2,0,x⟩:eE):=⟨dm,dm, .inr ⟨rfl,rfl,dm⟩⟩
 have c1:=yf (G:=G) ⟨n,2,0,x⟩ hok dm
 have hpl:=gW hok
 unfold jn bR at c1
 dsimp only at c1 hpl
 generalize aV ⟨n,2,0,x⟩=piece at *
 unfold yx
 refine dw seat Tryz.func192 61 ?_
 refine aa ?_
 refine yc (c1) [] ?_
 refine aa ?_
 refine aL rfl rfl (by intro R hR;refine cI hR ?_;refine a₀ (b₆ (by simp [u8s])) ?_;refine⟨_,rfl,?_⟩;refine a₀ ⟨(by simp [u8s]),ai (by kernel_rfl) pf⟩ ?_;refine⟨u8s (b ++ piece),sv (by simp [u8s,cutL,a₇]),(b ++ piece).length,sv pf,?_⟩;exact hR) rfl ?_
 refine aa ?_
 exact eb [] [(2,46)] []
end
section
variable {G:GS}
attribute [local irreducible] ak aB aD aI aN vC aW aw
theorem msgS_app (a b:List eE):aF (a ++ b)=aF a ++ aF b:=by simp [aF]
theorem Fq (t:je) (ht:iL t):aQ Tryz.prog G 131 [nP t] [] 0 (.sl (fk t).length (u8s (fk t))) [] 0:=by
 have hfl:=qR ht;obtain⟨sender,seq,gas,fee,memo,trs⟩:=t;obtain⟨h1,h2,h3,h4,h5,h6,h7⟩:=ht;dsimp only at h1 h2 h3 h4 h5 h6 h7;generalize hF:fk ⟨sender,seq,gas,fee,memo,trs⟩=F at *;have hF2: ∀k,F=aF (bJ 1 sender) ++ aF (db 2 seq) ++ aF (db 3 gas) ++ aF (db 4 fee) ++ aF (bJ 5 memo) ++ aF ((trs.take k).map mq) ++ aF ((trs.drop k).map mq):=fun k=>by
  rw [← hF];unfold fk iB;have e:aF (trs.map mq)=aF ((trs.take k).map mq) ++ aF ((trs.drop k).map mq):=by rw [← msgS_app,← b₇,List.take_append_drop]
  simp only [msgS_app,e,a₉]
 have hl0:=congrArg List.length (hF2 0);simp only [a₁] at hl0;have c1:=ru (G:=G) [] sender 1 om sm om;rw [c₅] at c1;generalize aF (bJ 1 sender)=p1 at *;have c2:=qe (G:=G) p1 2 seq om om h2;have q2:(p1 ++ aF (db 2 seq)).length=p1.length + (aF (db 2 seq)).length:=a₁;generalize p1 ++ aF (db 2 seq)=p2 at *;have c3:=qe (G:=G) p2 3 gas om om h3;have q3:(p2 ++ aF (db 3 gas)).length=p2.length + (aF (db 3 gas)).length:=a₁;generalize p2 ++ aF (db 3 gas)=p3 at *;have c4:=qe (G:=G) p3 4 fee om om h4;have q4:(p3 ++ aF (db 4 fee)).length=p3.length + (aF (db 4 fee)).length:=a₁;generalize p3 ++ aF (db 4 fee)=p4 at *;have c5:=ru (G:=G) p4 memo 5 om om om;generalize p4 ++ aF (bJ 5 memo)=p5 at *;clear hl0 q2 q3 q4 hF;unfold yx at c1 c2 c3 c4 c5;unfold nP;dsimp only;refine dw seat Tryz.func131 49 ?_;refine aa ?_;refine yc (c1) [(0,2)] ?_;refine aa ?_;refine yc (c2) [(0,2),(1,8)] ?_;refine aa ?_;refine yc (c3) [(0,2),(1,14)] ?_;refine aa ?_;refine yc (c4) [(0,2),(1,20)] ?_;refine aa ?_;refine yc (c5) [(0,2),(1,26)] ?_;refine aa ?_;refine av Nat (fun k=> [(30, .int .i64 k),(29, .int .i64 trs.length),(28, .sl trs.length (trs.map lC)),(3, .ptr 0 1 0 0 [])]) (fun k=>yx 1 (p5 ++ aF ((trs.take k).map mq))) 2 (fun k=>k≤trs.length) (fun k=>trs.length - k) 0 (a₂ _) ?_ ?_
 ·rw [show p5 ++ aF ((trs.take 0).map mq)=p5 by simp [aF]];unfold yx;exact(vm [(0,_),(1,_)] [])
 intro k hk;have hFk:=hF2 k;have hlk:=congrArg List.length hFk;simp only [a₁] at hlk;try dsimp only
 by_cases hk':k < trs.length
 ·have hsu:p5 ++ aF ((trs.take (k + 1)).map mq)=p5 ++ aF ((trs.take k).map mq) ++ aV (mq trs[k]):=by
   rw [b₀ hk',b₇,msgS_app,a₉];congr 2;simp [aF]
  have hel:=ll hk';have hx:=h7 _ (a₅ hk');have hin:=np hx;rw [show mq trs[k] =⟨6,2,0,aF (bJ 1 trs[k].to_ ++ db 2 trs[k].amt)⟩ from rfl] at hsu;have hb1:(p5 ++ aF ((trs.take k).map mq)).length < 400000000:=by rw [a₁];omega
  generalize p5 ++ aF ((trs.take k).map mq)=acc at *;generalize hac:p5 ++ aF ((trs.take (k + 1)).map mq)=acc2 at *;generalize trs[k] =x at *;obtain⟨to_,amt⟩:=x;unfold lC at hel;dsimp only at hel hsu hx hin;have hel:=aj.mk hel;obtain⟨hx1,hx2⟩:=hx;dsimp only at hx1 hx2;rw [msgS_app] at hsu hin;have d1:=ru (G:=G) [] to_ 1 om sm om;rw [c₅] at d1;rw [a₁] at hin;have hiq:(aF (bJ 1 to_) ++ aF (db 2 amt)).length≤10040:=by rw [a₁];exact hin
  generalize aF (bJ 1 to_)=i1 at *;have d2:=qe (G:=G) i1 2 amt om om hx2;generalize i1 ++ aF (db 2 amt)=i2 at *;have d3:=Ch (G:=G) acc i2 6 om hb1 om;rw [← hsu] at d3;unfold yx at *;refine aa ?_;refine ad rfl ?_ ?_ <;> intro h
  rotate_left
  ·exact absurd (oF h) om
  refine aa ?_;refine yc (d1) [(0,7)] ?_;refine aa ?_;refine yc (d2) [(0,7),(1,13)] ?_;refine aa ?_;refine bC rfl aA rfl (d3) [(0,0),(1,1)] [(19,i2.length)] ⟨rfl,mm,rfl,lm,mm⟩ rfl rfl ?_;refine aa ?_;refine⟨k + 1,om,by show trs.length - (k + 1) < trs.length - k;omega,?_⟩;dsimp only;rw [hac];exact(vm [(0,0),(1,25)] [])
 ·have e:k=trs.length:=om;subst e;rw [b₄,show aF (([] :List lh).map mq)= [] by rfl,c₀] at hFk;rw [← hFk];unfold yx;refine aa ?_;refine ad rfl ?_ ?_ <;> intro h
  ·exact absurd (ot h) om
  refine aa ?_;refine⟨[_],[],[(1,F.length)],rfl,rfl,?_,rfl,⟨?_,trivial⟩,?_⟩
  ·exact⟨by show F.length≤(u8s F).length;simp [u8s],trivial⟩
  ·exact .inr ⟨rfl,rfl,rfl,b₆ (Nat.zero_add _),by simp [cutL,u8s,a₇]⟩
  ·exact mm
end
section
attribute [local irreducible] ak aB aD aI aN vC aW aw
theorem Ci (t:je) (ht:iL t):aE Tryz.prog GU 132 [nP t] (.int .i64 (dG t)):=by
 obtain⟨sender,seq,gas,fee,memo,trs⟩:=t;obtain⟨h1,h2,h3,h4,h5,h6,h7⟩:=ht;dsimp only at h1 h2 h3 h4 h5 h6 h7;have c1:=sF (G:=GU) sender om;have c2:=Kl memo om;generalize hr:dG _=r;unfold dG at hr;unfold nP;dsimp only at hr ⊢;generalize dS sender=b1 at *;generalize rR memo=b2 at *;cases b1 with
 | false=>
  rw [if_pos rfl] at hr;subst hr;refine bA seat Tryz.func132 45 ?_;(iterate 2 ((all_goals(refine aa ?_));(all_goals(first | (refine ah rfl aA rfl (src (c1)) rfl rfl ?_) | ((first | refine ag rfl rfl ?_ rfl ?_ | refine ad rfl ?_ ?_);all_goals(intro h;(try simp only [pl] at h);(try (exfalso;omega)))) | skip))));refine au ?_;rfl
 | true=>
 rw [if_neg sm] at hr;by_cases hg:gas=0
 ·rw [if_pos hg] at hr;subst hr;refine bA seat Tryz.func132 45 ?_;(iterate 3 ((all_goals(refine aa ?_));(all_goals(first | (refine ah rfl aA rfl (src (c1)) rfl rfl ?_) | ((first | refine ag rfl rfl ?_ rfl ?_ | refine ad rfl ?_ ?_);all_goals(intro h;(try simp only [pl] at h);(try (exfalso;omega)))) | skip))));refine au ?_;rfl
 rw [if_neg hg] at hr;cases b2 with
 | false=>
  rw [if_pos rfl] at hr;subst hr;refine bA seat Tryz.func132 45 ?_;(iterate 4 ((all_goals(refine aa ?_));(all_goals(first | (refine ah rfl aA rfl (src (c1)) rfl rfl ?_) | (refine ah rfl aA rfl (src (c2)) rfl rfl ?_) | ((first | refine ag rfl rfl ?_ rfl ?_ | refine ad rfl ?_ ?_);all_goals(intro h;(try simp only [pl] at h);(try (exfalso;omega)))) | skip))));refine au ?_;rfl
 | true=>
 rw [if_neg sm] at hr;by_cases hl:trs.length=0∨16 < trs.length
 ·rw [if_pos hl] at hr;subst hr;refine bA seat Tryz.func132 45 ?_;(iterate 6 ((all_goals(refine aa ?_));(all_goals(first | (refine ah rfl aA rfl (src (c1)) rfl rfl ?_) | (refine ah rfl aA rfl (src (c2)) rfl rfl ?_) | ((first | refine ag rfl rfl ?_ rfl ?_ | refine ad rfl ?_ ?_);all_goals(intro h;(try simp only [pl] at h);(try (exfalso;omega)))) | skip))));all_goals(refine au ?_;rfl)
 rw [if_neg hl] at hr;refine bA seat Tryz.func132 45 ?_;(iterate 6 ((all_goals(refine aa ?_));(all_goals(first | (refine ah rfl aA rfl (src (c1)) rfl rfl ?_) | (refine ah rfl aA rfl (src (c2)) rfl rfl ?_) | ((first | refine ag rfl rfl ?_ rfl ?_ | refine ad rfl ?_ ?_);all_goals(intro h;(try simp only [pl] at h);(try (exfalso;omega)))) | skip))));refine av Nat (fun k=> [(33, .int .i64 k),(32, .int .i64 trs.length),(31, .sl trs.length (trs.map lC))]) (fun _=> []) 0 (fun k=>k≤trs.length∧uq (trs.drop k)=r) (fun k=>trs.length - k) 0 ⟨a₂ _,by rw [b₈];exact hr⟩ (vm [] []) ?_;rintro k ⟨hk,hR⟩;try dsimp only
 refine aa ?_;refine ad rfl ?_ ?_ <;> intro h
 ·have hk':k < trs.length:=by have:=ot h;omega
  have hx:=h7 _ (a₅ hk');have hel:=aj.mk (ll hk');rw [b₂ hk',uq] at hR;generalize trs[k] =x at *;have d1:=sF (G:=GU) x.to_ (by have:=hx.1;omega);generalize dS x.to_=b at *;cases b with
  | false=>
   rw [if_pos rfl] at hR;subst hR;(iterate 3 ((all_goals(refine aa ?_));(all_goals(first | (refine ah rfl aA rfl (src (d1)) rfl rfl ?_) | ((first | refine ag rfl rfl ?_ rfl ?_ | refine ad rfl ?_ ?_);all_goals(intro h;(try simp only [pl] at h);(try (exfalso;omega)))) | skip))));refine au ?_;rfl
  | true=>
   rw [if_neg sm] at hR;by_cases hz:x.amt=0
   ·rw [if_pos hz] at hR;subst hR;(iterate 4 ((all_goals(refine aa ?_));(all_goals(first | (refine ah rfl aA rfl (src (d1)) rfl rfl ?_) | ((first | refine ag rfl rfl ?_ rfl ?_ | refine ad rfl ?_ ?_);all_goals(intro h;(try simp only [pl] at h);(try (exfalso;omega)))) | skip))));refine au ?_;rfl
   ·rw [if_neg hz] at hR;(iterate 4 ((all_goals(refine aa ?_));(all_goals(first | (refine ah rfl aA rfl (src (d1)) rfl rfl ?_) | ((first | refine ag rfl rfl ?_ rfl ?_ | refine ad rfl ?_ ?_);all_goals(intro h;(try simp only [pl] at h);(try (exfalso;omega)))) | skip))));exact⟨k + 1,⟨om,hR⟩,by show trs.length - (k + 1) < trs.length - k;omega,(by dsimp only;exact(vm [] []))⟩
 ·have hk':k=trs.length:=by have:=oF h;omega
  subst hk';rw [b₄,uq] at hR;subst hR;refine aa ?_;refine au ?_;rfl
theorem Fs (a b:List UInt8):aE Tryz.prog GU 130 [.sl a.length (u8s a), .sl b.length (u8s b)] (.bool (a == b)):=by
 have f1:=aj.mk (fO a);have f2:=aj.mk (fO b);refine bA seat Tryz.func130 10 ?_;refine aa ?_;refine au ?_;rfl
theorem AA (b:List UInt8) (hb:b.length≤5000):aQ Tryz.prog GU 191 [.sl b.length (u8s b)] [] 0 (lC (ig b)) [] 0:=by
 have c0:=wm (G:=GU) b om;have hfo:=eX b;generalize hr:ig b=r;unfold ig at hr;generalize aC b=t at *;obtain⟨l,at1,e⟩:=t;dsimp only at hr hfo c0;unfold lC;refine dw seat Tryz.func191 36 ?_;refine aa ?_;refine jW (c0) ?_;refine av (Nat×lh) (fun x=> [(17, .int .i64 x.1),(16, .int .i64 l.length),(15, .sl l.length (l.map bR)),(3, .ptr 1 2 0 0 []),(2, .ptr 0 2 0 0 [])]) (fun x=> [(0,⟨95,2,false,0,[.st [.str [], .int .u64 0]]⟩),(1,⟨95,2,false,0,[.st [.str x.2.to_, .int .u64 x.2.amt]]⟩)]) 2 (fun x=>x.1≤l.length∧uQ (l.drop x.1) x.2=r) (fun x=>l.length - x.1) (0,⟨[],0⟩) ⟨a₂ _,by dsimp only;rw [b₈];exact hr⟩ (by dsimp only;exact(vm [(0,_),(1,_)] [])) ?_;rintro⟨k,x⟩ ⟨hk,hR⟩;obtain⟨to_,amt⟩:=x;try dsimp only
 dsimp only at hk hR;refine aa ?_;refine ad rfl ?_ ?_ <;> intro h
 ·have hk':k < l.length:=by have:=ot h;omega
  have hel:=nf hk';rw [b₂ hk'] at hR;generalize l[k] =f at *;obtain⟨num,kind,val,bytes⟩:=f;replace hel:bF (l.map bR) l.length (k:Int)=some (.st [.int .i64 num, .int .i64 kind, .int .u64 val, .sl bytes.length (u8s bytes)]):=hel;have hel:=aj.mk hel;have hby:=aj.mk (fO bytes);rw [uQ] at hR;dsimp only at hR;by_cases g1:num=1
  ·rw [if_pos g1] at hR;subst g1;(iterate 6 ((all_goals(refine aa ?_));(all_goals(first | ((first | refine ag rfl rfl ?_ rfl ?_ | refine ad rfl ?_ ?_);all_goals(intro h;(try simp only [pl] at h);(try (exfalso;omega)))) | skip))));exact⟨(k + 1,⟨bytes,amt⟩),⟨dm,hR⟩,by show l.length - (k + 1) < l.length - k;omega,(by dsimp only;exact(vm [(0,_),(1,_)] []))⟩
  rw [if_neg g1] at hR;by_cases g2:num=2
  ·rw [if_pos g2] at hR;subst g2;(iterate 6 ((all_goals(refine aa ?_));(all_goals(first | ((first | refine ag rfl rfl ?_ rfl ?_ | refine ad rfl ?_ ?_);all_goals(intro h;(try simp only [pl] at h);(try (exfalso;omega)))) | skip))));exact⟨(k + 1,⟨to_,val⟩),⟨dm,hR⟩,by show l.length - (k + 1) < l.length - k;omega,(by dsimp only;exact(vm [(0,_),(1,_)] []))⟩
  ·rw [if_neg g2] at hR;(iterate 6 ((all_goals(refine aa ?_));(all_goals(first | ((first | refine ag rfl rfl ?_ rfl ?_ | refine ad rfl ?_ ?_);all_goals(intro h;(try simp only [pl] at h);(try (exfalso;omega)))) | skip))));exact⟨(k + 1,⟨to_,amt⟩),⟨dm,hR⟩,by show l.length - (k + 1) < l.length - k;omega,(by dsimp only;exact(vm [(0,_),(1,_)] []))⟩
 ·have hk':k=l.length:=by have:=oF h;omega
  subst hk';rw [b₄,uQ] at hR;subst hR;refine aa ?_;refine au ?_;refine⟨[_],[],[],rfl,rfl,trivial,rfl,⟨?_,trivial⟩,?_⟩
  ·exact .inl ⟨rfl,rfl⟩
  ·exact mm
theorem KT (l:List eE) (hl: ∀f∈l,iz f∧f.bytes.length≤5000) (hn:l.length≤1024):aQ Tryz.prog GU 129 [.sl l.length (l.map bR)] [] 0 (nP (gj l tx0)) [] 0:=by
 generalize hr:gj l tx0=R;refine dw seat Tryz.func129 53 ?_;refine aa ?_;refine av (Nat×je) (fun x=> [(8, .int .i64 x.1),(7, .int .i64 l.length),(6, .sl l.length (l.map bR)),(3, .ptr 1 6 0 0 []),(2, .ptr 0 6 0 0 [])]) (fun x=> [(0,⟨98,6,false,0,[.st [.str [], .int .u64 0, .int .u64 0, .int .u64 0, .str [], .nils]]⟩),(1,⟨98,6,false,0,[.st [.str x.2.sender, .int .u64 x.2.seq, .int .u64 x.2.gas, .int .u64 x.2.fee, .str x.2.memo, .ms 2 2 0 x.2.trs.length]]⟩),(2,⟨95,2,true,0,x.2.trs.map lC⟩)]) 3 (fun x=>x.1≤l.length∧x.2.trs.length≤x.1∧gj (l.drop x.1) x.2=R) (fun x=>l.length - x.1) (0,tx0) ⟨a₂ _,a₂ _,by dsimp only;rw [b₈];exact hr⟩ (by dsimp only;exact(vm [(0,_),(1,_)] [])) ?_;rintro⟨k,t⟩ ⟨hk,ht,hR⟩;obtain⟨sender,seq,gas,fee,memo,trs⟩:=t;try dsimp only
 dsimp only at hk ht hR;refine aa ?_;refine ad rfl ?_ ?_ <;> intro h
 ·have hk':k < l.length:=by have:=ot h;omega
  have hok:=hl _ (a₅ hk');have hel:=nf hk';rw [b₂ hk'] at hR;generalize l[k] =f at *;obtain⟨num,kind,val,bytes⟩:=f;replace hel:bF (l.map bR) l.length (k:Int)=some (.st [.int .i64 num, .int .i64 kind, .int .u64 val, .sl bytes.length (u8s bytes)]):=hel;have hel:=aj.mk hel;have hby:=aj.mk (fO bytes);rw [gj] at hR;dsimp only at hR hok;by_cases g1:num=1
  ·rw [if_pos g1] at hR;subst g1;(iterate 4 ((all_goals(refine aa ?_));(all_goals(first | ((first | refine ag rfl rfl ?_ rfl ?_ | refine ad rfl ?_ ?_);all_goals(intro h;(try simp only [pl] at h);(try (exfalso;omega)))) | skip))));exact⟨(k + 1,⟨bytes,seq,gas,fee,memo,trs⟩),⟨dm,dm,hR⟩,by show l.length - (k + 1) < l.length - k;omega,(by dsimp only;exact(vm [(0,_),(1,_),(2,_)] []))⟩
  rw [if_neg g1] at hR;by_cases g2:num=2
  ·rw [if_pos g2] at hR;subst g2;(iterate 6 ((all_goals(refine aa ?_));(all_goals(first | ((first | refine ag rfl rfl ?_ rfl ?_ | refine ad rfl ?_ ?_);all_goals(intro h;(try simp only [pl] at h);(try (exfalso;omega)))) | skip))));exact⟨(k + 1,⟨sender,val,gas,fee,memo,trs⟩),⟨dm,dm,hR⟩,by show l.length - (k + 1) < l.length - k;omega,(by dsimp only;exact(vm [(0,_),(1,_),(2,_)] []))⟩
  rw [if_neg g2] at hR;by_cases g3:num=3
  ·rw [if_pos g3] at hR;subst g3;(iterate 8 ((all_goals(refine aa ?_));(all_goals(first | ((first | refine ag rfl rfl ?_ rfl ?_ | refine ad rfl ?_ ?_);all_goals(intro h;(try simp only [pl] at h);(try (exfalso;omega)))) | skip))));exact⟨(k + 1,⟨sender,seq,val,fee,memo,trs⟩),⟨dm,dm,hR⟩,by show l.length - (k + 1) < l.length - k;omega,(by dsimp only;exact(vm [(0,_),(1,_),(2,_)] []))⟩
  rw [if_neg g3] at hR;by_cases g4:num=4
  ·rw [if_pos g4] at hR;subst g4;(iterate 10 ((all_goals(refine aa ?_));(all_goals(first | ((first | refine ag rfl rfl ?_ rfl ?_ | refine ad rfl ?_ ?_);all_goals(intro h;(try simp only [pl] at h);(try (exfalso;omega)))) | skip))));exact⟨(k + 1,⟨sender,seq,gas,val,memo,trs⟩),⟨dm,dm,hR⟩,by show l.length - (k + 1) < l.length - k;omega,(by dsimp only;exact(vm [(0,_),(1,_),(2,_)] []))⟩
  rw [if_neg g4] at hR;by_cases g5:num=5
  ·rw [if_pos g5] at hR;subst g5;(iterate 12 ((all_goals(refine aa ?_));(all_goals(first | ((first | refine ag rfl rfl ?_ rfl ?_ | refine ad rfl ?_ ?_);all_goals(intro h;(try simp only [pl] at h);(try (exfalso;omega)))) | skip))));exact⟨(k + 1,⟨sender,seq,gas,fee,bytes,trs⟩),⟨dm,dm,hR⟩,by show l.length - (k + 1) < l.length - k;omega,(by dsimp only;exact(vm [(0,_),(1,_),(2,_)] []))⟩
  rw [if_neg g5] at hR;by_cases g6:num=6
  ·rw [if_pos g6] at hR;subst g6;have c1:=AA bytes hok.2;generalize ig bytes=x at *;(iterate 13 ((all_goals(refine aa ?_));(all_goals(first | ((first | refine ag rfl rfl ?_ rfl ?_ | refine ad rfl ?_ ?_);all_goals(intro h;(try simp only [pl] at h);(try (exfalso;omega)))) | skip))));refine al [ae 0,ae 1,ae 2,ae 3,dj 4,ae 5,ae 6,ae 7,ae 8] ?_;refine aa ?_;refine pF (c1) ?_;refine aZ rfl (by intro R hR;refine cI hR ?_;(refine a₀ (a₄ _) ?_;refine⟨_,rfl,?_⟩;refine a₀ ⟨sm,ai (by kernel_rfl) pf⟩ ?_;refine⟨(trs ++ [x]).map lC,sv (by simp;rfl),trs.length + 1,sv pf,?_⟩);exact hR) rfl ?_;refine aa ?_;exact⟨(k + 1,⟨sender,seq,gas,fee,memo,trs ++ [x]⟩),⟨dm,by dsimp only;rw [a₁,a₈];omega,hR⟩,by show l.length - (k + 1) < l.length - k;omega,(by dsimp only;rw [a₁,a₈];exact(vm [(0,_),(1,_),(2,_)] []))⟩
  ·rw [if_neg g6] at hR;(iterate 14 ((all_goals(refine aa ?_));(all_goals(first | ((first | refine ag rfl rfl ?_ rfl ?_ | refine ad rfl ?_ ?_);all_goals(intro h;(try simp only [pl] at h);(try (exfalso;omega)))) | skip))));exact⟨(k + 1,⟨sender,seq,gas,fee,memo,trs⟩),⟨dm,dm,hR⟩,by show l.length - (k + 1) < l.length - k;omega,(by dsimp only;exact(vm [(0,_),(1,_),(2,_)] []))⟩
 ·have hk':k=l.length:=by have:=oF h;omega
  subst hk';rw [b₄,gj] at hR;subst hR;refine aa ?_;refine au ?_;refine⟨[_],[],[(2,trs.length)],rfl,rfl,?_,rfl,⟨?_,trivial⟩,?_⟩
  ·exact⟨(show trs.length≤(trs.map lC).length by simp),trivial⟩
  ·exact .inr ⟨_,rfl,lm⟩
  ·exact mm
theorem Ft (raw:List UInt8) (hraw:raw.length≤140737488355328):aQ Tryz.prog GU 86 [.sl raw.length (u8s raw)] [] 0 (.tup [nP (aS raw).1, .int .i64 (aS raw).2]) [] 0:=by
 generalize hr:aS raw=r;obtain⟨R,code⟩:=r;dsimp only;rw [Fo] at hr;by_cases h1:4096 < raw.length
 ·rw [if_pos h1] at hr;simp only [b₃] at hr;obtain⟨rfl,rfl⟩:=hr;refine dw seat Tryz.func86 38 ?_;refine aa ?_;(iterate 4 ((all_goals(refine aa ?_));(all_goals(first | ((first | refine ag rfl rfl ?_ rfl ?_ | refine ad rfl ?_ ?_);all_goals(intro h;(try simp only [pl] at h);(try (exfalso;omega)))) | skip))));all_goals(refine au ?_;exact en [_,_])
 rw [if_neg h1] at hr;have c1:=wm (G:=GU) raw om;have hf:=eX raw;have c2:=KT (aC raw).1 (fun f hm=>⟨(hf.1 f hm).1,by have:=(hf.1 f hm).2;omega⟩) hf.2;have hsm:=uS (raw:=raw) om;have c3:=Fq (G:=GU) _ hsm;have c4:=Fs (fk (gj (aC raw).1 tx0)) raw;have c5:=Ci _ hsm;clear hf hsm;generalize aC raw=F at *;obtain⟨l,at_,e⟩:=F;dsimp only at c1 c2 c3 c4 c5 hr;generalize gj l tx0=t at *;generalize fk t=fs at *;generalize dG t=vt at *;have hb:(fs == raw)=true↔fs=raw:=sm;generalize (fs == raw)=b at *;by_cases he:e=0
 ·subst he;cases b with
  | false=>
   have hne:fs≠raw:=fun e=>by have:=hb.2 e;simp at this
   rw [if_pos (by simp [hne])] at hr;simp only [b₃] at hr;obtain⟨rfl,rfl⟩:=hr;refine dw seat Tryz.func86 38 ?_;refine aa ?_;(iterate 12 ((all_goals(refine aa ?_));(all_goals(first | (refine ah rfl aA rfl (c1) rfl rfl ?_) | (refine ah rfl aA rfl (c2) rfl rfl ?_) | (refine ah rfl aA rfl (c3) rfl rfl ?_) | (refine ah rfl aA rfl (src (c4)) rfl rfl ?_) | (refine ah rfl aA rfl (src (c5)) rfl rfl ?_) | ((first | refine ag rfl rfl ?_ rfl ?_ | refine ad rfl ?_ ?_);all_goals(intro h;(try simp only [pl] at h);(try (exfalso;omega)))) | skip))));all_goals(refine au ?_;exact en [_,_])
  | true=>
   have heq:fs=raw:=hb.1 rfl;rw [if_neg (by simp [heq])] at hr;by_cases hv:vt=0
   ·subst hv;rw [if_neg sm] at hr;simp only [b₃] at hr;obtain⟨rfl,rfl⟩:=hr;refine dw seat Tryz.func86 38 ?_;refine aa ?_;(iterate 12 ((all_goals(refine aa ?_));(all_goals(first | (refine ah rfl aA rfl (c1) rfl rfl ?_) | (refine ah rfl aA rfl (c2) rfl rfl ?_) | (refine ah rfl aA rfl (c3) rfl rfl ?_) | (refine ah rfl aA rfl (src (c4)) rfl rfl ?_) | (refine ah rfl aA rfl (src (c5)) rfl rfl ?_) | ((first | refine ag rfl rfl ?_ rfl ?_ | refine ad rfl ?_ ?_);all_goals(intro h;(try simp only [pl] at h);(try (exfalso;omega)))) | skip))));all_goals(refine au ?_;exact en [_,_])
   ·rw [if_pos hv] at hr;simp only [b₃] at hr;obtain⟨rfl,rfl⟩:=hr;refine dw seat Tryz.func86 38 ?_;refine aa ?_;(iterate 12 ((all_goals(refine aa ?_));(all_goals(first | (refine ah rfl aA rfl (c1) rfl rfl ?_) | (refine ah rfl aA rfl (c2) rfl rfl ?_) | (refine ah rfl aA rfl (c3) rfl rfl ?_) | (refine ah rfl aA rfl (src (c4)) rfl rfl ?_) | (refine ah rfl aA rfl (src (c5)) rfl rfl ?_) | ((first | refine ag rfl rfl ?_ rfl ?_ | refine ad rfl ?_ ?_);all_goals(intro h;(try simp only [pl] at h);(try (exfalso;omega)))) | skip))));all_goals(refine au ?_;exact en [_,_])
 ·rw [if_pos (.inl he)] at hr;simp only [b₃] at hr;obtain⟨rfl,rfl⟩:=hr;refine dw seat Tryz.func86 38 ?_;refine aa ?_;(iterate 12 ((all_goals(refine aa ?_));(all_goals(first | (refine ah rfl aA rfl (c1) rfl rfl ?_) | (refine ah rfl aA rfl (c2) rfl rfl ?_) | (refine ah rfl aA rfl (c3) rfl rfl ?_) | (refine ah rfl aA rfl (src (c4)) rfl rfl ?_) | (refine ah rfl aA rfl (src (c5)) rfl rfl ?_) | ((first | refine ag rfl rfl ?_ rfl ?_ | refine ad rfl ?_ ?_);all_goals(intro h;(try simp only [pl] at h);(try (exfalso;omega)))) | skip))));all_goals(refine au ?_;exact en [_,_])
end
end Go.Proofs.YtohikcplmbkmeaaGreatDoor
