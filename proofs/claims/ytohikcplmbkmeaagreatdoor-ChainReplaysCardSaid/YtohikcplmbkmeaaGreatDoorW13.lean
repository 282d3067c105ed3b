/- Parts of a proof. -/
import Derived.Test.YtohikcplmbkmeaaGreatDoorW12
open And renaming intro → a₀
open List renaming mem_singleton → a₁,map_append → a₄,mem_append → a₆,getElem_mem → a₉,length_append → b₁,length_singleton → b₂,mem_cons_of_mem → b₃,length_set → b₅,mem_or_eq_of_mem_set → b₆,mem_cons_self → b₈,mem_of_mem_take → c₁,length_cons → c₃,length_take → c₄,nil_append → c₆
open Nat renaming ble → a₂,le_refl → a₃,zero_le → a₅,ble_eq → a₇,zero_add → a₈,le_of_eq → b₉,mul_le_mul_right → c₀,beq_refl → c₂
open Int renaming emod_nonneg → b₀,emod_lt_of_pos → b₇
set_option maxRecDepth 20000
set_option maxHeartbeats 16000000
set_option linter.unusedVariables false
set_option linter.unusedSimpArgs false
namespace Go.Proofs.YtohikcplmbkmeaaGreatDoor
open Go.RowKit
section
variable {G:GS}
attribute [local irreducible] ak aB aD aJ aQ vC aY aw
section
variable {T:bD} {rs:List ResultVar} {M:VM} {E:VE} {n:Nat}
theorem kB {P:MV→Nat→Prop} {L:List Int} (vs rv:List MV) (k:Nat) (bs:List (Nat×Nat)) (h1:eJ T M E rs (fun v=>v=vs)) (hm:fg 1 rv (eQ L k) 1 vs M [] bs) (hf:ek (jl rv)=true) (hP:P (jl rv) k):wk T 1 rs (fun r M n=> ∃k',(P r k'∧ek r=true)∧M=eQ L k'∧n=1) .ret E M n:=
 fL (fun v hv=>by subst hv;exact⟨jl rv,eQ L k,1,⟨k,⟨hP,hf⟩,rfl,rfl⟩,rv,[],bs,rfl,hm⟩) h1
end
structure OpC (B:Nat) (k on ob og:Int) (raw:List UInt8):Prop where
 kr:1≤k∧k≤9
 i1:cQ on
 i2:cQ ob
 i3:cQ og
 k12:k=1∨k=2→raw.length≤4096
 k3:k=3→on≤100
 ZY:k=6∨k=7→∃b0:dM,dG b0∧raw=r7 b0∧b0.hd.time≤100 * (B + 1)
abbrev NK:List MV:= [.int .i64 1, .int .i64 1, .int .i64 1, .int .i64 2, .int .i64 2, .int .i64 3, .int .i64 4, .int .i64 4, .int .i64 5, .int .i64 5, .int .i64 6, .int .i64 7, .int .i64 8, .int .i64 9, .int .i64 9]
theorem Rp {k:Nat} (hk:k < 15): ∃v:Int,bI NK 15 (k:Int)=some (.int .i64 v)∧(v=1∨v=2∨v=3∨v=4∨v=5∨v=6∨v=7∨v=8∨v=9):=by
 have h: ∀k < 15,∃v:Int,NK[k]? =some (.int .i64 v)∧(v=1∨v=2∨v=3∨v=4∨v=5∨v=6∨v=7∨v=8∨v=9):=by
  intro k hk;have:k=0∨k=1∨k=2∨k=3∨k=4∨k=5∨k=6∨k=7∨k=8∨k=9∨k=10∨k=11∨k=12∨k=13∨k=14:=om;rcases this with rfl | rfl | rfl | rfl | rfl | rfl | rfl | rfl | rfl | rfl | rfl | rfl | rfl | rfl | rfl <;> exact⟨_,rfl,by decide⟩
 obtain⟨v,h1,h2⟩:=h k hk;exact⟨v,dB hk h1,h2⟩
abbrev OpP (B N:Nat) (r:MV) (N':Nat):Prop:=N'≤N + 2000000∧∃k on ob og raw,r=uN k on ob og raw∧OpC B k on ob og raw
theorem Ef {k:Int} {p:Prop} (h1: ¬ k=1) (h2: ¬ k=2):k=1∨k=2→p:=fun h=>h.elim (fun h=>absurd h h1) (fun h=>absurd h h2)
theorem uO {k:Int} {p:Prop} (h1: ¬ k=6) (h2: ¬ k=7):k=6∨k=7→p:=fun h=>h.elim (fun h=>absurd h h1) (fun h=>absurd h h2)
theorem du {x:Int} (h1: -10000000≤x) (h2:x≤10000000):cQ x:=by unfold cQ;omega
theorem ZU [NX:Nx] {B:Nat} (L:List Int) (N:Nat) (n:qy) (hN:N < 800000000000000000) (hn:gd B n) (hB:B≤900):tC G L 103 [numP,lP n] N (OpP B N):=by
 obtain⟨m,hm,cm⟩:=bu (G:=G) L N 15 om om om;obtain⟨v,hv,tU⟩:=Rp hm;have hv:=aj.mk hv;have R8:=hn.st.ents;have Ev:=hn.st.entk;unfold tC;refine seq' seat Tryz.func103 92 ?_;refine aa ?_;refine yc (cm) [(0,0)] ?_;refine qg ([(9, .sl 15 NK),(13, .int .i64 m),(3, .ptr 1 259 0 0 []),(4, .ptr 2 5 0 0 []),(0,numP)]) (eQ L (N + 1) ++ [(1,⟨120,259,false,0,[lP n]⟩),(2,⟨160,5,false,0,[.st [.int .i64 0, .int .i64 0, .int .i64 0, .int .i64 0, .nils]]⟩)]) [(3,15)] mm rfl mm mm ?_;rcases tU with rfl | rfl | rfl | rfl | rfl | rfl | rfl | rfl | rfl
 ·have cR:=Mi (G:=G) L (N + 1) n.st.app.chk n.st.cfg.price om hn.st.app.2.1 hn.st.cfg.price;have hR:=vg (L:=L) (N:=N + 1) (price:=n.st.cfg.price) hn.st.app.2.1.2.2;generalize jT L (N + 1) n.st.app.chk.acs n.st.cfg.price=R1 at *;obtain⟨raw,K1⟩:=R1;dsimp only at cR hR;obtain⟨m6,hm6,c6⟩:=bu (G:=G) L K1 6 om om om;refine aa ?_;refine yc (cR) [(0,0)] ?_;refine aa ?_;refine ag rfl rfl ?_ rfl ?_ <;> intro h
  ·have Ks:0 < n.st.ents.length:=by have:=ot h;omega
   obtain⟨mk,XD,ck⟩:=bu (G:=G) L (K1 + 1) n.st.ents.length Ks om om;have aH:=fu XD;have Ga:=(Ev _ (a₉ XD)).raw;generalize n.st.ents[mk] =e at *;have aH:=aj.mk aH;refine aa ?_;refine yc (c6) [(0,0)] ?_;refine aa ?_;refine ad rfl ?_ ?_ <;> intro h
   ·obtain⟨m3,OG,c3⟩:=bu (G:=G) L (K1 + 1 + 1) 3 om om om;refine aa ?_;refine al [ae 0,ae 1,ae 2,ae 3,ae 4,dF 5,ae 6,ae 7,ae 8,ae 9,ae 10] ?_;refine aa ?_;refine de rfl aA rfl [0] (ck) [(0,0)] [] ⟨rfl,trivial,rfl,lm,mm⟩ rfl rfl rfl rfl ?_;refine aa ?_;refine yc (c3) [(0,0)] ?_;refine aa ?_;refine kB [_] [uN 1 (1 + (m3:Int)) 0 0 e.raw] (K1 + 1 + 1 + 1) [] (by exact rvq) ⟨rfl,trivial,rfl,lm,mm⟩ (by kernel_rfl) ⟨om,_,_,_,_,_,rfl,⟨⟨by decide,by decide⟩,du om om,du (by decide) (by decide),du (by decide) (by decide),fun _=>Ga,fun h=>absurd h (by decide),uO (by decide) (by decide)⟩⟩
   ·obtain⟨m3,OG,c3⟩:=bu (G:=G) L (K1 + 1) 3 om om om;refine aa ?_;refine yc (c3) [(0,0)] ?_;refine aa ?_;refine kB [_] [uN 1 (1 + (m3:Int)) 0 0 raw] (K1 + 1 + 1) [] (by exact rvq) ⟨rfl,trivial,rfl,lm,mm⟩ (by kernel_rfl) ⟨om,_,_,_,_,_,rfl,⟨⟨by decide,by decide⟩,du om om,du (by decide) (by decide),du (by decide) (by decide),fun _=>hR.1,fun h=>absurd h (by decide),uO (by decide) (by decide)⟩⟩
  ·obtain⟨m3,OG,c3⟩:=bu (G:=G) L K1 3 om om om;refine aa ?_;refine yc (c3) [(0,0)] ?_;refine aa ?_;refine kB [_] [uN 1 (1 + (m3:Int)) 0 0 raw] (K1 + 1) [] (by exact rvq) ⟨rfl,trivial,rfl,lm,mm⟩ (by kernel_rfl) ⟨om,_,_,_,_,_,rfl,⟨⟨by decide,by decide⟩,du om om,du (by decide) (by decide),du (by decide) (by decide),fun _=>hR.1,fun h=>absurd h (by decide),uO (by decide) (by decide)⟩⟩
 ·have cR:=Mi (G:=G) L (N + 1) n.st.app.chk n.st.cfg.price om hn.st.app.2.1 hn.st.cfg.price;have hR:=vg (L:=L) (N:=N + 1) (price:=n.st.cfg.price) hn.st.app.2.1.2.2;generalize jT L (N + 1) n.st.app.chk.acs n.st.cfg.price=R1 at *;obtain⟨raw,K1⟩:=R1;dsimp only at cR hR;obtain⟨m6,hm6,c6⟩:=bu (G:=G) L K1 6 om om om;refine aa ?_;refine yc (cR) [(0,0)] ?_;refine aa ?_;refine ag rfl rfl ?_ rfl ?_ <;> intro h
  ·have Ks:0 < n.st.ents.length:=by have:=ot h;omega
   obtain⟨mk,XD,ck⟩:=bu (G:=G) L (K1 + 1) n.st.ents.length Ks om om;have aH:=fu XD;have Ga:=(Ev _ (a₉ XD)).raw;generalize n.st.ents[mk] =e at *;have aH:=aj.mk aH;refine aa ?_;refine yc (c6) [(0,0)] ?_;refine aa ?_;refine ad rfl ?_ ?_ <;> intro h
   ·obtain⟨m3,OG,c3⟩:=bu (G:=G) L (K1 + 1 + 1) 3 om om om;refine aa ?_;refine al [ae 0,ae 1,ae 2,ae 3,ae 4,dF 5,ae 6,ae 7,ae 8,ae 9,ae 10] ?_;refine aa ?_;refine de rfl aA rfl [0] (ck) [(0,0)] [] ⟨rfl,trivial,rfl,lm,mm⟩ rfl rfl rfl rfl ?_;refine aa ?_;refine yc (c3) [(0,0)] ?_;refine aa ?_;refine kB [_] [uN 2 (1 + (m3:Int)) 0 0 e.raw] (K1 + 1 + 1 + 1) [] (by exact rvq) ⟨rfl,trivial,rfl,lm,mm⟩ (by kernel_rfl) ⟨om,_,_,_,_,_,rfl,⟨⟨by decide,by decide⟩,du om om,du (by decide) (by decide),du (by decide) (by decide),fun _=>Ga,fun h=>absurd h (by decide),uO (by decide) (by decide)⟩⟩
   ·obtain⟨m3,OG,c3⟩:=bu (G:=G) L (K1 + 1) 3 om om om;refine aa ?_;refine yc (c3) [(0,0)] ?_;refine aa ?_;refine kB [_] [uN 2 (1 + (m3:Int)) 0 0 raw] (K1 + 1 + 1) [] (by exact rvq) ⟨rfl,trivial,rfl,lm,mm⟩ (by kernel_rfl) ⟨om,_,_,_,_,_,rfl,⟨⟨by decide,by decide⟩,du om om,du (by decide) (by decide),du (by decide) (by decide),fun _=>hR.1,fun h=>absurd h (by decide),uO (by decide) (by decide)⟩⟩
  ·obtain⟨m3,OG,c3⟩:=bu (G:=G) L K1 3 om om om;refine aa ?_;refine yc (c3) [(0,0)] ?_;refine aa ?_;refine kB [_] [uN 2 (1 + (m3:Int)) 0 0 raw] (K1 + 1) [] (by exact rvq) ⟨rfl,trivial,rfl,lm,mm⟩ (by kernel_rfl) ⟨om,_,_,_,_,_,rfl,⟨⟨by decide,by decide⟩,du om om,du (by decide) (by decide),du (by decide) (by decide),fun _=>hR.1,fun h=>absurd h (by decide),uO (by decide) (by decide)⟩⟩
 ·obtain⟨m9,hm9,c9⟩:=bu (G:=G) L (N + 1) 9 om om om;refine aa ?_;refine yc (c9) [(0,0)] ?_;refine aa ?_;refine kB [_] [uN 3 (1 + (m9:Int)) 0 0 []] (N + 1 + 1) [] (by exact rvq) ⟨rfl,trivial,rfl,lm,mm⟩ (by kernel_rfl) ⟨om,_,_,_,_,_,rfl,⟨⟨by decide,by decide⟩,du om om,du (by decide) (by decide),du (by decide) (by decide),Ef (by decide) (by decide),fun _=>by omega,uO (by decide) (by decide)⟩⟩
 ·obtain⟨ma,hma,ca⟩:=bu (G:=G) L (N + 1) 700 om om om;obtain⟨mb,hmb,cb⟩:=bu (G:=G) L (N + 1 + 1) 1500 om om om;obtain⟨mc,hmc,cc⟩:=bu (G:=G) L (N + 1 + 1 + 1) 2 om om om;refine aa ?_;refine yc (ca) [(0,0)] ?_;refine aa ?_;refine yc (cb) [(0,0)] ?_;refine aa ?_;refine yc (cc) [(0,0)] ?_;refine aa ?_;refine ad rfl ?_ ?_ <;> intro h
  ·refine aa ?_;refine kB [_] [uN 4 0 1048576 (-1) []] (N + 1 + 1 + 1 + 1) [] (by exact rvq) ⟨rfl,trivial,rfl,lm,mm⟩ (by kernel_rfl) ⟨om,_,_,_,_,_,rfl,⟨⟨by decide,by decide⟩,du (by decide) (by decide),du (by decide) (by decide),du (by decide) (by decide),Ef (by decide) (by decide),fun h=>absurd h (by decide),uO (by decide) (by decide)⟩⟩
  ·refine aa ?_;refine kB [_] [uN 4 0 (ma:Int) ((mb:Int) - 1) []] (N + 1 + 1 + 1 + 1) [] (by exact rvq) ⟨rfl,trivial,rfl,lm,mm⟩ (by kernel_rfl) ⟨om,_,_,_,_,_,rfl,⟨⟨by decide,by decide⟩,du (by decide) (by decide),du om om,du om om,Ef (by decide) (by decide),fun h=>absurd h (by decide),uO (by decide) (by decide)⟩⟩
 ·refine aa ?_;refine kB [_] [uN 5 0 0 0 []] (N + 1) [] (by exact rvq) ⟨rfl,trivial,rfl,lm,mm⟩ (by kernel_rfl) ⟨om,_,_,_,_,_,rfl,⟨⟨by decide,by decide⟩,du (by decide) (by decide),du (by decide) (by decide),du (by decide) (by decide),Ef (by decide) (by decide),fun h=>absurd h (by decide),uO (by decide) (by decide)⟩⟩
 ·have cF:=uB (G:=G) L (N + 1) n om hn hB;refine aa ?_;refine lI rfl aA rfl (cF) rfl 0 [] ⟨rfl,trivial,rfl,lm,mm⟩ rfl ?_;rintro _ K1 ⟨hK1,b0,YN,rfl,sB⟩;refine aa ?_;refine kB [_] [uN 6 0 0 0 (r7 b0)] (K1) [] (by exact rvq) ⟨rfl,trivial,rfl,lm,mm⟩ (by kernel_rfl) ⟨om,_,_,_,_,_,rfl,⟨⟨by decide,by decide⟩,du (by decide) (by decide),du (by decide) (by decide),du (by decide) (by decide),Ef (by decide) (by decide),fun h=>absurd h (by decide),fun _=>⟨b0,YN,rfl,sB⟩⟩⟩
 ·have cF:=uB (G:=G) L (N + 1) n om hn hB;refine aa ?_;refine lI rfl aA rfl (cF) rfl 0 [] ⟨rfl,trivial,rfl,lm,mm⟩ rfl ?_;rintro _ K1 ⟨hK1,b0,YN,rfl,sB⟩;refine aa ?_;refine kB [_] [uN 7 0 0 0 (r7 b0)] (K1) [] (by exact rvq) ⟨rfl,trivial,rfl,lm,mm⟩ (by kernel_rfl) ⟨om,_,_,_,_,_,rfl,⟨⟨by decide,by decide⟩,du (by decide) (by decide),du (by decide) (by decide),du (by decide) (by decide),Ef (by decide) (by decide),fun h=>absurd h (by decide),fun _=>⟨b0,YN,rfl,sB⟩⟩⟩
 ·refine aa ?_;refine kB [_] [uN 8 0 0 0 []] (N + 1) [] (by exact rvq) ⟨rfl,trivial,rfl,lm,mm⟩ (by kernel_rfl) ⟨om,_,_,_,_,_,rfl,⟨⟨by decide,by decide⟩,du (by decide) (by decide),du (by decide) (by decide),du (by decide) (by decide),Ef (by decide) (by decide),fun h=>absurd h (by decide),uO (by decide) (by decide)⟩⟩
 ·obtain⟨m9,hm9,c9⟩:=bu (G:=G) L (N + 1) 3 om om om;refine aa ?_;refine yc (c9) [(0,0)] ?_;refine aa ?_;refine kB [_] [uN 9 (1 + (m9:Int)) 0 0 []] (N + 1 + 1) [] (by exact rvq) ⟨rfl,trivial,rfl,lm,mm⟩ (by kernel_rfl) ⟨om,_,_,_,_,_,rfl,⟨⟨by decide,by decide⟩,du om om,du (by decide) (by decide),du (by decide) (by decide),Ef (by decide) (by decide),fun h=>absurd h (by decide),uO (by decide) (by decide)⟩⟩
end
section
theorem J3 (a:bd) (m:List bd):xz (a :: m)=a.bal + xz m:=by simp [xz]
end
section
variable {G:GS}
attribute [local irreducible] ak aB aD aJ aQ vC aY aw
def Vy:Nat→List UInt8
 | 0=> [97,110,110]
 | 1=> [98,111,98]
 | 2=> [101,118,101]
 | _=> [122,111,101]
theorem Rq {k:Nat} (hk:k < 4): ∃nm:List UInt8,cE [MV.str [97,110,110],MV.str [98,111,98],MV.str [101,118,101],MV.str [122,111,101]] (0 + k)=some (.str nm)∧nm.length≤5∧nm=Vy k:=by
 have h4:k=0∨k=1∨k=2∨k=3:=om;rcases h4 with rfl | rfl | rfl | rfl <;> exact⟨_,rfl,by decide,rfl⟩
theorem Ru {k:Nat} (hk:k < 5): ∃v:Nat,cE [MV.int .u64 100000,MV.int .u64 5000,MV.int .u64 700,MV.int .u64 0,MV.int .u64 1099511627776] (0 + k)=some (.int .u64 (v:Int))∧bm v∧v≤1099511627776:=by
 have h5:k=0∨k=1∨k=2∨k=3∨k=4:=om;rcases h5 with rfl | rfl | rfl | rfl | rfl
 ·exact⟨100000,rfl,by decide,by decide⟩
 ·exact⟨5000,rfl,by decide,by decide⟩
 ·exact⟨700,rfl,by decide,by decide⟩
 ·exact⟨0,rfl,by decide,by decide⟩
 ·exact⟨1099511627776,rfl,by decide,by decide⟩
theorem Rv {i k:Nat} (hi:i < 4) (hk:k < 4) (h:Vy i=Vy k):i=k:=by
 have h4:i=0∨i=1∨i=2∨i=3:=om;have k4:k=0∨k=1∨k=2∨k=3:=om;rcases h4 with rfl | rfl | rfl | rfl <;> rcases k4 with rfl | rfl | rfl | rfl <;> first | rfl | exact absurd h (by decide)
theorem Ur {k:Nat} (hk:k < 4):eD (Vy k)=true:=by
 have k4:k=0∨k=1∨k=2∨k=3:=om;rcases k4 with rfl | rfl | rfl | rfl <;> decide
structure OD (j:Nat) (acs:List bd):Prop where
 nm: ∀a∈acs,∃k,j≤k∧k < 4∧a.name=Vy k
 ne:acs.Pairwise fun a b=>a.name≠b.name
 bal: ∀a∈acs,a.bal≤1099511627776
theorem OD.push {i:Nat} {acs:List bd} {nm:List UInt8} {b s:Nat} (h:OD (i + 1) acs) (hn:nm=Vy i) (hb:b≤1099511627776) (hi:i < 4):OD i (acs ++ [⟨nm,b,s⟩]):=by
 subst hn;refine⟨fun a ha=>?_,List.pairwise_append.2 ⟨h.ne,List.pairwise_singleton _ _,fun a ha c hc e=>?_⟩,fun a ha=>?_⟩
 ·rcases a₆.1 ha with ha | ha
  ·obtain⟨k,h1,h2,h3⟩:=h.nm a ha;exact⟨k,om,h2,h3⟩
  ·rw [a₁.1 ha];exact⟨i,a₃ _,hi,rfl⟩
 ·obtain⟨k,h1,h2,h3⟩:=h.nm a ha;rw [a₁.1 hc,h3] at e;have:=Rv h2 hi e;omega
 ·rcases a₆.1 ha with ha | ha
  ·exact h.bal a ha
  ·rw [a₁.1 ha];exact hb
theorem OD.mono {j:Nat} {acs:List bd} (h:OD j acs):OD 0 acs:=⟨fun a ha=>by obtain⟨k,_,h2,h3⟩:=h.nm a ha;exact⟨k,a₅ _,h2,h3⟩,h.ne,h.bal⟩
theorem HX: ∀(r:List bd) (ks:List (List UInt8)),(∀a∈r,eD a.name=true)→r.Pairwise (fun a b=>a.name≠b.name)→(∀a∈r,a.name ∉ ks)→uM r ks=0
 | [],_,_,_,_=>rfl
 | a :: r,ks,h1,h2,h3=>by
  have hp:=List.pairwise_cons.1 h2
  rw [uM,if_neg (by rw [h1 a (b₈ ..)];simp),if_neg (h3 a (b₈ ..))]
  refine HX r _ (fun b hb=>h1 b (b₃ _ hb)) hp.2 fun b hb hm=>?_
  rcases a₆.1 hm with hm | hm
  ·exact h3 b (b₃ _ hb) hm
  ·exact hp.1 b hb (a₁.1 hm).symm
theorem HY: ∀(l:List bd) (B:Nat),(∀a∈l,a.bal≤B)→xz l≤l.length * B
 | [],_,_=>a₅ _
 | a :: r,B,h=>by
  have:=HY r B fun x hx=>h x (b₃ _ hx)
  have:=h a (b₈ ..)
  rw [J3,c₃,Nat.succ_mul]
  omega
theorem Rw {acs:List bd} (h:OD 0 acs) (hl:acs.length≤4):(kD acs).2=0:=by
 have h1:(jR acs []).2=0:=by
  rw [FY acs [] [] List.Pairwise.nil (fun nm=>by simp [bE])];exact HX acs [] (fun a ha=>by obtain⟨k,_,h2,h3⟩:=h.nm a ha;rw [h3];exact Ur h2) h.ne sm
 have h2:=FZ acs [] List.Pairwise.nil h1;have hb:=HY acs 1099511627776 h.bal;have hm:acs.length * 1099511627776≤4 * 1099511627776:=c₀ _ hl;have h3:(totS (jR acs []).1 0).2=true:=by
  rw [zI (m:=acs) (by simpa using h2.2)];exact(Bi acs 0).2 (.inr om)
 unfold kD;rw [if_neg om,if_neg (by rw [h1];simp),if_neg (by rw [h3];simp)]
theorem NL {acs:List bd} {p:Nat} (h:OD 0 acs) (hl:acs.length≤4):(bN acs p).2=0:=by
 unfold bN;rw [if_neg (by rw [Rw h hl];simp)]
theorem Eg (L:List Int) (N:Nat) (hN:N < 4000000000000000000):tC G L 13 [numP] N fun r N'=> ∃acs:List bd,acs.length≤4∧(∀a∈acs,SmAc a)∧OD 0 acs∧N'≤N + 14∧r= .sl acs.length (acs.map aV):=by
 obtain⟨m,hm,cm⟩:=bu (G:=G) L N 4 om om om;unfold tC;refine seq' seat Tryz.func13 36 ?_;refine aa ?_;refine yc (cm) [(0,0)] ?_;refine aa ?_;refine av (Nat×Nat×List bd) (fun x=> [(4, .int .i64 ((x.1:Int) - 1)),(3, .ms 1 3 0 x.2.2.length),(0,numP)]) (fun x=>eQ L x.2.1 ++ [(1,⟨91,3,true,0,x.2.2.map aV⟩)]) 2 (fun x=>x.1 + x.2.2.length≤4∧x.2.1 + 3 * x.1≤N + 14∧(∀a∈x.2.2,SmAc a)∧OD x.1 x.2.2) (fun x=>x.1) (m + 1,N + 1,[]) ⟨by simp;omega,dm,sm,⟨sm,List.Pairwise.nil,sm⟩⟩ (by dsimp only;exact vm [] []) ?_;rintro⟨j,K,acs⟩ ⟨h1,h2,h3,h4⟩;try dsimp only
 dsimp only at h1 h2 h3 h4;refine aa ?_;refine ad rfl ?_ ?_ <;> intro h
 ·have hj:1≤j:=by have:=ot h;omega
  obtain⟨i,rfl⟩: ∃i,j=i + 1:=⟨j - 1,om⟩
  have zV:((i + 1:Nat):Int) - 1=(i:Int):=om;rw [zV];obtain⟨nm,f1,g1,gn⟩:=Rq (k:=i) om;obtain⟨x5,VB,c5⟩:=bu (G:=G) L K 5 om om om;obtain⟨bal,f2,g2,gb⟩:=Ru (k:=x5) VB;obtain⟨x6,hx6,c6⟩:=bu (G:=G) L (K + 1) 6 om om om;obtain⟨x3,SG,c3⟩:=bu (G:=G) L (K + 1 + 1) 3 om om om;obtain⟨sq,f3,g3⟩:=Mk (k:=x3) SG;have f1:=aj.mk f1;have f2:=aj.mk f2;have f3:=aj.mk f3;have i1:=aj.mk (cI (n:=4) (k:=i) om);have i2:=aj.mk (cI VB);have i3:=aj.mk (cI SG);have ni:(acs.map aV).length=acs.length:=sm;refine aa ?_;refine al [ae 0,ae 1,ae 2,ae 3,ae 4,ae 5,dF 6,ae 7,ae 8,ae 9,ae 10,ae 11] ?_;refine aa ?_;refine de rfl aA rfl [0] (c5) [(0,0)] [] ⟨rfl,trivial,rfl,lm,mm⟩ rfl rfl rfl rfl ?_;refine aa ?_;refine yc (c6) [(0,0)] ?_;refine aa ?_;refine ad rfl ?_ ?_ <;> intro h
  ·refine aa ?_;refine yc (c3) [(0,0)] ?_;refine aa ?_;refine aO rfl rfl (by intro R hR;refine da hR ?_;(refine a₀ (a₃ _) ?_;refine⟨_,rfl,?_⟩;refine a₀ ⟨ni,ai (by kernel_rfl) pf⟩ ?_;refine⟨(acs ++ [(⟨nm,bal,sq⟩:bd)]).map aV,sv (by rw [a₄];rfl),acs.length + 1,sv pf,?_⟩);exact hR) rfl ?_;refine aa ?_;exact⟨(i,K + 1 + 1 + 1,acs ++ [⟨nm,bal,sq⟩]),⟨by dsimp only;rw [b₁,b₂];omega,dm,fa h3 fun a ha=>by rw [a₁.1 ha];exact⟨dm,g2,g3⟩,h4.push gn gb om⟩,dm,(by dsimp only;rw [b₁,b₂];exact(vm [(1,_)] []))⟩
  ·refine aa ?_;refine aO rfl rfl (by intro R hR;refine da hR ?_;(refine a₀ (a₃ _) ?_;refine⟨_,rfl,?_⟩;refine a₀ ⟨ni,ai (by kernel_rfl) pf⟩ ?_;refine⟨(acs ++ [(⟨nm,bal,0⟩:bd)]).map aV,sv (by rw [a₄];rfl),acs.length + 1,sv pf,?_⟩);exact hR) rfl ?_;refine aa ?_;exact⟨(i,K + 1 + 1,acs ++ [⟨nm,bal,0⟩]),⟨by dsimp only;rw [b₁,b₂];omega,dm,fa h3 fun a ha=>by rw [a₁.1 ha];exact⟨dm,g2,by simp [bm]⟩,h4.push gn gb om⟩,dm,(by dsimp only;rw [b₁,b₂];exact(vm [(1,_)] []))⟩
 ·refine aa ?_;refine⟨_,_,_,⟨K,⟨⟨acs,om,h3,h4.mono,om,rfl⟩,rfl⟩,rfl,rfl⟩,?_⟩;refine⟨[_],[],[(1,acs.length)],rfl,rfl,?_,rfl,⟨?_,trivial⟩,?_⟩
  ·exact⟨by show acs.length≤(acs.map aV).length;simp,trivial⟩
  ·exact .inr ⟨rfl,rfl,rfl,b₉ (a₈ _),bc aV acs⟩
  ·exact mm
theorem ZV [NX:Nx] {B:Nat} (n:qy) (k on ob og:Int) (raw:List UInt8) (hn:gd B n) (hB:B≤800) (ho:OpC B k on ob og raw):cY Tryz.prog G 104 [lP n,uN k on ob og raw] (ND (B + 1)):=by
 obtain⟨kr,i1,i2,i3,k12,k3,ZY⟩:=ho;have h:k=1∨k=2∨k=3∨k=4∨k=5∨k=6∨k=7∨k=8∨k=9:=om;rcases h with rfl | rfl | rfl | rfl | rfl | rfl | rfl | rfl | rfl
 ·exact Wt n on ob og raw hn om (k12 (.inl rfl))
 ·exact Wu n on ob og raw hn om (k12 (.inr rfl))
 ·exact Wv n on ob og raw hn om ⟨i1.1,k3 rfl⟩
 ·exact Ww n on ob og raw hn om i2 i3
 ·exact Wx n on ob og raw hn om
 ·obtain⟨b0,h1,h2,h3⟩:=ZY (.inl rfl);exact Wy n on ob og raw hn om b0 h1 h2
 ·obtain⟨b0,h1,h2,h3⟩:=ZY (.inr rfl);exact Wz n on ob og raw hn om b0 h1 h2 h3
 ·exact WG n on ob og raw hn om
 ·exact WH n on ob og raw hn om
structure WM (n:qy):Prop where
 app:fB n.st.app
 tip:ju n.tip
 th:0≤n.tip.height∧n.tip.height≤1000
 tt:0≤n.tip.time∧n.tip.time≤100000
 st:0≤n.st.time∧n.st.time≤100000
 bb:cQ n.st.cfg.blkB
theorem WM.of [NX:Nx] {B:Nat} {n:qy} (h:gd B n) (hB:B≤100):WM n:=by
 have h1:=h.th;have h2:=h.tt;have h3:=h.st.time;have h4:=h.st.cfg.blkB;exact⟨h.st.app,h.tip,om,om,om,by unfold cQ;omega⟩
def PlR (acs:List bd) (n:qy):Prop:= ∃NX:Nx,NX.c=n.st.cfg∧NX.acs=acs∧A6 NX.c∧(bN NX.acs NX.c.price).2=0∧gd 100 n
abbrev PlP (N:Nat) (r:MV) (N':Nat):Prop:=N'≤N + 100000000∧∃(n:qy) (acs:List bd) (ops:Nat×List MV),r= .tup [lP n, .sl acs.length (acs.map aV), .sl ops.1 ops.2] ∧WM n∧acs.length≤4∧(∀a∈acs,SmAc a)∧PlR acs n
theorem NM (L:List Int) (N m:Nat) (hm:m≤20) (hN:N < 100000000000000000):tC G L 61 [numP, .int .i64 m] N (PlP N):=by
 unfold tC;refine seq' seat Tryz.func61 52 ?_;refine aa ?_;refine lI rfl aA rfl (Ml (G:=G) L N om) rfl 0 [] ⟨rfl,trivial,rfl,lm,mm⟩ rfl ?_;rintro _ K1 ⟨c,hc,hK1,rfl⟩;refine aa ?_;refine lI rfl aA rfl (Eg (G:=G) L K1 om) rfl 0 [] ⟨rfl,trivial,rfl,lm,mm⟩ rfl ?_;rintro _ K2 ⟨acs,ha,eP,R7,Eo,rfl⟩;obtain⟨NX,rfl,rfl⟩: ∃NX:Nx,NX.c=c∧NX.acs=acs:=⟨⟨c,acs⟩,rfl,rfl⟩
 have Oy:=NL (p:=NX.c.price) R7 ha;have hvc:=Dn (G:=G) NX.c;rw [xh hc] at hvc;have cN:=Wn (G:=G) hc hvc om eP Oy;clear hvc R7;refine aa ?_;refine aP (cN) rfl rfl aA (by kernel_rfl) ?_;rintro _ ⟨n,rfl,uD⟩;refine aa ?_;obtain⟨x0,U2,cx⟩:=bu (G:=G) L K2 (m + 1) om om om;refine aa ?_;refine yc (cx) [(0,0)] ?_;refine aa ?_;refine av (Nat×Nat×qy×List YX) (fun x=> [(12, .int .i64 x.1),(11, .ms 3 5 0 x.2.2.2.length),(9, .ptr 2 259 0 0 []),(8, .sl NX.acs.length (NX.acs.map aV)),(4, .ptr 1 259 0 0 []),(0,numP)]) (fun x=>eQ L x.2.1 ++ [(1,⟨120,259,false,0,[QM]⟩),(2,⟨120,259,false,0,[lP x.2.2.1]⟩),(3,⟨160,5,true,0,x.2.2.2.map Vx⟩)]) 4
  (fun x=>x.1≤m∧x.2.1 + 2000000 * x.1≤N + 50000000∧gd (m - x.1) x.2.2.1∧x.2.2.2.length≤100 - x.1) (fun x=>x.1) (x0,K2 + 1,n,[]) ⟨dm,dm,uD.mono (a₅ _),a₅ _⟩ (by dsimp only;exact vm [(1,_),(2,_)] []) ?_
 clear uD cN cx;rintro⟨i,K,n,W⟩ ⟨h1,h2,h3,h4⟩;try dsimp only
 dsimp only at h1 h2 h3 h4;refine aa ?_;refine ad rfl ?_ ?_ <;> intro h
 ·have hi:0 < i:=by have:=ot h;omega
  obtain⟨j,rfl⟩: ∃j,i=j + 1:=⟨i - 1,om⟩
  refine aa ?_;refine lI rfl aA rfl (ZU (G:=G) L K n om h3 om) rfl 0 [] ⟨rfl,trivial,rfl,lm,mm⟩ rfl ?_;rintro _ K' ⟨hK',k,on,ob,og,raw,rfl,hoc⟩;obtain⟨W2,uR⟩: ∃W2,W2=W ++ [(⟨k,on,ob,og,raw⟩:YX)] :=⟨_,rfl⟩
  have J5:W2.length=W.length + 1:=by rw [uR];simp
  have cD:=ZV (G:=G) n k on ob og raw h3 om hoc;rw [show m - (j + 1) + 1=m - j by omega] at cD;refine aa ?_;refine aO rfl rfl (by intro R hR;refine da hR ?_;(refine a₀ (a₃ _) ?_;refine⟨_,rfl,?_⟩;refine a₀ ⟨sm,ai (by kernel_rfl) pf⟩ ?_;refine⟨W2.map Vx,sv (by rw [uR,a₄];rfl),W2.length,sv pf,?_⟩);exact hR) rfl ?_;refine aa ?_;refine aP (cD) rfl rfl aA (by kernel_rfl) ?_;rintro _ ⟨n2,rp,rfl,im⟩;refine aa ?_;exact⟨(j,K',n2,W2),⟨dm,dm,im,dm⟩,dm,(by dsimp only;exact vm [(1,_),(2,_),(3,_)] [])⟩
 ·refine aa ?_;refine kB [_,_,_] [lP n, .sl NX.acs.length (NX.acs.map aV), .sl W.length (W.map Vx)] K [(3,W.length)] (by(refine au ?_);exact rfl) ⟨rfl,⟨by show W.length≤(W.map Vx).length;simp,trivial⟩,rfl,lm,mm⟩ (by kernel_rfl) ⟨om,n,NX.acs,(W.length,W.map Vx),rfl,WM.of h3 om,ha,eP,NX,h3.st.fx.1.symm,rfl,hc,Oy,h3.mono om⟩
abbrev ScP (L:List Int) (r:MV) (M:VM) (k:Nat):Prop:= ∃(N:Nat) (n:qy) (acs:List bd) (bl:Nat×List MV),N≤100000000∧r= .tup [fH n.tip, .sl bl.1 bl.2,cfM n.st.cfg, .sl acs.length (acs.map aV),il n.st,numP] ∧M=eQ L N∧k=1∧WM n∧acs.length≤4∧(∀a∈acs,SmAc a)∧PlR acs n∧bl=(n.blocks.length,n.blocks.map blkM)
section
variable {T:bD} {rs:List ResultVar} {M:VM} {E:VE} {n:Nat}
theorem WS {Φ:MV→VM→Nat→Prop} (vs rv:List MV) (M1:VM) (n1:Nat) (σ bs:List (Nat×Nat)) (h1:eJ T M E rs (fun v=>v=vs)) (hm:fg 0 rv M1 n1 vs M σ bs) (hΦ:Φ (jl rv) M1 n1):wk T 0 rs Φ .ret E M n:=
 fL (fun v hv=>by subst hv;exact⟨jl rv,M1,n1,hΦ,rv,σ,bs,rfl,hm⟩) h1
end
theorem Rx (L:List Int):vQ Tryz.prog G 39 [jm L] [] 0 (ScP L):=by
 refine seq' seat Tryz.func39 31 ?_;refine aa ?_;refine yc (TE (G:=G) L) [] ?_;refine aa ?_;refine lI rfl aA rfl (NM (G:=G) L 0 14 om om) rfl 7 [] ⟨rfl,trivial,rfl,lm,mm⟩ rfl ?_;rintro _ N1 ⟨hN1,n,acs,ops,rfl,hw,ha,eP,zQ⟩;refine aa ?_;refine al [ae 0,ae 1,ae 2,ae 3,ae 4,ae 5,ae 6,ae 7,ae 8,ae 9,ae 10,ae 11,ae 12,ae 13,ae 14,ae 15,ae 16] ?_;refine aa ?_;refine WS [_,_,_,_,_,_] [fH n.tip, .sl n.blocks.length (n.blocks.map blkM),cfM n.st.cfg, .sl acs.length (acs.map aV),il n.st,numP] (eQ L N1) 1 [(0,7)] [] (by(refine au ?_);exact rfl) ⟨rfl,trivial,rfl,lm,mm⟩ ⟨N1,n,acs,(n.blocks.length,n.blocks.map blkM),om,rfl,rfl,rfl,hw,ha,eP,zQ,rfl⟩
end
section
theorem NN:eL [[1]] ≠eL [[2]] :=by decide +kernel
def Kl:eh:=⟨[⟨[97,110,110],9,0⟩],0⟩
def bK (t:eR):dM:=iF t 0 1 [[1]]
theorem WT {t:eR} (h1:t.height=0) (h2:t.time=0):gQ t (bK t) 3 100=0:=by
 unfold gQ bK iF;dsimp only;rw [h1,h2];have hw:sumB [[1]] =3:=by decide +kernel
 simp [hw]
theorem WW {t:eR} (h1:t.height=0) (h2:t.time=0):gQ t (bK t) 1 100=36:=by
 unfold gQ bK iF;dsimp only;rw [h1,h2];simp
theorem W0 {t:eR} (h1:t.height=0) (h2:t.time=0):gQ t ⟨(bK t).hd,[[2]]⟩ 3 100=35:=by
 have:=NN;unfold gQ bK iF;dsimp only;rw [h1,h2];simp [this]
theorem Xa {t:eR} (h1:t.height=0) (h2:t.time=0):gQ t (bK t) 3 2=3:=by
 unfold gQ bK iF;dsimp only;rw [h1,h2];have hw:sumB [[1]] =3:=by decide +kernel
 simp [hw]
theorem Xb {t u:eR} (h1:t.height=0) (hu:u.height=1):gQ u (bK t) 3 100=30:=by
 unfold gQ bK iF;dsimp only;rw [h1,hu];simp
end
section
variable {G:GS}
attribute [local irreducible] ak aB aD aJ aQ vC aY aw
theorem NO (k:List Int) (hk:k.length≤140737488355328):aE Tryz.prog G 37 [.sl 1 [jm k]] (.bool (decide (160 < k.length))):=by
 refine bA seat Tryz.func37 19 ?_;refine aa ?_;refine av Nat (fun j=> [(8, .int .i64 j),(7, .int .i64 1),(6, .sl 1 [jm k]),(3, .int .i64 ((j * k.length:Nat):Int))]) (fun _=> []) 0 (fun j=>j≤1) (fun j=>1 - j) 0 om (by rw [Nat.zero_mul];exact vm [] []) ?_;intro j hj;try dsimp only
 refine aa ?_;refine ad rfl ?_ ?_ <;> intro h
 ·have OA:j=0:=by have:=ot h;omega
  subst OA;have aH:=aj.mk (dB (l:= [jm k]) (n:=1) (k:=0) om rfl);rw [Nat.zero_mul];refine aa ?_;exact⟨1,by show 1≤1;omega,by show 1 - 1 < 1 - 0;omega,(by dsimp only;rw [Nat.one_mul];exact vm [] [])⟩
 ·have OA:j=1:=by have:=oF h;omega
  subst OA;rw [Nat.one_mul];refine aa ?_;refine au ?_
  show MV.bool (decide ((160:Int) < k.length))=_
  congr 1;exact decide_eq_decide.2 om
theorem NP:fG Kl:=⟨by simp [Kl],by simp [Kl,bm],by simp [Kl,SmAc,bm]⟩
theorem F7 (b:dM) (l:eh) (r:List ga):(pE b l r).hash=mY b.hd∧(pE b l r).app=pC l:=by simp only [pE,and_self]
theorem NQ (l:eh):(kz l).app=pC l:=rfl
theorem Ry: ∀x∈([⟨4,[],0,0,0⟩] :List ga),jI x:=fun x hx=>by
 rw [a₁.1 hx];simp [jI,bm]
theorem tS:aE Tryz.prog G 38 [] (.bool true):=by
 have c1:=ME (G:=G) Kl NP;have ht:=r9 Kl;have hta:=NQ Kl;generalize kz Kl=t at *;obtain⟨ht,UL,VD⟩:=ht;have c2:=Qx (G:=G) t 0 1 [[1]] om om sm sm;have hb:=xE (t:=t) (time:=0) (prop:=1) (raws:= [[1]]) ht om om (by simp [cQ]) (by simp [cQ]) sm sm;have k1:=WT UL VD;have k2:=WW UL VD;have k3:=W0 UL VD;have k4:=Xa UL VD;have k5:=fun u=>Xb (t:=t) (u:=u) UL
 have hh:=xF t 0 1 [[1]];have sB:(bK t).txs= [[1]] :=rfl;change (bK t).hd.height=_∧(bK t).hd.time=_ at hh;change dG (bK t) at hb;change aT _ _ _ _ _ _ (blkM (bK t)) _ _ at c2;generalize bK t=b at *;rw [UL,VD] at hh;rw [if_pos (by decide)] at hh;obtain⟨VF,Ys⟩:=hh;replace VF:b.hd.height=1:=VF;replace Ys:b.hd.time=1:=Ys;have cA:=MG (G:=G) t b Kl [⟨4,[],0,0,0⟩] hb.hd NP sm Ry;have hu:=sh Kl [⟨4,[],0,0,0⟩] hb.hd;obtain⟨Xv,Oh⟩:=F7 b Kl [⟨4,[],0,0,0⟩];generalize pE b Kl [⟨4,[],0,0,0⟩] =u at *;obtain⟨hu,NV,_⟩:=hu;have cH:=xf (G:=G) b.hd hb.hd;rw [← Xv] at cH;rw [← Oh] at hta;have i3:cQ 3:=by simp [cQ]
 have i1:cQ 1:=by simp [cQ]
 have i2:cQ 2:=by simp [cQ]
 have RZ:cQ 100:=by simp [cQ]
 have iY:dG ⟨b.hd,[[2]]⟩:=⟨hb.hd,sm,sm⟩;have d1:=tH (G:=G) t b 3 100 ht hb.hd i3 RZ (by rw [sB];simp) (by rw [sB];simp);have d2:=tH (G:=G) t b 1 100 ht hb.hd i1 RZ (by rw [sB];simp) (by rw [sB];simp);have d3:=tH (G:=G) t ⟨b.hd,[[2]]⟩ 3 100 ht hb.hd i3 RZ sm sm;have d4:=tH (G:=G) t b 3 2 ht hb.hd i3 i2 (by rw [sB];simp) (by rw [sB];simp);have d5:=tH (G:=G) u b 3 100 hu hb.hd i3 RZ (by rw [sB];simp) (by rw [sB];simp);rw [k1] at d1;rw [k2] at d2;rw [k3] at d3;rw [k4] at d4;rw [k5 u om] at d5;have q1:aj (EF (keyM u.hash) (keyM u.hash)) true:=aj.mk (by rw [hY rfl,decide_eq_true rfl]);have q2:aj (EF (keyM u.app) (keyM u.app)) true:=aj.mk (by rw [hY rfl,decide_eq_true rfl]);have s1:=bH.mk (gW u.hash u.hash);have s2:=bH.mk (gW u.app u.app);obtain⟨⟨bh,bt,bp,kF,BI,BE,yy⟩,kG⟩:=b;obtain⟨th,tt,pX,yC,yG⟩:=t;obtain⟨uh,ut,e0x,k0s,m0n⟩:=u;dsimp only at *;subst sB hta UL VD VF Ys NV;dsimp only [blkM,hdM,fH] at *;clear k1 k2 k3 k4 k5;refine bA seat Tryz.func38 85 ?_;refine aa ?_;refine cX rfl aA rfl (src (c1)) rfl [(2,1)] mm lm ?_;refine aa ?_;refine aO rfl rfl (by intro R hR;refine da hR ?_;refine a₀ (a₃ 1) ?_;refine⟨[.int .u8 1],sv rfl,?_⟩;exact hR) rfl ?_;refine aa ?_;refine cX rfl aA rfl (c2) rfl [(11,1)] mm lm ?_;refine aa ?_;refine cX rfl aA rfl (src (cA)) rfl [(2,1),(18,1)] mm lm ?_;refine aa ?_;refine aO rfl rfl (by intro R hR;refine da hR ?_;refine a₀ (a₃ 1) ?_;refine⟨[.int .u8 2],sv rfl,?_⟩;exact hR) rfl ?_;refine aa ?_;refine al [ae 0,ae 1,ae 2,ae 3,ae 4,ae 5,ae 6,ae 7,ae 8,ae 9,ae 10,ae 11,ae 12,dF 13,ae 14,ae 15,ae 16,ae 17,ae 18,dF 19,ae 20,ae 21,ae 22,ae 23,ae 24,dF 25,ae 26,ae 27,ae 28,ae 29,ae 30,dF 31,ae 32,ae 33,ae 34,ae 35,ae 36,ae 37,ae 38,ae 39,ae 40,ae 41,ae 42,ae 43,dF 44,ae 45,ae 46,ae 47,ae 48,ae 49,ae 50,ae 51,ae 52,ae 53,ae 54,ae 55,ae 56,dF 57,ae 58,ae 59,ae 60] ?_;refine aa ?_;refine cG rfl aA rfl [] (src (d1)) rfl [] trivial (bk _ (by kernel_rfl)) rfl ?_;refine aa ?_;refine cG rfl aA rfl [] (src (d2)) rfl [] trivial (bk _ (by kernel_rfl)) rfl ?_;refine aa ?_;refine cG rfl aA rfl [25] (src (d3)) rfl [(25,1)] mm lm rfl ?_;refine aa ?_;refine cG rfl aA rfl [] (src (d4)) rfl [] trivial (bk _ (by kernel_rfl)) rfl ?_;refine aa ?_;refine cG rfl aA rfl [] (src (cH)) rfl [] trivial (bk _ (by kernel_rfl)) rfl ?_;refine aa ?_;refine cG rfl aA rfl [] (src (d5)) rfl [] trivial (bk _ (by kernel_rfl)) rfl ?_;refine aa ?_;refine au ?_;rfl
theorem YY {a b c:Int} {k1 k2 k3 k4:List UInt8} {x:MV} {i:Nat} (h:i < k1.length):fj (.st [.st [.int .i64 a, .int .i64 b, .int .i64 c,keyM k1,keyM k2,keyM k3,keyM k4],x]) ([] ++ [0] ++ [3] ++ [i]) (0 + 0 + 3 + i * 1)=some (yt (k1.getD i 0)):=by
 show(bif a₂ 0 (0 + 0 + 3 + i * 1) then(bif a₂ 3 (0 + 0 + 3 + i * 1 - 0) then fj (keyM k1) ([] ++ [i]) (0 + 0 + 3 + i * 1 - 0 - 3) else none) else none)=_
 have e1:a₂ 0 (0 + 0 + 3 + i * 1)=true:=by rw [a₇];omega
 have e2:a₂ 3 (0 + 0 + 3 + i * 1 - 0)=true:=by rw [a₇];omega
 rw [e1,e2,show 0 + 0 + 3 + i * 1 - 0 - 3=0 + i * 1 by omega];exact AK h
theorem YZ {a b c:Int} {k1 k2 k3 k4:List UInt8} {x:MV} {i:Nat} (h:i < k1.length) (y:UInt8):fk (.st [.st [.int .i64 a, .int .i64 b, .int .i64 c,keyM k1,keyM k2,keyM k3,keyM k4],x]) ([] ++ [0] ++ [3] ++ [i]) (0 + 0 + 3 + i * 1) (yt y)=some (.st [.st [.int .i64 a, .int .i64 b, .int .i64 c,keyM (k1.set i y),keyM k2,keyM k3,keyM k4],x]):=by
 show(bif a₂ 0 (0 + 0 + 3 + i * 1) then(match (bif a₂ 3 (0 + 0 + 3 + i * 1 - 0) then(match fk (keyM k1) ([] ++ [i]) (0 + 0 + 3 + i * 1 - 0 - 3) (yt y) with | some m'=>some (.st (setL [.int .i64 a, .int .i64 b, .int .i64 c,keyM k1,keyM k2,keyM k3,keyM k4] 3 m')) | none=>none) else none) with | some m'=>some (MV.st (setL [.st [.int .i64 a, .int .i64 b, .int .i64 c,keyM k1,keyM k2,keyM k3,keyM k4],x] 0 m')) | none=>none) else none)=_
 have e1:a₂ 0 (0 + 0 + 3 + i * 1)=true:=by rw [a₇];omega
 have e2:a₂ 3 (0 + 0 + 3 + i * 1 - 0)=true:=by rw [a₇];omega
 rw [e1,e2,show 0 + 0 + 3 + i * 1 - 0 - 3=0 + i * 1 by omega,jP h y];rfl
theorem Rz {a b c:Int} {k1 k2 k3 k4:List UInt8} {x:MV} {i:Nat} (h:i < k4.length):fj (.st [.st [.int .i64 a, .int .i64 b, .int .i64 c,keyM k1,keyM k2,keyM k3,keyM k4],x]) ([] ++ [0] ++ [6] ++ [i]) (0 + 0 + 99 + i * 1)=some (yt (k4.getD i 0)):=by
 show(bif a₂ 0 (0 + 0 + 99 + i * 1) then(bif a₂ 99 (0 + 0 + 99 + i * 1 - 0) then fj (keyM k4) ([] ++ [i]) (0 + 0 + 99 + i * 1 - 0 - 99) else none) else none)=_
 have e1:a₂ 0 (0 + 0 + 99 + i * 1)=true:=by rw [a₇];omega
 have e2:a₂ 99 (0 + 0 + 99 + i * 1 - 0)=true:=by rw [a₇];omega
 rw [e1,e2,show 0 + 0 + 99 + i * 1 - 0 - 99=0 + i * 1 by omega];exact AK h
theorem RA {a b c:Int} {k1 k2 k3 k4:List UInt8} {x:MV} {i:Nat} (h:i < k4.length) (y:UInt8):fk (.st [.st [.int .i64 a, .int .i64 b, .int .i64 c,keyM k1,keyM k2,keyM k3,keyM k4],x]) ([] ++ [0] ++ [6] ++ [i]) (0 + 0 + 99 + i * 1) (yt y)=some (.st [.st [.int .i64 a, .int .i64 b, .int .i64 c,keyM k1,keyM k2,keyM k3,keyM (k4.set i y)],x]):=by
 show(bif a₂ 0 (0 + 0 + 99 + i * 1) then(match (bif a₂ 99 (0 + 0 + 99 + i * 1 - 0) then(match fk (keyM k4) ([] ++ [i]) (0 + 0 + 99 + i * 1 - 0 - 99) (yt y) with | some m'=>some (.st (setL [.int .i64 a, .int .i64 b, .int .i64 c,keyM k1,keyM k2,keyM k3,keyM k4] 6 m')) | none=>none) else none) with | some m'=>some (MV.st (setL [.st [.int .i64 a, .int .i64 b, .int .i64 c,keyM k1,keyM k2,keyM k3,keyM k4],x] 0 m')) | none=>none) else none)=_
 have e1:a₂ 0 (0 + 0 + 99 + i * 1)=true:=by rw [a₇];omega
 have e2:a₂ 99 (0 + 0 + 99 + i * 1 - 0)=true:=by rw [a₇];omega
 rw [e1,e2,show 0 + 0 + 99 + i * 1 - 0 - 99=0 + i * 1 by omega,jP h y];rfl
theorem Xc (a:List UInt8) (b s:Int):EF (.st [.str a, .int .u64 b, .int .u64 s]) (.st [.str a, .int .u64 b, .int .u64 s])=some true:=by
 simp [EF,sS]
theorem Xd (f:Nat) (a:List UInt8):eO tab (f + 1) 9 (.str a)=true:=by rw [eO.eq_def];rfl
theorem Sw (f:Nat) (n:Int):eO tab (f + 1) 23 (.int .u64 n)=true:=by rw [eO.eq_def];rfl
theorem oD {T:bD} {f o t:Nat} {fs:List (Nat×TypeId)} {m:MV} {l:List MV} {sz:Nat} {d:TD} (ht:bD.find T t=some d) (hs:m.size=d.size) (hm:eO T f t m=true) (h:confMs T f fs (o + d.size) l sz=true):confMs T f ((o,t) :: fs) o (m :: l) sz=true:=by
 rw [confMs.eq_def];dsimp only;rw [ht];dsimp only;rw [hs,hm,h,c₂,c₂];rfl
theorem F8 {T:bD} {f n:Nat}:confMs T f [] n [] n=true:=by rw [confMs.eq_def];exact c₂ n
theorem HZ (a:List UInt8) (b s:Int):eO tab 9 91 (.st [.str a, .int .u64 b, .int .u64 s])=true:=by
 have h1:bD.find tab 91=some (.struct [(0,9),(1,23),(2,23)] 3):=by kernel_rfl
 rw [eO.eq_def];simp only [h1];exact oD (d:= .str) (by kernel_rfl) rfl (Xd 7 a) (oD (d:= .int .u64) (by kernel_rfl) rfl (Sw 7 b) (oD (d:= .int .u64) (by kernel_rfl) rfl (Sw 7 s) F8))
theorem Us (a:List UInt8) (b s:Int):Vr Tryz.prog tab 91=true∧eO tab 9 91 (.st [.str a, .int .u64 b, .int .u64 s])=true∧eO tab 9 91 (.st [.str a, .int .u64 b, .int .u64 s])=true:=⟨by kernel_rfl,HZ a b s,HZ a b s⟩
theorem xG (l:eh) (hl:l.acs.length < 1000000000):aE Tryz.prog G 26 [eo l,eo l] (.bool true):=by
 obtain⟨acs,col⟩:=l;unfold eo;dsimp only at *;refine bA seat Tryz.func26 38 ?_;refine yu ?_;refine av Nat (fun k=> [(23, .int .i64 k),(22, .int .i64 acs.length),(3, .ptr 1 2 0 0 []),(2, .ptr 0 2 0 0 [])]) (fun _=> [(0,⟨33,2,false,0,[.st [.sl acs.length (acs.map aV), .int .u64 col]]⟩),(1,⟨33,2,false,0,[.st [.sl acs.length (acs.map aV), .int .u64 col]]⟩)]) 2 (fun k=>k≤acs.length) (fun k=>acs.length - k) 0 (a₅ _) (vm [(0,_),(1,_)] []) ?_;intro k hk;try dsimp only
 refine aa ?_;refine ad rfl ?_ ?_ <;> intro h
 ·have aC:k < acs.length:=by have:=ot h;omega
  have aH:=fN aC;generalize acs[k] =a at *;obtain⟨nm,bal,seq⟩:=a;replace aH:bI (acs.map aV) acs.length (k:Int)=some (.st [.str nm, .int .u64 bal, .int .u64 seq]):=aH;have aH:=aj.mk aH;have he:=aj.mk (Xc nm bal seq);have VJ:=bH.mk (Us nm bal seq);refine aa ?_;refine al [ae 0,ae 1,ae 2,ae 3,ae 4,ae 5,ae 6,ae 7,ae 8,ae 9,ae 10] ?_;refine aa ?_;refine ad rfl ?_ ?_ <;> intro h
  ·exact absurd h sm
  refine aa ?_;exact⟨k + 1,by show k + 1≤acs.length;omega,by show acs.length - (k + 1) < acs.length - k;omega,(by dsimp only;exact(vm [(0,_),(1,_)] []))⟩
 ·refine aa ?_;refine au ?_;rfl
theorem zP (a:eM) (ha:fB a):aE Tryz.prog G 17 [appM a,appM a] (.bool true):=by
 have c1:=xG (G:=G) a.com (by have:=ha.1.1;omega);have c2:=xG (G:=G) a.chk (by have:=ha.2.1.1;omega);have c3:=xG (G:=G) a.nxt (by have:=ha.2.2.1.1;omega);obtain⟨⟨a1,b1⟩,⟨a2,b2⟩,⟨a3,b3⟩,op,price⟩:=a;unfold appM eo at *;dsimp only at *;cases op;all_goals(
  refine bA seat Tryz.func17 38 ?_
  refine yu ?_
  refine yv (c1) ?_
  refine yu ?_
  refine yv (c2) ?_
  refine yu ?_
  refine yv (c3) ?_
  refine yu ?_
  refine au ?_
  rfl)
end
section
attribute [local irreducible] ak aB aD aJ aQ vC aY aw
structure Sx (acs:List bd) (c:nf) (l:List dM):Prop where
 p:aT Tryz.prog GU 40 [.sl acs.length (acs.map aV),cfM c, .sl l.length (l.map blkM)] [] 0 (.tup [appM (iI acs c l).1,fH (iI acs c l).2.1, .int .i64 (iI acs c l).2.2.1, .int .i64 (iI acs c l).2.2.2]) [] 0
 r:aT Tryz.prog GU 41 [.sl acs.length (acs.map aV),cfM c, .sl l.length (l.map blkM)] [] 0 (.tup [appM (iI acs c l).1,fH (iI acs c l).2.1, .int .i64 (iI acs c l).2.2.1, .int .i64 (iI acs c l).2.2.2]) [] 0
 sa:fB (iI acs c l).1
 st:ju (iI acs c l).2.1
theorem H0 (n m:Int): ∀(l:List dM) (i:Nat) (a:eM) (t:eR),fB a→ju t→(∀b∈l,dG b)→fB (repL n m l i a t).1∧ju (repL n m l i a t).2.1
 | [],i,a,t,ha,ht,_=>⟨ha,ht⟩
 | b :: l,i,a,t,ha,ht,hb=>by
  rw [repL]
  split
  ·exact⟨app0_sm,⟨by simp [cQ],by simp [cQ],sm,sm,sm⟩⟩
  ·refine H0 n m l _ _ _ (Bn ha) ?_ fun x hx=>hb x (b₃ _ hx)
   unfold r8
   exact(sh _ _ (hb b (b₈ ..)).hd).1
theorem lS {acs:List bd} {c:nf} {l:List dM} (hl:acs.length≤100000) (eP: ∀a∈acs,pB a) (hc:Qs c) (kS:l.length≤100000) (hb: ∀b∈l,dG b):Sx acs c l:=by
 have h0:ju tip0:=⟨by simp [cQ],by simp [cQ],sm,sm,sm⟩;have hi:=pg (acs:=acs) (p:=c.price) eP hc.h9;have h1:=H0 c.nodes c.blkB l 0 _ _ hi (r9 (bN acs c.price).1.com).1 hb;refine⟨Ul acs c l hl eP hc kS hb,Um acs c l hl eP hc kS hb,?_,?_⟩
 ·unfold iI;split
  ·exact app0_sm
  split
  ·exact app0_sm
  ·exact h1.1
 ·unfold iI;split
  ·exact h0
  split
  ·exact h0
  ·exact h1.2
theorem Bp (k:List Int) (hk:k.length≤140737488355328) (raw:nf) (qu:Qs raw) (xK:List bd) (hal:xK.length≤140737488355328) (Z0: ∀a∈xK,pB a) (cut at_:Int):aE Tryz.prog GU 8 [jm k,cfM raw, .sl xK.length (xK.map aV), .int .i64 cut, .int .i64 at_] (.bool true):=by
 have cL:=NO (G:=GU) k hk;by_cases h1:160 < k.length
 ·rw [decide_eq_true h1] at cL;unfold jm at *;refine bA seat Tryz.func8 227 ?_;refine aa ?_;refine cX rfl aA rfl (src (cL)) rfl [(3,1)] mm lm ?_;refine aa ?_;refine aK (src (tS (G:=GU))) rfl rfl aA (by kernel_rfl) ?_;refine aa ?_;refine au ?_;rfl
 rw [decide_eq_false h1] at cL;by_cases h2:30 < xK.length
 ·unfold jm at *;refine bA seat Tryz.func8 227 ?_;refine aa ?_;refine cX rfl aA rfl (src (cL)) rfl [(3,1)] mm lm ?_;refine aa ?_;refine ad rfl ?_ ?_ <;> intro h
  ·have _h:=h;refine aa ?_;refine aK (src (tS (G:=GU))) rfl rfl aA (by kernel_rfl) ?_;refine aa ?_;refine au ?_;rfl
  ·exact absurd (oF h) om
 unfold jm at *;refine bA seat Tryz.func8 227 ?_;refine aa ?_;refine cX rfl aA rfl (src (cL)) rfl [(3,1)] mm lm ?_;refine aa ?_;refine ad rfl ?_ ?_ <;> intro h
 ·exact absurd (ot h) om
 refine aa ?_;refine wE rfl aA rfl (Rx (G:=GU) k) [] [] ⟨rfl,trivial,rfl,lm,mm⟩ rfl ?_;rintro _ _ _ ⟨N,n,acs,bl,hN,rfl,rfl,rfl,hw,ha,eP,⟨NX,e1,rfl,hc,h0,hn⟩,rfl⟩;refine⟨rfl,?_⟩;have dA:=hn.rep;have Uz:=hn.st.fx;have xI:=hn.bok;have kS:n.blocks.length≤100:=hn.blocks;have hap:=hw.app;have htp:=hw.tip;clear hw hN cL hn;obtain⟨⟨i0c,Eu,nh,nt,YO,SH,N6⟩,yD,l,Ox,d0t,H4,Vk⟩:=n;dsimp only at e1 dA Uz xI kS hap htp;dsimp only [il];subst e1;obtain⟨_,f1,f2,f3,f4⟩:=Uz;generalize hE:SH.map bU=me;generalize SH.length=le;generalize hC:N6.map keyM=mc;generalize N6.length=lc;have UP:=TW hc;have X9: ∀a∈NX.acs,pB a:=fun a h=>(eP a h).wd
 obtain⟨m3,OG,Vl⟩: ∃m:Nat,m≤l.length∧cut % ((l.length:Int) + 1)=m:=⟨(cut % ((l.length:Int) + 1)).toNat,by have:=b₇ cut (show(0:Int) < (l.length:Int) + 1 by omega);have:=b₀ cut (show(l.length:Int) + 1≠0 by omega);omega,by have:=b₀ cut (show(l.length:Int) + 1≠0 by omega);omega⟩
 have cP3:=A4 (G:=GU) cut ((l.length:Int) + 1) om om;rw [Vl] at cP3;refine aa ?_;refine aO rfl rfl (by intro R hR;refine da hR ?_;refine a₀ ((lQ _)) ?_;refine a₀ ⟨rfl,ai (by kernel_rfl) pf⟩ ?_;refine⟨l.map blkM,sv (by show [] ++ l.map blkM=_;rw [c₆]),l.length,sv pf,?_⟩;exact hR) rfl ?_;refine aa ?_;obtain⟨len,hlen⟩: ∃len,len=l.length:=⟨_,rfl⟩
 rw [← hlen] at cP3 OG ⊢;refine wv (List dM) (fun m=> [(17, .sl len (m.map blkM)),(12, .sl len (l.map blkM)),(14, .sl NX.acs.length (NX.acs.map aV)),(13, .ptr 1 12 0 0 []),(11, .ptr 0 98 0 0 []),(15, .ptr 2 25 0 0 []),(6, .ptr 3 12 0 0 []),(2, .sl xK.length (xK.map aV)),(3, .int .i64 cut)]) (fun _=> [(0,⟨70,98,false,0,[fH yD]⟩),(1,⟨66,12,false,0,[cfM NX.c]⟩),(2,⟨75,25,false,0,[.st [cfM NX.c,appM Eu, .int .i64 nh, .int .i64 nt, .int .i64 YO, .sl le me, .sl lc mc]]⟩),(3,⟨66,12,false,0,[cfM raw]⟩)]) (fun _=>4) (fun m=>m.length=len∧∀b∈m,dG b) (fun JQ hj=>?_) (fun m hm=>?_)
 ·refine ad rfl ?_ ?_ <;> intro h
  ·have hl:0 < l.length:=by have:=ot h;omega
   have cP:=A4 (G:=GU) at_ (l.length:Int) om om;obtain⟨i,hi,hie⟩: ∃i:Nat,i < l.length∧at_ % (l.length:Int)=i:=⟨(at_ % (l.length:Int)).toNat,by have:=b₇ at_ (show(0:Int) < (l.length:Int) by omega);have:=b₀ at_ (show(l.length:Int)≠0 by omega);omega,by have:=b₀ at_ (show(l.length:Int)≠0 by omega);omega⟩
   rw [hie,← hlen] at cP;have hbi:=xI _ (a₉ hi);have aH:=aj.mk (show cE (l.map blkM) (0 + i)=some (blkM l[i]) by rw [bZ,a₈];simp [hi]);have UG:=aj.mk (cI (show i < len by omega));have pL:=fun b=>aX.mk (show setL (l.map blkM) (0 + i) (blkM b)=(l.set i b).map blkM by rw [setL_eq,a₈,List.map_set])
   have uP: ∀b,dG b→∀x∈l.set i b,dG x:=fun b hb x hx=>(b₆ hx).elim (xI x) (fun e=>e▸hb)
   generalize l[i] =b at *;obtain⟨⟨bh,bt,bp,kF,BI,BE,yy⟩,kG⟩:=b;obtain⟨⟨g1,g2,g3,g4,g5,g6,g7⟩,gn,gl⟩:=hbi;dsimp only at g1 g2 g3 g4 g5 g6 g7 gn gl;have h0:0 < yy.length:=om;have qaa:=aj.mk (Rz (a:=bh) (b:=bt) (c:=bp) (k1:=kF) (k2:=BI) (k3:=BE) (k4:=yy) (x:= .sl kG.length (kG.map bo)) h0);have qba:=aj.mk (RA (a:=bh) (b:=bt) (c:=bp) (k1:=kF) (k2:=BI) (k3:=BE) (k4:=yy) (x:= .sl kG.length (kG.map bo)) h0 (UInt8.ofNat ((yy.getD 0 0).toNat + 1)));have qca:=NJ (yy.getD 0 0);have hla:(yy.set 0 (UInt8.ofNat ((yy.getD 0 0).toNat + 1))).length=32:=by rw [b₅];exact g7
   generalize yy.getD 0 0=ya at *;generalize yy.set 0 (UInt8.ofNat (ya.toNat + 1))=K2 at *;have pL:=pL ⟨⟨bh,bt,bp,kF,BI,BE,K2⟩,kG⟩;have uP:=uP ⟨⟨bh,bt,bp,kF,BI,BE,K2⟩,kG⟩ ⟨⟨g1,g2,g3,g4,g5,g6,hla⟩,gn,gl⟩;have OL:(l.set i ⟨⟨bh,bt,bp,kF,BI,BE,K2⟩,kG⟩).length=len:=by rw [b₅,hlen]
   generalize l.set i ⟨⟨bh,bt,bp,kF,BI,BE,K2⟩,kG⟩=m at *;dsimp only [blkM,hdM] at aH pL;refine aa ?_;refine dZ (cP) ?_;refine al [ae 0,ae 1,ae 2,ae 3,ae 4,ae 5,ae 6,ae 7,ae 8,ae 9,ae 10,ae 11,ae 12] ?_;refine aa ?_;clear hlen;subst OL;exact hj.nrm m ⟨rfl,uP⟩ (by dsimp only;exact vm [(0,_),(1,_),(2,_),(3,_)] [(29,m.length)])
  ·subst hlen;refine aa ?_;exact hj.nrm l ⟨rfl,xI⟩ (by dsimp only;exact vm [(0,_),(1,_),(2,_),(3,_)] [(29,l.length)])
 ·obtain⟨OF,UY⟩:=hm;obtain⟨w,hw⟩: ∃w,l ++ l=w:=⟨_,rfl⟩
  have hwl:len + len=w.length:=by rw [← hw,b₁,hlen]
  have hwb: ∀b∈w,dG b:=fun b hb=>by rw [← hw] at hb;exact(a₆.1 hb).elim (xI b) (xI b)
  obtain⟨T,hT⟩: ∃T,l.take m3=T:=⟨_,rfl⟩
  have hTl:T.length=m3:=by rw [← hT,c₄];omega
  have hTb: ∀b∈T,dG b:=fun b hb=>xI b (c₁ (hT▸hb))
  have bL:=lS (acs:=NX.acs) (c:=NX.c) om X9 UP om xI;have bM:=lS (acs:=NX.acs) (c:=NX.c) om X9 UP om UY;have bT:=lS (acs:=NX.acs) (c:=NX.c) om X9 UP om hTb;have bW:=lS (acs:=NX.acs) (c:=NX.c) om X9 UP om hwb;have NR:=aj.mk (kh (n:=len) (k:=m3) (κ:= .i64) OG);have Vp:=bH.mk (lQ l);have RX:=aX.mk (cut_take blkM l m3);rw [hT] at RX;try dsimp only
  refine aa ?_;refine al [ae 0,ae 1,ae 2,ae 3,ae 4,ae 5,ae 6,dF 7,ae 8,ae 9,ae 10,ae 11,ae 12,ae 13,ae 14,ae 15,ae 16] ?_;refine aa ?_;refine di (cP3) ?_;refine bj rfl (by intro R hR;refine da hR ?_;refine a₀ ((lQ _)) ?_;refine a₀ ⟨rfl,ai (by kernel_rfl) pf⟩ ?_;refine⟨l.map blkM,sv (by show [] ++ l.map blkM=_;rw [c₆]),len,sv pf,?_⟩;exact hR) rfl ?_;refine aa ?_;refine bj rfl (by intro R hR;refine da hR ?_;refine a₀ ((lQ _)) ?_;refine a₀ ⟨(by show(l.map blkM).length=len;rw [List.length_map,hlen]),ai (by kernel_rfl) pf⟩ ?_;refine⟨w.map blkM,sv (by show l.map blkM ++ l.map blkM=_;rw [← a₄,hw]),w.length,sv pf,?_⟩;exact hR) rfl ?_;refine aa ?_;refine av Nat (fun j=> [(105, .int .i64 j),(104, .int .i64 (4:Nat)),(103, .ms 4 1 0 4),(12, .sl len (l.map blkM)),(14, .sl NX.acs.length (NX.acs.map aV)),(13, .ptr 1 12 0 0 []),(11, .ptr 0 98 0 0 []),(15, .ptr 2 25 0 0 []),(6, .ptr 3 12 0 0 []),(2, .sl xK.length (xK.map aV))]) (fun _=> [(4,⟨71,1,true,0,[.sl len (l.map blkM), .sl len (m.map blkM), .sl m3 (T.map blkM), .sl w.length (w.map blkM)]⟩),(0,⟨70,98,false,0,[fH yD]⟩),(1,⟨66,12,false,0,[cfM NX.c]⟩),(2,⟨75,25,false,0,[.st [cfM NX.c,appM Eu, .int .i64 nh, .int .i64 nt, .int .i64 YO, .sl le me, .sl lc mc]]⟩),(3,⟨66,12,false,0,[cfM raw]⟩)]) 5 (fun j=>j≤4) (fun j=>4 - j) 0 om (vm [(0,0),(1,1),(2,2),(3,3),(4,18)] [(17,w.length)] (h2:=⟨.inr ⟨18,_,rfl,rfl,rfl,rfl, .inr (.inr ⟨rfl,rfl,rfl⟩), .inl rfl, .inr ⟨.inl rfl, .inl rfl, .inl rfl, .inr ⟨rfl,rfl,rfl,om,bc _ _⟩,trivial⟩⟩,(by exact mm)⟩)) ?_;intro j hj;try dsimp only
  refine aa ?_;refine ad rfl ?_ ?_ <;> intro h
  ·have hj2:j < 4:=by have:=ot h;omega
   obtain⟨x,aH,bx⟩: ∃x:List dM,aj (cE [.sl len (l.map blkM), .sl len (m.map blkM), .sl m3 (T.map blkM), .sl w.length (w.map blkM)] (0 + j)) (.sl x.length (x.map blkM))∧Sx NX.acs NX.c x:=by
    have h4:j=0∨j=1∨j=2∨j=3:=om;rcases h4 with rfl | rfl | rfl | rfl
    ·exact⟨l,aj.mk (by rw [hlen];rfl),bL⟩
    ·exact⟨m,aj.mk (by rw [OF];rfl),bM⟩
    ·exact⟨T,aj.mk (by rw [hTl];rfl),bT⟩
    ·exact⟨w,aj.mk rfl,bW⟩
   have UG:=aj.mk (cI hj2);obtain⟨b1,b2,b3,b4⟩:=bx;generalize iI NX.acs NX.c x=R at *;obtain⟨A,t,e1,e2⟩:=R;dsimp only at b1 b2 b3 b4;have cS:=zP (G:=GU) A b3;have q1:=aj.mk (show EF (fH t) (fH t)=some true by rw [Mz b4 b4,decide_eq_true rfl]);have q2:=bH.mk (HC t t);clear bL bM bT bW;refine aa ?_;refine jn (b1) ?_;refine jn (b2) ?_;refine dZ (cS) ?_;refine ag rfl rfl ?_ rfl ?_ <;> intro h
   ·refine aa ?_;refine ad rfl ?_ ?_ <;> intro h
    ·exact absurd h sm
    ·refine aa ?_;exact⟨j + 1,om,dm,(by dsimp only;exact vm [(0,_),(1,_),(2,_),(3,_),(4,_)] [])⟩
   ·exact absurd h sm
  ·clear h bM bT bW hj;obtain⟨a1,a2,_,_⟩:=lS (acs:=xK) (c:=NX.c) om Z0 UP om xI;obtain⟨r1,r2,_,_⟩:=lS (acs:=NX.acs) (c:=raw) (l:= []) om X9 qu sm sm;obtain⟨l1,_,l3,_⟩:=bL;have hx:iI NX.acs NX.c l=(⟨Eu.com,Eu.com,lg0,false,NX.c.price⟩,yD,0,0):=by rw [Rj hc h0,dA.h];rfl
   rw [hx] at l1 l3;rw [← hlen] at a1 a2 l1;generalize iI xK NX.c l=R1 at *;generalize iI NX.acs raw [] =R2 at *;obtain⟨A1,t1,u1,v1⟩:=R1;obtain⟨A2,t2,u2,v2⟩:=R2;dsimp only at a1 a2 r1 r2 l1 l3;refine aa ?_;refine jn (a1) ?_;refine jn (a2) ?_;refine jn (r1) ?_;refine jn (r2) ?_;refine jn (l1) ?_;clear a1 a2 r1 r2 l1;have hr:oe Eu=⟨Eu.com,Eu.com,lg0,false,NX.c.price⟩:=by unfold oe;rw [f2,f3,f4]
   have cR:=A3 (G:=GU) Eu;rw [hr] at cR;have cS:=zP (G:=GU) _ l3;have q1:=aj.mk (show EF (fH yD) (fH yD)=some true by rw [Mz htp htp,decide_eq_true rfl]);have q2:=bH.mk (HC yD yD);refine al [ae 0,ae 1,ae 2,ae 3,ae 4,ae 5,ae 6,ae 7,ae 8,ae 9,ae 10,ae 11,ae 12,ae 13,ae 14,ae 15,ae 16,ae 17,ae 18,ae 19,ae 20,ae 21,ae 22,ae 23,ae 24,ae 25,ae 26,ae 27,ae 28,ae 29,dF 30,ae 31,dF 32,ae 33,ae 34,dF 35,ae 36,ae 37] ?_;refine aa ?_;refine ez rfl rfl ?_ rfl ?_ <;> intro h
   ·refine aa ?_;refine ez rfl rfl ?_ rfl ?_ <;> intro h
    ·refine aa ?_;refine ez rfl rfl ?_ rfl ?_ <;> intro h
     ·refine aa ?_;refine ez rfl rfl ?_ rfl ?_ <;> intro h
      ·refine aa ?_;refine di (cR) ?_;refine di (cS) ?_;refine di (tS (G:=GU)) ?_;refine au ?_;rfl
      ·exact absurd h sm
     ·exact absurd h sm
    ·exact absurd h sm
   ·exact absurd h sm
end
end Go.Proofs.YtohikcplmbkmeaaGreatDoor
namespace Go.Proofs.YtohikcplmbkmeaaGreatDoor.chainReplays
open Go.Proofs.YtohikcplmbkmeaaGreatDoor
theorem r1:(Rows.chainReplaysRow.inPlace == Tryz.prog.inPlace 8)=true:=by kernel_rfl
theorem r2:(Rows.chainReplaysRow.unfollowed == Tryz.prog.unfollowed 8)=true:=by kernel_rfl
theorem r3:(Rows.chainReplaysRow.recurses == Tryz.prog.recurses 8)=true:=by kernel_rfl
theorem r4:(Rows.chainReplaysRow.named == Tryz.prog.varsNamed 8)=true:=by kernel_rfl
set_option maxRecDepth 100000 in
theorem Ut:joinedFacts Tryz.prog 8 Tryz.f8 (OpenSpec.ofChange Rows.chainReplaysSpec).bare Rows.chainReplaysRow=true:=by
 simp only [joinedFacts,Bool.and_eq_true]
 and_intros
 all_goals first
  | (with_reducible exact r1)
  | (with_reducible exact r2)
  | (with_reducible exact r3)
  | (with_reducible exact r4)
  | kernel_rfl
end Go.Proofs.YtohikcplmbkmeaaGreatDoor.chainReplays
