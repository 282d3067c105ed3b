/- Parts of a proof. -/
import Derived.Test.YtohikcplmbkmeaaGreatDoorW08
open And renaming intro → a₀
open Nat renaming zero_le → a₁,le_refl → a₂,le_trans → b₄,le_of_eq → c₂,zero_add → c₃,add_sub_cancel → c₄
open List renaming replicate → a₃,getElem_mem → a₄,mem_singleton → a₅,mem_append → a₆,nil_append → a₇,mem_cons_of_mem → a₈,drop_eq_getElem_cons → a₉,mem_cons_self → b₀,length_append → b₁,drop_zero → b₂,take_succ_eq_append_getElem → b₃,length_cons → b₅,drop_length → b₆,take_length → b₇,length_take → b₈,map_append → b₉,length_singleton → c₀,mem_cons → c₁,length_set → c₅
set_option maxRecDepth 20000
set_option maxHeartbeats 16000000
set_option linter.unusedVariables false
set_option linter.unusedSimpArgs false
namespace Go.Proofs.YtohikcplmbkmeaaGreatDoor
open Go.RowKit
section
variable {G:GS}
attribute [local irreducible] ak aB aD aJ aQ vC aY aw
theorem Dz (p s t m:Int): ∀(O:List fU) (c b:Int),∀e∈(selG p s t m O c b).1,e∈O
 | [],c,b=>by simp [selG]
 | x :: O,c,b=>by
  unfold selG
  split
  ·simp
  ·have ih:=Dz p s t m O (c - 1) (b - x.raw.length)
   generalize selG p s t m O (c - 1) (b - x.raw.length)=r at *
   obtain⟨v,c',b'⟩:=r
   intro e he
   rcases c₁.1 he with rfl | he
   ·exact b₀ ..
   ·exact a₈ _ (ih e he)
theorem DB (p s t m:Int): ∀(O:List fU) (c b:Int),(selG p s t m O c b).1.length≤O.length
 | [],c,b=>by simp [selG]
 | x :: O,c,b=>by
  unfold selG
  split
  ·simp
  ·have ih:=DB p s t m O (c - 1) (b - x.raw.length)
   generalize selG p s t m O (c - 1) (b - x.raw.length)=r at *
   obtain⟨v,c',b'⟩:=r
   simp only [b₅]
   dsimp only at ih
   omega
theorem QD (p s t m:Int) (l:List fU) (hk: ∀e∈l,e.key.length=32):dS (oo p s t m l).1∧(oo p s t m l).1.length≤l.length:=by
 have h1:=Dz p s t m (bV l) l.length (bytesS l);have h2:=DB p s t m (bV l) l.length (bytesS l);rw [tI] at h2;unfold oo;generalize selG p s t m (bV l) l.length (bytesS l)=r at *;obtain⟨v,c,b⟩:=r;dsimp only at *;split
 ·refine⟨fun x hx=>?_,by simpa using h2⟩;obtain⟨e,he,rfl⟩:=List.mem_map.1 hx;exact hk e ((qm l).mem_iff.1 (h1 e he))
 ·exact⟨fun x hx=>absurd hx (List.not_mem_nil),a₁ _⟩
abbrev k0:List MV:=u8s (a₃ 32 0)
abbrev Ju:MV:= .st [.int .i64 0, .arr 32 1 k0, .int .u64 0, .nils, .nils, .nils, .nils, .nils, .nils, .int .i64 0, .arr 32 1 k0]
theorem DD [FX:Fx] {B:Nat} (s:kE) (raw:List UInt8) (peer:Int) (qu:raw.length≤1000000) (hs:eE B s) (hB:B≤100000):cY Tryz.prog G 157 [il s, .sl raw.length (u8s raw), .int .i64 peer] (fun r=> ∃s' rp,r= .tup [il s',St rp] ∧eE (B + 1) s'):=by
 have OF:=hs.mono (B':=B + 1) om;have hmx:=hs.cfg.maxTx;have hmt:=hs.cfg.maxTxs;have hmb:=hs.cfg.maxBytes;have c1:=AW (G:=G) raw.length om;have c2:=nS (G:=G) raw om;have gE:(iH raw).length=32:=gk raw;generalize iH raw=key at *;have c3:=T0 (G:=G) s.ents key (by have:=hs.ents;omega) gE (fun e he=>(hs.entk e he).key);have c4:=Sq (G:=G) s.cache key (by have:=hs.cache;omega) gE hs.ck;have c5:=Dt (G:=G) s key hs gE;have qz:=zx (B:=B) hs gE;have c6: ∀{i:Int},i < s.ents.length→cY Tryz.prog G 219 [il (tJ s key), .int .i64 i, .int .i64 peer] (fun r=> ∃s',r=il s'∧eE (B + 1) s'):=fun hi=>T3 (tJ s key) _ peer hi qz hB
 have hi:=xi key s.ents;have Gq:Js key s.ents < s.ents.length:=om;generalize Js key s.ents=i at *;unfold cY;refine seq' seat Tryz.func157 163 ?_;refine aa ?_;refine ad rfl ?_ ?_ <;> intro h
 ·refine aa ?_;(refine bB [_,_] (by(refine au ?_);exact rfl) (by kernel_rfl) (⟨s,⟨_,_,_,(_,_),(_,_),(_,_),(_,_),(_,_),(_,_),_,_⟩,rfl,OF⟩))
 ·have hr:=oF h;clear hi;refine aa ?_;refine al [ae 0,ae 1,dF 2,ae 3,ae 4,ae 5,ae 6] ?_;refine aa ?_;refine cG rfl aA rfl [] (src (c1)) rfl [] trivial (bk _ (by kernel_rfl)) rfl ?_;refine aa ?_;refine ad rfl ?_ ?_ <;> intro h
  ·refine aa ?_;(refine bB [_,_] (by(refine au ?_);exact rfl) (by kernel_rfl) (⟨s,⟨_,_,_,(_,_),(_,_),(_,_),(_,_),(_,_),(_,_),_,_⟩,rfl,OF⟩))
  ·refine aa ?_;refine aK (src (c2)) rfl rfl aA (by kernel_rfl) ?_;refine aa ?_;refine aK (src (c3)) rfl rfl aA (by kernel_rfl) ?_;refine aa ?_;have XW:(¬ 0≤i∧¬ 0≤iV key s.cache 0)∨(0≤i∨0≤iV key s.cache 0):=om;rcases XW with ⟨H9,Bu⟩ | hc
   ·rw [decide_eq_false Bu] at c4;refine ag rfl rfl ?_ rfl ?_ <;> intro h
    rotate_left
    ·exact absurd (ot h) om
    refine aa ?_;refine aK (src (c4)) rfl rfl aA (by kernel_rfl) ?_;refine aa ?_;refine aK (src (c5)) rfl rfl aA (by kernel_rfl) ?_;clear c6 c5 c4 c3 c2 c1;generalize tJ s key=s1 at *;have UY:=qz.mono (B':=B + 1) om;have d1:=Hv (G:=G) s1.app raw qz.app om;have sI:jI (xa s1.app raw):=(kW qz.app.2.1).2;generalize xa s1.app raw=r at *;have d2:=qn (G:=G) s1 key qz gE;have Y3:=(oq (k:=key) qz).mono (B':=B + 1) om;generalize lM s1 key=sf at *;have d3:=HE (G:=G) s1 r.gas qz;have hmt:=qz.cfg.maxTxs;have hmb:=qz.cfg.maxBytes;have d4:=Jq (G:=G) s1.ents (by have:=qz.ents;omega) (fun e he=>by have:=(qz.entk e he).raw;omega) r.prio raw.length s1.cfg.maxTxs s1.cfg.maxBytes om om;have uQ:=QD r.prio raw.length s1.cfg.maxTxs s1.cfg.maxBytes s1.ents (fun e he=>(qz.entk e he).key);have d5:=rY (G:=G) s1 key qz gE;have hd5:=(pj (k:=key) qz).mono (B':=B + 1) om;generalize tK s1 key=sd at *;unfold TX at d4;generalize oo r.prio raw.length s1.cfg.maxTxs s1.cfg.maxBytes s1.ents=sel at *;obtain⟨ks,Oo⟩:=sel;dsimp only at d4 uQ;refine Vu ?_;refine zz ([(1, .sl raw.length (u8s raw)),(2, .int .i64 peer),(3, .ptr 0 25 0 0 []),(6, .ptr 1 25 0 0 []),(7, .ptr 2 73 0 0 []),(8, .ptr 3 32 0 0 [])]) ([(0,⟨75,25,false,0,[il s1]⟩),(1,⟨75,25,false,0,[HF]⟩),(2,⟨163,73,false,0,[Ju]⟩),(3,⟨68,32,false,0,[keyM key]⟩)]) (4) (vm [(0,_),(1,_),(2,_),(3,_)] []) ?_;refine aa ?_;refine aK (src (d1)) rfl rfl aA (by kernel_rfl) ?_;refine aa ?_;refine ad rfl ?_ ?_ <;> intro h
    ·refine aa ?_;refine al [ae 0,ae 1,dF 2,ae 3,ae 4,ae 5,ae 6,ae 7] ?_;refine aa ?_;refine cG rfl aA rfl [] (src (d2)) rfl [] trivial (bk _ (by kernel_rfl)) rfl ?_;refine aa ?_;(refine bB [_,_] (by(refine au ?_);exact rfl) (by kernel_rfl) (⟨sf,⟨_,_,_,(_,_),(_,_),(_,_),(_,_),(_,_),(_,_),_,_⟩,rfl,Y3⟩))
    ·refine aa ?_;refine aK (src (d3)) rfl rfl aA (by kernel_rfl) ?_;refine aa ?_;refine ad rfl ?_ ?_ <;> intro h
     ·refine aa ?_;refine aK (src (d2)) rfl rfl aA (by kernel_rfl) ?_;refine aa ?_;(refine bB [_,_] (by(refine au ?_);exact rfl) (by kernel_rfl) (⟨sf,⟨_,_,_,(_,_),(_,_),(_,_),(_,_),(_,_),(_,_),_,_⟩,rfl,Y3⟩))
     ·refine aa ?_;refine aK (d4) rfl rfl aA (by kernel_rfl) ?_;refine aa ?_;refine ad rfl ?_ ?_ <;> intro h
      ·refine aa ?_;refine aK (src (d5)) rfl rfl aA (by kernel_rfl) ?_;refine aa ?_;(refine bB [_,_] (by(refine au ?_);exact rfl) (by kernel_rfl) (⟨sd,⟨_,_,_,(_,_),(_,_),(_,_),(_,_),(_,_),(_,_),_,_⟩,rfl,hd5⟩))
      ·obtain⟨hk,mZ⟩:=uQ;clear d1 d2 d3 d4 d5;have YQ:ks.length≤100000:=by have:=qz.ents;omega
       refine aa ?_;refine av (Nat×kE) (fun x=> [(102, .int .i64 x.1),(101, .int .i64 ks.length),(100, .sl ks.length (ks.map keyM)),(11, .sl ks.length (ks.map keyM)),(1, .sl raw.length (u8s raw)),(2, .int .i64 peer),(3, .ptr 0 25 0 0 []),(6, .ptr 1 25 0 0 []),(7, .ptr 2 73 0 0 []),(8, .ptr 3 32 0 0 []),(10, .ptr 4 5 0 0 [])]) (fun x=> [(0,⟨75,25,false,0,[il x.2]⟩),(1,⟨75,25,false,0,[HF]⟩),(2,⟨163,73,false,0,[Ju]⟩),(3,⟨68,32,false,0,[keyM key]⟩),(4,⟨48,5,false,0,[fc r]⟩)]) 5 (fun x=>x.1≤ks.length∧eE B x.2) (fun x=>ks.length - x.1) (0,s1) ⟨a₁ _,qz⟩ (by dsimp only;exact(vm [(0,_),(1,_),(2,_),(3,_),(4,_)] [])) ?_;rintro⟨k,s2⟩ ⟨na,jc⟩;try dsimp only
       dsimp only at na jc;refine aa ?_;refine ad rfl ?_ ?_ <;> intro h
       ·have aC:k < ks.length:=by have:=ot h;omega
        have aH:=aj.mk (rX aC);have J8:=hk _ (a₄ aC);generalize ks[k] =q at *;have e1:=po (G:=G) s2 q jc hB J8;have o1:=mN (k:=q) jc;generalize jU s2 q=lv at *;obtain⟨s3,b3⟩:=lv;dsimp only at e1 o1;have e2:=rY (G:=G) s3 q o1 J8;have o2:=pj (k:=q) o1;generalize tK s3 q=s4 at *;refine aa ?_;refine aK (src (e1)) rfl rfl aA (by kernel_rfl) ?_;refine aa ?_;refine aK (src (e2)) rfl rfl aA (by kernel_rfl) ?_;refine aa ?_;exact⟨(k + 1,s4),⟨dm,o2⟩,dm,(by dsimp only;exact(vm [(0,_),(1,_),(2,_),(3,_),(4,_)] []))⟩
       ·have e3:=Dh (G:=G) s2.app raw jc.app om;have o3:eE B { s2 with app:=mL s2.app raw }:=⟨jc.cfg,xb jc.app,jc.height,jc.time,jc.arr,jc.ents,jc.entk,jc.cache,jc.ck,jc.fx⟩;generalize mL s2.app raw=a3 at *;refine aa ?_;refine aK (src (e3)) rfl rfl aA (by kernel_rfl) ?_;refine Vu ?_;refine zz ([(1, .sl raw.length (u8s raw)),(2, .int .i64 peer),(3, .ptr 0 25 0 0 []),(6, .ptr 1 25 0 0 []),(7, .ptr 2 73 0 0 []),(8, .ptr 3 32 0 0 []),(10, .ptr 4 5 0 0 []),(11, .sl ks.length (ks.map keyM))]) ([(0,⟨75,25,false,0,[il { s2 with app:=a3 }]⟩),(1,⟨75,25,false,0,[HF]⟩),(2,⟨163,73,false,0,[Ju]⟩),(3,⟨68,32,false,0,[keyM key]⟩),(4,⟨48,5,false,0,[fc r]⟩)]) (5) (vm [(0,_),(1,_),(2,_),(3,_),(4,_)] []) ?_;generalize { s2 with app:=a3 }=s3 at *;have e4:=Du (G:=G) peer;generalize rZ peer=bp at *;refine aa ?_;refine al [ae 0,ae 1,ae 2,ae 3,ae 4,ae 5,ae 6,ae 7,ae 8,ae 9,ae 10,ae 11,ae 12,ae 13,ae 14,ae 15,ae 16,ae 17,ae 18,ae 19,ae 20] ?_;refine aa ?_;refine bj rfl (by intro R hR;refine da hR ?_;refine a₀ ((bX raw)) ?_;refine a₀ ⟨rfl,ai (by kernel_rfl) pf⟩ ?_;refine⟨u8s raw,sv (by show [] ++ u8s raw=_;rw [a₇]),raw.length,sv pf,?_⟩;exact hR) rfl ?_;refine aa ?_;refine aK (src (e4)) rfl rfl aA (by kernel_rfl) ?_;refine uY (List Int) (fun ps=> [(3, .ptr 0 25 0 0 []),(6, .ptr 1 25 0 0 []),(7, .ptr 2 73 0 0 []),(8, .ptr 3 32 0 0 []),(10, .ptr 4 5 0 0 []),(11, .sl ks.length (ks.map keyM)),(15, .ptr 5 41 0 0 [])]) (fun ps=> [(0,⟨75,25,false,0,[il s3]⟩),(1,⟨75,25,false,0,[HF]⟩),(2,⟨163,73,false,0,[Ju]⟩),(3,⟨68,32,false,0,[keyM key]⟩),(4,⟨48,5,false,0,[fc r]⟩),(5,⟨215,41,false,0,[bU ⟨key,raw,r.sender,r.seq,r.gas,r.prio,s3.height,s3.time,s3.arr,ps⟩]⟩)]) (fun _=>6) (fun ps=>ps.length≤1) (fun JQ hj=>?_) (fun ps pG=>?_)
        ·refine aa ?_;refine ad rfl ?_ ?_ <;> intro h
         ·refine aa ?_;exact hj.nrm [peer] (a₂ 1) (vm [(0,_),(1,_),(2,_),(3,_),(4,_),(5,_)] [(8,raw.length),(28,1)])
         ·refine aa ?_;exact hj.nrm [] (a₁ 1) (vm [(0,_),(1,_),(2,_),(3,_),(4,_),(5,_)] [(8,raw.length)])
        ·generalize hen:(⟨key,raw,r.sender,r.seq,r.gas,r.prio,s3.height,s3.time,s3.arr,ps⟩:fU)=en;have Yi:eE (B + 1) { s3 with ents:=s3.ents ++ [en],arr:=s3.arr + 1 }:=by
          have hm:=o3.mono (B':=B + 1) om;have ha:=o3.arr;refine⟨hm.cfg,hm.app,hm.height,hm.time,dm,by have:=o3.ents;dsimp only;rw [b₁,c₀];omega,fun x hx=>?_,hm.cache,hm.ck,hm.fx⟩;rcases a₆.1 hx with hx | hx
          ·exact hm.entk x hx
          ·obtain rfl:=a₅.1 hx;rw [← hen];have:=o3.height;have:=o3.time;have:=hs.cfg.maxTx;exact⟨gE,dm,sI.2.1,dm,dm,dm,by have:=sI.2.2.2.1;unfold bm at this;dsimp only;omega⟩
         have h0v:s3.ents.length≤100000:=by have:=o3.ents;omega
         have Vz:=o3.arr;obtain⟨W,hW⟩: ∃W,W=s3.ents ++ [en] :=⟨_,rfl⟩
         have Sy:W.length=s3.ents.length + 1:=by rw [hW];simp
         rw [← hW] at Yi;try dsimp only
         refine aa ?_;refine al [ae 0,ae 1,ae 2,ae 3,ae 4,ae 5,ae 6,ae 7,ae 8] ?_;refine aa ?_;refine bj rfl (by intro R hR;refine da hR ?_;refine a₀ ((fD _)) ?_;refine a₀ ⟨rfl,ai (by kernel_rfl) pf⟩ ?_;refine⟨s3.ents.map bU,sv (by rfl),s3.ents.length,sv pf,?_⟩;exact hR) rfl ?_;refine aa ?_;refine bj rfl (by intro R hR;refine da hR ?_;(refine a₀ (a₂ _) ?_;refine⟨_,rfl,?_⟩;refine a₀ ⟨sm,ai (by kernel_rfl) pf⟩ ?_;refine⟨W.map bU,sv (by rw [hW];simp;rfl),W.length,sv pf,?_⟩);exact hR) rfl ?_;refine Vu ?_;refine zz ([(3, .ptr 0 25 0 0 []),(6, .ptr 1 25 0 0 []),(7, .ptr 2 73 0 0 []),(8, .ptr 3 32 0 0 []),(10, .ptr 4 5 0 0 []),(11, .sl ks.length (ks.map keyM))]) ([(0,⟨75,25,false,0,[il { s3 with ents:=W,arr:=s3.arr + 1 }]⟩),(1,⟨75,25,false,0,[HF]⟩),(2,⟨163,73,false,0,[Ju]⟩),(3,⟨68,32,false,0,[keyM key]⟩),(4,⟨48,5,false,0,[fc r]⟩)]) (5) (vm [(0,_),(1,_),(2,_),(3,_),(4,_)] [(12,W.length)]) ?_;generalize { s3 with ents:=W,arr:=s3.arr + 1 }=s5 at *;refine aa ?_;refine al [ae 0,ae 1,ae 2,ae 3,ae 4,ae 5,ae 6,ae 7] ?_;refine aa ?_;(refine bB [_,_] (by(refine au ?_);exact rfl) (by kernel_rfl) (⟨s5,⟨_,_,_,(_,_),(_,_),(_,_),(_,_),(_,_),(_,_),_,_⟩,rfl,Yi⟩))
   ·clear c1 c2 c3;by_cases Oy:0≤i
    ·clear c4;refine ag rfl rfl ?_ rfl ?_ <;> intro h
     ·exact absurd (oF h) om
     refine aa ?_;refine aK (src (c5)) rfl rfl aA (by kernel_rfl) ?_;refine aa ?_;refine aP (c6 Gq) rfl rfl aA (by kernel_rfl) ?_;rintro _ ⟨s',rfl,lV⟩;refine aa ?_;(refine bB [_,_] (by(refine au ?_);exact rfl) (by kernel_rfl) (⟨s',⟨_,_,_,(_,_),(_,_),(_,_),(_,_),(_,_),(_,_),_,_⟩,rfl,lV⟩))
    ·rw [decide_eq_true om] at c4;refine ag rfl rfl ?_ rfl ?_ <;> intro h
     rotate_left
     ·exact absurd (ot h) om
     refine aa ?_;refine aK (src (c4)) rfl rfl aA (by kernel_rfl) ?_;refine aa ?_;refine aK (src (c5)) rfl rfl aA (by kernel_rfl) ?_;refine aa ?_;refine aP (c6 Gq) rfl rfl aA (by kernel_rfl) ?_;rintro _ ⟨s',rfl,lV⟩;refine aa ?_;(refine bB [_,_] (by(refine au ?_);exact rfl) (by kernel_rfl) (⟨s',⟨_,_,_,(_,_),(_,_),(_,_),(_,_),(_,_),(_,_),_,_⟩,rfl,lV⟩))
def pruneS (l:List fU):List (List UInt8)→List (List UInt8)
 | [] => []
 | k :: r=>if 0≤Js k l then k :: pruneS l r else pruneS l r
theorem tL (l:List fU): ∀s,dS s→dS (pruneS l s)∧(pruneS l s).length≤s.length
 | [],h=>⟨h,a₂ _⟩
 | k :: r,h=>by
  have ih:=tL l r fun x hx=>h x (a₈ _ hx)
  unfold pruneS
  split
  ·exact⟨fun x hx=>(c₁.1 hx).elim (fun e=>e▸h k (b₀ ..)) (ih.1 x),by simp;omega⟩
  ·exact⟨ih.1,by simp;omega⟩
theorem HH (s:List (List UInt8)) (l:List fU) (hs:dS s) (Bv:s.length≤1000000) (hl:l.length≤1000000) (he: ∀e∈l,e.key.length=32):aT Tryz.prog G 232 [.sl s.length (s.map keyM), .sl l.length (l.map bU)] [] 0 (.sl (pruneS l s).length ((pruneS l s).map keyM)) [] 0:=by
 generalize hR:pruneS l s=R;refine dK seat Tryz.func232 24 ?_;refine aa ?_;refine av (Nat×List (List UInt8)) (fun x=> [(10, .int .i64 x.1),(9, .int .i64 s.length),(8, .sl s.length (s.map keyM)),(1, .sl l.length (l.map bU)),(5, .ms 0 32 0 x.2.length)]) (fun x=> [(0,⟨68,32,true,0,x.2.map keyM⟩)]) 1 (fun x=>x.1≤s.length∧x.2.length≤x.1∧x.2 ++ pruneS l (s.drop x.1)=R) (fun x=>s.length - x.1) (0,[]) ⟨a₁ _,a₂ _,by dsimp only;rw [b₂];exact hR⟩ (by dsimp only;exact(vm [] [])) ?_;rintro⟨k,out⟩ ⟨hk,OE,hI⟩;try dsimp only
 dsimp only at hk OE hI;refine aa ?_;refine ad rfl ?_ ?_ <;> intro h
 ·have aC:k < s.length:=by have:=ot h;omega
  have aH:=aj.mk (rX aC);have XB:=hs _ (a₄ aC);rw [a₉ aC,pruneS] at hI;generalize s[k] =q at *;have c1:=T0 (G:=G) l q hl XB he;generalize Js q l=i at *;obtain⟨W,hW⟩: ∃W,W=out ++ [q] :=⟨_,rfl⟩
  have Sy:W.length=out.length + 1:=by rw [hW];simp
  refine aa ?_;refine aK (src (c1)) rfl rfl aA (by kernel_rfl) ?_;refine aa ?_;refine ad rfl ?_ ?_ <;> intro h
  ·have h0:=ot h;rw [if_pos h0,show out ++ q :: pruneS l (s.drop (k + 1))=W ++ pruneS l (s.drop (k + 1)) by rw [hW];simp] at hI;refine aa ?_;refine aO rfl rfl (by intro R hR;refine da hR ?_;(refine a₀ (a₂ _) ?_;refine⟨_,rfl,?_⟩;refine a₀ ⟨sm,ai (by kernel_rfl) pf⟩ ?_;refine⟨W.map keyM,sv (by rw [hW];simp;rfl),W.length,sv pf,?_⟩);exact hR) rfl ?_;refine aa ?_;exact⟨(k + 1,W),⟨dm,dm,hI⟩,dm,(by dsimp only;exact(vm [(0,_)] []))⟩
  ·have h0:=oF h;rw [if_neg h0] at hI;refine aa ?_;exact⟨(k + 1,out),⟨dm,dm,hI⟩,dm,(by dsimp only;exact(vm [(0,_)] []))⟩
 ·have aC:k=s.length:=by have:=oF h;omega
  subst aC;rw [b₆,pruneS,List.append_nil] at hI;subst hI;refine aa ?_;refine au ?_;refine⟨[_],[],[(0,out.length)],rfl,rfl,?_,rfl,⟨?_,trivial⟩,?_⟩
  ·exact⟨by show out.length≤(out.map keyM).length;simp,trivial⟩
  ·exact .inr ⟨rfl,rfl,rfl,c₂ (c₃ _),bc keyM out⟩
  ·exact mm
def lO (peer:Int) (sent:List (List UInt8)):List fU→List UInt8×Bool
 | [] =>([],false)
 | e :: r=>if decide (peer∈e.peers)=false∧¬ 0≤iV e.key sent 0 then(e.raw,true) else lO peer sent r
theorem xm (peer:Int) (sent:List (List UInt8)): ∀l:List fU,(∀e∈l,e.raw.length≤4096)→(lO peer sent l).1.length≤4096
 | [],_=>by simp [lO]
 | e :: r,h=>by
  unfold lO
  split
  ·exact h e (b₀ ..)
  ·exact xm peer sent r fun x hx=>h x (a₈ _ hx)
theorem MS (l:List fU) (peer:Int) (s:List (List UInt8)) (hs:dS s) (Bv:s.length≤1000000) (hl:l.length≤1000000) (he: ∀e∈l,e.key.length=32∧e.peers.length < 1000000000∧e.raw.length≤1000000):aT Tryz.prog G 235 [.sl l.length (l.map bU), .int .i64 peer, .sl s.length (s.map keyM)] [] 0 (.tup [.sl (lO peer s l).1.length (u8s (lO peer s l).1), .bool (lO peer s l).2]) [] 0:=by
 generalize hR:lO peer s l=R;refine dK seat Tryz.func235 33 ?_;refine aa ?_;refine av Nat (fun x=> [(12, .int .i64 x),(11, .int .i64 l.length),(10, .sl l.length (l.map bU)),(1, .int .i64 peer),(2, .sl s.length (s.map keyM))]) (fun _=> []) 0 (fun x=>x≤l.length∧lO peer s (l.drop x)=R) (fun x=>l.length - x) 0 ⟨a₁ _,by rw [b₂];exact hR⟩ (vm [] []) ?_;clear hR;rintro k ⟨hk,hI⟩;try dsimp only
 refine aa ?_;refine ad rfl ?_ ?_ <;> intro h
 ·have aC:k < l.length:=by have:=ot h;omega
  have aH:=aj.mk (fu aC);have eG:=he _ (a₄ aC);rw [a₉ aC,lO] at hI;generalize l[k] =e at *;have c1:=Dc (G:=G) e.peers peer eG.2.1;have c2:=Sq (G:=G) s e.key Bv eG.1 hs;generalize decide (peer∈e.peers)=bp at *;generalize iV e.key s 0=i at *;refine aa ?_;refine aK (src (c1)) rfl rfl aA (by kernel_rfl) ?_;refine aa ?_;cases bp with
  | true=>
   rw [if_neg sm] at hI;refine aa ?_;exact⟨k + 1,⟨by show k + 1≤l.length;omega,hI⟩,by show l.length - (k + 1) < l.length - k;omega,(by dsimp only;exact(vm [] []))⟩
  | false=>
   by_cases h0:0≤i
   ·rw [if_neg (fun hx=>hx.2 h0)] at hI;rw [decide_eq_true h0] at c2;refine aa ?_;refine aK (src (c2)) rfl rfl aA (by kernel_rfl) ?_;refine aa ?_;exact⟨k + 1,⟨by show k + 1≤l.length;omega,hI⟩,by show l.length - (k + 1) < l.length - k;omega,(by dsimp only;exact(vm [] []))⟩
   ·rw [if_pos ⟨rfl,h0⟩] at hI;rw [decide_eq_false h0] at c2;subst hI;refine aa ?_;refine aK (src (c2)) rfl rfl aA (by kernel_rfl) ?_;refine aa ?_;refine aO rfl rfl (by intro R hR;refine da hR ?_;refine a₀ ((bX e.raw)) ?_;refine a₀ ⟨rfl,ai (by kernel_rfl) pf⟩ ?_;refine⟨u8s e.raw,sv (by show [] ++ u8s e.raw=_;rw [a₇]),e.raw.length,sv pf,?_⟩;exact hR) rfl ?_;refine aa ?_;refine au ?_;refine⟨[_,_],[],[(18,e.raw.length)],rfl,rfl,?_,rfl,⟨?_,?_,trivial⟩,?_⟩
    ·exact⟨by show e.raw.length≤(u8s e.raw).length;simp [u8s],trivial⟩
    ·exact rv
    ·exact rv
    ·exact mm
 ·have aC:k=l.length:=by have:=oF h;omega
  subst aC;rw [b₆,lO] at hI;subst hI;refine aa ?_;refine au ?_;exact en [_,_]
def jC (price:Nat):List fU→Kk→eh→List (List UInt8)→List (List UInt8)
 | [],_,_,out=>out
 | e :: r,rs,l,out=>if (ou rs e.raw.length e.gas.toNat).2=true∧(qx l price e.raw).2.code=0∧out.length < 512 then jC price r (ou rs e.raw.length e.gas.toNat).1 (qx l price e.raw).1 (out ++ [e.raw]) else jC price r rs l out
def kZ (s:kE) (b g:Int):List (List UInt8):=if (xk b g).2=false then [] else jC s.app.price (uy s.ents) (xk b g).1 s.app.com []
theorem tM (price:Nat): ∀(l:List fU) (rs:Kk) (lg:eh) (out:List (List UInt8)),(∀e∈l,e.raw.length≤4096)→(∀x∈out,x.length≤4096)→out.length≤512→(∀x∈jC price l rs lg out,x.length≤4096)∧(jC price l rs lg out).length≤512
 | [],rs,lg,out,_,ho,hl=>⟨ho,hl⟩
 | e :: r,rs,lg,out,h,ho,hl=>by
  have hr: ∀e∈r,e.raw.length≤4096:=fun x hx=>h x (a₈ _ hx)
  unfold jC
  split
  ·rename_i hc
   exact tM price r _ _ _ hr (fa ho fun b hb=>by rw [a₅.1 hb];exact h e (b₀ ..)) (by rw [b₁,c₀];omega)
  ·exact tM price r _ _ _ hr ho hl
theorem Jv [FX:Fx] {B:Nat} {s:kE} {b g:Int} (h:eE B s):(∀x∈kZ s b g,x.length≤4096)∧(kZ s b g).length≤512:=by
 unfold kZ;split
 ·exact⟨sm,sm⟩
 ·exact tM _ _ _ _ _ (fun e he=>(h.entk e (zD _ e he)).raw) sm sm
theorem MT {l:List fU} {n k:Nat} (hn:l.length=n) (hk:k < l.length):bI (l.map bU) n (k:Int)=some (bU l[k]):=by subst hn;exact fu hk
theorem QE [FX:Fx] {B:Nat} (s:kE) (b g:Int) (hs:eE B s) (hB:B≤100000) (hb:cQ b) (hg:cQ g):aT Tryz.prog G 228 [il s, .int .i64 b, .int .i64 g] [] 0 (.sl (kZ s b g).length ((kZ s b g).map bo)) [] 0:=by
 have e0q:=hs.ents;have c0:=Dx (G:=G) b g hb hg;have c1:=MR (G:=G) s.ents om;have k0:=HG hb hg;have hSl:=zC s.ents;have hSm:=zD s.ents;have zQ:=hs.app.2.2.2;have RE:=hs.app.1;generalize hR:kZ s b g=R;unfold kZ at hR;generalize uy s.ents=S at *;generalize xk b g=lm at *;obtain⟨ZW,ok0⟩:=lm;dsimp only at c0 k0 hR;refine dK seat Tryz.func228 74 ?_;refine aa ?_;refine aK (src (c0)) rfl rfl aA (by kernel_rfl) ?_;refine aa ?_;cases ok0 with
 | false=>
  rw [if_pos rfl] at hR;subst hR;refine aa ?_;refine au ?_;exact en [_]
 | true=>
  rw [if_neg sm] at hR;refine aa ?_;refine aK (c1) rfl rfl aA (by kernel_rfl) ?_;refine aa ?_;refine av (Nat×Kk×eh×List (List UInt8)) (fun x=> [(32, .int .i64 x.1),(31, .int .i64 s.ents.length),(30, .sl s.ents.length (S.map bU)),(9, .ms 3 1 0 x.2.2.2.length),(10, .ptr 2 2 0 0 []),(7, .ptr 1 3 0 0 []),(3, .ptr 0 25 0 0 [])]) (fun x=> [(0,⟨75,25,false,0,[il s]⟩),(1,⟨321,3,false,0,[Vv x.2.1]⟩),(2,⟨33,2,false,0,[eo x.2.2.1]⟩),(3,⟨41,1,true,0,x.2.2.2.map bo⟩)]) 4 (fun x=>x.1≤s.ents.length∧Jt x.2.1∧fG x.2.2.1∧x.2.2.2.length≤x.1∧jC s.app.price (S.drop x.1) x.2.1 x.2.2.1 x.2.2.2=R) (fun x=>s.ents.length - x.1) (0,ZW,s.app.com,[]) ⟨a₁ _,k0,RE,a₂ _,by dsimp only;rw [b₂];exact hR⟩ (by dsimp only;exact(vm [(0,_),(1,_),(2,_)] [])) ?_;clear hR c0 c1 k0 RE;rintro⟨k,rs,lg,out⟩ ⟨hk,qv,RE,OE,hI⟩;try dsimp only
  dsimp only at hk qv RE OE hI;refine aa ?_;refine ad rfl ?_ ?_ <;> intro h
  ·have aC:k < s.ents.length:=by have:=ot h;omega
   have aH:=aj.mk (MT hSl (show k < S.length by omega));have uP:=hs.entk _ (hSm _ (a₄ (show k < S.length by omega)));rw [a₉ (show k < S.length by omega),jC] at hI;generalize S[k] =e at *;obtain⟨gs,RM⟩: ∃gs:Nat,e.gas=gs:=⟨e.gas.toNat,by have:=uP.gas;omega⟩
   have hgu:bm gs:=by have:=uP.gas;unfold bm;omega
   have qu:=uP.raw;have d1:=MQ (G:=G) rs e gs RM qv om hgu;have d2:=Jg (G:=G) lg s.app.price e.raw RE zQ om;have o1:=Dy (n:=e.raw.length) (gas:=gs) qv;have o2:=kW (p:=s.app.price) (raw:=e.raw) RE;rw [show e.gas.toNat=gs by omega] at hI;clear uP;generalize ou rs e.raw.length gs=tk at *;generalize qx lg s.app.price e.raw=tx at *;obtain⟨rs2,fits⟩:=tk;obtain⟨lg2,r⟩:=tx;dsimp only at d1 d2 o1 o2 hI;refine aa ?_;refine aK (src (d1)) rfl rfl aA (by kernel_rfl) ?_;refine aa ?_;refine aK (d2) rfl rfl aA (by kernel_rfl) ?_;refine aa ?_;cases fits with
   | false=>
    rw [if_neg sm] at hI;refine aa ?_;exact⟨(k + 1,rs,lg,out),⟨dm,qv,RE,dm,hI⟩,dm,(by dsimp only;exact(vm [(0,_),(1,_),(2,_),(3,_)] []))⟩
   | true=>
    refine aa ?_;refine ag rfl rfl ?_ rfl ?_ <;> intro h
    ·have h1:r.code=0:=by have:=ot h;omega
     refine aa ?_;refine ad rfl ?_ ?_ <;> intro h
     ·have h2:=ot h;rw [if_pos ⟨rfl,h1,om⟩] at hI;have qw:cutL (u8s e.raw) 0 (0 + e.raw.length)=u8s e.raw:=by rw [cut_u8,b₂,c₃,Nat.sub_zero,b₇]
      have hsf:=bH.mk (show 0 + e.raw.length≤(u8s e.raw).length by simp [u8s]);obtain⟨W,hW⟩: ∃W,W=out ++ [e.raw] :=⟨_,rfl⟩
      have Sy:W.length=out.length + 1:=by rw [hW];simp
      rw [← hW] at hI;refine aa ?_;refine al [ae 0,ae 1,ae 2,ae 3] ?_;refine aa ?_;refine aO rfl rfl (by intro R hR;refine da hR ?_;refine a₀ ((bX e.raw)) ?_;refine a₀ ⟨rfl,ai (by kernel_rfl) pf⟩ ?_;refine⟨u8s e.raw,sv (by show [] ++ u8s e.raw=_;rw [a₇]),e.raw.length,sv pf,?_⟩;exact hR) rfl ?_;refine aa ?_;refine aO rfl rfl (by intro R hR;refine da hR ?_;(refine a₀ (a₂ _) ?_;refine⟨_,rfl,?_⟩;refine a₀ ⟨sm,ai (by kernel_rfl) pf⟩ ?_;refine⟨W.map bo,sv (by rw [hW,b₉];show _ ++ [MV.sl e.raw.length (cutL (u8s e.raw) 0 (0 + e.raw.length))] =_;rw [qw];rfl),W.length,sv pf,?_⟩);exact hR) rfl ?_;refine aa ?_;exact⟨(k + 1,rs2,lg2,W),⟨dm,o1,o2.1,dm,hI⟩,dm,(by dsimp only;exact(vm [(0,_),(1,_),(2,_),(3,_)] []))⟩
     ·have h2:=oF h;rw [if_neg (fun hx=>h2 (by have:=hx.2.2;omega))] at hI;refine aa ?_;exact⟨(k + 1,rs,lg,out),⟨dm,qv,RE,dm,hI⟩,dm,(by dsimp only;exact(vm [(0,_),(1,_),(2,_),(3,_)] []))⟩
    ·have h1:=oF h;rw [if_neg (fun hx=>h1 (by have:=hx.2.1;omega))] at hI;refine aa ?_;exact⟨(k + 1,rs,lg,out),⟨dm,qv,RE,dm,hI⟩,dm,(by dsimp only;exact(vm [(0,_),(1,_),(2,_),(3,_)] []))⟩
  ·have aC:k=S.length:=by have:=oF h;omega
   subst aC;rw [b₆,jC] at hI;subst hI;refine aa ?_;refine au ?_;refine⟨[_],[],[(3,out.length)],rfl,rfl,?_,rfl,⟨?_,trivial⟩,?_⟩
   ·exact⟨by show out.length≤(out.map bo).length;simp,trivial⟩
   ·exact .inr ⟨rfl,rfl,rfl,c₂ (c₃ _),bc bo out⟩
   ·exact mm
abbrev ZN (r:MV):Prop:= ∃v:Int,r= .int .i64 v∧cQ v
theorem QF [FX:Fx] {B:Nat} (s:kE) (raws:List (List UInt8)) (b g:Int) (hs:eE B s) (hb:cQ b) (hg:cQ g) (hn:raws.length≤1000) (hr: ∀x∈raws,x.length≤4096):cY Tryz.prog G 233 [il s,ee raws, .int .i64 b, .int .i64 g] ZN:=by
 have c0:=Dx (G:=G) b g hb hg;have k0:=HG hb hg;have c1:=Mo (G:=G) raws om (fun x hx=>by have:=hr x hx;omega);have c2:=L3 (G:=G) s.app.com s.app.price raws hs.app.1 hs.app.2.2.2 om (fun x hx=>by have:=hr x hx;omega);have i0:cQ 0:=by simp [cQ]
 have i1:cQ 1:=by simp [cQ]
 have i3:cQ 3:=by simp [cQ]
 have vk:cQ ((gD s.app.price raws 0 s.app.com).2.2:Int):=by
  have: ∀(r:List (List UInt8)) (i:Nat) (l:eh),fG l→(gD s.app.price r i l).2.2≤1000:=by
   intro r
   induction r with
   | nil=>intro i l _;simp [gD]
   | cons x r ih=>
    intro i l hl;have eP:=kW (p:=s.app.price) (raw:=x) hl;unfold gD;split
    ·exact eP.2.1
    ·exact ih _ _ eP.1
  have:=this raws 0 s.app.com hs.app.1;unfold cQ;omega
 generalize gD s.app.price raws 0 s.app.com=sg at *;obtain⟨lgs,er,es⟩:=sg;generalize xk b g=lm at *;obtain⟨ZW,ok0⟩:=lm;dsimp only at c0 k0 c2 vk;unfold ee at *;unfold cY;refine seq' seat Tryz.func233 76 ?_;refine aa ?_;refine aK (src (c0)) rfl rfl aA (by kernel_rfl) ?_;refine aa ?_;cases ok0 with
 | false=>
  refine aa ?_;(refine ij [_] (⟨1,rfl,i1⟩) (by kernel_rfl) ?_;(refine au ?_);exact rfl)
 | true=>
  refine aa ?_;refine ag rfl rfl ?_ rfl ?_ <;> intro h
  ·refine aa ?_;refine aK (src (c1)) rfl rfl aA (by kernel_rfl) ?_;refine aa ?_;refine ad rfl ?_ ?_ <;> intro h
   ·refine aa ?_;(refine ij [_] (⟨3,rfl,i3⟩) (by kernel_rfl) ?_;(refine au ?_);exact rfl)
   ·refine aa ?_;refine aK (c2) rfl rfl aA (by kernel_rfl) ?_;refine aa ?_;refine ad rfl ?_ ?_ <;> intro h
    ·refine aa ?_;(refine ij [_] (⟨(es:Int),rfl,vk⟩) (by kernel_rfl) ?_;(refine au ?_);exact rfl)
    ·refine aa ?_;refine av (Nat×Kk) (fun x=> [(54, .int .i64 x.1),(53, .int .i64 raws.length),(52, .sl raws.length (raws.map bo)),(9, .ptr 0 3 0 0 [])]) (fun x=> [(0,⟨321,3,false,0,[Vv x.2]⟩)]) 1 (fun x=>x.1≤raws.length∧Jt x.2) (fun x=>raws.length - x.1) (0,ZW) ⟨a₁ _,k0⟩ (by dsimp only;exact(vm [(0,_)] [])) ?_;clear c0 c1 c2 k0;rintro⟨k,rs⟩ ⟨hk,qv⟩;try dsimp only
     dsimp only at hk qv;refine aa ?_;refine ad rfl ?_ ?_ <;> intro h
     ·have aC:k < raws.length:=by have:=ot h;omega
      have aH:=iC aC;have kS:=hr _ (a₄ aC);generalize raws[k] =raw at *;replace aH:bI (raws.map bo) raws.length (k:Int)=some (.sl raw.length (u8s raw)):=aH;have aH:=aj.mk aH;have d0:=wZ (G:=G) raw om;have eP:=jS (raw:=raw);generalize aW raw=dt at *;obtain⟨t,et⟩:=dt;dsimp only at d0 eP;have d1:=MQ (G:=G) rs ⟨a₃ 32 0,raw,[],0,t.gas,0,0,0,0,[]⟩ t.gas rfl qv dm eP.2.2.1;have o1:=Dy (n:=raw.length) (gas:=t.gas) qv;generalize ou rs raw.length t.gas=tk at *;obtain⟨rs2,fits⟩:=tk;dsimp only at d1 o1;refine aa ?_;refine aK (d0) rfl rfl aA (by kernel_rfl) ?_;refine aa ?_;refine dZ (d1) ?_;cases fits with
      | false=>
       refine aa ?_;(refine ij [_] (⟨3,rfl,i3⟩) (by kernel_rfl) ?_;(refine au ?_);exact rfl)
      | true=>
       refine aa ?_;exact⟨(k + 1,rs2),⟨dm,o1⟩,dm,(by dsimp only;exact(vm [(0,_)] []))⟩
     ·refine aa ?_;(refine ij [_] (⟨0,rfl,i0⟩) (by kernel_rfl) ?_;(refine au ?_);exact rfl)
  ·refine aa ?_;(refine ij [_] (⟨3,rfl,i3⟩) (by kernel_rfl) ?_;(refine au ?_);exact rfl)
theorem T4 (m:Nat) (k:Nat) (j:Int) (hj:(min j.toNat IntKind.i64.bits)=k):((m:Int).fdiv (2 ^ (min j.toNat IntKind.i64.bits)))=((m / 2 ^ k:Nat):Int):=by
 rw [hj,Int.fdiv_eq_ediv_of_nonneg _ (Int.le_of_lt (Int.pow_pos om)),Int.natCast_ediv,Int.natCast_pow];rfl
theorem DE (log raw:List UInt8) (hl:log.length≤16777216) (hr:raw.length≤5000000):cY Tryz.prog G 230 [.sl log.length (u8s log), .sl raw.length (u8s raw)] (fun r=> ∃(out:List UInt8) (e:Int),r= .tup [.sl out.length (u8s out), .int .i64 e] ∧cQ e∧out.length≤16777216):=by
 have c1:=nS (G:=G) raw om;have hq:=gk raw;generalize iH raw=q at *;have i0:cQ 0:=by simp [cQ]
 have i3:cQ 3:=by simp [cQ]
 obtain⟨n,hn⟩: ∃n,n=raw.length:=⟨_,rfl⟩
 have s1:=aX.mk (T4 n 24 24 rfl);have s2:=aX.mk (T4 n 16 16 rfl);have s3:=aX.mk (T4 n 8 8 rfl);have w0:=aX.mk (Ps n);have w1:=aX.mk (Ps (n / 2 ^ 24));have w2:=aX.mk (Ps (n / 2 ^ 16));have w3:=aX.mk (Ps (n / 2 ^ 8));obtain⟨W1,hW1⟩: ∃W,W=log ++ [UInt8.ofNat (n / 2 ^ 24),UInt8.ofNat (n / 2 ^ 16),UInt8.ofNat (n / 2 ^ 8),UInt8.ofNat n] :=⟨_,rfl⟩
 have yz:W1.length=log.length + 4:=by rw [hW1];simp
 obtain⟨W2,uR⟩: ∃W,W=W1 ++ q.take 4:=⟨_,rfl⟩
 have nd:W2.length=log.length + 8:=by rw [uR,b₁,b₈];omega
 obtain⟨W3,SU⟩: ∃W,W=W2 ++ raw:=⟨_,rfl⟩
 have xL:W3.length=log.length + 8 + raw.length:=by rw [SU,b₁];omega
 unfold cY;refine seq' seat Tryz.func230 46 ?_;refine aa ?_;refine ag rfl rfl ?_ rfl ?_ <;> intro h
 ·have k1:=oF h;refine aa ?_;refine ad rfl ?_ ?_ <;> intro h
  ·refine aa ?_;(refine bB [_,_] (by(refine au ?_);exact rfl) (by kernel_rfl) (⟨[],3,rfl,i3,a₁ _⟩))
  ·have k2:=oF h;refine aa ?_;refine aK (src (c1)) rfl rfl aA (by kernel_rfl) ?_;refine aa ?_;refine aO rfl rfl (by intro R hR;refine da hR ?_;refine a₀ ((bX log)) ?_;refine a₀ ⟨rfl,ai (by kernel_rfl) pf⟩ ?_;refine⟨u8s log,sv (by show [] ++ u8s log=_;rw [a₇]),log.length,sv pf,?_⟩;exact hR) rfl ?_;simp only [← hn];refine aa ?_;refine aO rfl rfl (by intro R hR;refine da hR ?_;refine a₀ ((a₂ _)) ?_;refine⟨_,rfl,?_⟩;refine a₀ ⟨(by simp [u8s]),ai (by kernel_rfl) pf⟩ ?_;refine⟨u8s W1,sv (by rw [hW1];simp [u8s,setL,repM,cutL]),W1.length,sv pf,?_⟩;exact hR) rfl ?_;refine aa ?_;have hc4:cutL (u8s q) 0 4=u8s (q.take 4):=by simp [cutL,u8s,List.map_take]
   have hh4:bg (cutL (u8s q) 0 4) 1=true:=by rw [hc4];exact bX _
   refine aO rfl rfl (by intro R hR;refine da hR ?_;refine a₀ ((hh4)) ?_;refine a₀ ⟨(by simp [u8s]),ai (by kernel_rfl) pf⟩ ?_;refine⟨u8s W2,sv (by rw [uR];simp [u8s,cutL,List.map_take]),W2.length,sv pf,?_⟩;exact hR) rfl ?_;refine aa ?_;refine aO rfl rfl (by intro R hR;refine da hR ?_;refine a₀ ((bX raw)) ?_;refine a₀ ⟨(by simp [u8s]),ai (by kernel_rfl) pf⟩ ?_;refine⟨u8s W3,sv (by rw [SU];simp [u8s]),W3.length,sv pf,?_⟩;exact hR) rfl ?_;refine Vu ?_;refine zz ([(4, .sl W3.length (u8s W3)),(5, .int .i64 0)]) ([]) (0) (vm [] [(41,W3.length)]) ?_;refine aa ?_;(refine bB [_,_] (by(refine au ?_);exact rfl) (by kernel_rfl) (⟨W3,0,rfl,i0,om⟩))
 ·refine aa ?_;(refine bB [_,_] (by(refine au ?_);exact rfl) (by kernel_rfl) (⟨[],3,rfl,i3,a₁ _⟩))
end
section
def BC (b:dM):List fq:=⟨1,2,0,fm b.hd⟩ :: b.txs.map fun x=>⟨2,2,0,x⟩
def r7 (b:dM):List UInt8:=aG (BC b)
structure dG (b:dM):Prop where
 hd:kX b.hd
 n:b.txs.length≤1000
 len: ∀x∈b.txs,x.length≤4096
theorem xn {b:dM} (h:dG b):(∀f∈BC b,jo f∧f.bytes.length≤4096)∧(BC b).length≤1001:=by
 refine⟨fun f hf=>?_,?_⟩
 ·rcases c₁.1 hf with rfl | hf
  ·have:=jY h.hd;exact⟨od om om om,dm⟩
  ·obtain⟨x,hx,rfl⟩:=List.mem_map.1 hf;have:=h.len x hx;exact⟨od om om om,this⟩
 ·have:=h.n;unfold BC;rw [b₅,List.length_map];omega
theorem vj {b:dM} (h:dG b):(r7 b).length≤4200000:=by
 have h1:=fJ 4096 _ (xn h).1;have h2:=(xn h).2;unfold r7;have:(BC b).length * (4096 + 20)≤1001 * (4096 + 20):=Nat.mul_le_mul_right _ h2;omega
theorem Jw {b:dM} (h:dG b):aF (r7 b)=(BC b,0,0):=by
 have h1:=xn h;have:=kf (BC b) 1024 0 [] (fun f hf=>(h1.1 f hf).1) om;rw [a₇] at this;exact this
theorem zE {h:zo} (hk:kX h):aF (fm h)=(iT h,0,0):=by
 have:=kf (iT h) 1024 0 [] (fun f hf=>(FH hk f hf).1) (by simp [iT]);rw [a₇] at this;exact this
theorem HI {x:Int} (h:0≤x):((natP x:Nat):Int)=x:=by unfold natP;omega
end
section
variable {G:GS}
attribute [local irreducible] ak aB aD aJ aQ vC aY aw
theorem i7 (b:dM) (h:dG b):aT Tryz.prog G 216 [blkM b] [] 0 (.sl (r7 b).length (u8s (r7 b))) [] 0:=by
 have c1:=xe (G:=G) b.hd h.hd;have hn:=h.n;have hF: ∃F,BC b=F∧F.length=b.txs.length + 1∧F.take 1= [⟨1,2,0,fm b.hd⟩] ∧∀k (hk:k < b.txs.length),F.take (k + 1 + 1)=F.take (k + 1) ++ [⟨2,2,0,b.txs[k]⟩] :=by
  refine⟨_,rfl,by simp [BC],rfl,fun k hk=>?_⟩;have pV:k + 1 < (BC b).length:=by simp [BC];omega
  rw [b₃ pV];congr 2;simp [BC]
 have c2:=oZ (G:=G) (BC b) (fun f hf=>((xn h).1 f hf).1) (by have:=vj h;unfold r7 at this;omega) (by have:=(xn h).2;omega);unfold r7;obtain⟨F,hFe,hFl,hF1,Zi⟩:=hF;rw [hFe] at c2 ⊢;clear hFe h;generalize aG F=R at *;obtain⟨hd,txs⟩:=b;dsimp only at *;generalize fm hd=H at *;refine dK seat Tryz.func216 26 ?_;refine aa ?_;refine aK (c1) rfl rfl aA (by kernel_rfl) ?_;refine aa ?_;refine av (Nat×List fq) (fun x=> [(14, .int .i64 x.1),(13, .int .i64 txs.length),(12, .sl txs.length (txs.map bo)),(3, .ms 0 4 0 x.2.length)]) (fun x=> [(0,⟨183,4,true,0,x.2.map cj⟩)]) 1 (fun x=>x.1≤txs.length∧x.2=F.take (x.1 + 1)) (fun x=>txs.length - x.1) (0,[⟨1,2,0,H⟩]) ⟨a₁ _,hF1.symm⟩ (by dsimp only;exact(vm [(0,_)] [])) ?_;rintro⟨k,W⟩ ⟨hk,hW⟩;try dsimp only
 dsimp only at hk hW;have Sy:W.length=k + 1:=by rw [hW,b₈];omega
 refine aa ?_;refine ad rfl ?_ ?_ <;> intro h
 ·have aC:k < txs.length:=by have:=ot h;omega
  have aH:=aj.mk (iC aC);have uR:=Zi k aC;rw [← hW] at uR;generalize txs[k] =x at *;refine aa ?_;obtain⟨W2,SU⟩: ∃W2:List fq,W2=W ++ [⟨2,2,0,x⟩] :=⟨_,rfl⟩
  have J5:W2.length=k + 1 + 1:=by rw [SU];simp;omega
  refine aO rfl rfl (by intro R hR;refine da hR ?_;(refine a₀ (a₂ _) ?_;refine⟨_,rfl,?_⟩;refine a₀ ⟨sm,ai (by kernel_rfl) pf⟩ ?_;refine⟨W2.map cj,sv (by rw [SU];simp;rfl),W2.length,sv pf,?_⟩);exact hR) rfl ?_;refine aa ?_;exact⟨(k + 1,W2),⟨dm,SU.trans uR.symm⟩,dm,(by dsimp only;exact(vm [(0,_)] []))⟩
 ·have aC:k=txs.length:=by have:=oF h;omega
  subst aC;have hWF:W=F:=by rw [hW,← hFl,b₇]
  subst hWF;refine aa ?_;refine bF rfl aA rfl (c2) [] [(0,W.length)] ⟨rfl,mm,rfl,lm,mm⟩ rfl rfl ?_;refine aa ?_;(refine Ss [_] rfl (by kernel_rfl) ?_;(refine au ?_);exact rfl)
theorem zF (b:dM) (hb:dG b):cY Tryz.prog G 229 [blkM b] (fun r=> ∃(raw:List UInt8) (e:Int),r= .tup [.sl raw.length (u8s raw), .int .i64 e] ∧cQ e∧(e=0→raw=r7 b∧(1≤b.hd.height∧b.hd.height≤1073741824)∧(1≤b.hd.time∧b.hd.time≤1099511627776)∧0≤b.hd.prop∧(r7 b).length≤2097152)):=by
 have c1:=i7 (G:=G) b hb;have hl:=vj hb;have hn:=hb.n;clear hb;generalize r7 b=R at *;obtain⟨⟨height,time,prop,par,txs,app,res⟩,l⟩:=b;dsimp only at *;have Bz:((1:Int)=0→([] :List UInt8)=R∧(1≤height∧height≤1073741824)∧(1≤time∧time≤1099511627776)∧0≤prop∧R.length≤2097152):=fun h=>absurd h (by decide)
 have Uv:((3:Int)=0→([] :List UInt8)=R∧(1≤height∧height≤1073741824)∧(1≤time∧time≤1099511627776)∧0≤prop∧R.length≤2097152):=fun h=>absurd h (by decide)
 have i1:cQ 1:=by simp [cQ]
 have i3:cQ 3:=by simp [cQ]
 have i0:cQ 0:=by simp [cQ]
 unfold cY;refine seq' seat Tryz.func229 46 ?_;refine aa ?_;refine ag rfl rfl ?_ rfl ?_ <;> intro h
 ·have k1:=oF h;refine aa ?_;refine ag rfl rfl ?_ rfl ?_ <;> intro h
  ·have k2:=oF h;refine aa ?_;refine ag rfl rfl ?_ rfl ?_ <;> intro h
   ·have k3:=oF h;refine aa ?_;refine ag rfl rfl ?_ rfl ?_ <;> intro h
    ·have k4:=oF h;refine aa ?_;refine ag rfl rfl ?_ rfl ?_ <;> intro h
     ·have k5:=oF h;refine aa ?_;refine ad rfl ?_ ?_ <;> intro h
      ·refine aa ?_;(refine bB [_,_] (by(refine au ?_);exact rfl) (by kernel_rfl) (⟨[],1,rfl,i1,Bz⟩))
      ·refine aa ?_;refine ad rfl ?_ ?_ <;> intro h
       ·refine aa ?_;(refine bB [_,_] (by(refine au ?_);exact rfl) (by kernel_rfl) (⟨[],3,rfl,i3,Uv⟩))
       ·refine aa ?_;refine aK (c1) rfl rfl aA (by kernel_rfl) ?_;refine aa ?_;refine ad rfl ?_ ?_ <;> intro h
        ·refine aa ?_;(refine bB [_,_] (by(refine au ?_);exact rfl) (by kernel_rfl) (⟨[],3,rfl,i3,Uv⟩))
        ·have k6:=oF h;dsimp only at k1 k2 k3 k4 k5 k6;refine aa ?_;(refine bB [_,_] (by(refine au ?_);exact rfl) (by kernel_rfl) (⟨R,0,rfl,i0,fun _=>⟨rfl,om,om,om,om⟩⟩))
     ·refine aa ?_;(refine bB [_,_] (by(refine au ?_);exact rfl) (by kernel_rfl) (⟨[],1,rfl,i1,Bz⟩))
    ·refine aa ?_;(refine bB [_,_] (by(refine au ?_);exact rfl) (by kernel_rfl) (⟨[],1,rfl,i1,Bz⟩))
   ·refine aa ?_;(refine bB [_,_] (by(refine au ?_);exact rfl) (by kernel_rfl) (⟨[],1,rfl,i1,Bz⟩))
  ·refine aa ?_;(refine bB [_,_] (by(refine au ?_);exact rfl) (by kernel_rfl) (⟨[],1,rfl,i1,Bz⟩))
 ·refine aa ?_;(refine bB [_,_] (by(refine au ?_);exact rfl) (by kernel_rfl) (⟨[],1,rfl,i1,Bz⟩))
def hd0:zo:=⟨0,0,0,a₃ 32 0,a₃ 32 0,a₃ 32 0,a₃ 32 0⟩
theorem hd0_ok:kX hd0:=⟨by simp [hd0,cQ],by simp [hd0,cQ],by simp [hd0,cQ],by simp [hd0],by simp [hd0],by simp [hd0],by simp [hd0]⟩
def xp (ks:List (List UInt8)):MV:= .arr 4 32 (ks.map keyM)
theorem T5 {ks:List (List UInt8)} {i:Nat} (hi:i < ks.length):cE (ks.map keyM) i=some (keyM ks[i]):=by
 rw [bZ];simp [hi]
theorem T6 {ks:List (List UInt8)} {i j:Nat} (hi:i < ks.length) (hj:j < ks[i].length) (x:UInt8):fk (xp ks) ([] ++ [i] ++ [j]) (0 + i * 32 + j * 1) (yt x)=some (xp (ks.set i (ks[i].set j x))):=by
 have h1:=jP hj x
 show(match cE (ks.map keyM) i with | some m=>bif Nat.ble (i * 32) (0 + i * 32 + j * 1) && (yt x).idFree then(match fk m [j] (0 + i * 32 + j * 1 - i * 32) (yt x) with | some m'=>some (MV.arr 4 32 (setL (ks.map keyM) i m')) | none=>none) else none | none=>none)=_
 rw [T5 hi];have e1:Nat.ble (i * 32) (0 + i * 32 + j * 1)=true:=by rw [Nat.ble_eq];omega
 have e2:0 + i * 32 + j * 1 - i * 32=0 + j * 1:=om;dsimp only;rw [e1,e2];rw [show ([j] :List Nat)= [] ++ [j] from rfl,h1]
 show some (MV.arr 4 32 (setL (ks.map keyM) i (keyM (ks[i].set j x))))=_
 rw [setL_eq];unfold xp;rw [List.map_set]
theorem ow {l:List fq} {k:Nat} (hk:k < l.length): ∃(num kind val:Nat) (bytes:List UInt8),l[k]? =some ⟨num,kind,val,bytes⟩∧aj (bI (l.map cj) l.length (k:Int)) (.st [.int .i64 num, .int .i64 kind, .int .u64 val, .sl bytes.length (u8s bytes)]):=
 ⟨l[k].num,l[k].kind,l[k].val,l[k].bytes,by rw [List.getElem?_eq_getElem hk],aj.mk (oW hk)⟩
structure ZO (ks:List (List UInt8)):Prop where
 n:ks.length=4
 k: ∀x∈ks,x.length=32
abbrev RH (b:List UInt8) (r:MV):Prop:= ∃(h:zo) (ok:Bool),r= .tup [hdM h, .bool ok] ∧kX h∧(ok=true→fm h=b∧0≤h.height∧0≤h.time∧0≤h.prop)
theorem QG (b:List UInt8) (hb:b.length≤5000000):cY Tryz.prog G 269 [.sl b.length (u8s b)] (RH b):=by
  have c1:=rD (G:=G) b om;have hf:=fT b;generalize aF b=F at *;obtain⟨l,at_,e⟩:=F;dsimp only at c1 hf;have bad: ∀h:zo,kX h→RH b (.tup [hdM h, .bool false]):=fun h hk=>⟨h,false,rfl,hk,fun h=>Bool.noConfusion h⟩
  have Vn:=bad hd0 hd0_ok;unfold cY;refine seq' seat Tryz.func269 102 ?_;refine aa ?_;refine aK (c1) rfl rfl aA (by kernel_rfl) ?_;refine aa ?_;refine ag rfl rfl ?_ rfl ?_ <;> intro h
  · have k0:e=0:=by simpa using h
    refine aa ?_;refine ad rfl ?_ ?_ <;> intro h
    · refine aa ?_;(refine ij [_,_] (Vn) (by kernel_rfl) ?_;(refine au ?_);exact rfl)
    · have k7:l.length=7:=by
        have h7:(l.length:Int)=7:=by simpa using h
        omega
      refine aa ?_;refine av Nat (fun i=> [(8, .int .i64 i),(7, .ptr 1 131 0 0 []),(4, .sl l.length (l.map cj)),(2, .ptr 0 131 0 0 []),(0, .sl b.length (u8s b))]) (fun _=> [(0,⟨79,131,false,0,[Sp]⟩),(1,⟨79,131,false,0,[Sp]⟩)]) 2 (fun i=>i≤3∧∀j < i,∀f,l[j]? =some f→f.val≤9223372036854775807) (fun i=>3 - i) 0 ⟨a₁ _,fun j hj=>absurd hj om⟩ (vm [(0,_),(1,_)] []) ?_;rintro i ⟨hi,hI⟩;try dsimp only
      refine aa ?_;refine ad rfl ?_ ?_ <;> intro h
      · have gS:i < 3:=by have:=ot h;omega
        obtain⟨num,kind,val,bytes,hf,aH⟩:=ow (l:=l) (k:=i) om;refine aa ?_;refine ad rfl ?_ ?_ <;> intro h
        · refine aa ?_;(refine ij [_,_] (Vn) (by kernel_rfl) ?_;(refine au ?_);exact rfl)
        · have hv:val≤9223372036854775807:=by have:=oF h;omega
          refine aa ?_;refine⟨i + 1,⟨om,fun j hj f hfj=>?_⟩,dm,(by dsimp only;exact(vm [(0,_),(1,_)] []))⟩;by_cases Zr:j < i
          · exact hI j Zr f hfj
          · rw [show j=i by omega,hf] at hfj;cases hfj;exact hv
      · have hi3:i=3:=by have:=oF h;omega
        subst hi3;obtain⟨n0,d0,v0,b0,e0,f0⟩:=ow (l:=l) (k:=0) om;obtain⟨n1,d1,v1,b1,e1,f1⟩:=ow (l:=l) (k:=1) om;obtain⟨n2,d2,v2,b2,e2,f2⟩:=ow (l:=l) (k:=2) om;have w0:v0≤9223372036854775807:=hI 0 om _ e0;have w1:v1≤9223372036854775807:=hI 1 om _ e1;have w2:v2≤9223372036854775807:=hI 2 om _ e2;replace f0:aj (bI (l.map cj) l.length (0:Int)) _:=f0;replace f1:aj (bI (l.map cj) l.length (1:Int)) _:=f1;replace f2:aj (bI (l.map cj) l.length (2:Int)) _:=f2;clear e0 e1 e2 hI;refine aa ?_;refine al [ae 0,ae 1,ae 2,ae 3,ae 4,ae 5,ae 6,ae 7,ae 8,ae 9,ae 10,ae 11,ae 12,ae 13,ae 14,ae 15,ae 16,ae 17,ae 18,ae 19,ae 20] ?_;refine aa ?_;obtain⟨h1,VF⟩: ∃h1:zo,h1=⟨v0,v1,v2,a₃ 32 0,a₃ 32 0,a₃ 32 0,a₃ 32 0⟩:=⟨_,rfl⟩
        have h1k:kX h1:=by rw [VF];exact⟨by simp [cQ];omega,by simp [cQ];omega,by simp [cQ];omega,sm,sm,sm,sm⟩
        have Bz:=bad h1 h1k;rw [VF] at Bz;refine av (Nat×List (List UInt8)) (fun x=> [(55, .int .i64 x.1),(9, .ptr 2 128 0 0 []),(7, .ptr 1 131 0 0 []),(4, .sl l.length (l.map cj)),(2, .ptr 0 131 0 0 []),(0, .sl b.length (u8s b))]) (fun x=> [(0,⟨79,131,false,0,[Sp]⟩),(1,⟨79,131,false,0,[.st [.int .i64 v0, .int .i64 v1, .int .i64 v2,keyZ,keyZ,keyZ,keyZ]]⟩),(2,⟨272,128,false,0,[xp x.2]⟩)]) 3 (fun x=>x.1≤4∧ZO x.2) (fun x=>4 - x.1) (0,a₃ 4 (a₃ 32 0)) ⟨a₁ _,⟨rfl,sm⟩⟩ (vm [(0,_),(1,_),(2,_)] []) ?_;rintro⟨i,ks⟩ ⟨hi,Er⟩;try dsimp only
        dsimp only at hi Er;refine aa ?_;refine ad rfl ?_ ?_ <;> intro h
        · have gS:i < 4:=by have:=ot h;omega
          obtain⟨num,kind,val,bytes,hf,aH⟩:=ow (l:=l) (k:=i + 3) om;replace aH:aj (bI (l.map cj) l.length ((i:Int) + 3)) _:=aH;refine aa ?_;refine ad rfl ?_ ?_ <;> intro h
          · refine aa ?_;(refine ij [_,_] (Bz) (by kernel_rfl) ?_;(refine au ?_);exact rfl)
          · have kS:bytes.length=32:=by
              have:(bytes.length:Int)=32:=by simpa using h
              omega
            refine aa ?_;refine av (Nat×List (List UInt8)) (fun x=> [(67, .int .i64 x.1),(10, .int .i64 i),(55, .int .i64 i),(9, .ptr 2 128 0 0 []),(7, .ptr 1 131 0 0 []),(4, .sl l.length (l.map cj)),(2, .ptr 0 131 0 0 []),(0, .sl b.length (u8s b))]) (fun x=> [(0,⟨79,131,false,0,[Sp]⟩),(1,⟨79,131,false,0,[.st [.int .i64 v0, .int .i64 v1, .int .i64 v2,keyZ,keyZ,keyZ,keyZ]]⟩),(2,⟨272,128,false,0,[xp x.2]⟩)]) 3 (fun x=>x.1≤32∧ZO x.2) (fun x=>32 - x.1) (0,ks) ⟨a₁ _,Er⟩ (by dsimp only;exact(vm [(0,_),(1,_),(2,_)] [])) ?_;rintro⟨j,U3⟩ ⟨hj,pV⟩;try dsimp only
            dsimp only at hj pV;refine aa ?_;refine ad rfl ?_ ?_ <;> intro h
            · have OA:j < 32:=by have:=ot h;omega
              have sM:=aj.mk (Fm (l:=bytes) (k:=j) om);have na:i < U3.length:=by rw [pV.n];exact gS
              have mZ:U3[i].length=32:=pV.k _ (a₄ na);have vk:=aj.mk (T6 na (j:=j) om bytes[j]);have hk3:ZO (U3.set i (U3[i].set j bytes[j])):=⟨by rw [c₅];exact pV.n,fun x hx=>by
                rcases List.mem_or_eq_of_mem_set hx with hx | rfl
                · exact pV.k x hx
                · rw [c₅];exact mZ⟩
              generalize U3.set i (U3[i].set j bytes[j])=ks3 at *;generalize bytes[j] =y at *;refine aa ?_;refine al [ae 0,ae 1,ae 2,ae 3,ae 4,ae 5,ae 6,ae 7,ae 8,ae 9,ae 10,ae 11,ae 12,ae 13] ?_;refine aa ?_;exact⟨(j + 1,ks3),⟨dm,hk3⟩,dm,(by dsimp only;exact(vm [(0,_),(1,_),(2,_)] []))⟩
            · refine aa ?_;exact⟨(i + 1,U3),⟨dm,pV⟩,dm,(by dsimp only;exact(vm [(0,_),(1,_),(2,_)] []))⟩
        · obtain⟨kn,kk⟩:=Er
          match ks,kn,kk with
          | [k0,k1,k2,k3],_,kk=>
            have q0:=kk k0 sm;have q1:=kk k1 sm;have q2:=kk k2 sm;have q3:=kk k3 sm;have ho:kX ⟨v0,v1,v2,k0,k1,k2,k3⟩:=⟨by simp [cQ];omega,by simp [cQ];omega,by simp [cQ];omega,q0,q1,q2,q3⟩;have d1:=xe (G:=G) _ ho;have d2:=vd (G:=G) (fm ⟨v0,v1,v2,k0,k1,k2,k3⟩) b;have fin:(fm ⟨v0,v1,v2,k0,k1,k2,k3⟩ == b)=true→fm ⟨v0,v1,v2,k0,k1,k2,k3⟩=b:=fun h=>by simpa using h
            have good:RH b (.tup [hdM ⟨v0,v1,v2,k0,k1,k2,k3⟩, .bool (fm ⟨v0,v1,v2,k0,k1,k2,k3⟩ == b)]):=⟨_,_,rfl,ho,fun h=>⟨fin h,dm,dm,dm⟩⟩;clear fin;generalize fm ⟨v0,v1,v2,k0,k1,k2,k3⟩=H at *;refine aa ?_;refine al [ae 0,ae 1,ae 2,ae 3,ae 4,ae 5,ae 6,ae 7,ae 8,ae 9,ae 10,ae 11,ae 12,ae 13,ae 14,ae 15] ?_;refine aa ?_;refine al [ae 0,ae 1,dF 2,ae 3,dF 4,ae 5,ae 6] ?_;refine aa ?_;refine cG rfl aA rfl [] (d1) rfl [] trivial (bk _ (by kernel_rfl)) rfl ?_;refine aa ?_;refine cG rfl aA rfl [] (src (d2)) rfl [] trivial (bk _ (by kernel_rfl)) rfl ?_;refine aa ?_;(refine ij [_,_] (good) (by kernel_rfl) ?_;(refine au ?_);exact rfl)
  · refine aa ?_;(refine ij [_,_] (Vn) (by kernel_rfl) ?_;(refine au ?_);exact rfl)
theorem QH {h h0:zo} (hk:kX h) (h0k:kX h0) (e:fm h=fm h0) (p1:0≤h.height) (p2:0≤h.time):h.height=natP h0.height∧h.time=natP h0.time:=by
 have e1:=zE hk;rw [e,zE h0k] at e1;have e2:iT h0=iT h:=congrArg (·.1) e1;unfold iT at e2;have e3:natP h0.height=natP h.height:=by injection e2 with a;injection a
 have e4:natP h0.time=natP h.time:=by injection e2 with _ a;injection a with a;injection a
 rw [e3,e4,HI p1,HI p2];exact⟨rfl,rfl⟩
abbrev blk0:dM:=⟨hd0,[]⟩
theorem blk0_ok:dG blk0:=⟨hd0_ok,a₁ _,fun x hx=>by cases hx⟩
structure Wl (b0 b:dM):Prop where
 h1:1≤b.hd.height∧b.hd.height≤1073741824
 t1:1≤b.hd.time∧b.hd.time≤1099511627776
 p1:0≤b.hd.prop
 h2:b.hd.height=natP b0.hd.height
 t2:b.hd.time=natP b0.hd.time
abbrev DC (b0:dM) (r:MV):Prop:= ∃(b:dM) (e:Int),r= .tup [blkM b, .int .i64 e] ∧cQ e∧dG b∧(e=0→Wl b0 b)
theorem MU (b0:dM) (h0:dG b0):cY Tryz.prog G 234 [.sl (r7 b0).length (u8s (r7 b0))] (DC b0):=by
 have c1:=rD (G:=G) (r7 b0) (by have:=vj h0;omega);rw [Jw h0] at c1;have kS:=jY h0.hd;have c2:=QG (G:=G) (fm b0.hd) om;have hl:=vj h0;have i1:cQ 1:=by simp [cQ]
 have i3:cQ 3:=by simp [cQ]
 have i4:cQ 4:=by simp [cQ]
 have bad: ∀e:Int,cQ e→e≠0→DC b0 (.tup [blkM blk0, .int .i64 e]):=fun e he h=>⟨blk0,e,rfl,he,blk0_ok,fun h2=>absurd h2 h⟩
 have Uv:=bad 3 i3 (by decide);have i0i:=bad 4 i4 (by decide);have hn:=h0.n;have hlen:=h0.len;have hFl:(BC b0).length=b0.txs.length + 1:=by simp [BC]
 have hF0:aj (bI ((BC b0).map cj) (b0.txs.length + 1) (0:Int)) (.st [.int .i64 (1:Nat), .int .i64 (2:Nat), .int .u64 (0:Nat), .sl (fm b0.hd).length (u8s (fm b0.hd))]):=aj.mk (dB (k:=0) om rfl);obtain⟨R,hR⟩: ∃R,r7 b0=R:=⟨_,rfl⟩
 rw [hR] at c1 hl ⊢;obtain⟨H,hH⟩: ∃H,fm b0.hd=H:=⟨_,rfl⟩
 rw [hFl] at c1;rw [hH] at c2 hF0 kS;unfold cY;refine seq' seat Tryz.func234 76 ?_;refine aa ?_;refine ad rfl ?_ ?_ <;> intro h
 ·refine aa ?_;(refine bB [_,_] (by(refine au ?_);exact rfl) (by kernel_rfl) (⟨blk0,3,rfl,i3,blk0_ok,fun h=>absurd h (by decide)⟩))
 ·refine aa ?_;refine aK (c1) rfl rfl aA (by kernel_rfl) ?_;refine aa ?_;refine aP (c2) rfl rfl aA (by kernel_rfl) ?_;rintro _ ⟨hh,ok,rfl,eG,SI⟩;refine aa ?_;cases ok with
  | false=>
   refine aa ?_;(refine bB [_,_] (by(refine au ?_);exact rfl) (by kernel_rfl) (⟨blk0,4,rfl,i4,blk0_ok,fun h=>absurd h (by decide)⟩))
  | true=>
   obtain⟨f1,f2,f3,f4⟩:=SI rfl;have e1:=QH eG h0.hd (f1.trans hH.symm) f2 f3;have sM:dG ⟨hh,b0.txs⟩:=⟨eG,hn,hlen⟩;have c3:=i7 (G:=G) ⟨hh,b0.txs⟩ sM;have c4:=zF (G:=G) ⟨hh,b0.txs⟩ sM;have NR:aj (dN (b0.txs.length + 1) (some (.int .i64 (1:Int))) none) (1,b0.txs.length + 1):=aj.mk (gH (n:=b0.txs.length + 1) (k:=1) (κ:= .i64) om);obtain⟨n,S5⟩: ∃n,n=b0.txs.length:=⟨_,rfl⟩
   have qw:cutL ((BC b0).map cj) 1 (n + 1)=b0.txs.map fun x=>cj ⟨2,2,0,x⟩:=by
    unfold cutL BC;rw [List.map_cons,List.drop_succ_cons,b₂,List.map_map,S5,c₄];exact List.take_of_length_le sm
   have d3:=vd (G:=G) (r7 ⟨hh,b0.txs⟩) R;clear SI c1 c2;generalize r7 ⟨hh,b0.txs⟩=R2 at *;rw [← S5] at NR hF0;simp only [← S5];refine aa ?_;simp only [qw,c₄];refine av (Nat×List (List UInt8)) (fun x=> [(48, .int .i64 x.1),(47, .int .i64 n),(46, .sl n (b0.txs.map fun x=>cj ⟨2,2,0,x⟩)),(9, .ptr 1 132 0 0 []),(2, .ptr 0 132 0 0 []),(0, .sl R.length (u8s R))]) (fun x=> [(0,⟨81,132,false,0,[.st [Sp, .nils]]⟩),(1,⟨81,132,false,0,[.st [hdM hh, .ms 2 1 0 x.2.length]]⟩),(2,⟨41,1,true,0,x.2.map bo⟩)]) 3 (fun x=>x.1≤n∧x.2=b0.txs.take x.1) (fun x=>n - x.1) (0,[]) ⟨a₁ _,rfl⟩ (by dsimp only;exact(vm [(0,_),(1,_)] [])) ?_;rintro⟨k,W⟩ ⟨hk,hW⟩;try dsimp only
   dsimp only at hk hW;have Sy:W.length=k:=by rw [hW,b₈];omega
   by_cases hkn:k < n
   ·have aC:k < b0.txs.length:=om;have aH:aj (bI (b0.txs.map fun x=>cj ⟨2,2,0,x⟩) n (k:Int)) (cj ⟨2,2,0,b0.txs[k]⟩):=aj.mk (dB hkn (by simp [aC]));obtain⟨W2,uR⟩: ∃W2,W2=W ++ [b0.txs[k]] :=⟨_,rfl⟩
    have SU:W2=b0.txs.take (k + 1):=by rw [uR,hW,b₃ aC]
    generalize b0.txs[k] =x at *;have J5:W2.length=W.length + 1:=by rw [uR];simp
    replace aH:aj (bI (b0.txs.map fun x=>cj ⟨2,2,0,x⟩) n (k:Int)) (.st [.int .i64 (2:Nat), .int .i64 (2:Nat), .int .u64 (0:Nat), .sl x.length (u8s x)]):=aH;have eS:decide ((k:Int) < n)=true:=decide_eq_true om;refine aa ?_;refine ad rfl ?_ ?_ <;> intro h
    ·refine aa ?_;refine aO rfl rfl (by intro R hR;refine da hR ?_;(refine a₀ (a₂ _) ?_;refine⟨_,rfl,?_⟩;refine a₀ ⟨sm,ai (by kernel_rfl) pf⟩ ?_;refine⟨W2.map bo,sv (by rw [uR];simp;rfl),W2.length,sv pf,?_⟩);exact hR) rfl ?_;refine aa ?_;exact⟨(k + 1,W2),⟨dm,SU⟩,dm,(by dsimp only;exact(vm [(0,_),(1,_),(2,_)] []))⟩
    ·rw [eS] at h;cases h
   ·have Y2:k=b0.txs.length:=om;have hWe:W=b0.txs:=by rw [hW,Y2,b₇]
    subst hWe;iterate 1 (refine Sd ?_)
    have Ko:decide ((k:Int) < n)=false:=decide_eq_false om;clear hW;refine qg ([(48, .int .i64 k),(47, .int .i64 n),(9, .ptr 1 132 0 0 []),(2, .ptr 0 132 0 0 []),(0, .sl R.length (u8s R))]) ([(0,⟨81,132,false,0,[.st [Sp, .nils]]⟩),(1,⟨81,132,false,0,[blkM ⟨hh,b0.txs⟩]⟩)]) [(2,b0.txs.length)] mm rfl mm mm ?_;refine aa ?_;refine ad rfl ?_ ?_ <;> intro h
    ·rw [Ko] at h;cases h
    ·refine aa ?_;refine aK (c3) rfl rfl aA (by kernel_rfl) ?_;refine aa ?_;refine aK (src (d3)) rfl rfl aA (by kernel_rfl) ?_;refine aa ?_;refine ad rfl ?_ ?_ <;> intro h
     ·refine aa ?_;(refine bB [_,_] (by(refine au ?_);exact rfl) (by kernel_rfl) (⟨blk0,4,rfl,i4,blk0_ok,fun h=>absurd h (by decide)⟩))
     ·refine aa ?_;refine aP (c4) rfl rfl aA (by kernel_rfl) ?_;rintro _ ⟨raw,e,rfl,he,hf⟩;refine aa ?_;refine ad rfl ?_ ?_ <;> intro h
      ·have gf:e≠0:=by simpa using h
       refine aa ?_;(refine bB [_,_] (by(refine au ?_);exact rfl) (by kernel_rfl) (⟨blk0,e,rfl,he,blk0_ok,fun h=>absurd h gf⟩))
      ·have R6:e=0:=by simpa using h
       obtain⟨_,g1,g2,g3,_⟩:=hf R6;refine aa ?_;(refine bB [_,_] (by(refine au ?_);exact rfl) (by kernel_rfl) (⟨⟨hh,b0.txs⟩,0,rfl,by simp [cQ],sM,fun _=>⟨g1,g2,g3,e1.1,e1.2⟩⟩))
end
section
section
variable {T:bD} {M:VM} {E:VE} {l:List ResultVar} {K:List MV→Prop}
theorem Wm {t:Nat} {v:MV} (hv:VE.get E t=some v) (h:eJ T M E l fun r=>K (v :: r)):eJ T M E (.tmp t :: l) K:=by
 unfold eJ;rw [hv];exact h
theorem T7 {p ty c es k fo:Nat} {path:List Nat} {b:MB} {m r:MV} (hp:VE.get E p=some (.ptr c es k fo path)) (hc:VM.get M c=some b) (hm:cE b.l k=some m) (hr:AH m path=some r) (hk:(IY T ty b.es es r && Pn m path fo)=true) (h:eJ T M E l fun x=>K (r :: x)):eJ T M E (.cell p ty :: l) K:=by
 have h2:=nO (Pg:=default) (n:=0) (dst:=none) (ty:=0) (pos:=default) (after:= #[]) (g:=none) (x:= .tmp p) (R:=fun y:MV×Dl=>eJ T M E l fun x=>K (y.1 :: x)) hp hc hm hr hk h;change (rd (VE.get E) (.tmp p) fun p=>iv T (VM.get M) ty p).runP _ at h2;unfold rd at h2;rw [show jL (VE.get E) (Operand.tmp p)=some (.ptr c es k fo path) from hp] at h2;unfold eJ;rw [hp];exact h2
theorem rvq {rs:List ResultVar} {vs:List MV} (h:eJ T M E rs (fun v=>v=vs):=by first | ((repeat(first | ((with_reducible apply T7);(case hp=>exact rfl);(case hc=>exact rfl);(case hm=>exact rfl);(case hr=>exact rfl);(case hk=>kernel_rfl)) | ((with_reducible apply Wm);(case hv=>exact rfl))));exact rfl) | (refine au ?_;exact rfl)):eJ T M E rs (fun v=>v=vs):=h
end
end
section
variable {G:GS}
attribute [local irreducible] ak aB aD aJ aQ vC aY aw
theorem MW [FX:Fx] {B:Nat} (s:kE) (raws:List (List UInt8)) (res:List ga) (hs:eE B s) (hB:B≤100000) (hn:raws.length≤100000) (hb: ∀b∈raws,b.length≤1000000) (hr: ∀r∈res,jI r) (hrn:res.length≤100000):cY Tryz.prog G 266 [il s,ee raws, .sl res.length (res.map fc)] (fun r=> ∃(s':kE) (ks:List (List UInt8)),r= .tup [il s', .sl ks.length (ks.map keyM)] ∧eE B s'∧dS ks):=by
 unfold ee;unfold cY;refine seq' seat Tryz.func266 56 ?_;refine aa ?_;refine av (Nat×kE×List (List UInt8)) (fun x=> [(9, .int .i64 x.1),(8, .ms 2 32 0 x.2.2.length),(1, .sl raws.length (raws.map bo)),(2, .sl res.length (res.map fc)),(3, .ptr 0 25 0 0 []),(6, .ptr 1 25 0 0 [])]) (fun x=> [(0,⟨75,25,false,0,[il x.2.1]⟩),(1,⟨75,25,false,0,[HF]⟩),(2,⟨68,32,true,0,x.2.2.map keyM⟩)]) 3 (fun x=>x.1≤raws.length∧eE B x.2.1∧dS x.2.2∧x.2.2.length≤x.1) (fun x=>raws.length - x.1) (0,s,[]) ⟨a₁ _,hs,by simp [dS],a₂ _⟩ (by dsimp only;exact(vm [(0,_),(1,_)] [])) ?_;rintro⟨k,s1,ks⟩ ⟨na,tX,gE,mZ⟩;try dsimp only
 dsimp only at na tX gE mZ;refine aa ?_;refine ag rfl rfl ?_ rfl ?_ <;> intro h
 ·have xW:k < raws.length:=by have:=ot h;omega
  refine aa ?_;refine ad rfl ?_ ?_ <;> intro h
  ·have pV:k < res.length:=by have:=ot h;omega
   have f1:=iC xW;have f2:=FE pV;have sM:=hb _ (a₄ xW);have SS:=hr _ (a₄ pV);generalize raws[k] =raw at *;generalize res[k] =r at *;have f1:=aj.mk f1;have f2:=aj.mk f2;have c1:=nS (G:=G) raw om;have hq:=gk raw;generalize iH raw=q at *;have c2:=Dt (G:=G) s1 q tX hq;have o2:=zx (B:=B) tX hq;generalize tJ s1 q=s2 at *;have c3:=qn (G:=G) s1 q tX hq;have o3:=oq (B:=B) (k:=q) tX;generalize lM s1 q=s3 at *;refine aa ?_;refine aK (src (c1)) rfl rfl aA (by kernel_rfl) ?_;refine aa ?_;refine wv kE (fun y=> [(10, .ptr 3 32 0 0 []),(9, .int .i64 k),(8, .ms 2 32 0 ks.length),(1, .sl raws.length (raws.map bo)),(2, .sl res.length (res.map fc)),(3, .ptr 0 25 0 0 []),(6, .ptr 1 25 0 0 [])]) (fun y=> [(0,⟨75,25,false,0,[il y]⟩),(1,⟨75,25,false,0,[HF]⟩),(2,⟨68,32,true,0,ks.map keyM⟩),(3,⟨68,32,false,0,[keyM q]⟩)]) (fun _=>4) (fun y=>eE B y) (fun JQ hj=>?_) (fun s4 Yi=>?_)
   ·refine ad rfl ?_ ?_ <;> intro h
    ·refine aa ?_;refine aK (src (c2)) rfl rfl aA (by kernel_rfl) ?_;refine aa ?_;exact hj.nrm s2 o2 (vm [(0,_),(1,_),(2,_),(3,_)] [])
    ·refine aa ?_;refine aK (src (c3)) rfl rfl aA (by kernel_rfl) ?_;refine aa ?_;exact hj.nrm s3 o3 (vm [(0,_),(1,_),(2,_),(3,_)] [])
   ·clear c1 c2 c3;have c4:=po (G:=G) s4 q Yi hB hq;have o4:=mN (B:=B) (k:=q) Yi;generalize jU s4 q=lv at *;obtain⟨s5,b5⟩:=lv;dsimp only at c4 o4;try dsimp only
    refine aa ?_;refine aK (src (c4)) rfl rfl aA (by kernel_rfl) ?_;refine aa ?_;refine ad rfl ?_ ?_ <;> intro h
    ·refine aa ?_;obtain⟨W,hW⟩: ∃W,W=ks ++ [q] :=⟨_,rfl⟩
     have Sy:W.length=ks.length + 1:=by rw [hW];simp
     have Gk:dS W:=by
      intro x hx;rw [hW] at hx;rcases a₆.1 hx with hx | hx
      ·exact gE x hx
      ·rw [a₅.1 hx];exact hq
     refine aO rfl rfl (by intro R hR;refine da hR ?_;(refine a₀ (a₂ _) ?_;refine⟨_,rfl,?_⟩;refine a₀ ⟨sm,ai (by kernel_rfl) pf⟩ ?_;refine⟨W.map keyM,sv (by rw [hW];simp;rfl),W.length,sv pf,?_⟩);exact hR) rfl ?_;refine aa ?_;exact⟨(k + 1,s5,W),⟨dm,o4,Gk,dm⟩,dm,(by dsimp only;exact(vm [(0,_),(1,_),(2,_)] []))⟩
    ·refine aa ?_;exact⟨(k + 1,s5,ks),⟨dm,o4,gE,dm⟩,dm,(by dsimp only;exact(vm [(0,_),(1,_),(2,_)] []))⟩
  ·refine aa ?_;refine au ?_;refine⟨_,_,_,⟨⟨⟨s1,ks,rfl,tX,gE⟩,rfl⟩,rfl,rfl⟩,?_⟩;refine⟨[_,_],[],[(2,ks.length)],rfl,rfl,?_,rfl,⟨?_,?_,trivial⟩,?_⟩
   ·exact⟨by show ks.length≤(ks.map keyM).length;simp,trivial⟩
   ·exact .inl ⟨rfl,rfl⟩
   ·exact rv
   ·exact mm
 ·refine aa ?_;refine au ?_;refine⟨_,_,_,⟨⟨⟨s1,ks,rfl,tX,gE⟩,rfl⟩,rfl,rfl⟩,?_⟩;refine⟨[_,_],[],[(2,ks.length)],rfl,rfl,?_,rfl,⟨?_,?_,trivial⟩,?_⟩
  ·exact⟨by show ks.length≤(ks.map keyM).length;simp,trivial⟩
  ·exact .inl ⟨rfl,rfl⟩
  ·exact rv
  ·exact mm
theorem T8 {B:Nat} (c:nf) (hc:A6 c) (l:List fU) (hl:l.length≤100000) (he: ∀e∈l,Sr B e) (ht tm:Int) (h1:0≤ht∧ht < 4611686018427387904) (h2:0≤tm∧tm < 4611686018427387904):cY Tryz.prog G 275 [cfM c, .sl l.length (l.map bU), .int .i64 ht, .int .i64 tm] (fun r=> ∃ks:List (List UInt8),r= .sl ks.length (ks.map keyM)∧dS ks∧ks.length≤l.length):=by
 have b1:=hc.ttlB;have b2:=hc.ttlT;unfold cY;refine seq' seat Tryz.func275 39 ?_;refine aa ?_;refine av (Nat×List (List UInt8)) (fun x=> [(14, .int .i64 x.1),(13, .int .i64 l.length),(12, .sl l.length (l.map bU)),(9, .ms 1 32 0 x.2.length),(2, .int .i64 ht),(3, .int .i64 tm),(4, .ptr 0 12 0 0 [])]) (fun x=> [(0,⟨66,12,false,0,[cfM c]⟩),(1,⟨68,32,true,0,x.2.map keyM⟩)]) 2 (fun x=>x.1≤l.length∧dS x.2∧x.2.length≤x.1) (fun x=>l.length - x.1) (0,[]) ⟨a₁ _,by simp [dS],a₂ _⟩ (by dsimp only;exact(vm [(0,_)] [])) ?_;rintro⟨k,ks⟩ ⟨na,gE,mZ⟩;try dsimp only
 dsimp only at na gE mZ;refine aa ?_;refine ad rfl ?_ ?_ <;> intro h
 ·have aC:k < l.length:=by have:=ot h;omega
  have aH:=fu aC;have RK:=he _ (a₄ aC);generalize l[k] =e at *;have aH:=aj.mk aH;have c1:=MN (G:=G) ht e.height c.ttlB h1 RK.height (by unfold cQ;omega);have c2:=MN (G:=G) tm e.time c.ttlT h2 RK.time (by unfold cQ;omega);generalize Ds ht e.height c.ttlB=l1 at *;generalize Ds tm e.time c.ttlT=l2 at *;have Uy:=RK.key;clear RK;obtain⟨W,hW⟩: ∃W,W=ks ++ [e.key] :=⟨_,rfl⟩
  have Sy:W.length=ks.length + 1:=by rw [hW];simp
  have Gk:dS W:=by
   intro x hx;rw [hW] at hx;rcases a₆.1 hx with hx | hx
   ·exact gE x hx
   ·rw [a₅.1 hx];exact Uy
  refine aa ?_;refine aK (src (c1)) rfl rfl aA (by kernel_rfl) ?_;refine aa ?_;refine ag rfl rfl ?_ rfl ?_ <;> intro h
  ·refine aa ?_;refine aK (src (c2)) rfl rfl aA (by kernel_rfl) ?_;refine aa ?_;refine ad rfl ?_ ?_ <;> intro h
   ·refine aa ?_;refine aO rfl rfl (by intro R hR;refine da hR ?_;(refine a₀ (a₂ _) ?_;refine⟨_,rfl,?_⟩;refine a₀ ⟨sm,ai (by kernel_rfl) pf⟩ ?_;refine⟨W.map keyM,sv (by rw [hW];simp;rfl),W.length,sv pf,?_⟩);exact hR) rfl ?_;refine aa ?_;exact⟨(k + 1,W),⟨dm,Gk,dm⟩,dm,(by dsimp only;exact(vm [(0,_),(1,_)] []))⟩
   ·refine aa ?_;exact⟨(k + 1,ks),⟨dm,gE,dm⟩,dm,(by dsimp only;exact(vm [(0,_),(1,_)] []))⟩
  ·refine aa ?_;refine aO rfl rfl (by intro R hR;refine da hR ?_;(refine a₀ (a₂ _) ?_;refine⟨_,rfl,?_⟩;refine a₀ ⟨sm,ai (by kernel_rfl) pf⟩ ?_;refine⟨W.map keyM,sv (by rw [hW];simp;rfl),W.length,sv pf,?_⟩);exact hR) rfl ?_;refine aa ?_;exact⟨(k + 1,W),⟨dm,Gk,dm⟩,dm,(by dsimp only;exact(vm [(0,_),(1,_)] []))⟩
 ·refine aa ?_;refine au ?_;refine⟨_,_,_,⟨⟨⟨ks,rfl,gE,om⟩,rfl⟩,rfl,rfl⟩,?_⟩;refine⟨[_],[],[(1,ks.length)],rfl,rfl,?_,rfl,⟨?_,trivial⟩,?_⟩
  ·exact⟨by show ks.length≤(ks.map keyM).length;simp,trivial⟩
  ·exact rv
  ·exact mm
theorem QI [FX:Fx] {B:Nat} (s:kE) (hs:eE B s) (hB:B≤100000):cY Tryz.prog G 267 [il s] (fun r=> ∃(s':kE) (ks:List (List UInt8)),r= .tup [il s', .sl ks.length (ks.map keyM)] ∧eE B s'∧dS ks):=by
 have g1:=hs.ents;have g2:=hs.height;have g3:=hs.time;have c0:=T8 (G:=G) s.cfg hs.cfg s.ents om hs.entk s.height s.time om om;unfold cY;refine seq' seat Tryz.func267 34 ?_;refine aa ?_;refine aP (c0) rfl rfl aA (by kernel_rfl) ?_;rintro _ ⟨ks,rfl,hk,mZ⟩;have YQ:ks.length≤100000:=om;refine aa ?_;refine av (Nat×kE) (fun x=> [(18, .int .i64 x.1),(17, .int .i64 ks.length),(16, .sl ks.length (ks.map keyM)),(4, .sl ks.length (ks.map keyM)),(1, .ptr 0 25 0 0 []),(2, .ptr 1 25 0 0 [])]) (fun x=> [(0,⟨75,25,false,0,[il x.2]⟩),(1,⟨75,25,false,0,[HF]⟩)]) 2 (fun x=>x.1≤ks.length∧eE B x.2) (fun x=>ks.length - x.1) (0,s) ⟨a₁ _,hs⟩ (by dsimp only;exact(vm [(0,_),(1,_)] [])) ?_;rintro⟨k,s2⟩ ⟨na,jc⟩;try dsimp only
 dsimp only at na jc;refine aa ?_;refine ad rfl ?_ ?_ <;> intro h
 ·have aC:k < ks.length:=by have:=ot h;omega
  have aH:=aj.mk (rX aC);have J8:=hk _ (a₄ aC);generalize ks[k] =q at *;have e1:=po (G:=G) s2 q jc hB J8;have o1:=mN (k:=q) jc;generalize jU s2 q=lv at *;obtain⟨s3,b3⟩:=lv;dsimp only at e1 o1;have e2:=rY (G:=G) s3 q o1 J8;have o2:=pj (k:=q) o1;generalize tK s3 q=s4 at *;refine aa ?_;refine aK (src (e1)) rfl rfl aA (by kernel_rfl) ?_;refine aa ?_;refine aK (src (e2)) rfl rfl aA (by kernel_rfl) ?_;refine aa ?_;exact⟨(k + 1,s4),⟨dm,o2⟩,dm,(by dsimp only;exact(vm [(0,_),(1,_)] []))⟩
 ·refine aa ?_;(refine ij [_,_] (⟨s2,ks,rfl,jc,hk⟩) (by kernel_rfl) ?_;exact rvq)
theorem Jx [FX:Fx] {B:Nat} (s:kE) (hs:eE B s) (hB:B≤100000):cY Tryz.prog G 268 [il s] (fun r=> ∃(s':kE) (ks:List (List UInt8)),r= .tup [il s', .sl ks.length (ks.map keyM)] ∧eE B s'∧dS ks):=by
 have g1:=hs.ents;have c0:=A3 (G:=G) s.app;have o0:eE B { s with app:=oe s.app }:=⟨hs.cfg,⟨hs.app.1,hs.app.1,hs.app.2.2⟩,hs.height,hs.time,hs.arr,hs.ents,hs.entk,hs.cache,hs.ck,hs.fx⟩;generalize oe s.app=a0 at *;unfold cY;refine seq' seat Tryz.func268 66 ?_;refine aa ?_;refine aK (src (c0)) rfl rfl aA (by kernel_rfl) ?_;refine aa ?_;refine av (Nat×eM×List (List UInt8)) (fun x=> [(17, .int .i64 x.1),(16, .int .i64 s.ents.length),(15, .sl s.ents.length (s.ents.map bU)),(4, .ms 2 32 0 x.2.2.length),(1, .ptr 0 25 0 0 []),(2, .ptr 1 25 0 0 [])]) (fun x=> [(0,⟨75,25,false,0,[il { s with app:=x.2.1 }]⟩),(1,⟨75,25,false,0,[HF]⟩),(2,⟨68,32,true,0,x.2.2.map keyM⟩)]) 3 (fun x=>x.1≤s.ents.length∧eE B { s with app:=x.2.1 }∧dS x.2.2∧x.2.2.length≤x.1) (fun x=>s.ents.length - x.1) (0,a0,[]) ⟨a₁ _,o0,by simp [dS],a₂ _⟩ (by dsimp only;exact(vm [(0,_),(1,_)] [])) ?_;rintro⟨k,a,ks⟩ ⟨na,ng,gE,mZ⟩;try dsimp only
 dsimp only at na ng gE mZ;refine aa ?_;refine ad rfl ?_ ?_ <;> intro h
 ·have aC:k < s.ents.length:=by have:=ot h;omega
  have aH:=fu aC;have RK:=hs.entk _ (a₄ aC);generalize s.ents[k] =e at *;have aH:=aj.mk aH;have c1:=Hv (G:=G) a e.raw ng.app (by have:=RK.raw;omega);have c2:=Dh (G:=G) a e.raw ng.app (by have:=RK.raw;omega);have o2:eE B { s with app:=mL a e.raw }:=⟨hs.cfg,xb ng.app,hs.height,hs.time,hs.arr,hs.ents,hs.entk,hs.cache,hs.ck,ng.fx⟩;generalize mL a e.raw=a2 at *;generalize xa a e.raw=r at *;have c3:=HE (G:=G) { s with app:=a } r.gas ng;generalize FO { s with app:=a } r.gas=hv at *;have Uy:=RK.key;clear RK;obtain⟨W,hW⟩: ∃W,W=ks ++ [e.key] :=⟨_,rfl⟩
  have Sy:W.length=ks.length + 1:=by rw [hW];simp
  have Gk:dS W:=by
   intro x hx;rw [hW] at hx;rcases a₆.1 hx with hx | hx
   ·exact gE x hx
   ·rw [a₅.1 hx];exact Uy
  refine aa ?_;refine aK (src (c1)) rfl rfl aA (by kernel_rfl) ?_;refine aa ?_;refine ag rfl rfl ?_ rfl ?_ <;> intro h
  ·refine aa ?_;refine aK (src (c3)) rfl rfl aA (by kernel_rfl) ?_;refine aa ?_;refine ad rfl ?_ ?_ <;> intro h
   ·refine aa ?_;refine aK (src (c2)) rfl rfl aA (by kernel_rfl) ?_;refine aa ?_;exact⟨(k + 1,a2,ks),⟨dm,o2,gE,dm⟩,dm,(by dsimp only;exact(vm [(0,_),(1,_),(2,_)] []))⟩
   ·refine aa ?_;refine aO rfl rfl (by intro R hR;refine da hR ?_;(refine a₀ (a₂ _) ?_;refine⟨_,rfl,?_⟩;refine a₀ ⟨sm,ai (by kernel_rfl) pf⟩ ?_;refine⟨W.map keyM,sv (by rw [hW];simp;rfl),W.length,sv pf,?_⟩);exact hR) rfl ?_;refine aa ?_;exact⟨(k + 1,a,W),⟨dm,ng,Gk,dm⟩,dm,(by dsimp only;exact(vm [(0,_),(1,_),(2,_)] []))⟩
  ·refine aa ?_;refine aO rfl rfl (by intro R hR;refine da hR ?_;(refine a₀ (a₂ _) ?_;refine⟨_,rfl,?_⟩;refine a₀ ⟨sm,ai (by kernel_rfl) pf⟩ ?_;refine⟨W.map keyM,sv (by rw [hW];simp;rfl),W.length,sv pf,?_⟩);exact hR) rfl ?_;refine aa ?_;exact⟨(k + 1,a,W),⟨dm,ng,Gk,dm⟩,dm,(by dsimp only;exact(vm [(0,_),(1,_),(2,_)] []))⟩
 ·have YQ:ks.length≤100000:=om;clear c0 o0 na mZ;generalize { s with app:=a }=s1 at *;refine aa ?_;refine av (Nat×kE) (fun x=> [(50, .int .i64 x.1),(49, .int .i64 ks.length),(48, .sl ks.length (ks.map keyM)),(4, .sl ks.length (ks.map keyM)),(1, .ptr 0 25 0 0 []),(2, .ptr 1 25 0 0 [])]) (fun x=> [(0,⟨75,25,false,0,[il x.2]⟩),(1,⟨75,25,false,0,[HF]⟩)]) 2 (fun x=>x.1≤ks.length∧eE B x.2) (fun x=>ks.length - x.1) (0,s1) ⟨a₁ _,ng⟩ (by dsimp only;exact(vm [(0,_),(1,_)] [(2,ks.length)])) ?_;rintro⟨k,s2⟩ ⟨na,jc⟩;try dsimp only
  dsimp only at na jc;refine aa ?_;refine ad rfl ?_ ?_ <;> intro h
  ·have aC:k < ks.length:=by have:=ot h;omega
   have aH:=aj.mk (rX aC);have J8:=gE _ (a₄ aC);generalize ks[k] =q at *;have e1:=po (G:=G) s2 q jc hB J8;have o1:=mN (k:=q) jc;generalize jU s2 q=lv at *;obtain⟨s3,b3⟩:=lv;dsimp only at e1 o1;have e2:=qn (G:=G) s3 q o1 J8;have o2:=oq (k:=q) o1;generalize lM s3 q=s4 at *;refine aa ?_;refine aK (src (e1)) rfl rfl aA (by kernel_rfl) ?_;refine aa ?_;refine aK (src (e2)) rfl rfl aA (by kernel_rfl) ?_;refine aa ?_;exact⟨(k + 1,s4),⟨dm,o2⟩,dm,(by dsimp only;exact(vm [(0,_),(1,_)] []))⟩
  ·refine aa ?_;(refine ij [_,_] (⟨s2,ks,rfl,jc,gE⟩) (by kernel_rfl) ?_;exact rvq)
theorem MX [FX:Fx] {B:Nat} (s:kE) (raws:List (List UInt8)) (res:List ga) (hs:eE B s) (hB:B≤100000) (hn:raws.length≤100000) (hb: ∀b∈raws,b.length≤1000000) (hr: ∀r∈res,jI r) (hrn:res.length≤100000) (ht tm:Int) (h1:0≤ht∧ht≤1000000000000) (h2:0≤tm∧tm≤100 * B):cY Tryz.prog G 231 [il s,ee raws, .sl res.length (res.map fc), .int .i64 ht, .int .i64 tm] (fun r=> ∃s' rp,r= .tup [il s',St rp] ∧eE B s'):=by
 obtain⟨t1,e1⟩: ∃t1,t1=(if s.time < tm then tm else s.time):=⟨_,rfl⟩
 have vk:=hs.time;have b1:0≤t1∧t1≤100 * B:=by rw [e1];split <;> omega
 have o0:eE B { s with height:=ht,time:=t1 }:=⟨hs.cfg,hs.app,h1,b1,hs.arr,hs.ents,hs.entk,hs.cache,hs.ck,hs.fx⟩;have e1:=aX.mk e1.symm;have c0:cY Tryz.prog G 266 [il { s with height:=ht,time:=t1 },ee raws, .sl res.length (res.map fc)] _:=MW (G:=G) _ raws res o0 hB hn hb hr hrn;unfold cY;refine seq' seat Tryz.func231 44 ?_;refine aa ?_;refine aP (c0) rfl rfl aA (by kernel_rfl) ?_;rintro _ ⟨s1,k1,rfl,tX,xW⟩;have c1:=QI (G:=G) s1 tX hB;refine aa ?_;refine aP (c1) rfl rfl aA (by kernel_rfl) ?_;rintro _ ⟨s2,k2,rfl,jc,pV⟩;have c2:=Jx (G:=G) s2 jc hB;refine aa ?_;refine aP (c2) rfl rfl aA (by kernel_rfl) ?_;rintro _ ⟨s3,k3,rfl,Vo,hk3⟩;refine aa ?_;refine al [ae 0,ae 1,ae 2,ae 3] ?_;refine aa ?_;(refine bB [_,_] (rvq) (by kernel_rfl) (⟨s3,⟨_,_,_,(_,_),(_,_),(_,_),(_,_),(_,_),(_,_),_,_⟩,rfl,Vo⟩))
theorem QJ (c:nf) (acs:List bd) (cv:aE Tryz.prog G 63 [cfM c] (.int .i64 0)) (hp:bm c.price) (hl:acs.length≤100000) (eP: ∀a∈acs,SmAc a) (h0:(bN acs c.price).2=0):cY Tryz.prog G 155 [cfM c, .sl acs.length (acs.map aV)] (fun r=> ∃(s:kE) (e:Int),r= .tup [il s, .int .i64 e] ∧s=⟨c,(bN acs c.price).1,0,0,0,[],[]⟩∧e=0):=by
 have c1:=TC (G:=G) acs c.price hl eP hp;rw [h0] at c1;generalize (bN acs c.price).1=a at *;unfold cY;refine seq' seat Tryz.func155 29 ?_;refine aa ?_;refine aK (src (cv)) rfl rfl aA (by kernel_rfl) ?_;refine aa ?_;refine aK (c1) rfl rfl aA (by kernel_rfl) ?_;refine aa ?_;(refine bB [_,_] (by(refine au ?_);exact rfl) (by kernel_rfl) (⟨⟨c,a,0,0,0,[],[]⟩,0,rfl,rfl,rfl⟩))
end
section
section
variable {T:bD} {rs:List ResultVar} {M:VM} {E:VE} {n:Nat}
theorem DF {P:MV→Prop} (vs rv:List MV) (bs:List (Nat×Nat)) (h1:eJ T M E rs (fun v=>v=vs)) (hb:EP M bs) (hm:eZ.relVs (dw 0 []) (lU M bs) rv vs) (hf:ek (jl rv)=true) (hP:P (jl rv)):wk T 0 rs (fun r M n=>(P r∧ek r=true)∧M= [] ∧n=0) .ret E M n:=
 fL (fun v hv=>by subst hv;exact⟨jl rv,[],0,⟨⟨hP,hf⟩,rfl,rfl⟩,rv,[],bs,rfl,rfl,hb,rfl,hm,trivial⟩) h1
end
end
section
abbrev tip0:eR:=⟨0,0,a₃ 32 0,a₃ 32 0,a₃ 32 0⟩
def iK (a:eM) (b:dM):eM:=(rM (iS a b.txs).1).1
def r8 (a:eM) (b:dM):eR:=pE b (iK a b).com (iS a b.txs).2.1
def repL (nodes bytes:Int):List dM→Nat→eM→eR→eM×eR×Nat×Nat
 | [],_,a,t=>(a,t,0,0)
 | b :: r,i,a,t=>if gQ t b nodes bytes≠0 then(app0,tip0,i,gQ t b nodes bytes) else repL nodes bytes r (i + 1) (iK a b) (r8 a b)
theorem DG (nodes bytes:Int): ∀(l r:List dM) (i:Nat) (a:eM) (t:eR),(repL nodes bytes l i a t).2.2.2=0→repL nodes bytes (l ++ r) i a t=repL nodes bytes r (i + l.length) (repL nodes bytes l i a t).1 (repL nodes bytes l i a t).2.1
 | [],r,i,a,t,_=>rfl
 | b :: l,r,i,a,t,h=>by
  rw [List.cons_append]
  rw [repL] at h ⊢
  rw [repL]
  by_cases hc:gQ t b nodes bytes=0
  ·rw [if_neg (by rw [hc];simp)] at h ⊢
   rw [if_neg (by rw [hc];simp)]
   rw [DG nodes bytes l r (i + 1) _ _ h,b₅]
   congr 1
   omega
  ·rw [if_pos hc] at h
   exact absurd h hc
class Nx where
 c:nf
 acs:List bd
abbrev Vw [NX:Nx] (L:eh):Fx:=⟨fun cfg com nxt opn price=>cfg=NX.c∧com=L∧nxt=lg0∧opn=false∧price=NX.c.price⟩
structure QK [NX:Nx] (bl:List dM) (L:eh) (t:eR):Prop where
 h:repL NX.c.nodes NX.c.blkB bl 0 (bN NX.acs NX.c.price).1 (kz (bN NX.acs NX.c.price).1.com)=(⟨L,L,lg0,false,NX.c.price⟩,t,0,0)
structure Jy [NX:Nx] (t:eR) (b:dM):Prop where
 h:gQ t b NX.c.nodes NX.c.blkB=0
theorem MY {t:eR} {b:dM} {n m:Int} (h:gQ t b n m=0):b.txs.length≤512:=by
 unfold gQ at h;by_cases hl:512 < b.txs.length∨m < sumB b.txs
 ·rw [if_pos hl] at h;(repeat' split at h) <;> omega
 ·omega
theorem DH {a:eM} {L:eh} {p:Nat} {b:dM} (h1:a.com=L) (h3:a.opn=false) (h4:a.price=p) (hl:b.txs.length≤512):iK a b=⟨(jt p b.txs L []).1,(jt p b.txs L []).1,lg0,false,p⟩∧(iS a b.txs).2=((jt p b.txs L []).2,0)∧(rM (iS a b.txs).1).2=0:=by
 subst h1;subst h4;unfold iK iS;rw [if_neg (by rw [h3];simp),if_neg om];unfold rM;rw [if_neg sm];exact⟨rfl,rfl,rfl⟩
theorem MZ [NX:Nx] {bl:List dM} {L:eh} {t:eR} {b:dM} (h:QK bl L t) (hc:Jy t b) {a:eM} (h1:a.com=L) (h3:a.opn=false) (h4:a.price=NX.c.price):QK (bl ++ [b]) (iK a b).com (r8 a b)∧(iK a b).nxt=lg0∧(iK a b).opn=false∧(iK a b).price=NX.c.price:=by
 have hl:=MY hc.h;have e1:=DH (b:=b) h1 h3 h4 hl;have e2:=DH (a:=⟨L,L,lg0,false,NX.c.price⟩) (b:=b) rfl rfl rfl hl;have hA:iK ⟨L,L,lg0,false,NX.c.price⟩ b=iK a b:=e2.1.trans e1.1.symm;have hT:r8 ⟨L,L,lg0,false,NX.c.price⟩ b=r8 a b:=by
  unfold r8;rw [hA,e1.2.1,e2.2.1]
 refine⟨⟨?_⟩,by rw [e1.1],by rw [e1.1],by rw [e1.1]⟩;rw [DG _ _ _ _ _ _ _ (by rw [h.h]),h.h,repL,if_neg (by rw [hc.h];simp),repL,hA,hT,e1.1]
theorem QL [NX:Nx] (h0:(bN NX.acs NX.c.price).2=0):QK [] (bN NX.acs NX.c.price).1.com (kz (bN NX.acs NX.c.price).1.com)∧(bN NX.acs NX.c.price).1.nxt=lg0∧(bN NX.acs NX.c.price).1.opn=false∧(bN NX.acs NX.c.price).1.price=NX.c.price:=by
 have hg:(kD NX.acs).2=0:=by
  unfold bN at h0;split at h0
  ·rename_i h;exact absurd h0 h
  ·rename_i h;exact Decidable.not_not.1 h
 have e:bN NX.acs NX.c.price=(⟨(kD NX.acs).1,(kD NX.acs).1,lg0,false,NX.c.price⟩,0):=by
  unfold bN;rw [if_neg (by rw [hg];simp)]
 refine⟨⟨?_⟩,by rw [e],by rw [e],by rw [e]⟩;rw [repL,e]
theorem Na [NX:Nx] {t:eR} {time prop:Int} {raws:List (List UInt8)} (h1:1≤NX.c.nodes∧NX.c.nodes≤8) (h2:0≤t.height∧t.height < 1073741824) (h3:prop=(t.height + 1) % NX.c.nodes) (h4:(if t.time + 1 > time then t.time + 1 else time)≤1099511627776) (h5:raws.length≤512) (h6:(sumB raws:Int)≤NX.c.blkB):Jy t (iF t time prop raws):=by
 refine⟨?_⟩;have ht:t.time < (if t.time + 1 > time then t.time + 1 else time):=by split <;> omega
 unfold gQ iF;dsimp only;rw [if_neg om,if_neg om,if_neg (by rw [h3];simp),if_neg om,if_neg sm,if_neg sm,if_neg sm,if_neg sm,if_neg om]
theorem Nb (l:List (List UInt8)) (x:List UInt8):sumB (l ++ [x])=sumB l + jH x.length:=by simp [sumB]
theorem qo (price:Nat) (m:Int): ∀(l:List fU) (rs:Kk) (lg:eh) (out:List (List UInt8)),(sumB out:Int) + rs.room≤m→0≤rs.room→(sumB (jC price l rs lg out):Int)≤m
 | [],rs,lg,out,h,h0=>by unfold jC;omega
 | e :: r,rs,lg,out,h,h0=>by
  unfold jC
  split
  ·rename_i hc
   have ht:=hc.1
   unfold ou at ht ⊢
   split at ht
   ·cases ht
   ·rename_i hn
    rw [if_neg hn]
    refine qo price m r _ _ _ ?_ ?_
    ·rw [Nb];dsimp only;omega
    ·dsimp only;omega
  ·exact qo price m r rs lg out h h0
theorem FR (s:kE) (b g m:Int) (hb:b≤m) (hm:0≤m):(sumB (kZ s b g):Int)≤m:=by
 unfold kZ;split
 ·simp [sumB];exact hm
 ·rename_i h;unfold xk at h ⊢;split at h
  ·exact absurd rfl h
  ·rename_i hn;rw [if_neg hn];refine qo _ m _ _ _ _ ?_ ?_
   ·dsimp only;simp [sumB];exact hb
   ·dsimp only;omega
end
section
variable {G:GS}
attribute [local irreducible] ak aB aD aJ aQ vC aY aw
def pF:Option (List (List UInt8))→MV
 | none=> .nils
 | some l=> .sl l.length (l.map keyM)
structure qy where
 st:kE
 tip:eR
 blocks:List dM
 sent:List (Option (List (List UInt8)))
 held:Bool
 prop:dM
 log:List UInt8
abbrev lP (n:qy):MV:= .st [il n.st,fH n.tip, .sl n.blocks.length (n.blocks.map blkM), .sl n.sent.length (n.sent.map pF), .bool n.held,blkM n.prop, .sl n.log.length (u8s n.log)]
def A9 (B:Nat):Option (List (List UInt8))→Prop
 | none=>True
 | some l=>dS l∧l.length≤B
structure gd [NX:Nx] (B:Nat) (n:qy):Prop where
 st: @eE (Vw n.st.app.com) B n.st
 tip:ju n.tip
 th:0≤n.tip.height∧n.tip.height≤B
 tt:0≤n.tip.time∧n.tip.time≤100 * B
 blocks:n.blocks.length≤B
 sent:n.sent.length=15
 sk: ∀l∈n.sent,A9 B l
 prop:dG n.prop
 ph:n.prop.hd.height≤B
 pt:n.prop.hd.time≤100 * B
 log:n.log.length≤16777216
 rep:QK n.blocks n.st.app.com n.tip
 chk:n.held=true→Jy n.tip n.prop
 bok: ∀b∈n.blocks,dG b
theorem A9.mono {B B':Nat} (hb:B≤B'): ∀{l},A9 B l→A9 B' l
 | none,_=>trivial
 | some _,h=>⟨h.1,b₄ h.2 hb⟩
theorem gd.mono [NX:Nx] {B B':Nat} {n:qy} (h:gd B n) (hb:B≤B'):gd B' n:=
 ⟨h.st.mono (FX:=_) hb,h.tip,⟨h.th.1,by have:=h.th.2;omega⟩,⟨h.tt.1,by have:=h.tt.2;omega⟩,b₄ h.blocks hb,h.sent,fun l hl=>(h.sk l hl).mono hb,h.prop,by have:=h.ph;omega,by have:=h.pt;omega,h.log,h.rep,h.chk,h.bok⟩
abbrev ND [NX:Nx] (B:Nat) (r:MV):Prop:= ∃n rp,r= .tup [lP n,St rp] ∧gd B n
abbrev tipZ:MV:= .st [.int .i64 0, .int .i64 0,keyZ,keyZ,keyZ]
abbrev blkZ:MV:= .st [Sp, .nils]
abbrev QM:MV:= .st [HF,tipZ, .nils, .nils, .bool false,blkZ, .nils]
theorem dD [NX:Nx] {B:Nat} (n:qy) (e:Int) (hn:gd B n):cY Tryz.prog G 158 [lP n, .int .i64 e] (ND B):=by
 unfold cY;refine seq' seat Tryz.func158 9 ?_;refine aa ?_;(refine bB [_,_] (by(refine au ?_);exact rfl) (by kernel_rfl) (⟨n,⟨_,_,_,(_,_),(_,_),(_,_),(_,_),(_,_),(_,_),_,_⟩,rfl,hn⟩))
theorem Jz (c:nf) (b g:Int) (hc:A6 c) (hb:cQ b) (hg:cQ g):cY Tryz.prog G 227 [cfM c, .int .i64 b, .int .i64 g] (fun r=> ∃x y:Int,r= .tup [.int .i64 x, .int .i64 y] ∧cQ x∧cQ y∧x≤c.blkB):=by
 have k1:=hc.blkB;have k2:=hc.blkG;have i1:cQ c.blkB:=by unfold cQ;omega
 have i2:cQ c.blkG:=by unfold cQ;omega
 have hx:cQ (if c.blkB < b then c.blkB else b):=by split <;> assumption
 have hz:(if c.blkB < b then c.blkB else b)≤c.blkB:=by split <;> omega
 have hy:cQ (if c.blkG < g then c.blkG else g):=by split <;> assumption
 unfold cY;refine seq' seat Tryz.func227 26 ?_;refine aa ?_;refine ad rfl ?_ ?_ <;> intro h
 ·refine aa ?_;(refine ij [_,_] (⟨_,_,rfl,hx,hg,hz⟩) (by kernel_rfl) ?_;(refine au ?_);exact rfl)
 ·refine aa ?_;refine ad rfl ?_ ?_ <;> intro h
  ·refine aa ?_;(refine ij [_,_] (⟨_,_,rfl,hx,i2,hz⟩) (by kernel_rfl) ?_;(refine au ?_);exact rfl)
  ·refine aa ?_;(refine ij [_,_] (⟨_,_,rfl,hx,hy,hz⟩) (by kernel_rfl) ?_;(refine au ?_);exact rfl)
theorem zG (l:List ga):(mW l).length=32:=by
 unfold mW;exact gB _
theorem QN {a b c:List UInt8} (ha:a.length=32) (hb:b.length=32) (hc:c.length=32):ju ⟨0,0,a,b,c⟩∧(⟨0,0,a,b,c⟩:eR).height=0∧(⟨0,0,a,b,c⟩:eR).time=0:=⟨⟨by simp [cQ],by simp [cQ],ha,hb,hc⟩,rfl,rfl⟩
theorem r9 (l:eh):ju (kz l)∧(kz l).height=0∧(kz l).time=0:=by
 unfold kz;exact QN (gk _) (rU _) (zG _)
theorem Nc: ∀x,some x=(Tryz.prog.info? 73).map (·.bytes)→x=24:=fun _ h=>Option.some.inj (h.trans (show(Tryz.prog.info? 73).map (·.bytes)=some 24 by kernel_rfl))
theorem Wn [NX:Nx] (hc:A6 NX.c) (cv:aE Tryz.prog G 63 [cfM NX.c] (.int .i64 0)) (hl:NX.acs.length≤100000) (eP: ∀a∈NX.acs,SmAc a) (h0:(bN NX.acs NX.c.price).2=0):cY Tryz.prog G 102 [cfM NX.c, .sl NX.acs.length (NX.acs.map aV)] (fun r=> ∃n:qy,r= .tup [lP n, .int .i64 0] ∧gd 0 n):=by
 have c0:=QJ (G:=G) NX.c NX.acs cv hc.price hl eP h0;have k1:=L5 (acs:=NX.acs) (p:=NX.c.price) eP hc.price;obtain⟨r1,r2,r3,r4⟩:=QL h0;generalize (bN NX.acs NX.c.price).1=a at *;have hs: @eE (Vw a.com) 0 ⟨NX.c,a,0,0,0,[],[]⟩:=MO.mk (F:=Vw a.com) hc k1 sm sm sm sm sm sm (by simp [dS]) ⟨rfl,rfl,r2,r3,r4⟩;generalize R8:(⟨NX.c,a,0,0,0,[],[]⟩:kE)=s at *;have ng:s.app=a:=by rw [← R8]
 rw [← ng] at hs r1;have c1:=MD (G:=G) s.app.com (by rw [ng];exact k1.1);have hT:=r9 s.app.com;have iY:=Nc;generalize kz s.app.com=tp at *;have Ib:gd 0 ⟨s,tp,[],a₃ 15 none,false,blk0,[]⟩:=⟨hs,hT.1,dm,dm,a₁ _,sm,by simp [A9],blk0_ok,by dsimp only [hd0];omega,by dsimp only [hd0];omega,a₁ _,r1,fun h=>(by cases h),sm⟩;clear hs ng r1 k1 R8;unfold cY;refine seq' seat Tryz.func102 25 ?_;refine aa ?_;refine aP (c0) rfl rfl aA (by kernel_rfl) ?_;rintro _ ⟨s0,e0,rfl,UN,R6⟩;subst R6;rw [UN];clear UN s0;refine aa ?_;refine al [ae 0,ae 1,ae 2,ae 3,dF 4,ae 5,ae 6,ae 7,ae 8] ?_;refine aa ?_;refine cG rfl aA rfl [] (src (c1)) rfl [] trivial (bk _ (by kernel_rfl)) rfl ?_;refine aa ?_;refine bj rfl (by intro R hR;refine da hR ?_;refine a₀ (b₄ (Nat.mul_le_mul_left _ (c₂ (iY _ rfl))) (by decide)) ?_;exact hR) rfl ?_;refine aa ?_;(refine DF [_,_] [lP ⟨s,tp,[],a₃ 15 none,false,blk0,[]⟩, .int .i64 0] [(18,15)] (by(refine au ?_);exact rfl) ?_ ?_ (by kernel_rfl) (⟨_,rfl,Ib⟩))
 ·exact⟨a₂ 15,trivial⟩
 ·exact lm
theorem lQ: ∀(l:List dM),bg (l.map blkM) 132=true
 | [] =>rfl
 | _ :: _=>rfl
theorem T9 {l:List (Option (List (List UInt8)))} {k:Nat} (hk:k < l.length):bI (l.map pF) l.length (k:Int)=some (pF l[k]):=dB hk (by simp [hk])
abbrev ndW (s:MV) (tp:eR) (bl:MV) (se:MV) (log:List UInt8):MV:= .st [s,fH tp,bl,se, .bool false,blkZ, .sl log.length (u8s log)]
theorem QO {h t:Int} {a b c:List UInt8} (h1:cQ h) (h2:cQ t) (ha:a.length=32) (hb:b.length=32) (hc:c.length=32):ju ⟨h,t,a,b,c⟩∧(⟨h,t,a,b,c⟩:eR).height=h∧(⟨h,t,a,b,c⟩:eR).time=t:=⟨⟨h1,h2,ha,hb,hc⟩,rfl,rfl⟩
theorem sh {b:dM} (l:eh) (r:List ga) (hb:kX b.hd):ju (pE b l r)∧(pE b l r).height=b.hd.height∧(pE b l r).time=b.hd.time:=by
 unfold pE mY;exact QO hb.height hb.time (gk _) (rU _) (zG _)
theorem DI [NX:Nx] {B:Nat} (n:qy) (b:dM) (hn:gd B n) (hB:B≤90000) (hb:dG b) (N5:b.hd.height≤B + 1) (sB:b.hd.time≤100 * (B + 1)) (Zn:Jy n.tip b):cY Tryz.prog G 160 [lP n,blkM b] (ND (B + 1)):=by
 have c0:=zF (G:=G) b hb;have vk:=hn.st;have xV:=hn.log;have kS:=hn.blocks;have hF:=vf (raws:=b.txs) vk.app;have Yl:=hb.n;have SL:=hb.len;have cF:=Sk (G:=G) n.st.app b.txs vk.app om (fun x hx=>by have:=SL x hx;omega);have Uz:=vk.fx;have dA:=MZ hn.rep Zn rfl Uz.2.2.2.1 Uz.2.2.2.2;have Ot:n.st.cfg=NX.c:=Uz.1;clear Uz Zn;unfold r8 iK at dA;generalize iS n.st.app b.txs=f at *;obtain⟨a,rs,eF⟩:=f;dsimp only at hF cF dA;have cC:=Di (G:=G) a;have hC:=Hw hF.1;generalize rM a=q at *;obtain⟨a2,eC⟩:=q;dsimp only at cC hC dA;have cA:=MF (G:=G) b a2.com rs hb.hd hC.1 (by have:=hF.2.2;omega) hF.2.1;have hA:=sh a2.com rs hb.hd;generalize pE b a2.com rs=tp at *;have cH:=xf (G:=G) b.hd hb.hd;generalize mY b.hd=hk at *;have hm:=hn.mono (B':=B + 1) om;obtain⟨W,hW⟩: ∃W,W=n.blocks ++ [b] :=⟨_,rfl⟩
 have Sy:W.length=n.blocks.length + 1:=by rw [hW];simp
 unfold cY;refine seq' seat Tryz.func160 125 ?_;refine aa ?_;refine aP (c0) rfl rfl aA (by kernel_rfl) ?_;rintro _ ⟨raw,e,rfl,he,hf⟩;refine aa ?_;refine ad rfl ?_ ?_ <;> intro h
 ·refine aa ?_;refine aP (dD n e hm) rfl rfl aA (by kernel_rfl) ?_;rintro _ ⟨n2,rp,rfl,im⟩;refine aa ?_;(refine bB [_,_] (rvq) (by kernel_rfl) (⟨n2,rp,rfl,im⟩))
 ·have R6:e=0:=by simpa using h
  obtain⟨f1,f2,f3,f4,f5⟩:=hf R6;have c1:=DE (G:=G) n.log raw xV (by rw [f1];omega);clear f1 f5;refine aa ?_;refine aP (c1) rfl rfl aA (by kernel_rfl) ?_;rintro _ ⟨log,e1,rfl,xS,d0i⟩;refine aa ?_;refine ad rfl ?_ ?_ <;> intro h
  ·refine aa ?_;refine aP (dD n e1 hm) rfl rfl aA (by kernel_rfl) ?_;rintro _ ⟨n2,rp,rfl,im⟩;refine aa ?_;(refine bB [_,_] (rvq) (by kernel_rfl) (⟨n2,rp,rfl,im⟩))
  ·refine aa ?_;refine aK (cF) rfl rfl aA (by kernel_rfl) ?_;refine aa ?_;refine ad rfl ?_ ?_ <;> intro h
   ·refine aa ?_;refine aP (dD n eF hm) rfl rfl aA (by kernel_rfl) ?_;rintro _ ⟨n2,rp,rfl,im⟩;refine aa ?_;(refine bB [_,_] (rvq) (by kernel_rfl) (⟨n2,rp,rfl,im⟩))
   ·refine aa ?_;refine al [ae 0,ae 1,ae 2,ae 3,ae 4,ae 5,ae 6,ae 7,ae 8,ae 9,ae 10,ae 11,ae 12] ?_;refine aa ?_;refine bj rfl (by intro R hR;refine da hR ?_;refine a₀ ((lQ _)) ?_;refine a₀ ⟨rfl,ai (by kernel_rfl) pf⟩ ?_;refine⟨n.blocks.map blkM,sv (by rfl),n.blocks.length,sv pf,?_⟩;exact hR) rfl ?_;refine aa ?_;refine bj rfl (by intro R hR;refine da hR ?_;(refine a₀ (a₂ _) ?_;refine⟨_,rfl,?_⟩;refine a₀ ⟨sm,ai (by kernel_rfl) pf⟩ ?_;refine⟨W.map blkM,sv (by rw [hW];simp;rfl),W.length,sv pf,?_⟩);exact hR) rfl ?_;refine aa ?_;refine aK (cC) rfl rfl aA (by kernel_rfl) ?_;refine aa ?_;refine aK (src (cA)) rfl rfl aA (by kernel_rfl) ?_;refine aa ?_;have o0: @eE (Vw a2.com) (B + 1) { n.st with app:=a2 }:=MO.mk (F:=Vw a2.com) hm.st.cfg hC hm.st.height hm.st.time hm.st.arr hm.st.ents hm.st.entk hm.st.cache hm.st.ck ⟨Ot,rfl,dA.2⟩;have cU:cY Tryz.prog G 231 [il { n.st with app:=a2 },ee b.txs, .sl rs.length (rs.map fc), .int .i64 b.hd.height, .int .i64 b.hd.time] _:=MX (G:=G) (FX:=_) _ b.txs rs o0 om om (fun x hx=>by have:=SL x hx;omega) hF.2.1 (by have:=hF.2.2;omega) _ _ ⟨om,om⟩ ⟨om,om⟩;refine aP (cU) rfl rfl aA (by kernel_rfl) ?_;rintro _ ⟨s3,rp,rfl,Vo⟩;refine aa ?_;have f0d:=hn.sent;have hsk:=hn.sk;have R8:=Vo.ents;have Ev:=Vo.entk;refine av (Nat×List (Option (List (List UInt8)))) (fun x=> [(105, .int .i64 x.1),(104, .int .i64 n.sent.length),(103, .sl n.sent.length (n.sent.map pF)),(12, .ptr 5 25 0 0 []),(13, .ptr 6 73 0 0 []),(11, .ptr 4 259 0 0 []),(3, .ptr 1 132 0 0 []),(4, .ptr 2 259 0 0 []),(5, .ptr 3 73 0 0 [])])
     (fun x=> [(1,⟨81,132,false,0,[blkM b]⟩),(2,⟨120,259,false,0,[QM]⟩),(3,⟨163,73,false,0,[Ju]⟩),(4,⟨120,259,false,0,[ndW (il s3) tp (.sl W.length (W.map blkM)) (.ms 7 1 0 x.2.length) log]⟩),(5,⟨75,25,false,0,[il s3]⟩),(6,⟨163,73,false,0,[St rp]⟩),(7,⟨73,1,true,0,x.2.map pF⟩)]) 8
     (fun x=>x.1≤n.sent.length∧x.2.length=x.1∧∀l∈x.2,A9 (B + 1) l) (fun x=>n.sent.length - x.1) (0,[]) ⟨a₁ _,rfl,sm⟩ (by dsimp only;exact(vm [(1,_),(2,_),(3,_),(4,_),(5,_),(6,_)] [(45,W.length)])) ?_
    clear c0 hf cF cC cA cU o0;rintro⟨k,Z⟩ ⟨na,Zc,Zl⟩;try dsimp only
    dsimp only at na Zc Zl;refine aa ?_;refine ad rfl ?_ ?_ <;> intro h
    ·have aC:k < n.sent.length:=by have:=ot h;omega
     have aH:=aj.mk (T9 aC);have mZ:=hsk _ (a₄ aC);generalize n.sent[k] =l at *;cases l with
     | none=>
      replace mZ:dS ([] :List (List UInt8))∧([] :List (List UInt8)).length≤B:=⟨by simp [dS],a₁ _⟩;have cP:=HH (G:=G) [] s3.ents mZ.1 sm om (fun e he=>(Ev e he).key);have pG:=tL s3.ents [] mZ.1;generalize pruneS s3.ents [] =ps at *;obtain⟨Z2,UZ⟩: ∃Z2,Z2=Z ++ [some ps] :=⟨_,rfl⟩
      have c0d:Z2.length=Z.length + 1:=by rw [UZ];simp
      have UE: ∀l∈Z2,A9 (B + 1) l:=by
       intro l hl;rw [UZ] at hl;rcases a₆.1 hl with hl | hl
       ·exact Zl l hl
       ·rw [a₅.1 hl];exact⟨pG.1,b₄ pG.2 (by have:=mZ.2;omega)⟩
      refine aa ?_;refine al [ae 0,ae 1,ae 2,ae 3,ae 4,dF 5,ae 6,ae 7,ae 8,ae 9] ?_;refine aa ?_;refine tq (cP) ?_;refine bj rfl (by intro R hR;refine da hR ?_;(refine a₀ (a₂ _) ?_;refine⟨_,rfl,?_⟩;refine a₀ ⟨sm,ai (by kernel_rfl) pf⟩ ?_;refine⟨Z2.map pF,sv (by rw [UZ,b₉];rfl),Z2.length,sv pf,?_⟩);exact hR) rfl ?_;refine aa ?_;exact⟨(k + 1,Z2),⟨dm,dm,UE⟩,dm,(by dsimp only;exact(vm [(1,_),(2,_),(3,_),(4,_),(5,_),(6,_),(7,_)] []))⟩
     | some ks=>
      replace mZ:dS ks∧ks.length≤B:=mZ;have cP:=HH (G:=G) ks s3.ents mZ.1 (by have:=mZ.2;omega) om (fun e he=>(Ev e he).key);have pG:=tL s3.ents ks mZ.1;generalize pruneS s3.ents ks=ps at *;obtain⟨Z2,UZ⟩: ∃Z2,Z2=Z ++ [some ps] :=⟨_,rfl⟩
      have c0d:Z2.length=Z.length + 1:=by rw [UZ];simp
      have UE: ∀l∈Z2,A9 (B + 1) l:=by
       intro l hl;rw [UZ] at hl;rcases a₆.1 hl with hl | hl
       ·exact Zl l hl
       ·rw [a₅.1 hl];exact⟨pG.1,b₄ pG.2 (by have:=mZ.2;omega)⟩
      refine aa ?_;refine al [ae 0,ae 1,ae 2,ae 3,ae 4,dF 5,ae 6,ae 7,ae 8,ae 9] ?_;refine aa ?_;refine tq (cP) ?_;refine bj rfl (by intro R hR;refine da hR ?_;(refine a₀ (a₂ _) ?_;refine⟨_,rfl,?_⟩;refine a₀ ⟨sm,ai (by kernel_rfl) pf⟩ ?_;refine⟨Z2.map pF,sv (by rw [UZ,b₉];rfl),Z2.length,sv pf,?_⟩);exact hR) rfl ?_;refine aa ?_;exact⟨(k + 1,Z2),⟨dm,dm,UE⟩,dm,(by dsimp only;exact(vm [(1,_),(2,_),(3,_),(4,_),(5,_),(6,_),(7,_)] []))⟩
    ·have Y2:k=n.sent.length:=by have:=oF h;omega
     have YM:s3.app.com=a2.com:=Vo.fx.2.1;rw [← YM] at Vo;have hrp:=dA.1;rw [← YM,← hW] at hrp;have xI: ∀x∈W,dG x:=fun x hx=>by
      rw [hW] at hx;rcases a₆.1 hx with hx | hx
      ·exact hn.bok x hx
      ·rw [a₅.1 hx];exact hb
     have Ib:gd (B + 1) ⟨s3,tp,W,Z,false,blk0,log⟩:=⟨Vo,hA.1,dm,dm,dm,dm,Zl,blk0_ok,by dsimp only [hd0];omega,by dsimp only [hd0];omega,d0i,hrp,fun h=>(by cases h),xI⟩;refine aa ?_;refine aK (src (cH)) rfl rfl aA (by kernel_rfl) ?_;refine aa ?_;refine al [ae 0,ae 1,ae 2,ae 3] ?_;refine aa ?_;(refine DF [_,_] [lP ⟨s3,tp,W,Z,false,blk0,log⟩,St ⟨rp.code,rp.key,rp.prio,rp.ev,rp.exp,rp.inv,rp.dn,rp.fl,rp.tx,rp.height,u8s hk⟩] [(7,Z.length)] (rvq) ?_ ?_ (by kernel_rfl) (⟨_,_,rfl,Ib⟩))
     ·exact⟨by show Z.length≤(Z.map pF).length;simp,trivial⟩
     ·exact lm
end
end Go.Proofs.YtohikcplmbkmeaaGreatDoor
namespace Go.Proofs
open Go.Shelf
def Tryz.sortAcc_ren:Go.Shelf.Ren:=⟨fun | 6=>75 | 15=>125 | 14=>124 | 28=>188 | 29=>189 | 20=>180 | 21=>181 | 22=>182 | 23=>183 | 24=>184 | 25=>185 | 26=>186 | 27=>187 | 46=>242 | 47=>243 | 48=>244 | 49=>245 | 50=>246 | 57=>271 | n=>n,fun | 22=>22 | 24=>91 | 25=>140 | 3=>3 | 39=>190 | 0=>0 | 53=>178 | 55=>23 | 4=>4 | 46=>239 | 45=>238 | 50=>196 | 5=>5 | 9=>9 | 66=>296 | 70=>227 | 76=>331 | 77=>283 | n=>n,fun | n=>n⟩
theorem Tryz.sortAcc:Go.Proofs.SlLaysF0.n6 Tryz.prog Tryz.sortAcc_ren:={
 mixed:=by kernel_rfl
 f6:=⟨Tryz.f75.name,by decide,Tryz.func75.trans (congrArg some (by kernel_rfl))⟩
 f14:=⟨Tryz.f124.name,by decide,Tryz.func124.trans (congrArg some (by kernel_rfl))⟩
 f15:=Tryz.func125.trans (congrArg some (by kernel_rfl))
 f20:=⟨Tryz.f180.name,by decide,Tryz.func180.trans (congrArg some (by kernel_rfl))⟩
 f21:=⟨Tryz.f181.name,by decide,Tryz.func181.trans (congrArg some (by kernel_rfl))⟩
 f22:=⟨Tryz.f182.name,by decide,Tryz.func182.trans (congrArg some (by kernel_rfl))⟩
 f23:=⟨Tryz.f183.name,by decide,Tryz.func183.trans (congrArg some (by kernel_rfl))⟩
 f24:=⟨Tryz.f184.name,by decide,Tryz.func184.trans (congrArg some (by kernel_rfl))⟩
 f25:=⟨Tryz.f185.name,by decide,Tryz.func185.trans (congrArg some (by kernel_rfl))⟩
 f26:=⟨Tryz.f186.name,by decide,Tryz.func186.trans (congrArg some (by kernel_rfl))⟩
 f27:=⟨Tryz.f187.name,by decide,Tryz.func187.trans (congrArg some (by kernel_rfl))⟩
 f28:=Tryz.func188.trans (congrArg some (by kernel_rfl))
 f29:=Tryz.func189.trans (congrArg some (by kernel_rfl))
 f46:=⟨Tryz.f242.name,by decide,Tryz.func242.trans (congrArg some (by kernel_rfl))⟩
 f47:=Tryz.func243.trans (congrArg some (by kernel_rfl))
 f48:=Tryz.func244.trans (congrArg some (by kernel_rfl))
 f49:=⟨Tryz.f245.name,by decide,Tryz.func245.trans (congrArg some (by kernel_rfl))⟩
 f50:=⟨Tryz.f246.name,by decide,Tryz.func246.trans (congrArg some (by kernel_rfl))⟩
 f57:=⟨Tryz.f271.name,by decide,Tryz.func271.trans (congrArg some (by kernel_rfl))⟩
 t0:=Tryz.underlying0
 a0:=Tryz.isAgg0
 z0:=Tryz.sizeOf0
 v0:=Tryz.zeroValue0
 t3:=Tryz.underlying3
 a3:=Tryz.isAgg3
 z3:=Tryz.sizeOf3
 v3:=Tryz.zeroValue3
 t4:=Tryz.underlying4
 a4:=Tryz.isAgg4
 z4:=Tryz.sizeOf4
 v4:=Tryz.zeroValue4
 t5:=Tryz.underlying5
 a5:=Tryz.isAgg5
 z5:=Tryz.sizeOf5
 v5:=Tryz.zeroValue5
 t9:=Tryz.underlying9
 a9:=Tryz.isAgg9
 z9:=Tryz.sizeOf9
 v9:=Tryz.zeroValue9
 t22:=Tryz.underlying22
 a22:=Tryz.isAgg22
 z22:=Tryz.sizeOf22
 v22:=Tryz.zeroValue22
 t25:=Tryz.underlying140
 a25:=Tryz.isAgg140
 z25:=Tryz.sizeOf140
 v25:=Tryz.zeroValue140
 t39:=Tryz.underlying190
 a39:=Tryz.isAgg190
 z39:=Tryz.sizeOf190
 v39:=Tryz.zeroValue190
 t45:=Tryz.underlying238
 a45:=Tryz.isAgg238
 z45:=Tryz.sizeOf238
 v45:=Tryz.zeroValue238
 t46:=Tryz.underlying239
 a46:=Tryz.isAgg239
 z46:=Tryz.sizeOf239
 v46:=Tryz.zeroValue239
 t50:=Tryz.underlying196
 a50:=Tryz.isAgg196
 z50:=Tryz.sizeOf196
 v50:=Tryz.zeroValue196
 t53:=Tryz.underlying178
 a53:=Tryz.isAgg178
 z53:=Tryz.sizeOf178
 v53:=Tryz.zeroValue178
 t55:=Tryz.underlying23
 a55:=Tryz.isAgg23
 z55:=Tryz.sizeOf23
 v55:=Tryz.zeroValue23
 t66:=Tryz.underlying296
 a66:=Tryz.isAgg296
 z66:=Tryz.sizeOf296
 v66:=Tryz.zeroValue296
 t70:=Tryz.underlying227
 a70:=Tryz.isAgg227
 z70:=Tryz.sizeOf227
 v70:=Tryz.zeroValue227
 t76:=Tryz.underlying331
 a76:=Tryz.isAgg331
 z76:=Tryz.sizeOf331
 v76:=Tryz.zeroValue331
 t77:=Tryz.underlying283
 a77:=Tryz.isAgg283
 z77:=Tryz.sizeOf283
 v77:=Tryz.zeroValue283 }
end Go.Proofs
