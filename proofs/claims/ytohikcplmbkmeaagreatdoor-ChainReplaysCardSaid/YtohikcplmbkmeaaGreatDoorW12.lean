/- Parts of a proof. -/
import Derived.Test.YtohikcplmbkmeaaGreatDoorW11
open And renaming intro → a₀
open List renaming mem_singleton → a₁,map_append → a₄,mem_append → a₆,getElem_mem → a₉,length_set → b₅,mem_or_eq_of_mem_set → b₆,mem_of_mem_take → c₁,length_cons → c₃,length_take → c₄,sum_append → c₅,replicate → c₇
open Nat renaming ble → a₂,le_refl → a₃,zero_le → a₅,ble_eq → a₇,zero_add → a₈,le_of_eq → b₉,mul_le_mul_right → c₀
open Int renaming emod_nonneg → b₀,tmod_eq_emod_of_nonneg → b₄,emod_lt_of_pos → b₇
set_option maxRecDepth 20000
set_option maxHeartbeats 16000000
set_option linter.unusedVariables false
set_option linter.unusedSimpArgs false
namespace Go.Proofs.YtohikcplmbkmeaaGreatDoor
open Go.RowKit
section
variable {G:GS}
attribute [local irreducible] ak aB aD aJ aQ vC aY aw
structure YX where
 kind:Int
 n:Int
 bytes:Int
 gas:Int
 raw:List UInt8
abbrev Vx (o:YX):MV:= .st [.int .i64 o.kind, .int .i64 o.n, .int .i64 o.bytes, .int .i64 o.gas, .sl o.raw.length (u8s o.raw)]
theorem J0 {a n:Int} (h1:0≤a) (h2:a < 4611686018427387904) (h3:0 < n) (h4:n < 4611686018427387904):IntKind.i64.wrap (a.tmod n)=a % n:=by
 rw [b₄ h1];have:=b₀ a (show n≠0 by omega);have:=b₇ a h3;exact eX _ om om
theorem xE {t:eR} {time prop:Int} {raws:List (List UInt8)} (ht:ju t) (h1: -1000≤t.height∧t.height < 4611686018427387904) (h2: -1000≤t.time∧t.time < 4611686018427387904) (h3:cQ time) (h4:cQ prop) (hn:raws.length≤1000) (hr: ∀x∈raws,x.length≤4096):dG (iF t time prop raws):=by
 unfold iF;unfold cQ at h3;refine⟨⟨by dsimp only;unfold cQ;omega,?_,h4,ht.hash,gB _,ht.app,ht.res⟩,hn,hr⟩;dsimp only;unfold cQ;split <;> omega
theorem xF (t:eR) (time prop:Int) (raws:List (List UInt8)):(iF t time prop raws).hd.height=t.height + 1∧(iF t time prop raws).hd.time=if t.time + 1 > time then t.time + 1 else time:=⟨rfl,rfl⟩
theorem J1 [NX:Nx] {B:Nat} (n:qy) (o:YX) (hn:gd B n) (hB:B≤90000) (ho1:cQ o.bytes) (ho2:cQ o.gas):cY Tryz.prog G 159 [lP n,Vx o] (ND (B + 1)):=by
 have zU:=hn.st.cfg;have hm:=hn.mono (B':=B + 1) om;have hth:=hn.th;have htt:=hn.tt;have vk:=hn.st.time;have zS:=zU.nodes;have hsf:=zU.self;have b0r:=aX.mk (J0 (a:=n.tip.height + 1) (n:=n.st.cfg.nodes) om om om om);generalize hrm:(n.tip.height + 1) % n.st.cfg.nodes=rm at *;unfold cY;refine seq' seat Tryz.func159 93 ?_;refine aa ?_;refine ag rfl rfl ?_ rfl ?_ <;> intro h
 ·refine aa ?_;refine ad rfl ?_ ?_ <;> intro h
  ·refine aa ?_;refine aP (dD n 1 hm) rfl rfl aA (by kernel_rfl) ?_;rintro _ ⟨n2,rp,rfl,im⟩;refine aa ?_;(refine bB [_,_] (rvq) (by kernel_rfl) (⟨n2,rp,rfl,im⟩))
  ·refine aa ?_;refine al [ae 0,ae 1,ae 2,ae 3,ae 4,ae 5,ae 6,ae 7,ae 8,ae 9] ?_;refine aa ?_;refine ad rfl ?_ ?_ <;> intro h
   ·refine aa ?_;refine aP (dD n 36 hm) rfl rfl aA (by kernel_rfl) ?_;rintro _ ⟨n2,rp,rfl,im⟩;refine aa ?_;(refine bB [_,_] (rvq) (by kernel_rfl) (⟨n2,rp,rfl,im⟩))
   ·have q1:=h;refine aa ?_;refine ag rfl rfl ?_ rfl ?_ <;> intro h
    ·have q2:=h;refine aa ?_;refine ad rfl ?_ ?_ <;> intro h
     ·refine aa ?_;refine aP (dD n 3 hm) rfl rfl aA (by kernel_rfl) ?_;rintro _ ⟨n2,rp,rfl,im⟩;refine aa ?_;(refine bB [_,_] (rvq) (by kernel_rfl) (⟨n2,rp,rfl,im⟩))
     ·have q3:=h;have c1:=Jz (G:=G) n.st.cfg o.bytes o.gas zU ho1 ho2;refine aa ?_;refine aP (c1) rfl rfl aA (by kernel_rfl) ?_;rintro _ ⟨x,y,rfl,hx,hy,hxb⟩;have c2:=QE (G:=G) (FX:=_) n.st x y hn.st om hx hy;have xP:=Jv (FX:=_) (b:=x) (g:=y) hn.st;have hbs:=FR n.st x y n.st.cfg.blkB hxb (by have:=zU.blkB;omega);generalize kZ n.st x y=raws at *;have c3:=MC (G:=G) n.tip n.st.time n.st.cfg.self raws om om om (fun x hx=>by have:=xP.1 x hx;omega);have VO:=xE (time:=n.st.time) (prop:=n.st.cfg.self) hn.tip om om (by unfold cQ;omega) (by unfold cQ;omega) om xP.1;have N5:=xF n.tip n.st.time n.st.cfg.self raws;have sB:(if n.tip.time + 1 > n.st.time then n.tip.time + 1 else n.st.time)≤100 * (B + 1):=by split <;> omega
      rw [← N5.2] at sB;replace N5:=N5.1;have Zn:Jy n.tip (iF n.tip n.st.time n.st.cfg.self raws):=by
       have Ot:n.st.cfg=NX.c:=hn.st.fx.1;have q1:n.st.cfg.self=(n.tip.height + 1).tmod n.st.cfg.nodes:=by simpa using q1
       rw [b₄ om] at q1;have q2: ¬ n.tip.height ≥ 1073741824:=by simpa using q2
       have q3: ¬ (if n.tip.time + 1 > n.st.time then n.tip.time + 1 else n.st.time) > 1099511627776:=by simpa using q3
       refine Na (by rw [← Ot];omega) om (by rw [← Ot];exact q1) om xP.2 (by rw [← Ot];exact hbs)
      generalize iF n.tip n.st.time n.st.cfg.self raws=b at *;have c4:=xf (G:=G) b.hd VO.hd;generalize mY b.hd=hk at *;have Ib:gd (B + 1) ⟨n.st,n.tip,n.blocks,n.sent,true,b,n.log⟩:=⟨hm.st,hm.tip,hm.th,hm.tt,hm.blocks,hm.sent,hm.sk,VO,dm,dm,hm.log,hm.rep,fun _=>Zn,hm.bok⟩;refine aa ?_;refine al [ae 0,ae 1,ae 2,ae 3,ae 4,ae 5,ae 6,ae 7,ae 8,ae 9,ae 10,dF 11,dF 12,ae 13,ae 14] ?_;refine aa ?_;refine cG rfl aA rfl [] (c2) rfl [] trivial (bk _ (by kernel_rfl)) rfl ?_;refine aa ?_;refine cG rfl aA rfl [] (c3) rfl [] trivial (bk _ (by kernel_rfl)) rfl ?_;refine aa ?_;refine al [ae 0,ae 1,ae 2,ae 3,ae 4] ?_;refine aa ?_;refine al [ae 0,ae 1,ae 2,ae 3,ae 4,ae 5,ae 6,ae 7,dF 8,ae 9,ae 10,ae 11] ?_;refine aa ?_;refine cG rfl aA rfl [] (src (c4)) rfl [] trivial (bk _ (by kernel_rfl)) rfl ?_;refine aa ?_;(refine bB [_,_] (rvq) (by kernel_rfl) (⟨⟨n.st,n.tip,n.blocks,n.sent,true,b,n.log⟩,⟨_,_,_,(_,_),(_,_),(_,_),(_,_),(_,_),(_,_),_,_⟩,rfl,Ib⟩))
    ·refine aa ?_;refine aP (dD n 3 hm) rfl rfl aA (by kernel_rfl) ?_;rintro _ ⟨n2,rp,rfl,im⟩;refine aa ?_;(refine bB [_,_] (rvq) (by kernel_rfl) (⟨n2,rp,rfl,im⟩))
 ·refine aa ?_;refine aP (dD n 1 hm) rfl rfl aA (by kernel_rfl) ?_;rintro _ ⟨n2,rp,rfl,im⟩;refine aa ?_;(refine bB [_,_] (rvq) (by kernel_rfl) (⟨n2,rp,rfl,im⟩))
end
section
theorem Rj [NX:Nx] {bl:List dM} (hc:A6 NX.c) (h0:(bN NX.acs NX.c.price).2=0):iI NX.acs NX.c bl=((repL NX.c.nodes NX.c.blkB bl 0 (bN NX.acs NX.c.price).1 (kz (bN NX.acs NX.c.price).1.com)).1,(repL NX.c.nodes NX.c.blkB bl 0 (bN NX.acs NX.c.price).1 (kz (bN NX.acs NX.c.price).1.com)).2.1,(repL NX.c.nodes NX.c.blkB bl 0 (bN NX.acs NX.c.price).1 (kz (bN NX.acs NX.c.price).1.com)).2.2.1,((repL NX.c.nodes NX.c.blkB bl 0 (bN NX.acs NX.c.price).1 (kz (bN NX.acs NX.c.price).1.com)).2.2.2:Int)):=by
 unfold iI;rw [if_neg (by rw [xh hc];simp),if_neg (by rw [h0];simp)]
end
section
variable {G:GS}
attribute [local irreducible] ak aB aD aJ aQ vC aY aw
theorem Un {t:eR} {b:dM} {n m:Int} (h:gQ t b n m=0):b.hd.height=t.height + 1:=by
 by_cases h1:b.hd.height=t.height + 1
 ·exact h1
 ·exfalso;revert h;unfold gQ;split
  ·simp
  ·rw [if_pos (.inl h1)];simp
theorem Rk (t:eR) (b:dM) (n m:Int):gQ t b n m≤1000:=by
 unfold gQ;(repeat' split) <;> omega
theorem zN [NX:Nx] {B:Nat} (n:qy) (b0:dM) (hn:gd B n) (h0:dG b0):cY Tryz.prog G 162 [lP n, .sl (r7 b0).length (u8s (r7 b0))] (fun r=> ∃(b:dM) (e:Int),r= .tup [blkM b, .int .i64 e] ∧cQ e∧dG b∧(e=0→Wl b0 b∧b.hd.height=n.tip.height + 1∧Jy n.tip b)):=by
 have c0:=MU (G:=G) b0 h0;generalize r7 b0=R at *;have zU:=hn.st.cfg;unfold cY;refine seq' seat Tryz.func162 30 ?_;refine aa ?_;refine aP (c0) rfl rfl aA (by kernel_rfl) ?_;rintro _ ⟨b,e,rfl,he,hb,hg⟩;refine aa ?_;refine ad rfl ?_ ?_ <;> intro h
 ·have gf:e≠0:=by simpa using h
  refine aa ?_;(refine bB [_,_] (rvq) (by kernel_rfl) (⟨b,e,rfl,he,hb,fun h=>absurd h gf⟩))
 ·have R6:e=0:=by simpa using h
  have Yl:=hb.n;have c1:=MA (G:=G) n.tip b n.st.cfg.nodes n.st.cfg.blkB hn.tip hb.hd (by have:=zU.nodes;have:=zU.self;unfold cQ;omega) (by have:=zU.blkB;unfold cQ;omega) om (fun x hx=>by have:=hb.len x hx;omega);have hh:=fun h=>Un (t:=n.tip) (b:=b) (n:=n.st.cfg.nodes) (m:=n.st.cfg.blkB) h
  have hl:=Rk n.tip b n.st.cfg.nodes n.st.cfg.blkB;have hq:gQ n.tip b NX.c.nodes NX.c.blkB=gQ n.tip b n.st.cfg.nodes n.st.cfg.blkB:=by rw [hn.st.fx.1]
  generalize gQ n.tip b n.st.cfg.nodes n.st.cfg.blkB=q at *;refine aa ?_;refine al [ae 0,ae 1,ae 2,ae 3,ae 4,ae 5,ae 6,ae 7,ae 8,ae 9,ae 10,ae 11,dF 12,ae 13,ae 14] ?_;refine aa ?_;refine cG rfl aA rfl [] (src (c1)) rfl [] trivial (bk _ (by kernel_rfl)) rfl ?_;refine aa ?_;(refine bB [_,_] (rvq) (by kernel_rfl) (⟨b,(q:Int),rfl,by unfold cQ;omega,hb,fun h=>⟨hg R6,hh om,⟨hq.trans om⟩⟩⟩))
theorem F5 [NX:Nx] {B:Nat} (n:qy) (b0:dM) (hn:gd B n) (h0:dG b0):cY Tryz.prog G 161 [lP n, .sl (r7 b0).length (u8s (r7 b0))] (ND B):=by
 have c0:=zN (G:=G) n b0 hn h0;generalize r7 b0=R at *;have zU:=hn.st.cfg;unfold cY;refine seq' seat Tryz.func161 50 ?_;refine aa ?_;refine aP (c0) rfl rfl aA (by kernel_rfl) ?_;rintro _ ⟨b,e,rfl,he,hb,_⟩;refine aa ?_;refine ad rfl ?_ ?_ <;> intro h
 ·refine aa ?_;refine aP (dD n e hn) rfl rfl aA (by kernel_rfl) ?_;rintro _ ⟨n2,rp,rfl,im⟩;refine aa ?_;(refine bB [_,_] (rvq) (by kernel_rfl) (⟨n2,rp,rfl,im⟩))
 ·have cJ:=QF (G:=G) (FX:=_) n.st b.txs n.st.cfg.blkB n.st.cfg.blkG hn.st (by have:=zU.blkB;unfold cQ;omega) (by have:=zU.blkG;unfold cQ;omega) hb.n hb.len;have cH:=xf (G:=G) b.hd hb.hd;generalize mY b.hd=hk at *;refine aa ?_;refine aP (cJ) rfl rfl aA (by kernel_rfl) ?_;rintro _ ⟨v,rfl,hv⟩;refine aa ?_;refine ad rfl ?_ ?_ <;> intro h
  ·refine aa ?_;refine aP (dD n v hn) rfl rfl aA (by kernel_rfl) ?_;rintro _ ⟨n2,rp,rfl,im⟩;refine aa ?_;(refine bB [_,_] (rvq) (by kernel_rfl) (⟨n2,rp,rfl,im⟩))
  ·refine aa ?_;refine al [ae 0,ae 1,ae 2,ae 3,ae 4,ae 5,dF 6,ae 7,ae 8,ae 9] ?_;refine aa ?_;refine cG rfl aA rfl [] (src (cH)) rfl [] trivial (bk _ (by kernel_rfl)) rfl ?_;refine aa ?_;(refine bB [_,_] (rvq) (by kernel_rfl) (⟨n,⟨_,_,_,(_,_),(_,_),(_,_),(_,_),(_,_),(_,_),_,_⟩,rfl,hn⟩))
theorem Rl [NX:Nx] {B:Nat} (n:qy) (hn:gd B n) (hB:B≤90000):cY Tryz.prog G 163 [lP n] (ND B):=by
 have iY:=Nc;have R8:=hn.st.ents;have cR:=A3 (G:=G) n.st.app;have Ib:gd B ⟨{ n.st with app:=oe n.st.app,ents:= [],cache:= [] },n.tip,n.blocks,c₇ 15 none,n.held,n.prop,n.log⟩:=⟨⟨hn.st.cfg,⟨hn.st.app.1,hn.st.app.1,hn.st.app.2.2⟩,hn.st.height,hn.st.time,hn.st.arr,a₅ _,fun e he=>(nomatch he),a₅ _,by simp [dS],hn.st.fx⟩,hn.tip,hn.th,hn.tt,hn.blocks,sm,by simp [A9],hn.prop,hn.ph,hn.pt,hn.log,hn.rep,hn.chk,hn.bok⟩;generalize oe n.st.app=a at *;unfold cY;refine seq' seat Tryz.func163 37 ?_;refine aa ?_;refine av (Nat×List (List UInt8)) (fun x=> [(11, .int .i64 x.1),(10, .int .i64 n.st.ents.length),(9, .sl n.st.ents.length (n.st.ents.map bU)),(4, .ptr 3 73 0 0 []),(1, .ptr 0 259 0 0 []),(2, .ptr 1 259 0 0 []),(3, .ptr 2 73 0 0 [])])
  (fun x=> [(0,⟨120,259,false,0,[lP n]⟩),(1,⟨120,259,false,0,[QM]⟩),(2,⟨163,73,false,0,[Ju]⟩),(3,⟨163,73,false,0,[.st [.int .i64 0, .arr 32 1 k0, .int .u64 0, .nils, .nils, .nils, .nils, .ms 4 32 0 x.2.length, .nils, .int .i64 0, .arr 32 1 k0]]⟩),(4,⟨68,32,true,0,x.2.map keyM⟩)]) 5
  (fun x=>x.1≤n.st.ents.length∧x.2.length=x.1) (fun x=>n.st.ents.length - x.1) (0,[]) ⟨a₅ _,rfl⟩ (by dsimp only;exact(vm [(0,_),(1,_),(2,_),(3,_)] [])) ?_
 rintro⟨k,ks⟩ ⟨na,mZ⟩;try dsimp only
 dsimp only at na mZ;refine aa ?_;refine ad rfl ?_ ?_ <;> intro h
 ·have aC:k < n.st.ents.length:=by have:=ot h;omega
  have aH:=fu aC;generalize n.st.ents[k] =e at *;have aH:=aj.mk aH;obtain⟨K2,Eo⟩: ∃K2,K2=ks ++ [e.key] :=⟨_,rfl⟩
  have Xs:K2.length=ks.length + 1:=by rw [Eo];simp
  refine aa ?_;refine aO rfl rfl (by intro R hR;refine da hR ?_;(refine a₀ (a₃ _) ?_;refine⟨_,rfl,?_⟩;refine a₀ ⟨sm,ai (by kernel_rfl) pf⟩ ?_;refine⟨K2.map keyM,sv (by rw [Eo,a₄];rfl),K2.length,sv pf,?_⟩);exact hR) rfl ?_;refine aa ?_;exact⟨(k + 1,K2),⟨dm,dm⟩,dm,(by dsimp only;exact(vm [(0,_),(1,_),(2,_),(3,_),(4,_)] []))⟩
 ·refine aa ?_;refine aK (src (cR)) rfl rfl aA (by kernel_rfl) ?_;refine aa ?_;refine aO rfl rfl (by intro R hR;refine da hR ?_;refine a₀ (Nat.le_trans (Nat.mul_le_mul_left _ (b₉ (iY _ rfl))) (by decide)) ?_;exact hR) rfl ?_;refine aa ?_;refine al [ae 0,ae 1,ae 2,ae 3] ?_;refine aa ?_;(refine DF [_,_] [lP ⟨{ n.st with app:=a,ents:= [],cache:= [] },n.tip,n.blocks,c₇ 15 none,n.held,n.prop,n.log⟩,St ⟨0,k0,0,(0,[]),(0,[]),(0,[]),(0,[]),(ks.length,ks.map keyM),(0,[]),0,k0⟩] [(4,ks.length),(18,15)] (rvq) ?_ ?_ (by kernel_rfl) (⟨_,_,rfl,Ib⟩))
  ·exact⟨by show ks.length≤(ks.map keyM).length;simp,a₃ 15,trivial⟩
  ·exact lm
theorem HW: ∀(l:List (Option (List (List UInt8)))),bg (l.map pF) 1=true
 | [] =>rfl
 | none :: _=>rfl
 | some _ :: _=>rfl
theorem Rm {l:List (Option (List (List UInt8)))} {k:Nat} (hk:k < l.length):bI (l.map pF) l.length (k:Int)=some (pF l[k]):=dB hk (by simp [hk])
theorem zO: ∀l:Option (List (List UInt8)),(pF l).idFree=true
 | none=>rfl
 | some _=>rfl
theorem sy: ∀l:List (Option (List (List UInt8))),MV.idFrees (l.map pF)=true
 | [] =>rfl
 | a :: l=>by
  show((pF a).idFree && MV.idFrees (l.map pF))=true
  rw [zO a,sy l]
  rfl
theorem F6 {σ:Nat→Option Nat} {fz:Fz} {v:MV} {ks:List (List UInt8)} (hv:eZ σ fz (pF (some ks)) v): ∀(s:List (Option (List (List UInt8)))) (p:Nat),eZ.relVs σ fz ((s.set p (some ks)).map pF) ((s.map pF).set p v)
 | [],_=>trivial
 | a :: s,0=>⟨hv,bk _ (sy s)⟩
 | a :: s,p + 1=>⟨ic _ (zO a),F6 hv s p⟩
theorem Uo [NX:Nx] {B:Nat} (n:qy) (peer:Int) (hn:gd B n) (hB:B≤90000) (hp:1≤peer∧peer≤15):cY Tryz.prog G 164 [lP n, .int .i64 peer] (ND (B + 1)):=by
 have hm:=hn.mono (B':=B + 1) om;have R8:=hn.st.ents;have Bv:=hn.sent;obtain⟨p,hpe⟩: ∃p:Nat,peer - 1=p:=⟨(peer - 1).toNat,om⟩
 have RS:p < n.sent.length:=om;have aH:aj (bI (n.sent.map pF) n.sent.length (peer - 1)) (pF n.sent[p]):=by rw [hpe];exact aj.mk (Rm RS)
 have UG:aj (EG n.sent.length (peer - 1)) p:=by rw [hpe];exact aj.mk (cI RS)
 have hnt:aj (cE (n.sent.map pF) (0 + p)) (pF n.sent[p]):=aj.mk (by rw [bZ,a₈];simp [RS]);have mZ:=hn.sk _ (a₉ RS);have gf:bH (n.sent.map pF≠ []):=bH.mk (by intro h;rw [List.map_eq_nil_iff] at h;rw [h] at Bv;cases Bv);have Xe: ∀e∈n.st.ents,e.key.length=32∧e.peers.length < 1000000000∧e.raw.length≤1000000:=fun e he=>by
  have:=hn.st.entk e he;exact⟨this.key,by have:=this.peers;omega,by have:=this.raw;omega⟩
 generalize n.sent[p] =l at *;cases l with
 | none=>
  replace mZ:dS ([] :List (List UInt8))∧([] :List (List UInt8)).length≤B:=⟨by simp [dS],a₅ _⟩;have c1:=MS (G:=G) n.st.ents peer [] mZ.1 sm om Xe;have Ga:=xm peer [] n.st.ents (fun e he=>(hn.st.entk e he).raw);generalize lO peer [] n.st.ents=nx at *;obtain⟨raw,ok⟩:=nx;dsimp only at c1 Ga;have c2:=nS (G:=G) raw om;have hq:=gk raw;generalize iH raw=q at *;obtain⟨K2,Eo⟩: ∃K2,K2= [] ++ [q] :=⟨_,rfl⟩
  have Xs:K2.length=0 + 1:=by rw [Eo];simp
  have UH:dS K2∧K2.length≤B + 1:=by
   refine⟨?_,by have:=mZ.2;omega⟩;intro x hx;rw [Eo] at hx;rcases a₆.1 hx with hx | hx
   ·exact mZ.1 x hx
   ·rw [a₁.1 hx];exact hq
  obtain⟨S2,Vf⟩: ∃S2,S2=n.sent.set p (some K2):=⟨_,rfl⟩
  have Va:S2.length=n.sent.length:=by rw [Vf,b₅]
  have Ib:gd (B + 1) ⟨n.st,n.tip,n.blocks,S2,n.held,n.prop,n.log⟩:=⟨hm.st,hm.tip,hm.th,hm.tt,hm.blocks,dm,fun l hl=>by
   dsimp only at hl;rw [Vf] at hl;rcases b₆ hl with hl | rfl
   ·exact hm.sk l hl
   ·exact UH,hm.prop,hm.ph,hm.pt,hm.log,hm.rep,hm.chk,hm.bok⟩
  unfold cY;refine seq' seat Tryz.func164 57 ?_;refine aa ?_;refine al [ae 0,ae 1,ae 2,ae 3,ae 4,ae 5,ae 6,ae 7,ae 8,ae 9,dF 10,ae 11,ae 12,ae 13,ae 14,ae 15] ?_;refine aa ?_;refine tq (c1) ?_;cases ok with
  | false=>
   refine aa ?_;refine aP (dD n 7 hm) rfl rfl aA (by kernel_rfl) ?_;rintro _ ⟨n2,rp,rfl,im⟩;refine aa ?_;(refine bB [_,_] (rvq) (by kernel_rfl) (⟨n2,rp,rfl,im⟩))
  | true=>
   refine aa ?_;refine aK (src (c2)) rfl rfl aA (by kernel_rfl) ?_;refine aa ?_;refine aO rfl rfl (by intro R hR;refine da hR ?_;refine a₀ ((HW _)) ?_;refine a₀ ⟨rfl,ai (by kernel_rfl) pf⟩ ?_;refine⟨n.sent.map pF,sv (by rfl),n.sent.length,sv pf,?_⟩;exact hR) rfl ?_;refine Vu ?_;refine zz ([(1, .int .i64 peer),(2, .ptr 0 259 0 0 []),(4, .ptr 1 259 0 0 []),(5, .ptr 2 73 0 0 []),(6, .sl raw.length (u8s raw)),(8, .ptr 3 32 0 0 []),(9, .ms 4 1 0 n.sent.length)]) ([(0,⟨120,259,false,0,[lP n]⟩),(1,⟨120,259,false,0,[QM]⟩),(2,⟨163,73,false,0,[Ju]⟩),(3,⟨68,32,false,0,[keyM q]⟩),(4,⟨73,1,false,0,n.sent.map pF⟩)]) (5) (vm [(0,_),(1,_),(2,_),(3,_),(4,_)] []) ?_;refine wo ?_;refine al [ae 0,ae 1,ae 2,ae 3,ae 4,ae 5,ae 6,ae 7,ae 8,ae 9,ae 10,ae 11,ae 12,ae 13,ae 14] ?_;refine aa ?_;refine bj rfl (by intro R hR;refine da hR ?_;(refine a₀ ⟨rfl,ai (by kernel_rfl) pf⟩ ?_;refine⟨[],sv rfl,0,sv pf,?_⟩);exact hR) rfl ?_;refine aa ?_;refine bj rfl (by intro R hR;refine da hR ?_;(refine a₀ (a₃ _) ?_;refine⟨_,rfl,?_⟩;refine a₀ ⟨sm,ai (by kernel_rfl) pf⟩ ?_;refine⟨K2.map keyM,sv (by rw [Eo,a₄];rfl),K2.length,sv pf,?_⟩);exact hR) rfl ?_;iterate 4 (refine Sd ?_)
   delta aY
   rw [← Va];refine Rs.re [(2, .ptr 0 259 0 0 []),(4, .ptr 1 259 0 0 []),(5, .ptr 2 73 0 0 []),(6, .sl raw.length (u8s raw)),(8, .ptr 3 32 0 0 []),(9, .ms 4 1 0 S2.length)] [(4,⟨73,1,true,0,S2.map pF⟩),(0,⟨120,259,false,0,[lP n]⟩),(1,⟨120,259,false,0,[QM]⟩),(2,⟨163,73,false,0,[Ju]⟩),(3,⟨68,32,false,0,[keyM q]⟩)] 5 (iy.of [(0,0),(1,1),(2,2),(3,3),(4,4)] [(17,K2.length)] mm ?_ rfl ⟨by show K2.length≤(K2.map keyM).length;simp,trivial⟩ rfl) ?_
   ·refine⟨.inr ⟨_,_,rfl,rfl,rfl,rfl, .inr (.inr ⟨rfl,rfl,sy S2⟩), .inl rfl, .inr ?_⟩,mm⟩;rw [Vf]
    show eZ.relVs _ _ _ (setL (n.sent.map pF) (0 + p) (.ms 17 32 0 K2.length))
    rw [setL_eq,a₈];refine F6 ?_ n.sent p;exact .inr ⟨rfl,rfl,rfl,b₉ (a₈ _),bc keyM K2⟩
   iterate 1 (refine Sd ?_)
   refine qg ([(2, .ptr 0 259 0 0 []),(4, .ptr 1 259 0 0 []),(5, .ptr 2 73 0 0 []),(6, .sl raw.length (u8s raw)),(8, .ptr 3 32 0 0 []),(9, .sl S2.length (S2.map pF))]) ([(0,⟨120,259,false,0,[lP n]⟩),(1,⟨120,259,false,0,[QM]⟩),(2,⟨163,73,false,0,[Ju]⟩),(3,⟨68,32,false,0,[keyM q]⟩)]) [(4,S2.length)] mm rfl mm mm ?_;refine aa ?_;refine al [ae 0,ae 1,ae 2,ae 3,ae 4,ae 5,ae 6] ?_;refine aa ?_;(refine DF [_,_] [lP ⟨n.st,n.tip,n.blocks,S2,n.held,n.prop,n.log⟩,St ⟨0,u8s q,0,(0,[]),(0,[]),(0,[]),(0,[]),(0,[]),(1,[bo raw]),0,k0⟩] [(11,1)] (rvq) ?_ ?_ (by kernel_rfl) (⟨_,_,rfl,Ib⟩))
   ·exact⟨a₃ 1,trivial⟩
   ·exact lm
 | some ks=>
  replace mZ:dS ks∧ks.length≤B:=mZ;have c1:=MS (G:=G) n.st.ents peer ks mZ.1 (by have:=mZ.2;omega) om Xe;have Ga:=xm peer ks n.st.ents (fun e he=>(hn.st.entk e he).raw);generalize lO peer ks n.st.ents=nx at *;obtain⟨raw,ok⟩:=nx;dsimp only at c1 Ga;have c2:=nS (G:=G) raw om;have hq:=gk raw;generalize iH raw=q at *;obtain⟨K2,Eo⟩: ∃K2,K2=ks ++ [q] :=⟨_,rfl⟩
  have Xs:K2.length=ks.length + 1:=by rw [Eo];simp
  have UH:dS K2∧K2.length≤B + 1:=by
   refine⟨?_,by have:=mZ.2;omega⟩;intro x hx;rw [Eo] at hx;rcases a₆.1 hx with hx | hx
   ·exact mZ.1 x hx
   ·rw [a₁.1 hx];exact hq
  obtain⟨S2,Vf⟩: ∃S2,S2=n.sent.set p (some K2):=⟨_,rfl⟩
  have Va:S2.length=n.sent.length:=by rw [Vf,b₅]
  have Ib:gd (B + 1) ⟨n.st,n.tip,n.blocks,S2,n.held,n.prop,n.log⟩:=⟨hm.st,hm.tip,hm.th,hm.tt,hm.blocks,dm,fun l hl=>by
   dsimp only at hl;rw [Vf] at hl;rcases b₆ hl with hl | rfl
   ·exact hm.sk l hl
   ·exact UH,hm.prop,hm.ph,hm.pt,hm.log,hm.rep,hm.chk,hm.bok⟩
  unfold cY;refine seq' seat Tryz.func164 57 ?_;refine aa ?_;refine al [ae 0,ae 1,ae 2,ae 3,ae 4,ae 5,ae 6,ae 7,ae 8,ae 9,dF 10,ae 11,ae 12,ae 13,ae 14,ae 15] ?_;refine aa ?_;refine tq (c1) ?_;cases ok with
  | false=>
   refine aa ?_;refine aP (dD n 7 hm) rfl rfl aA (by kernel_rfl) ?_;rintro _ ⟨n2,rp,rfl,im⟩;refine aa ?_;(refine bB [_,_] (rvq) (by kernel_rfl) (⟨n2,rp,rfl,im⟩))
  | true=>
   refine aa ?_;refine aK (src (c2)) rfl rfl aA (by kernel_rfl) ?_;refine aa ?_;refine aO rfl rfl (by intro R hR;refine da hR ?_;refine a₀ ((HW _)) ?_;refine a₀ ⟨rfl,ai (by kernel_rfl) pf⟩ ?_;refine⟨n.sent.map pF,sv (by rfl),n.sent.length,sv pf,?_⟩;exact hR) rfl ?_;refine Vu ?_;refine zz ([(1, .int .i64 peer),(2, .ptr 0 259 0 0 []),(4, .ptr 1 259 0 0 []),(5, .ptr 2 73 0 0 []),(6, .sl raw.length (u8s raw)),(8, .ptr 3 32 0 0 []),(9, .ms 4 1 0 n.sent.length)]) ([(0,⟨120,259,false,0,[lP n]⟩),(1,⟨120,259,false,0,[QM]⟩),(2,⟨163,73,false,0,[Ju]⟩),(3,⟨68,32,false,0,[keyM q]⟩),(4,⟨73,1,false,0,n.sent.map pF⟩)]) (5) (vm [(0,_),(1,_),(2,_),(3,_),(4,_)] []) ?_;refine wo ?_;refine al [ae 0,ae 1,ae 2,ae 3,ae 4,ae 5,ae 6,ae 7,ae 8,ae 9,ae 10,ae 11,ae 12,ae 13,ae 14] ?_;refine aa ?_;refine bj rfl (by intro R hR;refine da hR ?_;refine a₀ ((ig ks)) ?_;refine a₀ ⟨rfl,ai (by kernel_rfl) pf⟩ ?_;refine⟨ks.map keyM,sv (by rfl),ks.length,sv pf,?_⟩;exact hR) rfl ?_;refine aa ?_;refine bj rfl (by intro R hR;refine da hR ?_;(refine a₀ (a₃ _) ?_;refine⟨_,rfl,?_⟩;refine a₀ ⟨sm,ai (by kernel_rfl) pf⟩ ?_;refine⟨K2.map keyM,sv (by rw [Eo,a₄];rfl),K2.length,sv pf,?_⟩);exact hR) rfl ?_;iterate 4 (refine Sd ?_)
   delta aY
   rw [← Va];refine Rs.re [(2, .ptr 0 259 0 0 []),(4, .ptr 1 259 0 0 []),(5, .ptr 2 73 0 0 []),(6, .sl raw.length (u8s raw)),(8, .ptr 3 32 0 0 []),(9, .ms 4 1 0 S2.length)] [(4,⟨73,1,true,0,S2.map pF⟩),(0,⟨120,259,false,0,[lP n]⟩),(1,⟨120,259,false,0,[QM]⟩),(2,⟨163,73,false,0,[Ju]⟩),(3,⟨68,32,false,0,[keyM q]⟩)] 5 (iy.of [(0,0),(1,1),(2,2),(3,3),(4,4)] [(17,K2.length)] mm ?_ rfl ⟨by show K2.length≤(K2.map keyM).length;simp,trivial⟩ rfl) ?_
   ·refine⟨.inr ⟨_,_,rfl,rfl,rfl,rfl, .inr (.inr ⟨rfl,rfl,sy S2⟩), .inl rfl, .inr ?_⟩,mm⟩;rw [Vf]
    show eZ.relVs _ _ _ (setL (n.sent.map pF) (0 + p) (.ms 17 32 0 K2.length))
    rw [setL_eq,a₈];refine F6 ?_ n.sent p;exact .inr ⟨rfl,rfl,rfl,b₉ (a₈ _),bc keyM K2⟩
   iterate 1 (refine Sd ?_)
   refine qg ([(2, .ptr 0 259 0 0 []),(4, .ptr 1 259 0 0 []),(5, .ptr 2 73 0 0 []),(6, .sl raw.length (u8s raw)),(8, .ptr 3 32 0 0 []),(9, .sl S2.length (S2.map pF))]) ([(0,⟨120,259,false,0,[lP n]⟩),(1,⟨120,259,false,0,[QM]⟩),(2,⟨163,73,false,0,[Ju]⟩),(3,⟨68,32,false,0,[keyM q]⟩)]) [(4,S2.length)] mm rfl mm mm ?_;refine aa ?_;refine al [ae 0,ae 1,ae 2,ae 3,ae 4,ae 5,ae 6] ?_;refine aa ?_;(refine DF [_,_] [lP ⟨n.st,n.tip,n.blocks,S2,n.held,n.prop,n.log⟩,St ⟨0,u8s q,0,(0,[]),(0,[]),(0,[]),(0,[]),(0,[]),(1,[bo raw]),0,k0⟩] [(11,1)] (rvq) ?_ ?_ (by kernel_rfl) (⟨_,_,rfl,Ib⟩))
   ·exact⟨a₃ 1,trivial⟩
   ·exact lm
abbrev uN (k n b g:Int) (raw:List UInt8):MV:= .st [.int .i64 k, .int .i64 n, .int .i64 b, .int .i64 g, .sl raw.length (u8s raw)]
theorem gd.with_st [NX:Nx] {B:Nat} {n:qy} {s:kE} (h:gd B n) (hs: @eE (Vw n.st.app.com) B s):gd B ⟨s,n.tip,n.blocks,n.sent,n.held,n.prop,n.log⟩:=by
 have he:s.app.com=n.st.app.com:=hs.fx.2.1;exact⟨by rw [← he] at hs;exact hs,h.tip,h.th,h.tt,h.blocks,h.sent,h.sk,h.prop,h.ph,h.pt,h.log,by have:=h.rep;rw [← he] at this;exact this,h.chk,h.bok⟩
theorem Wt [NX:Nx] {B:Nat} (n:qy) (on ob og:Int) (raw:List UInt8) (hn:gd B n) (hB:B≤80000) (hr:raw.length≤4096):cY Tryz.prog G 104 [lP n,uN 1 on ob og raw] (ND (B + 1)):=by
 have hm:=hn.mono (B':=B + 1) om;unfold cY;refine seq' seat Tryz.func104 157 ?_;refine aa ?_;refine ag rfl rfl ?_ rfl ?_ <;> intro h
 all_goals
  refine aa ?_
  refine aP (DD (G:=G) (FX:=_) n.st raw 0 (by omega) hn.st (by omega)) rfl rfl aA (by kernel_rfl) ?_
  rintro _ ⟨s2,rp,rfl,jc⟩
  refine aa ?_
  refine al [ae 0,ae 1,ae 2,ae 3] ?_
  refine aa ?_
  (refine bB [_,_] (rvq) (by kernel_rfl) (⟨⟨s2,n.tip,n.blocks,n.sent,n.held,n.prop,n.log⟩,rp,rfl,hm.with_st jc⟩))
theorem Wu [NX:Nx] {B:Nat} (n:qy) (on ob og:Int) (raw:List UInt8) (hn:gd B n) (hB:B≤80000) (hr:raw.length≤4096):cY Tryz.prog G 104 [lP n,uN 2 on ob og raw] (ND (B + 1)):=by
 have hm:=hn.mono (B':=B + 1) om;unfold cY;refine seq' seat Tryz.func104 157 ?_;refine aa ?_;refine ag rfl rfl ?_ rfl ?_ <;> intro h
 ·refine aa ?_;refine ad rfl ?_ ?_ <;> intro h
  ·refine aa ?_;refine aP (dD n 1 hm) rfl rfl aA (by kernel_rfl) ?_;rintro _ ⟨n2,rp,rfl,im⟩;refine aa ?_;(refine bB [_,_] (rvq) (by kernel_rfl) (⟨n2,rp,rfl,im⟩))
  ·refine aa ?_;refine aP (DD (G:=G) (FX:=_) n.st raw on om hn.st om) rfl rfl aA (by kernel_rfl) ?_;rintro _ ⟨s2,rp,rfl,jc⟩;refine aa ?_;refine al [ae 0,ae 1,ae 2,ae 3] ?_;refine aa ?_;(refine bB [_,_] (rvq) (by kernel_rfl) (⟨⟨s2,n.tip,n.blocks,n.sent,n.held,n.prop,n.log⟩,rp,rfl,hm.with_st jc⟩))
 ·refine aa ?_;refine aP (dD n 1 hm) rfl rfl aA (by kernel_rfl) ?_;rintro _ ⟨n2,rp,rfl,im⟩;refine aa ?_;(refine bB [_,_] (rvq) (by kernel_rfl) (⟨n2,rp,rfl,im⟩))
theorem Wv [NX:Nx] {B:Nat} (n:qy) (on ob og:Int) (raw:List UInt8) (hn:gd B n) (hB:B≤80000) (ht: -9223372036854775808≤on∧on≤100):cY Tryz.prog G 104 [lP n,uN 3 on ob og raw] (ND (B + 1)):=by
 have hm:=hn.mono (B':=B + 1) om;have vk:=hn.st.time;unfold cY;refine seq' seat Tryz.func104 157 ?_;refine aa ?_;refine ag rfl rfl ?_ rfl ?_ <;> intro h
 all_goals
  refine aa ?_
  refine ag rfl rfl ?_ rfl ?_ <;> intro h
  ·have q1:=oF h
   refine aa ?_
   refine ad rfl ?_ ?_ <;> intro h
   ·refine aa ?_
    refine aP (dD n 1 hm) rfl rfl aA (by kernel_rfl) ?_
    rintro _ ⟨n2,rp,rfl,im⟩
    refine aa ?_
    (refine bB [_,_] (rvq) (by kernel_rfl) (⟨n2,rp,rfl,im⟩))
   ·refine aa ?_
    refine al [ae 0,ae 1,ae 2,ae 3] ?_
    refine aa ?_
    (refine bB [_,_] (rvq) (by kernel_rfl) (⟨⟨{ n.st with time:=n.st.time + on },n.tip,n.blocks,n.sent,n.held,n.prop,n.log⟩,⟨_,_,_,(_,_),(_,_),(_,_),(_,_),(_,_),(_,_),_,_⟩,rfl,hm.with_st ⟨hm.st.cfg,hm.st.app,hm.st.height,by dsimp only;omega,hm.st.arr,hm.st.ents,hm.st.entk,hm.st.cache,hm.st.ck,hm.st.fx⟩⟩))
  ·refine aa ?_
   refine aP (dD n 1 hm) rfl rfl aA (by kernel_rfl) ?_
   rintro _ ⟨n2,rp,rfl,im⟩
   refine aa ?_
   (refine bB [_,_] (rvq) (by kernel_rfl) (⟨n2,rp,rfl,im⟩))
theorem Ww [NX:Nx] {B:Nat} (n:qy) (on ob og:Int) (raw:List UInt8) (hn:gd B n) (hB:B≤80000) (h1:cQ ob) (h2:cQ og):cY Tryz.prog G 104 [lP n,uN 4 on ob og raw] (ND (B + 1)):=by
 have hm:=hn.mono (B':=B + 1) om;unfold cY;refine seq' seat Tryz.func104 157 ?_;refine aa ?_;refine ag rfl rfl ?_ rfl ?_ <;> intro h
 all_goals
  refine aa ?_
  refine aP (J1 (G:=G) n ⟨4,on,ob,og,raw⟩ hn (by omega) h1 h2) rfl rfl aA (by kernel_rfl) ?_
  rintro _ ⟨n2,rp,rfl,im⟩
  refine aa ?_
  (refine bB [_,_] (rvq) (by kernel_rfl) (⟨n2,rp,rfl,im⟩))
theorem Wx [NX:Nx] {B:Nat} (n:qy) (on ob og:Int) (raw:List UInt8) (hn:gd B n) (hB:B≤80000):cY Tryz.prog G 104 [lP n,uN 5 on ob og raw] (ND (B + 1)):=by
 have hm:=hn.mono (B':=B + 1) om;obtain⟨nst,yD,Ic,Ox,hh,H4,Vk⟩:=n;unfold cY;refine seq' seat Tryz.func104 157 ?_;refine aa ?_;refine ag rfl rfl ?_ rfl ?_ <;> intro h
 all_goals
  cases hh with
  | false=>
   refine aa ?_
   refine aP (dD ⟨nst,yD,Ic,Ox,false,H4,Vk⟩ 9 hm) rfl rfl aA (by kernel_rfl) ?_
   rintro _ ⟨n2,rp,rfl,im⟩
   refine aa ?_
   (refine bB [_,_] (rvq) (by kernel_rfl) (⟨n2,rp,rfl,im⟩))
  | true=>
   refine aa ?_
   refine aP (DI (G:=G) ⟨nst,yD,Ic,Ox,true,H4,Vk⟩ H4 hn (by omega) hn.prop (by have:=hn.ph;dsimp only at this;omega) (by have:=hn.pt;dsimp only at this;omega) (hn.chk rfl)) rfl rfl aA (by kernel_rfl) ?_
   rintro _ ⟨n2,rp,rfl,im⟩
   refine aa ?_
   (refine bB [_,_] (rvq) (by kernel_rfl) (⟨n2,rp,rfl,im⟩))
theorem Wy [NX:Nx] {B:Nat} (n:qy) (on ob og:Int) (raw:List UInt8) (hn:gd B n) (hB:B≤80000) (b0:dM) (h0:dG b0) (hr:raw=r7 b0):cY Tryz.prog G 104 [lP n,uN 6 on ob og raw] (ND (B + 1)):=by
 have hm:=hn.mono (B':=B + 1) om;have cV:=F5 (G:=G) n b0 hn h0;rw [← hr] at cV;unfold cY;refine seq' seat Tryz.func104 157 ?_;refine aa ?_;refine ag rfl rfl ?_ rfl ?_ <;> intro h
 all_goals
  refine aa ?_
  refine aP (cV) rfl rfl aA (by kernel_rfl) ?_
  rintro _ ⟨n2,rp,rfl,im⟩
  refine aa ?_
  (refine bB [_,_] (rvq) (by kernel_rfl) (⟨n2,rp,rfl,im.mono (by omega)⟩))
theorem Wz [NX:Nx] {B:Nat} (n:qy) (on ob og:Int) (raw:List UInt8) (hn:gd B n) (hB:B≤80000) (b0:dM) (h0:dG b0) (hr:raw=r7 b0) (sB:b0.hd.time≤100 * (B + 1)):cY Tryz.prog G 104 [lP n,uN 7 on ob og raw] (ND (B + 1)):=by
 have hm:=hn.mono (B':=B + 1) om;have cV:=zN (G:=G) n b0 hn h0;rw [← hr] at cV;have hth:=hn.th;unfold cY;refine seq' seat Tryz.func104 157 ?_;refine aa ?_;refine ag rfl rfl ?_ rfl ?_ <;> intro h
 all_goals
  refine aa ?_
  refine aP (cV) rfl rfl aA (by kernel_rfl) ?_
  rintro _ ⟨b,e,rfl,he,hb,hg⟩
  refine aa ?_
  refine ad rfl ?_ ?_ <;> intro h
  ·refine aa ?_
   refine aP (dD n e hm) rfl rfl aA (by kernel_rfl) ?_
   rintro _ ⟨n2,rp,rfl,im⟩
   refine aa ?_
   (refine bB [_,_] (rvq) (by kernel_rfl) (⟨n2,rp,rfl,im⟩))
  ·have R6:e=0:=by simpa using h
   obtain⟨g1,g2,g3⟩:=hg R6
   have N5:b.hd.height≤B + 1:=by omega
   have b0c:b.hd.time≤100 * (B + 1):=by have:=g1.t2;unfold natP at this;omega
   refine aa ?_
   refine aP (DI (G:=G) n b hn (by omega) hb N5 b0c g3) rfl rfl aA (by kernel_rfl) ?_
   rintro _ ⟨n2,rp,rfl,im⟩
   refine aa ?_
   (refine bB [_,_] (rvq) (by kernel_rfl) (⟨n2,rp,rfl,im⟩))
theorem WG [NX:Nx] {B:Nat} (n:qy) (on ob og:Int) (raw:List UInt8) (hn:gd B n) (hB:B≤80000):cY Tryz.prog G 104 [lP n,uN 8 on ob og raw] (ND (B + 1)):=by
 have hm:=hn.mono (B':=B + 1) om;unfold cY;refine seq' seat Tryz.func104 157 ?_;refine aa ?_;refine ag rfl rfl ?_ rfl ?_ <;> intro h
 all_goals
  refine aa ?_
  refine aP (Rl (G:=G) n hn (by omega)) rfl rfl aA (by kernel_rfl) ?_
  rintro _ ⟨n2,rp,rfl,im⟩
  refine aa ?_
  (refine bB [_,_] (rvq) (by kernel_rfl) (⟨n2,rp,rfl,im.mono (by omega)⟩))
theorem WH [NX:Nx] {B:Nat} (n:qy) (on ob og:Int) (raw:List UInt8) (hn:gd B n) (hB:B≤80000):cY Tryz.prog G 104 [lP n,uN 9 on ob og raw] (ND (B + 1)):=by
 have hm:=hn.mono (B':=B + 1) om;unfold cY;refine seq' seat Tryz.func104 157 ?_;refine aa ?_;refine ag rfl rfl ?_ rfl ?_ <;> intro h
 ·have q0:=ot h;refine aa ?_;refine ad rfl ?_ ?_ <;> intro h
  ·refine aa ?_;refine aP (dD n 1 hm) rfl rfl aA (by kernel_rfl) ?_;rintro _ ⟨n2,rp,rfl,im⟩;refine aa ?_;(refine bB [_,_] (rvq) (by kernel_rfl) (⟨n2,rp,rfl,im⟩))
  ·have q1:on≤15:=by simpa using h
   refine aa ?_;refine aP (Uo (G:=G) n on hn om ⟨q0,q1⟩) rfl rfl aA (by kernel_rfl) ?_;rintro _ ⟨n2,rp,rfl,im⟩;refine aa ?_;(refine bB [_,_] (rvq) (by kernel_rfl) (⟨n2,rp,rfl,im⟩))
 ·refine aa ?_;refine aP (dD n 1 hm) rfl rfl aA (by kernel_rfl) ?_;rintro _ ⟨n2,rp,rfl,im⟩;refine aa ?_;(refine bB [_,_] (rvq) (by kernel_rfl) (⟨n2,rp,rfl,im⟩))
def oC (l:List (List UInt8)):Nat:=(l.map fun b=>b.length + 3).sum
theorem J2 (l:List (List UInt8)) {k:Nat} (hk:k < l.length):oC (l.take (k + 1))=oC (l.take k) + (l[k].length + 3):=by
 unfold oC;rw [List.take_succ_eq_append_getElem hk,a₄,c₅];simp
theorem Bo (B:Nat): ∀(l:List (List UInt8)),(∀b∈l,b.length≤B)→oC l≤l.length * (B + 3)
 | [],_=>by simp [oC]
 | b :: l,h=>by
  have h2:=h b sm
  have ih:=Bo B l fun x hx=>h x (by simp [hx])
  have e:oC (b :: l)=b.length + 3 + oC l:=by simp [oC]
  rw [e,c₃,Nat.add_mul]
  omega
theorem Ee (l:List (List UInt8)) (k:Nat):oC (l.take k)≤oC l:=by
 have:oC (l.take k) + oC (l.drop k)=oC l:=by
  unfold oC;rw [← c₅,← a₄,List.take_append_drop]
 omega
theorem NI (l:List (List UInt8)) (hl:l.length≤1000000) (hb: ∀b∈l,b.length≤4096):aE Tryz.prog G 214 [.sl l.length (l.map bo)] (.int .i64 (oC l)):=by
 have Kf:=Bo 4096 l hb;have J7:l.length * (4096 + 3)≤1000000 * 4099:=c₀ _ hl;refine bA seat Tryz.func214 19 ?_;refine aa ?_;refine av Nat (fun k=> [(8, .int .i64 k),(7, .int .i64 l.length),(6, .sl l.length (l.map bo)),(3, .int .i64 (oC (l.take k)))]) (fun _=> []) 0 (fun k=>k≤l.length) (fun k=>l.length - k) 0 (a₅ _) (by rw [List.take_zero];exact(vm [] [])) ?_;intro k hk;try dsimp only
 refine aa ?_;refine ad rfl ?_ ?_ <;> intro h
 ·have aC:k < l.length:=by have:=ot h;omega
  have aH:=iC aC;have kS:=hb _ (a₉ aC);have cW:=J2 l aC;have H9:=Ee l k;have Bu:=Ee l (k + 1);generalize l[k] =b at *;replace aH:bI (l.map bo) l.length (k:Int)=some (.sl b.length (u8s b)):=aH;have aH:=aj.mk aH;refine aa ?_;exact⟨k + 1,by show k + 1≤l.length;omega,by show l.length - (k + 1) < l.length - k;omega,(by dsimp only;rw [cW];exact(vm [] []))⟩
 ·have aC:k=l.length:=by have:=oF h;omega
  subst aC;rw [List.take_length];refine aa ?_;(refine kO [_] rfl (by kernel_rfl) ?_;(refine au ?_);exact rfl)
theorem Up {a b c:Int} {t u v x:MV} {k:List UInt8} {i:Nat} (h:i < k.length):fj (.st [.st [.int .i64 a, .int .i64 b, .int .i64 c,keyM k,t,u,v],x]) ([] ++ [0] ++ [3] ++ [i]) (0 + 0 + 3 + i * 1)=some (yt (k.getD i 0)):=by
 show(bif a₂ 0 (0 + 0 + 3 + i * 1) then(bif a₂ 3 (0 + 0 + 3 + i * 1 - 0) then fj (keyM k) ([] ++ [i]) (0 + 0 + 3 + i * 1 - 0 - 3) else none) else none)=_
 have e1:a₂ 0 (0 + 0 + 3 + i * 1)=true:=by rw [a₇];omega
 have e2:a₂ 3 (0 + 0 + 3 + i * 1 - 0)=true:=by rw [a₇];omega
 rw [e1,e2,show 0 + 0 + 3 + i * 1 - 0 - 3=0 + i * 1 by omega];exact AK h
theorem Uq {a b c:Int} {t u v x:MV} {k:List UInt8} {i:Nat} (h:i < k.length) (y:UInt8):fk (.st [.st [.int .i64 a, .int .i64 b, .int .i64 c,keyM k,t,u,v],x]) ([] ++ [0] ++ [3] ++ [i]) (0 + 0 + 3 + i * 1) (yt y)=some (.st [.st [.int .i64 a, .int .i64 b, .int .i64 c,keyM (k.set i y),t,u,v],x]):=by
 show(bif a₂ 0 (0 + 0 + 3 + i * 1) then(match (bif a₂ 3 (0 + 0 + 3 + i * 1 - 0) then(match fk (keyM k) ([] ++ [i]) (0 + 0 + 3 + i * 1 - 0 - 3) (yt y) with | some m'=>some (.st (setL [.int .i64 a, .int .i64 b, .int .i64 c,keyM k,t,u,v] 3 m')) | none=>none) else none) with | some m'=>some (MV.st (setL [.st [.int .i64 a, .int .i64 b, .int .i64 c,keyM k,t,u,v],x] 0 m')) | none=>none) else none)=_
 have e1:a₂ 0 (0 + 0 + 3 + i * 1)=true:=by rw [a₇];omega
 have e2:a₂ 3 (0 + 0 + 3 + i * 1 - 0)=true:=by rw [a₇];omega
 rw [e1,e2,show 0 + 0 + 3 + i * 1 - 0 - 3=0 + i * 1 by omega,jP h y];rfl
theorem NJ (a:UInt8):aX (IntKind.u8.wrap ((a.toNat:Int) + 1)) ((UInt8.ofNat (a.toNat + 1)).toNat:Int):=aX.mk (Ps (a.toNat + 1))
abbrev ZT (B:Nat) (N:Nat) (r:MV) (N':Nat):Prop:=N'≤N + 1000000∧∃b0:dM,dG b0∧r= .sl (r7 b0).length (u8s (r7 b0))∧b0.hd.time≤100 * (B + 1)
theorem uB [NX:Nx] {B:Nat} (L:List Int) (N:Nat) (n:qy) (hN:N < 900000000000000000) (hn:gd B n) (hB:B≤900):tC G L 156 [numP,lP n] N (ZT B N):=by
 have R8:=hn.st.ents;have Ev:=hn.st.entk;have Zo:n.st.ents.length≤900:=om;unfold tC;refine seq' seat Tryz.func156 151 ?_;refine aa ?_;refine av (Nat×Nat×List (List UInt8)) (fun x=> [(17, .int .i64 x.1),(16, .int .i64 n.st.ents.length),(15, .sl n.st.ents.length (n.st.ents.map bU)),(6, .ms 3 1 0 x.2.2.length),(5, .ptr 2 12 0 0 []),(3, .ptr 1 259 0 0 []),(0,numP)]) (fun x=>eQ L x.2.1 ++ [(1,⟨120,259,false,0,[lP n]⟩),(2,⟨66,12,false,0,[cfM n.st.cfg]⟩),(3,⟨41,1,true,0,x.2.2.map bo⟩)]) 4
  (fun x=>x.1≤n.st.ents.length∧x.2.1≤N + x.1∧x.2.2.length≤x.1∧∀r∈x.2.2,r.length≤4096) (fun x=>n.st.ents.length - x.1) (0,N,[]) ⟨a₅ _,a₃ _,a₃ _,sm⟩ (by dsimp only;exact vm [(1,_),(2,_)] []) ?_
 rintro⟨k,K,W⟩ ⟨h1,h2,h3,h4⟩;try dsimp only
 dsimp only at h1 h2 h3 h4;refine aa ?_;refine ad rfl ?_ ?_ <;> intro h
 ·have aC:k < n.st.ents.length:=by have:=ot h;omega
  have aH:=fu aC;have mZ:=(Ev _ (a₉ aC)).raw;generalize n.st.ents[k] =e at *;have aH:=aj.mk aH;obtain⟨m,hm,cm⟩:=bu (G:=G) L K 2 om om om;obtain⟨W2,uR⟩: ∃W2,W2=W ++ [e.raw] :=⟨_,rfl⟩
  have J5:W2.length=W.length + 1:=by rw [uR];simp
  refine aa ?_;refine yc (cm) [(0,0)] ?_;refine aa ?_;refine ad rfl ?_ ?_ <;> intro h
  ·refine aa ?_;refine aO rfl rfl (by intro R hR;refine da hR ?_;(refine a₀ (a₃ _) ?_;refine⟨_,rfl,?_⟩;refine a₀ ⟨sm,ai (by kernel_rfl) pf⟩ ?_;refine⟨W2.map bo,sv (by rw [uR,a₄];rfl),W2.length,sv pf,?_⟩);exact hR) rfl ?_;refine aa ?_;exact⟨(k + 1,K + 1,W2),⟨dm,dm,dm,fun r hr=>by
    dsimp only at hr;rw [uR] at hr;rcases a₆.1 hr with hr | hr
    ·exact h4 r hr
    ·rw [a₁.1 hr];exact mZ⟩,dm,(by dsimp only;exact vm [(1,_),(2,_),(3,_)] [])⟩
  ·refine aa ?_;exact⟨(k + 1,K + 1,W),⟨dm,dm,dm,h4⟩,dm,(by dsimp only;exact vm [(1,_),(2,_),(3,_)] [])⟩
 ·have Y2:k=n.st.ents.length:=by have:=oF h;omega
  obtain⟨m,hm,cm⟩:=bu (G:=G) L K 2 om om om;have cR:=TK (G:=G) L (K + 1) n.st.app 3 om hn.st.app om;have hR:=Mj (L:=L) (N:=K + 1) (n:=3) hn.st.app om;generalize rO L (K + 1) n.st.app 3=RR at *;obtain⟨RR,K3⟩:=RR;dsimp only at cR hR;obtain⟨W2,uR⟩: ∃W2,W2=W ++ RR:=⟨_,rfl⟩
  have J5:W2.length=W.length + RR.length:=by rw [uR];simp
  have Xp: ∀r∈W2,r.length≤4096:=fun r hr=>by
   rw [uR] at hr;rcases a₆.1 hr with hr | hr
   ·exact h4 r hr
   ·exact hR.1 r hr
  refine aa ?_;refine yc (cm) [(0,0)] ?_;refine uY (Nat×List (List UInt8)) (fun x=> [(6, .ms 3 1 0 x.2.length),(5, .ptr 2 12 0 0 []),(3, .ptr 1 259 0 0 []),(0,numP)]) (fun x=>eQ L x.1 ++ [(1,⟨120,259,false,0,[lP n]⟩),(2,⟨66,12,false,0,[cfM n.st.cfg]⟩),(3,⟨41,1,true,0,x.2.map bo⟩)]) (fun _=>4) (fun x=>x.1≤N + 1000∧x.2.length≤905∧∀r∈x.2,r.length≤4096) (fun JQ hj=>?_) (fun x hx=>?_)
  ·refine aa ?_;refine ad rfl ?_ ?_ <;> intro h
   ·refine aa ?_;refine yc (cR) [(0,0)] ?_;refine aa ?_;refine aO rfl rfl (by intro R hR;refine da hR ?_;refine a₀ ((rG RR)) ?_;refine a₀ ⟨sm,ai (by kernel_rfl) pf⟩ ?_;refine⟨W2.map bo,sv (by rw [uR,a₄]),W2.length,sv pf,?_⟩;exact hR) rfl ?_;refine aa ?_;exact hj.nrm (K3,W2) ⟨dm,dm,Xp⟩ (by dsimp only;exact vm [(1,_),(2,_),(3,_)] [])
   ·refine aa ?_;exact hj.nrm (K + 1,W) ⟨dm,dm,h4⟩ (by dsimp only;exact vm [(1,_),(2,_),(3,_)] [])
  ·clear cR hR uR J5 Xp cm hm h1 h2 h3 h4 Ev;obtain⟨K4,W4⟩:=x;dsimp only at hx ⊢;refine aa ?_;refine rh (Nat×List (List UInt8)) (fun x=> [(6, .sl x.2.length (x.2.map bo)),(5, .ptr 2 12 0 0 []),(3, .ptr 1 259 0 0 []),(0,numP)]) (fun x=>eQ L x.1 ++ [(1,⟨120,259,false,0,[lP n]⟩),(2,⟨66,12,false,0,[cfM n.st.cfg]⟩)]) (fun _=>3) (fun x=>x.1≤N + 3000∧x.2.length≤905∧∀r∈x.2,r.length≤4096) (fun JQ hj=>?_) (fun x hx=>?_)
   ·refine av (Nat×List (List UInt8)) (fun x=> [(6, .sl x.2.length (x.2.map bo)),(5, .ptr 2 12 0 0 []),(3, .ptr 1 259 0 0 []),(0,numP)]) (fun x=>eQ L x.1 ++ [(1,⟨120,259,false,0,[lP n]⟩),(2,⟨66,12,false,0,[cfM n.st.cfg]⟩)]) 3 (fun x=>x.1 + x.2.length≤N + 2000∧x.2.length≤905∧∀r∈x.2,r.length≤4096) (fun x=>x.2.length) (K4,W4) ⟨dm,hx.2.1,hx.2.2⟩ (by dsimp only;exact vm [(1,_),(2,_)] [(3,W4.length)]) ?_;clear hx;rintro⟨K,W⟩ ⟨h1,h2,h3⟩;try dsimp only
    dsimp only at h1 h2 h3;obtain⟨m,hm,cm⟩:=bu (G:=G) L K 8 om om om;have cT:=NI (G:=G) W om h3;have hT:=Bo 4096 W h3;generalize oC W=T at *;refine aa ?_;refine al [ae 0,ae 1,ae 2,ae 3,ae 4,dF 5,ae 6,ae 7,ae 8,ae 9,dF 10,ae 11,ae 12,ae 13,ae 14] ?_;refine aa ?_;refine ez rfl rfl ?_ rfl ?_ <;> intro h
    ·have hW0:=ot h;refine aa ?_;refine de rfl aA rfl [0] (cm) [(0,0)] [] ⟨rfl,trivial,rfl,lm,mm⟩ rfl rfl rfl rfl ?_;refine aa ?_;refine ez rfl rfl ?_ rfl ?_ <;> intro h
     ·refine aa ?_;refine cG rfl aA rfl [] (src (cT)) rfl [] trivial (bk _ (by kernel_rfl)) rfl ?_;refine aa ?_;refine ad rfl ?_ ?_ <;> intro h
      ·obtain⟨j,hj1⟩: ∃j,W.length=j + 1:=⟨W.length - 1,om⟩
       have fb:aj (dN W.length none (some (.int .i64 ((W.length:Int) - 1)))) (0,j):=by
        have:=kh (n:=W.length) (k:=j) (κ:= .i64) om;rw [show (j:Int)=(W.length:Int) - 1 by omega] at this;exact aj.mk this
       have fh:=bH.mk (rG W);obtain⟨W2,uR⟩: ∃W2,W2=W.take j:=⟨_,rfl⟩
       have J5:W2.length=j:=by rw [uR,c₄];omega
       have xS:aX (cutL (W.map bo) 0 j) (W2.map bo):=aX.mk (by rw [uR];unfold cutL;rw [List.drop_zero,Nat.sub_zero,List.map_take]);have xU:aX (j - 0) W2.length:=aX.mk om;refine aa ?_;exact⟨(K + 1,W2),⟨dm,dm,fun r hr=>h3 r (c₁ (by dsimp only at hr;rw [uR] at hr;exact hr))⟩,dm,(by dsimp only;exact vm [(1,_),(2,_)] [])⟩
      ·refine aa ?_;exact hj.nrm (K + 1,W) ⟨dm,h2,h3⟩ (by dsimp only;exact vm [(1,_),(2,_)] [])
     ·refine aa ?_;exact hj.nrm (K + 1,W) ⟨dm,h2,h3⟩ (by dsimp only;exact vm [(1,_),(2,_)] [])
    ·refine aa ?_;exact hj.nrm (K,W) ⟨dm,h2,h3⟩ (by dsimp only;exact vm [(1,_),(2,_)] [])
   ·obtain⟨K5,W5⟩:=x;dsimp only at hx ⊢;have zU:=hn.st.cfg;have hth:=hn.th;have htt:=hn.tt;have vk:=hn.st.time;have zS:=zU.nodes;have hsf:=zU.self;obtain⟨m5,hm5,c5⟩:=bu (G:=G) L K5 5 om om om;have hmx:aX (if n.st.cfg.nodes < 1 then 1 else n.st.cfg.nodes) n.st.cfg.nodes:=aX.mk (if_neg om);have b0r:aX ((n.tip.height + 1).tmod n.st.cfg.nodes) ((n.tip.height + 1) % n.st.cfg.nodes):=aX.mk (b₄ om);have hrm:0≤(n.tip.height + 1) % n.st.cfg.nodes∧(n.tip.height + 1) % n.st.cfg.nodes < 9:=by
     have:=b₀ (n.tip.height + 1) (show n.st.cfg.nodes≠0 by omega);have:=b₇ (n.tip.height + 1) (show(0:Int) < n.st.cfg.nodes by omega);omega
    generalize (n.tip.height + 1) % n.st.cfg.nodes=rm at *;have cM:=MC (G:=G) n.tip (n.st.time + m5) rm W5 om om om (fun x yF=>by have:=hx.2.2 x yF;omega);have VO:=xE (time:=n.st.time + m5) (prop:=rm) hn.tip om om (by unfold cQ;omega) (by unfold cQ;omega) om hx.2.2;have N5:=xF n.tip (n.st.time + m5) rm W5;have sB:(if n.tip.time + 1 > n.st.time + m5 then n.tip.time + 1 else n.st.time + m5)≤100 * (B + 1):=by split <;> omega
    rw [← N5.2] at sB;replace N5:=N5.1;generalize iF n.tip (n.st.time + m5) rm W5=b at *;refine aa ?_;refine al [ae 0,ae 1,ae 2,ae 3,ae 4,ae 5,dF 6,ae 7,ae 8,ae 9,ae 10,ae 11,ae 12,ae 13,ae 14,ae 15,ae 16,dF 17,ae 18,ae 19] ?_;refine aa ?_;refine de rfl aA rfl [0] (c5) [(0,0)] [] ⟨rfl,trivial,rfl,lm,mm⟩ rfl rfl rfl rfl ?_;refine aa ?_;refine cG rfl aA rfl [] (cM) rfl [] trivial (bk _ (by kernel_rfl)) rfl ?_;clear cM;obtain⟨⟨bh,bt,bp,kF,BI,BE,yy⟩,kG⟩:=b;obtain⟨⟨k1,k2,k3,k4,k5,k6,k7⟩,kn,kl⟩:=VO;dsimp only at k1 k2 k3 k4 k5 k6 k7 kn kl sB N5;dsimp only [blkM,hdM];unfold cQ at k1 k2 k3;obtain⟨m14,i0s,c14⟩:=bu (G:=G) L (K5 + 1) 14 om om om;refine aa ?_;refine yc (c14) [(0,0)] ?_;refine aa ?_;refine ad rfl ?_ ?_ <;> intro h
    ·obtain⟨m3,OG,c3⟩:=bu (G:=G) L (K5 + 1 + 1) 3 om om om;refine aa ?_;refine al [ae 0,ae 1,ae 2,ae 3,dF 4,ae 5,ae 6,ae 7,ae 8,ae 9] ?_;refine aa ?_;refine de rfl aA rfl [0] (c3) [(0,0)] [] ⟨rfl,trivial,rfl,lm,mm⟩ rfl rfl rfl rfl ?_;have iY:dG ⟨⟨bh + ((m3:Int) - 1),bt,bp,kF,BI,BE,yy⟩,kG⟩:=⟨⟨by unfold cQ;dsimp only;omega,k2,k3,k4,k5,k6,k7⟩,kn,kl⟩;have cF:=i7 (G:=G) _ iY;refine aa ?_;refine jn (cF) ?_;exact⟨_,_,_,⟨K5 + 1 + 1 + 1,⟨⟨om,_,iY,rfl,sB⟩,rfl⟩,rfl,rfl⟩,en [_]⟩
    ·refine aa ?_;refine ad rfl ?_ ?_ <;> intro h
     ·obtain⟨m32,i0x,c32⟩:=bu (G:=G) L (K5 + 1 + 1) 32 om om om;have hi:m32 < kF.length:=om;have g1:=aj.mk (Up (a:=bh) (b:=bt) (c:=bp) (t:=keyM BI) (u:=keyM BE) (v:=keyM yy) (x:= .sl kG.length (kG.map bo)) hi);have g2:=aj.mk (Uq (a:=bh) (b:=bt) (c:=bp) (t:=keyM BI) (u:=keyM BE) (v:=keyM yy) (x:= .sl kG.length (kG.map bo)) hi (UInt8.ofNat ((kF.getD m32 0).toNat + 1)));have g3:=NJ (kF.getD m32 0);have jD:(kF.set m32 (UInt8.ofNat ((kF.getD m32 0).toNat + 1))).length=32:=by rw [b₅];exact k4
      generalize kF.getD m32 0=y at *;generalize kF.set m32 (UInt8.ofNat (y.toNat + 1))=Yo at *;refine aa ?_;refine yc (c32) [(0,0)] ?_;have iY:dG ⟨⟨bh,bt,bp,Yo,BI,BE,yy⟩,kG⟩:=⟨⟨k1,k2,k3,jD,k5,k6,k7⟩,kn,kl⟩;have cF:=i7 (G:=G) _ iY;refine aa ?_;refine jn (cF) ?_;exact⟨_,_,_,⟨K5 + 1 + 1 + 1,⟨⟨om,_,iY,rfl,sB⟩,rfl⟩,rfl,rfl⟩,en [_]⟩
     ·refine aa ?_;refine ad rfl ?_ ?_ <;> intro h
      ·cases BE with
       | nil=>exact absurd k6 sm
       | cons y ys=>
        have g3:=NJ y;have iY:dG ⟨⟨bh,bt,bp,kF,BI,UInt8.ofNat (y.toNat + 1) :: ys,yy⟩,kG⟩:=⟨⟨k1,k2,k3,k4,k5,by simpa using k6,k7⟩,kn,kl⟩;have cF:=i7 (G:=G) _ iY;refine aa ?_;refine jn (cF) ?_;exact⟨_,_,_,⟨K5 + 1 + 1,⟨⟨om,_,iY,rfl,sB⟩,rfl⟩,rfl,rfl⟩,en [_]⟩
      ·refine aa ?_;refine ad rfl ?_ ?_ <;> intro h
       ·cases yy with
        | nil=>exact absurd k7 sm
        | cons y ys=>
         have g3:=NJ y;have iY:dG ⟨⟨bh,bt,bp,kF,BI,BE,UInt8.ofNat (y.toNat + 1) :: ys⟩,kG⟩:=⟨⟨k1,k2,k3,k4,k5,k6,by simpa using k7⟩,kn,kl⟩;have cF:=i7 (G:=G) _ iY;refine aa ?_;refine jn (cF) ?_;exact⟨_,_,_,⟨K5 + 1 + 1,⟨⟨om,_,iY,rfl,sB⟩,rfl⟩,rfl,rfl⟩,en [_]⟩
       ·refine aa ?_;refine ad rfl ?_ ?_ <;> intro h
        ·cases BI with
         | nil=>exact absurd k5 sm
         | cons y ys=>
          have g3:=NJ y;have iY:dG ⟨⟨bh,bt,bp,kF,UInt8.ofNat (y.toNat + 1) :: ys,BE,yy⟩,kG⟩:=⟨⟨k1,k2,k3,k4,by simpa using k5,k6,k7⟩,kn,kl⟩;have cF:=i7 (G:=G) _ iY;refine aa ?_;refine jn (cF) ?_;exact⟨_,_,_,⟨K5 + 1 + 1,⟨⟨om,_,iY,rfl,sB⟩,rfl⟩,rfl,rfl⟩,en [_]⟩
        ·refine aa ?_;refine ad rfl ?_ ?_ <;> intro h
         ·obtain⟨m2,UY,c2⟩:=bu (G:=G) L (K5 + 1 + 1) 2 om om om;refine aa ?_;refine al [ae 0,ae 1,ae 2,ae 3,dF 4,ae 5,ae 6,ae 7,ae 8] ?_;refine aa ?_;refine de rfl aA rfl [0] (c2) [(0,0)] [] ⟨rfl,trivial,rfl,lm,mm⟩ rfl rfl rfl rfl ?_;have iY:dG ⟨⟨bh,n.tip.time + (m2:Int),bp,kF,BI,BE,yy⟩,kG⟩:=⟨⟨k1,by unfold cQ;dsimp only;omega,k3,k4,k5,k6,k7⟩,kn,kl⟩;have cF:=i7 (G:=G) _ iY;refine aa ?_;refine jn (cF) ?_;exact⟨_,_,_,⟨K5 + 1 + 1 + 1,⟨⟨om,_,iY,rfl,dm⟩,rfl⟩,rfl,rfl⟩,en [_]⟩
         ·refine aa ?_;refine ad rfl ?_ ?_ <;> intro h
          ·obtain⟨m3,OG,c3⟩:=bu (G:=G) L (K5 + 1 + 1) 3 om om om;refine aa ?_;refine yc (c3) [(0,0)] ?_;have iY:dG ⟨⟨bh,bt,(m3:Int),kF,BI,BE,yy⟩,kG⟩:=⟨⟨k1,k2,by unfold cQ;dsimp only;omega,k4,k5,k6,k7⟩,kn,kl⟩;have cF:=i7 (G:=G) _ iY;refine aa ?_;refine jn (cF) ?_;exact⟨_,_,_,⟨K5 + 1 + 1 + 1,⟨⟨om,_,iY,rfl,sB⟩,rfl⟩,rfl,rfl⟩,en [_]⟩
          ·refine aa ?_;have iY:dG ⟨⟨bh,bt,bp,kF,BI,BE,yy⟩,kG⟩:=⟨⟨k1,k2,k3,k4,k5,k6,k7⟩,kn,kl⟩;have cF:=i7 (G:=G) _ iY;refine aa ?_;refine jn (cF) ?_;exact⟨_,_,_,⟨K5 + 1 + 1,⟨⟨om,_,iY,rfl,sB⟩,rfl⟩,rfl,rfl⟩,en [_]⟩
end
end Go.Proofs.YtohikcplmbkmeaaGreatDoor
