/- Parts of a proof, one behind the other: Y9, YC, YD, YE, Z1, YB, Rc, YF, YH, YG, YI, YJ, Opens, Opn, YK. -/
import Derived.Test.YthdhlcicpcnbhaaGreatDoorW11
open List renaming mem_singleton → a₀,replicate → a₃,length_singleton → a₅,length_append → a₆,range → a₇,getElem?_eq_getElem → a₈,mem_range → b₁,mem_map → b₂,mem_append → b₃,mem_cons_of_mem → b₄,length_map → b₅,mem_cons_self → b₇,getElem?_eq_some_iff → b₈,all_append → c₀,mem_of_getElem? → c₂,mem_cons → c₃,map_cons → c₄,length_range → c₈,getElem_mem → c₉,map_append → d₀
open And renaming intro → a₁
open Nat renaming zero_le → a₂,le_of_ble_eq_true → a₄,le_of_eq → a₉,zero_add → b₀,le_refl → b₆,mul_le_mul_right → c₁,beq_refl → c₆
open Bool renaming and_eq_true → b₉
open Prod.mk renaming injEq → c₅
open Int renaming toNat_natCast → c₇
set_option maxRecDepth 20000
set_option maxHeartbeats 16000000
set_option linter.unusedVariables false
set_option linter.unusedSimpArgs false
namespace Go.Proofs.YthdhlcicpcnbhaaGreatDoor
open Go.RowKit
section
attribute [local irreducible] aj aC aG aL aO vC aU au
theorem qI {m:FM} (s:cY) (h0:m 0=some (ke s.ents)):RD MV.idFree m (cO s) (stE s 0):=by
 refine .stl (.cons (.same rfl) (.cons (.same rfl) (.cons (.same rfl) (.cons (.same rfl) (.cons (.same rfl) (.cons ?_ (.cons (.same rfl) .nil)))))));exact RD.row (ke s.ents) h0 rfl sm (fun x hx=>by obtain⟨y,_,rfl⟩:=b₂.1 hx;rfl)
theorem uW {s:cY} {k:List UInt8} (hc:rJ s.cfg) (hi:dR s):{ s with cache:=dw k s.cache s.cfg.cache }=cA s k:=by
 unfold cA;rw [Gp hi.cd (by have:=hi.cl;have:=hc.cache;omega)]
theorem JN {s:cY} {k:List UInt8} (hi:dR s):{ s with cache:=cL k s.cache }=ga s k:=by
 unfold ga;rw [Gn hi.cd]
theorem blk {p:Prop} (h:p:=by first | exact(.inr ⟨_,_,rfl,rfl,rfl,rfl, .inl rfl, .inl rfl, .inr ⟨rv,trivial⟩⟩) | fail):p:=h
theorem JO [FX:Fx] {B:Nat} (s:cY) (raw:List UInt8) (peer:Int) (hraw:raw.length≤1000000) (hs:ef B s) (hB:B≤100000) (hi:dR s) (h1: ¬ s.cfg.maxTx < (raw.length:Int)) (h2: ¬ s.cfg.blkB < (i6 raw.length:Int)) (i:Nat) (hin:i < s.ents.length) (hR:kY (bm raw) s.ents=(i:Int)) (hp:cZ peer=true) (hn:peer ∉ s.ents[i].peers) :
  aH Tryz.prog GU 21 [cO s, .sl raw.length (u8s raw), .int .i64 peer] [] 0 (.tup [cO (dQ (cA s (bm raw)) (i:Int) peer),nY (gH 23)]) [] 0:=by
 have hel:=hs.ents
 have hcl:=hs.cache
 have hk32:(bm raw).length=32:=jV raw
 have c0:=CO s hs.app om om (fun e he=>⟨by have:=(hs.entk e he).raw;omega,by have:=(hs.entk e he).peers;omega⟩) i hin
 have c1:=tZ (G:=GU) raw.length om
 have c2:=rZ (G:=GU) raw hraw
 have c3:=aa (uM (G:=GU) s (bm raw) om hk32 (fun e he=>(hs.entk e he).key))
 rw [hR] at c3
 have b3:=iA c3 (M0:= [(0,⟨64,41,false,0,dU s.ents s.ents[i] i s.ents.length 1⟩),(1,lp s.ents[i].peers)]) (n0:=2) (args:= [stE s 0,keyM (bm raw)]) (.cons (Bb s hin rfl rfl) (.cons (.same rfl) .nil)) (.one (.same rfl))
 have c4:=LI (G:=GU) s (bm raw) peer i hin hk32 om (fun e he=>⟨(hs.entk e he).key,by have:=(hs.entk e he).peers;omega⟩) om hs.ck hR hp hn
 have hsee:dQ (cA s (bm raw)) (i:Int) peer={ s with cache:=dw (bm raw) s.cache s.cfg.cache,ents:=s.ents.set i { s.ents[i] with peers:=s.ents[i].peers ++ [peer] } }:=by
  rw [← uW hs.cfg hi]
  unfold dQ
  rw [if_pos ⟨om,hp⟩]
  simp only [c₇,a₈ hin]
  rw [if_neg hn]
 rw [hsee]
 have hZ: ∀{σ:Nat→Option Nat} {fz:Fz} {c d:Nat},σ c=some d→cN.relVs σ fz (dU s.ents s.ents[i] i s.ents.length c) (dU s.ents s.ents[i] i s.ents.length d):=fun h=>il _ _ _ _ h
 have hZ2: ∀{σ:Nat→Option Nat} {fz:Fz} {ρ:Nat→Nat} {c d:Nat},σ c=some (ρ d)→cN.relVs σ fz (dU s.ents s.ents[i] i s.ents.length c) (renVs ρ (dU s.ents s.ents[i] i s.ents.length d)):=fun h=>by rw [uK];exact il _ _ _ _ h
 clear hsee hR hp hn hi c3
 unfold lp at *
 generalize ({ s with cache:=dw (bm raw) s.cache s.cfg.cache,ents:=s.ents.set i { s.ents[i] with peers:=s.ents[i].peers ++ [peer] } }:cY)=t at *
 generalize bm raw=key at *
 generalize i6 raw.length=wb at *
 refine bR seat Tryz.func21 110 ?_
 refine ae ?_
 refine yc (c0) [] ?_
 refine Ea ?_
 generalize s.ents[i] =e at *
 refine jq [(1, .sl raw.length (u8s raw)),(2, .int .i64 peer),(3, .ptr 0 25 0 0 []),(6, .ptr 1 25 0 0 []),(7, .ptr 2 73 0 0 [])] [(0,⟨42,25,false,0,[stE s 3]⟩),(1,⟨42,25,false,0,[po]⟩),(2,⟨57,73,false,0,[GR]⟩),(3,⟨64,41,false,0,dU s.ents e i s.ents.length 4⟩),(4,⟨3,1,true,0,e.peers.map (MV.int .i64)⟩)] 5 ⟨[(0,0),(1,1),(2,2),(3,4),(4,5)],[],rfl,trivial,rfl,mm,by (refine a₁ ?_ (a₁ ?_ (a₁ ?_ (a₁ (.inr ⟨4,_,rfl,rfl,rfl,rfl, .inl rfl, .inl rfl, .inr (hZ2 rfl)⟩) mm))) <;> exact blk)⟩ ?_
 refine ae ?_
 refine ad rfl ?_ ?_ <;> intro h
 ·exact absurd (ot h) h1
 refine ae ?_
 refine aw [ag 0,ag 1,de 2,ag 3,ag 4,ag 5,ag 6] ?_
 refine ae ?_
 refine dk (c1) ?_
 refine ad rfl ?_ ?_ <;> intro h
 ·exact absurd (ot h) h2
 refine ae ?_
 refine yv (c2) ?_
 refine Ea ?_
 refine jq [(1, .sl raw.length (u8s raw)),(2, .int .i64 peer),(3, .ptr 0 25 0 0 []),(6, .ptr 1 25 0 0 []),(7, .ptr 2 73 0 0 []),(9, .ptr 5 32 0 0 [])] [(0,⟨42,25,false,0,[stE s 3]⟩),(1,⟨42,25,false,0,[po]⟩),(2,⟨57,73,false,0,[GR]⟩),(3,⟨64,41,false,0,dU s.ents e i s.ents.length 4⟩),(4,⟨3,1,true,0,e.peers.map (MV.int .i64)⟩),(5,⟨55,32,false,0,[keyM key]⟩)] 6 ⟨[(0,0),(1,1),(2,2),(3,3),(4,4),(5,_)],[],rfl,trivial,rfl,mm,by (refine a₁ ?_ (a₁ ?_ (a₁ ?_ (a₁ (.inr ⟨3,_,rfl,rfl,rfl,rfl, .inl rfl, .inl rfl, .inr (hZ rfl)⟩) mm))) <;> exact blk)⟩ ?_
 refine ae ?_
 refine bQ rfl (fun _ h=>h) rfl (b3) [(0,3),(1,4)] [] ⟨rfl,trivial,rfl,lm, .inr ⟨3,_,rfl,rfl,rfl,rfl, .inl rfl, .inl rfl, .inr (hZ rfl)⟩,mm⟩ rfl rfl ?_
 refine qc [(38, .int .i64 i),(2, .int .i64 peer),(3, .ptr 0 25 0 0 []),(6, .ptr 1 25 0 0 []),(7, .ptr 2 73 0 0 []),(9, .ptr 5 32 0 0 [])] [(0,⟨42,25,false,0,[stE s 3]⟩),(1,⟨42,25,false,0,[po]⟩),(2,⟨57,73,false,0,[GR]⟩),(3,⟨64,41,false,0,dU s.ents e i s.ents.length 4⟩),(4,⟨3,1,true,0,e.peers.map (MV.int .i64)⟩),(5,⟨55,32,false,0,[keyM key]⟩)] [] trivial rfl mm (by(refine a₁ ?_ (a₁ ?_ (a₁ ?_ (a₁ (.inr ⟨3,_,rfl,rfl,rfl,rfl, .inl rfl, .inl rfl, .inr (hZ2 rfl)⟩) mm))) <;> exact blk)) ?_
 refine ae ?_
 refine bQ rfl (fun _ h=>h) rfl (c4) [(0,3),(1,4)] [] ⟨rfl,trivial,rfl,lm, .inr ⟨3,_,rfl,rfl,rfl,rfl, .inl rfl, .inl rfl, .inr (hZ rfl)⟩,mm⟩ rfl rfl ?_
 unfold nY gH
 dsimp only
 refine ae ?_
 refine av ?_
 exact en [_,_]
end
section
attribute [local irreducible] aj aC aG aL aO vC aU au
theorem uX {σ:Nat→Option Nat} {fz:Fz} (s:cY) {d:Nat} (h:MC fz (.ms d 41 0 s.ents.length) s.ents.length (s.ents.map aA)):cN σ fz (cO s) (stE s d):=
 .inr ⟨_,rfl, .inl ⟨rfl,rfl⟩, .inl ⟨rfl,rfl⟩,⟨rfl,rfl⟩,⟨rfl,rfl⟩,⟨rfl,rfl⟩, .inr h, .inl rfl,trivial⟩
theorem mD [FX:Fx] {B:Nat} (s:cY) (raw:List UInt8) (peer:Int) (hraw:raw.length≤1000000) (hs:ef B s) (hB:B≤100000) (hi:dR s)
  (hno: ¬ s.cfg.maxTx < (raw.length:Int)→¬ s.cfg.blkB < (i6 raw.length:Int)→(0≤kY (bm raw) s.ents∨0≤posK (bm raw) s.cache 0)∧(kY (bm raw) s.ents= -1∨∃j,∃hj:j < s.ents.length,kY (bm raw) s.ents=(j:Int)∧(cZ peer=true→peer∈s.ents[j].peers))) :
  aH Tryz.prog GU 21 [cO s, .sl raw.length (u8s raw), .int .i64 peer] [] 0 (.tup [cO (bP s raw peer).1,nY (bP s raw peer).2]) [] 0:=by
 have hel:=hs.ents
 have hcl:=hs.cache
 have hk32:(bm raw).length=32:=jV raw
 have c0:=uL s hs.app om om (fun e he=>⟨by have:=(hs.entk e he).raw;omega,by have:=(hs.entk e he).peers;omega⟩)
 have c1:=tZ (G:=GU) raw.length om
 have c2:=rZ (G:=GU) raw hraw
 have c3:=aa (uM (G:=GU) s (bm raw) om hk32 (fun e he=>(hs.entk e he).key))
 have b3:=iA c3 (M0:= [(0,ke s.ents)]) (n0:=1) (args:= [stE s 0,keyM (bm raw)]) (.cons (qI s rfl) (.cons (.same rfl) .nil)) (.one (.same rfl))
 have c4:=yA (G:=GU) s.cache (bm raw) om hk32 hs.ck
 rw [← uH] at c4
 have c5:=LG (G:=GU) s (bm raw) peer hk32 om (fun e he=>⟨(hs.entk e he).key,by have:=(hs.entk e he).peers;omega⟩) om hs.ck
 have hC:bP s raw peer=(if s.cfg.maxTx < (raw.length:Int) then(s,gH 20) else if s.cfg.blkB < (i6 raw.length:Int) then(s,gH 21) else if 0≤kY (bm raw) s.ents∨0≤posK (bm raw) s.cache 0 then(dQ (cA s (bm raw)) (kY (bm raw) s.ents) peer,gH 23) else gf (cA s (bm raw)) (bm raw) raw peer):=by
  unfold bP
  dsimp only
 have hsee:(kY (bm raw) s.ents= -1∨∃j,∃hj:j < s.ents.length,kY (bm raw) s.ents=(j:Int)∧(cZ peer=true→peer∈s.ents[j].peers))→dQ (cA s (bm raw)) (kY (bm raw) s.ents) peer={ s with cache:=dw (bm raw) s.cache s.cfg.cache }:=by
  rw [← uW hs.cfg hi]
  rintro(h | ⟨j,hj,h,hp⟩)
  ·unfold dQ
   rw [h,if_neg om]
  ·unfold dQ
   rw [h]
   split
   ·rename_i hq
    simp only [c₇,a₈ hj]
    rw [if_pos (hp hq.2)]
   ·rfl
 clear hk32 hi
 generalize bP s raw peer=C at *
 unfold ke at *
 generalize bm raw=key at *
 generalize i6 raw.length=wb at *
 generalize hti:kY key s.ents=ti at *
 generalize posK key s.cache 0=pk at *
 clear hti
 refine bR seat Tryz.func21 110 ?_
 refine ae ?_
 refine yc (c0) [] ?_
 refine Ea ?_
 refine jq ([(1, .sl raw.length (u8s raw)),(2, .int .i64 peer),(3, .ptr 0 25 0 0 []),(6, .ptr 1 25 0 0 []),(7, .ptr 2 73 0 0 [])]) ([(0,⟨42,25,false,0,[stE s 3]⟩),(1,⟨42,25,false,0,[po]⟩),(2,⟨57,73,false,0,[GR]⟩),(3,⟨64,41,true,0,s.ents.map aA⟩)]) (4) (vm [(0,_),(1,_),(2,_),(3,_)] []) ?_
 refine ae ?_
 refine ad rfl ?_ ?_ <;> intro h
 ·rw [hC,if_pos (ot h)]
  unfold nY gH
  dsimp only
  refine ae ?_
  refine av ?_
  refine⟨[_,_],[],[(3,s.ents.length)],rfl,rfl,?_,rfl,⟨?_,?_,trivial⟩,?_⟩
  ·exact⟨by show s.ents.length≤(s.ents.map aA).length;simp,trivial⟩
  ·exact uX s ⟨rfl,rfl,rfl,a₉ (b₀ _),bT _ _⟩
  ·exact rv
  ·exact mm
 have hg1:=oF h
 rw [if_neg hg1] at hC
 clear h
 refine ae ?_
 refine aw [ag 0,ag 1,de 2,ag 3,ag 4,ag 5,ag 6] ?_
 refine ae ?_
 refine dk (c1) ?_
 refine ad rfl ?_ ?_ <;> intro h
 ·rw [hC,if_pos (ot h)]
  unfold nY gH
  dsimp only
  refine ae ?_
  refine av ?_
  refine⟨[_,_],[],[(3,s.ents.length)],rfl,rfl,?_,rfl,⟨?_,?_,trivial⟩,?_⟩
  ·exact⟨by show s.ents.length≤(s.ents.map aA).length;simp,trivial⟩
  ·exact uX s ⟨rfl,rfl,rfl,a₉ (b₀ _),bT _ _⟩
  ·exact rv
  ·exact mm
 have hg2:=oF h
 obtain⟨ha,hb⟩:=hno hg1 hg2
 rw [if_neg hg2,if_pos ha,hsee hb] at hC
 rw [hC]
 clear hsee hC h hno
 replace c5:=c5 hb
 clear hb
 generalize ({ s with cache:=dw key s.cache s.cfg.cache }:cY)=t at *
 refine ae ?_
 refine cC (c2) ?_
 refine yc (b3) [(0,3)] ?_
 refine ae ?_
 have hcase:0≤ti∨(¬ 0≤ti∧0≤pk):=om
 rcases hcase with hc | ⟨hc1,hc2⟩
 ·refine ah rfl rfl ?_ rfl ?_ <;> intro h
  ·exact absurd (oF h) om
  refine ae ?_
  refine bQ rfl (fun _ h=>h) rfl (c5) [] [(3,s.ents.length)] ⟨rfl,mm,rfl,lm,mm⟩ rfl rfl ?_
  unfold nY gH
  dsimp only
  refine ae ?_
  refine av ?_
  exact en [_,_]
 ·rw [decide_eq_true hc2] at c4
  refine ah rfl rfl ?_ rfl ?_ <;> intro h
  rotate_left
  ·exact absurd (ot h) om
  refine ae ?_
  refine cC (c4) ?_
  refine bQ rfl (fun _ h=>h) rfl (c5) [] [(3,s.ents.length)] ⟨rfl,mm,rfl,lm,mm⟩ rfl rfl ?_
  unfold nY gH
  dsimp only
  refine ae ?_
  refine av ?_
  exact en [_,_]
end
section
attribute [local irreducible] aj aC aG aL aO vC aU au
theorem GF {s:cY} {k:List UInt8} (hc:rJ s.cfg) (hi:dR s):cA s k={ s with cache:=dw k s.cache s.cfg.cache }:=(uW hc hi).symm
theorem GG {t:cY} {key raw:List UInt8} {peer:Int} (hi:dR t):gf t key raw peer=(if (iB t raw).code≠0 then(if t.cfg.keep=true then t else { t with cache:=cL key t.cache },gH (iB t raw).code) else if (cV (iB t raw).prio raw.length t.cfg.maxTxs t.cfg.maxBytes t.ents).2=false then({ t with cache:=cL key t.cache },gH 24) else(kc t key raw peer (iB t raw) (cV (iB t raw).prio raw.length t.cfg.maxTxs t.cfg.maxBytes t.ents).1,Nk key (iB t raw) (cV (iB t raw).prio raw.length t.cfg.maxTxs t.cfg.maxBytes t.ents).1)):=by
 rw [JN hi,A5 hi];generalize hj:iB t raw=q;unfold iB at hj;unfold gf gd;dsimp only at hj ⊢;generalize fX t.app raw=r at *;by_cases hc:r.code=0
 ·by_cases hv:qq t r.gas=true
  ·rw [if_pos ⟨hc,hv⟩] at hj;subst hj;rw [if_neg (by simpa using hc),if_pos hv,if_pos (show(22:Nat)≠0 by decide)];rfl
  ·rw [if_neg (fun h=>hv h.2)] at hj;subst hj;have hc2: ¬ r.code≠0:=fun h=>h hc
   rw [if_neg hc2,if_neg hv,if_neg hc2]
 ·rw [if_neg (fun h=>hc h.1)] at hj;subst hj;rw [if_pos hc,if_pos hc]
theorem JP [FX:Fx] {B:Nat} (s:cY) (raw:List UInt8) (peer:Int) (hraw:raw.length≤1000000) (hs:ef B s) (hB:B≤100000) (hi:dR s)
  (h1: ¬ s.cfg.maxTx < (raw.length:Int)) (h2: ¬ s.cfg.blkB < (i6 raw.length:Int)) (h3: ¬ 0≤kY (bm raw) s.ents) (h4: ¬ 0≤posK (bm raw) s.cache 0) :
  aH Tryz.prog GU 21 [cO s, .sl raw.length (u8s raw), .int .i64 peer] [] 0 (.tup [cO (bP s raw peer).1,nY (bP s raw peer).2]) [] 0:=by
 have hel:=hs.ents
 have hcl:=hs.cache
 have hk32:(bm raw).length=32:=jV raw
 have hp1:=GF (k:=bm raw) hs.cfg hi
 have hpo:=qp (B:=B) hs hk32
 have hpi:=ur (bm raw) hs.cfg hi
 have hC:bP s raw peer=gf (cA s (bm raw)) (bm raw) raw peer:=by
  unfold bP
  dsimp only
  rw [if_neg h1,if_neg h2,if_neg om]
 rw [hC,GG hpi]
 clear hC hpi
 rw [hp1] at hpo ⊢
 clear hp1
 dsimp only
 have c0:=uL s hs.app om om (fun e he=>⟨by have:=(hs.entk e he).raw;omega,by have:=(hs.entk e he).peers;omega⟩)
 have c1:=tZ (G:=GU) raw.length om
 have c2:=rZ (G:=GU) raw hraw
 have c3:=aa (uM (G:=GU) s (bm raw) om hk32 (fun e he=>(hs.entk e he).key))
 have b3:=iA c3 (M0:= [(0,ke s.ents)]) (n0:=1) (args:= [stE s 0,keyM (bm raw)]) (.cons (qI s rfl) (.cons (.same rfl) .nil)) (.one (.same rfl))
 have c4:=yA (G:=GU) s.cache (bm raw) om hk32 hs.ck
 rw [← uH] at c4
 have c5:=yB (G:=GU) s.cache s.cfg.cache (bm raw) om hk32 hs.ck
 generalize hP:dw (bm raw) s.cache s.cfg.cache=P at *
 have hPl:P.length≤1024:=by have:=hpo.cache;simpa using this
 have hPk:eG P:=hpo.ck
 have c6:=aa (LF { s with cache:=P } raw hpo.cfg hpo.app om)
 have b6:=iA c6 (M0:= [(0,ke s.ents)]) (n0:=1) (args:= [stE { s with cache:=P } 0, .sl raw.length (u8s raw)]) (.cons (qI { s with cache:=P } rfl) (.cons (.same rfl) .nil)) (.one (.same rfl))
 have c7:=Er (G:=GU) P (bm raw) om hk32 hPk
 generalize hr:iB { s with cache:=P } raw=r at *
 have hso:=yh r.prio raw.length s.cfg.maxTxs s.cfg.maxBytes s.ents (fun e he=>(hs.entk e he).key)
 have hmx:=hs.cfg.maxTx
 have hmt:=hs.cfg.maxTxs
 have hmb:=hs.cfg.maxBytes
 have c8:=Jw (G:=GU) s.ents om (fun e he=>⟨by have:=(hs.entk e he).raw;omega,by have:=(hs.entk e he).peers;omega⟩) r.prio raw.length s.cfg.maxTxs s.cfg.maxBytes om om
 generalize cV r.prio raw.length s.cfg.maxTxs s.cfg.maxBytes s.ents=v at *
 obtain⟨ks,okk⟩:=v
 dsimp only at hso c8 ⊢
 have b8:=iA c8 (M0:= [(0,ke s.ents)]) (n0:=1) (args:= [.ms 0 41 0 s.ents.length, .int .u64 r.prio, .int .i64 raw.length, .int .i64 s.cfg.maxTxs, .int .i64 s.cfg.maxBytes]) (res:= .tup [.sl ks.length (ks.map keyM), .bool okk]) (.cons (RD.row (ke s.ents) rfl rfl sm (fun x hx=>by obtain⟨y,_,rfl⟩:=b₂.1 hx;rfl)) (.cons (.same rfl) (.cons (.same rfl) (.cons (.same rfl) (.cons (.same rfl) .nil))))) (.tup (.cons (rY ks) (.cons (.same rfl) .nil)))
 have c9:=Jg { s with cache:=P } raw peer r ks hraw hpo.app (by have:=hpo.ents;omega) (fun e he=>(hpo.entk e he).key) (by have:=hpo.cache;omega) hPk hso.1 (by have:=hso.2;omega) (by have:=hpo.arr;omega)
 generalize hA:kc { s with cache:=P } (bm raw) raw peer r ks=T at *
 unfold ke at *
 clear hr hP c3 c6 c8 hso
 generalize hDe:cL (bm raw) P=D at *
 generalize bm raw=key at *
 generalize i6 raw.length=wb at *
 generalize kY key s.ents=ti at *
 generalize posK key s.cache 0=pk at *
 rw [decide_eq_false h4] at c4
 refine bR seat Tryz.func21 110 ?_
 refine ae ?_
 refine yc (c0) [] ?_
 refine Ea ?_
 refine jq ([(1, .sl raw.length (u8s raw)),(2, .int .i64 peer),(3, .ptr 0 25 0 0 []),(6, .ptr 1 25 0 0 []),(7, .ptr 2 73 0 0 [])]) ([(0,⟨42,25,false,0,[stE s 3]⟩),(1,⟨42,25,false,0,[po]⟩),(2,⟨57,73,false,0,[GR]⟩),(3,⟨64,41,true,0,s.ents.map aA⟩)]) (4) (vm [(0,_),(1,_),(2,_),(3,_)] []) ?_
 refine ae ?_
 refine ad rfl ?_ ?_ <;> intro h
 ·exact absurd (ot h) h1
 refine ae ?_
 refine aw [ag 0,ag 1,de 2,ag 3,ag 4,ag 5,ag 6] ?_
 refine ae ?_
 refine dk (c1) ?_
 refine ad rfl ?_ ?_ <;> intro h
 ·exact absurd (ot h) h2
 clear h
 refine ae ?_
 refine cC (c2) ?_
 refine yc (b3) [(0,3)] ?_
 refine ae ?_
 refine ah rfl rfl ?_ rfl ?_ <;> intro h
 rotate_left
 ·exact absurd (ot h) h3
 refine ae ?_
 refine cC (c4) ?_
 refine yr (c5) ?_
 refine Ea ?_
 clear b3 c0 c1 c2 c4 c5 h h1 h2 h3 h4
 refine jq ([(1, .sl raw.length (u8s raw)),(2, .int .i64 peer),(3, .ptr 0 25 0 0 []),(6, .ptr 1 25 0 0 []),(7, .ptr 2 73 0 0 []),(8, .ptr 4 12 0 0 []),(9, .ptr 5 32 0 0 [])]) ([(0,⟨42,25,false,0,[stE { s with cache:=P } 3]⟩),(1,⟨42,25,false,0,[po]⟩),(2,⟨57,73,false,0,[GR]⟩),(3,⟨64,41,true,0,s.ents.map aA⟩),(4,⟨24,12,false,0,[cfM s.cfg]⟩),(5,⟨55,32,false,0,[keyM key]⟩)]) (6) (vm [(0,_),(1,_),(2,_),(3,_),(4,_),(5,_)] []) ?_
 refine ae ?_
 refine yc (b6) [(0,3)] ?_
 clear b6
 refine Ea ?_
 refine jq ([(1, .sl raw.length (u8s raw)),(2, .int .i64 peer),(3, .ptr 0 25 0 0 []),(6, .ptr 1 25 0 0 []),(7, .ptr 2 73 0 0 []),(8, .ptr 4 12 0 0 []),(9, .ptr 5 32 0 0 []),(10, .ptr 6 5 0 0 [])]) ([(0,⟨42,25,false,0,[stE { s with cache:=P } 3]⟩),(1,⟨42,25,false,0,[po]⟩),(2,⟨57,73,false,0,[GR]⟩),(3,⟨64,41,true,0,s.ents.map aA⟩),(4,⟨24,12,false,0,[cfM s.cfg]⟩),(5,⟨55,32,false,0,[keyM key]⟩),(6,⟨105,5,false,0,[jy r]⟩)]) (7) (vm [(0,_),(1,_),(2,_),(3,_),(4,_),(5,_),(6,_)] []) ?_
 refine ae ?_
 refine ad rfl ?_ ?_ <;> intro h
 ·have hc:r.code≠0:=by simpa using h
  rw [if_pos hc]
  unfold nY gH
  refine ae ?_
  refine ad rfl ?_ ?_ <;> intro h
  ·rw [if_neg (by simpa using h)]
   dsimp only
   refine ae ?_
   refine jS (c7) ?_
   refine aw [ag 0,ag 1,ag 2,ag 3,ag 4,ag 5] ?_
   refine ae ?_
   refine av ?_
   refine⟨[_,_],[],[(3,s.ents.length)],rfl,rfl,?_,rfl,⟨?_,?_,trivial⟩,?_⟩
   ·exact⟨by show s.ents.length≤(s.ents.map aA).length;simp,trivial⟩
   ·exact uX { s with cache:=D } ⟨rfl,rfl,rfl,a₉ (b₀ _),bT _ _⟩
   ·exact rv
   ·exact mm
  ·rw [if_pos (by simpa using h)]
   dsimp only
   refine ae ?_
   refine aw [ag 0,ag 1,ag 2,ag 3,ag 4,ag 5] ?_
   refine ae ?_
   refine av ?_
   refine⟨[_,_],[],[(3,s.ents.length)],rfl,rfl,?_,rfl,⟨?_,?_,trivial⟩,?_⟩
   ·exact⟨by show s.ents.length≤(s.ents.map aA).length;simp,trivial⟩
   ·exact uX { s with cache:=P } ⟨rfl,rfl,rfl,a₉ (b₀ _),bT _ _⟩
   ·exact rv
   ·exact mm
 have hc: ¬ r.code≠0:=by simpa using h
 rw [if_neg hc]
 refine ae ?_
 refine yc (b8) [(0,3)] ?_
 refine ae ?_
 refine ad rfl ?_ ?_ <;> intro h
 ·have ho:okk=false:=by simpa using h
  rw [if_pos ho]
  unfold nY gH
  dsimp only
  refine ae ?_
  refine jS (c7) ?_
  refine av ?_
  refine⟨[_,_],[],[(3,s.ents.length)],rfl,rfl,?_,rfl,⟨?_,?_,trivial⟩,?_⟩
  ·exact⟨by show s.ents.length≤(s.ents.map aA).length;simp,trivial⟩
  ·exact uX { s with cache:=D } ⟨rfl,rfl,rfl,a₉ (b₀ _),bT _ _⟩
  ·exact rv
  ·exact mm
 ·have ho: ¬ okk=false:=by simpa using h
  rw [if_neg ho]
  unfold nY Nk
  dsimp only
  refine ae ?_
  refine aw [ag 0,ag 1,ag 2,ag 3,ag 4,de 5,ag 6,ag 7,ag 8,ag 9,ag 10,ag 11,ag 12] ?_
  refine ae ?_
  refine bG rfl (fun _ h=>h) rfl [3] (c9) [(0,3)] [] ⟨rfl,trivial,rfl,lm,mm⟩ rfl rfl rfl rfl rfl ?_
  refine ae ?_
  refine av ?_
  exact en [_,_]
theorem pJ [FX:Fx] {B:Nat} (s:cY) (raw:List UInt8) (peer:Int) (hraw:raw.length≤1000000) (hs:ef B s) (hB:B≤100000) (hi:dR s) :
  aH Tryz.prog GU 21 [cO s, .sl raw.length (u8s raw), .int .i64 peer] [] 0 (.tup [cO (bP s raw peer).1,nY (bP s raw peer).2]) [] 0:=by
 by_cases h1:s.cfg.maxTx < (raw.length:Int)
 ·exact mD s raw peer hraw hs hB hi fun h=>absurd h1 h
 by_cases h2:s.cfg.blkB < (i6 raw.length:Int)
 ·exact mD s raw peer hraw hs hB hi fun _ h=>absurd h2 h
 rcases pj (bm raw) s.ents with hR | ⟨i,hR,hin⟩
 ·by_cases h4:0≤posK (bm raw) s.cache 0
  ·exact mD s raw peer hraw hs hB hi fun _ _=>⟨.inr h4, .inl hR⟩
  ·exact JP s raw peer hraw hs hB hi h1 h2 om h4
 by_cases hp:cZ peer=true
 ·by_cases hn:peer∈s.ents[i].peers
  ·exact mD s raw peer hraw hs hB hi fun _ _=>⟨.inl om, .inr ⟨i,hin,hR,fun _=>hn⟩⟩
  ·have h:=JO s raw peer hraw hs hB hi h1 h2 i hin hR hp hn
   have hC:bP s raw peer=(dQ (cA s (bm raw)) (i:Int) peer,gH 23):=by
    unfold bP
    dsimp only
    rw [if_neg h1,if_neg h2,if_pos (.inl om),hR]
   rw [hC]
   exact h
 ·exact mD s raw peer hraw hs hB hi fun _ _=>⟨.inl om, .inr ⟨i,hin,hR,fun h=>absurd h hp⟩⟩
end
section
attribute [local irreducible] aj aC aG aL aO vC aU au
theorem uY (c:ll) (acs:List aW) (hc:LS c) (hl:acs.length≤100000) (hsm: ∀a∈acs,ni a) (hp:bh c.price):aH Tryz.prog GU 16 [cfM c, .sl acs.length (acs.map aV)] [] 0 (.tup [cO (jg c acs).1, .int .i64 (jg c acs).2]) [] 0:=by
 have cv:=JI (G:=GU) c hc;have ci:=JM acs c.price hl hsm hp;unfold jg;generalize jf c=v at *;generalize fk acs c.price=ia at *;obtain⟨a0,ea⟩:=ia;dsimp only at ci ⊢;by_cases hv:v=0;rotate_left
 ·rw [if_pos hv];refine bR seat Tryz.func16 29 ?_;refine ae ?_;refine cC (cv) ?_;refine ad rfl ?_ ?_ <;> intro h
  ·refine ae ?_;refine av ?_;refine⟨[_,_],[],[],rfl,rfl,trivial,rfl,⟨?_,?_,trivial⟩,?_⟩
   ·exact r8
   ·exact rv
   ·exact mm
  ·exact absurd (by simpa using h) hv
 ·subst hv;rw [if_neg sm];by_cases he:ea=0;rotate_left
  ·rw [if_pos he];refine bR seat Tryz.func16 29 ?_;refine ae ?_;refine cC (cv) ?_;refine jS (ci) ?_;refine ad rfl ?_ ?_ <;> intro h
   ·refine ae ?_;refine av ?_;refine⟨[_,_],[],[],rfl,rfl,trivial,rfl,⟨?_,?_,trivial⟩,?_⟩
    ·exact r8
    ·exact rv
    ·exact mm
   ·exact absurd (by simp at h;omega) he
  ·subst he;rw [if_neg sm];refine bR seat Tryz.func16 29 ?_;refine ae ?_;refine cC (cv) ?_;refine jS (ci) ?_;refine av ?_;exact en [_,_]
end
section
variable {G:GS}
attribute [local irreducible] aj aC aG aL aO vC aU au
theorem OP (a:List UInt8) (b s:Int):GO (.st [.str a, .int .u64 b, .int .u64 s]) (.st [.str a, .int .u64 b, .int .u64 s])=some true:=by
 simp [GO,rC]
theorem OQ (f:Nat) (a:List UInt8):dh tab (f + 1) 9 (.str a)=true:=by rw [dh.eq_def];rfl
theorem JR (f:Nat) (n:Int):dh tab (f + 1) 22 (.int .u64 n)=true:=by rw [dh.eq_def];rfl
theorem bI {T:bf} {f o t:Nat} {fs:List (Nat×TypeId)} {m:MV} {l:List MV} {sz:Nat} {d:TD} (ht:bf.find T t=some d) (hs:m.size=d.size) (hm:dh T f t m=true) (h:iq T f fs (o + d.size) l sz=true):iq T f ((o,t) :: fs) o (m :: l) sz=true:=by
 rw [iq.eq_def];dsimp only;rw [ht];dsimp only;rw [hs,hm,h,c₆,c₆];rfl
theorem uZ {T:bf} {f n:Nat}:iq T f [] n [] n=true:=by rw [iq.eq_def];exact c₆ n
theorem EA (a:List UInt8) (b s:Int):dh tab 9 87 (.st [.str a, .int .u64 b, .int .u64 s])=true:=by
 have h1:bf.find tab 87=some (.struct [(0,9),(1,22),(2,22)] 3):=by kernel_rfl
 rw [dh.eq_def];simp only [h1];exact bI (d:= .str) (by kernel_rfl) rfl (OQ 7 a) (bI (d:= .int .u64) (by kernel_rfl) rfl (JR 7 b) (bI (d:= .int .u64) (by kernel_rfl) rfl (JR 7 s) uZ))
theorem NP (a:List UInt8) (b s:Int):NX Tryz.prog tab 87=true∧dh tab 9 87 (.st [.str a, .int .u64 b, .int .u64 s])=true∧dh tab 9 87 (.st [.str a, .int .u64 b, .int .u64 s])=true:=⟨by kernel_rfl,EA a b s,EA a b s⟩
theorem u7 (l:gr) (hl:l.acs.length < 1000000000):aD Tryz.prog G 87 [lgM l,lgM l] (.bool true):=by
 obtain⟨acs,col⟩:=l;unfold lgM;dsimp only at *;refine aZ seat Tryz.func87 38 ?_;refine fP ?_;refine ar Nat (fun k=> [(23, .int .i64 k),(22, .int .i64 acs.length),(3, .ptr 1 2 0 0 []),(2, .ptr 0 2 0 0 [])]) (fun _=> [(0,⟨36,2,false,0,[.st [.sl acs.length (acs.map aV), .int .u64 col]]⟩),(1,⟨36,2,false,0,[.st [.sl acs.length (acs.map aV), .int .u64 col]]⟩)]) 2 (fun k=>k≤acs.length) (fun k=>acs.length - k) 0 (a₂ _) (vm [(0,_),(1,_)] []) ?_;intro k hk;try dsimp only
 refine ae ?_;refine ad rfl ?_ ?_ <;> intro h
 ·have hk':k < acs.length:=by have:=ot h;omega
  have hel:=eN hk';generalize acs[k] =a at *;obtain⟨nm,bal,seq⟩:=a;replace hel:cS (acs.map aV) acs.length (k:Int)=some (.st [.str nm, .int .u64 bal, .int .u64 seq]):=hel;have hel:=al.mk hel;have he:=al.mk (OP nm bal seq);have hsd:=bN.mk (NP nm bal seq);refine ae ?_;refine aw [ag 0,ag 1,ag 2,ag 3,ag 4,ag 5,ag 6,ag 7,ag 8,ag 9,ag 10] ?_;refine ae ?_;refine ad rfl ?_ ?_ <;> intro h
  ·exact absurd h sm
  refine ae ?_;exact⟨k + 1,by show k + 1≤acs.length;omega,by show acs.length - (k + 1) < acs.length - k;omega,(by dsimp only;exact(vm [(0,_),(1,_)] []))⟩
 ·refine ae ?_;refine av ?_;rfl
theorem GH (a:nR) (ha:ig a):aD Tryz.prog G 45 [appM a,appM a] (.bool true):=by
 have c1:=u7 (G:=G) a.com (by have:=ha.1.1;omega);have c2:=u7 (G:=G) a.chk (by have:=ha.2.1.1;omega);have c3:=u7 (G:=G) a.nxt (by have:=ha.2.2.1.1;omega);obtain⟨⟨a1,b1⟩,⟨a2,b2⟩,⟨a3,b3⟩,op,price⟩:=a;unfold appM lgM at *;dsimp only at *;cases op;all_goals(
  refine aZ seat Tryz.func45 38 ?_
  refine fP ?_
  refine yv (c1) ?_
  refine fP ?_
  refine yv (c2) ?_
  refine fP ?_
  refine yv (c3) ?_
  refine fP ?_
  refine av ?_
  rfl)
end
section
variable {G:GS}
attribute [local irreducible] aj aC aG aL aO vC aU au
theorem Bl (a:List UInt8):aD Tryz.prog G 113 [.sl a.length (u8s a), .sl a.length (u8s a)] (.bool true):=by
 have hb:=al.mk (er a);refine aZ seat Tryz.func113 10 ?_;refine fP ?_;refine av ?_;rfl
theorem C5 (l:List Int) (hl:l.length < 1000000000):aD Tryz.prog G 130 [bM l,bM l] (.bool true):=by
 unfold bM;refine aZ seat Tryz.func130 26 ?_;refine fP ?_;refine ar Nat (fun k=> [(13, .int .i64 k),(12, .int .i64 l.length),(1, .sl l.length (l.map (.int .i64))),(0, .sl l.length (l.map (.int .i64)))]) (fun _=> []) 0 (fun k=>k≤l.length) (fun k=>l.length - k) 0 (a₂ _) (vm [] []) ?_;intro k hk;try dsimp only
 refine ae ?_;refine ad rfl ?_ ?_ <;> intro h
 ·have hk':k < l.length:=by have:=ot h;omega
  have hel:=al.mk (jR hk');generalize l[k] =a at *;refine ae ?_;refine aw [ag 0,ag 1,ag 2,ag 3,ag 4,ag 5,ag 6,ag 7,ag 8] ?_;refine fP ?_;exact⟨k + 1,by show k + 1≤l.length;omega,by show l.length - (k + 1) < l.length - k;omega,(by dsimp only;exact(vm [] []))⟩
 ·refine ae ?_;refine av ?_;rfl
theorem r9 (k:List UInt8):GO (keyM k) (keyM k)=some true:=by rw [qm rfl];simp
theorem jh (l:List (List UInt8)) (hl:l.length < 1000000000):aD Tryz.prog G 27 [.sl l.length (l.map keyM), .sl l.length (l.map keyM)] (.bool true):=by
 refine aZ seat Tryz.func27 26 ?_;refine fP ?_;refine ar Nat (fun k=> [(13, .int .i64 k),(12, .int .i64 l.length),(1, .sl l.length (l.map keyM)),(0, .sl l.length (l.map keyM))]) (fun _=> []) 0 (fun k=>k≤l.length) (fun k=>l.length - k) 0 (a₂ _) (vm [] []) ?_;intro k hk;try dsimp only
 refine ae ?_;refine ad rfl ?_ ?_ <;> intro h
 ·have hk':k < l.length:=by have:=ot h;omega
  have hel:=al.mk (mV hk');have q1:=al.mk (r9 l[k]);have s1:=bN.mk (iL l[k] l[k]);generalize l[k] =a at *;refine ae ?_;refine aw [ag 0,ag 1,ag 2,ag 3,ag 4,ag 5,ag 6,ag 7,ag 8] ?_;refine ae ?_;exact⟨k + 1,by show k + 1≤l.length;omega,by show l.length - (k + 1) < l.length - k;omega,(by dsimp only;exact(vm [] []))⟩
 ·refine ae ?_;refine av ?_;rfl
theorem Bm (e:Ent) (hp:e.peers.length < 1000000000):aD Tryz.prog G 88 [aA e,aA e] (.bool true):=by
 obtain⟨e1,e2,e3,e4,e5,e6,e7,e8,e9,e10⟩:=e;have q1:=al.mk (r9 e1);have s1:=bN.mk (iL e1 e1);have c1:=Bl (G:=G) e2;have c2:=C5 (G:=G) e10 hp;unfold aA bM at *;dsimp only at *;refine aZ seat Tryz.func88 73 ?_;refine fP ?_;refine yv (c1) ?_;refine fP ?_;refine yv (c2) ?_;refine fP ?_;refine av ?_;rfl
theorem vN (l:List Ent) (hl:l.length < 1000000000) (hok: ∀e∈l,e.peers.length < 1000000000):aD Tryz.prog G 46 [.sl l.length (l.map aA), .sl l.length (l.map aA)] (.bool true):=by
 refine aZ seat Tryz.func46 27 ?_;refine fP ?_;refine ar Nat (fun k=> [(13, .int .i64 k),(12, .int .i64 l.length),(1, .sl l.length (l.map aA)),(0, .sl l.length (l.map aA))]) (fun _=> []) 0 (fun k=>k≤l.length) (fun k=>l.length - k) 0 (a₂ _) (vm [] []) ?_;intro k hk;try dsimp only
 refine ae ?_;refine ad rfl ?_ ?_ <;> intro h
 ·have hk':k < l.length:=by have:=ot h;omega
  have c1:=Bm (G:=G) l[k] (hok _ (c₉ hk'));have hel:=al.mk (eF hk');generalize l[k] =e at *;refine ae ?_;refine aw [ag 0,ag 1,ag 2,ag 3,ag 4,ag 5,ag 6,ag 7,de 8,ag 9] ?_;refine ae ?_;refine dk (c1) ?_;exact⟨k + 1,by show k + 1≤l.length;omega,by show l.length - (k + 1) < l.length - k;omega,(by dsimp only;exact(vm [] []))⟩
 ·refine ae ?_;refine av ?_;rfl
theorem NQ (f:Nat) (b:Bool):dh tab (f + 1) 4 (.bool b)=true:=by rw [dh.eq_def];rfl
theorem NR (c:ll):GO (cfM c) (cfM c)=some true:=by simp [GO,rC]
theorem Bn (c:ll):dh tab 9 24 (cfM c)=true:=by
 have h1:bf.find tab 24=some (.struct [(0,3),(1,3),(2,3),(3,3),(4,3),(5,3),(6,4),(7,3),(8,3),(9,22),(10,3),(11,3)] 12):=by kernel_rfl
 have I:bf.find tab 3=some (.int .i64):=by kernel_rfl
 rw [dh.eq_def];simp only [h1];exact bI I rfl (nw 7 _) (bI I rfl (nw 7 _) (bI I rfl (nw 7 _) (bI I rfl (nw 7 _) (bI I rfl (nw 7 _) (bI I rfl (nw 7 _) (bI (d:= .bool) (by kernel_rfl) rfl (NQ 7 _) (bI I rfl (nw 7 _) (bI I rfl (nw 7 _) (bI (d:= .int .u64) (by kernel_rfl) rfl (JR 7 _) (bI I rfl (nw 7 _) (bI I rfl (nw 7 _) uZ)))))))))))
theorem L3 (c:ll):NX Tryz.prog tab 24=true∧dh tab 9 24 (cfM c)=true∧dh tab 9 24 (cfM c)=true:=⟨by kernel_rfl,Bn c,Bn c⟩
theorem eR (s:cY) (ha:ig s.app) (hl:s.ents.length < 1000000000) (hok: ∀e∈s.ents,e.peers.length < 1000000000) (hc:s.cache.length < 1000000000):aD Tryz.prog G 18 [cO s,cO s] (.bool true):=by
 have q1:=al.mk (NR s.cfg);have s1:=bN.mk (L3 s.cfg);have c1:=GH (G:=G) s.app ha;have c2:=vN (G:=G) s.ents hl hok;have c3:=jh (G:=G) s.cache hc;refine aZ seat Tryz.func18 52 ?_;refine fP ?_;simp only [eq_self,decide_true,Bool.and_self,Bool.and_true,BEq.rfl];refine fP ?_;refine yv (c1) ?_;refine fP ?_;refine yv (c2) ?_;refine fP ?_;refine yv (c3) ?_;refine fP ?_;refine av ?_;rfl
abbrev w4 (c:Int) (key:List UInt8) (p:Int) (ks:List (List UInt8)):FQ:=⟨c,u8s key,p,(ks.length,ks.map keyM),(0,[]),(0,[]),(0,[]),(0,[]),(0,[]),0,k0⟩
theorem mF (c:Int) (key:List UInt8) (p:Int) (ks:List (List UInt8)) (hl:ks.length < 1000000000):aD Tryz.prog G 23 [nY (w4 c key p ks),nY (w4 c key p ks)] (.bool true):=by
 have q1:=al.mk (r9 key);have s1:=bN.mk (iL key key);have q2:=al.mk (r9 (a₃ 32 0));have s2:=bN.mk (iL (a₃ 32 0) (a₃ 32 0));have c1:=jh (G:=G) ks hl;have c2:=jh (G:=G) [] (by decide);have c3:=Ao (G:=G) [] [] (by decide) (by decide);unfold nY keyM DP at *;dsimp only at *;refine aZ seat Tryz.func23 80 ?_;refine fP ?_;refine yv (c1) ?_;refine fP ?_;refine yv (c2) ?_;refine fP ?_;refine yv (c2) ?_;refine fP ?_;refine yv (c2) ?_;refine fP ?_;refine yv (c2) ?_;refine fP ?_;refine yv (c3) ?_;refine fP ?_;refine av ?_;rfl
end
section
variable {G:GS}
attribute [local irreducible] aj aC aG aL aO vC aU au
def NY:Nat→List UInt8
 | 0=> [97,110,110]
 | 1=> [98,111,98]
 | 2=> [101,118,101]
 | _=> [122,111,101]
theorem L4 {k:Nat} (hk:k < 4): ∃nm:List UInt8,bH [MV.str [97,110,110],MV.str [98,111,98],MV.str [101,118,101],MV.str [122,111,101]] (0 + k)=some (.str nm)∧nm.length≤5∧nm=NY k:=by
 have h4:k=0∨k=1∨k=2∨k=3:=om;rcases h4 with rfl | rfl | rfl | rfl <;> exact⟨_,rfl,by decide,rfl⟩
theorem L5 {k:Nat} (hk:k < 5): ∃v:Nat,bH [MV.int .u64 100000,MV.int .u64 5000,MV.int .u64 700,MV.int .u64 0,MV.int .u64 1099511627776] (0 + k)=some (.int .u64 (v:Int))∧bh v∧v≤1099511627776:=by
 have h5:k=0∨k=1∨k=2∨k=3∨k=4:=om;rcases h5 with rfl | rfl | rfl | rfl | rfl
 ·exact⟨100000,rfl,by decide,by decide⟩
 ·exact⟨5000,rfl,by decide,by decide⟩
 ·exact⟨700,rfl,by decide,by decide⟩
 ·exact⟨0,rfl,by decide,by decide⟩
 ·exact⟨1099511627776,rfl,by decide,by decide⟩
theorem L6 {i k:Nat} (hi:i < 4) (hk:k < 4) (h:NY i=NY k):i=k:=by
 have h4:i=0∨i=1∨i=2∨i=3:=om;have k4:k=0∨k=1∨k=2∨k=3:=om;rcases h4 with rfl | rfl | rfl | rfl <;> rcases k4 with rfl | rfl | rfl | rfl <;> first | rfl | exact absurd h (by decide)
theorem NS {k:Nat} (hk:k < 4):dj (NY k)=true:=by
 have k4:k=0∨k=1∨k=2∨k=3:=om;rcases k4 with rfl | rfl | rfl | rfl <;> decide
structure JZ (j:Nat) (acs:List aW):Prop where
 nm: ∀a∈acs,∃k,j≤k∧k < 4∧a.name=NY k
 ne:acs.Pairwise fun a b=>a.name≠b.name
 bal: ∀a∈acs,a.bal≤1099511627776
theorem JZ.push {i:Nat} {acs:List aW} {nm:List UInt8} {b s:Nat} (h:JZ (i + 1) acs) (hn:nm=NY i) (hb:b≤1099511627776) (hi:i < 4):JZ i (acs ++ [⟨nm,b,s⟩]):=by
 subst hn;refine⟨fun a ha=>?_,List.pairwise_append.2 ⟨h.ne,List.pairwise_singleton _ _,fun a ha c hc e=>?_⟩,fun a ha=>?_⟩
 ·rcases b₃.1 ha with ha | ha
  ·obtain⟨k,h1,h2,h3⟩:=h.nm a ha;exact⟨k,om,h2,h3⟩
  ·rw [a₀.1 ha];exact⟨i,b₆ _,hi,rfl⟩
 ·obtain⟨k,h1,h2,h3⟩:=h.nm a ha;rw [a₀.1 hc,h3] at e;have:=L6 h2 hi e;omega
 ·rcases b₃.1 ha with ha | ha
  ·exact h.bal a ha
  ·rw [a₀.1 ha];exact hb
theorem JZ.mono {j:Nat} {acs:List aW} (h:JZ j acs):JZ 0 acs:=⟨fun a ha=>by obtain⟨k,_,h2,h3⟩:=h.nm a ha;exact⟨k,a₂ _,h2,h3⟩,h.ne,h.bal⟩
theorem EB: ∀(r:List aW) (ks:List (List UInt8)),(∀a∈r,dj a.name=true)→r.Pairwise (fun a b=>a.name≠b.name)→(∀a∈r,a.name ∉ ks)→rK r ks=0
 | [],_,_,_,_=>rfl
 | a :: r,ks,h1,h2,h3=>by
  have hp:=List.pairwise_cons.1 h2
  rw [rK,if_neg (by rw [h1 a (b₇ ..)];simp),if_neg (h3 a (b₇ ..))]
  refine EB r _ (fun b hb=>h1 b (b₄ _ hb)) hp.2 fun b hb hm=>?_
  rcases b₃.1 hm with hm | hm
  ·exact h3 b (b₄ _ hb) hm
  ·exact hp.1 b hb (a₀.1 hm).symm
theorem EC: ∀(l:List aW) (B:Nat),(∀a∈l,a.bal≤B)→uE l≤l.length * B
 | [],_,_=>a₂ _
 | a :: r,B,h=>by
  have:=EC r B fun x hx=>h x (b₄ _ hx)
  have:=h a (b₇ ..)
  rw [Gm,List.length_cons,Nat.succ_mul]
  omega
theorem L7 {acs:List aW} (h:JZ 0 acs) (hl:acs.length≤4):(kT acs).2=0:=by
 have h1:(iK acs []).2=0:=by
  rw [CG acs [] [] List.Pairwise.nil (fun nm=>by simp [bd])];exact EB acs [] (fun a ha=>by obtain⟨k,_,h2,h3⟩:=h.nm a ha;rw [h3];exact NS h2) h.ne sm
 have h2:=CH acs [] List.Pairwise.nil h1;have hb:=EC acs 1099511627776 h.bal;have hm:acs.length * 1099511627776≤4 * 1099511627776:=c₁ _ hl;have h3:(totS (iK acs []).1 0).2=true:=by
  rw [wI (m:=acs) (by simpa using h2.2)];exact(yu acs 0).2 (.inr om)
 unfold kT;rw [if_neg om,if_neg (by rw [h1];simp),if_neg (by rw [h3];simp)]
theorem JS {acs:List aW} {p:Nat} (h:JZ 0 acs) (hl:acs.length≤4):(fk acs p).2=0:=by
 unfold fk;rw [if_neg (by rw [L7 h hl];simp)]
theorem Bo (L:List Int) (N:Nat) (hN:N < 4000000000000000000):Cr G L 15 [numP] N fun r N'=> ∃acs:List aW,acs.length≤4∧(∀a∈acs,eM a)∧JZ 0 acs∧N'≤N + 14∧r= .sl acs.length (acs.map aV):=by
 obtain⟨m,hm,cm⟩:=bk (G:=G) L N 4 om om om;unfold Cr;refine gC seat Tryz.func15 rfl rfl (a₄ rfl) (a₄ rfl) (N:=36) rfl rfl ?_;refine ae ?_;refine yc (cm) [(0,0)] ?_;refine ae ?_;refine ar (Nat×Nat×List aW) (fun x=> [(4, .int .i64 ((x.1:Int) - 1)),(3, .ms 1 3 0 x.2.2.length),(0,numP)]) (fun x=>dI L x.2.1 ++ [(1,⟨87,3,true,0,x.2.2.map aV⟩)]) 2 (fun x=>x.1 + x.2.2.length≤4∧x.2.1 + 3 * x.1≤N + 14∧(∀a∈x.2.2,eM a)∧JZ x.1 x.2.2) (fun x=>x.1) (m + 1,N + 1,[]) ⟨by simp;omega,dm,sm,⟨sm,List.Pairwise.nil,sm⟩⟩ (by dsimp only;exact vm [] []) ?_;rintro⟨j,K,acs⟩ ⟨h1,h2,h3,h4⟩;try dsimp only
 dsimp only at h1 h2 h3 h4;refine ae ?_;refine ad rfl ?_ ?_ <;> intro h
 ·have hj:1≤j:=by have:=ot h;omega
  obtain⟨i,rfl⟩: ∃i,j=i + 1:=⟨j - 1,om⟩
  have hcast:((i + 1:Nat):Int) - 1=(i:Int):=om;rw [hcast];obtain⟨nm,f1,g1,gn⟩:=L4 (k:=i) om;obtain⟨x5,hx5,c5⟩:=bk (G:=G) L K 5 om om om;obtain⟨bal,f2,g2,gb⟩:=L5 (k:=x5) hx5;obtain⟨x6,hx6,c6⟩:=bk (G:=G) L (K + 1) 6 om om om;obtain⟨x3,hx3,c3⟩:=bk (G:=G) L (K + 1 + 1) 3 om om om;obtain⟨sq,f3,g3⟩:=Iz (k:=x3) hx3;have f1:=al.mk f1;have f2:=al.mk f2;have f3:=al.mk f3;have i1:=al.mk (ca (n:=4) (k:=i) om);have i2:=al.mk (ca hx5);have i3:=al.mk (ca hx3);have hll:(acs.map aV).length=acs.length:=sm;refine ae ?_;refine aw [ag 0,ag 1,ag 2,ag 3,ag 4,ag 5,de 6,ag 7,ag 8,ag 9,ag 10,ag 11] ?_;refine ae ?_;refine bG rfl (fun _ h=>h) rfl [0] (c5) [(0,0)] [] ⟨rfl,trivial,rfl,lm,mm⟩ rfl rfl rfl rfl rfl ?_;refine ae ?_;refine yc (c6) [(0,0)] ?_;refine ae ?_;refine ad rfl ?_ ?_ <;> intro h
  ·refine ae ?_;refine yc (c3) [(0,0)] ?_;refine ae ?_;refine aY rfl rfl (by intro R hR;refine dM hR ?_;(refine a₁ (b₆ _) ?_;refine⟨_,rfl,?_⟩;refine a₁ ⟨hll,aE (by kernel_rfl) pf⟩ ?_;refine⟨(acs ++ [(⟨nm,bal,sq⟩:aW)]).map aV,sv (by rw [d₀];rfl),acs.length + 1,sv pf,?_⟩);exact hR) rfl ?_;refine ae ?_;exact⟨(i,K + 1 + 1 + 1,acs ++ [⟨nm,bal,sq⟩]),⟨by dsimp only;rw [a₆,a₅];omega,dm,eV h3 fun a ha=>by rw [a₀.1 ha];exact⟨dm,g2,g3⟩,h4.push gn gb om⟩,dm,(by dsimp only;rw [a₆,a₅];exact(vm [(1,_)] []))⟩
  ·refine ae ?_;refine aY rfl rfl (by intro R hR;refine dM hR ?_;(refine a₁ (b₆ _) ?_;refine⟨_,rfl,?_⟩;refine a₁ ⟨hll,aE (by kernel_rfl) pf⟩ ?_;refine⟨(acs ++ [(⟨nm,bal,0⟩:aW)]).map aV,sv (by rw [d₀];rfl),acs.length + 1,sv pf,?_⟩);exact hR) rfl ?_;refine ae ?_;exact⟨(i,K + 1 + 1,acs ++ [⟨nm,bal,0⟩]),⟨by dsimp only;rw [a₆,a₅];omega,dm,eV h3 fun a ha=>by rw [a₀.1 ha];exact⟨dm,g2,by simp [bh]⟩,h4.push gn gb om⟩,dm,(by dsimp only;rw [a₆,a₅];exact(vm [(1,_)] []))⟩
 ·refine ae ?_;refine⟨_,_,_,⟨K,⟨⟨acs,om,h3,h4.mono,om,rfl⟩,rfl⟩,rfl,rfl⟩,?_⟩;refine⟨[_],[],[(1,acs.length)],rfl,rfl,?_,rfl,⟨?_,trivial⟩,?_⟩
  ·exact⟨by show acs.length≤(acs.map aV).length;simp,trivial⟩
  ·exact .inr ⟨rfl,rfl,rfl,a₉ (b₀ _),bT aV acs⟩
  ·exact mm
end
section
attribute [local irreducible] aj aC aG aL aO vC aU au
section
variable {T:bf} {rs:List ResultVar} {M:VM} {E:VE} {n:Nat}
theorem OR {Φ:MV→VM→Nat→Prop} (vs rv:List MV) (M1:VM) (n1:Nat) (σ bs:List (Nat×Nat)) (h1:dK T M E rs (fun v=>v=vs)) (hm:dP 0 rv M1 n1 vs M σ bs) (hΦ:Φ (kF rv) M1 n1):DB T 0 rs Φ .ret E M n:=
 gD (fun v hv=>by subst hv;exact⟨kF rv,M1,n1,hΦ,rv,σ,bs,rfl,hm⟩) h1
end
theorem nW {B:Nat} [FX:Fx] {s:cY} (raw:List UInt8) (peer:Int) (hs:ef B s): ∃c key p ks,ks.length≤B∧(bP s raw peer).2=w4 c key p ks:=by
 have he: ∀c:Int,∃c2 key p ks,ks.length≤B∧gH c=w4 c2 key p ks:=fun c=>⟨c,a₃ 32 0,0,[],a₂ _,rfl⟩
 unfold bP;split
 ·exact he _
 split
 ·exact he _
 dsimp only;split
 ·exact he _
 have hp:=hs.ents;have hso:=fun p=>yh p raw.length s.cfg.maxTxs s.cfg.maxBytes s.ents (fun e he=>(hs.entk e he).key)
 unfold gf;dsimp only;split
 ·exact he _
 split
 ·exact he _
 split
 ·exact he _
 ·exact⟨0,_,_,_,by have:=(hso ↑(fX (cA s (bm raw)).app raw).prio).2;show(cV _ _ _ _ _).1.length≤_;dsimp only [cA] at *;omega,rfl⟩
abbrev vj:Fx:=⟨fun _ _ _ _ _=>True⟩
abbrev JT (s:cY):Prop:=ug vj 40 s∧dR s
abbrev OS (L:List Int) (r:MV) (M:VM) (k:Nat):Prop:= ∃(N:Nat) (s:cY),N≤100000000∧r= .tup [cO s,cO s,numP, .bool true] ∧M=dI L N∧k=1∧JT s
theorem C6 (L:List Int):vx Tryz.prog GU 19 [bM L] [] 0 (OS L):=by
 refine gC seat Tryz.func19 rfl rfl (a₄ rfl) (a₄ rfl) (N:=129) rfl rfl ?_;refine ae ?_;refine yc (Iq (G:=GU) L) [] ?_;refine Ea ?_;refine jq ([(2, .ptr 1 25 0 0 []),(3, .ptr 2 25 0 0 []),(6,numP)]) (dI L 0 ++ [(1,⟨42,25,false,0,[po]⟩),(2,⟨42,25,false,0,[po]⟩)]) (3) (vm [(0,_),(1,_),(2,_)] []) ?_;refine ae ?_;refine ua rfl (fun _ h=>h) rfl (IA (G:=GU) L 0 om) rfl 0 [] ⟨rfl,trivial,rfl,lm,mm⟩ rfl ?_;rintro _ K1 ⟨c,hc,hK1,rfl⟩;refine ae ?_;refine ua rfl (fun _ h=>h) rfl (Bo (G:=GU) L K1 om) rfl 0 [] ⟨rfl,trivial,rfl,lm,mm⟩ rfl ?_;rintro _ K2 ⟨acs,ha,hsm,hag,hK2,rfl⟩;refine ae ?_;have hvc:=C0 hc;have hin:=JS (p:=c.price) hag ha;have c1:=uY c acs (CZ hc) om (fun a h=>(hsm a h).wd) hc.price;have c2:=Bk (G:=GU) c acs om (fun a h=>(hsm a h).wd) hc.price;have hst:jg c acs=(⟨c,(fk acs c.price).1,0,0,0,[],[]⟩,0):=by
  unfold jg;rw [if_neg (by rw [hvc];simp),if_neg (by rw [hin];simp)]
 rw [hst] at c1 c2;have hap:=Au (p:=c.price) hsm hc.price;generalize (fk acs c.price).1=a at *;dsimp only at c1 c2;clear hst hvc hin hag;refine cE (c1) rfl rfl (fun _ h=>h) (by kernel_rfl) ?_;refine ae ?_;refine cE (c2) rfl rfl (fun _ h=>h) (by kernel_rfl) ?_;have c3:=eR (G:=GU) ⟨c,a,0,0,0,[],[]⟩ hap sm sm sm;clear c1 c2 hsm ha;refine ae ?_;refine cE (aa (c3)) rfl rfl (fun _ h=>h) (by kernel_rfl) ?_;refine Ea ?_;refine jq ([(46, .bool false),(2, .ptr 1 25 0 0 []),(3, .ptr 2 25 0 0 []),(6,numP),(7, .ptr 3 12 0 0 []),(9, .ptr 4 25 0 0 []),(11, .ptr 5 25 0 0 [])]) (dI L K2 ++ [(1,⟨42,25,false,0,[po]⟩),(2,⟨42,25,false,0,[po]⟩),(3,⟨24,12,false,0,[cfM c]⟩),(4,⟨42,25,false,0,[cO ⟨c,a,0,0,0,[],[]⟩]⟩),(5,⟨42,25,false,0,[cO ⟨c,a,0,0,0,[],[]⟩]⟩)]) (6) (vm [(0,_),(1,_),(2,_),(3,_),(4,_),(5,_)] []) ?_;clear c3;obtain⟨x0,hx0,cx0⟩:=bk (G:=GU) L K2 5 om om om;obtain⟨x1,hx1,cx1⟩:=bk (G:=GU) L (K2 + 1) 20 om om om;obtain⟨x2,hx2,cx2⟩:=bk (G:=GU) L (K2 + 1 + 1) 10 om om om;have ho0:ug vj 20 ⟨c,a,x0,x1,0,[],[]⟩:=⟨hc,hap,dm,dm,dm,a₂ _,nofun,a₂ _,nofun,trivial⟩;have hi0:dR ⟨c,a,x0,x1,0,[],[]⟩:=⟨hc.cache.1, .nil,by have:=hc.maxTxs;show((0:Nat):Int)≤c.maxTxs;omega,by have:=hc.maxBytes;show((bytesS [] :Nat):Int)≤c.maxBytes;simp [bytesS];omega, .nil,nofun, .nil,nofun⟩;refine ae ?_;refine yc (cx0) [(0,0)] ?_;refine ae ?_;refine yc (cx1) [(0,0)] ?_;refine ae ?_;refine aw [ag 0,ag 1,ag 2,ag 3,ag 4,ag 5,ag 6,ag 7] ?_;refine ae ?_;refine yc (cx2) [(0,0)] ?_;refine ae ?_;refine ar (Nat×Nat×cY) (fun x=> [(13, .int .i64 x.1),(2, .ptr 1 25 0 0 []),(3, .ptr 2 25 0 0 []),(6,numP),(7, .ptr 3 12 0 0 []),(9, .ptr 4 25 0 0 []),(11, .ptr 5 25 0 0 [])])
  (fun x=>dI L x.2.1 ++ [(1,⟨42,25,false,0,[po]⟩),(2,⟨42,25,false,0,[po]⟩),(3,⟨24,12,false,0,[cfM c]⟩),(4,⟨42,25,false,0,[cO x.2.2]⟩),(5,⟨42,25,false,0,[cO x.2.2]⟩)]) 6
  (fun x=>x.1≤10∧x.2.1 + 1000 * x.1≤100000∧ug vj (30 - x.1) x.2.2∧dR x.2.2) (fun x=>x.1) (x2,K2 + 1 + 1 + 1,⟨c,a,x0,x1,0,[],[]⟩) ⟨dm,dm,ef.mono (FX:=vj) ho0 dm,hi0⟩ (by dsimp only;exact(vm [(0,_),(1,_),(2,_),(3,_),(4,_),(5,_)] [])) ?_
 clear ho0 hi0 cx0 cx1 cx2;rintro⟨i,K,s⟩ ⟨h1,h2,hs,hinv⟩;try dsimp only
 dsimp only at h1 h2 hs hinv;refine ae ?_;refine ad rfl ?_ ?_ <;> intro h
 ·have hi:0 < i:=by have:=ot h;omega
  obtain⟨j,rfl⟩: ∃j,i=j + 1:=⟨i - 1,om⟩
  have hcast:((j + 1:Nat):Int) - 1=(j:Int):=om;have e1:=Iy (G:=GU) L K s.app.chk c.price om hs.app.2.1 hc.price;have e2:=yg (L:=L) (N:=K) (price:=c.price) hs.app.2.1.2.2;generalize vH L K s.app.chk.acs c.price=rw' at *;obtain⟨raw,K3⟩:=rw';dsimp only at e1 e2;refine ae ?_;refine yc (e1) [(0,0)] ?_;refine ae ?_;refine rS (List UInt8×Nat) (fun x=> [(14, .sl x.1.length (u8s x.1)),(13, .int .i64 (j + 1:Nat)),(2, .ptr 1 25 0 0 []),(3, .ptr 2 25 0 0 []),(6,numP),(7, .ptr 3 12 0 0 []),(9, .ptr 4 25 0 0 []),(11, .ptr 5 25 0 0 [])]) (fun x=>dI L x.2 ++ [(1,⟨42,25,false,0,[po]⟩),(2,⟨42,25,false,0,[po]⟩),(3,⟨24,12,false,0,[cfM c]⟩),(4,⟨42,25,false,0,[cO s]⟩),(5,⟨42,25,false,0,[cO s]⟩)]) (fun _=>6) (fun x=>x.1.length≤4096∧x.2≤K + 100) (fun JQ hj=>?_) (fun x hx=>?_)
  ·refine ah rfl rfl ?_ rfl ?_ <;> intro h
   ·have hne:0 < s.ents.length:=by simpa using h
    obtain⟨x3,hx3,cx3⟩:=bk (G:=GU) L K3 6 om om om;refine ae ?_;refine yc (cx3) [(0,0)] ?_;refine ae ?_;refine ad rfl ?_ ?_ <;> intro h
    ·have hpos:0 < s.ents.length:=hne;obtain⟨x4,hx4,cx4⟩:=bk (G:=GU) L (K3 + 1) s.ents.length hpos (by have:=hs.ents;omega) om;have hel:=al.mk (eF hx4);have her:=(hs.entk _ (c₉ hx4)).raw;generalize s.ents[x4] =e at *;obtain⟨e1,e2,e3,e4,e5,e6,e7,e8,e9,e10⟩:=e;unfold aA at hel;dsimp only at her hel;refine ae ?_;refine aw [ag 0,ag 1,ag 2,ag 3,ag 4,ag 5,de 6,ag 7,ag 8,ag 9,ag 10] ?_;refine ae ?_;refine bG rfl (fun _ h=>h) rfl [0] (cx4) [(0,0)] [] ⟨rfl,trivial,rfl,lm,mm⟩ rfl rfl rfl rfl rfl ?_;refine ae ?_;exact hj.nrm (e2,K3 + 1 + 1) ⟨dm,dm⟩ (by dsimp only;exact(vm [(0,_),(1,_),(2,_),(3,_),(4,_),(5,_)] []))
    ·refine ae ?_;exact hj.nrm (raw,K3 + 1) ⟨dm,dm⟩ (by dsimp only;exact(vm [(0,_),(1,_),(2,_),(3,_),(4,_),(5,_)] []))
   ·refine ae ?_;exact hj.nrm (raw,K3) ⟨dm,dm⟩ (by dsimp only;exact(vm [(0,_),(1,_),(2,_),(3,_),(4,_),(5,_)] []))
  ·obtain⟨tx,K4⟩:=x;obtain⟨htl,hK4⟩:=hx;dsimp only at htl hK4;obtain⟨x5,hx5,cx5⟩:=bk (G:=GU) L K4 6 om om om;have c1:=pJ (FX:=vj) s tx ((x5:Int) - 1) om hs om hinv;have c2:=um (G:=GU) (FX:=vj) s tx ((x5:Int) - 1) om hs om;obtain⟨rc,rk,rp,rl,hrl,hrq⟩:=nW (FX:=vj) tx ((x5:Int) - 1) hs;have hiv:=rm (raw:=tx) (peer:=(x5:Int) - 1) hs.cfg hinv;generalize bP s tx ((x5:Int) - 1)=C at *;obtain⟨s2,rq⟩:=C;dsimp only at c1 hrq hiv;subst hrq;have c4:=mF (G:=GU) rc rk rp rl om;refine ae ?_;refine yc (cx5) [(0,0)] ?_;refine ae ?_;refine cE (c1) rfl rfl (fun _ h=>h) (by kernel_rfl) ?_;refine ae ?_;refine uk (c2) rfl rfl (fun _ h=>h) (by kernel_rfl) ?_;rintro _ ⟨s',rp',rfl,hs',hq⟩;injection hq with hq1 hq2
   subst hq1;subst hq2;have c3:=eR (G:=GU) s' hs'.app (by have:=hs'.ents;omega) (fun e he=>by have:=(hs'.entk e he).peers;omega) (by have:=hs'.cache;omega);refine ae ?_;refine cE (aa (c4)) rfl rfl (fun _ h=>h) (by kernel_rfl) ?_;refine ae ?_;refine cE (aa (c3)) rfl rfl (fun _ h=>h) (by kernel_rfl) ?_;refine ae ?_;refine aw [ag 0,ag 1,ag 2,ag 3] ?_;refine ae ?_;exact⟨(j,K4 + 1,s'),⟨dm,dm,ef.mono (FX:=vj) hs' dm,hiv⟩,dm,(by dsimp only;exact(vm [(0,_),(1,_),(2,_),(3,_),(4,_),(5,_)] []))⟩
 ·refine ae ?_;refine aw [ag 0,ag 1,ag 2,ag 3,ag 4,ag 5,ag 6] ?_;refine ae ?_;refine OR [_,_,_,_] [cO s,cO s,numP, .bool true] (dI L K) 1 [(0,0)] [] (by exact P3) ⟨rfl,trivial,rfl,lm,mm⟩ ⟨K,s,om,rfl,rfl,rfl,ef.mono (FX:=vj) hs om,hinv⟩
end
section
variable [FX:Fx]
theorem GI {B:Nat} {s:cY} (i peer:Int) (hs:ef B s):ef (B + 1) (dQ s i peer):=by
 have hm:=hs.mono (B':=B + 1) om;unfold dQ;split
 ·split
  ·rename_i e he;split
   ·exact hm
   ·have hmem:=c₂ he;have hk:=hs.entk _ hmem;refine⟨hm.cfg,hm.app,hm.height,hm.time,hm.arr,by dsimp only;rw [List.length_set];exact hm.ents,fun x hx=>?_,hm.cache,hm.ck,hm.fx⟩;rcases List.mem_or_eq_of_mem_set hx with hx | rfl
    ·exact hm.entk x hx
    ·exact⟨hk.key,hk.raw,hk.sender,hk.height,hk.time,by have:=hk.peers;dsimp only;rw [a₆,a₅];omega,hk.gas⟩
  ·exact hm
 ·exact hm
theorem u9 {B:Nat}: ∀{s:cY} (l:List (List UInt8)),ef B s→ef B (iM s l)
 | s,[],h=>h
 | s,k :: l,h=>u9 (s:=ga (fC s k).1 k) l (jZ (uh (k:=k) h))
theorem nX {B:Nat} {s:cY} (raw:List UInt8) (peer:Int) (hs:ef B s) (hB:B≤100000):ef (B + 1) (bP s raw peer).1:=by
 have hm:=hs.mono (B':=B + 1) om;have hk32:(bm raw).length=32:=jV raw;unfold bP;split
 ·exact hm
 rename_i h1;split
 ·exact hm
 dsimp only;have hp:=qp (B:=B) hs hk32;have hmx:=hs.cfg.maxTx;generalize bm raw=key at *;split
 ·exact GI _ _ hp
 generalize cA s key=s1 at *;unfold gf;dsimp only;have hres:DS (fX s1.app raw):=(Cp hp.app.2.1).2;generalize fX s1.app raw=r at *;split
 ·exact(ml hp).mono om
 split
 ·exact(ml hp).mono om
 split
 ·exact(jZ hp).mono om
 ·generalize (cV r.prio raw.length s1.cfg.maxTxs s1.cfg.maxBytes s1.ents).1=ks;have ho:=u9 ks hp;unfold jr;dsimp only;generalize iM s1 ks=s2 at *;have hm:=ho.mono (B':=B + 1) om;have ha:=ho.arr;refine⟨hm.cfg,tX ho.app,hm.height,hm.time,dm,by have:=ho.ents;dsimp only;rw [a₆,a₅];omega,fun x hx=>?_,hm.cache,hm.ck,?_⟩
  ·rcases b₃.1 hx with hx | hx
   ·exact hm.entk x hx
   ·obtain rfl:=a₀.1 hx;have:=ho.height;have:=ho.time;unfold AG;exact⟨hk32,by dsimp only;omega,hres.2.1,by dsimp only;omega,by dsimp only;omega,by dsimp only;split <;> simp,by have:=hres.2.2.2.1;unfold bh at this;dsimp only;omega⟩
  ·exact hm.fx
end
section
attribute [local irreducible] aj aC aG aL aO vC aU au
def GJ:List aW:= [⟨[97,110,110],1000,0⟩,⟨[98,111,98],1000,0⟩]
def cfK:ll:=⟨1,100,100,5,0,0,false,200, -1,0,0,1⟩
def NT (nm:List UInt8) (fee:Nat):iJ:=⟨nm,0,300,fee,[],[⟨[98,111,98],5⟩]⟩
def raw1:List UInt8:= [10,3,97,110,110,24,172,2,32,3,50,7,10,3,98,111,98,16,5]
def key1:List UInt8:= [239,225,42,207,95,68,72,85,197,255,123,8,10,148,164,198,33,249,109,148,219,54,48,129,85,225,24,238,72,170,121,111]
def raw2:List UInt8:= [10,3,98,111,98,24,172,2,32,2,50,7,10,3,98,111,98,16,5]
def OT:List UInt8:= [102,127,128,88,233,9,190,213,155,154,94,105,132,125,185,77,158,79,181,144,118,219,8,238,240,194,254,167,22,6,134,99]
def raw3:List UInt8:= [10,3,98,111,98,24,172,2,32,30,50,7,10,3,98,111,98,16,5]
def key3:List UInt8:= [104,246,105,135,2,237,138,160,246,155,36,166,37,20,169,22,219,148,65,225,219,168,66,181,230,117,34,185,126,15,250,78]
theorem OU:bm raw1=key1:=by kernel_rfl
theorem Pw:bm raw2=OT:=by kernel_rfl
theorem Px:bm raw3=key3:=by kernel_rfl
theorem Py:eW (NT [97,110,110] 3)=(raw1,0):=by kernel_rfl
theorem Pz:eW (NT [98,111,98] 2)=(raw2,0):=by kernel_rfl
theorem PF:eW (NT [98,111,98] 30)=(raw3,0):=by kernel_rfl
theorem NU:(jg cfK GJ).2=0:=by kernel_rfl
def qJ (key:List UInt8) (s:cY) (raw:List UInt8) (peer:Int):cY×FQ:=
 if s.cfg.maxTx < (raw.length:Int) then(s,gH 20) else if s.cfg.blkB < (i6 raw.length:Int) then(s,gH 21) else
 if 0≤kY key s.ents∨0≤posK key s.cache 0 then(dQ (cA s key) (kY key s.ents) peer,gH 23) else gf (cA s key) key raw peer
theorem GK {key raw:List UInt8} (s:cY) (peer:Int) (h:bm raw=key):bP s raw peer=qJ key s raw peer:=by
 subst h;rfl
def O3:cY:=(jg cfK GJ).1
def PG:cY×FQ:=qJ key1 O3 raw1 2
def PH:cY×FQ:=qJ key1 PG.1 raw1 3
def PI:cY×FQ:=qJ OT PH.1 raw2 0
def O4:cY×FQ:=qJ key3 PI.1 raw3 0
theorem q1:PG.2=w4 0 key1 10 [] :=by kernel_rfl
theorem q2:PH.2=w4 23 (a₃ 32 0) 0 [] :=by kernel_rfl
theorem q3:PI.2=w4 24 (a₃ 32 0) 0 [] :=by kernel_rfl
theorem q4:O4.2=w4 0 key3 100 [key1] :=by kernel_rfl
theorem q5:O4.1.ents= [⟨key3,raw3,[98,111,98],0,300,100,0,0,1,[]⟩] :=by kernel_rfl
theorem q6:O4.1.cache= [key3] :=by kernel_rfl
end
section
attribute [local irreducible] aj aC aG aL aO vC aU au
set_option maxHeartbeats 140737488355328 in
theorem yJ (k:List Int) (hk:k.length≤140737488355328):aD Tryz.prog GU 11 [.sl 1 [bM k]] (.bool (decide (160 < k.length))):=by
 refine aZ seat Tryz.func11 19 ?_;refine ae ?_;refine ar Nat (fun j=> [(8, .int .i64 j),(7, .int .i64 1),(6, .sl 1 [bM k]),(3, .int .i64 ((j * k.length:Nat):Int))]) (fun j=> []) 0 (fun j=>j≤1) (fun j=>1 - j) 0 om (by rw [Nat.zero_mul];exact(vm [] [])) ?_;intro j hj;try dsimp only
 refine ae ?_;refine ad rfl ?_ ?_ <;> intro h
 ·have hj':j=0:=by have:=ot h;omega
  subst hj';rw [Nat.zero_mul];unfold bM;refine ae ?_;exact⟨1,by show 1≤1;omega,by show 1 - 1 < 1 - 0;omega,(by dsimp only;rw [Nat.one_mul];exact(vm [] []))⟩
 ·have hj':j=1:=by have:=oF h;omega
  subst hj';rw [Nat.one_mul];refine ae ?_;refine av ?_
  show MV.bool (decide ((k.length:Int) > 160))=_
  congr 1;exact decide_eq_decide.2 om
theorem JU (nm raw:List UInt8) (fee:Nat) (h:eW (NT nm fee)=(raw,0)) (hs:gE (NT nm fee)):aH Tryz.prog GU 40 [.str nm, .int .u64 0, .int .u64 fee] [] 0 (.sl raw.length (u8s raw)) [] 0:=by
 have c1:=An (G:=GU) _ hs;rw [h] at c1;unfold NT nh at c1;dsimp only at c1;refine bR seat Tryz.func40 20 ?_;refine ae ?_;refine bV rfl (fun _ h=>h) rfl (c1) rfl [(5,1)] mm lm ?_;refine ae ?_;refine av ?_;exact en [_]
theorem JV:aD Tryz.prog GU 39 [] (cfM cfK):=by
 refine aZ seat Tryz.func39 2 ?_;refine ae ?_;refine av ?_;rfl
theorem C7 (nm:List UInt8) (fee:Nat) (h:nm.length≤100) (hf:fee≤1000):gE (NT nm fee):=by
 refine⟨by show nm.length≤_;omega,by show(0:Nat) < 18446744073709551616;decide,by show(300:Nat) < 18446744073709551616;decide,by show fee < 18446744073709551616;omega,by show(0:Nat)≤5000;decide,by show(1:Nat)≤5000;decide,?_⟩;intro x hx;rw [a₀.1 hx];exact⟨by decide,by unfold bh;decide⟩
theorem C8 {s0 s1 s2 s3 s4:cY} {e:Ent} {raw1 raw2 raw3 key1 key3:List UInt8} {p4:Int} (h1:s4.ents= [e]) (h2:e.order=1) (h3:s4.cache= [key3])
  (c0:aH Tryz.prog GU 16 [cfM cfK, .sl 2 (GJ.map aV)] [] 0 (.tup [cO s0, .int .i64 0]) [] 0)
  (d1:aH Tryz.prog GU 40 [.str [97,110,110], .int .u64 0, .int .u64 3] [] 0 (.sl raw1.length (u8s raw1)) [] 0)
  (d2:aH Tryz.prog GU 40 [.str [98,111,98], .int .u64 0, .int .u64 2] [] 0 (.sl raw2.length (u8s raw2)) [] 0)
  (d3:aH Tryz.prog GU 40 [.str [98,111,98], .int .u64 0, .int .u64 30] [] 0 (.sl raw3.length (u8s raw3)) [] 0)
  (c1:aH Tryz.prog GU 21 [cO s0, .sl raw1.length (u8s raw1), .int .i64 2] [] 0 (.tup [cO s1,nY (w4 0 key1 10 [])]) [] 0)
  (c2:aH Tryz.prog GU 21 [cO s1, .sl raw1.length (u8s raw1), .int .i64 3] [] 0 (.tup [cO s2,nY (w4 23 (a₃ 32 0) 0 [])]) [] 0)
  (c3:aH Tryz.prog GU 21 [cO s2, .sl raw2.length (u8s raw2), .int .i64 0] [] 0 (.tup [cO s3,nY (w4 24 (a₃ 32 0) 0 [])]) [] 0)
  (c4:aH Tryz.prog GU 21 [cO s3, .sl raw3.length (u8s raw3), .int .i64 0] [] 0 (.tup [cO s4,nY (w4 0 key3 p4 [key1])]) [] 0) :
  aD Tryz.prog GU 12 [] (.bool true):=by
 have c5:=jh (G:=GU) [key1] sm
 have c6:=jh (G:=GU) [key3] sm
 obtain⟨f1,f2,f3,f4,f5,f6,f7⟩:=s4
 dsimp only at h1 h3
 subst h1
 subst h3
 obtain⟨e1,e2,e3,e4,e5,e6,e7,e8,e9,e10⟩:=e
 dsimp only at h2
 subst h2
 generalize a₃ 32 0=z at *
 have ck:=JV
 generalize cfK=c at *
 unfold nY at *
 dsimp only [List.map,List.length] at *
 refine aZ seat Tryz.func12 96 ?_
 refine ae ?_
 refine cC (ck) ?_
 refine bV rfl (fun _ h=>h) rfl (c0) rfl [(3,2)] mm lm ?_
 refine ae ?_
 refine aw [ag 0,de 1,de 2,ag 3,ag 4,ag 5,ag 6,ag 7,ag 8] ?_
 refine ae ?_
 refine jT (d1) ?_
 refine jT (c1) ?_
 refine aw [ag 0,de 1,de 2,ag 3,ag 4,ag 5,ag 6,ag 7,ag 8] ?_
 refine ae ?_
 refine jT (d1) ?_
 refine jT (c2) ?_
 refine aw [ag 0,de 1,de 2,ag 3,ag 4,ag 5,ag 6,ag 7,ag 8] ?_
 refine ae ?_
 refine jT (d2) ?_
 refine jT (c3) ?_
 refine aw [ag 0,de 1,de 2,ag 3,ag 4,ag 5,ag 6,ag 7,ag 8] ?_
 refine ae ?_
 refine jT (d3) ?_
 refine jT (c4) ?_
 refine bV rfl (fun _ h=>h) rfl (aa (c5)) rfl [(78,1)] mm lm ?_
 refine ae ?_
 refine bV rfl (fun _ h=>h) rfl (aa (c6)) rfl [(99,1)] mm lm ?_
 refine ae ?_
 refine av ?_
 rfl
theorem JW:O3=⟨cfK,(fk GJ 0).1,0,0,0,[],[]⟩:=by kernel_rfl
theorem ED: ∀a∈GJ,eM a:=by
 intro a ha;rcases c₃.1 ha with rfl | ha
 ·exact⟨by decide,by unfold bh;decide,by unfold bh;decide⟩
 ·rw [a₀.1 ha];exact⟨by decide,by unfold bh;decide,by unfold bh;decide⟩
theorem cfK_ok:rJ cfK:=⟨by decide,by decide,by decide,by decide,by decide,by decide,by decide,by decide,by unfold bh;decide,by decide,by decide⟩
theorem EE {s:cY} {C:cY×FQ} {raw key:List UInt8} {peer:Int} {rq:FQ} {B:Nat} (hr:raw.length≤1000) (hs:ug vj B s) (hB:B≤1000) (hi:dR s) (hk:bm raw=key) (hC:C=qJ key s raw peer) (hc:C.2=rq):aH Tryz.prog GU 21 [cO s, .sl raw.length (u8s raw), .int .i64 peer] [] 0 (.tup [cO C.1,nY rq]) [] 0∧ug vj (B + 1) C.1∧dR C.1:=by
 have h1:=pJ (FX:=vj) s raw peer om hs om hi;have h2:=nX (FX:=vj) raw peer hs om;have h3:=rm (raw:=raw) (peer:=peer) hs.cfg hi;rw [GK s peer hk,← hC] at h1 h2 h3;rw [hc] at h1;exact⟨h1,h2,h3⟩
theorem known_m:aD Tryz.prog GU 12 [] (.bool true):=by
 have ho:ug vj 20 O3:=by
  rw [JW];exact⟨cfK_ok,Au ED (by unfold bh;decide),by decide,by decide,by decide,a₂ _,nofun,a₂ _,nofun,trivial⟩
 have hi:dR O3:=by
  rw [JW];exact⟨by decide, .nil,by decide,by decide, .nil,nofun, .nil,nofun⟩
 have c0:=uY cfK GJ (CZ cfK_ok) (by decide) (fun a h=>(ED a h).wd) (by unfold bh;decide);rw [NU] at c0;obtain⟨c1,ho,hi⟩:=EE (raw:=raw1) (peer:=2) (C:=PG) (by decide) ho om hi OU rfl q1;obtain⟨c2,ho,hi⟩:=EE (raw:=raw1) (peer:=3) (C:=PH) (by decide) ho om hi OU rfl q2;obtain⟨c3,ho,hi⟩:=EE (raw:=raw2) (peer:=0) (C:=PI) (by decide) ho om hi Pw rfl q3;obtain⟨c4,ho,hi⟩:=EE (raw:=raw3) (peer:=0) (C:=O4) (by decide) ho om hi Px rfl q4;exact C8 q5 rfl q6 c0 (JU _ _ 3 Py (C7 _ _ (by decide) (by decide))) (JU _ _ 2 Pz (C7 _ _ (by decide) (by decide))) (JU _ _ 30 PF (C7 _ _ (by decide) (by decide))) c1 c2 c3 c4
end
section
attribute [local irreducible] aj aC aG aL aO vC aU au
theorem rL (k:List Int) (hk:k.length≤140737488355328):aD Tryz.prog GU 4 [bM k] (.bool true):=by
 have cl:=yJ k hk;by_cases h1:160 < k.length
 ·rw [decide_eq_true h1] at cl;unfold bM at *;refine aZ seat Tryz.func4 22 ?_;refine ae ?_;refine bV rfl (fun _ h=>h) rfl (aa (cl)) rfl [(2,1)] mm lm ?_;refine ae ?_;refine cC (known_m) ?_;refine av ?_;rfl
 rw [decide_eq_false h1] at cl;have cm:=C6 k;unfold bM at *;refine aZ seat Tryz.func4 22 ?_;refine ae ?_;refine bV rfl (fun _ h=>h) rfl (aa (cl)) rfl [(2,1)] mm lm ?_;refine ae ?_;refine lO rfl (fun _ h=>h) rfl (cm) [] [] ⟨rfl,trivial,rfl,lm,mm⟩ rfl ?_;rintro _ _ _ ⟨N,s,hN,rfl,rfl,rfl,hs,hi⟩;refine⟨rfl,?_⟩;refine ae ?_;refine cC (known_m) ?_;refine av ?_;rfl
end
section
open Go.RowKit Go.ChangeShapes Go.Deep
theorem Bp:reachBytes≤140737488355328:=by decide
theorem va {H:Type} {P:Program} {e:TypeId} {l:List (DataW H)} (h:(DataW.weightsAll P e l).all (· ≤reachBytes)=true) {d:DataW H} (hd:d∈l):(d.weights P e).all (· ≤reachBytes)=true:=by
 induction l with
 | nil=>cases hd
 | cons x l ih=>
  simp only [DataW.weightsAll,c₀,b₉] at h;rcases c₃.1 hd with rfl | hd
  ·exact h.1
  ·exact ih h.2 hd
end
section
open Go.RowKit Go.ChangeShapes Go.Deep
def Bq (W:World):bC:=fun b _=>b < W.heap.size
mutual
def MV.bulk:MV→Nat
 | .str s=>s.length + 1
 | .sl _ l=>MV.bulks l + 1
 | .st l=>MV.bulks l + 1
 | _=>1
def MV.bulks:List MV→Nat
 | [] =>0
 | m :: l=>MV.bulk m + MV.bulks l
end
theorem vd {H:Type} (d:DataW H):1≤Rows.uptoBulk d:=by
 cases d with
 | lit l=>cases l <;> simp [Rows.uptoBulk]
 | nil=>simp [Rows.uptoBulk]
 | ptr d=>simp [Rows.uptoBulk]
 | slice elems spare=>simp [Rows.uptoBulk]
 | agg parts=>simp [Rows.uptoBulk]
 | iface t d=>simp [Rows.uptoBulk]
 | map entries=>simp [Rows.uptoBulk]
 | held h=>simp [Rows.uptoBulk]
theorem w5 {H:Type} (f:Nat→MV) (D:Nat→DataW H): ∀(l:List Nat),(∀i∈l,(f i).bulk≤Rows.uptoBulk (D i))→MV.bulks (l.map f)≤Rows.uptoBulkAll (l.map D)
 | [],_=>b₆ _
 | i :: l,h=>by
  have h1:=h i sm
  have h2:=w5 f D l fun j hj=>h j (by simp [hj])
  simp only [c₄,MV.bulks,Rows.uptoBulkAll]
  omega
def Opn (P:Program) (t:TypeId) (n:Nat) (Q:MV→Prop):Prop:=
 P.cellsOf t=n∧∀{H:Type} (enc:TypeId×Value→H) (W:World) (spare:Nat→Bool) (held:Bool) (fuel:Nat) (cs:List Value) (d:DataW H) (p:List MemPlace),
  DataW.trod enc P W 0 spare held fuel t cs=some (d,p)→(d.weights P t).all (· ≤reachBytes)=true→cs.length=n∧∃m,Q m∧bF W (Bq W) noAdr m cs∧m.bulk≤Rows.uptoBulk d
section
variable {P:Program} {t e:TypeId}
theorem Opn.int {k:IntKind} (hu:P.underlying t=some (.int k)) (hc:P.cellsOf t=1):Opn P t 1 fun m=> ∃n,m= .int k n∧(Lit.int k n).wf=true:=
 ⟨hc,fun enc W spare held fuel cs d p h _=>by
  obtain⟨n,rfl,_,hw⟩:=DataW.trod_int hu h;exact⟨rfl,_,⟨n,rfl,hw⟩, .int,vd d⟩⟩
theorem Opn.bool (hu:P.underlying t=some .bool) (hc:P.cellsOf t=1):Opn P t 1 fun m=> ∃b,m= .bool b:=
 ⟨hc,fun enc W spare held fuel cs d p h _=>by
  obtain⟨b,rfl,_⟩:=DataW.trod_bool hu h;exact⟨rfl,_,⟨b,rfl⟩, .bool,vd d⟩⟩
theorem Opn.str (hu:P.underlying t=some .string) (hc:P.cellsOf t=1):Opn P t 1 fun m=> ∃s,m= .str s∧s.length≤140737488355328:=
 ⟨hc,fun enc W spare held fuel cs d p h hw=>by
  obtain⟨s,rfl,hx,_⟩:=DataW.trod_string hu h;simp only [c₅] at hx;obtain⟨rfl,rfl⟩:=hx;have h2:s.data.size≤reachBytes:=by simpa [DataW.weights] using hw
  exact⟨rfl,_,⟨s.data.toList,rfl,by simpa using Nat.le_trans h2 Bp⟩, .str,by simp [MV.bulk,Rows.uptoBulk]⟩⟩
theorem Opn.slice {n:Nat} {Q:MV→Prop} (hu:P.underlying t=some (.slice e)) (hc:P.cellsOf t=1) (hb:0 < P.bytesOf e) (hpos:0 < n) (hr:Opn P e n Q):Opn P t 1 fun m=> ∃l,m= .sl l.length l∧(∀x∈l,Q x)∧l.length≤140737488355328:=by
 refine⟨hc,fun {H} enc W spare held fuel cs d p h hw=>?_⟩;rcases open_slice hu h with ⟨rfl,_⟩ | ⟨a,len,cap,m,nn,D,Pl,rfl,_,hle,_,hm,hx,hi⟩
 ·exact⟨rfl,_,⟨[],rfl,sm,sm⟩, .sl none 0 0 [] rfl rfl (fun p hp=>nomatch hp) (fun _=>⟨rfl,rfl⟩) (b₆ _) (fun h=>absurd rfl h) (fun j m p h=>by simp at h),vd _⟩
 ·simp only [c₅] at hx;obtain⟨rfl,rfl⟩:=hx;simp only [DataW.weights,hu,List.all_cons,c₀,b₉,b₅,c₈] at hw;have hmle:len≤m:=by rw [hm];split <;> omega
  have hlen:len≤140737488355328:=by
   have h1:=ot hw.1;have h3:=Bp;have h2:len * 1≤(len + (m - len)) * P.bytesOf e:=Nat.mul_le_mul om hb;omega
  have key: ∀i,i < len→∃x:MV×List Value,Q x.1∧bF W (Bq W) noAdr x.1 x.2∧x.2.length=n∧(∀j v,x.2[j]? =some v→W.cell? (a.add (i * n + j))=some v)∧x.1.bulk≤Rows.uptoBulk (D i):=by
   intro i hil;obtain⟨cs',hc',ht⟩:=hi i om;rw [hr.1] at hc';obtain⟨_,hl,hat⟩:=World.cells?_some hc';have hmem:D i∈List.map D (a₇ len):=b₂.2 ⟨i,b₁.2 hil,rfl⟩;obtain⟨hl2,x,hx1,hx2,hx3⟩:=hr.2 enc W spare held nn cs' (D i) (Pl i) ht (va hw.2.1 hmem);refine⟨(x,cs'),hx1,hx2,hl2,fun j v hv=>?_,hx3⟩;have hj:j < cs'.length:=(b₈.1 hv).1;have:=hat j om;rw [Go.Deep.add_add] at this;rw [this,hv]
  have ex: ∃f:Nat→MV×List Value,∀i,i < len→Q (f i).1∧bF W (Bq W) noAdr (f i).1 (f i).2∧(f i).2.length=n∧(∀j v,(f i).2[j]? =some v→W.cell? (a.add (i * n + j))=some v)∧(f i).1.bulk≤Rows.uptoBulk (D i):=
   ⟨fun i=>Classical.epsilon fun x=>Q x.1∧bF W (Bq W) noAdr x.1 x.2∧x.2.length=n∧(∀j v,x.2[j]? =some v→W.cell? (a.add (i * n + j))=some v)∧x.1.bulk≤Rows.uptoBulk (D i),fun i hil=>Classical.epsilon_spec (key i hil)⟩
  obtain⟨f,hf⟩:=ex;refine⟨rfl, .sl len ((a₇ len).map fun i=>(f i).1),⟨(a₇ len).map fun i=>(f i).1,sm,fun x hx=>?_,by simpa using hlen⟩,?_,?_⟩
  ·obtain⟨i,hi,rfl⟩:=b₂.1 hx;exact(hf i (b₁.1 hi)).1
  case refine_3=>
   have hb:=w5 (fun i=>(f i).1) D (a₇ len) fun i hi=>(hf i (b₁.1 hi)).2.2.2.2
   simp only [MV.bulk,Rows.uptoBulk];omega
  ·obtain⟨b,o,spot⟩:=a;have hparts: ∀p∈(a₇ len).map fun i=>(f i).2,p.length=n:=fun p hp=>by
    obtain⟨i,hi,rfl⟩:=b₂.1 hp;exact(hf i (b₁.1 hi)).2.2.1
   refine .sl _ cap n ((a₇ len).map fun i=>(f i).2) sm sm hparts (fun h=>nomatch h) hle (fun h0=>?_) fun j m p hm hp=>?_
   ·have hspot:spot=none:=by
     obtain⟨_,_,hl,hc',_⟩:=hf 0 om;have hv:(f 0).2[0]? =some ((f 0).2[0]'om):=a₈ om;have hcell:=hc' 0 _ hv;have e0:(⟨b,o,spot⟩:Addr).add (0 * n + 0)=⟨b,o,spot⟩:=by simp [Addr.add]
     rw [e0] at hcell;simpa using World.cell?_spot hcell
    subst hspot;refine⟨b,o,rfl,fun j u hj=>?_⟩;have hjl:=(b₈.1 hj).1;rw [aM hparts] at hjl;simp at hjl;obtain⟨i,k,hk,hji⟩: ∃i k,k < n∧j=i * n + k:=⟨j / n,j % n,Nat.mod_lt _ hpos,by rw [Nat.mul_comm];exact(Nat.div_add_mod j n).symm⟩
    have hil:i < len:=by
     rcases Nat.lt_or_ge i len with h | h
     ·exact h
     ·have:=c₁ n h;omega
    have hget:(f i).2[k]? =some u:=by
     have hl:=(hf i hil).2.2.1;have hp:((a₇ len).map fun i=>(f i).2)[i]? =some (f i).2:=by simp [hil]
     have h2:((a₇ len).map fun i=>(f i).2).flatten[i * n + k]? =(f i).2[k]? :=by
      have hsp:=bJ hp;have hpre:(((a₇ len).map fun i=>(f i).2).take i).flatten.length=i * n:=by
       rw [aM fun p hp=>hparts p (List.mem_of_mem_take hp)];rw [List.length_take,b₅,c₈,Nat.min_eq_left (Nat.le_of_lt hil)]
      rw [hsp,List.append_assoc,List.getElem?_append_right om,hpre,show i * n + k - i * n=k by omega,List.getElem?_append_left om]
     rw [← h2,← hji];exact hj
    have:=(hf i hil).2.2.2.1 k u hget;rw [Addr.add_mid] at this;have hc2:W.cell? ⟨b,o + j,none⟩=some u:=by rw [hji];exact this
    exact⟨hc2,World.block_lt_of_cell? W _ hc2⟩
   ·rw [List.getElem?_map] at hm hp;cases hj:(a₇ len)[j]? with
    | none=>rw [hj] at hm;cases hm
    | some i=>
     rw [hj] at hm hp;injection hm with hm
     injection hp with hp
     subst hm;subst hp;have hi:i < len:=by
      have:=b₁.1 (c₂ hj);exact this
     exact(hf i hi).2.1
theorem mZ {α:Type} {f:α→MV} {R:α→Prop}: ∀(l:List MV),(∀x∈l,∃a,x=f a∧R a)→∃us:List α,l=us.map f∧∀a∈us,R a
 | [],_=>⟨[],rfl,sm⟩
 | x :: l,h=>by
  obtain⟨a,e,hr⟩:=h x sm
  obtain⟨us,e2,has⟩:=mZ l fun y hy=>h y (by simp [hy])
  refine⟨a :: us,by rw [e,e2];rfl,fun b hb=>?_⟩
  rcases c₃.1 hb with rfl | hb
  ·exact hr
  ·exact has b hb
def Br (P:Program):Nat→List Field→List (Nat×(MV→Prop))→Prop
 | _,[],[] =>True
 | o,f :: fs,q :: qs=>f.offset=o∧Opn P f.type q.1 q.2∧Br P (o + q.1) fs qs
 | _,_,_=>False
def GL:List (Nat×(MV→Prop))→Nat
 | [] =>0
 | q :: qs=>q.1 + GL qs
def yK:List (Nat×(MV→Prop))→List MV→Prop
 | [],[] =>True
 | q :: qs,m :: l=>q.2 m∧yK qs l
 | _,_=>False
theorem Br.out {H:Type} (enc:TypeId×Value→H) (W:World) (spare:Nat→Bool) (held:Bool) (fuel:Nat) (cs:List Value): ∀(fs:List Field) (qs:List (Nat×(MV→Prop))) (xs:List (DataW H×List MemPlace)) (o:Nat),Br P o fs qs→xs.length=fs.length→o + GL qs=cs.length→
  (∀(i:Nat) (f:Field),fs[i]? =some f→DataW.trod enc P W 0 spare held fuel f.type ((cs.drop f.offset).take (P.cellsOf f.type))=xs[i]?)→(∀(i:Nat) (f:Field) (x:DataW H×List MemPlace),fs[i]? =some f→xs[i]? =some x→(x.1.weights P f.type).all (· ≤reachBytes)=true)→
  ∃(l:List MV) (parts:List (List Value)),yK qs l∧parts.length=l.length∧cs.drop o=parts.flatten∧MV.bulks l≤Rows.uptoBulkAll (xs.map (·.1))∧∀(j:Nat) m p,l[j]? =some m→parts[j]? =some p→bF W (Bq W) noAdr m p
 | [],[],_,o,_,_,hs,_,_=>⟨[],[],trivial,rfl,by simp only [GL] at hs;rw [List.drop_eq_nil_of_le om];rfl,a₂ _,fun j m p h=>by simp at h⟩
 | f :: fs,q :: qs,x :: xs,o,ho,hl,hs,hx,hw=>by
  obtain⟨h1,h2,h3⟩:=ho
  have ht:=hx 0 f rfl
  rw [h1,h2.1] at ht
  obtain⟨d,p⟩:=x
  obtain⟨hlen,m,hq,hr,hb⟩:=h2.2 enc W spare held fuel _ d p ht (hw 0 f (d,p) rfl rfl)
  obtain⟨l,parts,a1,a2,a3,a5,a4⟩:=Br.out enc W spare held fuel cs fs qs xs (o + q.1) h3 (by simpa using hl) (by simp only [GL] at hs;omega) (fun i f hf=>hx (i + 1) f hf) fun i f x hf hx=>hw (i + 1) f x hf hx
  refine⟨m :: l,(cs.drop o).take q.1 :: parts,⟨hq,a1⟩,by simp [a2],?_,by simp only [c₄,MV.bulks,Rows.uptoBulkAll];omega,fun j m' p' hm hp=>?_⟩
  ·rw [List.flatten_cons,← a3,← List.drop_drop,List.take_append_drop]
  ·cases j with
   | zero=>simp at hm hp;subst hm;subst hp;exact hr
   | succ j=>exact a4 j m' p' (by simpa using hm) (by simpa using hp)
 | [],_ :: _,_,_,h,_,_,_,_=>h.elim
 | _ :: _,[],_,_,h,_,_,_,_=>h.elim
 | _ :: _,_ :: _,[],_,_,h,_,_,_=>by simp at h
theorem Opn.struct {fs:List Field} {qs:List (Nat×(MV→Prop))} (hu:P.underlying t=some (.struct fs.toArray)) (hc:P.cellsOf t=GL qs) (h:Br P 0 fs qs):Opn P t (GL qs) fun m=> ∃l,m= .st l∧yK qs l:=by
 refine⟨hc,fun {H} enc W spare held fuel cs d p h' hw=>?_⟩;obtain⟨xs,n,_,hx,hl,hlen,hf⟩:=DataW.trod_struct hu h';simp only [c₅] at hx;obtain⟨rfl,rfl⟩:=hx;simp only [DataW.weights,hu] at hw;have hw2: ∀(fs:List Field) (xs:List (DataW H×List MemPlace)),(DataW.weightsEach P (fs.map (·.type)) (xs.map (·.1))).all (· ≤reachBytes)=true→∀(i:Nat) (f:Field) (x:DataW H×List MemPlace),fs[i]? =some f→xs[i]? =some x→(x.1.weights P f.type).all (· ≤reachBytes)=true:=by
  intro fs
  induction fs with
  | nil=>intro xs _ i f x hf;simp at hf
  | cons g fs ih=>
   intro xs hw i f x hf hx;cases xs with
   | nil=>simp at hx
   | cons y xs=>
    simp only [c₄,DataW.weightsEach,c₀,b₉] at hw;cases i with
    | zero=>simp at hf hx;subst hf;subst hx;exact hw.1
    | succ i=>exact ih xs hw.2 i f x (by simpa using hf) (by simpa using hx)
 obtain⟨l,parts,a1,a2,a3,a5,a4⟩:=Br.out enc W spare held n cs fs qs xs 0 h (by simpa using hlen) (by rw [hl,hc];omega) (fun i f hi=>hf i f (by simpa using hi)) (hw2 fs xs (by simpa using hw));rw [List.drop_zero] at a3;exact⟨hl.trans hc, .st l,⟨l,rfl,a1⟩,by rw [a3];exact .st parts a2 a4,by simp only [MV.bulk,Rows.uptoBulk];omega⟩
end
end
section
open Go.ChangeShapes Go.WideShapes Go.ChangeAt Go.RowKit
theorem PJ:ownKnob Tryz.prog.godebug=none:=by kernel_rfl
theorem na:laidOutB Tryz.prog=true:=by kernel_rfl
noncomputable abbrev w6:List (String×DataW Unit):=Rows.admitPlaysRow.laid
theorem JX:Rows.laid_unicode_utf8_first=Lib.firstData:=by kernel_rfl
theorem GM:(Rows.laid_unicode_utf8_acceptRanges:DataW Unit)=Lib.acceptData:=by kernel_rfl
theorem vf {W:World} (hL:laidMet Tryz.prog w6 W) (_hs:W.ShapedOpen Tryz.prog):GU.ok W:=
 utf8Tabs_of_readsT (ρ:=Tryz.lays197_ren) ⟨Tryz.underlying5,Tryz.underlying298,Tryz.underlying300,Tryz.underlying301⟩ ⟨by kernel_rfl,by kernel_rfl,by kernel_rfl,by kernel_rfl,by kernel_rfl,by kernel_rfl,by kernel_rfl⟩
  (by rw [← JX];exact Lib.laidMet.reads hL (List.Mem.tail _ (List.Mem.head _)))
  (by rw [← GM];exact Lib.laidMet.reads hL (List.Mem.head _))
noncomputable abbrev rB (os:Os):World:=World.laidAll Tryz.prog os w6
theorem mG {C:Checked} {os:Os} {f:FuncId} {fn:Func} {H:Type} {enc:TypeId×Value→H} {s:OpenSpec} {conds:List PathCond} {apart:Bool} {laid:List (String×DataW Unit)} (w0:World) (hos:w0.os=os) (args:Array Value)
  (hsh:(w0.forCall (fun _ _=>0) ⟨#[],args,[]⟩).Shaped C.prog)
  (hok:Input.okWideB C.prog (w0.forCall (fun _ _=>0) ⟨#[],args,[]⟩) f ⟨#[],args,[]⟩=true)
  (hrow:s.preRow enc C.prog fn conds apart laid (w0.forCall (fun _ _=>0) ⟨#[],args,[]⟩).memory args) :
  ∃(w:World) (tape:Tape) (i:Input),w.os=os∧(w.forCall tape i).Shaped C.prog∧i.vars= [] ∧Input.okWide C.prog (w.forCall tape i) .any w.heap.size f i∧
   s.preRow enc C.prog fn conds apart laid (w.forCall tape i).memory i.args∧({}:Assume).holds C.prog (lone (Frame.enter C.prog f i.args .normal) [] (w.forCall tape i)):=
 ⟨w0,fun _ _=>0,⟨#[],args,[]⟩,hos,hsh,(Input.okWide_of_okWideB (base:=0) hok).1,(Input.okWide_of_okWideB hok).2,hrow,by
  simp only [Assume.holds]
  exact⟨sm,sm,sm,sm,sm⟩⟩
theorem yL (os:Os) (args:Array Value):((rB os).forCall (fun _ _=>0) ⟨#[],args,[]⟩).Shaped Tryz.prog:=World.shaped_of_ZipB (by kernel_rfl) (by kernel_rfl)
theorem vg (os:Os) (args:Array Value):laidMet Tryz.prog w6 ((rB os).forCall (fun _ _=>0) ⟨#[],args,[]⟩).memory:=laidMet_laidAll args (by kernel_rfl) (by kernel_rfl)
theorem gi:Opn Tryz.prog 3 1 fun m=> ∃n,m= .int .i64 n∧(Lit.int .i64 n).wf=true:=Opn.int Tryz.underlying3 (by kernel_rfl)
theorem NV:Opn Tryz.prog 5 1 fun m=> ∃n,m= .int .u8 n∧(Lit.int .u8 n).wf=true:=Opn.int Tryz.underlying5 (by kernel_rfl)
theorem vi:Opn Tryz.prog 26 1 fun m=> ∃l,m= .sl l.length l∧(∀x∈l,∃n,x= .int .i64 n∧(Lit.int .i64 n).wf=true)∧l.length≤140737488355328:=Opn.slice Tryz.underlying26 (by kernel_rfl) (a₄ (by kernel_rfl)) om gi
theorem GN:Opn Tryz.prog 51 1 fun m=> ∃l,m= .sl l.length l∧(∀x∈l,∃n,x= .int .u8 n∧(Lit.int .u8 n).wf=true)∧l.length≤140737488355328:=Opn.slice Tryz.underlying51 (by kernel_rfl) (a₄ (by kernel_rfl)) om NV
theorem qK {m:MV} (h: ∃l,m= .sl l.length l∧(∀x∈l,∃n,x= .int .i64 n∧(Lit.int .i64 n).wf=true)∧l.length≤140737488355328): ∃xs:List Int,m=bM xs∧xs.length≤140737488355328:=by
 obtain⟨l,rfl,h,hl⟩:=h;obtain⟨us,rfl,_⟩:=mZ l h;exact⟨us,by unfold bM;rw [b₅],by simpa using hl⟩
theorem C9 {m:MV} (h: ∃l,m= .sl l.length l∧(∀x∈l,∃n,x= .int .u8 n∧(Lit.int .u8 n).wf=true)∧l.length≤140737488355328): ∃xs:List UInt8,m= .sl xs.length (u8s xs)∧xs.length≤140737488355328:=by
 obtain⟨l,rfl,h,hl⟩:=h;obtain⟨us,hu,_⟩:=mZ (f:=fun b:UInt8=>MV.int .u8 b.toNat) (R:=fun _=>True) l fun x hx=>by
  obtain⟨n,rfl,hw⟩:=h x hx;simp [Lit.wf,IntKind.min,IntKind.max,IntKind.bits,IntKind.signed] at hw;refine⟨UInt8.ofNat n.toNat,?_,trivial⟩;congr 1;rw [UInt8.toNat_ofNat',Nat.mod_eq_of_lt om];omega
 subst hu;exact⟨us,by unfold u8s;rw [b₅],by simpa using hl⟩
end
end Go.Proofs.YthdhlcicpcnbhaaGreatDoor
