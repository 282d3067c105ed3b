/- AdmitRefuses: the row and the card: whatever the arguments, the law answers true and its arguments read as before. Conditions: none but what the row lists (the laid tables). -/
import Derived.Test.YthdhlcicpcnbhaaGreatDoorW12
open List renaming getElem?_eq_getElem → a₀,nil_append → a₄,append_nil → a₅
open And renaming intro → a₁
open Nat renaming zero_le → a₂
open Bool renaming and_eq_true → a₃
set_option maxRecDepth 20000
set_option maxHeartbeats 16000000
set_option linter.unusedVariables false
set_option linter.unusedSimpArgs false
namespace Go.Proofs.YthdhlcicpcnbhaaGreatDoor
open Go.RowKit
section
theorem trsS_code: ∀l:List kM,tP l < 20
 | [] =>by simp [tP]
 | x :: l=>by
  have:=trsS_code l
  unfold tP
  repeat' split
  all_goals omega
theorem dec_code (raw:List UInt8):(aS raw).2 < 20:=by
 have h: ∀t,cU t < 20:=fun t=>by
  have:=trsS_code t.trs;unfold cU
  repeat' split
  all_goals omega
 unfold aS
 repeat' split
 ·simp
 ·simp
 ·exact h _
 ·simp
theorem check_code (a:nR) (raw:List UInt8):(fX a raw).code < 20:=by
 have h:=dec_code raw;unfold fX Ar;split
 ·simp
 split
 ·exact h
 dsimp only;unfold fg
 repeat' split
 all_goals omega
inductive Ref (s:cY) (raw:List UInt8) (peer:Int):cY→Int→Prop
 | size {c:Int} (h:c=20∨c=21):Ref s raw peer s c
 | seen (h:bm raw∈s.cache∨∃e∈s.ents,e.key=bm raw):Ref s raw peer (dQ (cA s (bm raw)) (kY (bm raw) s.ents) peer) 23
 | bad {c:Int} (h0:c≠0∧c≠20∧c≠21∧c≠23∧c≠24) (h1:bm raw ∉ s.cache) (h2: ∀e∈s.ents,e.key≠bm raw):Ref s raw peer (gd (cA s (bm raw)) (bm raw)) c
 | full (h1:bm raw ∉ s.cache) (h2: ∀e∈s.ents,e.key≠bm raw):Ref s raw peer (ga (cA s (bm raw)) (bm raw)) 24
theorem check_ref (s:cY) (raw:List UInt8) (peer:Int):((bP s raw peer).2.code=0∧(bP s raw peer)=(jr (cA s (bm raw)) (bm raw) raw peer (fX s.app raw) (cV (fX s.app raw).prio raw.length s.cfg.maxTxs s.cfg.maxBytes s.ents).1,Nk (bm raw) (fX s.app raw) (cV (fX s.app raw).prio raw.length s.cfg.maxTxs s.cfg.maxBytes s.ents).1)∧
      (cV (fX s.app raw).prio raw.length s.cfg.maxTxs s.cfg.maxBytes s.ents).2=true∧(fX s.app raw).code=0∧bm raw ∉ s.cache∧(∀e∈s.ents,e.key≠bm raw)∧(raw.length:Int)≤s.cfg.maxTx)∨
    ∃c,c≠0∧(bP s raw peer).2=gH c∧Ref s raw peer (bP s raw peer).1 c:=by
  unfold bP gf
  dsimp only
  have hcode:=check_code s.app raw
  generalize hk:bm raw=key at *
  split
  · exact .inr ⟨20,by decide,rfl, .size (.inl rfl)⟩
  split
  · exact .inr ⟨21,by decide,rfl, .size (.inr rfl)⟩
  split
  · rename_i h
    refine .inr ⟨23,by decide,rfl,?_⟩
    have:=Ref.seen (s:=s) (raw:=raw) (peer:=peer) (by
      rw [hk]
      by_cases h1:0≤posK key s.cache 0
      · exact .inl (Classical.byContradiction fun hx=>by have:=(mn key s.cache 0).2 hx;omega)
      · refine .inr (Classical.byContradiction fun hx=>?_)
        have: ¬ 0≤kY key s.ents:=IF.2 fun e he hh=>hx ⟨e,he,hh⟩
        omega)
    rw [hk] at this
    exact this
  rename_i h1 h2 h3
  have n1:bm raw ∉ s.cache:=by rw [hk];exact(mn key s.cache 0).1 om
  have n2: ∀e∈s.ents,e.key≠bm raw:=by rw [hk];exact IF.1 om
  have hbad: ∀c:Int,c≠0∧c≠20∧c≠21∧c≠23∧c≠24→Ref s raw peer (gd (cA s key) key) c:=fun c hc=>by
    have:=Ref.bad (peer:=peer) hc n1 n2
    rw [hk] at this
    exact this
  split
  · have hcode:=check_code (cA s key).app raw
    exact .inr ⟨_,om,rfl,hbad _ om⟩
  split
  · exact .inr ⟨22,by decide,rfl,hbad _ (by decide)⟩
  split
  · have:=Ref.full (peer:=peer) n1 n2
    rw [hk] at this
    exact .inr ⟨24,by decide,rfl,this⟩
  · rename_i h4 h5 h6
    refine .inl ⟨rfl,rfl,?_,?_,by rw [← hk];exact n1,by rw [← hk];exact n2,om⟩
    · show(cV (fX s.app raw).prio raw.length s.cfg.maxTxs s.cfg.maxBytes s.ents).2=true
      cases hq:(cV (fX s.app raw).prio raw.length s.cfg.maxTxs s.cfg.maxBytes s.ents).2 with
      | true=>rfl
      | false=>exact absurd hq h6
    · show(fX s.app raw).code=0
      have: ¬ (fX s.app raw).code≠0:=h4
      omega
theorem drop_out {s:cY} (k:List UInt8) (h:dR s):k ∉ (ga s k).cache:=by
 show k ∉ gu k s.cache
 rw [gg h.cd];intro hk;have:=(List.mem_filter.1 hk).2;simp at this
theorem push_mem {s:cY} {k:List UInt8} (hc:rJ s.cfg) (h:dR s) (hk:k ∉ s.cache):k∈(cA s k).cache↔0 < s.cfg.cache:=by
 show k∈ik k s.cache s.cfg.cache↔_
 rw [qt hk];have hcl:=h.cl;have hcc:=hc.cache;rw [show max 0 (min s.cfg.cache 1024)=s.cfg.cache by rw [Int.min_eq_left hcc.2,Int.max_eq_right hcc.1]];unfold uc;split
 ·rename_i h5;constructor
  ·intro hm;have:((s.cache ++ [k]).drop 1).length≠0:=fun e=>by rw [List.eq_nil_of_length_eq_zero e] at hm;cases hm
   rw [List.length_drop,List.length_append,List.length_singleton] at this;omega
  ·intro hp;have:s.cache≠ [] :=fun e=>by rw [e,List.length_nil] at h5;omega
   obtain⟨a,l,e⟩:=List.exists_cons_of_ne_nil this;rw [e];simp
 ·exact⟨fun _=>by omega,fun _=>by simp⟩
theorem seen_ents (s:cY) (i p:Int): ∃l,dQ s i p={ s with ents:=l }∧l.length=s.ents.length∧∀(j:Nat) (a b:Ent),l[j]? =some a→s.ents[j]? =some b→{ a with peers:=b.peers }=b:=by
 have same: ∃l,s={ s with ents:=l }∧l.length=s.ents.length∧∀(j:Nat) (a b:Ent),l[j]? =some a→s.ents[j]? =some b→{ a with peers:=b.peers }=b:=
  ⟨s.ents,rfl,rfl,fun j a b ha hb=>by rw [ha] at hb;injection hb with hb;subst hb;rfl⟩
 unfold dQ;split
 ·split
  ·rename_i e he;split
   ·exact same
   ·refine⟨_,rfl,List.length_set ..,fun j a b ha hb=>?_⟩;rcases bK ha with ⟨rfl,rfl⟩ | ⟨_,ha⟩
    ·rw [he] at hb;injection hb with hb;subst hb;rfl
    ·rw [ha] at hb;injection hb with hb;subst hb;rfl
  ·exact same
 ·exact same
theorem ref_same {s n:cY} {raw:List UInt8} {peer c:Int} (h:Ref s raw peer n c): ∃l m,n={ s with ents:=l,cache:=m }∧l.length=s.ents.length∧∀(j:Nat) (a b:Ent),l[j]? =some a→s.ents[j]? =some b→{ a with peers:=b.peers }=b:=by
 have same: ∀(j:Nat) (a b:Ent),s.ents[j]? =some a→s.ents[j]? =some b→{ a with peers:=b.peers }=b:=fun j a b ha hb=>by rw [ha] at hb;injection hb with hb;subst hb;rfl
 cases h with
 | size=>exact ⟨s.ents,s.cache,rfl,rfl,same⟩
 | seen=>
  obtain⟨l,h1,h2,h3⟩:=seen_ents (cA s (bm raw)) (kY (bm raw) s.ents) peer;exact⟨l,(cA s (bm raw)).cache,h1,h2,h3⟩
 | bad=>
  unfold gd;split
  ·exact⟨s.ents,_,rfl,rfl,same⟩
  ·exact⟨s.ents,_,rfl,rfl,same⟩
 | full=>exact ⟨s.ents,_,rfl,rfl,same⟩
theorem ref_kept {s n:cY} {raw:List UInt8} {peer c:Int} (hc:rJ s.cfg) (h:dR s) (hr:Ref s raw peer n c) :
  ((c=20∨c=21)→n.cache=s.cache)∧(c=24→bm raw ∉ n.cache)∧(c=23→bm raw∈s.cache∨∃e∈s.ents,e.key=bm raw)∧
  (c≠20→c≠21→c≠23→c≠24→(bm raw∈n.cache↔s.cfg.keep=true∧0 < s.cfg.cache)):=by
 cases hr with
 | size h=>exact ⟨fun _=>rfl,fun h=>by omega,fun h=>by omega,fun h1 h2=>by omega⟩
 | seen h=>exact ⟨fun h=>by omega,fun h=>by omega,fun _=>h,fun _ _ h=>absurd rfl h⟩
 | bad h0 h1 h2=>
  refine⟨fun h=>by omega,fun h=>by omega,fun h=>by omega,fun _ _ _ _=>?_⟩
  unfold gd
  split
  ·rename_i hk
   have hk:s.cfg.keep=true:=hk
   rw [push_mem hc h h1,hk]
   simp
  ·rename_i hk
   have hk: ¬ s.cfg.keep=true:=hk
   exact⟨fun hm=>absurd hm (drop_out _ (ur _ hc h)),fun hm=>absurd hm.1 hk⟩
 | full h1 h2=>exact ⟨fun h=>by omega,fun _=>drop_out _ (ur _ hc h),fun h=>by omega,fun _ _ _ h=>absurd rfl h⟩
end
section
attribute [local irreducible] aj aC aG aL aO vC aU au
theorem semR_of_semX {Pg:Program} {G:GS} {f:FuncId} {args:List MV} {P:MV→Prop} {R:MV} (h:yd Pg G f args P) (hP: ∀r,P r→r=R):aH Pg G f args [] 0 R [] 0:=by
 intro w Pt adr vals a1 a2 a3 a4 a5;refine Calls.mono (h w Pt adr vals a1 a2 a3 a4 a5) ?_;rintro e w' ⟨v,h1,res,M1,n1,⟨⟨h2,_⟩,rfl,rfl⟩,h3⟩;rw [hP res h2] at h3;exact⟨v,h1,h3⟩
structure BothC (s s2:cY) (rc:Int) (rk:List UInt8) (rp:Int) (rl:List (List UInt8)) (tx:List UInt8) (peer:Int):Prop where
 p:aH Tryz.prog GU 21 [cO s, .sl tx.length (u8s tx), .int .i64 peer] [] 0 (.tup [cO s2,nY (w4 rc rk rp rl)]) [] 0
 r:aH Tryz.prog GU 22 [cO s, .sl tx.length (u8s tx), .int .i64 peer] [] 0 (.tup [cO s2,nY (w4 rc rk rp rl)]) [] 0
 sr:aD Tryz.prog GU 23 [nY (w4 rc rk rp rl),nY (w4 rc rk rp rl)] (.bool true)
 ss:aD Tryz.prog GU 18 [cO s2,cO s2] (.bool true)
theorem both_c {s:cY} (h:JT s) (tx:List UInt8) (peer:Int) (ht:tx.length≤1000000): ∃s2 rc rk rp rl,BothC s s2 rc rk rp rl tx peer:=by
 obtain⟨hs,hi⟩:=h;have c1:=pJ (FX:=vj) s tx peer ht hs om hi;have c2:=um (G:=GU) (FX:=vj) s tx peer ht hs om;obtain⟨rc,rk,rp,rl,hrl,hrq⟩:=nW (FX:=vj) tx peer hs;have hs':=nX (FX:=vj) tx peer hs om;generalize bP s tx peer=C at *;obtain⟨s2,rq⟩:=C;dsimp only at c1 hrq hs';subst hrq;refine⟨s2,rc,rk,rp,rl,c1,semR_of_semX c2 ?_,mF rc rk rp rl om,eR s2 hs'.app (by have:=hs'.ents;omega) (fun e he=>by have:=(hs'.entk e he).peers;omega) (by have:=hs'.cache;omega)⟩;rintro _ ⟨s',rp',rfl,_,hq⟩;injection hq with hq1 hq2
 rw [hq1,hq2]
theorem admitChecks_core (k:List Int) (hk:k.length≤140737488355328) (raw:List UInt8) (hr:raw.length≤140737488355328) (peer:Int):aD Tryz.prog GU 5 [bM k, .sl raw.length (u8s raw), .int .i64 peer] (.bool true):=by
 have cl:=yJ k hk;by_cases h1:160 < k.length
 ·rw [decide_eq_true h1] at cl;unfold bM at *;refine aZ seat Tryz.func5 93 ?_;refine ae ?_;refine bV rfl (fun _ h=>h) rfl (aa (cl)) rfl [(2,1)] mm lm ?_;refine ae ?_;refine cC (known_m) ?_;refine av ?_;rfl
 rw [decide_eq_false h1] at cl;by_cases h2:400 < raw.length
 ·unfold bM at *;refine aZ seat Tryz.func5 93 ?_;refine ae ?_;refine bV rfl (fun _ h=>h) rfl (aa (cl)) rfl [(2,1)] mm lm ?_;refine ae ?_;refine ad rfl ?_ ?_ <;> intro h
  ·have _h:=h;refine ae ?_;refine cC (known_m) ?_;refine av ?_;rfl
  ·exact absurd (oF h) om
 have cm:=C6 k;unfold bM at *;refine aZ seat Tryz.func5 93 ?_;refine ae ?_;refine bV rfl (fun _ h=>h) rfl (aa (cl)) rfl [(2,1)] mm lm ?_;refine ae ?_;refine ad rfl ?_ ?_ <;> intro h
 ·exact absurd (ot h) om
 refine ae ?_;refine lO rfl (fun _ h=>h) rfl (cm) [] [] ⟨rfl,trivial,rfl,lm,mm⟩ rfl ?_;rintro _ _ _ ⟨N,s,hN,rfl,rfl,rfl,hs⟩;refine⟨rfl,?_⟩;have cr:=Iy (G:=GU) k N s.app.chk s.cfg.price om hs.1.app.2.1 hs.1.cfg.price;have kr:=yg (L:=k) (N:=N) (price:=s.cfg.price) hs.1.app.2.1.2.2;generalize vH k N s.app.chk.acs s.cfg.price=rw' at *;obtain⟨b,N2⟩:=rw';dsimp only at cr kr;have hB:=fun tx p ht=>both_c hs tx p ht
 refine ae ?_;refine yc (cr) [(0,9)] ?_;refine ae ?_;refine aY rfl rfl (by intro R hR;refine dM hR ?_;refine a₁ ((cG b)) ?_;refine a₁ ⟨rfl,aE (by kernel_rfl) pf⟩ ?_;refine⟨u8s b,sv (by show [] ++ u8s b=_;rw [a₄]),b.length,sv pf,?_⟩;exact hR) rfl ?_;refine ae ?_;obtain⟨W,hW⟩: ∃W,W=b ++ raw:=⟨_,rfl⟩
 have hWl:W.length=b.length + raw.length:=by rw [hW];simp
 refine aY rfl rfl (by intro R hR;refine dM hR ?_;refine a₁ ((cG raw)) ?_;refine a₁ ⟨(by simp [u8s]),aE (by kernel_rfl) pf⟩ ?_;refine⟨u8s W,sv (by rw [hW];simp [u8s]),W.length,sv pf,?_⟩;exact hR) rfl ?_;refine qc ([(52, .sl W.length (u8s W)),(46, .sl raw.length (u8s raw)),(47, .sl b.length (u8s b)),(2, .int .i64 peer),(7, .ptr 15 25 0 0 []),(8, .ptr 16 25 0 0 [])]) ([(15,⟨42,25,false,0,[cO s]⟩),(16,⟨42,25,false,0,[cO s]⟩)]) [(38,W.length)] mm rfl mm mm ?_;have hbl:=kr.1;clear hW cr cm cl kr;refine ae ?_;refine ar Nat (fun j=> [(55, .int .i64 j),(54, .int .i64 ([raw,b,W].length:Nat)),(53, .sl [raw,b,W].length ([raw,b,W].map qj)),(2, .int .i64 peer),(7, .ptr 0 25 0 0 []),(8, .ptr 1 25 0 0 [])]) (fun _=> [(0,⟨42,25,false,0,[cO s]⟩),(1,⟨42,25,false,0,[cO s]⟩)]) 2 (fun j=>j≤ [raw,b,W].length) (fun j=> [raw,b,W].length - j) 0 (a₂ _) (vm [(0,_),(1,_)] [(39,3)]) ?_;have hLb: ∀x∈ [raw,b,W],x.length≤1000000:=by
  intro x hx;rcases List.mem_cons.1 hx with rfl | hx
  ·omega
  rcases List.mem_cons.1 hx with rfl | hx
  ·omega
  ·rw [List.mem_singleton.1 hx];omega
 have hLl: [raw,b,W].length=3:=rfl;generalize [raw,b,W] =L at *;intro j hj;try dsimp only
 refine ae ?_;refine ad rfl ?_ ?_ <;> intro h
 ·have hj':j < L.length:=by have:=ot h;omega
  have hel:=al.mk (rV hj');have hB:=fun p=>hB L[j] p (hLb _ (List.getElem_mem hj'))
  generalize L[j] =tx at *;unfold qj at hel;refine ae ?_;refine ar Nat (fun i=> [(62, .int .i64 i),(61, .int .i64 ([peer,1,15,16].length:Nat)),(60, .sl [peer,1,15,16].length ([peer,1,15,16].map (MV.int .i64))),(13, .sl tx.length (u8s tx)),(55, .int .i64 j),(54, .int .i64 (L.length:Nat)),(53, .sl L.length (L.map qj)),(2, .int .i64 peer),(7, .ptr 0 25 0 0 []),(8, .ptr 1 25 0 0 [])]) (fun _=> [(0,⟨42,25,false,0,[cO s]⟩),(1,⟨42,25,false,0,[cO s]⟩)]) 2 (fun i=>i≤ [peer,1,15,16].length) (fun i=> [peer,1,15,16].length - i) 0 (a₂ _) (vm [(0,_),(1,_)] [(7,4)]) ?_;have hQl: [peer,1,15,16].length=4:=rfl;generalize [peer,1,15,16] =Q at *;intro i hi;try dsimp only
  refine ae ?_;refine ad rfl ?_ ?_ <;> intro h
  ·have hi':i < Q.length:=by have:=ot h;omega
   have hel2:=al.mk (jR hi');obtain⟨s2,rc,rk,rp,rl,c1,c2,c3,c4⟩:=hB Q[i];generalize Q[i] =pe at *;refine ae ?_;refine jS (c1) ?_;refine jS (c2) ?_;refine cC (c3) ?_;refine cC (c4) ?_;exact⟨i + 1,dm,dm,(by dsimp only;exact(vm [(0,_),(1,_)] []))⟩
  ·have _h:=h;refine ae ?_;exact⟨j + 1,dm,dm,(by dsimp only;exact(vm [(0,_),(1,_)] []))⟩
 ·have _h:=h;refine ae ?_;refine cC (known_m) ?_;refine av ?_;rfl
end
section
attribute [local irreducible] aj aC aG aL aO vC aU au
theorem step_c {B:Nat} {s:cY} (hs:ug vj B s) (hB:B≤1000) (hi:dR s) (tx:List UInt8) (peer:Int) (ht:tx.length≤1000000) :
  aH Tryz.prog GU 21 [cO s, .sl tx.length (u8s tx), .int .i64 peer] [] 0 (.tup [cO (bP s tx peer).1,nY (bP s tx peer).2]) [] 0∧ug vj (B + 1) (bP s tx peer).1∧dR (bP s tx peer).1:=
 ⟨pJ (FX:=vj) s tx peer ht hs om hi,nX (FX:=vj) tx peer hs om,rm (raw:=tx) (peer:=peer) hs.cfg hi⟩
end
section
attribute [local irreducible] aj aC aG aL aO vC aU au
theorem admitRefuses_core (k:List Int) (hk:k.length≤140737488355328):aD Tryz.prog GU 6 [bM k] (.bool true):=by
 have cl:=yJ k hk;by_cases h1:160 < k.length
 ·rw [decide_eq_true h1] at cl;unfold bM at *;refine aZ seat Tryz.func6 148 ?_;refine ae ?_;refine bV rfl (fun _ h=>h) rfl (aa (cl)) rfl [(2,1)] mm lm ?_;refine ae ?_;refine cC (known_m) ?_;refine av ?_;rfl
 rw [decide_eq_false h1] at cl;have cm:=C6 k;unfold bM at *;refine aZ seat Tryz.func6 148 ?_;refine ae ?_;refine bV rfl (fun _ h=>h) rfl (aa (cl)) rfl [(2,1)] mm lm ?_;refine ae ?_;refine lO rfl (fun _ h=>h) rfl (cm) [] [] ⟨rfl,trivial,rfl,lm,mm⟩ rfl ?_;rintro _ _ _ ⟨N,s,hN,rfl,rfl,rfl,hs,hi⟩;refine⟨rfl,?_⟩;have cr:=Iy (G:=GU) k N s.app.chk s.cfg.price om hs.app.2.1 hs.cfg.price;have kr:=yg (L:=k) (N:=N) (price:=s.cfg.price) hs.app.2.1.2.2;generalize vH k N s.app.chk.acs s.cfg.price=rw' at *;obtain⟨b,N2⟩:=rw';dsimp only at cr kr;obtain⟨x3,hx3,cx3⟩:=bk (G:=GU) k N2 3 om om om;have hbl:=kr.1;obtain⟨c1,hs1,hi1⟩:=step_c hs om hi b (1 + (x3:Int)) om;have hrf:=check_ref s b (1 + (x3:Int));have hrp:=nW (FX:=vj) b (1 + (x3:Int)) hs;generalize bP s b (1 + (x3:Int))=C at *;obtain⟨n,rq⟩:=C;dsimp only at c1 hs1 hi1 hrf hrp;clear cl cm kr;refine ae ?_;refine yc (cr) [(0,4)] ?_;refine ae ?_;refine aw [ag 0,ag 1,ag 2,de 3,ag 4,de 5,ag 6,ag 7,ag 8,ag 9,ag 10,ag 11,ag 12] ?_;refine ae ?_;refine bG rfl (fun _ h=>h) rfl [4] (cx3) [(0,4)] [] ⟨rfl,trivial,rfl,lm,mm⟩ rfl rfl rfl rfl rfl ?_;refine ae ?_;refine jT (c1) ?_;refine ad rfl ?_ ?_ <;> intro h
 ·have _h:=h;refine ae ?_;refine cC (known_m) ?_;refine av ?_;rfl
 have hcn:rq.code≠0:=by simpa using h
 obtain⟨c,hc0,rfl,hrr⟩: ∃c,c≠0∧rq=gH c∧Ref s b (1 + (x3:Int)) n c:=by
  rcases hrf with ⟨h0,_⟩ | h
  ·exact absurd h0 hcn
  ·exact h
 have hkp:=ref_kept hs.cfg hi hrr;obtain⟨l,m,rfl,hl,hpp⟩:=ref_same hrr;clear hrr hrf hcn h hrp c1 cx3 cr;have hsl:=hs.ents;have c5:=eR (G:=GU) s hs.app om (fun e he=>by have:=(hs.entk e he).peers;omega) (by have:=hs.cache;omega);have c6:=mF (G:=GU) c (List.replicate 32 0) 0 [] (by decide);have c7:=Oj (G:=GU) b om;have c8:=OA (G:=GU) m (bm b) (by have:=hs1.cache;dsimp only at this;omega) (jV b) hs1.ck;have c9:=OA (G:=GU) s.cache (bm b) (by have:=hs.cache;omega) (jV b) hs.ck;have c10:=OD (G:=GU) s.ents (bm b) om (jV b) (fun e he=>(hs.entk e he).key);have hml:m.length≤1024:=hs1.cache;clear hi hi1 hs1;generalize bm b=key at *;refine ae ?_;refine aY rfl rfl (by intro R hR;refine dM hR ?_;refine a₁ ((fO _)) ?_;refine a₁ ⟨rfl,aE (by kernel_rfl) pf⟩ ?_;refine⟨l.map aA,sv (by show [] ++ l.map aA=_;rw [a₄]),l.length,sv pf,?_⟩;exact hR) rfl ?_;refine ae ?_;rw [hl];have hW: ∀j (h1:j < s.ents.length) (h2:j < l.length),(s.ents.take (j + 1) ++ l.drop (j + 1))=(s.ents.take j ++ l.drop j).set j s.ents[j] ∧(s.ents.take j ++ l.drop j)[j]? =some l[j] :=by
  intro j h1 h2;have ht:(s.ents.take j).length=j:=by rw [List.length_take];omega
  constructor
  ·rw [List.set_append,if_neg om,ht,Nat.sub_self,List.drop_eq_getElem_cons h2,List.set_cons_zero,List.take_succ_eq_append_getElem h1,List.append_assoc];rfl
  ·rw [List.getElem?_append_right om,ht,Nat.sub_self,List.getElem?_drop,Nat.add_zero,a₀ h2]
 obtain⟨W,hWd⟩: ∃W:Nat→List Ent,∀j,W j=s.ents.take j ++ l.drop j:=⟨_,fun _=>rfl⟩
 have hW0:W 0=l:=by rw [hWd];rfl
 have hWe:W s.ents.length=s.ents:=by rw [hWd,List.take_length,List.drop_of_length_le om,a₅]
 simp only [← hWd] at hW;clear hWd;have hl0:(W 0).map aA=l.map aA:=by rw [hW0]
 rw [← hl0];refine ar Nat (fun j=> [(60, .int .i64 j),(59, .int .i64 s.ents.length),(10, .ptr 2 25 0 0 []),(3, .ptr 0 25 0 0 []),(8, .ptr 1 25 0 0 []),(9, .ptr 3 73 0 0 []),(7, .sl b.length (u8s b))]) (fun j=> [(0,⟨42,25,false,0,[cO s]⟩),(1,⟨42,25,false,0,[cO { s with ents:=l,cache:=m }]⟩),(2,⟨42,25,false,0,[stE s 4]⟩),(3,⟨57,73,false,0,[nY (gH c)]⟩),(4,⟨64,41,true,0,(W j).map aA⟩)]) 5 (fun j=>j≤s.ents.length) (fun j=>s.ents.length - j) 0 (a₂ _) (vm [(0,_),(1,_),(2,_),(3,_),(4,_)] []) ?_;intro j hj;try dsimp only
 refine ae ?_;refine ad rfl ?_ ?_ <;> intro h
 ·have hj':j < s.ents.length:=by have:=ot h;omega
  obtain⟨hw1,hw2⟩:=hW j hj' om;have hpj:=hpp j l[j] s.ents[j] (a₀ om) (a₀ hj');have hel:=al.mk (eF hj');generalize l[j] =a at *;generalize s.ents[j] =e at *;generalize W j=V at *;have hg:=al.mk (show bH (V.map aA) (0 + j)=some (aA a) by rw [bD,Nat.zero_add,List.getElem?_map,hw2];rfl);have hst:=show setL (V.map aA) j (aA e)=(V.set j e).map aA by rw [setL_eq,List.map_set]
  rw [← hw1] at hst;obtain⟨e1,e2,e3,e4,e5,e6,e7,e8,e9,e10⟩:=e;obtain⟨a1,a2,a3,a4,a5,a6,a7,a8,a9,a10⟩:=a;simp only [Ent.mk.injEq,and_true] at hpj;obtain⟨rfl,rfl,rfl,rfl,rfl,rfl,rfl,rfl,rfl⟩:=hpj;replace hst:setL (V.map aA) j (.st (setL [keyM a1, .sl a2.length (u8s a2), .str a3, .int .u64 a4, .int .u64 a5, .int .u64 a6, .int .i64 a7, .int .i64 a8, .int .i64 a9,bM a10] 9 (bM e10)))=(W (j + 1)).map aA:=hst;unfold aA at hel hg;dsimp only at hel hg;refine ae ?_;refine ad rfl ?_ ?_ <;> intro h
  rotate_left
  ·exact absurd (oF h) om
  refine ae ?_;refine aw [ag 0,ag 1,ag 2,ag 3,ag 4,ag 5,ag 6,ag 7,ag 8,ag 9,ag 10,ag 11] ?_;refine ae ?_;refine⟨j + 1,dm,dm,?_⟩;dsimp only;rw [← hst];exact(vm [(0,_),(1,_),(2,_),(3,_),(4,_)] [])
 ·have hj9:j=s.ents.length:=by have:=oF h;omega
  subst hj9;rw [hWe];clear hW hpp;refine ae ?_;refine bV rfl (fun _ h=>h) rfl (aa (c5)) rfl [(4,s.ents.length)] mm lm ?_;refine ae ?_;refine cC (c6) ?_;refine cC (c7) ?_;refine yv (c8) ?_;obtain⟨k1,k2,k3,k4⟩:=hkp;dsimp only at k1 k2 k3 k4;rw [uH] at c9;have hmem:=uH key m;clear c5 c6 c7 c8;by_cases h20:c=20∨c=21
  ·have hmc:=k1 h20;subst hmc;have d1:=jh (G:=GU) s.cache om;rcases h20 with rfl | rfl
   ·have _h:=h;refine ae ?_;refine cC (d1) ?_;refine cC (known_m) ?_;refine av ?_;rfl
   ·have _h:=h;refine ae ?_;refine cC (d1) ?_;refine cC (known_m) ?_;refine av ?_;rfl
  by_cases h24:c=24
  ·rw [decide_eq_false (k2 h24)] at hmem;rw [hmem];subst h24;refine ae ?_;refine cC (known_m) ?_;refine av ?_;rfl
  by_cases h23:c=23
  ·by_cases hm:key∈s.cache
   ·rw [decide_eq_true hm] at c9;subst h23;refine ae ?_;refine cC (c9) ?_;refine cC (known_m) ?_;refine av ?_;rfl
   ·rw [decide_eq_false hm] at c9;obtain⟨e,he,hek⟩:=(k3 h23).resolve_left hm;have hat:0≤kY key s.ents:=by
     rw [← Int.not_lt];intro h2;exact(mn key _ 0).1 h2 (List.mem_map.2 ⟨e,he,hek⟩)
    generalize kY key s.ents=i at *;subst h23;refine ae ?_;refine cC (c9) ?_;refine cC (c10) ?_;refine ah rfl rfl ?_ rfl ?_ <;> intro h
    rotate_left
    ·exact absurd (oF h) om
    refine ae ?_;refine cC (known_m) ?_;refine av ?_;rfl
  ·have k4:=k4 om om h23 h24;clear k1 k2 k3 c9 c10;refine ae ?_;refine ad rfl ?_ ?_ <;> intro h
   ·simp [gH] at h;omega
   refine ae ?_;refine ad rfl ?_ ?_ <;> intro h
   ·simp [gH] at h;omega
   refine ae ?_;refine ad rfl ?_ ?_ <;> intro h
   ·simp [gH] at h;omega
   refine ae ?_;refine ad rfl ?_ ?_ <;> intro h
   ·simp [gH] at h;omega
   refine ae ?_;refine ah rfl rfl ?_ rfl ?_ <;> intro h
   ·have hkt:s.cfg.keep=true:=by simpa using h
    have hq:decide (key∈m)=decide (0 < s.cfg.cache):=decide_eq_decide.2 (by rw [k4,hkt];simp);rw [hmem,hq];refine ae ?_;refine ah rfl rfl ?_ rfl ?_ <;> intro h
    rotate_left
    ·exact absurd h sm
    refine ae ?_;refine cC (known_m) ?_;refine av ?_;rfl
   ·have hkt:s.cfg.keep=false:=by simpa using h
    have hq:decide (key∈m)=false:=decide_eq_false (by rw [k4,hkt];simp);rw [hmem,hq];refine ae ?_;refine cC (known_m) ?_;refine av ?_;rfl
end
end Go.Proofs.YthdhlcicpcnbhaaGreatDoor
namespace Go.Proofs.YthdhlcicpcnbhaaGreatDoor.admitRefuses
open Go.Proofs.YthdhlcicpcnbhaaGreatDoor
theorem r1:(Rows.admitRefusesRow.inPlace == Tryz.prog.inPlace 6)=true:=by kernel_rfl
theorem r2:(Rows.admitRefusesRow.unfollowed == Tryz.prog.unfollowed 6)=true:=by kernel_rfl
theorem r3:(Rows.admitRefusesRow.recurses == Tryz.prog.recurses 6)=true:=by kernel_rfl
theorem r4:(Rows.admitRefusesRow.named == Tryz.prog.varsNamed 6)=true:=by kernel_rfl
set_option maxRecDepth 100000 in
theorem closed:joinedFacts Tryz.prog 6 Tryz.f6 (OpenSpec.ofChange Rows.admitRefusesSpec).bare Rows.admitRefusesRow=true:=by
 simp only [joinedFacts,a₃]
 and_intros
 all_goals first
  | (with_reducible exact r1)
  | (with_reducible exact r2)
  | (with_reducible exact r3)
  | (with_reducible exact r4)
  | kernel_rfl
end Go.Proofs.YthdhlcicpcnbhaaGreatDoor.admitRefuses
namespace Go.Proofs.YthdhlcicpcnbhaaGreatDoor.admitRefuses
open Go.ChangeShapes Go.WideShapes Go.ChangeAt Go.RowKit Go.Proofs.YthdhlcicpcnbhaaGreatDoor
set_option maxRecDepth 100000 in
theorem contract (H:Type) (enc:TypeId×Value→H) (W:World) (base:Nat) (args:Array Value) (ds gs:List (DataW H)) (before:List MemPlace)
  (hval: ∀(j:Nat) t v,Tryz.f6.params[j]? =some t→args[j]? =some v→Value.okWide Tryz.prog W .any base t v)
  (hW:DataW.Whole enc Tryz.prog Tryz.f6.params.toList Rows.admitRefusesSpec.vars false W args.toList ds gs before)
  (hw:(DataW.weightsEach Tryz.prog (Tryz.f6.params.toList ++ (OpenSpec.ofChange Rows.admitRefusesSpec).bare.plain.varTypes Tryz.prog) (ds ++ gs)).all (· ≤reachBytes)=true)
  (hL:laidMetH Tryz.prog Rows.admitRefusesRow.laid W) (hopen:W.ShapedOpen Tryz.prog) :
  Calls Tryz.prog 6 args W fun e W'=> ∃v,e= .returned v∧Rows.admitRefusesSpec.post enc Tryz.prog Tryz.f6 false true false false W args v W':=by
 have hW':=hW
 obtain⟨p,q,hA0,hV,rfl,hfz,hnd⟩:=hW
 have hA:DataW.TrodAll enc Tryz.prog W 0 (fun _=>true) true Tryz.f6.params.toList args.toList ds p:=hA0
 rw [Tryz.params6] at hA hval hw
 obtain⟨v0,vs0,d0,ds0,p0,q0,hargs,rfl,rfl,h0,r0⟩:=trodAll_cons hA
 obtain⟨rfl,rfl,rfl⟩:=trodAll_nil r0
 obtain rfl:args= #[v0] :=by cases args;simp_all
 obtain⟨rfl,rfl⟩:=trodVars_none hV
 have k0:=h0
 have lt0: ∀x∈p0,x.block < W.heap.size:=by obtain⟨m,hm⟩:=k0;exact DataW.trod_lt m _ _ _ hm
 simp only [a₅] at hW'
 have hw:(d0.weights Tryz.prog 26 ++ (DataW.weightsEach Tryz.prog ((OpenSpec.ofChange Rows.admitRefusesSpec).bare.plain.varTypes Tryz.prog) [])).all (· ≤reachBytes)=true:=hw
 simp only [List.all_append,a₃] at hw
 obtain⟨hw0,_⟩:=hw
 obtain⟨A0,n0,cap0,rfl⟩:=okWide_slice Tryz.underlying26 (hval 0 26 v0 rfl rfl)
 obtain⟨fuel0,hf0⟩:=h0
 obtain⟨_,m0,hm0,hr0,hb0⟩:=vi.2 enc W _ true fuel0 _ d0 p0 hf0 hw0
 obtain⟨x0,rfl,hx0⟩:=qK hm0
 refine(admitRefuses_core x0 hx0 W (Bq W) [_] (vf (show laidMet Tryz.prog w6 W from hL) hopen) (fun b o h=>h) (.cons (.val [_] hr0) .nil)).mono fun e W' ⟨v,he,hv,bel⟩=>?_
 subst he
 obtain rfl:=hv.bool_
 exact⟨_,rfl,_,_,_,[],_,[],hW',trodAll_mk1 (shut_bool Tryz.underlying4 _),(trodAll_cons_mk (Below.trod na (by kernel_rfl) (ot (by kernel_rfl)) k0 bel lt0) trodAll_mk0),rfl,bel.frame _,fun h=>by cases h⟩
theorem reads (os:Os) {H:Type} (enc:TypeId×Value→H): ∃places,DataW.whole enc Tryz.prog ((rB os).forCall (fun _ _=>0) ⟨#[], #[.slice none 0 0],[]⟩).memory Tryz.f6.params.toList Rows.admitRefusesSpec.vars false #[Value.slice none 0 0].toList 8=some ([.nil],[],places):=
 ⟨[],by kernel_rfl⟩
set_option maxRecDepth 100000 in
theorem lifted (os:Os) (started:os.Started) (H:Type) (enc:TypeId×Value→H) (F:Stop.Interp) :
  ReturnsInHanded {} Tryz.checked os 6 .any ((OpenSpec.ofChange Rows.admitRefusesSpec).preRow enc Tryz.prog Tryz.f6 Rows.admitRefusesRow.domain false Rows.admitRefusesRow.laid) (((OpenSpec.ofChange Rows.admitRefusesSpec).at F).post enc Tryz.prog Tryz.f6 false true false false):=by
 obtain⟨places,hx⟩:=reads os enc
 refine returnsInHanded_of_row (C:=Tryz.checked) (s:=OpenSpec.ofChange Rows.admitRefusesSpec) PJ started (by kernel_rfl) Tryz.func6
  (mG (enc:=enc) (C:=Tryz.checked) (rB os) (World.laidAll_os _ _ _) #[.slice none 0 0] (yL os _) (by kernel_rfl)
   (OpenSpec.preRow_of_cond 8 hx (by kernel_rfl) (fun k hk=>by cases hk) (by kernel_rfl) (vg os _))) ?_
 intro W base args ds gs before hval hW _ _ hw hL hopen _
 exact contract H enc W base args ds gs before hval hW hw hL hopen
theorem said:Rows.AdmitRefusesSaid:=
 OpenClaim.holds_of_cond 6 Tryz.f6 rfl rfl rfl rfl rfl rfl rfl ⟨rfl,rfl,rfl,rfl,rfl⟩ rfl rfl rfl rfl rfl (by kernel_rfl) Tryz.func6 closed
  (ot (by kernel_rfl)) (by unfold Func.isWrapper;first | (rw [if_pos (by decide +kernel)];kernel_rfl) | (rw [if_neg (by decide +kernel)];exact⟨rfl,rfl⟩))
  (fun os started H enc _ F=>by rw [OpenClaim.pre_eq_preRow];exact lifted os started H enc F)
theorem plain (f:FuncId) (fn:Func) (hf:Tryz.pinned.checked.prog.funcNamed "mempool/mempoollaw22.AdmitRefuses" =some f) (hfn:Tryz.pinned.checked.prog.funcs[f]? =some fn) :
  true=Tryz.pinned.checked.prog.looks [] ∧∀(j:Nat) t,fn.params[j]? =some t→Tryz.pinned.checked.prog.wantsStandIn t=false:=by
 obtain rfl:f=6:=Option.some.inj ((show Tryz.prog.funcNamed "mempool/mempoollaw22.AdmitRefuses" =some 6 by kernel_rfl).symm.trans hf) |>.symm
 obtain rfl:fn=Tryz.f6:=(Option.some.inj (Tryz.func6.symm.trans hfn)).symm
 refine⟨by kernel_rfl,fun j t ht=>?_⟩
 have key:(Tryz.f6.params.all fun t=>Tryz.prog.wantsStandIn t == false)=true:=by kernel_rfl
 have:=Array.all_eq_true_iff_forall_mem.1 key t (Array.mem_of_getElem? ht)
 show Tryz.prog.wantsStandIn t=false
 simpa using this
theorem card:Rows.AdmitRefusesCardSaid:=
 Claim7.holds_tied_plain_at .later [] _ _ _ _ said (fun _ h=>by cases h) (by kernel_rfl) (fun _ h=>by cases h) admitRefuses_row_tie rfl ⟨rfl,rfl⟩ (by kernel_rfl) rfl plain (by kernel_rfl)
end Go.Proofs.YthdhlcicpcnbhaaGreatDoor.admitRefuses
