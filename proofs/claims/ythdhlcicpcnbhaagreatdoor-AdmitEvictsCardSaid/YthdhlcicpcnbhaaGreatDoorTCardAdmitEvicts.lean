/- AdmitEvicts: the row and the card: whatever the arguments, the law answers true and its arguments read as before. Conditions: none but what the row lists (the laid tables). -/
import Derived.Test.YthdhlcicpcnbhaaGreatDoorW12
open List renaming getElem_mem → a₀,mem_cons → a₁,pairwise_cons → a₂,pairwise_iff_getElem → a₃,mem_filter → a₄,mem_iff_getElem → a₆,mem_singleton → a₇,length_take → a₉,map_append → b₁
open Nat renaming zero_le → a₅
open And renaming intro → a₈
open Bool renaming and_eq_true → b₀
set_option maxRecDepth 20000
set_option maxHeartbeats 16000000
set_option linter.unusedVariables false
set_option linter.unusedSimpArgs false
namespace Go.Proofs.YthdhlcicpcnbhaaGreatDoor
open Go.RowKit
section
theorem insE_sorted (e:Ent): ∀{l:List Ent},l.Pairwise (fun a b=>a.prio≤b.prio)→(nS e l).Pairwise (fun a b=>a.prio≤b.prio)
 | [],_=>by simp [nS]
 | y :: l,h=>by
  obtain⟨h1,h2⟩:=a₂.1 h
  unfold nS
  cases hb:ee y e with
  | true=>
   have hb:=ot hb
   refine a₂.2 ⟨fun x hx=>?_,insE_sorted e h2⟩
   rcases a₁.1 ((wB e l).mem_iff.1 hx) with rfl | hx
   ·omega
   ·exact h1 x hx
  | false=>
   have hb:=oF hb
   refine a₂.2 ⟨fun x hx=>?_,h⟩
   rcases a₁.1 hx with rfl | hx
   ·omega
   ·have:=h1 x hx;omega
theorem order_sorted (l:List Ent):(aB l).Pairwise fun a b=>a.prio≤b.prio:=by
 unfold aB
 induction l.reverse with
 | nil=>exact .nil
 | cons e l ih=>exact insE_sorted e ih
theorem trsS_code: ∀l:List kM,tP l < 20
 | [] =>by simp [tP]
 | x :: l=>by
  have:=trsS_code l
  unfold tP
  repeat' split
  all_goals omega
theorem dec_code (raw:List UInt8):(aS raw).2 < 20:=by
 have h: ∀t,cU t < 20:=fun t=>by
  have:=trsS_code t.trs;unfold cU
  repeat' split
  all_goals omega
 unfold aS
 repeat' split
 ·simp
 ·simp
 ·exact h _
 ·simp
theorem check_code (a:nR) (raw:List UInt8):(fX a raw).code < 20:=by
 have h:=dec_code raw;unfold fX Ar;split
 ·simp
 split
 ·exact h
 dsimp only;unfold fg
 repeat' split
 all_goals omega
inductive Ref (s:cY) (raw:List UInt8) (peer:Int):cY→Int→Prop
 | size {c:Int} (h:c=20∨c=21):Ref s raw peer s c
 | seen (h:bm raw∈s.cache∨∃e∈s.ents,e.key=bm raw):Ref s raw peer (dQ (cA s (bm raw)) (kY (bm raw) s.ents) peer) 23
 | bad {c:Int} (h0:c≠0∧c≠20∧c≠21∧c≠23∧c≠24) (h1:bm raw ∉ s.cache) (h2: ∀e∈s.ents,e.key≠bm raw):Ref s raw peer (gd (cA s (bm raw)) (bm raw)) c
 | full (h1:bm raw ∉ s.cache) (h2: ∀e∈s.ents,e.key≠bm raw):Ref s raw peer (ga (cA s (bm raw)) (bm raw)) 24
theorem check_ref (s:cY) (raw:List UInt8) (peer:Int):((bP s raw peer).2.code=0∧(bP s raw peer)=(jr (cA s (bm raw)) (bm raw) raw peer (fX s.app raw) (cV (fX s.app raw).prio raw.length s.cfg.maxTxs s.cfg.maxBytes s.ents).1,Nk (bm raw) (fX s.app raw) (cV (fX s.app raw).prio raw.length s.cfg.maxTxs s.cfg.maxBytes s.ents).1)∧
      (cV (fX s.app raw).prio raw.length s.cfg.maxTxs s.cfg.maxBytes s.ents).2=true∧(fX s.app raw).code=0∧bm raw ∉ s.cache∧(∀e∈s.ents,e.key≠bm raw)∧(raw.length:Int)≤s.cfg.maxTx)∨
    ∃c,c≠0∧(bP s raw peer).2=gH c∧Ref s raw peer (bP s raw peer).1 c:=by
  unfold bP gf
  dsimp only
  have hcode:=check_code s.app raw
  generalize hk:bm raw=key at *
  split
  · exact .inr ⟨20,by decide,rfl, .size (.inl rfl)⟩
  split
  · exact .inr ⟨21,by decide,rfl, .size (.inr rfl)⟩
  split
  · rename_i h
    refine .inr ⟨23,by decide,rfl,?_⟩
    have:=Ref.seen (s:=s) (raw:=raw) (peer:=peer) (by
      rw [hk]
      by_cases h1:0≤posK key s.cache 0
      · exact .inl (Classical.byContradiction fun hx=>by have:=(mn key s.cache 0).2 hx;omega)
      · refine .inr (Classical.byContradiction fun hx=>?_)
        have: ¬ 0≤kY key s.ents:=IF.2 fun e he hh=>hx ⟨e,he,hh⟩
        omega)
    rw [hk] at this
    exact this
  rename_i h1 h2 h3
  have n1:bm raw ∉ s.cache:=by rw [hk];exact(mn key s.cache 0).1 om
  have n2: ∀e∈s.ents,e.key≠bm raw:=by rw [hk];exact IF.1 om
  have hbad: ∀c:Int,c≠0∧c≠20∧c≠21∧c≠23∧c≠24→Ref s raw peer (gd (cA s key) key) c:=fun c hc=>by
    have:=Ref.bad (peer:=peer) hc n1 n2
    rw [hk] at this
    exact this
  split
  · have hcode:=check_code (cA s key).app raw
    exact .inr ⟨_,om,rfl,hbad _ om⟩
  split
  · exact .inr ⟨22,by decide,rfl,hbad _ (by decide)⟩
  split
  · have:=Ref.full (peer:=peer) n1 n2
    rw [hk] at this
    exact .inr ⟨24,by decide,rfl,this⟩
  · rename_i h4 h5 h6
    refine .inl ⟨rfl,rfl,?_,?_,by rw [← hk];exact n1,by rw [← hk];exact n2,om⟩
    · show(cV (fX s.app raw).prio raw.length s.cfg.maxTxs s.cfg.maxBytes s.ents).2=true
      cases hq:(cV (fX s.app raw).prio raw.length s.cfg.maxTxs s.cfg.maxBytes s.ents).2 with
      | true=>rfl
      | false=>exact absurd hq h6
    · show(fX s.app raw).code=0
      have: ¬ (fX s.app raw).code≠0:=h4
      omega
theorem at_key {k:List UInt8}: ∀{l:List Ent} (i:Nat),k∈l.map (·.key)→∃j,∃hj:j < l.length,posK k (l.map (·.key)) i=((i + j:Nat):Int)∧l[j].key=k
 | [],i,h=>by simp at h
 | e :: l,i,h=>by
  rw [List.map_cons,posK]
  by_cases he:e.key=k
  ·rw [if_pos he]
   exact⟨0,sm,rfl,he⟩
  ·rw [if_neg he]
   obtain⟨j,hj,h1,h2⟩:=at_key (l:=l) (i + 1) (by rw [List.map_cons,a₁] at h;exact h.resolve_left fun e'=>he e'.symm)
   exact⟨j + 1,by simpa using hj,by rw [h1];omega,h2⟩
theorem key_inj {l:List Ent} (hd:(l.map (·.key)).Nodup) {a b:Ent} (ha:a∈l) (hb:b∈l) (h:a.key=b.key):a=b:=by
 obtain⟨i,hi,rfl⟩:=a₆.1 ha;obtain⟨j,hj,rfl⟩:=a₆.1 hb;have hP:=a₃.1 hd;have hne: ∀(i j:Nat) (hi:i < l.length) (hj:j < l.length),i < j→l[i].key≠l[j].key:=fun i j hi hj hij=>by
  have:=hP i j (by simpa using hi) (by simpa using hj) hij;simpa using this
 have:i=j:=by
  rcases Nat.lt_trichotomy i j with hlt | e | hlt
  ·exact absurd h (hne i j hi hj hlt)
  ·exact e
  ·exact absurd h.symm (hne j i hj hi hlt)
 subst this;rfl
structure Vict (s:cY) (p:Int) (ks:List (List UInt8)):Prop where
 nd:ks.Nodup
 at_: ∀j (hj:j < ks.length),∃i,∃hi:i < s.ents.length,kY ks[j] s.ents=(i:Int)∧s.ents[i].key=ks[j] ∧s.ents[i].prio < p
 ord: ∀j (hj:j + 1 < ks.length) (a b:Ent),a∈s.ents→b∈s.ents→a.key=ks[j] →b.key=ks[j + 1] →a.prio≤b.prio
 len:(s.ents.filter fun e=>decide (e.key ∉ ks)).length + ks.length=s.ents.length
theorem sel_vict {s:cY} {p sz:Int} (h:dR s) (h0:0≤sz) (hm:0≤s.cfg.maxBytes) (hs:(cV p sz s.cfg.maxTxs s.cfg.maxBytes s.ents).2=true):Vict s p (cV p sz s.cfg.maxTxs s.cfg.maxBytes s.ents).1:=by
 obtain⟨_,_,hn,k,hk,hin⟩:=IE h.kd h0 hm hs;generalize (cV p sz s.cfg.maxTxs s.cfg.maxBytes s.ents).1=ks at *;subst hk;have hp:=ja s.ents;have hO:((aB s.ents).map (·.key)).Nodup:=(hp.map _).nodup_iff.2 h.kd;have hso:=order_sorted s.ents;have get: ∀j (hj:j < (((aB s.ents).take k).map (·.key)).length),∃hj2:j < (aB s.ents).length,(((aB s.ents).take k).map (·.key))[j] =(aB s.ents)[j].key∧(aB s.ents)[j] ∈(aB s.ents).take k:=by
  intro j hj;have hj1:j < ((aB s.ents).take k).length:=by simpa using hj
  have hj2:j < (aB s.ents).length:=by rw [a₉] at hj1;omega
  refine⟨hj2,sm,?_⟩;have:=a₀ hj1
  rwa [List.getElem_take] at this
 refine⟨hn,fun j hj=>?_,fun j hj a b ha hb hka hkb=>?_,?_⟩
 ·obtain⟨hj2,e1,e2⟩:=get j hj;obtain⟨h1,h2⟩:=hin _ e2;obtain⟨i,hi,h3,h4⟩:=at_key (k:=(((aB s.ents).take k).map (·.key))[j]) (l:=s.ents) 0 (by rw [e1];exact List.mem_map_of_mem h1);refine⟨i,hi,by rw [Nat.zero_add] at h3;exact h3,h4,?_⟩;rw [key_inj h.kd (a₀ hi) h1 (h4.trans e1)];exact h2
 ·obtain⟨hj1,e1,e2⟩:=get j om;obtain⟨hj2,e3,e4⟩:=get (j + 1) hj;rw [key_inj h.kd ha (hin _ e2).1 (hka.trans e1),key_inj h.kd hb (hin _ e4).1 (hkb.trans e3)];exact a₃.1 hso j (j + 1) hj1 hj2 om
 ·have hf:(s.ents.filter fun e=>decide (e.key ∉ ((aB s.ents).take k).map (·.key))).Perm ((aB s.ents).drop k):=by
   rw [← rj _ k hO];exact(hp.filter _).symm
  rw [hf.length_eq,List.length_drop,List.length_map,a₉,hp.length_eq];omega
theorem admit_ents {s:cY} {key raw:List UInt8} {peer:Int} {r:kU} {ks:List (List UInt8)} (h:dR s):(jr s key raw peer r ks).ents=s.ents.filter (fun e=>decide (e.key ∉ ks)) ++ [AG s key raw peer r] ∧(jr s key raw peer r ks).cache=s.cache.filter (fun x=>decide (x ∉ ks))∧(jr s key raw peer r ks).arr=s.arr + 1:=by
 unfold jr;rw [jc ks h.kd h.cd];exact⟨rfl,rfl,rfl⟩
theorem admit_keys {s:cY} {key raw:List UInt8} {peer:Int} {r:kU} {ks:List (List UInt8)} (h:dR s) (hn: ∀e∈s.ents,e.key≠key) {e:Ent} (he:e∈s.ents):e.key∈(jr s key raw peer r ks).ents.map (·.key)↔e.key ∉ ks:=by
 rw [(admit_ents h).1,b₁,List.mem_append];constructor
 ·rintro(h1 | h1)
  ·obtain⟨x,hx,hk⟩:=List.mem_map.1 h1;have:=(a₄.1 hx).2;rw [← hk];simpa using this
  ·rw [List.map_singleton,a₇] at h1;exact absurd h1 (hn e he)
 ·intro h1;exact .inl (List.mem_map.2 ⟨e,a₄.2 ⟨he,by simpa using h1⟩,rfl⟩)
end
section
attribute [local irreducible] aj aC aG aL aO vC aU au
end
section
attribute [local irreducible] aj aC aG aL aO vC aU au
theorem step_c {B:Nat} {s:cY} (hs:ug vj B s) (hB:B≤1000) (hi:dR s) (tx:List UInt8) (peer:Int) (ht:tx.length≤1000000) :
  aH Tryz.prog GU 21 [cO s, .sl tx.length (u8s tx), .int .i64 peer] [] 0 (.tup [cO (bP s tx peer).1,nY (bP s tx peer).2]) [] 0∧ug vj (B + 1) (bP s tx peer).1∧dR (bP s tx peer).1:=
 ⟨pJ (FX:=vj) s tx peer ht hs om hi,nX (FX:=vj) tx peer hs om,rm (raw:=tx) (peer:=peer) hs.cfg hi⟩
end
section
attribute [local irreducible] aj aC aG aL aO vC aU au
structure AdmW (s n:cY) (key:List UInt8) (p:Int) (ks:List (List UInt8)):Prop where
 len:(n.ents.length:Int)=(s.ents.length:Int) + 1 - (ks.length:Int)
 pos:0 < n.ents.length
 kl:ks.length≤s.ents.length
 arr:n.arr=s.arr + 1
 last: ∃e:Ent,cS (n.ents.map aA) n.ents.length ((n.ents.length:Int) - 1)=some (aA e)∧e.key=key
 k32:eG ks
 vic: ∀j (hj:j < ks.length),∃i,∃hi:i < s.ents.length,kY ks[j] s.ents=(i:Int)∧(s.ents[i].prio:Int) < p∧ks[j] ∉ n.cache∧(∀j',j' + 1=j→∀hj':j' < ks.length,∃i',∃hi':i' < s.ents.length,kY ks[j'] s.ents=(i':Int)∧s.ents[i'].prio≤s.ents[i].prio)
 oth: ∀e∈s.ents,(0≤kY e.key n.ents↔e.key ∉ ks)
theorem atE_iff (k:List UInt8) (l:List Ent):0≤kY k l↔k∈l.map (·.key):=by
 unfold kY;have:=mn k (l.map (·.key)) 0;by_cases h:k∈l.map (·.key)
 ·exact⟨fun _=>h,fun _=>by rw [← Int.not_lt];exact fun h2=>this.1 h2 h⟩
 ·exact⟨fun h2=>by have:=this.2 h;omega,fun h2=>absurd h2 h⟩
theorem adm_w {s:cY} {raw:List UInt8} {peer:Int} {r:kU} {ks:List (List UInt8)} (hs:ug vj 1000 s) (hi:dR s) (hv:Vict (cA s (bm raw)) r.prio ks) (hso:eG ks∧ks.length≤s.ents.length) (hn: ∀e∈s.ents,e.key≠bm raw) :
  AdmW s (jr (cA s (bm raw)) (bm raw) raw peer r ks) (bm raw) r.prio ks:=by
 have hip:=ur (bm raw) hs.cfg hi
 obtain⟨g1,g2,g3⟩:=admit_ents (key:=bm raw) (raw:=raw) (peer:=peer) (r:=r) (ks:=ks) hip
 have g4:=fun e he=>admit_keys (key:=bm raw) (raw:=raw) (peer:=peer) (r:=r) (ks:=ks) hip hn (e:=e) he
 have hL:=hv.len
 have hV1:=hv.at_
 have hV2:=hv.ord
 clear hv hip
 generalize bm raw=key at *
 dsimp only [cA] at *
 generalize jr _ key raw peer r ks=n at *
 have hlen:n.ents.length=(s.ents.filter fun e=>decide (e.key ∉ ks)).length + 1:=by rw [g1,List.length_append,List.length_singleton]
 refine⟨om,om,hso.2,g3,⟨AG { s with cache:=ik key s.cache s.cfg.cache } key raw peer r,?_,rfl⟩,hso.1,?_,?_⟩
 ·rw [show (n.ents.length:Int) - 1=((s.ents.filter fun e=>decide (e.key ∉ ks)).length:Nat) by omega]
  refine eh om ?_
  rw [g1,b₁,List.getElem?_append_right sm]
  simp
 ·intro j hj
  obtain⟨i,hi',a1,a2,a3⟩:=hV1 j hj
  refine⟨i,hi',a1,a3,?_,?_⟩
  ·rw [g2]
   intro hm
   have:=(a₄.1 hm).2
   simp [a₀ hj] at this
  ·intro j' hj1 hj'
   obtain⟨i',hi2,b1,b2,b3⟩:=hV1 j' hj'
   subst hj1
   exact⟨i',hi2,b1,hV2 j' hj _ _ (a₀ hi2) (a₀ hi') b2 a2⟩
 ·intro e he
  rw [atE_iff]
  exact g4 e he
theorem admitEvicts_core (k:List Int) (hk:k.length≤140737488355328):aD Tryz.prog GU 8 [bM k] (.bool true):=by
 have cl:=yJ k hk;by_cases h1:160 < k.length
 ·rw [decide_eq_true h1] at cl;unfold bM at *;refine aZ seat Tryz.func8 178 ?_;refine ae ?_;refine bV rfl (fun _ h=>h) rfl (aa (cl)) rfl [(2,1)] mm lm ?_;refine ae ?_;refine cC (known_m) ?_;refine av ?_;rfl
 rw [decide_eq_false h1] at cl;have cm:=C6 k;unfold bM at *;refine aZ seat Tryz.func8 178 ?_;refine ae ?_;refine bV rfl (fun _ h=>h) rfl (aa (cl)) rfl [(2,1)] mm lm ?_;refine ae ?_;refine lO rfl (fun _ h=>h) rfl (cm) [] [] ⟨rfl,trivial,rfl,lm,mm⟩ rfl ?_;rintro _ _ _ ⟨N,s,hN,rfl,rfl,rfl,hs,hi⟩;refine⟨rfl,?_⟩;clear cl cm;refine ae ?_;refine ar (Nat×Nat×cY) (fun x=> [(7, .int .i64 x.1),(5,numP),(3, .ptr 1 25 0 0 [])]) (fun x=>dI k x.2.1 ++ [(1,⟨42,25,false,0,[cO x.2.2]⟩)]) 2 (fun x=>x.1≤3∧x.2.1≤100000000 + 100 * x.1∧ug vj (50 + x.1) x.2.2∧dR x.2.2) (fun x=>3 - x.1) (0,N,s) ⟨dm,dm,ef.mono (FX:=vj) hs dm,hi⟩ (by dsimp only;exact(vm [(0,_),(1,_)] [])) ?_;clear hs hi;rintro⟨j,K,s⟩ ⟨h1,h2,hs,hi⟩;try dsimp only
 dsimp only at h1 h2 hs hi;refine ae ?_;refine ad rfl ?_ ?_ <;> intro h
 rotate_left
 ·have _h:=h;refine ae ?_;refine cC (known_m) ?_;refine av ?_;rfl
 have hj3:j < 3:=by have:=ot h;omega
 have cr:=Iy (G:=GU) k K s.app.chk s.cfg.price om hs.app.2.1 hs.cfg.price;have kr:=yg (L:=k) (N:=K) (price:=s.cfg.price) hs.app.2.1.2.2;generalize vH k K s.app.chk.acs s.cfg.price=rw' at *;obtain⟨b,K2⟩:=rw';dsimp only at cr kr;have hbl:=kr.1;have hK2:=kr.2;obtain⟨c1,hs1,hi1⟩:=step_c hs om hi b 0 om;have hrf:=check_ref s b 0;have hvi:= @sel_vict (cA s (bm b)) (fX s.app b).prio b.length (ur (bm b) hs.cfg hi) om (by have:=hs.cfg.maxBytes;show 0≤s.cfg.maxBytes;omega);have hso:=yh (fX s.app b).prio b.length s.cfg.maxTxs s.cfg.maxBytes s.ents (fun e he=>(hs.entk e he).key);have hrp:(bP s b 0).2.code≠0∨∃r:kU,∃ks,(bP s b 0).2=Nk (bm b) r ks∧AdmW s (bP s b 0).1 (bm b) r.prio ks:=by
  rcases hrf with ⟨_,hq,hsel,_,_,hne,_⟩ | ⟨c,hc,hq,_⟩
  ·refine .inr ⟨_,_,by rw [hq],?_⟩;rw [hq];exact adm_w (ef.mono (FX:=vj) hs om) hi (hvi hsel) hso hne
  ·exact .inl (by rw [hq];exact hc)
 clear hrf hvi hso kr;have c7:=Oj (G:=GU) b om;have hk32:=jV b;generalize bm b=key at *;generalize bP s b 0=C at *;obtain⟨n,rq⟩:=C;dsimp only at c1 hs1 hi1 hrp;have hnl:=hs1.ents;have hsl:=hs.ents;rcases hrp with hrp | ⟨r,ks,rfl,hw⟩
 ·refine ae ?_;refine yc (cr) [(0,0)] ?_;refine ae ?_;refine jS (c1) ?_;refine ad rfl ?_ ?_ <;> intro h
  rotate_left
  ·simp only [pl] at h;exact absurd h hrp
  refine ae ?_;exact⟨(j + 1,K2,s),⟨dm,dm,ef.mono (FX:=vj) hs dm,hi⟩,dm,(by dsimp only;exact(vm [(0,_),(1,_)] []))⟩
 ·obtain⟨w1,w2,w3,w4,⟨eL,w5,w6⟩,w7,w8,w9⟩:=hw;have har:=hs.arr;unfold nY Nk at c1;dsimp only at c1;refine ae ?_;refine yc (cr) [(0,0)] ?_;refine ae ?_;refine yr (c1) ?_;refine Ea ?_;refine jq ([(7, .int .i64 j),(5,numP),(3, .ptr 1 25 0 0 []),(8, .sl b.length (u8s b)),(9, .ptr 2 25 0 0 []),(10, .ptr 3 73 0 0 [])]) (dI k K2 ++ [(1,⟨42,25,false,0,[cO s]⟩),(2,⟨42,25,false,0,[cO n]⟩),(3,⟨57,73,false,0,[.st [.int .i64 0,keyM key, .int .u64 r.prio, .sl ks.length (ks.map keyM), .sl 0 [], .sl 0 [], .sl 0 [], .sl 0 [], .sl 0 [], .int .i64 0, .arr 32 1 k0]]⟩)]) (4) (vm [(0,_),(1,_),(2,_),(3,_)] []) ?_;clear c1 cr;have q1:=al.mk (r9 key);have s1:=bN.mk (iL key key);obtain⟨e1,e2,e3,e4,e5,e6,e7,e8,e9,e10⟩:=eL;dsimp only at w6;subst w6;unfold aA at w5;dsimp only at w5;have w5:=al.mk w5;refine ae ?_;refine aw [ag 0,ag 1,ag 2,de 3,ag 4,ag 5,ag 6,ag 7,ag 8,ag 9,ag 10,ag 11,ag 12,ag 13,ag 14,ag 15,ag 16,ag 17,ag 18,ag 19,ag 20,ag 21,ag 22,ag 23,ag 24,ag 25,ag 26,ag 27,ag 28,ag 29,ag 30,ag 31,ag 32,ag 33,ag 34,ag 35,ag 36,ag 37,ag 38,ag 39,ag 40,ag 41,ag 42,ag 43,ag 44,ag 45,ag 46] ?_;refine ae ?_;refine OX (c7) ?_;refine fP ?_;refine gO rfl rfl ?_ rfl ?_ <;> intro h
  rotate_left
  ·simp only [pl] at h;omega
  refine fP ?_;refine gO rfl rfl ?_ rfl ?_ <;> intro h
  rotate_left
  ·simp only [pl] at h;omega
  refine fP ?_;refine gO rfl rfl ?_ rfl ?_ <;> intro h
  rotate_left
  ·simp only [pl] at h;omega
  refine fP ?_;refine ar Nat (fun i=> [(100, .int .i64 i),(99, .int .i64 ks.length),(98, .sl ks.length (ks.map keyM)),(7, .int .i64 j),(5,numP),(3, .ptr 1 25 0 0 []),(9, .ptr 2 25 0 0 []),(10, .ptr 3 73 0 0 [])]) (fun _=>dI k K2 ++ [(1,⟨42,25,false,0,[cO s]⟩),(2,⟨42,25,false,0,[cO n]⟩),(3,⟨57,73,false,0,[.st [.int .i64 0,keyM e1, .int .u64 r.prio, .sl ks.length (ks.map keyM), .sl 0 [], .sl 0 [], .sl 0 [], .sl 0 [], .sl 0 [], .int .i64 0, .arr 32 1 k0]]⟩)]) 4 (fun i=>i≤ks.length) (fun i=>ks.length - i) 0 (a₅ _) (vm [(0,_),(1,_),(2,_),(3,_)] []) ?_;clear q1 s1 w5 c7;intro i hii;try dsimp only
  refine ae ?_;refine ad rfl ?_ ?_ <;> intro h
  ·have hi':i < ks.length:=by have:=ot h;omega
   have hel:=al.mk (mV hi');obtain⟨p,hp,a1,a2,a3,a4⟩:=w8 i hi';have d1:=OD (G:=GU) s.ents ks[i] om (w7 _ (a₀ hi')) (fun e he=>(hs.entk e he).key);rw [a1] at d1;have d2:=OA (G:=GU) n.cache ks[i] (by have:=hs1.cache;omega) (w7 _ (a₀ hi')) hs1.ck;rw [uH,decide_eq_false a3] at d2;have hep:=al.mk (eF hp);have hpr:0 < i→∃(q:List UInt8) (p':Nat) (e':Ent),cS (ks.map keyM) ks.length ((i:Int) - 1)=some (keyM q)∧aD Tryz.prog GU 28 [.sl s.ents.length (s.ents.map aA),keyM q] (.int .i64 (p':Int))∧cS (s.ents.map aA) s.ents.length (p':Int)=some (aA e')∧e'.prio≤s.ents[p].prio:=by
    intro h0;obtain⟨i',rfl⟩: ∃i',i=i' + 1:=⟨i - 1,om⟩
    obtain⟨p',hp',b1,b2⟩:=a4 i' rfl om;have d3:=OD (G:=GU) s.ents ks[i'] om (w7 _ (a₀ om)) (fun e he=>(hs.entk e he).key);rw [b1] at d3;refine⟨ks[i'],p',s.ents[p'],?_,d3,eF hp',b2⟩;rw [show ((i' + 1:Nat):Int) - 1=(i':Int) by omega];exact mV om
   clear a1 a3 a4;generalize ks[i] =q at *;generalize s.ents[p] =e at *;obtain⟨e1,e2,e3,e4,e5,e6,e7,e8,e9,e10⟩:=e;unfold aA at hep;dsimp only at hep a2 hpr;refine ae ?_;refine cC (d1) ?_;refine aw [ag 0,ag 1,ag 2,ag 3,ag 4,ag 5,ag 6,ag 7,ag 8,ag 9,ag 10,ag 11,ag 12,ag 13,ag 14,ag 15,ag 16,de 17,ag 18,ag 19,ag 20,ag 21,ag 22,ag 23,ag 24,ag 25,ag 26,ag 27,ag 28,ag 29,ag 30,ag 31,ag 32,de 33,ag 34,ag 35,ag 36,ag 37,ag 38,ag 39,ag 40,ag 41,ag 42,ag 43,ag 44,ag 45] ?_;refine ae ?_;refine gO rfl rfl ?_ rfl ?_ <;> intro h
   rotate_left
   ·simp only [pl] at h;omega
   refine ae ?_;refine dk (d2) ?_;refine gO rfl rfl ?_ rfl ?_ <;> intro h
   ·obtain⟨q',p',e',f1,f2,f3,f4⟩:=hpr (by simp only [pl] at h;omega);obtain⟨g1,g2,g3,g4,g5,g6,g7,g8,g9,g10⟩:=e';unfold aA at f3;dsimp only at f3 f4;have f1:=al.mk f1;have f3:=al.mk f3;refine ae ?_;refine dk (f2) ?_;refine ad rfl ?_ ?_ <;> intro h
    ·simp only [pl] at h;omega
    refine ae ?_;exact⟨i + 1,dm,dm,(by dsimp only;exact(vm [(0,_),(1,_),(2,_),(3,_)] []))⟩
   ·refine ae ?_;exact⟨i + 1,dm,dm,(by dsimp only;exact(vm [(0,_),(1,_),(2,_),(3,_)] []))⟩
  ·have _h:=h;refine ae ?_;refine ar Nat (fun i=> [(159, .int .i64 i),(158, .int .i64 s.ents.length),(157, .sl s.ents.length (s.ents.map aA)),(7, .int .i64 j),(5,numP),(3, .ptr 1 25 0 0 []),(9, .ptr 2 25 0 0 []),(10, .ptr 3 73 0 0 [])]) (fun _=>dI k K2 ++ [(1,⟨42,25,false,0,[cO s]⟩),(2,⟨42,25,false,0,[cO n]⟩),(3,⟨57,73,false,0,[.st [.int .i64 0,keyM e1, .int .u64 r.prio, .sl ks.length (ks.map keyM), .sl 0 [], .sl 0 [], .sl 0 [], .sl 0 [], .sl 0 [], .int .i64 0, .arr 32 1 k0]]⟩)]) 4 (fun i=>i≤s.ents.length) (fun i=>s.ents.length - i) 0 (a₅ _) (vm [(0,_),(1,_),(2,_),(3,_)] []) ?_;intro i hii;try dsimp only
   refine ae ?_;refine ad rfl ?_ ?_ <;> intro h
   ·have hi':i < s.ents.length:=by have:=ot h;omega
    have hel:=al.mk (eF hi');have hmm:=w9 _ (a₀ hi');have hek:=(hs.entk _ (a₀ hi')).key;have d1:=OD (G:=GU) n.ents s.ents[i].key om hek (fun e he=>(hs1.entk e he).key);have d2:=OA (G:=GU) ks s.ents[i].key om hek w7;rw [uH] at d2;generalize s.ents[i] =e at *;generalize kY e.key n.ents=z at *;obtain⟨g1,g2,g3,g4,g5,g6,g7,g8,g9,g10⟩:=e;unfold aA at hel;dsimp only at hel hmm d1 d2;by_cases hm:g1∈ks
    ·rw [decide_eq_true hm] at d2;have hz: ¬ 0≤z:=fun h=>hmm.1 h hm
     refine ae ?_;refine aw [ag 0,ag 1,ag 2,ag 3,de 4,ag 5,ag 6,ag 7,ag 8,ag 9,de 10,ag 11] ?_;refine ae ?_;refine dk (d1) ?_;refine dk (d2) ?_;refine ad rfl ?_ ?_ <;> intro h
     ·simp at h;omega
     refine ae ?_;exact⟨i + 1,dm,dm,(by dsimp only;exact(vm [(0,_),(1,_),(2,_),(3,_)] []))⟩
    ·rw [decide_eq_false hm] at d2;have hz:0≤z:=hmm.2 hm;refine ae ?_;refine aw [ag 0,ag 1,ag 2,ag 3,de 4,ag 5,ag 6,ag 7,ag 8,ag 9,de 10,ag 11] ?_;refine ae ?_;refine dk (d1) ?_;refine dk (d2) ?_;refine ad rfl ?_ ?_ <;> intro h
     ·simp at h;omega
     refine ae ?_;exact⟨i + 1,dm,dm,(by dsimp only;exact(vm [(0,_),(1,_),(2,_),(3,_)] []))⟩
   ·have _h2:=h;refine ae ?_;exact⟨(j + 1,K2,n),⟨dm,dm,ef.mono (FX:=vj) hs1 dm,hi1⟩,dm,(by dsimp only;exact(vm [(0,_),(1,_)] []))⟩
end
end Go.Proofs.YthdhlcicpcnbhaaGreatDoor
namespace Go.Proofs.YthdhlcicpcnbhaaGreatDoor.admitEvicts
open Go.Proofs.YthdhlcicpcnbhaaGreatDoor
theorem r1:(Rows.admitEvictsRow.inPlace == Tryz.prog.inPlace 8)=true:=by kernel_rfl
theorem r2:(Rows.admitEvictsRow.unfollowed == Tryz.prog.unfollowed 8)=true:=by kernel_rfl
theorem r3:(Rows.admitEvictsRow.recurses == Tryz.prog.recurses 8)=true:=by kernel_rfl
theorem r4:(Rows.admitEvictsRow.named == Tryz.prog.varsNamed 8)=true:=by kernel_rfl
set_option maxRecDepth 100000 in
theorem closed:joinedFacts Tryz.prog 8 Tryz.f8 (OpenSpec.ofChange Rows.admitEvictsSpec).bare Rows.admitEvictsRow=true:=by
 simp only [joinedFacts,b₀]
 and_intros
 all_goals first
  | (with_reducible exact r1)
  | (with_reducible exact r2)
  | (with_reducible exact r3)
  | (with_reducible exact r4)
  | kernel_rfl
end Go.Proofs.YthdhlcicpcnbhaaGreatDoor.admitEvicts
namespace Go.Proofs.YthdhlcicpcnbhaaGreatDoor.admitEvicts
open Go.ChangeShapes Go.WideShapes Go.ChangeAt Go.RowKit Go.Proofs.YthdhlcicpcnbhaaGreatDoor
set_option maxRecDepth 100000 in
theorem contract (H:Type) (enc:TypeId×Value→H) (W:World) (base:Nat) (args:Array Value) (ds gs:List (DataW H)) (before:List MemPlace)
  (hval: ∀(j:Nat) t v,Tryz.f8.params[j]? =some t→args[j]? =some v→Value.okWide Tryz.prog W .any base t v)
  (hW:DataW.Whole enc Tryz.prog Tryz.f8.params.toList Rows.admitEvictsSpec.vars false W args.toList ds gs before)
  (hw:(DataW.weightsEach Tryz.prog (Tryz.f8.params.toList ++ (OpenSpec.ofChange Rows.admitEvictsSpec).bare.plain.varTypes Tryz.prog) (ds ++ gs)).all (· ≤reachBytes)=true)
  (hL:laidMetH Tryz.prog Rows.admitEvictsRow.laid W) (hopen:W.ShapedOpen Tryz.prog) :
  Calls Tryz.prog 8 args W fun e W'=> ∃v,e= .returned v∧Rows.admitEvictsSpec.post enc Tryz.prog Tryz.f8 false true false false W args v W':=by
 have hW':=hW
 obtain⟨p,q,hA0,hV,rfl,hfz,hnd⟩:=hW
 have hA:DataW.TrodAll enc Tryz.prog W 0 (fun _=>true) true Tryz.f8.params.toList args.toList ds p:=hA0
 rw [Tryz.params8] at hA hval hw
 obtain⟨v0,vs0,d0,ds0,p0,q0,hargs,rfl,rfl,h0,r0⟩:=trodAll_cons hA
 obtain⟨rfl,rfl,rfl⟩:=trodAll_nil r0
 obtain rfl:args= #[v0] :=by cases args;simp_all
 obtain⟨rfl,rfl⟩:=trodVars_none hV
 have k0:=h0
 have lt0: ∀x∈p0,x.block < W.heap.size:=by obtain⟨m,hm⟩:=k0;exact DataW.trod_lt m _ _ _ hm
 simp only [List.append_nil] at hW'
 have hw:(d0.weights Tryz.prog 26 ++ (DataW.weightsEach Tryz.prog ((OpenSpec.ofChange Rows.admitEvictsSpec).bare.plain.varTypes Tryz.prog) [])).all (· ≤reachBytes)=true:=hw
 simp only [List.all_append,b₀] at hw
 obtain⟨hw0,_⟩:=hw
 obtain⟨A0,n0,cap0,rfl⟩:=okWide_slice Tryz.underlying26 (hval 0 26 v0 rfl rfl)
 obtain⟨fuel0,hf0⟩:=h0
 obtain⟨_,m0,hm0,hr0,hb0⟩:=vi.2 enc W _ true fuel0 _ d0 p0 hf0 hw0
 obtain⟨x0,rfl,hx0⟩:=qK hm0
 refine(admitEvicts_core x0 hx0 W (Bq W) [_] (vf (show laidMet Tryz.prog w6 W from hL) hopen) (fun b o h=>h) (.cons (.val [_] hr0) .nil)).mono fun e W' ⟨v,he,hv,bel⟩=>?_
 subst he
 obtain rfl:=hv.bool_
 exact⟨_,rfl,_,_,_,[],_,[],hW',trodAll_mk1 (shut_bool Tryz.underlying4 _),(trodAll_cons_mk (Below.trod na (by kernel_rfl) (ot (by kernel_rfl)) k0 bel lt0) trodAll_mk0),rfl,bel.frame _,fun h=>by cases h⟩
theorem reads (os:Os) {H:Type} (enc:TypeId×Value→H): ∃places,DataW.whole enc Tryz.prog ((rB os).forCall (fun _ _=>0) ⟨#[], #[.slice none 0 0],[]⟩).memory Tryz.f8.params.toList Rows.admitEvictsSpec.vars false #[Value.slice none 0 0].toList 8=some ([.nil],[],places):=
 ⟨[],by kernel_rfl⟩
set_option maxRecDepth 100000 in
theorem lifted (os:Os) (started:os.Started) (H:Type) (enc:TypeId×Value→H) (F:Stop.Interp) :
  ReturnsInHanded {} Tryz.checked os 8 .any ((OpenSpec.ofChange Rows.admitEvictsSpec).preRow enc Tryz.prog Tryz.f8 Rows.admitEvictsRow.domain false Rows.admitEvictsRow.laid) (((OpenSpec.ofChange Rows.admitEvictsSpec).at F).post enc Tryz.prog Tryz.f8 false true false false):=by
 obtain⟨places,hx⟩:=reads os enc
 refine returnsInHanded_of_row (C:=Tryz.checked) (s:=OpenSpec.ofChange Rows.admitEvictsSpec) PJ started (by kernel_rfl) Tryz.func8
  (mG (enc:=enc) (C:=Tryz.checked) (rB os) (World.laidAll_os _ _ _) #[.slice none 0 0] (yL os _) (by kernel_rfl)
   (OpenSpec.preRow_of_cond 8 hx (by kernel_rfl) (fun k hk=>by cases hk) (by kernel_rfl) (vg os _))) ?_
 intro W base args ds gs before hval hW _ _ hw hL hopen _
 exact contract H enc W base args ds gs before hval hW hw hL hopen
theorem said:Rows.AdmitEvictsSaid:=
 OpenClaim.holds_of_cond 8 Tryz.f8 rfl rfl rfl rfl rfl rfl rfl ⟨rfl,rfl,rfl,rfl,rfl⟩ rfl rfl rfl rfl rfl (by kernel_rfl) Tryz.func8 closed
  (ot (by kernel_rfl)) (by unfold Func.isWrapper;first | (rw [if_pos (by decide +kernel)];kernel_rfl) | (rw [if_neg (by decide +kernel)];exact⟨rfl,rfl⟩))
  (fun os started H enc _ F=>by rw [OpenClaim.pre_eq_preRow];exact lifted os started H enc F)
theorem plain (f:FuncId) (fn:Func) (hf:Tryz.pinned.checked.prog.funcNamed "mempool/mempoollaw22.AdmitEvicts" =some f) (hfn:Tryz.pinned.checked.prog.funcs[f]? =some fn) :
  true=Tryz.pinned.checked.prog.looks [] ∧∀(j:Nat) t,fn.params[j]? =some t→Tryz.pinned.checked.prog.wantsStandIn t=false:=by
 obtain rfl:f=8:=Option.some.inj ((show Tryz.prog.funcNamed "mempool/mempoollaw22.AdmitEvicts" =some 8 by kernel_rfl).symm.trans hf) |>.symm
 obtain rfl:fn=Tryz.f8:=(Option.some.inj (Tryz.func8.symm.trans hfn)).symm
 refine⟨by kernel_rfl,fun j t ht=>?_⟩
 have key:(Tryz.f8.params.all fun t=>Tryz.prog.wantsStandIn t == false)=true:=by kernel_rfl
 have:=Array.all_eq_true_iff_forall_mem.1 key t (Array.mem_of_getElem? ht)
 show Tryz.prog.wantsStandIn t=false
 simpa using this
theorem card:Rows.AdmitEvictsCardSaid:=
 Claim7.holds_tied_plain_at .later [] _ _ _ _ said (fun _ h=>by cases h) (by kernel_rfl) (fun _ h=>by cases h) admitEvicts_row_tie rfl ⟨rfl,rfl⟩ (by kernel_rfl) rfl plain (by kernel_rfl)
end Go.Proofs.YthdhlcicpcnbhaaGreatDoor.admitEvicts
