/- Parts of a proof, one behind the other: PV, PW, AL, Rc, PX, PY, PZ, Pa, Rd, Rf, Ri. -/
import Derived.Test.YtohikcplmbkmeaaGreatDoorW11
open List renaming mem_singleton → a₀,map_append → a₂,mem_append → a₄,length_append → a₅,length_singleton → a₆,getElem_mem → a₇,mem_cons_of_mem → a₈,mem_cons_self → a₉,mem_of_mem_take → b₁,length_cons → b₇,length_take → b₈,sum_append → b₉
open And renaming intro → a₁
open Nat renaming le_refl → a₃,zero_le → b₀,ble → b₂,mul_le_mul_right → b₄,ble_eq → b₅
open Int renaming emod_nonneg → b₃,emod_lt_of_pos → b₆
set_option maxRecDepth 20000
set_option maxHeartbeats 16000000
set_option linter.unusedVariables false
set_option linter.unusedSimpArgs false
namespace Go.Proofs.YtohikcplmbkmeaaGreatDoor
open Go.RowKit
section
variable {G:GS}
attribute [local irreducible] ak aB aD aI aN vC aW aw
def mP (l:List (List UInt8)):Nat:=(l.map fun b=>b.length + 3).sum
theorem FU (l:List (List UInt8)) {k:Nat} (hk:k < l.length):mP (l.take (k + 1))=mP (l.take k) + (l[k].length + 3):=by
 unfold mP;rw [List.take_succ_eq_append_getElem hk,a₂,b₉];simp
theorem yu (B:Nat): ∀(l:List (List UInt8)),(∀b∈l,b.length≤B)→mP l≤l.length * (B + 3)
 | [],_=>by simp [mP]
 | b :: l,h=>by
  have h2:=h b sm
  have ih:=yu B l fun x hx=>h x (by simp [hx])
  have e:mP (b :: l)=b.length + 3 + mP l:=by simp [mP]
  rw [e,b₇,Nat.add_mul]
  omega
theorem AU (l:List (List UInt8)) (k:Nat):mP (l.take k)≤mP l:=by
 have:mP (l.take k) + mP (l.drop k)=mP l:=by
  unfold mP;rw [← b₉,← a₂,List.take_append_drop]
 omega
theorem Jd (l:List (List UInt8)) (hl:l.length≤1000000) (hb: ∀b∈l,b.length≤4096):aE Tryz.prog G 214 [.sl l.length (l.map bk)] (.int .i64 (mP l)):=by
 have hsum:=yu 4096 l hb;have hmax:l.length * (4096 + 3)≤1000000 * 4099:=b₄ _ hl;refine bA seat Tryz.func214 19 ?_;refine aa ?_;refine av Nat (fun k=> [(8, .int .i64 k),(7, .int .i64 l.length),(6, .sl l.length (l.map bk)),(3, .int .i64 (mP (l.take k)))]) (fun _=> []) 0 (fun k=>k≤l.length) (fun k=>l.length - k) 0 (b₀ _) (by rw [List.take_zero];exact(vm [] [])) ?_;intro k hk;try dsimp only
 refine aa ?_;refine ad rfl ?_ ?_ <;> intro h
 ·have hk':k < l.length:=by have:=ot h;omega
  have hel:=gM hk';have hbl:=hb _ (a₇ hk');have hsucc:=FU l hk';have hc1:=AU l k;have hc2:=AU l (k + 1);generalize l[k] =b at *;replace hel:bF (l.map bk) l.length (k:Int)=some (.sl b.length (u8s b)):=hel;have hel:=aj.mk hel;refine aa ?_;exact⟨k + 1,by show k + 1≤l.length;omega,by show l.length - (k + 1) < l.length - k;omega,(by dsimp only;rw [hsucc];exact(vm [] []))⟩
 ·have hk':k=l.length:=by have:=oF h;omega
  subst hk';rw [List.take_length];refine aa ?_;(refine jJ [_] rfl (by kernel_rfl) ?_;(refine au ?_);exact rfl)
theorem Nn {a b c:Int} {t u v x:MV} {k:List UInt8} {i:Nat} (h:i < k.length):fc (.st [.st [.int .i64 a, .int .i64 b, .int .i64 c,keyM k,t,u,v],x]) ([] ++ [0] ++ [3] ++ [i]) (0 + 0 + 3 + i * 1)=some (BF (k.getD i 0)):=by
 show(bif b₂ 0 (0 + 0 + 3 + i * 1) then(bif b₂ 3 (0 + 0 + 3 + i * 1 - 0) then fc (keyM k) ([] ++ [i]) (0 + 0 + 3 + i * 1 - 0 - 3) else none) else none)=_
 have e1:b₂ 0 (0 + 0 + 3 + i * 1)=true:=by rw [b₅];omega
 have e2:b₂ 3 (0 + 0 + 3 + i * 1 - 0)=true:=by rw [b₅];omega
 rw [e1,e2,show 0 + 0 + 3 + i * 1 - 0 - 3=0 + i * 1 by omega];exact J4 h
theorem No {a b c:Int} {t u v x:MV} {k:List UInt8} {i:Nat} (h:i < k.length) (y:UInt8):ff (.st [.st [.int .i64 a, .int .i64 b, .int .i64 c,keyM k,t,u,v],x]) ([] ++ [0] ++ [3] ++ [i]) (0 + 0 + 3 + i * 1) (BF y)=some (.st [.st [.int .i64 a, .int .i64 b, .int .i64 c,keyM (k.set i y),t,u,v],x]):=by
 show(bif b₂ 0 (0 + 0 + 3 + i * 1) then(match (bif b₂ 3 (0 + 0 + 3 + i * 1 - 0) then(match ff (keyM k) ([] ++ [i]) (0 + 0 + 3 + i * 1 - 0 - 3) (BF y) with | some m'=>some (.st (setL [.int .i64 a, .int .i64 b, .int .i64 c,keyM k,t,u,v] 3 m')) | none=>none) else none) with | some m'=>some (MV.st (setL [.st [.int .i64 a, .int .i64 b, .int .i64 c,keyM k,t,u,v],x] 0 m')) | none=>none) else none)=_
 have e1:b₂ 0 (0 + 0 + 3 + i * 1)=true:=by rw [b₅];omega
 have e2:b₂ 3 (0 + 0 + 3 + i * 1 - 0)=true:=by rw [b₅];omega
 rw [e1,e2,show 0 + 0 + 3 + i * 1 - 0 - 3=0 + i * 1 by omega,k9 h y];rfl
theorem Li (a:UInt8):aU (IntKind.u8.wrap ((a.toNat:Int) + 1)) ((UInt8.ofNat (a.toNat + 1)).toNat:Int):=aU.mk (JY (a.toNat + 1))
abbrev O9 (B:Nat) (N:Nat) (r:MV) (N':Nat):Prop:=N'≤N + 1000000∧∃b0:dv,dI b0∧r= .sl (qb b0).length (u8s (qb b0))∧b0.hd.time≤100 * (B + 1)
theorem rY [NX:Nx] {B:Nat} (L:List Int) (N:Nat) (n:oE) (hN:N < 900000000000000000) (hn:fB B n) (hB:B≤900):qY G L 156 [numP,kG n] N (O9 B N):=by
 have hse:=hn.st.ents;have hsek:=hn.st.entk;have hnl:n.st.ents.length≤900:=om;unfold qY;refine seq' seat Tryz.func156 151 ?_;refine aa ?_;refine av (Nat×Nat×List (List UInt8)) (fun x=> [(17, .int .i64 x.1),(16, .int .i64 n.st.ents.length),(15, .sl n.st.ents.length (n.st.ents.map bN)),(6, .ms 3 1 0 x.2.2.length),(5, .ptr 2 12 0 0 []),(3, .ptr 1 259 0 0 []),(0,numP)]) (fun x=>ej L x.2.1 ++ [(1,⟨120,259,false,0,[kG n]⟩),(2,⟨66,12,false,0,[cfM n.st.cfg]⟩),(3,⟨41,1,true,0,x.2.2.map bk⟩)]) 4
  (fun x=>x.1≤n.st.ents.length∧x.2.1≤N + x.1∧x.2.2.length≤x.1∧∀r∈x.2.2,r.length≤4096) (fun x=>n.st.ents.length - x.1) (0,N,[]) ⟨b₀ _,a₃ _,a₃ _,sm⟩ (by dsimp only;exact vm [(1,_),(2,_)] []) ?_
 rintro⟨k,K,W⟩ ⟨h1,h2,h3,h4⟩;try dsimp only
 dsimp only at h1 h2 h3 h4;refine aa ?_;refine ad rfl ?_ ?_ <;> intro h
 ·have hk':k < n.st.ents.length:=by have:=ot h;omega
  have hel:=eG hk';have hkl:=(hsek _ (a₇ hk')).raw;generalize n.st.ents[k] =e at *;have hel:=aj.mk hel;obtain⟨m,hm,cm⟩:=bg (G:=G) L K 2 om om om;obtain⟨W2,hW2⟩: ∃W2,W2=W ++ [e.raw] :=⟨_,rfl⟩
  have hW2l:W2.length=W.length + 1:=by rw [hW2];simp
  refine aa ?_;refine yc (cm) [(0,0)] ?_;refine aa ?_;refine ad rfl ?_ ?_ <;> intro h
  ·refine aa ?_;refine aL rfl rfl (by intro R hR;refine cI hR ?_;(refine a₁ (a₃ _) ?_;refine⟨_,rfl,?_⟩;refine a₁ ⟨sm,ai (by kernel_rfl) pf⟩ ?_;refine⟨W2.map bk,sv (by rw [hW2,a₂];rfl),W2.length,sv pf,?_⟩);exact hR) rfl ?_;refine aa ?_;exact⟨(k + 1,K + 1,W2),⟨dm,dm,dm,fun r hr=>by
    dsimp only at hr;rw [hW2] at hr;rcases a₄.1 hr with hr | hr
    ·exact h4 r hr
    ·rw [a₀.1 hr];exact hkl⟩,dm,(by dsimp only;exact vm [(1,_),(2,_),(3,_)] [])⟩
  ·refine aa ?_;exact⟨(k + 1,K + 1,W),⟨dm,dm,dm,h4⟩,dm,(by dsimp only;exact vm [(1,_),(2,_),(3,_)] [])⟩
 ·have hke:k=n.st.ents.length:=by have:=oF h;omega
  obtain⟨m,hm,cm⟩:=bg (G:=G) L K 2 om om om;have cR:=Mt (G:=G) L (K + 1) n.st.app 3 om hn.st.app om;have hR:=H4 (L:=L) (N:=K + 1) (n:=3) hn.st.app om;generalize pR L (K + 1) n.st.app 3=RR at *;obtain⟨RR,K3⟩:=RR;dsimp only at cR hR;obtain⟨W2,hW2⟩: ∃W2,W2=W ++ RR:=⟨_,rfl⟩
  have hW2l:W2.length=W.length + RR.length:=by rw [hW2];simp
  have hW2k: ∀r∈W2,r.length≤4096:=fun r hr=>by
   rw [hW2] at hr;rcases a₄.1 hr with hr | hr
   ·exact h4 r hr
   ·exact hR.1 r hr
  refine aa ?_;refine yc (cm) [(0,0)] ?_;refine sB (Nat×List (List UInt8)) (fun x=> [(6, .ms 3 1 0 x.2.length),(5, .ptr 2 12 0 0 []),(3, .ptr 1 259 0 0 []),(0,numP)]) (fun x=>ej L x.1 ++ [(1,⟨120,259,false,0,[kG n]⟩),(2,⟨66,12,false,0,[cfM n.st.cfg]⟩),(3,⟨41,1,true,0,x.2.map bk⟩)]) (fun _=>4) (fun x=>x.1≤N + 1000∧x.2.length≤905∧∀r∈x.2,r.length≤4096) (fun JQ hj=>?_) (fun x hx=>?_)
  ·refine aa ?_;refine ad rfl ?_ ?_ <;> intro h
   ·refine aa ?_;refine yc (cR) [(0,0)] ?_;refine aa ?_;refine aL rfl rfl (by intro R hR;refine cI hR ?_;refine a₁ ((pK RR)) ?_;refine a₁ ⟨sm,ai (by kernel_rfl) pf⟩ ?_;refine⟨W2.map bk,sv (by rw [hW2,a₂]),W2.length,sv pf,?_⟩;exact hR) rfl ?_;refine aa ?_;exact hj.nrm (K3,W2) ⟨dm,dm,hW2k⟩ (by dsimp only;exact vm [(1,_),(2,_),(3,_)] [])
   ·refine aa ?_;exact hj.nrm (K + 1,W) ⟨dm,dm,h4⟩ (by dsimp only;exact vm [(1,_),(2,_),(3,_)] [])
  ·clear cR hR hW2 hW2l hW2k cm hm h1 h2 h3 h4 hsek;obtain⟨K4,W4⟩:=x;dsimp only at hx ⊢;refine aa ?_;refine pj (Nat×List (List UInt8)) (fun x=> [(6, .sl x.2.length (x.2.map bk)),(5, .ptr 2 12 0 0 []),(3, .ptr 1 259 0 0 []),(0,numP)]) (fun x=>ej L x.1 ++ [(1,⟨120,259,false,0,[kG n]⟩),(2,⟨66,12,false,0,[cfM n.st.cfg]⟩)]) (fun _=>3) (fun x=>x.1≤N + 3000∧x.2.length≤905∧∀r∈x.2,r.length≤4096) (fun JQ hj=>?_) (fun x hx=>?_)
   ·refine av (Nat×List (List UInt8)) (fun x=> [(6, .sl x.2.length (x.2.map bk)),(5, .ptr 2 12 0 0 []),(3, .ptr 1 259 0 0 []),(0,numP)]) (fun x=>ej L x.1 ++ [(1,⟨120,259,false,0,[kG n]⟩),(2,⟨66,12,false,0,[cfM n.st.cfg]⟩)]) 3 (fun x=>x.1 + x.2.length≤N + 2000∧x.2.length≤905∧∀r∈x.2,r.length≤4096) (fun x=>x.2.length) (K4,W4) ⟨dm,hx.2.1,hx.2.2⟩ (by dsimp only;exact vm [(1,_),(2,_)] [(3,W4.length)]) ?_;clear hx;rintro⟨K,W⟩ ⟨h1,h2,h3⟩;try dsimp only
    dsimp only at h1 h2 h3;obtain⟨m,hm,cm⟩:=bg (G:=G) L K 8 om om om;have cT:=Jd (G:=G) W om h3;have hT:=yu 4096 W h3;generalize mP W=T at *;refine aa ?_;refine al [ae 0,ae 1,ae 2,ae 3,ae 4,dj 5,ae 6,ae 7,ae 8,ae 9,dj 10,ae 11,ae 12,ae 13,ae 14] ?_;refine aa ?_;refine eP rfl rfl ?_ rfl ?_ <;> intro h
    ·have hW0:=ot h;refine aa ?_;refine cK rfl aA rfl [0] (cm) [(0,0)] [] ⟨rfl,trivial,rfl,lm,mm⟩ rfl rfl rfl rfl ?_;refine aa ?_;refine eP rfl rfl ?_ rfl ?_ <;> intro h
     ·refine aa ?_;refine bQ rfl aA rfl [] (src (cT)) rfl [] trivial (bd _ (by kernel_rfl)) rfl ?_;refine aa ?_;refine ad rfl ?_ ?_ <;> intro h
      ·obtain⟨j,hj1⟩: ∃j,W.length=j + 1:=⟨W.length - 1,om⟩
       have fb:aj (dz W.length none (some (.int .i64 ((W.length:Int) - 1)))) (0,j):=by
        have:=jo (n:=W.length) (k:=j) (κ:= .i64) om;rw [show (j:Int)=(W.length:Int) - 1 by omega] at this;exact aj.mk this
       have fh:=bE.mk (pK W);obtain⟨W2,hW2⟩: ∃W2,W2=W.take j:=⟨_,rfl⟩
       have hW2l:W2.length=j:=by rw [hW2,b₈];omega
       have he1:aU (cutL (W.map bk) 0 j) (W2.map bk):=aU.mk (by rw [hW2];unfold cutL;rw [List.drop_zero,Nat.sub_zero,List.map_take]);have he2:aU (j - 0) W2.length:=aU.mk om;refine aa ?_;exact⟨(K + 1,W2),⟨dm,dm,fun r hr=>h3 r (b₁ (by dsimp only at hr;rw [hW2] at hr;exact hr))⟩,dm,(by dsimp only;exact vm [(1,_),(2,_)] [])⟩
      ·refine aa ?_;exact hj.nrm (K + 1,W) ⟨dm,h2,h3⟩ (by dsimp only;exact vm [(1,_),(2,_)] [])
     ·refine aa ?_;exact hj.nrm (K + 1,W) ⟨dm,h2,h3⟩ (by dsimp only;exact vm [(1,_),(2,_)] [])
    ·refine aa ?_;exact hj.nrm (K,W) ⟨dm,h2,h3⟩ (by dsimp only;exact vm [(1,_),(2,_)] [])
   ·obtain⟨K5,W5⟩:=x;dsimp only at hx ⊢;have hcf:=hn.st.cfg;have hth:=hn.th;have htt:=hn.tt;have hst:=hn.st.time;have hns:=hcf.nodes;have hsf:=hcf.self;obtain⟨m5,hm5,c5⟩:=bg (G:=G) L K5 5 om om om;have hmx:aU (if n.st.cfg.nodes < 1 then 1 else n.st.cfg.nodes) n.st.cfg.nodes:=aU.mk (if_neg om);have hrem:aU ((n.tip.height + 1).tmod n.st.cfg.nodes) ((n.tip.height + 1) % n.st.cfg.nodes):=aU.mk (Int.tmod_eq_emod_of_nonneg om);have hrm:0≤(n.tip.height + 1) % n.st.cfg.nodes∧(n.tip.height + 1) % n.st.cfg.nodes < 9:=by
     have:=b₃ (n.tip.height + 1) (show n.st.cfg.nodes≠0 by omega);have:=b₆ (n.tip.height + 1) (show(0:Int) < n.st.cfg.nodes by omega);omega
    generalize (n.tip.height + 1) % n.st.cfg.nodes=rm at *;have cM:=Il (G:=G) n.tip (n.st.time + m5) rm W5 om om om (fun x hx2=>by have:=hx.2.2 x hx2;omega);have hbk:=qn (time:=n.st.time + m5) (prop:=rm) hn.tip om om (by unfold cj;omega) (by unfold cj;omega) om hx.2.2;have hbh:=qo n.tip (n.st.time + m5) rm W5;have hbt:(if n.tip.time + 1 > n.st.time + m5 then n.tip.time + 1 else n.st.time + m5)≤100 * (B + 1):=by split <;> omega
    rw [← hbh.2] at hbt;replace hbh:=hbh.1;generalize dU n.tip (n.st.time + m5) rm W5=b at *;refine aa ?_;refine al [ae 0,ae 1,ae 2,ae 3,ae 4,ae 5,dj 6,ae 7,ae 8,ae 9,ae 10,ae 11,ae 12,ae 13,ae 14,ae 15,ae 16,dj 17,ae 18,ae 19] ?_;refine aa ?_;refine cK rfl aA rfl [0] (c5) [(0,0)] [] ⟨rfl,trivial,rfl,lm,mm⟩ rfl rfl rfl rfl ?_;refine aa ?_;refine bQ rfl aA rfl [] (cM) rfl [] trivial (bd _ (by kernel_rfl)) rfl ?_;clear cM;obtain⟨⟨bh,bt,bp,bpar,btx,bap,bre⟩,btxs⟩:=b;obtain⟨⟨k1,k2,k3,k4,k5,k6,k7⟩,kn,kl⟩:=hbk;dsimp only at k1 k2 k3 k4 k5 k6 k7 kn kl hbt hbh;dsimp only [blkM,hdM];unfold cj at k1 k2 k3;obtain⟨m14,hm14,c14⟩:=bg (G:=G) L (K5 + 1) 14 om om om;refine aa ?_;refine yc (c14) [(0,0)] ?_;refine aa ?_;refine ad rfl ?_ ?_ <;> intro h
    ·obtain⟨m3,hm3,c3⟩:=bg (G:=G) L (K5 + 1 + 1) 3 om om om;refine aa ?_;refine al [ae 0,ae 1,ae 2,ae 3,dj 4,ae 5,ae 6,ae 7,ae 8,ae 9] ?_;refine aa ?_;refine cK rfl aA rfl [0] (c3) [(0,0)] [] ⟨rfl,trivial,rfl,lm,mm⟩ rfl rfl rfl rfl ?_;have hb2:dI ⟨⟨bh + ((m3:Int) - 1),bt,bp,bpar,btx,bap,bre⟩,btxs⟩:=⟨⟨by unfold cj;dsimp only;omega,k2,k3,k4,k5,k6,k7⟩,kn,kl⟩;have cF:=ic (G:=G) _ hb2;refine aa ?_;refine jW (cF) ?_;exact⟨_,_,_,⟨K5 + 1 + 1 + 1,⟨⟨om,_,hb2,rfl,hbt⟩,rfl⟩,rfl,rfl⟩,en [_]⟩
    ·refine aa ?_;refine ad rfl ?_ ?_ <;> intro h
     ·obtain⟨m32,hm32,c32⟩:=bg (G:=G) L (K5 + 1 + 1) 32 om om om;have hi:m32 < bpar.length:=om;have g1:=aj.mk (Nn (a:=bh) (b:=bt) (c:=bp) (t:=keyM btx) (u:=keyM bap) (v:=keyM bre) (x:= .sl btxs.length (btxs.map bk)) hi);have g2:=aj.mk (No (a:=bh) (b:=bt) (c:=bp) (t:=keyM btx) (u:=keyM bap) (v:=keyM bre) (x:= .sl btxs.length (btxs.map bk)) hi (UInt8.ofNat ((bpar.getD m32 0).toNat + 1)));have g3:=Li (bpar.getD m32 0);have hpl:(bpar.set m32 (UInt8.ofNat ((bpar.getD m32 0).toNat + 1))).length=32:=by rw [List.length_set];exact k4
      generalize bpar.getD m32 0=y at *;generalize bpar.set m32 (UInt8.ofNat (y.toNat + 1))=bpar2 at *;refine aa ?_;refine yc (c32) [(0,0)] ?_;have hb2:dI ⟨⟨bh,bt,bp,bpar2,btx,bap,bre⟩,btxs⟩:=⟨⟨k1,k2,k3,hpl,k5,k6,k7⟩,kn,kl⟩;have cF:=ic (G:=G) _ hb2;refine aa ?_;refine jW (cF) ?_;exact⟨_,_,_,⟨K5 + 1 + 1 + 1,⟨⟨om,_,hb2,rfl,hbt⟩,rfl⟩,rfl,rfl⟩,en [_]⟩
     ·refine aa ?_;refine ad rfl ?_ ?_ <;> intro h
      ·cases bap with
       | nil=>exact absurd k6 sm
       | cons y ys=>
        have g3:=Li y;have hb2:dI ⟨⟨bh,bt,bp,bpar,btx,UInt8.ofNat (y.toNat + 1) :: ys,bre⟩,btxs⟩:=⟨⟨k1,k2,k3,k4,k5,by simpa using k6,k7⟩,kn,kl⟩;have cF:=ic (G:=G) _ hb2;refine aa ?_;refine jW (cF) ?_;exact⟨_,_,_,⟨K5 + 1 + 1,⟨⟨om,_,hb2,rfl,hbt⟩,rfl⟩,rfl,rfl⟩,en [_]⟩
      ·refine aa ?_;refine ad rfl ?_ ?_ <;> intro h
       ·cases bre with
        | nil=>exact absurd k7 sm
        | cons y ys=>
         have g3:=Li y;have hb2:dI ⟨⟨bh,bt,bp,bpar,btx,bap,UInt8.ofNat (y.toNat + 1) :: ys⟩,btxs⟩:=⟨⟨k1,k2,k3,k4,k5,k6,by simpa using k7⟩,kn,kl⟩;have cF:=ic (G:=G) _ hb2;refine aa ?_;refine jW (cF) ?_;exact⟨_,_,_,⟨K5 + 1 + 1,⟨⟨om,_,hb2,rfl,hbt⟩,rfl⟩,rfl,rfl⟩,en [_]⟩
       ·refine aa ?_;refine ad rfl ?_ ?_ <;> intro h
        ·cases btx with
         | nil=>exact absurd k5 sm
         | cons y ys=>
          have g3:=Li y;have hb2:dI ⟨⟨bh,bt,bp,bpar,UInt8.ofNat (y.toNat + 1) :: ys,bap,bre⟩,btxs⟩:=⟨⟨k1,k2,k3,k4,by simpa using k5,k6,k7⟩,kn,kl⟩;have cF:=ic (G:=G) _ hb2;refine aa ?_;refine jW (cF) ?_;exact⟨_,_,_,⟨K5 + 1 + 1,⟨⟨om,_,hb2,rfl,hbt⟩,rfl⟩,rfl,rfl⟩,en [_]⟩
        ·refine aa ?_;refine ad rfl ?_ ?_ <;> intro h
         ·obtain⟨m2,hm2,c2⟩:=bg (G:=G) L (K5 + 1 + 1) 2 om om om;refine aa ?_;refine al [ae 0,ae 1,ae 2,ae 3,dj 4,ae 5,ae 6,ae 7,ae 8] ?_;refine aa ?_;refine cK rfl aA rfl [0] (c2) [(0,0)] [] ⟨rfl,trivial,rfl,lm,mm⟩ rfl rfl rfl rfl ?_;have hb2:dI ⟨⟨bh,n.tip.time + (m2:Int),bp,bpar,btx,bap,bre⟩,btxs⟩:=⟨⟨k1,by unfold cj;dsimp only;omega,k3,k4,k5,k6,k7⟩,kn,kl⟩;have cF:=ic (G:=G) _ hb2;refine aa ?_;refine jW (cF) ?_;exact⟨_,_,_,⟨K5 + 1 + 1 + 1,⟨⟨om,_,hb2,rfl,dm⟩,rfl⟩,rfl,rfl⟩,en [_]⟩
         ·refine aa ?_;refine ad rfl ?_ ?_ <;> intro h
          ·obtain⟨m3,hm3,c3⟩:=bg (G:=G) L (K5 + 1 + 1) 3 om om om;refine aa ?_;refine yc (c3) [(0,0)] ?_;have hb2:dI ⟨⟨bh,bt,(m3:Int),bpar,btx,bap,bre⟩,btxs⟩:=⟨⟨k1,k2,by unfold cj;dsimp only;omega,k4,k5,k6,k7⟩,kn,kl⟩;have cF:=ic (G:=G) _ hb2;refine aa ?_;refine jW (cF) ?_;exact⟨_,_,_,⟨K5 + 1 + 1 + 1,⟨⟨om,_,hb2,rfl,hbt⟩,rfl⟩,rfl,rfl⟩,en [_]⟩
          ·refine aa ?_;have hb2:dI ⟨⟨bh,bt,bp,bpar,btx,bap,bre⟩,btxs⟩:=⟨⟨k1,k2,k3,k4,k5,k6,k7⟩,kn,kl⟩;have cF:=ic (G:=G) _ hb2;refine aa ?_;refine jW (cF) ?_;exact⟨_,_,_,⟨K5 + 1 + 1,⟨⟨om,_,hb2,rfl,hbt⟩,rfl⟩,rfl,rfl⟩,en [_]⟩
end
section
variable {G:GS}
attribute [local irreducible] ak aB aD aI aN vC aW aw
section
variable {T:bB} {rs:List ResultVar} {M:VM} {E:VE} {n:Nat}
theorem jz {P:MV→Nat→Prop} {L:List Int} (vs rv:List MV) (k:Nat) (bs:List (Nat×Nat)) (h1:dY T M E rs (fun v=>v=vs)) (hm:eB 1 rv (ej L k) 1 vs M [] bs) (hf:dM (iy rv)=true) (hP:P (iy rv) k):tJ T 1 rs (fun r M n=> ∃k',(P r k'∧dM r=true)∧M=ej L k'∧n=1) .ret E M n:=
 eQ (fun v hv=>by subst hv;exact⟨iy rv,ej L k,1,⟨k,⟨hP,hf⟩,rfl,rfl⟩,rv,[],bs,rfl,hm⟩) h1
end
structure Pm (B:Nat) (k on ob og:Int) (raw:List UInt8):Prop where
 kr:1≤k∧k≤9
 i1:cj on
 i2:cj ob
 i3:cj og
 k12:k=1∨k=2→raw.length≤4096
 k3:k=3→on≤100
 k67:k=6∨k=7→∃b0:dv,dI b0∧raw=qb b0∧b0.hd.time≤100 * (B + 1)
abbrev Je:List MV:= [.int .i64 1, .int .i64 1, .int .i64 1, .int .i64 2, .int .i64 2, .int .i64 3, .int .i64 4, .int .i64 4, .int .i64 5, .int .i64 5, .int .i64 6, .int .i64 7, .int .i64 8, .int .i64 9, .int .i64 9]
theorem Lj {k:Nat} (hk:k < 15): ∃v:Int,bF Je 15 (k:Int)=some (.int .i64 v)∧(v=1∨v=2∨v=3∨v=4∨v=5∨v=6∨v=7∨v=8∨v=9):=by
 have h: ∀k < 15,∃v:Int,Je[k]? =some (.int .i64 v)∧(v=1∨v=2∨v=3∨v=4∨v=5∨v=6∨v=7∨v=8∨v=9):=by
  intro k hk;have:k=0∨k=1∨k=2∨k=3∨k=4∨k=5∨k=6∨k=7∨k=8∨k=9∨k=10∨k=11∨k=12∨k=13∨k=14:=om;rcases this with rfl | rfl | rfl | rfl | rfl | rfl | rfl | rfl | rfl | rfl | rfl | rfl | rfl | rfl | rfl <;> exact⟨_,rfl,by decide⟩
 obtain⟨v,h1,h2⟩:=h k hk;exact⟨v,cO hk h1,h2⟩
abbrev Pz (B N:Nat) (r:MV) (N':Nat):Prop:=N'≤N + 2000000∧∃k on ob og raw,r=so k on ob og raw∧Pm B k on ob og raw
theorem AV {k:Int} {p:Prop} (h1: ¬ k=1) (h2: ¬ k=2):k=1∨k=2→p:=fun h=>h.elim (fun h=>absurd h h1) (fun h=>absurd h h2)
theorem sr {k:Int} {p:Prop} (h1: ¬ k=6) (h2: ¬ k=7):k=6∨k=7→p:=fun h=>h.elim (fun h=>absurd h h1) (fun h=>absurd h h2)
theorem cY {x:Int} (h1: -10000000≤x) (h2:x≤10000000):cj x:=by unfold cj;omega
theorem Pc [NX:Nx] {B:Nat} (L:List Int) (N:Nat) (n:oE) (hN:N < 800000000000000000) (hn:fB B n) (hB:B≤900):qY G L 103 [numP,kG n] N (Pz B N):=by
 obtain⟨m,hm,cm⟩:=bg (G:=G) L N 15 om om om;obtain⟨v,hv,hvs⟩:=Lj hm;have hv:=aj.mk hv;have hse:=hn.st.ents;have hsek:=hn.st.entk;unfold qY;refine seq' seat Tryz.func103 92 ?_;refine aa ?_;refine yc (cm) [(0,0)] ?_;refine od ([(9, .sl 15 Je),(13, .int .i64 m),(3, .ptr 1 259 0 0 []),(4, .ptr 2 5 0 0 []),(0,numP)]) (ej L (N + 1) ++ [(1,⟨120,259,false,0,[kG n]⟩),(2,⟨160,5,false,0,[.st [.int .i64 0, .int .i64 0, .int .i64 0, .int .i64 0, .nils]]⟩)]) [(3,15)] mm rfl mm mm ?_;rcases hvs with rfl | rfl | rfl | rfl | rfl | rfl | rfl | rfl | rfl
 ·have cR:=H3 (G:=G) L (N + 1) n.st.app.chk n.st.cfg.price om hn.st.app.2.1 hn.st.cfg.price;have hR:=sH (L:=L) (N:=N + 1) (price:=n.st.cfg.price) hn.st.app.2.1.2.2;generalize ja L (N + 1) n.st.app.chk.acs n.st.cfg.price=R1 at *;obtain⟨raw,K1⟩:=R1;dsimp only at cR hR;obtain⟨m6,hm6,c6⟩:=bg (G:=G) L K1 6 om om om;refine aa ?_;refine yc (cR) [(0,0)] ?_;refine aa ?_;refine ag rfl rfl ?_ rfl ?_ <;> intro h
  ·have hk0:0 < n.st.ents.length:=by have:=ot h;omega
   obtain⟨mk,hmk,ck⟩:=bg (G:=G) L (K1 + 1) n.st.ents.length hk0 om om;have hel:=eG hmk;have hrl:=(hsek _ (a₇ hmk)).raw;generalize n.st.ents[mk] =e at *;have hel:=aj.mk hel;refine aa ?_;refine yc (c6) [(0,0)] ?_;refine aa ?_;refine ad rfl ?_ ?_ <;> intro h
   ·obtain⟨m3,hm3,c3⟩:=bg (G:=G) L (K1 + 1 + 1) 3 om om om;refine aa ?_;refine al [ae 0,ae 1,ae 2,ae 3,ae 4,dj 5,ae 6,ae 7,ae 8,ae 9,ae 10] ?_;refine aa ?_;refine cK rfl aA rfl [0] (ck) [(0,0)] [] ⟨rfl,trivial,rfl,lm,mm⟩ rfl rfl rfl rfl ?_;refine aa ?_;refine yc (c3) [(0,0)] ?_;refine aa ?_;refine jz [_] [so 1 (1 + (m3:Int)) 0 0 e.raw] (K1 + 1 + 1 + 1) [] (by exact rvq) ⟨rfl,trivial,rfl,lm,mm⟩ (by kernel_rfl) ⟨om,_,_,_,_,_,rfl,⟨⟨by decide,by decide⟩,cY om om,cY (by decide) (by decide),cY (by decide) (by decide),fun _=>hrl,fun h=>absurd h (by decide),sr (by decide) (by decide)⟩⟩
   ·obtain⟨m3,hm3,c3⟩:=bg (G:=G) L (K1 + 1) 3 om om om;refine aa ?_;refine yc (c3) [(0,0)] ?_;refine aa ?_;refine jz [_] [so 1 (1 + (m3:Int)) 0 0 raw] (K1 + 1 + 1) [] (by exact rvq) ⟨rfl,trivial,rfl,lm,mm⟩ (by kernel_rfl) ⟨om,_,_,_,_,_,rfl,⟨⟨by decide,by decide⟩,cY om om,cY (by decide) (by decide),cY (by decide) (by decide),fun _=>hR.1,fun h=>absurd h (by decide),sr (by decide) (by decide)⟩⟩
  ·obtain⟨m3,hm3,c3⟩:=bg (G:=G) L K1 3 om om om;refine aa ?_;refine yc (c3) [(0,0)] ?_;refine aa ?_;refine jz [_] [so 1 (1 + (m3:Int)) 0 0 raw] (K1 + 1) [] (by exact rvq) ⟨rfl,trivial,rfl,lm,mm⟩ (by kernel_rfl) ⟨om,_,_,_,_,_,rfl,⟨⟨by decide,by decide⟩,cY om om,cY (by decide) (by decide),cY (by decide) (by decide),fun _=>hR.1,fun h=>absurd h (by decide),sr (by decide) (by decide)⟩⟩
 ·have cR:=H3 (G:=G) L (N + 1) n.st.app.chk n.st.cfg.price om hn.st.app.2.1 hn.st.cfg.price;have hR:=sH (L:=L) (N:=N + 1) (price:=n.st.cfg.price) hn.st.app.2.1.2.2;generalize ja L (N + 1) n.st.app.chk.acs n.st.cfg.price=R1 at *;obtain⟨raw,K1⟩:=R1;dsimp only at cR hR;obtain⟨m6,hm6,c6⟩:=bg (G:=G) L K1 6 om om om;refine aa ?_;refine yc (cR) [(0,0)] ?_;refine aa ?_;refine ag rfl rfl ?_ rfl ?_ <;> intro h
  ·have hk0:0 < n.st.ents.length:=by have:=ot h;omega
   obtain⟨mk,hmk,ck⟩:=bg (G:=G) L (K1 + 1) n.st.ents.length hk0 om om;have hel:=eG hmk;have hrl:=(hsek _ (a₇ hmk)).raw;generalize n.st.ents[mk] =e at *;have hel:=aj.mk hel;refine aa ?_;refine yc (c6) [(0,0)] ?_;refine aa ?_;refine ad rfl ?_ ?_ <;> intro h
   ·obtain⟨m3,hm3,c3⟩:=bg (G:=G) L (K1 + 1 + 1) 3 om om om;refine aa ?_;refine al [ae 0,ae 1,ae 2,ae 3,ae 4,dj 5,ae 6,ae 7,ae 8,ae 9,ae 10] ?_;refine aa ?_;refine cK rfl aA rfl [0] (ck) [(0,0)] [] ⟨rfl,trivial,rfl,lm,mm⟩ rfl rfl rfl rfl ?_;refine aa ?_;refine yc (c3) [(0,0)] ?_;refine aa ?_;refine jz [_] [so 2 (1 + (m3:Int)) 0 0 e.raw] (K1 + 1 + 1 + 1) [] (by exact rvq) ⟨rfl,trivial,rfl,lm,mm⟩ (by kernel_rfl) ⟨om,_,_,_,_,_,rfl,⟨⟨by decide,by decide⟩,cY om om,cY (by decide) (by decide),cY (by decide) (by decide),fun _=>hrl,fun h=>absurd h (by decide),sr (by decide) (by decide)⟩⟩
   ·obtain⟨m3,hm3,c3⟩:=bg (G:=G) L (K1 + 1) 3 om om om;refine aa ?_;refine yc (c3) [(0,0)] ?_;refine aa ?_;refine jz [_] [so 2 (1 + (m3:Int)) 0 0 raw] (K1 + 1 + 1) [] (by exact rvq) ⟨rfl,trivial,rfl,lm,mm⟩ (by kernel_rfl) ⟨om,_,_,_,_,_,rfl,⟨⟨by decide,by decide⟩,cY om om,cY (by decide) (by decide),cY (by decide) (by decide),fun _=>hR.1,fun h=>absurd h (by decide),sr (by decide) (by decide)⟩⟩
  ·obtain⟨m3,hm3,c3⟩:=bg (G:=G) L K1 3 om om om;refine aa ?_;refine yc (c3) [(0,0)] ?_;refine aa ?_;refine jz [_] [so 2 (1 + (m3:Int)) 0 0 raw] (K1 + 1) [] (by exact rvq) ⟨rfl,trivial,rfl,lm,mm⟩ (by kernel_rfl) ⟨om,_,_,_,_,_,rfl,⟨⟨by decide,by decide⟩,cY om om,cY (by decide) (by decide),cY (by decide) (by decide),fun _=>hR.1,fun h=>absurd h (by decide),sr (by decide) (by decide)⟩⟩
 ·obtain⟨m9,hm9,c9⟩:=bg (G:=G) L (N + 1) 9 om om om;refine aa ?_;refine yc (c9) [(0,0)] ?_;refine aa ?_;refine jz [_] [so 3 (1 + (m9:Int)) 0 0 []] (N + 1 + 1) [] (by exact rvq) ⟨rfl,trivial,rfl,lm,mm⟩ (by kernel_rfl) ⟨om,_,_,_,_,_,rfl,⟨⟨by decide,by decide⟩,cY om om,cY (by decide) (by decide),cY (by decide) (by decide),AV (by decide) (by decide),fun _=>by omega,sr (by decide) (by decide)⟩⟩
 ·obtain⟨ma,hma,ca⟩:=bg (G:=G) L (N + 1) 700 om om om;obtain⟨mb,hmb,cb⟩:=bg (G:=G) L (N + 1 + 1) 1500 om om om;obtain⟨mc,hmc,cc⟩:=bg (G:=G) L (N + 1 + 1 + 1) 2 om om om;refine aa ?_;refine yc (ca) [(0,0)] ?_;refine aa ?_;refine yc (cb) [(0,0)] ?_;refine aa ?_;refine yc (cc) [(0,0)] ?_;refine aa ?_;refine ad rfl ?_ ?_ <;> intro h
  ·refine aa ?_;refine jz [_] [so 4 0 1048576 (-1) []] (N + 1 + 1 + 1 + 1) [] (by exact rvq) ⟨rfl,trivial,rfl,lm,mm⟩ (by kernel_rfl) ⟨om,_,_,_,_,_,rfl,⟨⟨by decide,by decide⟩,cY (by decide) (by decide),cY (by decide) (by decide),cY (by decide) (by decide),AV (by decide) (by decide),fun h=>absurd h (by decide),sr (by decide) (by decide)⟩⟩
  ·refine aa ?_;refine jz [_] [so 4 0 (ma:Int) ((mb:Int) - 1) []] (N + 1 + 1 + 1 + 1) [] (by exact rvq) ⟨rfl,trivial,rfl,lm,mm⟩ (by kernel_rfl) ⟨om,_,_,_,_,_,rfl,⟨⟨by decide,by decide⟩,cY (by decide) (by decide),cY om om,cY om om,AV (by decide) (by decide),fun h=>absurd h (by decide),sr (by decide) (by decide)⟩⟩
 ·refine aa ?_;refine jz [_] [so 5 0 0 0 []] (N + 1) [] (by exact rvq) ⟨rfl,trivial,rfl,lm,mm⟩ (by kernel_rfl) ⟨om,_,_,_,_,_,rfl,⟨⟨by decide,by decide⟩,cY (by decide) (by decide),cY (by decide) (by decide),cY (by decide) (by decide),AV (by decide) (by decide),fun h=>absurd h (by decide),sr (by decide) (by decide)⟩⟩
 ·have cF:=rY (G:=G) L (N + 1) n om hn hB;refine aa ?_;refine kz rfl aA rfl (cF) rfl 0 [] ⟨rfl,trivial,rfl,lm,mm⟩ rfl ?_;rintro _ K1 ⟨hK1,b0,hb0,rfl,hbt⟩;refine aa ?_;refine jz [_] [so 6 0 0 0 (qb b0)] (K1) [] (by exact rvq) ⟨rfl,trivial,rfl,lm,mm⟩ (by kernel_rfl) ⟨om,_,_,_,_,_,rfl,⟨⟨by decide,by decide⟩,cY (by decide) (by decide),cY (by decide) (by decide),cY (by decide) (by decide),AV (by decide) (by decide),fun h=>absurd h (by decide),fun _=>⟨b0,hb0,rfl,hbt⟩⟩⟩
 ·have cF:=rY (G:=G) L (N + 1) n om hn hB;refine aa ?_;refine kz rfl aA rfl (cF) rfl 0 [] ⟨rfl,trivial,rfl,lm,mm⟩ rfl ?_;rintro _ K1 ⟨hK1,b0,hb0,rfl,hbt⟩;refine aa ?_;refine jz [_] [so 7 0 0 0 (qb b0)] (K1) [] (by exact rvq) ⟨rfl,trivial,rfl,lm,mm⟩ (by kernel_rfl) ⟨om,_,_,_,_,_,rfl,⟨⟨by decide,by decide⟩,cY (by decide) (by decide),cY (by decide) (by decide),cY (by decide) (by decide),AV (by decide) (by decide),fun h=>absurd h (by decide),fun _=>⟨b0,hb0,rfl,hbt⟩⟩⟩
 ·refine aa ?_;refine jz [_] [so 8 0 0 0 []] (N + 1) [] (by exact rvq) ⟨rfl,trivial,rfl,lm,mm⟩ (by kernel_rfl) ⟨om,_,_,_,_,_,rfl,⟨⟨by decide,by decide⟩,cY (by decide) (by decide),cY (by decide) (by decide),cY (by decide) (by decide),AV (by decide) (by decide),fun h=>absurd h (by decide),sr (by decide) (by decide)⟩⟩
 ·obtain⟨m9,hm9,c9⟩:=bg (G:=G) L (N + 1) 3 om om om;refine aa ?_;refine yc (c9) [(0,0)] ?_;refine aa ?_;refine jz [_] [so 9 (1 + (m9:Int)) 0 0 []] (N + 1 + 1) [] (by exact rvq) ⟨rfl,trivial,rfl,lm,mm⟩ (by kernel_rfl) ⟨om,_,_,_,_,_,rfl,⟨⟨by decide,by decide⟩,cY om om,cY (by decide) (by decide),cY (by decide) (by decide),AV (by decide) (by decide),fun h=>absurd h (by decide),sr (by decide) (by decide)⟩⟩
end
section
theorem FV (a:bf) (m:List bf):uY (a :: m)=a.bal + uY m:=by simp [uY]
end
section
variable {G:GS}
attribute [local irreducible] ak aB aD aI aN vC aW aw
def Nz:Nat→List UInt8
 | 0=> [97,110,110]
 | 1=> [98,111,98]
 | 2=> [101,118,101]
 | _=> [122,111,101]
theorem Lk {k:Nat} (hk:k < 4): ∃nm:List UInt8,bW [MV.str [97,110,110],MV.str [98,111,98],MV.str [101,118,101],MV.str [122,111,101]] (0 + k)=some (.str nm)∧nm.length≤5∧nm=Nz k:=by
 have h4:k=0∨k=1∨k=2∨k=3:=om;rcases h4 with rfl | rfl | rfl | rfl <;> exact⟨_,rfl,by decide,rfl⟩
theorem Ll {k:Nat} (hk:k < 5): ∃v:Nat,bW [MV.int .u64 100000,MV.int .u64 5000,MV.int .u64 700,MV.int .u64 0,MV.int .u64 1099511627776] (0 + k)=some (.int .u64 (v:Int))∧bo v∧v≤1099511627776:=by
 have h5:k=0∨k=1∨k=2∨k=3∨k=4:=om;rcases h5 with rfl | rfl | rfl | rfl | rfl
 ·exact⟨100000,rfl,by decide,by decide⟩
 ·exact⟨5000,rfl,by decide,by decide⟩
 ·exact⟨700,rfl,by decide,by decide⟩
 ·exact⟨0,rfl,by decide,by decide⟩
 ·exact⟨1099511627776,rfl,by decide,by decide⟩
theorem Lm {i k:Nat} (hi:i < 4) (hk:k < 4) (h:Nz i=Nz k):i=k:=by
 have h4:i=0∨i=1∨i=2∨i=3:=om;have k4:k=0∨k=1∨k=2∨k=3:=om;rcases h4 with rfl | rfl | rfl | rfl <;> rcases k4 with rfl | rfl | rfl | rfl <;> first | rfl | exact absurd h (by decide)
theorem Np {k:Nat} (hk:k < 4):dS (Nz k)=true:=by
 have k4:k=0∨k=1∨k=2∨k=3:=om;rcases k4 with rfl | rfl | rfl | rfl <;> decide
structure Jm (j:Nat) (acs:List bf):Prop where
 nm: ∀a∈acs,∃k,j≤k∧k < 4∧a.name=Nz k
 ne:acs.Pairwise fun a b=>a.name≠b.name
 bal: ∀a∈acs,a.bal≤1099511627776
theorem Jm.push {i:Nat} {acs:List bf} {nm:List UInt8} {b s:Nat} (h:Jm (i + 1) acs) (hn:nm=Nz i) (hb:b≤1099511627776) (hi:i < 4):Jm i (acs ++ [⟨nm,b,s⟩]):=by
 subst hn;refine⟨fun a ha=>?_,List.pairwise_append.2 ⟨h.ne,List.pairwise_singleton _ _,fun a ha c hc e=>?_⟩,fun a ha=>?_⟩
 ·rcases a₄.1 ha with ha | ha
  ·obtain⟨k,h1,h2,h3⟩:=h.nm a ha;exact⟨k,om,h2,h3⟩
  ·rw [a₀.1 ha];exact⟨i,a₃ _,hi,rfl⟩
 ·obtain⟨k,h1,h2,h3⟩:=h.nm a ha;rw [a₀.1 hc,h3] at e;have:=Lm h2 hi e;omega
 ·rcases a₄.1 ha with ha | ha
  ·exact h.bal a ha
  ·rw [a₀.1 ha];exact hb
theorem Jm.mono {j:Nat} {acs:List bf} (h:Jm j acs):Jm 0 acs:=⟨fun a ha=>by obtain⟨k,_,h2,h3⟩:=h.nm a ha;exact⟨k,b₀ _,h2,h3⟩,h.ne,h.bal⟩
theorem DT: ∀(r:List bf) (ks:List (List UInt8)),(∀a∈r,dS a.name=true)→r.Pairwise (fun a b=>a.name≠b.name)→(∀a∈r,a.name ∉ ks)→sn r ks=0
 | [],_,_,_,_=>rfl
 | a :: r,ks,h1,h2,h3=>by
  have hp:=List.pairwise_cons.1 h2
  rw [sn,if_neg (by rw [h1 a (a₉ ..)];simp),if_neg (h3 a (a₉ ..))]
  refine DT r _ (fun b hb=>h1 b (a₈ _ hb)) hp.2 fun b hb hm=>?_
  rcases a₄.1 hm with hm | hm
  ·exact h3 b (a₈ _ hb) hm
  ·exact hp.1 b hb (a₀.1 hm).symm
theorem DU: ∀(l:List bf) (B:Nat),(∀a∈l,a.bal≤B)→uY l≤l.length * B
 | [],_,_=>b₀ _
 | a :: r,B,h=>by
  have:=DU r B fun x hx=>h x (a₈ _ hx)
  have:=h a (a₉ ..)
  rw [FV,b₇,Nat.succ_mul]
  omega
theorem Ln {acs:List bf} (h:Jm 0 acs) (hl:acs.length≤4):(jB acs).2=0:=by
 have h1:(i6 acs []).2=0:=by
  rw [Ck acs [] [] List.Pairwise.nil (fun nm=>by simp [bz])];exact DT acs [] (fun a ha=>by obtain⟨k,_,h2,h3⟩:=h.nm a ha;rw [h3];exact Np h2) h.ne sm
 have h2:=Cl acs [] List.Pairwise.nil h1;have hb:=DU acs 1099511627776 h.bal;have hm:acs.length * 1099511627776≤4 * 1099511627776:=b₄ _ hl;have h3:(totS (i6 acs []).1 0).2=true:=by
  rw [wQ (m:=acs) (by simpa using h2.2)];exact(yk acs 0).2 (.inr om)
 unfold jB;rw [if_neg om,if_neg (by rw [h1];simp),if_neg (by rw [h3];simp)]
theorem Jf {acs:List bf} {p:Nat} (h:Jm 0 acs) (hl:acs.length≤4):(bm acs p).2=0:=by
 unfold bm;rw [if_neg (by rw [Ln h hl];simp)]
theorem AW (L:List Int) (N:Nat) (hN:N < 4000000000000000000):qY G L 13 [numP] N fun r N'=> ∃acs:List bf,acs.length≤4∧(∀a∈acs,SmAc a)∧Jm 0 acs∧N'≤N + 14∧r= .sl acs.length (acs.map aT):=by
 obtain⟨m,hm,cm⟩:=bg (G:=G) L N 4 om om om;unfold qY;refine seq' seat Tryz.func13 36 ?_;refine aa ?_;refine yc (cm) [(0,0)] ?_;refine aa ?_;refine av (Nat×Nat×List bf) (fun x=> [(4, .int .i64 ((x.1:Int) - 1)),(3, .ms 1 3 0 x.2.2.length),(0,numP)]) (fun x=>ej L x.2.1 ++ [(1,⟨91,3,true,0,x.2.2.map aT⟩)]) 2 (fun x=>x.1 + x.2.2.length≤4∧x.2.1 + 3 * x.1≤N + 14∧(∀a∈x.2.2,SmAc a)∧Jm x.1 x.2.2) (fun x=>x.1) (m + 1,N + 1,[]) ⟨by simp;omega,dm,sm,⟨sm,List.Pairwise.nil,sm⟩⟩ (by dsimp only;exact vm [] []) ?_;rintro⟨j,K,acs⟩ ⟨h1,h2,h3,h4⟩;try dsimp only
 dsimp only at h1 h2 h3 h4;refine aa ?_;refine ad rfl ?_ ?_ <;> intro h
 ·have hj:1≤j:=by have:=ot h;omega
  obtain⟨i,rfl⟩: ∃i,j=i + 1:=⟨j - 1,om⟩
  have hcast:((i + 1:Nat):Int) - 1=(i:Int):=om;rw [hcast];obtain⟨nm,f1,g1,gn⟩:=Lk (k:=i) om;obtain⟨x5,hx5,c5⟩:=bg (G:=G) L K 5 om om om;obtain⟨bal,f2,g2,gb⟩:=Ll (k:=x5) hx5;obtain⟨x6,hx6,c6⟩:=bg (G:=G) L (K + 1) 6 om om om;obtain⟨x3,hx3,c3⟩:=bg (G:=G) L (K + 1 + 1) 3 om om om;obtain⟨sq,f3,g3⟩:=H5 (k:=x3) hx3;have f1:=aj.mk f1;have f2:=aj.mk f2;have f3:=aj.mk f3;have i1:=aj.mk (cE (n:=4) (k:=i) om);have i2:=aj.mk (cE hx5);have i3:=aj.mk (cE hx3);have hll:(acs.map aT).length=acs.length:=sm;refine aa ?_;refine al [ae 0,ae 1,ae 2,ae 3,ae 4,ae 5,dj 6,ae 7,ae 8,ae 9,ae 10,ae 11] ?_;refine aa ?_;refine cK rfl aA rfl [0] (c5) [(0,0)] [] ⟨rfl,trivial,rfl,lm,mm⟩ rfl rfl rfl rfl ?_;refine aa ?_;refine yc (c6) [(0,0)] ?_;refine aa ?_;refine ad rfl ?_ ?_ <;> intro h
  ·refine aa ?_;refine yc (c3) [(0,0)] ?_;refine aa ?_;refine aL rfl rfl (by intro R hR;refine cI hR ?_;(refine a₁ (a₃ _) ?_;refine⟨_,rfl,?_⟩;refine a₁ ⟨hll,ai (by kernel_rfl) pf⟩ ?_;refine⟨(acs ++ [(⟨nm,bal,sq⟩:bf)]).map aT,sv (by rw [a₂];rfl),acs.length + 1,sv pf,?_⟩);exact hR) rfl ?_;refine aa ?_;exact⟨(i,K + 1 + 1 + 1,acs ++ [⟨nm,bal,sq⟩]),⟨by dsimp only;rw [a₅,a₆];omega,dm,ez h3 fun a ha=>by rw [a₀.1 ha];exact⟨dm,g2,g3⟩,h4.push gn gb om⟩,dm,(by dsimp only;rw [a₅,a₆];exact(vm [(1,_)] []))⟩
  ·refine aa ?_;refine aL rfl rfl (by intro R hR;refine cI hR ?_;(refine a₁ (a₃ _) ?_;refine⟨_,rfl,?_⟩;refine a₁ ⟨hll,ai (by kernel_rfl) pf⟩ ?_;refine⟨(acs ++ [(⟨nm,bal,0⟩:bf)]).map aT,sv (by rw [a₂];rfl),acs.length + 1,sv pf,?_⟩);exact hR) rfl ?_;refine aa ?_;exact⟨(i,K + 1 + 1,acs ++ [⟨nm,bal,0⟩]),⟨by dsimp only;rw [a₅,a₆];omega,dm,ez h3 fun a ha=>by rw [a₀.1 ha];exact⟨dm,g2,by simp [bo]⟩,h4.push gn gb om⟩,dm,(by dsimp only;rw [a₅,a₆];exact(vm [(1,_)] []))⟩
 ·refine aa ?_;refine⟨_,_,_,⟨K,⟨⟨acs,om,h3,h4.mono,om,rfl⟩,rfl⟩,rfl,rfl⟩,?_⟩;refine⟨[_],[],[(1,acs.length)],rfl,rfl,?_,rfl,⟨?_,trivial⟩,?_⟩
  ·exact⟨by show acs.length≤(acs.map aT).length;simp,trivial⟩
  ·exact .inr ⟨rfl,rfl,rfl,Nat.le_of_eq (Nat.zero_add _),bc aT acs⟩
  ·exact mm
end
section
variable {G:GS}
attribute [local irreducible] ak aB aD aI aN vC aW aw
theorem Pd [NX:Nx] {B:Nat} (n:oE) (k on ob og:Int) (raw:List UInt8) (hn:fB B n) (hB:B≤800) (ho:Pm B k on ob og raw):bZ Tryz.prog G 104 [kG n,so k on ob og raw] (ND (B + 1)):=by
 obtain⟨kr,i1,i2,i3,k12,k3,k67⟩:=ho;have h:k=1∨k=2∨k=3∨k=4∨k=5∨k=6∨k=7∨k=8∨k=9:=om;rcases h with rfl | rfl | rfl | rfl | rfl | rfl | rfl | rfl | rfl
 ·exact Om n on ob og raw hn om (k12 (.inl rfl))
 ·exact On n on ob og raw hn om (k12 (.inr rfl))
 ·exact Oo n on ob og raw hn om ⟨i1.1,k3 rfl⟩
 ·exact Oq n on ob og raw hn om i2 i3
 ·exact Ot n on ob og raw hn om
 ·obtain⟨b0,h1,h2,h3⟩:=k67 (.inl rfl);exact Ou n on ob og raw hn om b0 h1 h2
 ·obtain⟨b0,h1,h2,h3⟩:=k67 (.inr rfl);exact Ov n on ob og raw hn om b0 h1 h2 h3
 ·exact Ow n on ob og raw hn om
 ·exact Ox n on ob og raw hn om
structure Oy (n:oE):Prop where
 app:fm n.st.app
 tip:jx n.tip
 th:0≤n.tip.height∧n.tip.height≤1000
 tt:0≤n.tip.time∧n.tip.time≤100000
 st:0≤n.st.time∧n.st.time≤100000
 bb:cj n.st.cfg.blkB
theorem Oy.of [NX:Nx] {B:Nat} {n:oE} (h:fB B n) (hB:B≤100):Oy n:=by
 have h1:=h.th;have h2:=h.tt;have h3:=h.st.time;have h4:=h.st.cfg.blkB;exact⟨h.st.app,h.tip,om,om,om,by unfold cj;omega⟩
def Pn (acs:List bf) (n:oE):Prop:= ∃NX:Nx,NX.c=n.st.cfg∧NX.acs=acs∧vA NX.c∧(bm NX.acs NX.c.price).2=0∧fB 100 n
abbrev PJ (N:Nat) (r:MV) (N':Nat):Prop:=N'≤N + 100000000∧∃(n:oE) (acs:List bf) (ops:Nat×List MV),r= .tup [kG n, .sl acs.length (acs.map aT), .sl ops.1 ops.2] ∧Oy n∧acs.length≤4∧(∀a∈acs,SmAc a)∧Pn acs n
theorem Jg (L:List Int) (N m:Nat) (hm:m≤20) (hN:N < 100000000000000000):qY G L 61 [numP, .int .i64 m] N (PJ N):=by
 unfold qY;refine seq' seat Tryz.func61 52 ?_;refine aa ?_;refine kz rfl aA rfl (H6 (G:=G) L N om) rfl 0 [] ⟨rfl,trivial,rfl,lm,mm⟩ rfl ?_;rintro _ K1 ⟨c,hc,hK1,rfl⟩;refine aa ?_;refine kz rfl aA rfl (AW (G:=G) L K1 om) rfl 0 [] ⟨rfl,trivial,rfl,lm,mm⟩ rfl ?_;rintro _ K2 ⟨acs,ha,hsm,hag,hK2,rfl⟩;obtain⟨NX,rfl,rfl⟩: ∃NX:Nx,NX.c=c∧NX.acs=acs:=⟨⟨c,acs⟩,rfl,rfl⟩
 have hi0:=Jf (p:=NX.c.price) hag ha;have hvc:=Ic (G:=G) NX.c;rw [uI hc] at hvc;have cN:=Of (G:=G) hc hvc om hsm hi0;clear hvc hag;refine aa ?_;refine aM (cN) rfl rfl aA (by kernel_rfl) ?_;rintro _ ⟨n,rfl,hn0⟩;refine aa ?_;obtain⟨x0,hx0,cx⟩:=bg (G:=G) L K2 (m + 1) om om om;refine aa ?_;refine yc (cx) [(0,0)] ?_;refine aa ?_;refine av (Nat×Nat×oE×List OK) (fun x=> [(12, .int .i64 x.1),(11, .ms 3 5 0 x.2.2.2.length),(9, .ptr 2 259 0 0 []),(8, .sl NX.acs.length (NX.acs.map aT)),(4, .ptr 1 259 0 0 []),(0,numP)]) (fun x=>ej L x.2.1 ++ [(1,⟨120,259,false,0,[KP]⟩),(2,⟨120,259,false,0,[kG x.2.2.1]⟩),(3,⟨160,5,true,0,x.2.2.2.map Ny⟩)]) 4
  (fun x=>x.1≤m∧x.2.1 + 2000000 * x.1≤N + 50000000∧fB (m - x.1) x.2.2.1∧x.2.2.2.length≤100 - x.1) (fun x=>x.1) (x0,K2 + 1,n,[]) ⟨dm,dm,hn0.mono (b₀ _),b₀ _⟩ (by dsimp only;exact vm [(1,_),(2,_)] []) ?_
 clear hn0 cN cx;rintro⟨i,K,n,W⟩ ⟨h1,h2,h3,h4⟩;try dsimp only
 dsimp only at h1 h2 h3 h4;refine aa ?_;refine ad rfl ?_ ?_ <;> intro h
 ·have hi:0 < i:=by have:=ot h;omega
  obtain⟨j,rfl⟩: ∃j,i=j + 1:=⟨i - 1,om⟩
  refine aa ?_;refine kz rfl aA rfl (Pc (G:=G) L K n om h3 om) rfl 0 [] ⟨rfl,trivial,rfl,lm,mm⟩ rfl ?_;rintro _ K' ⟨hK',k,on,ob,og,raw,rfl,hoc⟩;obtain⟨W2,hW2⟩: ∃W2,W2=W ++ [(⟨k,on,ob,og,raw⟩:OK)] :=⟨_,rfl⟩
  have hW2l:W2.length=W.length + 1:=by rw [hW2];simp
  have cD:=Pd (G:=G) n k on ob og raw h3 om hoc;rw [show m - (j + 1) + 1=m - j by omega] at cD;refine aa ?_;refine aL rfl rfl (by intro R hR;refine cI hR ?_;(refine a₁ (a₃ _) ?_;refine⟨_,rfl,?_⟩;refine a₁ ⟨sm,ai (by kernel_rfl) pf⟩ ?_;refine⟨W2.map Ny,sv (by rw [hW2,a₂];rfl),W2.length,sv pf,?_⟩);exact hR) rfl ?_;refine aa ?_;refine aM (cD) rfl rfl aA (by kernel_rfl) ?_;rintro _ ⟨n2,rp,rfl,hn2⟩;refine aa ?_;exact⟨(j,K',n2,W2),⟨dm,dm,hn2,dm⟩,dm,(by dsimp only;exact vm [(1,_),(2,_),(3,_)] [])⟩
 ·refine aa ?_;refine jz [_,_,_] [kG n, .sl NX.acs.length (NX.acs.map aT), .sl W.length (W.map Ny)] K [(3,W.length)] (by(refine au ?_);exact rfl) ⟨rfl,⟨by show W.length≤(W.map Ny).length;simp,trivial⟩,rfl,lm,mm⟩ (by kernel_rfl) ⟨om,n,NX.acs,(W.length,W.map Ny),rfl,Oy.of h3 om,ha,hsm,NX,h3.st.fx.1.symm,rfl,hc,hi0,h3.mono om⟩
abbrev PS (L:List Int) (r:MV) (M:VM) (k:Nat):Prop:= ∃(N:Nat) (n:oE) (acs:List bf) (bl:Nat×List MV),N≤100000000∧r= .tup [fw n.tip, .sl bl.1 bl.2,cfM n.st.cfg, .sl acs.length (acs.map aT),gD n.st,numP] ∧M=ej L N∧k=1∧Oy n∧acs.length≤4∧(∀a∈acs,SmAc a)∧Pn acs n∧bl=(n.blocks.length,n.blocks.map blkM)
end
section
variable {G:GS}
attribute [local irreducible] ak aB aD aI aN vC aW aw
section
variable {T:bB} {rs:List ResultVar} {M:VM} {E:VE} {n:Nat}
theorem Oz {Φ:MV→VM→Nat→Prop} (vs rv:List MV) (M1:VM) (n1:Nat) (σ bs:List (Nat×Nat)) (h1:dY T M E rs (fun v=>v=vs)) (hm:eB 0 rv M1 n1 vs M σ bs) (hΦ:Φ (iy rv) M1 n1):tJ T 0 rs Φ .ret E M n:=
 eQ (fun v hv=>by subst hv;exact⟨iy rv,M1,n1,hΦ,rv,σ,bs,rfl,hm⟩) h1
end
theorem Lo (L:List Int):ti Tryz.prog G 39 [iQ L] [] 0 (PS L):=by
 refine seq' seat Tryz.func39 31 ?_;refine aa ?_;refine yc (Mn (G:=G) L) [] ?_;refine aa ?_;refine kz rfl aA rfl (Jg (G:=G) L 0 14 om om) rfl 7 [] ⟨rfl,trivial,rfl,lm,mm⟩ rfl ?_;rintro _ N1 ⟨hN1,n,acs,ops,rfl,hw,ha,hsm,hpr⟩;refine aa ?_;refine al [ae 0,ae 1,ae 2,ae 3,ae 4,ae 5,ae 6,ae 7,ae 8,ae 9,ae 10,ae 11,ae 12,ae 13,ae 14,ae 15,ae 16] ?_;refine aa ?_;refine Oz [_,_,_,_,_,_] [fw n.tip, .sl n.blocks.length (n.blocks.map blkM),cfM n.st.cfg, .sl acs.length (acs.map aT),gD n.st,numP] (ej L N1) 1 [(0,7)] [] (by(refine au ?_);exact rfl) ⟨rfl,trivial,rfl,lm,mm⟩ ⟨N1,n,acs,(n.blocks.length,n.blocks.map blkM),om,rfl,rfl,rfl,hw,ha,hsm,hpr,rfl⟩
end
section
theorem Jh:ee [[1]] ≠ee [[2]] :=by decide +kernel
def F0:dK:=⟨[⟨[97,110,110],9,0⟩],0⟩
def bK (t:dO):dv:=dU t 0 1 [[1]]
theorem OA {t:dO} (h1:t.height=0) (h2:t.time=0):fA t (bK t) 3 100=0:=by
 unfold fA bK dU;dsimp only;rw [h1,h2];have hw:sumB [[1]] =3:=by decide +kernel
 simp [hw]
theorem OB {t:dO} (h1:t.height=0) (h2:t.time=0):fA t (bK t) 1 100=36:=by
 unfold fA bK dU;dsimp only;rw [h1,h2];simp
theorem OC {t:dO} (h1:t.height=0) (h2:t.time=0):fA t ⟨(bK t).hd,[[2]]⟩ 3 100=35:=by
 have:=Jh;unfold fA bK dU;dsimp only;rw [h1,h2];simp [this]
theorem OD {t:dO} (h1:t.height=0) (h2:t.time=0):fA t (bK t) 3 2=3:=by
 unfold fA bK dU;dsimp only;rw [h1,h2];have hw:sumB [[1]] =3:=by decide +kernel
 simp [hw]
theorem OE {t u:dO} (h1:t.height=0) (hu:u.height=1):fA u (bK t) 3 100=30:=by
 unfold fA bK dU;dsimp only;rw [h1,hu];simp
end
section
variable {G:GS}
attribute [local irreducible] ak aB aD aI aN vC aW aw
theorem Ji (k:List Int) (hk:k.length≤140737488355328):aE Tryz.prog G 37 [.sl 1 [iQ k]] (.bool (decide (160 < k.length))):=by
 refine bA seat Tryz.func37 19 ?_;refine aa ?_;refine av Nat (fun j=> [(8, .int .i64 j),(7, .int .i64 1),(6, .sl 1 [iQ k]),(3, .int .i64 ((j * k.length:Nat):Int))]) (fun _=> []) 0 (fun j=>j≤1) (fun j=>1 - j) 0 om (by rw [Nat.zero_mul];exact vm [] []) ?_;intro j hj;try dsimp only
 refine aa ?_;refine ad rfl ?_ ?_ <;> intro h
 ·have hj':j=0:=by have:=ot h;omega
  subst hj';have hel:=aj.mk (cO (l:= [iQ k]) (n:=1) (k:=0) om rfl);rw [Nat.zero_mul];refine aa ?_;exact⟨1,by show 1≤1;omega,by show 1 - 1 < 1 - 0;omega,(by dsimp only;rw [Nat.one_mul];exact vm [] [])⟩
 ·have hj':j=1:=by have:=oF h;omega
  subst hj';rw [Nat.one_mul];refine aa ?_;refine au ?_
  show MV.bool (decide ((160:Int) < k.length))=_
  congr 1;exact decide_eq_decide.2 om
theorem Jj:eN F0:=⟨by simp [F0],by simp [F0,bo],by simp [F0,SmAc,bo]⟩
theorem Cr (b:dv) (l:dK) (r:List fu):(nI b l r).hash=gi b.hd∧(nI b l r).app=nG l:=by simp only [nI,and_self]
theorem Jk (l:dK):(iE l).app=nG l:=rfl
theorem Lp: ∀x∈([⟨4,[],0,0,0⟩] :List fu),iS x:=fun x hx=>by
 rw [a₀.1 hx];simp [iS,bo]
theorem nC:aE Tryz.prog G 38 [] (.bool true):=by
 have c1:=Im (G:=G) F0 Jj;have ht:=nA F0;have hta:=Jk F0;generalize iE F0=t at *;obtain⟨ht,ht1,ht2⟩:=ht;have c2:=Dq (G:=G) t 0 1 [[1]] om om sm sm;have hb:=qn (t:=t) (time:=0) (prop:=1) (raws:= [[1]]) ht om om (by simp [cj]) (by simp [cj]) sm sm;have k1:=OA ht1 ht2;have k2:=OB ht1 ht2;have k3:=OC ht1 ht2;have k4:=OD ht1 ht2;have k5:=fun u=>OE (t:=t) (u:=u) ht1
 have hh:=qo t 0 1 [[1]];have hbt:(bK t).txs= [[1]] :=rfl;change (bK t).hd.height=_∧(bK t).hd.time=_ at hh;change dI (bK t) at hb;change aQ _ _ _ _ _ _ (blkM (bK t)) _ _ at c2;generalize bK t=b at *;rw [ht1,ht2] at hh;rw [if_pos (by decide)] at hh;obtain⟨hh1,hh2⟩:=hh;replace hh1:b.hd.height=1:=hh1;replace hh2:b.hd.time=1:=hh2;have cA:=Io (G:=G) t b F0 [⟨4,[],0,0,0⟩] hb.hd Jj sm Lp;have hu:=qd F0 [⟨4,[],0,0,0⟩] hb.hd;obtain⟨hu1,hu2⟩:=Cr b F0 [⟨4,[],0,0,0⟩];generalize nI b F0 [⟨4,[],0,0,0⟩] =u at *;obtain⟨hu,hu3,_⟩:=hu;have cH:=ow (G:=G) b.hd hb.hd;rw [← hu1] at cH;rw [← hu2] at hta;have i3:cj 3:=by simp [cj]
 have i1:cj 1:=by simp [cj]
 have i2:cj 2:=by simp [cj]
 have i100:cj 100:=by simp [cj]
 have hb2:dI ⟨b.hd,[[2]]⟩:=⟨hb.hd,sm,sm⟩;have d1:=ri (G:=G) t b 3 100 ht hb.hd i3 i100 (by rw [hbt];simp) (by rw [hbt];simp);have d2:=ri (G:=G) t b 1 100 ht hb.hd i1 i100 (by rw [hbt];simp) (by rw [hbt];simp);have d3:=ri (G:=G) t ⟨b.hd,[[2]]⟩ 3 100 ht hb.hd i3 i100 sm sm;have d4:=ri (G:=G) t b 3 2 ht hb.hd i3 i2 (by rw [hbt];simp) (by rw [hbt];simp);have d5:=ri (G:=G) u b 3 100 hu hb.hd i3 i100 (by rw [hbt];simp) (by rw [hbt];simp);rw [k1] at d1;rw [k2] at d2;rw [k3] at d3;rw [k4] at d4;rw [k5 u om] at d5;have q1:aj (DZ (keyM u.hash) (keyM u.hash)) true:=aj.mk (by rw [gd rfl,decide_eq_true rfl]);have q2:aj (DZ (keyM u.app) (keyM u.app)) true:=aj.mk (by rw [gd rfl,decide_eq_true rfl]);have s1:=bE.mk (fT u.hash u.hash);have s2:=bE.mk (fT u.app u.app);obtain⟨⟨bh,bt,bp,bpar,btx,bap,bre⟩,btxs⟩:=b;obtain⟨th,tt,thash,tapp,tres⟩:=t;obtain⟨uh,ut,uhash,uapp,ures⟩:=u;dsimp only at *;subst hbt hta ht1 ht2 hh1 hh2 hu3;dsimp only [blkM,hdM,fw] at *;clear k1 k2 k3 k4 k5;refine bA seat Tryz.func38 85 ?_;refine aa ?_;refine bX rfl aA rfl (src (c1)) rfl [(2,1)] mm lm ?_;refine aa ?_;refine aL rfl rfl (by intro R hR;refine cI hR ?_;refine a₁ (a₃ 1) ?_;refine⟨[.int .u8 1],sv rfl,?_⟩;exact hR) rfl ?_;refine aa ?_;refine bX rfl aA rfl (c2) rfl [(11,1)] mm lm ?_;refine aa ?_;refine bX rfl aA rfl (src (cA)) rfl [(2,1),(18,1)] mm lm ?_;refine aa ?_;refine aL rfl rfl (by intro R hR;refine cI hR ?_;refine a₁ (a₃ 1) ?_;refine⟨[.int .u8 2],sv rfl,?_⟩;exact hR) rfl ?_;refine aa ?_;refine al [ae 0,ae 1,ae 2,ae 3,ae 4,ae 5,ae 6,ae 7,ae 8,ae 9,ae 10,ae 11,ae 12,dj 13,ae 14,ae 15,ae 16,ae 17,ae 18,dj 19,ae 20,ae 21,ae 22,ae 23,ae 24,dj 25,ae 26,ae 27,ae 28,ae 29,ae 30,dj 31,ae 32,ae 33,ae 34,ae 35,ae 36,ae 37,ae 38,ae 39,ae 40,ae 41,ae 42,ae 43,dj 44,ae 45,ae 46,ae 47,ae 48,ae 49,ae 50,ae 51,ae 52,ae 53,ae 54,ae 55,ae 56,dj 57,ae 58,ae 59,ae 60] ?_;refine aa ?_;refine bQ rfl aA rfl [] (src (d1)) rfl [] trivial (bd _ (by kernel_rfl)) rfl ?_;refine aa ?_;refine bQ rfl aA rfl [] (src (d2)) rfl [] trivial (bd _ (by kernel_rfl)) rfl ?_;refine aa ?_;refine bQ rfl aA rfl [25] (src (d3)) rfl [(25,1)] mm lm rfl ?_;refine aa ?_;refine bQ rfl aA rfl [] (src (d4)) rfl [] trivial (bd _ (by kernel_rfl)) rfl ?_;refine aa ?_;refine bQ rfl aA rfl [] (src (cH)) rfl [] trivial (bd _ (by kernel_rfl)) rfl ?_;refine aa ?_;refine bQ rfl aA rfl [] (src (d5)) rfl [] trivial (bd _ (by kernel_rfl)) rfl ?_;refine aa ?_;refine au ?_;rfl
end
section
attribute [local irreducible] ak aB aD aI aN vC aW aw
theorem DV (n m:Int): ∀(l:List dv) (i:Nat) (a:ef) (t:dO),fm a→jx t→(∀b∈l,dI b)→fm (repL n m l i a t).1∧jx (repL n m l i a t).2.1
 | [],i,a,t,ha,ht,_=>⟨ha,ht⟩
 | b :: l,i,a,t,ha,ht,hb=>by
  rw [repL]
  split
  ·exact⟨app0_sm,⟨by simp [cj],by simp [cj],sm,sm,sm⟩⟩
  ·refine DV n m l _ _ _ (DM ha) ?_ fun x hx=>hb x (a₈ _ hx)
   unfold iG
   exact(qd _ _ (hb b (a₉ ..)).hd).1
end
section
attribute [local irreducible] ak aB aD aI aN vC aW aw
theorem AX (k:List Int) (hk:k.length≤140737488355328) (at_ how:Int):aE Tryz.prog GU 9 [iQ k, .int .i64 at_, .int .i64 how] (.bool true):=by
 have cL:=Ji (G:=GU) k hk;by_cases h1:160 < k.length
 ·rw [decide_eq_true h1] at cL;unfold iQ at *;refine bA seat Tryz.func9 116 ?_;refine aa ?_;refine bX rfl aA rfl (src (cL)) rfl [(2,1)] mm lm ?_;refine aa ?_;refine aG (src (nC (G:=GU))) rfl rfl aA (by kernel_rfl) ?_;refine aa ?_;refine au ?_;rfl
 rw [decide_eq_false h1] at cL;unfold iQ at *;refine bA seat Tryz.func9 116 ?_;refine aa ?_;refine bX rfl aA rfl (src (cL)) rfl [(2,1)] mm lm ?_;refine aa ?_;refine tV rfl aA rfl (Lo (G:=GU) k) [] [] ⟨rfl,trivial,rfl,lm,mm⟩ rfl ?_;rintro _ _ _ ⟨N,n,acs,bl,hN,rfl,rfl,rfl,hw,ha,hsm,⟨NX,e1,rfl,hc,h0,hn⟩,rfl⟩;refine⟨rfl,?_⟩;have hrep:=hn.rep;have hbok:=hn.bok;have hbl:n.blocks.length≤100:=hn.blocks;have htp:=hw.tip;have htt:=hw.tt;clear hw hN cL hn;obtain⟨⟨ncfg,napp,nh,nt,narr,nents,ncache⟩,ntip,l,nsent,nheld,nprop,nlog⟩:=n;dsimp only at e1 hrep hbok hbl htp htt;dsimp only [gD];subst e1;generalize hE:nents.map bN=me;generalize nents.length=le;generalize hC:ncache.map keyM=mc;generalize ncache.length=lc;have hci:=MG hc;have hwd: ∀a∈NX.acs,qS a:=fun a h=>(hsm a h).wd
 by_cases hl0:l.length=0
 ·refine aa ?_;refine ad rfl ?_ ?_ <;> intro h
  ·have _h:=h;refine aa ?_;refine aG (src (nC (G:=GU))) rfl rfl aA (by kernel_rfl) ?_;refine aa ?_;refine au ?_;rfl
  ·exact absurd (show(l.length:Int)=0 by omega) (oF h)
 have cP:=xW (G:=GU) at_ (l.length:Int) om om;obtain⟨i,hi,hie⟩: ∃i:Nat,i < l.length∧at_ % (l.length:Int)=i:=⟨(at_ % (l.length:Int)).toNat,by have:=b₆ at_ (show(0:Int) < (l.length:Int) by omega);have:=b₃ at_ (show(l.length:Int)≠0 by omega);omega,by have:=b₃ at_ (show(l.length:Int)≠0 by omega);omega⟩
 rw [hie] at cP;have cP3:=xW (G:=GU) how 3 om om;obtain⟨j,hj,hje⟩: ∃j:Nat,j < 3∧how % 3=j:=⟨(how % 3).toNat,om,om⟩
 rw [hje] at cP3;obtain⟨a,u,r1,r2,r3,r4,r5,r6,r7⟩:=Co hrep hc htt.2 hi hj;have hix:=qU (acs:=NX.acs) (p:=NX.c.price) hwd hci.h9;have hwu:=DV NX.c.nodes NX.c.blkB (l.take i) 0 _ _ hix (nA (bm NX.acs NX.c.price).1.com).1 fun b h=>hbok b (b₁ h)
 rw [r1] at hwu;have htu:=hwu.2;have hx1:AT NX.acs NX.c (l.take i)=(a,u,0,0):=by rw [DQ hc h0,r1];rfl
 have hx2:=DQ (bl:=l.take i ++ [dU u (l[i].hd.time + j) l[i].hd.prop []]) hc h0;rw [r3] at hx2;have hbi:=hbok _ (a₇ hi);have hmb: ∀b∈l.take i,dI b:=fun b hb=>hbok b (b₁ hb)
 have hel:=aj.mk (show bF (l.map blkM) l.length (i:Int)=some (blkM l[i]) from cO hi (by simp [hi]));have fb1:=aj.mk (jo (n:=l.length) (k:=i) (κ:= .i64) om);have fb2:=bE.mk (rr l);have fb3:=aU.mk (cut_take blkM l i);have hml:(l.take i).length=i:=by rw [b₈];omega
 generalize l.take i=m at *;generalize l[i] =b at *;have cR1:=Jc NX.acs NX.c m om hwd hci om hmb;rw [hx1] at cR1;have cM:=Dq (G:=GU) u (b.hd.time + j) b.hd.prop [] om om sm sm;have hbb:dI (dU u (b.hd.time + j) b.hd.prop []):=qn htu om om (by unfold cj;omega) hbi.hd.prop sm sm;have hv:jx (iG a (dU u (b.hd.time + j) b.hd.prop [])):=by unfold iG;exact(qd _ _ hbb.hd).1
 generalize iG a (dU u (b.hd.time + j) b.hd.prop [])=v at *;generalize iF a (dU u (b.hd.time + j) b.hd.prop [])=a2 at *;generalize dU u (b.hd.time + j) b.hd.prop [] =bb at *;have cR2:=Jc NX.acs NX.c (m ++ [bb]) om hwd hci (by rw [a₅];simp;omega) (fun x hx=>(a₄.1 hx).elim (hmb x) (fun h=>a₀.1 h▸hbb));rw [hx2] at cR2;have cH1:=ow (G:=GU) bb.hd hbb.hd;have cH2:=ow (G:=GU) b.hd hbi.hd;have hl1:(gi bb.hd).length=32:=by unfold gi;exact eJ _
 have hl2:(gi b.hd).length=32:=by unfold gi;exact eJ _
 generalize gi bb.hd=H1 at *;generalize gi b.hd=H2 at *;have k1:=aj.mk (gd (a:=H1) (b:=H2) (by rw [hl1,hl2]));have k2:=bE.mk (fT H1 H2);obtain⟨m2,hm2⟩: ∃m2,m ++ [bb] =m2:=⟨_,rfl⟩
 have hm2l:m.length + 1=m2.length:=by rw [← hm2];simp
 rw [hm2] at cR2;have q1:=aj.mk (show DZ (fw u) (fw ntip)=some false by rw [Ik htu htp,decide_eq_false r2]);have q2:=bE.mk (Dp u ntip);obtain⟨⟨bh,bt,bp,bpar,btx,bap,bre⟩,btxs⟩:=b;dsimp only at *;dsimp only [blkM,hdM] at hel;refine aa ?_;refine qH Unit (fun _=> [(1, .int .i64 at_),(8, .sl l.length (l.map blkM)),(10, .sl NX.acs.length (NX.acs.map aT)),(9, .ptr 1 12 0 0 []),(7, .ptr 0 98 0 0 []),(2, .int .i64 how)]) (fun _=> [(0,⟨70,98,false,0,[fw ntip]⟩),(1,⟨66,12,false,0,[cfM NX.c]⟩)]) (fun _=>2) (fun _=>True) (fun JQ hj=>?_) (fun _ _=>?_)
 ·refine ad rfl ?_ ?_ <;> intro h
  ·exact absurd (ot h) (show ¬ (l.length:Int)=0 by omega)
  ·refine aa ?_;exact hj.nrm () trivial (vm [(0,_),(1,_)] [])
 try dsimp only
 refine aa ?_;refine dL (cP) ?_;refine aL rfl rfl (by intro R hR;refine cI hR ?_;refine a₁ ((rr _)) ?_;refine a₁ ⟨rfl,ai (by kernel_rfl) pf⟩ ?_;refine⟨m.map blkM,sv (by show [] ++ m.map blkM=_;rw [List.nil_append]),m.length,sv pf,?_⟩;exact hR) rfl ?_;refine aa ?_;refine bX rfl aA rfl (cR1) rfl [(10,m.length)] mm lm ?_;refine aa ?_;refine al [ae 0,ae 1,ae 2,ae 3,ae 4,ae 5,ae 6,ae 7,dj 8,ae 9,ae 10,ae 11,ae 12,ae 13,ae 14,ae 15,dj 16,ae 17,ae 18] ?_;refine aa ?_;refine cW (cP3) ?_;refine pF (cM) ?_;refine al [ae 0,ae 1,dj 2,ae 3,ae 4,ae 5,ae 6,ae 7,dj 8,ae 9] ?_;refine aa ?_;refine cW (cH1) ?_;refine cW (cH2) ?_;refine qH Unit (fun _=> [(14, .ms 2 132 0 m.length),(10, .sl NX.acs.length (NX.acs.map aT)),(9, .ptr 1 12 0 0 []),(7, .ptr 0 98 0 0 []),(19, .ptr 3 132 0 0 [])]) (fun _=> [(0,⟨70,98,false,0,[fw ntip]⟩),(1,⟨66,12,false,0,[cfM NX.c]⟩),(2,⟨81,132,true,m.length,m.map blkM⟩),(3,⟨81,132,false,0,[blkM bb]⟩)]) (fun _=>4) (fun _=>v≠ntip) (fun JQ hj=>?_) (fun _ hne=>?_)
 ·refine ad rfl ?_ ?_ <;> intro h
  ·have _h:=h;refine aa ?_;refine aG (src (nC (G:=GU))) rfl rfl aA (by kernel_rfl) ?_;refine aa ?_;refine au ?_;rfl
  ·refine aa ?_;exact hj.nrm () (r4 (oF h)) (vm [(0,_),(1,_),(2,_),(3,_)] [(10,m.length)])
 have q3:=aj.mk (show DZ (fw v) (fw ntip)=some false by rw [Ik hv htp,decide_eq_false hne]);have q4:=bE.mk (Dp v ntip);clear cR1 cH1 cH2 cP cP3 cM;try dsimp only
 refine aa ?_;refine al [ae 0,ae 1,ae 2,ae 3,ae 4,ae 5,dj 6,ae 7,ae 8,ae 9,ae 10,ae 11,ae 12,ae 13,ae 14,ae 15,ae 16,ae 17] ?_;refine aa ?_;refine aZ rfl (by intro R hR;refine cI hR ?_;refine a₁ (a₃ 1) ?_;refine⟨_,rfl,?_⟩;refine a₁ ⟨(by show(m.map blkM).length=m.length;rw [List.length_map]),ai (by kernel_rfl) pf⟩ ?_;refine⟨m2.map blkM,sv (by show m.map blkM ++ [blkM bb] =_;rw [← hm2,a₂];rfl),m2.length,sv pf,?_⟩;exact hR) rfl ?_;refine aa ?_;refine bQ rfl aA rfl [9] (cR2) rfl [(9,m2.length)] mm lm rfl ?_;refine aa ?_;refine aG (src (nC (G:=GU))) rfl rfl aA (by kernel_rfl) ?_;refine aa ?_;refine au ?_;rfl
end
end Go.Proofs.YtohikcplmbkmeaaGreatDoor
namespace Go.Proofs.YtohikcplmbkmeaaGreatDoor.chainUnique
open Go.Proofs.YtohikcplmbkmeaaGreatDoor
theorem r1:(Rows.chainUniqueRow.inPlace == Tryz.prog.inPlace 9)=true:=by kernel_rfl
theorem r2:(Rows.chainUniqueRow.unfollowed == Tryz.prog.unfollowed 9)=true:=by kernel_rfl
theorem r3:(Rows.chainUniqueRow.recurses == Tryz.prog.recurses 9)=true:=by kernel_rfl
theorem r4:(Rows.chainUniqueRow.named == Tryz.prog.varsNamed 9)=true:=by kernel_rfl
set_option maxRecDepth 100000 in
theorem Nq:joinedFacts Tryz.prog 9 Tryz.f9 (OpenSpec.ofChange Rows.chainUniqueSpec).bare Rows.chainUniqueRow=true:=by
 simp only [joinedFacts,Bool.and_eq_true]
 and_intros
 all_goals first
  | (with_reducible exact r1)
  | (with_reducible exact r2)
  | (with_reducible exact r3)
  | (with_reducible exact r4)
  | kernel_rfl
end Go.Proofs.YtohikcplmbkmeaaGreatDoor.chainUnique
