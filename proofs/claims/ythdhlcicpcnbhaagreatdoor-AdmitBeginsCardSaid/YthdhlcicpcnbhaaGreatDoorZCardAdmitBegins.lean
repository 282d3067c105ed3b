/- AdmitBegins: the row and the card: whatever the arguments, the law answers true and its arguments read as before. Conditions: none but what the row lists (the laid tables). -/
import Derived.Test.YthdhlcicpcnbhaaGreatDoorW12
open List renaming mem_singleton → a₀,mem_cons → a₁,getElem_mem → a₂,length_map → a₆
open Nat renaming zero_le → a₃
open And renaming intro → a₄
open Bool renaming and_eq_true → a₅
set_option maxRecDepth 20000
set_option maxHeartbeats 16000000
set_option linter.unusedVariables false
set_option linter.unusedSimpArgs false
namespace Go.Proofs.YthdhlcicpcnbhaaGreatDoor
open Go.RowKit
section
attribute [local irreducible] aj aC aG aL aO vC aU au
theorem semR_of_semX {Pg:Program} {G:GS} {f:FuncId} {args:List MV} {P:MV→Prop} {R:MV} (h:yd Pg G f args P) (hP: ∀r,P r→r=R):aH Pg G f args [] 0 R [] 0:=by
 intro w Pt adr vals a1 a2 a3 a4 a5;refine Calls.mono (h w Pt adr vals a1 a2 a3 a4 a5) ?_;rintro e w' ⟨v,h1,res,M1,n1,⟨⟨h2,_⟩,rfl,rfl⟩,h3⟩;rw [hP res h2] at h3;exact⟨v,h1,h3⟩
structure BothC (s s2:cY) (rc:Int) (rk:List UInt8) (rp:Int) (rl:List (List UInt8)) (tx:List UInt8) (peer:Int):Prop where
 p:aH Tryz.prog GU 21 [cO s, .sl tx.length (u8s tx), .int .i64 peer] [] 0 (.tup [cO s2,nY (w4 rc rk rp rl)]) [] 0
 r:aH Tryz.prog GU 22 [cO s, .sl tx.length (u8s tx), .int .i64 peer] [] 0 (.tup [cO s2,nY (w4 rc rk rp rl)]) [] 0
 sr:aD Tryz.prog GU 23 [nY (w4 rc rk rp rl),nY (w4 rc rk rp rl)] (.bool true)
 ss:aD Tryz.prog GU 18 [cO s2,cO s2] (.bool true)
theorem both_c {s:cY} (h:JT s) (tx:List UInt8) (peer:Int) (ht:tx.length≤1000000): ∃s2 rc rk rp rl,BothC s s2 rc rk rp rl tx peer:=by
 obtain⟨hs,hi⟩:=h;have c1:=pJ (FX:=vj) s tx peer ht hs om hi;have c2:=um (G:=GU) (FX:=vj) s tx peer ht hs om;obtain⟨rc,rk,rp,rl,hrl,hrq⟩:=nW (FX:=vj) tx peer hs;have hs':=nX (FX:=vj) tx peer hs om;generalize bP s tx peer=C at *;obtain⟨s2,rq⟩:=C;dsimp only at c1 hrq hs';subst hrq;refine⟨s2,rc,rk,rp,rl,c1,semR_of_semX c2 ?_,mF rc rk rp rl om,eR s2 hs'.app (by have:=hs'.ents;omega) (fun e he=>by have:=(hs'.entk e he).peers;omega) (by have:=hs'.cache;omega)⟩;rintro _ ⟨s',rp',rfl,_,hq⟩;injection hq with hq1 hq2
 rw [hq1,hq2]
theorem admitChecks_core (k:List Int) (hk:k.length≤140737488355328) (raw:List UInt8) (hr:raw.length≤140737488355328) (peer:Int):aD Tryz.prog GU 5 [bM k, .sl raw.length (u8s raw), .int .i64 peer] (.bool true):=by
 have cl:=yJ k hk;by_cases h1:160 < k.length
 ·rw [decide_eq_true h1] at cl;unfold bM at *;refine aZ seat Tryz.func5 93 ?_;refine ae ?_;refine bV rfl (fun _ h=>h) rfl (aa (cl)) rfl [(2,1)] mm lm ?_;refine ae ?_;refine cC (known_m) ?_;refine av ?_;rfl
 rw [decide_eq_false h1] at cl;by_cases h2:400 < raw.length
 ·unfold bM at *;refine aZ seat Tryz.func5 93 ?_;refine ae ?_;refine bV rfl (fun _ h=>h) rfl (aa (cl)) rfl [(2,1)] mm lm ?_;refine ae ?_;refine ad rfl ?_ ?_ <;> intro h
  ·have _h:=h;refine ae ?_;refine cC (known_m) ?_;refine av ?_;rfl
  ·exact absurd (oF h) om
 have cm:=C6 k;unfold bM at *;refine aZ seat Tryz.func5 93 ?_;refine ae ?_;refine bV rfl (fun _ h=>h) rfl (aa (cl)) rfl [(2,1)] mm lm ?_;refine ae ?_;refine ad rfl ?_ ?_ <;> intro h
 ·exact absurd (ot h) om
 refine ae ?_;refine lO rfl (fun _ h=>h) rfl (cm) [] [] ⟨rfl,trivial,rfl,lm,mm⟩ rfl ?_;rintro _ _ _ ⟨N,s,hN,rfl,rfl,rfl,hs⟩;refine⟨rfl,?_⟩;have cr:=Iy (G:=GU) k N s.app.chk s.cfg.price om hs.1.app.2.1 hs.1.cfg.price;have kr:=yg (L:=k) (N:=N) (price:=s.cfg.price) hs.1.app.2.1.2.2;generalize vH k N s.app.chk.acs s.cfg.price=rw' at *;obtain⟨b,N2⟩:=rw';dsimp only at cr kr;have hB:=fun tx p ht=>both_c hs tx p ht
 refine ae ?_;refine yc (cr) [(0,9)] ?_;refine ae ?_;refine aY rfl rfl (by intro R hR;refine dM hR ?_;refine a₄ ((cG b)) ?_;refine a₄ ⟨rfl,aE (by kernel_rfl) pf⟩ ?_;refine⟨u8s b,sv (by show [] ++ u8s b=_;rw [List.nil_append]),b.length,sv pf,?_⟩;exact hR) rfl ?_;refine ae ?_;obtain⟨W,hW⟩: ∃W,W=b ++ raw:=⟨_,rfl⟩
 have hWl:W.length=b.length + raw.length:=by rw [hW];simp
 refine aY rfl rfl (by intro R hR;refine dM hR ?_;refine a₄ ((cG raw)) ?_;refine a₄ ⟨(by simp [u8s]),aE (by kernel_rfl) pf⟩ ?_;refine⟨u8s W,sv (by rw [hW];simp [u8s]),W.length,sv pf,?_⟩;exact hR) rfl ?_;refine qc ([(52, .sl W.length (u8s W)),(46, .sl raw.length (u8s raw)),(47, .sl b.length (u8s b)),(2, .int .i64 peer),(7, .ptr 15 25 0 0 []),(8, .ptr 16 25 0 0 [])]) ([(15,⟨42,25,false,0,[cO s]⟩),(16,⟨42,25,false,0,[cO s]⟩)]) [(38,W.length)] mm rfl mm mm ?_;have hbl:=kr.1;clear hW cr cm cl kr;refine ae ?_;refine ar Nat (fun j=> [(55, .int .i64 j),(54, .int .i64 ([raw,b,W].length:Nat)),(53, .sl [raw,b,W].length ([raw,b,W].map qj)),(2, .int .i64 peer),(7, .ptr 0 25 0 0 []),(8, .ptr 1 25 0 0 [])]) (fun _=> [(0,⟨42,25,false,0,[cO s]⟩),(1,⟨42,25,false,0,[cO s]⟩)]) 2 (fun j=>j≤ [raw,b,W].length) (fun j=> [raw,b,W].length - j) 0 (a₃ _) (vm [(0,_),(1,_)] [(39,3)]) ?_;have hLb: ∀x∈ [raw,b,W],x.length≤1000000:=by
  intro x hx;rcases a₁.1 hx with rfl | hx
  ·omega
  rcases a₁.1 hx with rfl | hx
  ·omega
  ·rw [a₀.1 hx];omega
 have hLl: [raw,b,W].length=3:=rfl;generalize [raw,b,W] =L at *;intro j hj;try dsimp only
 refine ae ?_;refine ad rfl ?_ ?_ <;> intro h
 ·have hj':j < L.length:=by have:=ot h;omega
  have hel:=al.mk (rV hj');have hB:=fun p=>hB L[j] p (hLb _ (a₂ hj'))
  generalize L[j] =tx at *;unfold qj at hel;refine ae ?_;refine ar Nat (fun i=> [(62, .int .i64 i),(61, .int .i64 ([peer,1,15,16].length:Nat)),(60, .sl [peer,1,15,16].length ([peer,1,15,16].map (MV.int .i64))),(13, .sl tx.length (u8s tx)),(55, .int .i64 j),(54, .int .i64 (L.length:Nat)),(53, .sl L.length (L.map qj)),(2, .int .i64 peer),(7, .ptr 0 25 0 0 []),(8, .ptr 1 25 0 0 [])]) (fun _=> [(0,⟨42,25,false,0,[cO s]⟩),(1,⟨42,25,false,0,[cO s]⟩)]) 2 (fun i=>i≤ [peer,1,15,16].length) (fun i=> [peer,1,15,16].length - i) 0 (a₃ _) (vm [(0,_),(1,_)] [(7,4)]) ?_;have hQl: [peer,1,15,16].length=4:=rfl;generalize [peer,1,15,16] =Q at *;intro i hi;try dsimp only
  refine ae ?_;refine ad rfl ?_ ?_ <;> intro h
  ·have hi':i < Q.length:=by have:=ot h;omega
   have hel2:=al.mk (jR hi');obtain⟨s2,rc,rk,rp,rl,c1,c2,c3,c4⟩:=hB Q[i];generalize Q[i] =pe at *;refine ae ?_;refine jS (c1) ?_;refine jS (c2) ?_;refine cC (c3) ?_;refine cC (c4) ?_;exact⟨i + 1,dm,dm,(by dsimp only;exact(vm [(0,_),(1,_)] []))⟩
  ·have _h:=h;refine ae ?_;exact⟨j + 1,dm,dm,(by dsimp only;exact(vm [(0,_),(1,_)] []))⟩
 ·have _h:=h;refine ae ?_;refine cC (known_m) ?_;refine av ?_;rfl
end
section
variable {G:GS}
attribute [local irreducible] aj aC aG aL aO vC aU au
theorem config_r (L:List Int) (N:Nat) (hN:N < 4000000000000000000): ∃(c:ll) (N':Nat),rJ c∧N'≤N + 14∧aH Tryz.prog G 14 [numP] (dI L N) 1 (cfM c) (dI L N') 1:=by
 obtain⟨x0,b0,c0⟩:=bk (G:=G) L (N) 7 om om om;obtain⟨x1,b1,c1⟩:=bk (G:=G) L (N + 1) 400 om om om;obtain⟨x2,b2,c2⟩:=bk (G:=G) L (N + 1 + 1) 140 om om om;obtain⟨x3,b3,c3⟩:=bk (G:=G) L (N + 1 + 1 + 1) 12 om om om;obtain⟨x4,b4,c4⟩:=bk (G:=G) L (N + 1 + 1 + 1 + 1) 4 om om om;obtain⟨x5,b5,c5⟩:=bk (G:=G) L (N + 1 + 1 + 1 + 1 + 1) 3 om om om;obtain⟨x6,b6,c6⟩:=bk (G:=G) L (N + 1 + 1 + 1 + 1 + 1 + 1) 20 om om om;obtain⟨x7,b7,c7⟩:=bk (G:=G) L (N + 1 + 1 + 1 + 1 + 1 + 1 + 1) 3 om om om;obtain⟨x8,b8,c8⟩:=bk (G:=G) L (N + 1 + 1 + 1 + 1 + 1 + 1 + 1 + 1) 400 om om om;obtain⟨x9,b9,c9⟩:=bk (G:=G) L (N + 1 + 1 + 1 + 1 + 1 + 1 + 1 + 1 + 1) 3 om om om;obtain⟨x10,b10,c10⟩:=bk (G:=G) L (N + 1 + 1 + 1 + 1 + 1 + 1 + 1 + 1 + 1 + 1) 3 om om om;have hm:0≤(x5:Int) * x6∧(x5:Int) * x6 < 60:=by
  have e:x5=0∨x5=1∨x5=2:=om;rcases e with rfl | rfl | rfl <;> simp <;> omega
 generalize hM:(x5:Int) * x6=M at *;have em:=aT.mk (show IntKind.i64.wrap ((x5:Int) * x6)=M by rw [hM];exact dW _ om om);obtain⟨y,hy,cy⟩:=bk (G:=G) L (N + 1 + 1 + 1 + 1 + 1 + 1 + 1 + 1 + 1 + 1 + 1) 900 om om om;obtain⟨K,g,hK,hg1,hg2,k1,k2⟩: ∃(K:Nat) (g:Int),K≤N + 12∧ -1≤g∧g≤2000∧(x10=0→K=N + 1 + 1 + 1 + 1 + 1 + 1 + 1 + 1 + 1 + 1 + 1 + 1∧g=200 + (y:Int))∧(x10≠0→K=N + 1 + 1 + 1 + 1 + 1 + 1 + 1 + 1 + 1 + 1 + 1∧g= -1):=by
  by_cases h:x10=0
  ·exact⟨_,200 + (y:Int),om,om,om,fun _=>⟨rfl,rfl⟩,fun h2=>absurd h h2⟩
  ·exact⟨_, -1,om,om,om,fun h2=>absurd h2 h,fun _=>⟨rfl,rfl⟩⟩
 obtain⟨z,hz,cz⟩:=bk (G:=G) L K 6 om om om;obtain⟨w,hw,cw⟩:=bk (G:=G) L (K + 1) 40 om om om;obtain⟨K',t,hK',ht1,ht2,k3,k4⟩: ∃(K':Nat) (t:Int),K'≤N + 14∧40≤t∧t≤200∧(z=0→K'=K + 1 + 1∧t=40 + (w:Int))∧(z≠0→K'=K + 1∧t=60 + (x2:Int)):=by
  by_cases h:z=0
  ·exact⟨_,40 + (w:Int),om,om,om,fun _=>⟨rfl,rfl⟩,fun h2=>absurd h h2⟩
  ·exact⟨_,60 + (x2:Int),om,om,om,fun h2=>absurd h2 h,fun _=>⟨rfl,rfl⟩⟩
 refine⟨⟨1 + (x0:Int),250 + (x1:Int),t,x3,x4,M,(x7:Int) == 0,100 + (x8:Int),g,x9,0,1⟩,K',⟨dm,dm,dm,dm,dm,dm,dm,dm,by unfold bh;dsimp only;omega,dm,dm⟩,hK',?_⟩;refine bR seat Tryz.func14 47 ?_;refine ae ?_;refine yc (c0) [(0,0)] ?_;refine ae ?_;refine yc (c1) [(0,0)] ?_;refine ae ?_;refine yc (c2) [(0,0)] ?_;refine qc ([(11, .int .i64 x2),(9, .int .i64 (250 + (x1:Int))),(6, .int .i64 (1 + (x0:Int))),(2, .ptr 1 12 0 0 []),(0,numP)]) (dI L (N + 1 + 1 + 1) ++ [(1,⟨24,12,false,0,[Le]⟩)]) [] trivial rfl mm mm ?_;refine ae ?_;refine yc (c3) [(0,0)] ?_;refine ae ?_;refine yc (c4) [(0,0)] ?_;refine ae ?_;refine yc (c5) [(0,0)] ?_;refine qc ([(18, .int .i64 x5),(16, .int .i64 x4),(14, .int .i64 x3),(12, .int .i64 (60 + (x2:Int))),(9, .int .i64 (250 + (x1:Int))),(6, .int .i64 (1 + (x0:Int))),(2, .ptr 1 12 0 0 []),(0,numP)]) (dI L (N + 1 + 1 + 1 + 1 + 1 + 1) ++ [(1,⟨24,12,false,0,[Le]⟩)]) [] trivial rfl mm mm ?_;refine ae ?_;refine yc (c6) [(0,0)] ?_;refine ae ?_;refine yc (c7) [(0,0)] ?_;refine ae ?_;refine yc (c8) [(0,0)] ?_;refine qc ([(26, .int .i64 x8),(24, .bool ((x7:Int) == 0)),(21, .int .i64 M),(16, .int .i64 x4),(14, .int .i64 x3),(12, .int .i64 (60 + (x2:Int))),(9, .int .i64 (250 + (x1:Int))),(6, .int .i64 (1 + (x0:Int))),(2, .ptr 1 12 0 0 []),(0,numP)]) (dI L (N + 1 + 1 + 1 + 1 + 1 + 1 + 1 + 1 + 1) ++ [(1,⟨24,12,false,0,[Le]⟩)]) [] trivial rfl mm mm ?_;refine ae ?_;refine yc (c9) [(0,0)] ?_;refine ae ?_;refine yc (c10) [(0,0)] ?_;refine ae ?_;refine xI Unit (fun _=> [(0,numP),(2, .ptr 1 12 0 0 []),(3, .ptr 2 12 0 0 [])]) (fun _=>dI L K ++ [(1,⟨24,12,false,0,[Le]⟩),(2,⟨24,12,false,0,[.st [.int .i64 (1 + (x0:Int)), .int .i64 (250 + (x1:Int)), .int .i64 (60 + (x2:Int)), .int .i64 x3, .int .i64 x4, .int .i64 M, .bool ((x7:Int) == 0), .int .i64 (100 + (x8:Int)), .int .i64 g, .int .u64 x9, .int .i64 0, .int .i64 1]]⟩)]) (fun _=>3) (fun _=>True) (fun JQ hj=>?_) (fun _ _=>?_)
 ·refine ad rfl ?_ ?_ <;> intro h
  ·obtain⟨rfl,rfl⟩:=k1 (by have:=ot h;omega);refine ae ?_;refine yc (cy) [(0,0)] ?_;refine ae ?_;exact hj.nrm () trivial (by dsimp only;exact(vm [(1,_),(2,_)] []))
  ·obtain⟨rfl,rfl⟩:=k2 (by have:=oF h;omega);refine ae ?_;exact hj.nrm () trivial (by dsimp only;exact(vm [(1,_),(2,_)] []))
 ·refine ae ?_;refine yc (cz) [(0,0)] ?_;refine ae ?_;refine ad rfl ?_ ?_ <;> intro h
  ·obtain⟨rfl,rfl⟩:=k3 (by have:=ot h;omega);refine ae ?_;refine yc (cw) [(0,0)] ?_;refine ae ?_;refine av ?_;exact en [_]
  ·obtain⟨rfl,rfl⟩:=k4 (by have:=oF h;omega);refine ae ?_;refine av ?_;exact en [_]
end
section
attribute [local irreducible] aj aC aG aL aO vC aU au
def accM (l:List aW):MV:= .sl l.length (l.map aV)
structure BothB (c:ll) (acs:List aW) (s:cY) (e:Int):Prop where
 p:aH Tryz.prog GU 16 [cfM c, .sl acs.length (acs.map aV)] [] 0 (.tup [cO s, .int .i64 e]) [] 0
 r:aH Tryz.prog GU 17 [cfM c, .sl acs.length (acs.map aV)] [] 0 (.tup [cO s, .int .i64 e]) [] 0
 ss:aD Tryz.prog GU 18 [cO s,cO s] (.bool true)
theorem both_b (c:ll) (acs:List aW) (hc:LS c) (hl:acs.length≤100000) (hsm: ∀a∈acs,ni a): ∃s e,BothB c acs s e:=by
 refine⟨_,_,uY c acs hc hl hsm hc.h9,Bk c acs om hsm hc.h9,?_⟩;have hap:=wz (acs:=acs) (p:=c.price) hsm hc.h9;unfold jg;split
 ·exact eR stE0 yb (by decide) nofun (by decide)
 split
 ·exact eR stE0 yb (by decide) nofun (by decide)
 ·exact eR _ hap sm nofun sm
theorem admitBegins_core (c:ll) (hc:LS c) (l:List aW) (hl:l.length≤140737488355328) (hsm: ∀a∈l,ni a) (k:List Int) (hk:k.length≤140737488355328):aD Tryz.prog GU 3 [cfM c, .sl l.length (l.map aV),bM k] (.bool true):=by
 have cl:=yJ k hk;by_cases h1:160 < k.length
 ·rw [decide_eq_true h1] at cl;unfold bM at *;refine aZ seat Tryz.func3 69 ?_;refine ae ?_;refine bV rfl (fun _ h=>h) rfl (aa (cl)) rfl [(3,1)] mm lm ?_;refine ae ?_;refine cC (known_m) ?_;refine av ?_;rfl
 rw [decide_eq_false h1] at cl;by_cases h2:40 < l.length
 ·unfold bM at *;refine aZ seat Tryz.func3 69 ?_;refine ae ?_;refine bV rfl (fun _ h=>h) rfl (aa (cl)) rfl [(3,1)] mm lm ?_;refine ae ?_;refine ad rfl ?_ ?_ <;> intro h
  ·have _h:=h;refine ae ?_;refine cC (known_m) ?_;refine av ?_;rfl
  ·exact absurd (oF h) om
 have cf:=Iq (G:=GU) k;obtain⟨c2,N',hc2,hN',cg⟩:=config_r (G:=GU) k 0 om;unfold bM at *;refine aZ seat Tryz.func3 69 ?_;refine ae ?_;refine bV rfl (fun _ h=>h) rfl (aa (cl)) rfl [(3,1)] mm lm ?_;refine ae ?_;refine ad rfl ?_ ?_ <;> intro h
 ·exact absurd (ot h) om
 refine ae ?_;refine yc (cf) [] ?_;refine ae ?_;refine aw [ag 0,ag 1,de 2,ag 3,ag 4,ag 5] ?_;refine ae ?_;refine bG rfl (fun _ h=>h) rfl [10] (cg) [(0,10)] [] ⟨rfl,trivial,rfl,lm,mm⟩ rfl rfl rfl rfl rfl ?_;refine ae ?_;refine ar (Nat×Nat) (fun x=> [(32, .int .i64 x.1),(31, .int .i64 ([c,c2].length:Nat)),(30, .sl [c,c2].length ([c,c2].map cfM)),(1, .sl l.length (l.map aV)),(7,numP)]) (fun x=>dI k x.2) 1 (fun x=>x.1≤ [c,c2].length∧x.2≤100 + 100 * x.1) (fun x=> [c,c2].length - x.1) (0,N') ⟨a₃ _,dm⟩ (by dsimp only;exact(vm [(0,_)] [(15,2)])) ?_;have hcs: ∀x∈ [c,c2],LS x:=by
  intro x hx;rcases a₁.1 hx with rfl | hx
  ·exact hc
  ·rw [a₀.1 hx];exact CZ hc2
 have hCl: [c,c2].length=2:=rfl;generalize [c,c2] =C at *;clear cl cf cg hc hc2;rintro⟨j,K⟩ ⟨hj,hK⟩;try dsimp only
 dsimp only at hj hK;refine ae ?_;refine ad rfl ?_ ?_ <;> intro h
 ·have hj':j < C.length:=by have:=ot h;omega
  have hel:=al.mk (show cS (C.map cfM) C.length (j:Int)=some (cfM C[j]) from eh hj' (by simp [hj']));have hci:=hcs _ (a₂ hj');generalize C[j] =cc at *;refine ae ?_;refine ua rfl (fun _ h=>h) rfl (Cu (G:=GU) k K om) rfl 0 [] ⟨rfl,trivial,rfl,lm,mm⟩ rfl ?_;rintro _ K2 ⟨acs,ha,hsm2,hK2,rfl⟩;refine ae ?_;refine ar Nat (fun i=> [(41, .int .i64 i),(40, .int .i64 ([l,acs].length:Nat)),(39, .sl [l,acs].length ([l,acs].map accM)),(9, .ptr 1 12 0 0 []),(32, .int .i64 j),(31, .int .i64 (C.length:Nat)),(30, .sl C.length (C.map cfM)),(1, .sl l.length (l.map aV)),(7,numP)]) (fun _=>dI k K2 ++ [(1,⟨24,12,false,0,[cfM cc]⟩)]) 2 (fun i=>i≤ [l,acs].length) (fun i=> [l,acs].length - i) 0 (a₃ _) (by dsimp only;exact(vm [(0,_),(1,_)] [(9,2)])) ?_;have hls: ∀x∈ [l,acs],x.length≤100000∧∀a∈x,ni a:=by
   intro x hx;rcases a₁.1 hx with rfl | hx
   ·exact⟨om,hsm⟩
   ·rw [a₀.1 hx];exact⟨om,fun a h=>(hsm2 a h).wd⟩
  have hLl: [l,acs].length=2:=rfl;generalize [l,acs] =Q at *;intro i hi;try dsimp only
  refine ae ?_;refine ad rfl ?_ ?_ <;> intro h
  ·have hi':i < Q.length:=by have:=ot h;omega
   have hel2:=al.mk (show cS (Q.map accM) Q.length (i:Int)=some (accM Q[i]) from eh hi' (by simp [hi']));have hq:=hls _ (a₂ hi');generalize Q[i] =q at *;obtain⟨s,e,c1,c2,c3⟩:=both_b cc q hci hq.1 hq.2;unfold accM at hel2;refine ae ?_;refine jS (c1) ?_;refine jS (c2) ?_;refine ah rfl rfl ?_ rfl ?_ <;> intro h
   rotate_left
   ·exact absurd h sm
   refine ae ?_;refine cC (c3) ?_;exact⟨i + 1,dm,dm,(by dsimp only;exact(vm [(0,_),(1,_)] []))⟩
  ·have _h:=h;refine ae ?_;exact⟨(j + 1,K2),⟨dm,dm⟩,dm,(by dsimp only;exact(vm [(0,_)] []))⟩
 ·have _h:=h;refine ae ?_;refine cC (known_m) ?_;refine av ?_;rfl
end
section
open Go.ChangeShapes Go.WideShapes Go.ChangeAt Go.RowKit
def fStr (m:MV):Prop:= ∃s,m= .str s∧s.length≤140737488355328
def fU64 (m:MV):Prop:= ∃n,m= .int .u64 n∧(Lit.int .u64 n).wf=true
def qsAc:List (Nat×(MV→Prop)):= [(1,fStr),(1,fU64),(1,fU64)]
def fAc (m:MV):Prop:= ∃l,m= .st l∧yK qsAc l
theorem opnL_cons {P:Program} {o n:Nat} {Q:MV→Prop} {f:Field} {fs:List Field} {qs:List (Nat×(MV→Prop))} (h1:f.offset=o) (h2:Opn P f.type n Q) (h3:Br P (o + n) fs qs):Br P o (f :: fs) ((n,Q) :: qs):=⟨h1,h2,h3⟩
theorem opn_ac:Opn Tryz.prog 87 3 fAc:=by
 refine Opn.struct (P:=Tryz.prog) (qs:=qsAc) Tryz.underlying87 (by kernel_rfl) ?_;unfold qsAc;refine opnL_cons rfl (Opn.str Tryz.underlying9 (by kernel_rfl)) ?_;refine opnL_cons rfl (Opn.int Tryz.underlying22 (by kernel_rfl)) ?_;refine opnL_cons rfl (Opn.int Tryz.underlying22 (by kernel_rfl)) ?_;exact trivial
theorem opn_accs:Opn Tryz.prog 25 1 fun m=> ∃l,m= .sl l.length l∧(∀x∈l,fAc x)∧l.length≤140737488355328:=Opn.slice Tryz.underlying25 (by kernel_rfl) (Nat.le_of_ble_eq_true (by kernel_rfl)) om opn_ac
theorem u64_lift {m:MV} (h:fU64 m): ∃n:Nat,m= .int .u64 n∧bh n:=by
 obtain⟨n,rfl,h⟩:=h;simp [Lit.wf,IntKind.min,IntKind.max,IntKind.signed,IntKind.bits] at h;exact⟨n.toNat,by rw [Int.toNat_of_nonneg om],by unfold bh;omega⟩
theorem ac_lift {m:MV} (h:fAc m): ∃a:aW,m=aV a∧a.name.length≤140737488355328∧bh a.bal∧bh a.seq:=by
 obtain⟨l,rfl,h⟩:=h;unfold qsAc at h
 match l,h with
 | [x,y,z],h=>
  obtain⟨⟨s,rfl,hs⟩,h2,h3,_⟩:=h;obtain⟨b,rfl,hb⟩:=u64_lift h2;obtain⟨q,rfl,hq⟩:=u64_lift h3;exact⟨⟨s,b,q⟩,rfl,hs,hb,hq⟩
theorem accs_full {m:MV} (h: ∃l,m= .sl l.length l∧(∀x∈l,fAc x)∧l.length≤140737488355328): ∃rs:List aW,m= .sl rs.length (rs.map aV)∧rs.length≤140737488355328∧∀a∈rs,a.name.length≤140737488355328∧bh a.bal∧bh a.seq:=by
 obtain⟨l,rfl,h,hl⟩:=h;obtain⟨rs,rfl,hr⟩:=mZ (f:=aV) (R:=fun a=>a.name.length≤140737488355328∧bh a.bal∧bh a.seq) l fun x hx=>ac_lift (h x hx)
 rw [a₆] at hl;exact⟨rs,by rw [a₆],hl,hr⟩
end
section
open Go.ChangeShapes Go.WideShapes Go.ChangeAt Go.RowKit
def fI64 (m:MV):Prop:= ∃n,m= .int .i64 n∧(Lit.int .i64 n).wf=true
def fBool (m:MV):Prop:= ∃b,m= .bool b
def qsCf:List (Nat×(MV→Prop)):= [(1,fI64),(1,fI64),(1,fI64),(1,fI64),(1,fI64),(1,fI64),(1,fBool),(1,fI64),(1,fI64),(1,fU64),(1,fI64),(1,fI64)]
theorem opn_cfg:Opn Tryz.prog 24 12 fun m=> ∃l,m= .st l∧yK qsCf l:=by
 refine Opn.struct (P:=Tryz.prog) (qs:=qsCf) Tryz.underlying24 (by kernel_rfl) ?_;unfold qsCf;refine opnL_cons rfl gi ?_;refine opnL_cons rfl gi ?_;refine opnL_cons rfl gi ?_;refine opnL_cons rfl gi ?_;refine opnL_cons rfl gi ?_;refine opnL_cons rfl gi ?_;refine opnL_cons rfl (Opn.bool Tryz.underlying4 (by kernel_rfl)) ?_;refine opnL_cons rfl gi ?_;refine opnL_cons rfl gi ?_;refine opnL_cons rfl (Opn.int Tryz.underlying22 (by kernel_rfl)) ?_;refine opnL_cons rfl gi ?_;refine opnL_cons rfl gi ?_;exact trivial
theorem i64_lift {m:MV} (h:fI64 m): ∃n:Int,m= .int .i64 n∧Aw n:=by
 obtain⟨n,rfl,h⟩:=h;simp [Lit.wf,IntKind.min,IntKind.max,IntKind.signed,IntKind.bits] at h;exact⟨n,rfl,by unfold Aw;omega⟩
theorem allQ_cons {q:Nat×(MV→Prop)} {qs:List (Nat×(MV→Prop))}: ∀{l:List MV},yK (q :: qs) l→∃m r,l=m :: r∧q.2 m∧yK qs r
 | [],h=>h.elim
 | m :: r,h=>⟨m,r,rfl,h.1,h.2⟩
theorem allQ_nil: ∀{l:List MV},yK [] l→l= []
 | [],_=>rfl
 | _ :: _,h=>h.elim
theorem cfg_lift {m:MV} (h: ∃l,m= .st l∧yK qsCf l): ∃c:ll,m=cfM c∧LS c:=by
 obtain⟨l,rfl,h⟩:=h;unfold qsCf at h;obtain⟨_,l1,rfl,h1,g1⟩:=allQ_cons h;obtain⟨_,l2,rfl,h2,g2⟩:=allQ_cons g1;obtain⟨_,l3,rfl,h3,g3⟩:=allQ_cons g2;obtain⟨_,l4,rfl,h4,g4⟩:=allQ_cons g3;obtain⟨_,l5,rfl,h5,g5⟩:=allQ_cons g4;obtain⟨_,l6,rfl,h6,g6⟩:=allQ_cons g5;obtain⟨_,l7,rfl,h7,g7⟩:=allQ_cons g6;obtain⟨_,l8,rfl,h8,g8⟩:=allQ_cons g7;obtain⟨_,l9,rfl,h9,g9⟩:=allQ_cons g8;obtain⟨_,l10,rfl,h10,g10⟩:=allQ_cons g9;obtain⟨_,l11,rfl,h11,g11⟩:=allQ_cons g10;obtain⟨_,l12,rfl,h12,g12⟩:=allQ_cons g11;obtain rfl:=allQ_nil g12;obtain⟨b,rfl⟩:=h7;obtain⟨a1,rfl,b1⟩:=i64_lift h1;obtain⟨a2,rfl,b2⟩:=i64_lift h2;obtain⟨a3,rfl,b3⟩:=i64_lift h3;obtain⟨a4,rfl,b4⟩:=i64_lift h4;obtain⟨a5,rfl,b5⟩:=i64_lift h5;obtain⟨a6,rfl,b6⟩:=i64_lift h6;obtain⟨a8,rfl,b8⟩:=i64_lift h8;obtain⟨a9,rfl,b9⟩:=i64_lift h9;obtain⟨a10,rfl,b10⟩:=u64_lift h10;obtain⟨a11,rfl,b11⟩:=i64_lift h11;obtain⟨a12,rfl,b12⟩:=i64_lift h12;exact⟨⟨a1,a2,a3,a4,a5,a6,b,a8,a9,a10,a11,a12⟩,rfl,b1,b2,b3,b4,b5,b6,b8,b9,b10,b11,b12⟩
end
end Go.Proofs.YthdhlcicpcnbhaaGreatDoor
namespace Go.Proofs.YthdhlcicpcnbhaaGreatDoor.admitBegins
open Go.Proofs.YthdhlcicpcnbhaaGreatDoor
theorem r1:(Rows.admitBeginsRow.inPlace == Tryz.prog.inPlace 3)=true:=by kernel_rfl
theorem r2:(Rows.admitBeginsRow.unfollowed == Tryz.prog.unfollowed 3)=true:=by kernel_rfl
theorem r3:(Rows.admitBeginsRow.recurses == Tryz.prog.recurses 3)=true:=by kernel_rfl
theorem r4:(Rows.admitBeginsRow.named == Tryz.prog.varsNamed 3)=true:=by kernel_rfl
set_option maxRecDepth 100000 in
theorem closed:joinedFacts Tryz.prog 3 Tryz.f3 (OpenSpec.ofChange Rows.admitBeginsSpec).bare Rows.admitBeginsRow=true:=by
 simp only [joinedFacts,a₅]
 and_intros
 all_goals first
  | (with_reducible exact r1)
  | (with_reducible exact r2)
  | (with_reducible exact r3)
  | (with_reducible exact r4)
  | kernel_rfl
end Go.Proofs.YthdhlcicpcnbhaaGreatDoor.admitBegins
namespace Go.Proofs.YthdhlcicpcnbhaaGreatDoor.admitBegins
open Go.ChangeShapes Go.WideShapes Go.ChangeAt Go.RowKit Go.Proofs.YthdhlcicpcnbhaaGreatDoor
set_option maxRecDepth 100000 in
theorem contract (H:Type) (enc:TypeId×Value→H) (W:World) (base:Nat) (args:Array Value) (ds gs:List (DataW H)) (before:List MemPlace)
  (hval: ∀(j:Nat) t v,Tryz.f3.params[j]? =some t→args[j]? =some v→Value.okWide Tryz.prog W .any base t v)
  (hW:DataW.Whole enc Tryz.prog Tryz.f3.params.toList Rows.admitBeginsSpec.vars false W args.toList ds gs before)
  (hw:(DataW.weightsEach Tryz.prog (Tryz.f3.params.toList ++ (OpenSpec.ofChange Rows.admitBeginsSpec).bare.plain.varTypes Tryz.prog) (ds ++ gs)).all (· ≤reachBytes)=true)
  (hL:laidMetH Tryz.prog Rows.admitBeginsRow.laid W) (hopen:W.ShapedOpen Tryz.prog) :
  Calls Tryz.prog 3 args W fun e W'=> ∃v,e= .returned v∧Rows.admitBeginsSpec.post enc Tryz.prog Tryz.f3 false true false false W args v W':=by
 have hW':=hW
 obtain⟨p,q,hA0,hV,rfl,hfz,hnd⟩:=hW
 have hA:DataW.TrodAll enc Tryz.prog W 0 (fun _=>true) true Tryz.f3.params.toList args.toList ds p:=hA0
 rw [Tryz.params3] at hA hval hw
 obtain⟨v0,vs0,d0,ds0,p0,q0,hargs,rfl,rfl,h0,r0⟩:=trodAll_cons hA
 obtain⟨v1,vs1,d1,ds1,p1,q1,rfl,rfl,rfl,h1,r1⟩:=trodAll_cons r0
 obtain⟨v2,vs2,d2,ds2,p2,q2,rfl,rfl,rfl,h2,r2⟩:=trodAll_cons r1
 obtain⟨rfl,rfl,rfl⟩:=trodAll_nil r2
 obtain rfl:args= #[v0,v1,v2] :=by cases args;simp_all
 obtain⟨rfl,rfl⟩:=trodVars_none hV
 have k0:=h0
 have lt0: ∀x∈p0,x.block < W.heap.size:=by obtain⟨m,hm⟩:=k0;exact DataW.trod_lt m _ _ _ hm
 have k1:=h1
 have lt1: ∀x∈p1,x.block < W.heap.size:=by obtain⟨m,hm⟩:=k1;exact DataW.trod_lt m _ _ _ hm
 have k2:=h2
 have lt2: ∀x∈p2,x.block < W.heap.size:=by obtain⟨m,hm⟩:=k2;exact DataW.trod_lt m _ _ _ hm
 simp only [List.append_nil] at hW'
 have hw:(d0.weights Tryz.prog 24 ++ (d1.weights Tryz.prog 25 ++ (d2.weights Tryz.prog 26 ++ (DataW.weightsEach Tryz.prog ((OpenSpec.ofChange Rows.admitBeginsSpec).bare.plain.varTypes Tryz.prog) [])))).all (· ≤reachBytes)=true:=hw
 simp only [List.all_append,a₅] at hw
 obtain⟨hw0,hw1,hw2,_⟩:=hw
 obtain⟨A0,rfl,_⟩:=okWide_struct Tryz.underlying24 (hval 0 24 v0 rfl rfl)
 obtain⟨fuel0,hf0⟩:=h0
 obtain⟨_,m0,hm0,hr0,hb0⟩:=opn_cfg.2 enc W _ true fuel0 _ d0 p0 hf0 hw0
 obtain⟨x0,rfl,hx0⟩:=cfg_lift hm0
 obtain⟨A1,n1,cap1,rfl⟩:=okWide_slice Tryz.underlying25 (hval 1 25 v1 rfl rfl)
 obtain⟨fuel1,hf1⟩:=h1
 obtain⟨_,m1,hm1,hr1,hb1⟩:=opn_accs.2 enc W _ true fuel1 _ d1 p1 hf1 hw1
 obtain⟨x1,rfl,hx1,hy1⟩:=accs_full hm1
 obtain⟨A2,n2,cap2,rfl⟩:=okWide_slice Tryz.underlying26 (hval 2 26 v2 rfl rfl)
 obtain⟨fuel2,hf2⟩:=h2
 obtain⟨_,m2,hm2,hr2,hb2⟩:=vi.2 enc W _ true fuel2 _ d2 p2 hf2 hw2
 obtain⟨x2,rfl,hx2⟩:=qK hm2
 refine(admitBegins_core x0 hx0 x1 hx1 hy1 x2 hx2 W (Bq W) [_,_,_] (vf (show laidMet Tryz.prog w6 W from hL) hopen) (fun b o h=>h) (.cons (.val _ hr0) (.cons (.val [_] hr1) (.cons (.val [_] hr2) .nil)))).mono fun e W' ⟨v,he,hv,bel⟩=>?_
 subst he
 obtain rfl:=hv.bool_
 exact⟨_,rfl,_,_,_,[],_,[],hW',trodAll_mk1 (shut_bool Tryz.underlying4 _),(trodAll_cons_mk (Below.trod na (by kernel_rfl) (ot (by kernel_rfl)) k0 bel lt0) (trodAll_cons_mk (Below.trod na (by kernel_rfl) (ot (by kernel_rfl)) k1 bel lt1) (trodAll_cons_mk (Below.trod na (by kernel_rfl) (ot (by kernel_rfl)) k2 bel lt2) trodAll_mk0))),rfl,bel.frame _,fun h=>by cases h⟩
theorem reads (os:Os) {H:Type} (enc:TypeId×Value→H): ∃places,DataW.whole enc Tryz.prog ((rB os).forCall (fun _ _=>0) ⟨#[], #[.agg #[.int .i64 0, .int .i64 0, .int .i64 0, .int .i64 0, .int .i64 0, .int .i64 0, .bool false, .int .i64 0, .int .i64 0, .int .u64 0, .int .i64 0, .int .i64 0], .slice none 0 0, .slice none 0 0],[]⟩).memory Tryz.f3.params.toList Rows.admitBeginsSpec.vars false #[Value.agg #[.int .i64 0, .int .i64 0, .int .i64 0, .int .i64 0, .int .i64 0, .int .i64 0, .bool false, .int .i64 0, .int .i64 0, .int .u64 0, .int .i64 0, .int .i64 0],Value.slice none 0 0,Value.slice none 0 0].toList 8=some ([.agg [.lit (.int .i64 0), .lit (.int .i64 0), .lit (.int .i64 0), .lit (.int .i64 0), .lit (.int .i64 0), .lit (.int .i64 0), .lit (.bool false), .lit (.int .i64 0), .lit (.int .i64 0), .lit (.int .u64 0), .lit (.int .i64 0), .lit (.int .i64 0)], .nil, .nil],[],places):=
 ⟨[],by kernel_rfl⟩
set_option maxRecDepth 100000 in
theorem lifted (os:Os) (started:os.Started) (H:Type) (enc:TypeId×Value→H) (F:Stop.Interp) :
  ReturnsInHanded {} Tryz.checked os 3 .any ((OpenSpec.ofChange Rows.admitBeginsSpec).preRow enc Tryz.prog Tryz.f3 Rows.admitBeginsRow.domain false Rows.admitBeginsRow.laid) (((OpenSpec.ofChange Rows.admitBeginsSpec).at F).post enc Tryz.prog Tryz.f3 false true false false):=by
 obtain⟨places,hx⟩:=reads os enc
 refine returnsInHanded_of_row (C:=Tryz.checked) (s:=OpenSpec.ofChange Rows.admitBeginsSpec) PJ started (by kernel_rfl) Tryz.func3
  (mG (enc:=enc) (C:=Tryz.checked) (rB os) (World.laidAll_os _ _ _) #[.agg #[.int .i64 0, .int .i64 0, .int .i64 0, .int .i64 0, .int .i64 0, .int .i64 0, .bool false, .int .i64 0, .int .i64 0, .int .u64 0, .int .i64 0, .int .i64 0], .slice none 0 0, .slice none 0 0] (yL os _) (by kernel_rfl)
   (OpenSpec.preRow_of_cond 8 hx (by kernel_rfl) (fun k hk=>by cases hk) (by kernel_rfl) (vg os _))) ?_
 intro W base args ds gs before hval hW _ _ hw hL hopen _
 exact contract H enc W base args ds gs before hval hW hw hL hopen
theorem said:Rows.AdmitBeginsSaid:=
 OpenClaim.holds_of_cond 3 Tryz.f3 rfl rfl rfl rfl rfl rfl rfl ⟨rfl,rfl,rfl,rfl,rfl⟩ rfl rfl rfl rfl rfl (by kernel_rfl) Tryz.func3 closed
  (ot (by kernel_rfl)) (by unfold Func.isWrapper;first | (rw [if_pos (by decide +kernel)];kernel_rfl) | (rw [if_neg (by decide +kernel)];exact⟨rfl,rfl⟩))
  (fun os started H enc _ F=>by rw [OpenClaim.pre_eq_preRow];exact lifted os started H enc F)
theorem plain (f:FuncId) (fn:Func) (hf:Tryz.pinned.checked.prog.funcNamed "mempool/mempoollaw22.AdmitBegins" =some f) (hfn:Tryz.pinned.checked.prog.funcs[f]? =some fn) :
  true=Tryz.pinned.checked.prog.looks [] ∧∀(j:Nat) t,fn.params[j]? =some t→Tryz.pinned.checked.prog.wantsStandIn t=false:=by
 obtain rfl:f=3:=Option.some.inj ((show Tryz.prog.funcNamed "mempool/mempoollaw22.AdmitBegins" =some 3 by kernel_rfl).symm.trans hf) |>.symm
 obtain rfl:fn=Tryz.f3:=(Option.some.inj (Tryz.func3.symm.trans hfn)).symm
 refine⟨by kernel_rfl,fun j t ht=>?_⟩
 have key:(Tryz.f3.params.all fun t=>Tryz.prog.wantsStandIn t == false)=true:=by kernel_rfl
 have:=Array.all_eq_true_iff_forall_mem.1 key t (Array.mem_of_getElem? ht)
 show Tryz.prog.wantsStandIn t=false
 simpa using this
theorem card:Rows.AdmitBeginsCardSaid:=
 Claim7.holds_tied_plain_at .later [] _ _ _ _ said (fun _ h=>by cases h) (by kernel_rfl) (fun _ h=>by cases h) admitBegins_row_tie rfl ⟨rfl,rfl⟩ (by kernel_rfl) rfl plain (by kernel_rfl)
end Go.Proofs.YthdhlcicpcnbhaaGreatDoor.admitBegins
