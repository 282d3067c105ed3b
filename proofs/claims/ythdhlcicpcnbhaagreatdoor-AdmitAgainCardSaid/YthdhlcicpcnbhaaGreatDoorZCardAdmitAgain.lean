/- AdmitAgain: the row and the card: whatever the arguments, the law answers true and its arguments read as before. Conditions: none but what the row lists (the laid tables). -/
import Derived.Test.YthdhlcicpcnbhaaGreatDoorV12
open Bool renaming and_eq_true → a₀
set_option maxRecDepth 20000
set_option maxHeartbeats 16000000
set_option linter.unusedVariables false
set_option linter.unusedSimpArgs false
namespace Go.Proofs.YthdhlcicpcnbhaaGreatDoor
open Go.RowKit
section
attribute [local irreducible] aj aC aG aM aQ vC aY aA
theorem step_c {B:Nat} {s:cL} (hs:kv pT B s) (hB:B≤1000) (hi:cZ s) (tx:List UInt8) (peer:Int) (ht:tx.length≤1000000) :
  aL Tryz.prog GU 21 [dq s, .sl tx.length (u8s tx), .int .i64 peer] [] 0 (.tup [dq (aO s tx peer).1,pG (aO s tx peer).2]) [] 0∧kv pT (B + 1) (aO s tx peer).1∧cZ (aO s tx peer).1:=
 ⟨pR (FX:=pT) s tx peer ht hs om hi,ow (FX:=pT) tx peer hs om,jG (raw:=tx) (peer:=peer) hs.cfg hi⟩
theorem app_m (s:cL) (raw:List UInt8) (h:gz s.app) (hr:raw.length≤1000000):aD Tryz.prog GU 32 [dq s, .sl raw.length (u8s raw)] (.bool (((bM s.app raw).code:Int) == 14)):=by
 have c1:=yn (G:=GU) s.app raw h om;generalize bM s.app raw=r at *;refine bf seat Tryz.func32 11 ?_;refine ad ?_;refine bL (c1) ?_;refine aw ?_;rfl
theorem admitAgain_core (k:List Int) (hk:k.length≤140737488355328) (other:Int):aD Tryz.prog GU 9 [bS k, .int .i64 other] (.bool true):=by
 have cl:=yU k hk;by_cases h1:160 < k.length
 ·rw [decide_eq_true h1] at cl;unfold bS at *;refine bf seat Tryz.func9 87 ?_;refine ad ?_;refine cG rfl (fun _ h=>h) rfl (aa (cl)) rfl [(2,1)] mm lm ?_;refine ad ?_;refine bL (known_m) ?_;refine aw ?_;rfl
 rw [decide_eq_false h1] at cl;have cm:=yT k;unfold bS at *;refine bf seat Tryz.func9 87 ?_;refine ad ?_;refine cG rfl (fun _ h=>h) rfl (aa (cl)) rfl [(2,1)] mm lm ?_;refine ad ?_;refine kh rfl (fun _ h=>h) rfl (cm) [] [] ⟨rfl,trivial,rfl,lm,mm⟩ rfl ?_;rintro _ _ _ ⟨N,s,hN,rfl,rfl,rfl,hs,hi⟩;refine⟨rfl,?_⟩;have cr:=wP (G:=GU) k N s.app.chk s.cfg.price om hs.app.2.1 hs.cfg.price;have kr:=nh (L:=k) (N:=N) (price:=s.cfg.price) hs.app.2.1.2.2;generalize qB k N s.app.chk.acs s.cfg.price=rw' at *;obtain⟨b,N2⟩:=rw';dsimp only at cr kr;have hbl:=kr.1;have hN2:=kr.2;obtain⟨c1,hs1,hi1⟩:=step_c hs om hi b 0 om;have hpa:=vd (raw:=b) (s:=s) (peer:=0) hs.app.2.1;have hcf:=(je s b 0).1;generalize aO s b 0=C at *;obtain⟨s1,rq⟩:=C;dsimp only at c1 hs1 hi1 hpa hcf;have hpr:=hs.cfg.price;clear cl cm kr hi;refine ad ?_;refine yc (cr) [(0,4)] ?_;refine ad ?_;refine yr (c1) ?_;refine BI ?_;refine iW ([(9, .sl b.length (u8s b)),(7,numP),(5, .ptr 1 25 0 0 []),(10, .ptr 2 25 0 0 []),(11, .ptr 3 73 0 0 []),(1, .int .i64 other)]) (ek k N2 ++ [(1,⟨42,25,false,0,[dq s]⟩),(2,⟨42,25,false,0,[dq s1]⟩),(3,⟨57,73,false,0,[pG rq]⟩)]) (4) (vm [(0,_),(1,_),(2,_),(3,_)] []) ?_;clear c1 cr;refine ad ?_;refine ae rfl ?_ ?_ <;> intro h
 ·have _h:=h;refine ad ?_;refine bL (known_m) ?_;refine aw ?_;rfl
 have hc0:rq.code=0:=by simpa using h
 obtain⟨hp0,hm0,hb0⟩:=hpa hc0;have cp:=yp (G:=GU) other 4 om om;obtain⟨x,hx,hxe⟩: ∃x:Nat,x < 4∧other % 4=x:=⟨(other % 4).toNat,om,om⟩
 rw [hxe] at cp;clear hxe hpa hc0;refine ad ?_;refine bL (cp) ?_;refine ar (Nat×Nat×cL) (fun x=> [(12, .int .i64 x.1),(9, .sl b.length (u8s b)),(7,numP),(5, .ptr 1 25 0 0 []),(10, .ptr 2 25 0 0 [])]) (fun x=>ek k x.2.1 ++ [(1,⟨42,25,false,0,[dq s]⟩),(2,⟨42,25,false,0,[dq x.2.2]⟩)]) 3 (fun x=>x.1≤3∧x.2.1 + 100 * x.1≤200000000∧kv pT (50 - x.1) x.2.2∧cZ x.2.2∧vX b x.2.2.app.chk∧x.2.2.cfg=s.cfg) (fun x=>x.1) (x,N2,s1) ⟨dm,dm,dU.mono (FX:=pT) hs1 dm,hi1,hp0,hcf⟩ (by dsimp only;exact(vm [(0,_),(1,_),(2,_)] [])) ?_;clear hs1 hi1 hp0 hcf hs;rintro⟨i,K,n⟩ ⟨h1,h2,hn,hi,hp,hcf⟩;try dsimp only
 dsimp only at h1 h2 hn hi hp hcf;refine ad ?_;refine ae rfl ?_ ?_ <;> intro h
 ·have hi0:0 < i:=by have:=ot h;omega
  obtain⟨j,rfl⟩: ∃j,i=j + 1:=⟨i - 1,om⟩
  have hcast:((j + 1:Nat):Int) - 1=(j:Int):=om;have e1:=wP (G:=GU) k K n.app.chk s.cfg.price om hn.app.2.1 hpr;have e2:=nh (L:=k) (N:=K) (price:=s.cfg.price) hn.app.2.1.2.2;generalize qB k K n.app.chk.acs s.cfg.price=rw' at *;obtain⟨tx,K3⟩:=rw';dsimp only at e1 e2;obtain⟨d1,hn2,hi2⟩:=step_c hn om hi tx 0 om;have hp2:=va (raw:=b) (s:=n) tx 0 hp;have hcf2:=(je n tx 0).1.trans hcf;generalize aO n tx 0=C at *;obtain⟨n2,rq2⟩:=C;dsimp only at d1 hn2 hi2 hp2 hcf2;refine ad ?_;refine av [ag 0,ag 1,ag 2,ag 3,ag 4,ag 5,ag 6,ag 7,da 8,da 9,ag 10,ag 11,ag 12,ag 13] ?_;refine ad ?_;refine bB rfl (fun _ h=>h) rfl [0] (e1) [(0,0)] [] ⟨rfl,trivial,rfl,lm,mm⟩ rfl rfl rfl rfl rfl ?_;refine ad ?_;refine jk (d1) ?_;exact⟨(j,K3,n2),⟨dm,dm,dU.mono (FX:=pT) hn2 dm,hi2,hp2,hcf2⟩,dm,(by dsimp only;exact(vm [(0,_),(1,_),(2,_)] []))⟩
 ·rw [← hcf] at hm0 hb0;obtain⟨d1,hn2,hi2⟩:=step_c hn om hi b 0 om;have hcode:=vf (raw:=b) (s:=n) 0 hp hm0 hb0;have ca:=app_m n b hn.app om;have hck:(bM n.app b).code=14:=qS (p:=n.app.price) hp;rw [hck] at ca;generalize aO n b 0=C at *;obtain⟨n2,rq2⟩:=C;dsimp only at d1 hn2 hi2 hcode;obtain⟨g1,g2,g3,⟨g4,g5⟩,⟨g6,g7⟩,⟨g8,g9⟩,⟨ga,gb⟩,⟨gc,gd⟩,⟨ge,gf⟩,gg,gh⟩:=rq2;unfold pG at d1;dsimp only at d1 hcode;rcases hcode with rfl | rfl
  ·have _h:=h;refine ad ?_;refine kX (d1) ?_;refine bL (ca) ?_;refine bL (known_m) ?_;refine aw ?_;rfl
  ·have _h:=h;refine ad ?_;refine kX (d1) ?_;refine bL (ca) ?_;refine bL (known_m) ?_;refine aw ?_;rfl
end
end Go.Proofs.YthdhlcicpcnbhaaGreatDoor
namespace Go.Proofs.YthdhlcicpcnbhaaGreatDoor.admitAgain
open Go.Proofs.YthdhlcicpcnbhaaGreatDoor
theorem r1:(Rows.admitAgainRow.inPlace == Tryz.prog.inPlace 9)=true:=by kernel_rfl
theorem r2:(Rows.admitAgainRow.unfollowed == Tryz.prog.unfollowed 9)=true:=by kernel_rfl
theorem r3:(Rows.admitAgainRow.recurses == Tryz.prog.recurses 9)=true:=by kernel_rfl
theorem r4:(Rows.admitAgainRow.named == Tryz.prog.varsNamed 9)=true:=by kernel_rfl
set_option maxRecDepth 100000 in
theorem closed:joinedFacts Tryz.prog 9 Tryz.f9 (OpenSpec.ofChange Rows.admitAgainSpec).bare Rows.admitAgainRow=true:=by
 simp only [joinedFacts,a₀]
 and_intros
 all_goals first
  | (with_reducible exact r1)
  | (with_reducible exact r2)
  | (with_reducible exact r3)
  | (with_reducible exact r4)
  | kernel_rfl
end Go.Proofs.YthdhlcicpcnbhaaGreatDoor.admitAgain
namespace Go.Proofs.YthdhlcicpcnbhaaGreatDoor.admitAgain
open Go.ChangeShapes Go.WideShapes Go.ChangeAt Go.RowKit Go.Proofs.YthdhlcicpcnbhaaGreatDoor
set_option maxRecDepth 100000 in
theorem contract (H:Type) (enc:TypeId×Value→H) (W:World) (base:Nat) (args:Array Value) (ds gs:List (DataW H)) (before:List MemPlace)
  (hval: ∀(j:Nat) t v,Tryz.f9.params[j]? =some t→args[j]? =some v→Value.okWide Tryz.prog W .any base t v)
  (hW:DataW.Whole enc Tryz.prog Tryz.f9.params.toList Rows.admitAgainSpec.vars false W args.toList ds gs before)
  (hw:(DataW.weightsEach Tryz.prog (Tryz.f9.params.toList ++ (OpenSpec.ofChange Rows.admitAgainSpec).bare.plain.varTypes Tryz.prog) (ds ++ gs)).all (· ≤reachBytes)=true)
  (hL:laidMetH Tryz.prog Rows.admitAgainRow.laid W) (hopen:W.ShapedOpen Tryz.prog) :
  Calls Tryz.prog 9 args W fun e W'=> ∃v,e= .returned v∧Rows.admitAgainSpec.post enc Tryz.prog Tryz.f9 false true false false W args v W':=by
 have hW':=hW
 obtain⟨p,q,hA0,hV,rfl,hfz,hnd⟩:=hW
 have hA:DataW.TrodAll enc Tryz.prog W 0 (fun _=>true) true Tryz.f9.params.toList args.toList ds p:=hA0
 rw [Tryz.params9] at hA hval hw
 obtain⟨v0,vs0,d0,ds0,p0,q0,hargs,rfl,rfl,h0,r0⟩:=trodAll_cons hA
 obtain⟨v1,vs1,d1,ds1,p1,q1,rfl,rfl,rfl,h1,r1⟩:=trodAll_cons r0
 obtain⟨rfl,rfl,rfl⟩:=trodAll_nil r1
 obtain rfl:args= #[v0,v1] :=by cases args;simp_all
 obtain⟨rfl,rfl⟩:=trodVars_none hV
 have k0:=h0
 have lt0: ∀x∈p0,x.block < W.heap.size:=by obtain⟨m,hm⟩:=k0;exact DataW.trod_lt m _ _ _ hm
 have k1:=h1
 have lt1: ∀x∈p1,x.block < W.heap.size:=by obtain⟨m,hm⟩:=k1;exact DataW.trod_lt m _ _ _ hm
 simp only [List.append_nil] at hW'
 have hw:(d0.weights Tryz.prog 26 ++ (d1.weights Tryz.prog 3 ++ (DataW.weightsEach Tryz.prog ((OpenSpec.ofChange Rows.admitAgainSpec).bare.plain.varTypes Tryz.prog) []))).all (· ≤reachBytes)=true:=hw
 simp only [List.all_append,a₀] at hw
 obtain⟨hw0,hw1,_⟩:=hw
 obtain⟨A0,n0,cap0,rfl⟩:=okWide_slice Tryz.underlying26 (hval 0 26 v0 rfl rfl)
 obtain⟨fuel0,hf0⟩:=h0
 obtain⟨_,m0,hm0,hr0,hb0⟩:=vy.2 enc W _ true fuel0 _ d0 p0 hf0 hw0
 obtain⟨x0,rfl,hx0⟩:=qZ hm0
 obtain⟨a1,rfl,rfl,rfl,wa1⟩:=open_int Tryz.underlying3 (hval 1 3 v1 rfl rfl) h1
 refine(admitAgain_core x0 hx0 a1 W (Du W) [_,_] (vw (show laidMet Tryz.prog xi W from hL) hopen) (fun b o h=>h) (.cons (.val [_] hr0) (.cons (.val [_] .int) .nil))).mono fun e W' ⟨v,he,hv,bel⟩=>?_
 subst he
 obtain rfl:=hv.bool_
 exact⟨_,rfl,_,_,_,[],_,[],hW',trodAll_mk1 (shut_bool Tryz.underlying4 _),(trodAll_cons_mk (Below.trod yV (by kernel_rfl) (ot (by kernel_rfl)) k0 bel lt0) (trodAll_cons_mk (shut_int Tryz.underlying3 wa1) trodAll_mk0)),rfl,bel.frame _,fun h=>by cases h⟩
theorem reads (os:Os) {H:Type} (enc:TypeId×Value→H): ∃places,DataW.whole enc Tryz.prog ((rS os).forCall (fun _ _=>0) ⟨#[], #[.slice none 0 0, .int .i64 0],[]⟩).memory Tryz.f9.params.toList Rows.admitAgainSpec.vars false #[Value.slice none 0 0,Value.int .i64 0].toList 8=some ([.nil, .lit (.int .i64 0)],[],places):=
 ⟨[],by kernel_rfl⟩
set_option maxRecDepth 100000 in
theorem lifted (os:Os) (started:os.Started) (H:Type) (enc:TypeId×Value→H) (F:Stop.Interp) :
  ReturnsInHanded {} Tryz.checked os 9 .any ((OpenSpec.ofChange Rows.admitAgainSpec).preRow enc Tryz.prog Tryz.f9 Rows.admitAgainRow.domain false Rows.admitAgainRow.laid) (((OpenSpec.ofChange Rows.admitAgainSpec).at F).post enc Tryz.prog Tryz.f9 false true false false):=by
 obtain⟨places,hx⟩:=reads os enc
 refine returnsInHanded_of_row (C:=Tryz.checked) (s:=OpenSpec.ofChange Rows.admitAgainSpec) Qp started (by kernel_rfl) Tryz.func9
  (mR (enc:=enc) (C:=Tryz.checked) (rS os) (World.laidAll_os _ _ _) #[.slice none 0 0, .int .i64 0] (yW os _) (by kernel_rfl)
   (OpenSpec.preRow_of_cond 8 hx (by kernel_rfl) (fun k hk=>by cases hk) (by kernel_rfl) (vx os _))) ?_
 intro W base args ds gs before hval hW _ _ hw hL hopen _
 exact contract H enc W base args ds gs before hval hW hw hL hopen
theorem said:Rows.AdmitAgainSaid:=
 OpenClaim.holds_of_cond 9 Tryz.f9 rfl rfl rfl rfl rfl rfl rfl ⟨rfl,rfl,rfl,rfl,rfl⟩ rfl rfl rfl rfl rfl (by kernel_rfl) Tryz.func9 closed
  (ot (by kernel_rfl)) (by unfold Func.isWrapper;first | (rw [if_pos (by decide +kernel)];kernel_rfl) | (rw [if_neg (by decide +kernel)];exact⟨rfl,rfl⟩))
  (fun os started H enc _ F=>by rw [OpenClaim.pre_eq_preRow];exact lifted os started H enc F)
theorem plain (f:FuncId) (fn:Func) (hf:Tryz.pinned.checked.prog.funcNamed "mempool/mempoollaw22.AdmitAgain" =some f) (hfn:Tryz.pinned.checked.prog.funcs[f]? =some fn) :
  true=Tryz.pinned.checked.prog.looks [] ∧∀(j:Nat) t,fn.params[j]? =some t→Tryz.pinned.checked.prog.wantsStandIn t=false:=by
 obtain rfl:f=9:=Option.some.inj ((show Tryz.prog.funcNamed "mempool/mempoollaw22.AdmitAgain" =some 9 by kernel_rfl).symm.trans hf) |>.symm
 obtain rfl:fn=Tryz.f9:=(Option.some.inj (Tryz.func9.symm.trans hfn)).symm
 refine⟨by kernel_rfl,fun j t ht=>?_⟩
 have key:(Tryz.f9.params.all fun t=>Tryz.prog.wantsStandIn t == false)=true:=by kernel_rfl
 have:=Array.all_eq_true_iff_forall_mem.1 key t (Array.mem_of_getElem? ht)
 show Tryz.prog.wantsStandIn t=false
 simpa using this
theorem card:Rows.AdmitAgainCardSaid:=
 Claim7.holds_tied_plain_at .later [] _ _ _ _ said (fun _ h=>by cases h) (by kernel_rfl) (fun _ h=>by cases h) admitAgain_row_tie rfl ⟨rfl,rfl⟩ (by kernel_rfl) rfl plain (by kernel_rfl)
end Go.Proofs.YthdhlcicpcnbhaaGreatDoor.admitAgain
