/- AdmitChecks: the row and the card: whatever the arguments, the law answers true and its arguments read as before. Conditions: none but what the row lists (the laid tables). -/
import Derived.Test.YthdhlcicpcnbhaaGreatDoorW12
open And renaming intro → a₀
open Bool renaming and_eq_true → a₁
set_option maxRecDepth 20000
set_option maxHeartbeats 16000000
set_option linter.unusedVariables false
set_option linter.unusedSimpArgs false
namespace Go.Proofs.YthdhlcicpcnbhaaGreatDoor
open Go.RowKit
section
attribute [local irreducible] aj aC aG aL aO vC aU au
theorem semR_of_semX {Pg:Program} {G:GS} {f:FuncId} {args:List MV} {P:MV→Prop} {R:MV} (h:yd Pg G f args P) (hP: ∀r,P r→r=R):aH Pg G f args [] 0 R [] 0:=by
 intro w Pt adr vals a1 a2 a3 a4 a5;refine Calls.mono (h w Pt adr vals a1 a2 a3 a4 a5) ?_;rintro e w' ⟨v,h1,res,M1,n1,⟨⟨h2,_⟩,rfl,rfl⟩,h3⟩;rw [hP res h2] at h3;exact⟨v,h1,h3⟩
structure BothC (s s2:cY) (rc:Int) (rk:List UInt8) (rp:Int) (rl:List (List UInt8)) (tx:List UInt8) (peer:Int):Prop where
 p:aH Tryz.prog GU 21 [cO s, .sl tx.length (u8s tx), .int .i64 peer] [] 0 (.tup [cO s2,nY (w4 rc rk rp rl)]) [] 0
 r:aH Tryz.prog GU 22 [cO s, .sl tx.length (u8s tx), .int .i64 peer] [] 0 (.tup [cO s2,nY (w4 rc rk rp rl)]) [] 0
 sr:aD Tryz.prog GU 23 [nY (w4 rc rk rp rl),nY (w4 rc rk rp rl)] (.bool true)
 ss:aD Tryz.prog GU 18 [cO s2,cO s2] (.bool true)
theorem both_c {s:cY} (h:JT s) (tx:List UInt8) (peer:Int) (ht:tx.length≤1000000): ∃s2 rc rk rp rl,BothC s s2 rc rk rp rl tx peer:=by
 obtain⟨hs,hi⟩:=h;have c1:=pJ (FX:=vj) s tx peer ht hs om hi;have c2:=um (G:=GU) (FX:=vj) s tx peer ht hs om;obtain⟨rc,rk,rp,rl,hrl,hrq⟩:=nW (FX:=vj) tx peer hs;have hs':=nX (FX:=vj) tx peer hs om;generalize bP s tx peer=C at *;obtain⟨s2,rq⟩:=C;dsimp only at c1 hrq hs';subst hrq;refine⟨s2,rc,rk,rp,rl,c1,semR_of_semX c2 ?_,mF rc rk rp rl om,eR s2 hs'.app (by have:=hs'.ents;omega) (fun e he=>by have:=(hs'.entk e he).peers;omega) (by have:=hs'.cache;omega)⟩;rintro _ ⟨s',rp',rfl,_,hq⟩;injection hq with hq1 hq2
 rw [hq1,hq2]
theorem admitChecks_core (k:List Int) (hk:k.length≤140737488355328) (raw:List UInt8) (hr:raw.length≤140737488355328) (peer:Int):aD Tryz.prog GU 5 [bM k, .sl raw.length (u8s raw), .int .i64 peer] (.bool true):=by
 have cl:=yJ k hk;by_cases h1:160 < k.length
 ·rw [decide_eq_true h1] at cl;unfold bM at *;refine aZ seat Tryz.func5 93 ?_;refine ae ?_;refine bV rfl (fun _ h=>h) rfl (aa (cl)) rfl [(2,1)] mm lm ?_;refine ae ?_;refine cC (known_m) ?_;refine av ?_;rfl
 rw [decide_eq_false h1] at cl;by_cases h2:400 < raw.length
 ·unfold bM at *;refine aZ seat Tryz.func5 93 ?_;refine ae ?_;refine bV rfl (fun _ h=>h) rfl (aa (cl)) rfl [(2,1)] mm lm ?_;refine ae ?_;refine ad rfl ?_ ?_ <;> intro h
  ·have _h:=h;refine ae ?_;refine cC (known_m) ?_;refine av ?_;rfl
  ·exact absurd (oF h) om
 have cm:=C6 k;unfold bM at *;refine aZ seat Tryz.func5 93 ?_;refine ae ?_;refine bV rfl (fun _ h=>h) rfl (aa (cl)) rfl [(2,1)] mm lm ?_;refine ae ?_;refine ad rfl ?_ ?_ <;> intro h
 ·exact absurd (ot h) om
 refine ae ?_;refine lO rfl (fun _ h=>h) rfl (cm) [] [] ⟨rfl,trivial,rfl,lm,mm⟩ rfl ?_;rintro _ _ _ ⟨N,s,hN,rfl,rfl,rfl,hs⟩;refine⟨rfl,?_⟩;have cr:=Iy (G:=GU) k N s.app.chk s.cfg.price om hs.1.app.2.1 hs.1.cfg.price;have kr:=yg (L:=k) (N:=N) (price:=s.cfg.price) hs.1.app.2.1.2.2;generalize vH k N s.app.chk.acs s.cfg.price=rw' at *;obtain⟨b,N2⟩:=rw';dsimp only at cr kr;have hB:=fun tx p ht=>both_c hs tx p ht
 refine ae ?_;refine yc (cr) [(0,9)] ?_;refine ae ?_;refine aY rfl rfl (by intro R hR;refine dM hR ?_;refine a₀ ((cG b)) ?_;refine a₀ ⟨rfl,aE (by kernel_rfl) pf⟩ ?_;refine⟨u8s b,sv (by show [] ++ u8s b=_;rw [List.nil_append]),b.length,sv pf,?_⟩;exact hR) rfl ?_;refine ae ?_;obtain⟨W,hW⟩: ∃W,W=b ++ raw:=⟨_,rfl⟩
 have hWl:W.length=b.length + raw.length:=by rw [hW];simp
 refine aY rfl rfl (by intro R hR;refine dM hR ?_;refine a₀ ((cG raw)) ?_;refine a₀ ⟨(by simp [u8s]),aE (by kernel_rfl) pf⟩ ?_;refine⟨u8s W,sv (by rw [hW];simp [u8s]),W.length,sv pf,?_⟩;exact hR) rfl ?_;refine qc ([(52, .sl W.length (u8s W)),(46, .sl raw.length (u8s raw)),(47, .sl b.length (u8s b)),(2, .int .i64 peer),(7, .ptr 15 25 0 0 []),(8, .ptr 16 25 0 0 [])]) ([(15,⟨42,25,false,0,[cO s]⟩),(16,⟨42,25,false,0,[cO s]⟩)]) [(38,W.length)] mm rfl mm mm ?_;have hbl:=kr.1;clear hW cr cm cl kr;refine ae ?_;refine ar Nat (fun j=> [(55, .int .i64 j),(54, .int .i64 ([raw,b,W].length:Nat)),(53, .sl [raw,b,W].length ([raw,b,W].map qj)),(2, .int .i64 peer),(7, .ptr 0 25 0 0 []),(8, .ptr 1 25 0 0 [])]) (fun _=> [(0,⟨42,25,false,0,[cO s]⟩),(1,⟨42,25,false,0,[cO s]⟩)]) 2 (fun j=>j≤ [raw,b,W].length) (fun j=> [raw,b,W].length - j) 0 (Nat.zero_le _) (vm [(0,_),(1,_)] [(39,3)]) ?_;have hLb: ∀x∈ [raw,b,W],x.length≤1000000:=by
  intro x hx;rcases List.mem_cons.1 hx with rfl | hx
  ·omega
  rcases List.mem_cons.1 hx with rfl | hx
  ·omega
  ·rw [List.mem_singleton.1 hx];omega
 have hLl: [raw,b,W].length=3:=rfl;generalize [raw,b,W] =L at *;intro j hj;try dsimp only
 refine ae ?_;refine ad rfl ?_ ?_ <;> intro h
 ·have hj':j < L.length:=by have:=ot h;omega
  have hel:=al.mk (rV hj');have hB:=fun p=>hB L[j] p (hLb _ (List.getElem_mem hj'))
  generalize L[j] =tx at *;unfold qj at hel;refine ae ?_;refine ar Nat (fun i=> [(62, .int .i64 i),(61, .int .i64 ([peer,1,15,16].length:Nat)),(60, .sl [peer,1,15,16].length ([peer,1,15,16].map (MV.int .i64))),(13, .sl tx.length (u8s tx)),(55, .int .i64 j),(54, .int .i64 (L.length:Nat)),(53, .sl L.length (L.map qj)),(2, .int .i64 peer),(7, .ptr 0 25 0 0 []),(8, .ptr 1 25 0 0 [])]) (fun _=> [(0,⟨42,25,false,0,[cO s]⟩),(1,⟨42,25,false,0,[cO s]⟩)]) 2 (fun i=>i≤ [peer,1,15,16].length) (fun i=> [peer,1,15,16].length - i) 0 (Nat.zero_le _) (vm [(0,_),(1,_)] [(7,4)]) ?_;have hQl: [peer,1,15,16].length=4:=rfl;generalize [peer,1,15,16] =Q at *;intro i hi;try dsimp only
  refine ae ?_;refine ad rfl ?_ ?_ <;> intro h
  ·have hi':i < Q.length:=by have:=ot h;omega
   have hel2:=al.mk (jR hi');obtain⟨s2,rc,rk,rp,rl,c1,c2,c3,c4⟩:=hB Q[i];generalize Q[i] =pe at *;refine ae ?_;refine jS (c1) ?_;refine jS (c2) ?_;refine cC (c3) ?_;refine cC (c4) ?_;exact⟨i + 1,dm,dm,(by dsimp only;exact(vm [(0,_),(1,_)] []))⟩
  ·have _h:=h;refine ae ?_;exact⟨j + 1,dm,dm,(by dsimp only;exact(vm [(0,_),(1,_)] []))⟩
 ·have _h:=h;refine ae ?_;refine cC (known_m) ?_;refine av ?_;rfl
end
end Go.Proofs.YthdhlcicpcnbhaaGreatDoor
namespace Go.Proofs.YthdhlcicpcnbhaaGreatDoor.admitChecks
open Go.Proofs.YthdhlcicpcnbhaaGreatDoor
theorem r1:(Rows.admitChecksRow.inPlace == Tryz.prog.inPlace 5)=true:=by kernel_rfl
theorem r2:(Rows.admitChecksRow.unfollowed == Tryz.prog.unfollowed 5)=true:=by kernel_rfl
theorem r3:(Rows.admitChecksRow.recurses == Tryz.prog.recurses 5)=true:=by kernel_rfl
theorem r4:(Rows.admitChecksRow.named == Tryz.prog.varsNamed 5)=true:=by kernel_rfl
set_option maxRecDepth 100000 in
theorem closed:joinedFacts Tryz.prog 5 Tryz.f5 (OpenSpec.ofChange Rows.admitChecksSpec).bare Rows.admitChecksRow=true:=by
 simp only [joinedFacts,a₁]
 and_intros
 all_goals first
  | (with_reducible exact r1)
  | (with_reducible exact r2)
  | (with_reducible exact r3)
  | (with_reducible exact r4)
  | kernel_rfl
end Go.Proofs.YthdhlcicpcnbhaaGreatDoor.admitChecks
namespace Go.Proofs.YthdhlcicpcnbhaaGreatDoor.admitChecks
open Go.ChangeShapes Go.WideShapes Go.ChangeAt Go.RowKit Go.Proofs.YthdhlcicpcnbhaaGreatDoor
set_option maxRecDepth 100000 in
theorem contract (H:Type) (enc:TypeId×Value→H) (W:World) (base:Nat) (args:Array Value) (ds gs:List (DataW H)) (before:List MemPlace)
  (hval: ∀(j:Nat) t v,Tryz.f5.params[j]? =some t→args[j]? =some v→Value.okWide Tryz.prog W .any base t v)
  (hW:DataW.Whole enc Tryz.prog Tryz.f5.params.toList Rows.admitChecksSpec.vars false W args.toList ds gs before)
  (hw:(DataW.weightsEach Tryz.prog (Tryz.f5.params.toList ++ (OpenSpec.ofChange Rows.admitChecksSpec).bare.plain.varTypes Tryz.prog) (ds ++ gs)).all (· ≤reachBytes)=true)
  (hL:laidMetH Tryz.prog Rows.admitChecksRow.laid W) (hopen:W.ShapedOpen Tryz.prog) :
  Calls Tryz.prog 5 args W fun e W'=> ∃v,e= .returned v∧Rows.admitChecksSpec.post enc Tryz.prog Tryz.f5 false true false false W args v W':=by
 have hW':=hW
 obtain⟨p,q,hA0,hV,rfl,hfz,hnd⟩:=hW
 have hA:DataW.TrodAll enc Tryz.prog W 0 (fun _=>true) true Tryz.f5.params.toList args.toList ds p:=hA0
 rw [Tryz.params5] at hA hval hw
 obtain⟨v0,vs0,d0,ds0,p0,q0,hargs,rfl,rfl,h0,r0⟩:=trodAll_cons hA
 obtain⟨v1,vs1,d1,ds1,p1,q1,rfl,rfl,rfl,h1,r1⟩:=trodAll_cons r0
 obtain⟨v2,vs2,d2,ds2,p2,q2,rfl,rfl,rfl,h2,r2⟩:=trodAll_cons r1
 obtain⟨rfl,rfl,rfl⟩:=trodAll_nil r2
 obtain rfl:args= #[v0,v1,v2] :=by cases args;simp_all
 obtain⟨rfl,rfl⟩:=trodVars_none hV
 have k0:=h0
 have lt0: ∀x∈p0,x.block < W.heap.size:=by obtain⟨m,hm⟩:=k0;exact DataW.trod_lt m _ _ _ hm
 have k1:=h1
 have lt1: ∀x∈p1,x.block < W.heap.size:=by obtain⟨m,hm⟩:=k1;exact DataW.trod_lt m _ _ _ hm
 have k2:=h2
 have lt2: ∀x∈p2,x.block < W.heap.size:=by obtain⟨m,hm⟩:=k2;exact DataW.trod_lt m _ _ _ hm
 simp only [List.append_nil] at hW'
 have hw:(d0.weights Tryz.prog 26 ++ (d1.weights Tryz.prog 51 ++ (d2.weights Tryz.prog 3 ++ (DataW.weightsEach Tryz.prog ((OpenSpec.ofChange Rows.admitChecksSpec).bare.plain.varTypes Tryz.prog) [])))).all (· ≤reachBytes)=true:=hw
 simp only [List.all_append,a₁] at hw
 obtain⟨hw0,hw1,hw2,_⟩:=hw
 obtain⟨A0,n0,cap0,rfl⟩:=okWide_slice Tryz.underlying26 (hval 0 26 v0 rfl rfl)
 obtain⟨fuel0,hf0⟩:=h0
 obtain⟨_,m0,hm0,hr0,hb0⟩:=vi.2 enc W _ true fuel0 _ d0 p0 hf0 hw0
 obtain⟨x0,rfl,hx0⟩:=qK hm0
 obtain⟨A1,n1,cap1,rfl⟩:=okWide_slice Tryz.underlying51 (hval 1 51 v1 rfl rfl)
 obtain⟨fuel1,hf1⟩:=h1
 obtain⟨_,m1,hm1,hr1,hb1⟩:=GN.2 enc W _ true fuel1 _ d1 p1 hf1 hw1
 obtain⟨x1,rfl,hx1⟩:=C9 hm1
 obtain⟨a2,rfl,rfl,rfl,wa2⟩:=open_int Tryz.underlying3 (hval 2 3 v2 rfl rfl) h2
 refine(admitChecks_core x0 hx0 x1 hx1 a2 W (Bq W) [_,_,_] (vf (show laidMet Tryz.prog w6 W from hL) hopen) (fun b o h=>h) (.cons (.val [_] hr0) (.cons (.val [_] hr1) (.cons (.val [_] .int) .nil)))).mono fun e W' ⟨v,he,hv,bel⟩=>?_
 subst he
 obtain rfl:=hv.bool_
 exact⟨_,rfl,_,_,_,[],_,[],hW',trodAll_mk1 (shut_bool Tryz.underlying4 _),(trodAll_cons_mk (Below.trod na (by kernel_rfl) (ot (by kernel_rfl)) k0 bel lt0) (trodAll_cons_mk (Below.trod na (by kernel_rfl) (ot (by kernel_rfl)) k1 bel lt1) (trodAll_cons_mk (shut_int Tryz.underlying3 wa2) trodAll_mk0))),rfl,bel.frame _,fun h=>by cases h⟩
theorem reads (os:Os) {H:Type} (enc:TypeId×Value→H): ∃places,DataW.whole enc Tryz.prog ((rB os).forCall (fun _ _=>0) ⟨#[], #[.slice none 0 0, .slice none 0 0, .int .i64 0],[]⟩).memory Tryz.f5.params.toList Rows.admitChecksSpec.vars false #[Value.slice none 0 0,Value.slice none 0 0,Value.int .i64 0].toList 8=some ([.nil, .nil, .lit (.int .i64 0)],[],places):=
 ⟨[],by kernel_rfl⟩
set_option maxRecDepth 100000 in
theorem lifted (os:Os) (started:os.Started) (H:Type) (enc:TypeId×Value→H) (F:Stop.Interp) :
  ReturnsInHanded {} Tryz.checked os 5 .any ((OpenSpec.ofChange Rows.admitChecksSpec).preRow enc Tryz.prog Tryz.f5 Rows.admitChecksRow.domain false Rows.admitChecksRow.laid) (((OpenSpec.ofChange Rows.admitChecksSpec).at F).post enc Tryz.prog Tryz.f5 false true false false):=by
 obtain⟨places,hx⟩:=reads os enc
 refine returnsInHanded_of_row (C:=Tryz.checked) (s:=OpenSpec.ofChange Rows.admitChecksSpec) PJ started (by kernel_rfl) Tryz.func5
  (mG (enc:=enc) (C:=Tryz.checked) (rB os) (World.laidAll_os _ _ _) #[.slice none 0 0, .slice none 0 0, .int .i64 0] (yL os _) (by kernel_rfl)
   (OpenSpec.preRow_of_cond 8 hx (by kernel_rfl) (fun k hk=>by cases hk) (by kernel_rfl) (vg os _))) ?_
 intro W base args ds gs before hval hW _ _ hw hL hopen _
 exact contract H enc W base args ds gs before hval hW hw hL hopen
theorem said:Rows.AdmitChecksSaid:=
 OpenClaim.holds_of_cond 5 Tryz.f5 rfl rfl rfl rfl rfl rfl rfl ⟨rfl,rfl,rfl,rfl,rfl⟩ rfl rfl rfl rfl rfl (by kernel_rfl) Tryz.func5 closed
  (ot (by kernel_rfl)) (by unfold Func.isWrapper;first | (rw [if_pos (by decide +kernel)];kernel_rfl) | (rw [if_neg (by decide +kernel)];exact⟨rfl,rfl⟩))
  (fun os started H enc _ F=>by rw [OpenClaim.pre_eq_preRow];exact lifted os started H enc F)
theorem plain (f:FuncId) (fn:Func) (hf:Tryz.pinned.checked.prog.funcNamed "mempool/mempoollaw22.AdmitChecks" =some f) (hfn:Tryz.pinned.checked.prog.funcs[f]? =some fn) :
  true=Tryz.pinned.checked.prog.looks [] ∧∀(j:Nat) t,fn.params[j]? =some t→Tryz.pinned.checked.prog.wantsStandIn t=false:=by
 obtain rfl:f=5:=Option.some.inj ((show Tryz.prog.funcNamed "mempool/mempoollaw22.AdmitChecks" =some 5 by kernel_rfl).symm.trans hf) |>.symm
 obtain rfl:fn=Tryz.f5:=(Option.some.inj (Tryz.func5.symm.trans hfn)).symm
 refine⟨by kernel_rfl,fun j t ht=>?_⟩
 have key:(Tryz.f5.params.all fun t=>Tryz.prog.wantsStandIn t == false)=true:=by kernel_rfl
 have:=Array.all_eq_true_iff_forall_mem.1 key t (Array.mem_of_getElem? ht)
 show Tryz.prog.wantsStandIn t=false
 simpa using this
theorem card:Rows.AdmitChecksCardSaid:=
 Claim7.holds_tied_plain_at .later [] _ _ _ _ said (fun _ h=>by cases h) (by kernel_rfl) (fun _ h=>by cases h) admitChecks_row_tie rfl ⟨rfl,rfl⟩ (by kernel_rfl) rfl plain (by kernel_rfl)
end Go.Proofs.YthdhlcicpcnbhaaGreatDoor.admitChecks
