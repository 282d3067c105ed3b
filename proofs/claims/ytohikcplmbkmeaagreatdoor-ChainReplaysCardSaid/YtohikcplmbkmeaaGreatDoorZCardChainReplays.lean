/- ChainReplays: the row and the card: whatever the arguments, the law answers true and its arguments read as before. Conditions: none but what the row lists (the laid tables). -/
import Derived.Test.YtohikcplmbkmeaaGreatDoorW13
set_option maxRecDepth 20000
set_option maxHeartbeats 16000000
set_option linter.unusedVariables false
set_option linter.unusedSimpArgs false
namespace Go.Proofs.YtohikcplmbkmeaaGreatDoor.chainReplays
open Go.ChangeShapes Go.WideShapes Go.ChangeAt Go.RowKit Go.Proofs.YtohikcplmbkmeaaGreatDoor
set_option maxRecDepth 100000 in
theorem contract (H:Type) (enc:TypeId×Value→H) (W:World) (base:Nat) (args:Array Value) (ds gs:List (DataW H)) (before:List MemPlace)
  (En: ∀(j:Nat) t v,Tryz.f8.params[j]? =some t→args[j]? =some v→Value.okWide Tryz.prog W .any base t v)
  (hW:DataW.Whole enc Tryz.prog Tryz.f8.params.toList Rows.chainReplaysSpec.vars false W args.toList ds gs before)
  (hw:(DataW.weightsEach Tryz.prog (Tryz.f8.params.toList ++ (OpenSpec.ofChange Rows.chainReplaysSpec).bare.plain.varTypes Tryz.prog) (ds ++ gs)).all (· ≤reachBytes)=true)
  (hL:laidMetH Tryz.prog Rows.chainReplaysRow.laid W) (Ol:W.ShapedOpen Tryz.prog) :
  Calls Tryz.prog 8 args W fun e W'=> ∃v,e= .returned v∧Rows.chainReplaysSpec.post enc Tryz.prog Tryz.f8 false true false false W args v W':=by
 have hW':=hW
 obtain⟨p,q,Xu,hV,rfl,hfz,Ib⟩:=hW
 have hA:DataW.TrodAll enc Tryz.prog W 0 (fun _=>true) true Tryz.f8.params.toList args.toList ds p:=Xu
 rw [Tryz.params8] at hA En hw
 obtain⟨v0,vs0,d0,ds0,p0,q0,dj,rfl,rfl,h0,r0⟩:=trodAll_cons hA
 obtain⟨v1,vs1,d1,ds1,p1,q1,rfl,rfl,rfl,h1,r1⟩:=trodAll_cons r0
 obtain⟨v2,vs2,d2,ds2,p2,q2,rfl,rfl,rfl,h2,r2⟩:=trodAll_cons r1
 obtain⟨v3,vs3,d3,ds3,p3,q3,rfl,rfl,rfl,h3,r3⟩:=trodAll_cons r2
 obtain⟨v4,vs4,d4,ds4,p4,q4,rfl,rfl,rfl,h4,r4⟩:=trodAll_cons r3
 obtain⟨rfl,rfl,rfl⟩:=trodAll_nil r4
 obtain rfl:args= #[v0,v1,v2,v3,v4] :=by cases args;simp_all
 obtain⟨rfl,rfl⟩:=trodVars_none hV
 have k0:=h0
 have lt0: ∀x∈p0,x.block < W.heap.size:=by obtain⟨m,hm⟩:=k0;exact DataW.trod_lt m _ _ _ hm
 have k1:=h1
 have lt1: ∀x∈p1,x.block < W.heap.size:=by obtain⟨m,hm⟩:=k1;exact DataW.trod_lt m _ _ _ hm
 have k2:=h2
 have lt2: ∀x∈p2,x.block < W.heap.size:=by obtain⟨m,hm⟩:=k2;exact DataW.trod_lt m _ _ _ hm
 have k3:=h3
 have lt3: ∀x∈p3,x.block < W.heap.size:=by obtain⟨m,hm⟩:=k3;exact DataW.trod_lt m _ _ _ hm
 have k4:=h4
 have lt4: ∀x∈p4,x.block < W.heap.size:=by obtain⟨m,hm⟩:=k4;exact DataW.trod_lt m _ _ _ hm
 simp only [List.append_nil] at hW'
 have hw:(d0.weights Tryz.prog 24 ++ (d1.weights Tryz.prog 66 ++ (d2.weights Tryz.prog 22 ++ (d3.weights Tryz.prog 3 ++ (d4.weights Tryz.prog 3 ++ (DataW.weightsEach Tryz.prog ((OpenSpec.ofChange Rows.chainReplaysSpec).bare.plain.varTypes Tryz.prog) [])))))).all (· ≤reachBytes)=true:=hw
 simp only [List.all_append,Bool.and_eq_true] at hw
 obtain⟨F9,hw1,Xy,hw3,hw4,_⟩:=hw
 obtain⟨A0,n0,yA,rfl⟩:=okWide_slice Tryz.underlying24 (En 0 24 v0 rfl rfl)
 obtain⟨X5,hf0⟩:=h0
 obtain⟨_,m0,Yt,hr0,YN⟩:=LM.2 enc W _ true X5 _ d0 p0 hf0 F9
 obtain⟨x0,rfl,U2⟩:=Jb Yt
 obtain⟨A1,rfl,_⟩:=okWide_struct Tryz.underlying66 (En 1 66 v1 rfl rfl)
 obtain⟨XE,hf1⟩:=h1
 obtain⟨_,m1,OF,SS,sM⟩:=Qv.2 enc W _ true XE _ d1 p1 hf1 hw1
 obtain⟨x1,rfl,BB⟩:=My OF
 obtain⟨A2,n2,k0d,rfl⟩:=okWide_slice Tryz.underlying22 (En 2 22 v2 rfl rfl)
 obtain⟨Yp,Y3⟩:=h2
 obtain⟨_,m2,UY,xY,iY⟩:=L4.2 enc W _ true Yp _ d2 p2 Y3 Xy
 obtain⟨x2,rfl,yF,hy2⟩:=Jj UY
 obtain⟨a3,rfl,rfl,rfl,wa3⟩:=open_int Tryz.underlying3 (En 3 3 v3 rfl rfl) h3
 obtain⟨a4,rfl,rfl,rfl,wa4⟩:=open_int Tryz.underlying3 (En 4 3 v4 rfl rfl) h4
 refine(Bp x0 U2 x1 BB x2 yF hy2 a3 a4 W (IW W) [_,_,_,_,_] (LK (show laidMet Tryz.prog Hg W from hL) Ol) (fun b o h=>h) (.cons (.val [_] hr0) (.cons (.val _ SS) (.cons (.val [_] xY) (.cons (.val [_] .int) (.cons (.val [_] .int) .nil)))))).mono fun e W' ⟨v,he,hv,Zp⟩=>?_
 subst he
 obtain rfl:=hv.bool_
 exact⟨_,rfl,_,_,_,[],_,[],hW',trodAll_mk1 (shut_bool Tryz.underlying4 _),(trodAll_cons_mk (Below.trod AS (by kernel_rfl) (ot (by kernel_rfl)) k0 Zp lt0) (trodAll_cons_mk (Below.trod AS (by kernel_rfl) (ot (by kernel_rfl)) k1 Zp lt1) (trodAll_cons_mk (Below.trod AS (by kernel_rfl) (ot (by kernel_rfl)) k2 Zp lt2) (trodAll_cons_mk (shut_int Tryz.underlying3 wa3) (trodAll_cons_mk (shut_int Tryz.underlying3 wa4) trodAll_mk0))))),rfl,Zp.frame _,fun h=>by cases h⟩
theorem reads (os:Os) {H:Type} (enc:TypeId×Value→H): ∃places,DataW.whole enc Tryz.prog ((Hh os).forCall (fun _ _=>0) ⟨#[], #[.slice none 0 0, .agg #[.int .i64 0, .int .i64 0, .int .i64 0, .int .i64 0, .int .i64 0, .int .i64 0, .bool false, .int .i64 0, .int .i64 0, .int .u64 0, .int .i64 0, .int .i64 0], .slice none 0 0, .int .i64 0, .int .i64 0],[]⟩).memory Tryz.f8.params.toList Rows.chainReplaysSpec.vars false #[Value.slice none 0 0,Value.agg #[.int .i64 0, .int .i64 0, .int .i64 0, .int .i64 0, .int .i64 0, .int .i64 0, .bool false, .int .i64 0, .int .i64 0, .int .u64 0, .int .i64 0, .int .i64 0],Value.slice none 0 0,Value.int .i64 0,Value.int .i64 0].toList 8=some ([.nil, .agg [.lit (.int .i64 0), .lit (.int .i64 0), .lit (.int .i64 0), .lit (.int .i64 0), .lit (.int .i64 0), .lit (.int .i64 0), .lit (.bool false), .lit (.int .i64 0), .lit (.int .i64 0), .lit (.int .u64 0), .lit (.int .i64 0), .lit (.int .i64 0)], .nil, .lit (.int .i64 0), .lit (.int .i64 0)],[],places):=
 ⟨[],by kernel_rfl⟩
set_option maxRecDepth 100000 in
theorem lifted (os:Os) (started:os.Started) (H:Type) (enc:TypeId×Value→H) (F:Stop.Interp) :
  ReturnsInHanded {} Tryz.checked os 8 .any ((OpenSpec.ofChange Rows.chainReplaysSpec).preRow enc Tryz.prog Tryz.f8 Rows.chainReplaysRow.domain false Rows.chainReplaysRow.laid) (((OpenSpec.ofChange Rows.chainReplaysSpec).at F).post enc Tryz.prog Tryz.f8 false true false false):=by
 obtain⟨places,hx⟩:=reads os enc
 refine returnsInHanded_of_row (C:=Tryz.checked) (s:=OpenSpec.ofChange Rows.chainReplaysSpec) own started (by kernel_rfl) Tryz.func8
  (Da (enc:=enc) (C:=Tryz.checked) (Hh os) (World.laidAll_os _ _ _) #[.slice none 0 0, .agg #[.int .i64 0, .int .i64 0, .int .i64 0, .int .i64 0, .int .i64 0, .int .i64 0, .bool false, .int .i64 0, .int .i64 0, .int .u64 0, .int .i64 0, .int .i64 0], .slice none 0 0, .int .i64 0, .int .i64 0] (Qi os _) (by kernel_rfl)
   (OpenSpec.preRow_of_cond 8 hx (by kernel_rfl) (fun k hk=>by cases hk) (by kernel_rfl) (LL os _))) ?_
 intro W base args ds gs before En hW _ _ hw hL Ol _
 exact contract H enc W base args ds gs before En hW hw hL Ol
theorem said:Rows.ChainReplaysSaid:=
 OpenClaim.holds_of_cond 8 Tryz.f8 rfl rfl rfl rfl rfl rfl rfl ⟨rfl,rfl,rfl,rfl,rfl⟩ rfl rfl rfl rfl rfl (by kernel_rfl) Tryz.func8 Ut
  (ot (by kernel_rfl)) (by unfold Func.isWrapper;first | (rw [if_pos (by decide +kernel)];kernel_rfl) | (rw [if_neg (by decide +kernel)];exact⟨rfl,rfl⟩))
  (fun os started H enc _ F=>by rw [OpenClaim.pre_eq_preRow];exact lifted os started H enc F)
theorem plain (f:FuncId) (fn:Func) (hf:Tryz.pinned.checked.prog.funcNamed "mempool/mempoollaw27.ChainReplays" =some f) (RG:Tryz.pinned.checked.prog.funcs[f]? =some fn) :
  true=Tryz.pinned.checked.prog.looks [] ∧∀(j:Nat) t,fn.params[j]? =some t→Tryz.pinned.checked.prog.wantsStandIn t=false:=by
 obtain rfl:f=8:=Option.some.inj ((show Tryz.prog.funcNamed "mempool/mempoollaw27.ChainReplays" =some 8 by kernel_rfl).symm.trans hf) |>.symm
 obtain rfl:fn=Tryz.f8:=(Option.some.inj (Tryz.func8.symm.trans RG)).symm
 refine⟨by kernel_rfl,fun j t ht=>?_⟩
 have key:(Tryz.f8.params.all fun t=>Tryz.prog.wantsStandIn t == false)=true:=by kernel_rfl
 have:=Array.all_eq_true_iff_forall_mem.1 key t (Array.mem_of_getElem? ht)
 show Tryz.prog.wantsStandIn t=false
 simpa using this
theorem card:Rows.ChainReplaysCardSaid:=
 Claim7.holds_tied_plain_at .later [] _ _ _ _ said (fun _ h=>by cases h) (by kernel_rfl) (fun _ h=>by cases h) chainReplays_row_tie rfl ⟨rfl,rfl⟩ (by kernel_rfl) rfl plain (by kernel_rfl)
end Go.Proofs.YtohikcplmbkmeaaGreatDoor.chainReplays
