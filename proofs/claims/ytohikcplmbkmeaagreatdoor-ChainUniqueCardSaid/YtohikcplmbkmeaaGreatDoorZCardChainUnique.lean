/- ChainUnique: the row and the card: whatever the arguments, the law answers true and its arguments read as before. Conditions: none but what the row lists (the laid tables). -/
import Derived.Test.YtohikcplmbkmeaaGreatDoorW12
set_option maxRecDepth 20000
set_option maxHeartbeats 16000000
set_option linter.unusedVariables false
set_option linter.unusedSimpArgs false
namespace Go.Proofs.YtohikcplmbkmeaaGreatDoor.chainUnique
open Go.ChangeShapes Go.WideShapes Go.ChangeAt Go.RowKit Go.Proofs.YtohikcplmbkmeaaGreatDoor
set_option maxRecDepth 100000 in
theorem contract (H:Type) (enc:TypeId×Value→H) (W:World) (base:Nat) (args:Array Value) (ds gs:List (DataW H)) (before:List MemPlace)
  (hval: ∀(j:Nat) t v,Tryz.f9.params[j]? =some t→args[j]? =some v→Value.okWide Tryz.prog W .any base t v)
  (hW:DataW.Whole enc Tryz.prog Tryz.f9.params.toList Rows.chainUniqueSpec.vars false W args.toList ds gs before)
  (hw:(DataW.weightsEach Tryz.prog (Tryz.f9.params.toList ++ (OpenSpec.ofChange Rows.chainUniqueSpec).bare.plain.varTypes Tryz.prog) (ds ++ gs)).all (· ≤reachBytes)=true)
  (hL:laidMetH Tryz.prog Rows.chainUniqueRow.laid W) (hopen:W.ShapedOpen Tryz.prog) :
  Calls Tryz.prog 9 args W fun e W'=> ∃v,e= .returned v∧Rows.chainUniqueSpec.post enc Tryz.prog Tryz.f9 false true false false W args v W':=by
 have hW':=hW
 obtain⟨p,q,hA0,hV,rfl,hfz,hnd⟩:=hW
 have hA:DataW.TrodAll enc Tryz.prog W 0 (fun _=>true) true Tryz.f9.params.toList args.toList ds p:=hA0
 rw [Tryz.params9] at hA hval hw
 obtain⟨v0,vs0,d0,ds0,p0,q0,hargs,rfl,rfl,h0,r0⟩:=trodAll_cons hA
 obtain⟨v1,vs1,d1,ds1,p1,q1,rfl,rfl,rfl,h1,r1⟩:=trodAll_cons r0
 obtain⟨v2,vs2,d2,ds2,p2,q2,rfl,rfl,rfl,h2,r2⟩:=trodAll_cons r1
 obtain⟨rfl,rfl,rfl⟩:=trodAll_nil r2
 obtain rfl:args= #[v0,v1,v2] :=by cases args;simp_all
 obtain⟨rfl,rfl⟩:=trodVars_none hV
 have k0:=h0
 have lt0: ∀x∈p0,x.block < W.heap.size:=by obtain⟨m,hm⟩:=k0;exact DataW.trod_lt m _ _ _ hm
 have k1:=h1
 have lt1: ∀x∈p1,x.block < W.heap.size:=by obtain⟨m,hm⟩:=k1;exact DataW.trod_lt m _ _ _ hm
 have k2:=h2
 have lt2: ∀x∈p2,x.block < W.heap.size:=by obtain⟨m,hm⟩:=k2;exact DataW.trod_lt m _ _ _ hm
 simp only [List.append_nil] at hW'
 have hw:(d0.weights Tryz.prog 24 ++ (d1.weights Tryz.prog 3 ++ (d2.weights Tryz.prog 3 ++ (DataW.weightsEach Tryz.prog ((OpenSpec.ofChange Rows.chainUniqueSpec).bare.plain.varTypes Tryz.prog) [])))).all (· ≤reachBytes)=true:=hw
 simp only [List.all_append,Bool.and_eq_true] at hw
 obtain⟨hw0,hw1,hw2,_⟩:=hw
 obtain⟨A0,n0,cap0,rfl⟩:=okWide_slice Tryz.underlying24 (hval 0 24 v0 rfl rfl)
 obtain⟨fuel0,hf0⟩:=h0
 obtain⟨_,m0,hm0,hr0,hb0⟩:=Hz.2 enc W _ true fuel0 _ d0 p0 hf0 hw0
 obtain⟨x0,rfl,hx0⟩:=EW hm0
 obtain⟨a1,rfl,rfl,rfl,wa1⟩:=open_int Tryz.underlying3 (hval 1 3 v1 rfl rfl) h1
 obtain⟨a2,rfl,rfl,rfl,wa2⟩:=open_int Tryz.underlying3 (hval 2 3 v2 rfl rfl) h2
 refine(AX x0 hx0 a1 a2 W (GR W) [_,_,_] (Hw (show laidMet Tryz.prog CY W from hL) hopen) (fun b o h=>h) (.cons (.val [_] hr0) (.cons (.val [_] .int) (.cons (.val [_] .int) .nil)))).mono fun e W' ⟨v,he,hv,bel⟩=>?_
 subst he
 obtain rfl:=hv.bool_
 exact⟨_,rfl,_,_,_,[],_,[],hW',trodAll_mk1 (shut_bool Tryz.underlying4 _),(trodAll_cons_mk (Below.trod Km (by kernel_rfl) (ot (by kernel_rfl)) k0 bel lt0) (trodAll_cons_mk (shut_int Tryz.underlying3 wa1) (trodAll_cons_mk (shut_int Tryz.underlying3 wa2) trodAll_mk0))),rfl,bel.frame _,fun h=>by cases h⟩
theorem reads (os:Os) {H:Type} (enc:TypeId×Value→H): ∃places,DataW.whole enc Tryz.prog ((CZ os).forCall (fun _ _=>0) ⟨#[], #[.slice none 0 0, .int .i64 0, .int .i64 0],[]⟩).memory Tryz.f9.params.toList Rows.chainUniqueSpec.vars false #[Value.slice none 0 0,Value.int .i64 0,Value.int .i64 0].toList 8=some ([.nil, .lit (.int .i64 0), .lit (.int .i64 0)],[],places):=
 ⟨[],by kernel_rfl⟩
set_option maxRecDepth 100000 in
theorem lifted (os:Os) (started:os.Started) (H:Type) (enc:TypeId×Value→H) (F:Stop.Interp) :
  ReturnsInHanded {} Tryz.checked os 9 .any ((OpenSpec.ofChange Rows.chainUniqueSpec).preRow enc Tryz.prog Tryz.f9 Rows.chainUniqueRow.domain false Rows.chainUniqueRow.laid) (((OpenSpec.ofChange Rows.chainUniqueSpec).at F).post enc Tryz.prog Tryz.f9 false true false false):=by
 obtain⟨places,hx⟩:=reads os enc
 refine returnsInHanded_of_row (C:=Tryz.checked) (s:=OpenSpec.ofChange Rows.chainUniqueSpec) Pu started (by kernel_rfl) Tryz.func9
  (zX (enc:=enc) (C:=Tryz.checked) (CZ os) (World.laidAll_os _ _ _) #[.slice none 0 0, .int .i64 0, .int .i64 0] (Kn os _) (by kernel_rfl)
   (OpenSpec.preRow_of_cond 8 hx (by kernel_rfl) (fun k hk=>by cases hk) (by kernel_rfl) (Hy os _))) ?_
 intro W base args ds gs before hval hW _ _ hw hL hopen _
 exact contract H enc W base args ds gs before hval hW hw hL hopen
theorem said:Rows.ChainUniqueSaid:=
 OpenClaim.holds_of_cond 9 Tryz.f9 rfl rfl rfl rfl rfl rfl rfl ⟨rfl,rfl,rfl,rfl,rfl⟩ rfl rfl rfl rfl rfl (by kernel_rfl) Tryz.func9 Nq
  (ot (by kernel_rfl)) (by unfold Func.isWrapper;first | (rw [if_pos (by decide +kernel)];kernel_rfl) | (rw [if_neg (by decide +kernel)];exact⟨rfl,rfl⟩))
  (fun os started H enc _ F=>by rw [OpenClaim.pre_eq_preRow];exact lifted os started H enc F)
theorem plain (f:FuncId) (fn:Func) (hf:Tryz.pinned.checked.prog.funcNamed "mempool/mempoollaw27.ChainUnique" =some f) (hfn:Tryz.pinned.checked.prog.funcs[f]? =some fn) :
  true=Tryz.pinned.checked.prog.looks [] ∧∀(j:Nat) t,fn.params[j]? =some t→Tryz.pinned.checked.prog.wantsStandIn t=false:=by
 obtain rfl:f=9:=Option.some.inj ((show Tryz.prog.funcNamed "mempool/mempoollaw27.ChainUnique" =some 9 by kernel_rfl).symm.trans hf) |>.symm
 obtain rfl:fn=Tryz.f9:=(Option.some.inj (Tryz.func9.symm.trans hfn)).symm
 refine⟨by kernel_rfl,fun j t ht=>?_⟩
 have key:(Tryz.f9.params.all fun t=>Tryz.prog.wantsStandIn t == false)=true:=by kernel_rfl
 have:=Array.all_eq_true_iff_forall_mem.1 key t (Array.mem_of_getElem? ht)
 show Tryz.prog.wantsStandIn t=false
 simpa using this
theorem card:Rows.ChainUniqueCardSaid:=
 Claim7.holds_tied_plain_at .later [] _ _ _ _ said (fun _ h=>by cases h) (by kernel_rfl) (fun _ h=>by cases h) chainUnique_row_tie rfl ⟨rfl,rfl⟩ (by kernel_rfl) rfl plain (by kernel_rfl)
end Go.Proofs.YtohikcplmbkmeaaGreatDoor.chainUnique
