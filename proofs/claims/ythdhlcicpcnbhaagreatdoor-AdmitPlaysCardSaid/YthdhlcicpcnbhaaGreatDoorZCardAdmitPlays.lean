/- AdmitPlays: the row and the card: whatever the arguments, the law answers true and its arguments read as before. Conditions: none but what the row lists (the laid tables). -/
import Derived.Test.YthdhlcicpcnbhaaGreatDoorW12
open Bool renaming and_eq_true → a₀
set_option maxRecDepth 20000
set_option maxHeartbeats 16000000
set_option linter.unusedVariables false
set_option linter.unusedSimpArgs false
namespace Go.Proofs.YthdhlcicpcnbhaaGreatDoor.admitPlays
open Go.Proofs.YthdhlcicpcnbhaaGreatDoor
theorem r1:(Rows.admitPlaysRow.inPlace == Tryz.prog.inPlace 4)=true:=by kernel_rfl
theorem r2:(Rows.admitPlaysRow.unfollowed == Tryz.prog.unfollowed 4)=true:=by kernel_rfl
theorem r3:(Rows.admitPlaysRow.recurses == Tryz.prog.recurses 4)=true:=by kernel_rfl
theorem r4:(Rows.admitPlaysRow.named == Tryz.prog.varsNamed 4)=true:=by kernel_rfl
set_option maxRecDepth 100000 in
theorem closed:joinedFacts Tryz.prog 4 Tryz.f4 (OpenSpec.ofChange Rows.admitPlaysSpec).bare Rows.admitPlaysRow=true:=by
 simp only [joinedFacts,a₀]
 and_intros
 all_goals first
  | (with_reducible exact r1)
  | (with_reducible exact r2)
  | (with_reducible exact r3)
  | (with_reducible exact r4)
  | kernel_rfl
end Go.Proofs.YthdhlcicpcnbhaaGreatDoor.admitPlays
namespace Go.Proofs.YthdhlcicpcnbhaaGreatDoor.admitPlays
open Go.ChangeShapes Go.WideShapes Go.ChangeAt Go.RowKit Go.Proofs.YthdhlcicpcnbhaaGreatDoor
set_option maxRecDepth 100000 in
theorem contract (H:Type) (enc:TypeId×Value→H) (W:World) (base:Nat) (args:Array Value) (ds gs:List (DataW H)) (before:List MemPlace)
  (hval: ∀(j:Nat) t v,Tryz.f4.params[j]? =some t→args[j]? =some v→Value.okWide Tryz.prog W .any base t v)
  (hW:DataW.Whole enc Tryz.prog Tryz.f4.params.toList Rows.admitPlaysSpec.vars false W args.toList ds gs before)
  (hw:(DataW.weightsEach Tryz.prog (Tryz.f4.params.toList ++ (OpenSpec.ofChange Rows.admitPlaysSpec).bare.plain.varTypes Tryz.prog) (ds ++ gs)).all (· ≤reachBytes)=true)
  (hL:laidMetH Tryz.prog Rows.admitPlaysRow.laid W) (hopen:W.ShapedOpen Tryz.prog) :
  Calls Tryz.prog 4 args W fun e W'=> ∃v,e= .returned v∧Rows.admitPlaysSpec.post enc Tryz.prog Tryz.f4 false true false false W args v W':=by
 have hW':=hW
 obtain⟨p,q,hA0,hV,rfl,hfz,hnd⟩:=hW
 have hA:DataW.TrodAll enc Tryz.prog W 0 (fun _=>true) true Tryz.f4.params.toList args.toList ds p:=hA0
 rw [Tryz.params4] at hA hval hw
 obtain⟨v0,vs0,d0,ds0,p0,q0,hargs,rfl,rfl,h0,r0⟩:=trodAll_cons hA
 obtain⟨rfl,rfl,rfl⟩:=trodAll_nil r0
 obtain rfl:args= #[v0] :=by cases args;simp_all
 obtain⟨rfl,rfl⟩:=trodVars_none hV
 have k0:=h0
 have lt0: ∀x∈p0,x.block < W.heap.size:=by obtain⟨m,hm⟩:=k0;exact DataW.trod_lt m _ _ _ hm
 simp only [List.append_nil] at hW'
 have hw:(d0.weights Tryz.prog 26 ++ (DataW.weightsEach Tryz.prog ((OpenSpec.ofChange Rows.admitPlaysSpec).bare.plain.varTypes Tryz.prog) [])).all (· ≤reachBytes)=true:=hw
 simp only [List.all_append,a₀] at hw
 obtain⟨hw0,_⟩:=hw
 obtain⟨A0,n0,cap0,rfl⟩:=okWide_slice Tryz.underlying26 (hval 0 26 v0 rfl rfl)
 obtain⟨fuel0,hf0⟩:=h0
 obtain⟨_,m0,hm0,hr0,hb0⟩:=vi.2 enc W _ true fuel0 _ d0 p0 hf0 hw0
 obtain⟨x0,rfl,hx0⟩:=qK hm0
 refine(rL x0 hx0 W (Bq W) [_] (vf (show laidMet Tryz.prog w6 W from hL) hopen) (fun b o h=>h) (.cons (.val [_] hr0) .nil)).mono fun e W' ⟨v,he,hv,bel⟩=>?_
 subst he
 obtain rfl:=hv.bool_
 exact⟨_,rfl,_,_,_,[],_,[],hW',trodAll_mk1 (shut_bool Tryz.underlying4 _),(trodAll_cons_mk (Below.trod na (by kernel_rfl) (ot (by kernel_rfl)) k0 bel lt0) trodAll_mk0),rfl,bel.frame _,fun h=>by cases h⟩
theorem reads (os:Os) {H:Type} (enc:TypeId×Value→H): ∃places,DataW.whole enc Tryz.prog ((rB os).forCall (fun _ _=>0) ⟨#[], #[.slice none 0 0],[]⟩).memory Tryz.f4.params.toList Rows.admitPlaysSpec.vars false #[Value.slice none 0 0].toList 8=some ([.nil],[],places):=
 ⟨[],by kernel_rfl⟩
set_option maxRecDepth 100000 in
theorem lifted (os:Os) (started:os.Started) (H:Type) (enc:TypeId×Value→H) (F:Stop.Interp) :
  ReturnsInHanded {} Tryz.checked os 4 .any ((OpenSpec.ofChange Rows.admitPlaysSpec).preRow enc Tryz.prog Tryz.f4 Rows.admitPlaysRow.domain false Rows.admitPlaysRow.laid) (((OpenSpec.ofChange Rows.admitPlaysSpec).at F).post enc Tryz.prog Tryz.f4 false true false false):=by
 obtain⟨places,hx⟩:=reads os enc
 refine returnsInHanded_of_row (C:=Tryz.checked) (s:=OpenSpec.ofChange Rows.admitPlaysSpec) PJ started (by kernel_rfl) Tryz.func4
  (mG (enc:=enc) (C:=Tryz.checked) (rB os) (World.laidAll_os _ _ _) #[.slice none 0 0] (yL os _) (by kernel_rfl)
   (OpenSpec.preRow_of_cond 8 hx (by kernel_rfl) (fun k hk=>by cases hk) (by kernel_rfl) (vg os _))) ?_
 intro W base args ds gs before hval hW _ _ hw hL hopen _
 exact contract H enc W base args ds gs before hval hW hw hL hopen
theorem said:Rows.AdmitPlaysSaid:=
 OpenClaim.holds_of_cond 4 Tryz.f4 rfl rfl rfl rfl rfl rfl rfl ⟨rfl,rfl,rfl,rfl,rfl⟩ rfl rfl rfl rfl rfl (by kernel_rfl) Tryz.func4 closed
  (ot (by kernel_rfl)) (by unfold Func.isWrapper;first | (rw [if_pos (by decide +kernel)];kernel_rfl) | (rw [if_neg (by decide +kernel)];exact⟨rfl,rfl⟩))
  (fun os started H enc _ F=>by rw [OpenClaim.pre_eq_preRow];exact lifted os started H enc F)
theorem plain (f:FuncId) (fn:Func) (hf:Tryz.pinned.checked.prog.funcNamed "mempool/mempoollaw22.AdmitPlays" =some f) (hfn:Tryz.pinned.checked.prog.funcs[f]? =some fn) :
  true=Tryz.pinned.checked.prog.looks [] ∧∀(j:Nat) t,fn.params[j]? =some t→Tryz.pinned.checked.prog.wantsStandIn t=false:=by
 obtain rfl:f=4:=Option.some.inj ((show Tryz.prog.funcNamed "mempool/mempoollaw22.AdmitPlays" =some 4 by kernel_rfl).symm.trans hf) |>.symm
 obtain rfl:fn=Tryz.f4:=(Option.some.inj (Tryz.func4.symm.trans hfn)).symm
 refine⟨by kernel_rfl,fun j t ht=>?_⟩
 have key:(Tryz.f4.params.all fun t=>Tryz.prog.wantsStandIn t == false)=true:=by kernel_rfl
 have:=Array.all_eq_true_iff_forall_mem.1 key t (Array.mem_of_getElem? ht)
 show Tryz.prog.wantsStandIn t=false
 simpa using this
theorem card:Rows.AdmitPlaysCardSaid:=
 Claim7.holds_tied_plain_at .later [] _ _ _ _ said (fun _ h=>by cases h) (by kernel_rfl) (fun _ h=>by cases h) admitPlays_row_tie rfl ⟨rfl,rfl⟩ (by kernel_rfl) rfl plain (by kernel_rfl)
end Go.Proofs.YthdhlcicpcnbhaaGreatDoor.admitPlays
