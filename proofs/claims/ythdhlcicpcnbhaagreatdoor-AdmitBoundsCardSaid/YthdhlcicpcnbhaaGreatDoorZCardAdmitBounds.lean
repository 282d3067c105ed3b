/- AdmitBounds: the row and the card: whatever the arguments, the law answers true and its arguments read as before. Conditions: none but what the row lists (the laid tables). -/
import Derived.Test.YthdhlcicpcnbhaaGreatDoorV12
open List renaming length_take → a₀,getElem_mem → a₁,length_map → a₂,pairwise_iff_getElem → a₃,map_append → a₆
open And renaming intro → a₄
open Bool renaming and_eq_true → a₅
set_option maxRecDepth 20000
set_option maxHeartbeats 16000000
set_option linter.unusedVariables false
set_option linter.unusedSimpArgs false
namespace Go.Proofs.YthdhlcicpcnbhaaGreatDoor
open Go.RowKit
section
attribute [local irreducible] aj aC aG aM aQ vC aY aA
theorem distinct_m {G:GS} (l:List (List UInt8)) (hl:l.length≤1000000) (hk:eF l) (hd:l.Nodup):aD Tryz.prog G 30 [.sl l.length (l.map keyM)] (.bool true):=by
 refine bf seat Tryz.func30 18 ?_;refine ad ?_;refine ar Nat (fun j=> [(7, .int .i64 j),(6, .int .i64 l.length),(5, .sl l.length (l.map keyM)),(0, .sl l.length (l.map keyM))]) (fun _=> []) 0 (fun j=>j≤l.length) (fun j=>l.length - j) 0 (Nat.zero_le _) (vm [] []) ?_;intro j hj;try dsimp only
 refine ad ?_;refine ae rfl ?_ ?_ <;> intro h
 ·have hj':j < l.length:=by have:=ot h;omega
  have hel:=al.mk (lz hj');have hkj:=hk _ (a₁ hj');have hnot:l[j] ∉ l.take j:=by
   intro hm;obtain⟨i,hi,he⟩:=List.getElem_of_mem hm;rw [a₀] at hi;rw [List.getElem_take] at he;have h2:=a₃.1 hd i j om hj' om;exact h2 he
  have c1:=Er (G:=G) (l.take j) l[j] (by rw [a₀];omega) hkj (fun x hx=>hk x (List.mem_of_mem_take hx));rw [decide_eq_false (by rw [← Int.not_lt];exact fun h=>h ((gE _ _ 0).2 hnot))] at c1;rw [a₀,Nat.min_eq_left hj] at c1;have fb1:=al.mk (mj (n:=l.length) (k:=j) (κ:= .i64) hj);have fb2:=bJ.mk (eI l);have fb3:=aX.mk (cut_take keyM l j);generalize l[j] =q at *;refine ad ?_;refine av [ag 0,ag 1,ag 2,ag 3,da 4] ?_;refine ad ?_;refine du (c1) ?_;exact⟨j + 1,dm,dm,(by dsimp only;exact(vm [] []))⟩
 ·refine ad ?_;refine aw ?_;rfl
theorem admitBounds_core (k:List Int) (hk:k.length≤140737488355328):aD Tryz.prog GU 7 [bS k] (.bool true):=by
 have cl:=yU k hk;by_cases h1:160 < k.length
 ·rw [decide_eq_true h1] at cl;unfold bS at *;refine bf seat Tryz.func7 113 ?_;refine ad ?_;refine cG rfl (fun _ h=>h) rfl (aa (cl)) rfl [(2,1)] mm lm ?_;refine ad ?_;refine bL (known_m) ?_;refine aw ?_;rfl
 rw [decide_eq_false h1] at cl;have cm:=yT k;unfold bS at *;refine bf seat Tryz.func7 113 ?_;refine ad ?_;refine cG rfl (fun _ h=>h) rfl (aa (cl)) rfl [(2,1)] mm lm ?_;refine ad ?_;refine kh rfl (fun _ h=>h) rfl (cm) [] [] ⟨rfl,trivial,rfl,lm,mm⟩ rfl ?_;rintro _ _ _ ⟨N,s,hN,rfl,rfl,rfl,hs,hi⟩;refine⟨rfl,?_⟩;have hel:=hs.ents;have c1:=Eo (G:=GU) s.ents om (fun e he=>by have:=(hs.entk e he).raw;omega);have c2:=distinct_m (G:=GU) s.cache (by have:=hs.cache;omega) hs.ck hi.cd;have c3:=distinct_m (G:=GU) (s.ents.map (·.key)) (by rw [a₂];omega) (fun x hx=>by obtain⟨e,he,rfl⟩:=List.mem_map.1 hx;exact(hs.entk e he).key) hi.kd;clear cl cm;refine ad ?_;refine av [ag 0,ag 1,ag 2,ag 3,ag 4,ag 5,ag 6,ag 7,ag 8,ag 9,ag 10,ag 11,ag 12,ag 13,da 14,ag 15,ag 16,ag 17,ag 18,ag 19,ag 20,ag 21,ag 22,ag 23,ag 24,ag 25,ag 26,ag 27,ag 28,ag 29,ag 30,ag 31,da 32,ag 33,ag 34] ?_;refine ad ?_;refine dY rfl rfl ?_ rfl ?_ <;> intro h
 rotate_left
 ·exact absurd (ot h) (by have:=hi.el;omega)
 refine ad ?_;refine du (c1) ?_;refine dY rfl rfl ?_ rfl ?_ <;> intro h
 rotate_left
 ·exact absurd (ot h) (by have:=hi.eb;omega)
 refine ad ?_;refine dY rfl rfl ?_ rfl ?_ <;> intro h
 rotate_left
 ·exact absurd (ot h) (by have:=hi.cl;omega)
 refine ad ?_;refine du (c2) ?_;obtain⟨ks,hks⟩: ∃ks,ks=s.ents.map (·.key):=⟨_,rfl⟩
 have hkl:ks.length=s.ents.length:=by rw [hks,a₂]
 rw [← hks] at c3;have htk: ∀j (hj:j < s.ents.length),ks.take (j + 1)=ks.take j ++ [s.ents[j].key] :=fun j hj=>by rw [List.take_succ_eq_append_getElem om];congr 2;simp [hks]
 clear c1 c2 hks;refine ar Nat (fun j=> [(59, .int .i64 j),(58, .int .i64 s.ents.length),(57, .sl s.ents.length (s.ents.map au)),(3, .ptr 0 25 0 0 []),(7, .ms 1 32 0 j)]) (fun j=> [(0,⟨42,25,false,0,[dq s]⟩),(1,⟨55,32,true,0,(ks.take j).map keyM⟩)]) 2 (fun j=>j≤s.ents.length) (fun j=>s.ents.length - j) 0 (Nat.zero_le _) (vm [(0,_)] []) ?_;intro j hj;try dsimp only
 refine ad ?_;refine ae rfl ?_ ?_ <;> intro h
 ·have hj':j < s.ents.length:=by have:=ot h;omega
  have hel2:=al.mk (dS hj');have her:=(hs.entk _ (a₁ hj')).raw;have d1:=Is (G:=GU) s.ents[j].raw om;obtain⟨hno,hrl⟩:=hi.ks _ (a₁ hj');rw [← hno] at d1;clear hno;have hoa:=hi.oa _ (a₁ hj');have htj:=htk j hj';have hpv:0 < j→∃p:Ent,p.order < s.ents[j].order∧db (s.ents.map au) s.ents.length ((j:Int) - 1)=some (au p):=by
   intro hp;obtain⟨i,rfl⟩: ∃i,j=i + 1:=⟨j - 1,om⟩
   refine⟨s.ents[i],a₃.1 hi.od i (i + 1) om hj' om,?_⟩;rw [show ((i + 1:Nat):Int) - 1=(i:Int) by omega];exact dS om
  generalize s.ents[j] =e at *;obtain⟨e1,e2,e3,e4,e5,e6,e7,e8,e9,e10⟩:=e;unfold au at hel2;dsimp only at hel2 hrl hoa her htj d1 hpv;have q1:=al.mk (pS e1);have s1:=bJ.mk (ig e1 e1);clear c3 htk;refine ad ?_;refine av [ag 0,ag 1,ag 2,ag 3,da 4,ag 5,ag 6,ag 7,ag 8,ag 9,ag 10,ag 11,ag 12,ag 13,ag 14,ag 15,ag 16,ag 17,ag 18,ag 19,ag 20,ag 21,ag 22,ag 23,ag 24,ag 25,ag 26,ag 27,ag 28,ag 29,ag 30,ag 31,ag 32,ag 33,ag 34,ag 35,ag 36,ag 37] ?_;refine ad ?_;refine OS (d1) ?_;refine eV ?_;refine dY rfl rfl ?_ rfl ?_ <;> intro h
  rotate_left
  ·exact absurd (ot h) om
  refine eV ?_;refine dY rfl rfl ?_ rfl ?_ <;> intro h
  rotate_left
  ·exact absurd (ot h) om
  refine eV ?_;refine dY rfl rfl ?_ rfl ?_ <;> intro h
  ·obtain⟨p,hpo,hpl⟩:=hpv (by have:=ot h;omega);obtain⟨p1,p2,p3,p4,p5,p6,p7,p8,p9,p10⟩:=p;unfold au at hpl;dsimp only at hpo hpl;have hpl:=al.mk hpl;refine eV ?_;refine ae rfl ?_ ?_ <;> intro h
   ·exact absurd (ot h) om
   refine ad ?_;refine bc rfl rfl (by intro R hR;refine dZ hR ?_;(refine a₄ (Nat.le_refl _) ?_;refine⟨_,rfl,?_⟩;refine a₄ ⟨(by rw [a₂,a₀];omega),aF (by kernel_rfl) pf⟩ ?_;refine⟨(ks.take (j + 1)).map keyM,sv (by rw [htj,a₆];rfl),j + 1,sv pf,?_⟩);exact hR) rfl ?_;refine ad ?_;exact⟨j + 1,dm,dm,(by dsimp only;exact(vm [(0,_),(1,_)] []))⟩
  ·refine eV ?_;refine ad ?_;refine bc rfl rfl (by intro R hR;refine dZ hR ?_;(refine a₄ (Nat.le_refl _) ?_;refine⟨_,rfl,?_⟩;refine a₄ ⟨(by rw [a₂,a₀];omega),aF (by kernel_rfl) pf⟩ ?_;refine⟨(ks.take (j + 1)).map keyM,sv (by rw [htj,a₆];rfl),j + 1,sv pf,?_⟩);exact hR) rfl ?_;refine ad ?_;exact⟨j + 1,dm,dm,(by dsimp only;exact(vm [(0,_),(1,_)] []))⟩
 ·have hj9:j=s.ents.length:=by have:=oF h;omega
  subst hj9;rw [← hkl,List.take_length];refine ad ?_;refine cG rfl (fun _ h=>h) rfl (aa (c3)) rfl [(1,ks.length)] mm lm ?_;refine ad ?_;refine bL (known_m) ?_;refine aw ?_;rfl
end
end Go.Proofs.YthdhlcicpcnbhaaGreatDoor
namespace Go.Proofs.YthdhlcicpcnbhaaGreatDoor.admitBounds
open Go.Proofs.YthdhlcicpcnbhaaGreatDoor
theorem r1:(Rows.admitBoundsRow.inPlace == Tryz.prog.inPlace 7)=true:=by kernel_rfl
theorem r2:(Rows.admitBoundsRow.unfollowed == Tryz.prog.unfollowed 7)=true:=by kernel_rfl
theorem r3:(Rows.admitBoundsRow.recurses == Tryz.prog.recurses 7)=true:=by kernel_rfl
theorem r4:(Rows.admitBoundsRow.named == Tryz.prog.varsNamed 7)=true:=by kernel_rfl
set_option maxRecDepth 100000 in
theorem closed:joinedFacts Tryz.prog 7 Tryz.f7 (OpenSpec.ofChange Rows.admitBoundsSpec).bare Rows.admitBoundsRow=true:=by
 simp only [joinedFacts,a₅]
 and_intros
 all_goals first
  | (with_reducible exact r1)
  | (with_reducible exact r2)
  | (with_reducible exact r3)
  | (with_reducible exact r4)
  | kernel_rfl
end Go.Proofs.YthdhlcicpcnbhaaGreatDoor.admitBounds
namespace Go.Proofs.YthdhlcicpcnbhaaGreatDoor.admitBounds
open Go.ChangeShapes Go.WideShapes Go.ChangeAt Go.RowKit Go.Proofs.YthdhlcicpcnbhaaGreatDoor
set_option maxRecDepth 100000 in
theorem contract (H:Type) (enc:TypeId×Value→H) (W:World) (base:Nat) (args:Array Value) (ds gs:List (DataW H)) (before:List MemPlace)
  (hval: ∀(j:Nat) t v,Tryz.f7.params[j]? =some t→args[j]? =some v→Value.okWide Tryz.prog W .any base t v)
  (hW:DataW.Whole enc Tryz.prog Tryz.f7.params.toList Rows.admitBoundsSpec.vars false W args.toList ds gs before)
  (hw:(DataW.weightsEach Tryz.prog (Tryz.f7.params.toList ++ (OpenSpec.ofChange Rows.admitBoundsSpec).bare.plain.varTypes Tryz.prog) (ds ++ gs)).all (· ≤reachBytes)=true)
  (hL:laidMetH Tryz.prog Rows.admitBoundsRow.laid W) (hopen:W.ShapedOpen Tryz.prog) :
  Calls Tryz.prog 7 args W fun e W'=> ∃v,e= .returned v∧Rows.admitBoundsSpec.post enc Tryz.prog Tryz.f7 false true false false W args v W':=by
 have hW':=hW
 obtain⟨p,q,hA0,hV,rfl,hfz,hnd⟩:=hW
 have hA:DataW.TrodAll enc Tryz.prog W 0 (fun _=>true) true Tryz.f7.params.toList args.toList ds p:=hA0
 rw [Tryz.params7] at hA hval hw
 obtain⟨v0,vs0,d0,ds0,p0,q0,hargs,rfl,rfl,h0,r0⟩:=trodAll_cons hA
 obtain⟨rfl,rfl,rfl⟩:=trodAll_nil r0
 obtain rfl:args= #[v0] :=by cases args;simp_all
 obtain⟨rfl,rfl⟩:=trodVars_none hV
 have k0:=h0
 have lt0: ∀x∈p0,x.block < W.heap.size:=by obtain⟨m,hm⟩:=k0;exact DataW.trod_lt m _ _ _ hm
 simp only [List.append_nil] at hW'
 have hw:(d0.weights Tryz.prog 26 ++ (DataW.weightsEach Tryz.prog ((OpenSpec.ofChange Rows.admitBoundsSpec).bare.plain.varTypes Tryz.prog) [])).all (· ≤reachBytes)=true:=hw
 simp only [List.all_append,a₅] at hw
 obtain⟨hw0,_⟩:=hw
 obtain⟨A0,n0,cap0,rfl⟩:=okWide_slice Tryz.underlying26 (hval 0 26 v0 rfl rfl)
 obtain⟨fuel0,hf0⟩:=h0
 obtain⟨_,m0,hm0,hr0,hb0⟩:=vy.2 enc W _ true fuel0 _ d0 p0 hf0 hw0
 obtain⟨x0,rfl,hx0⟩:=qZ hm0
 refine(admitBounds_core x0 hx0 W (Du W) [_] (vw (show laidMet Tryz.prog xi W from hL) hopen) (fun b o h=>h) (.cons (.val [_] hr0) .nil)).mono fun e W' ⟨v,he,hv,bel⟩=>?_
 subst he
 obtain rfl:=hv.bool_
 exact⟨_,rfl,_,_,_,[],_,[],hW',trodAll_mk1 (shut_bool Tryz.underlying4 _),(trodAll_cons_mk (Below.trod yV (by kernel_rfl) (ot (by kernel_rfl)) k0 bel lt0) trodAll_mk0),rfl,bel.frame _,fun h=>by cases h⟩
theorem reads (os:Os) {H:Type} (enc:TypeId×Value→H): ∃places,DataW.whole enc Tryz.prog ((rS os).forCall (fun _ _=>0) ⟨#[], #[.slice none 0 0],[]⟩).memory Tryz.f7.params.toList Rows.admitBoundsSpec.vars false #[Value.slice none 0 0].toList 8=some ([.nil],[],places):=
 ⟨[],by kernel_rfl⟩
set_option maxRecDepth 100000 in
theorem lifted (os:Os) (started:os.Started) (H:Type) (enc:TypeId×Value→H) (F:Stop.Interp) :
  ReturnsInHanded {} Tryz.checked os 7 .any ((OpenSpec.ofChange Rows.admitBoundsSpec).preRow enc Tryz.prog Tryz.f7 Rows.admitBoundsRow.domain false Rows.admitBoundsRow.laid) (((OpenSpec.ofChange Rows.admitBoundsSpec).at F).post enc Tryz.prog Tryz.f7 false true false false):=by
 obtain⟨places,hx⟩:=reads os enc
 refine returnsInHanded_of_row (C:=Tryz.checked) (s:=OpenSpec.ofChange Rows.admitBoundsSpec) Qp started (by kernel_rfl) Tryz.func7
  (mR (enc:=enc) (C:=Tryz.checked) (rS os) (World.laidAll_os _ _ _) #[.slice none 0 0] (yW os _) (by kernel_rfl)
   (OpenSpec.preRow_of_cond 8 hx (by kernel_rfl) (fun k hk=>by cases hk) (by kernel_rfl) (vx os _))) ?_
 intro W base args ds gs before hval hW _ _ hw hL hopen _
 exact contract H enc W base args ds gs before hval hW hw hL hopen
theorem said:Rows.AdmitBoundsSaid:=
 OpenClaim.holds_of_cond 7 Tryz.f7 rfl rfl rfl rfl rfl rfl rfl ⟨rfl,rfl,rfl,rfl,rfl⟩ rfl rfl rfl rfl rfl (by kernel_rfl) Tryz.func7 closed
  (ot (by kernel_rfl)) (by unfold Func.isWrapper;first | (rw [if_pos (by decide +kernel)];kernel_rfl) | (rw [if_neg (by decide +kernel)];exact⟨rfl,rfl⟩))
  (fun os started H enc _ F=>by rw [OpenClaim.pre_eq_preRow];exact lifted os started H enc F)
theorem plain (f:FuncId) (fn:Func) (hf:Tryz.pinned.checked.prog.funcNamed "mempool/mempoollaw22.AdmitBounds" =some f) (hfn:Tryz.pinned.checked.prog.funcs[f]? =some fn) :
  true=Tryz.pinned.checked.prog.looks [] ∧∀(j:Nat) t,fn.params[j]? =some t→Tryz.pinned.checked.prog.wantsStandIn t=false:=by
 obtain rfl:f=7:=Option.some.inj ((show Tryz.prog.funcNamed "mempool/mempoollaw22.AdmitBounds" =some 7 by kernel_rfl).symm.trans hf) |>.symm
 obtain rfl:fn=Tryz.f7:=(Option.some.inj (Tryz.func7.symm.trans hfn)).symm
 refine⟨by kernel_rfl,fun j t ht=>?_⟩
 have key:(Tryz.f7.params.all fun t=>Tryz.prog.wantsStandIn t == false)=true:=by kernel_rfl
 have:=Array.all_eq_true_iff_forall_mem.1 key t (Array.mem_of_getElem? ht)
 show Tryz.prog.wantsStandIn t=false
 simpa using this
theorem card:Rows.AdmitBoundsCardSaid:=
 Claim7.holds_tied_plain_at .later [] _ _ _ _ said (fun _ h=>by cases h) (by kernel_rfl) (fun _ h=>by cases h) admitBounds_row_tie rfl ⟨rfl,rfl⟩ (by kernel_rfl) rfl plain (by kernel_rfl)
end Go.Proofs.YthdhlcicpcnbhaaGreatDoor.admitBounds
