/- Parts of a proof, one behind the other: G3, G6, G7, G8, G9, GA, GB, GC, GE, S1, N1, PA, PB, Q1, Q2. -/
import Derived.Test.YthdhlcicpcnbhaaGreatDoorW05
open And renaming intro → a₀
open Prod.mk renaming injEq → a₁
open List renaming map_append → a₂,take_succ_eq_append_getElem → a₃,length_append → a₄,drop_eq_getElem_cons → a₅,length_drop → a₇,length_singleton → a₉,getElem_mem → b₀,nil_append → b₂,drop_length → b₃,length_take → b₄,length_map → b₅,take_of_length_le → b₆,take_length → b₇,mem_append → b₈,mem_of_mem_drop → b₉,drop_zero → c₁,length_cons → c₂,getElem_cons_succ → c₃,mem_of_mem_take → c₅,mem_cons → c₆,mem_singleton → c₈,length_nil → d₀,foldl_cons → d₁,sum_append → d₃,append_nil → d₄
open Nat renaming zero_le → a₆,le_refl → a₈,zero_add → b₁,le_of_eq → c₀,div_lt_iff_lt_mul → c₄
open Int renaming emod_lt_of_pos → c₇,toNat_natCast → c₉,emod_nonneg → d₂
set_option maxRecDepth 20000
set_option maxHeartbeats 16000000
set_option linter.unusedVariables false
set_option linter.unusedSimpArgs false
namespace Go.Proofs.YthdhlcicpcnbhaaGreatDoor
open Go.RowKit
section
variable {G:GS}
attribute [local irreducible] aj aC aG aL aO vC aU au
def Co:Option (List UInt8)→List aW→Nat
 | _,[] =>0
 | p,a :: r=>if dj a.name=false then 10 else match p with
  | none=>Co (some a.name) r
  | some q=>if q=a.name then 8 else if (!(Op.bytesLess q a.name || q == a.name))=true then 1 else Co (some a.name) r
theorem DQ (p:Option (List UInt8)):Co p [] =0:=by cases p <;> rfl
theorem pa (p:Option (List UInt8)) (a:aW) (r:List aW):Co p (a :: r)=if dj a.name=false then 10 else match p with
  | none=>Co (some a.name) r
  | some q=>if q=a.name then 8 else if (!(Op.bytesLess q a.name || q == a.name))=true then 1 else Co (some a.name) r:=by cases p <;> rfl
def lj (l:List aW):Nat→Option (List UInt8)
 | 0=>none
 | j + 1=>(l[j]?).map (·.name)
def eY (l:gr):Nat:=if 256 < l.acs.length then 3 else if Co none l.acs≠0 then Co none l.acs else if (totS l.acs l.col).2=false then 6 else 0
def kS (l:gr):Prop:=l.acs.length≤50000∧bh l.col∧∀a∈l.acs,eM a
theorem H7 (L:gr) (hL:kS L):aD Tryz.prog G 146 [lgM L] (.int .i64 (eY L)):=by
 obtain⟨l,col⟩:=L;obtain⟨hl,hcol,hsm⟩:=hL;dsimp only at hl hcol hsm;have ct:=DJ (G:=G) l col hcol om (fun a ha=>(hsm a ha).2.1);generalize hQ:eY ⟨l,col⟩=Q;unfold eY at hQ;dsimp only at hQ;unfold lgM;dsimp only;by_cases hn:256 < l.length
 ·rw [if_pos hn] at hQ;subst hQ;refine aZ seat Tryz.func146 59 ?_;refine ae ?_;(iterate 6 ((all_goals(refine ae ?_));(all_goals(first | ((first | refine ah rfl rfl ?_ rfl ?_ | refine ad rfl ?_ ?_);all_goals(intro h;(try simp only [pl] at h);(try (exfalso;omega)))) | skip))));all_goals(refine av ?_)
  all_goals rfl
 rw [if_neg hn] at hQ;generalize hv:Co none l=v at *;generalize totS l col=p at *;obtain⟨tot,ok⟩:=p;dsimp only at ct hQ;refine aZ seat Tryz.func146 59 ?_;refine ae ?_;(iterate 3 ((all_goals(refine ae ?_));(all_goals(first | ((first | refine ah rfl rfl ?_ rfl ?_ | refine ad rfl ?_ ?_);all_goals(intro h;(try simp only [pl] at h);(try (exfalso;omega)))) | skip))));refine ar Nat (fun k=> [(14, .int .i64 k),(13, .int .i64 l.length),(12, .sl l.length (l.map aV)),(1, .ptr 0 2 0 0 [])]) (fun _=> [(0,⟨36,2,false,0,[.st [.sl l.length (l.map aV), .int .u64 col]]⟩)]) 1 (fun k=>k≤l.length∧Co (lj l k) (l.drop k)=v) (fun k=>l.length - k) 0 ⟨a₆ _,by rw [c₁];exact hv⟩ (vm [(0,_)] []) ?_;clear hv;rintro k ⟨hk,hR⟩;try dsimp only
 refine ae ?_;refine ad rfl ?_ ?_ <;> intro h
 ·have hk':k < l.length:=by have:=ot h;omega
  have hel:=eN hk';have hpn:lj l (k + 1)=some l[k].name:=by show(l[k]?).map _=_;simp [hk']
  have c1:=xS (G:=G) l[k].name (by have:=(hsm _ (b₀ hk')).1;omega);rw [a₅ hk',pa] at hR;rw [← hpn] at hR;have hnmk:lj l (k + 1)=some l[k].name:=hpn;rw [hnmk] at hR;generalize hak:l[k] =a at *;obtain⟨nm,bal,seq⟩:=a;replace hel:cS (l.map aV) l.length (k:Int)=some (.st [.str nm, .int .u64 bal, .int .u64 seq]):=hel;have hel:=al.mk hel;dsimp only at hR c1;by_cases hnm:dj nm=false
  ·rw [hnm] at c1;rw [if_pos hnm] at hR;subst hR;rw [if_pos om] at hQ;subst hQ;refine ae ?_;(iterate 6 ((all_goals(refine ae ?_));(all_goals(first | (refine ai rfl (fun _ h=>h) rfl (aa (c1)) rfl rfl ?_) | ((first | refine ah rfl rfl ?_ rfl ?_ | refine ad rfl ?_ ?_);all_goals(intro h;(try simp only [pl] at h);(try (exfalso;omega)))) | skip))));all_goals(refine av ?_)
   all_goals rfl
  rw [if_neg hnm] at hR;have hnm:dj nm=true:=by simpa using hnm
  rw [hnm] at c1;cases k with
  | zero=>
   dsimp only [lj] at hR;have hR:Co (lj l (0 + 1)) (l.drop (0 + 1))=v:=by rw [hnmk];exact hR
   refine ae ?_;(iterate 3 ((all_goals(refine ae ?_));(all_goals(first | (refine ai rfl (fun _ h=>h) rfl (aa (c1)) rfl rfl ?_) | ((first | refine ah rfl rfl ?_ rfl ?_ | refine ad rfl ?_ ?_);all_goals(intro h;(try simp only [pl] at h);(try (exfalso;omega)))) | skip))));refine aw [ag 0,ag 1,ag 2,ag 3,ag 4,ag 5,ag 6,ag 7,ag 8,ag 9,ag 10,ag 11,ag 12,ag 13] ?_;refine ae ?_;refine aw [ag 0,ag 1,ag 2,ag 3,ag 4,ag 5,ag 6,ag 7,ag 8,ag 9,ag 10,ag 11,ag 12,ag 13] ?_;refine ae ?_;exact⟨0 + 1,⟨by show 0 + 1≤l.length;omega,hR⟩,by show l.length - (0 + 1) < l.length - 0;omega,(by dsimp only;exact(vm [(0,_)] []))⟩
  | succ j=>
   have hj:j < l.length:=om;have hep:=eN hj;have hpj:lj l (j + 1)=some l[j].name:=by show(l[j]?).map _=_;simp [hj]
   rw [hpj] at hR;generalize l[j] =b at *;obtain⟨nb,bb,sb⟩:=b;replace hep:cS (l.map aV) l.length (((j + 1:Nat):Int) - 1)=some (.st [.str nb, .int .u64 bb, .int .u64 sb]):=by rw [show ((j + 1:Nat):Int) - 1=(j:Int) by omega];exact hep
   have hep:=al.mk hep;dsimp only at hR;refine ae ?_;(iterate 3 ((all_goals(refine ae ?_));(all_goals(first | (refine ai rfl (fun _ h=>h) rfl (aa (c1)) rfl rfl ?_) | ((first | refine ah rfl rfl ?_ rfl ?_ | refine ad rfl ?_ ?_);all_goals(intro h;(try simp only [pl] at h);(try (exfalso;omega)))) | skip))));refine aw [ag 0,ag 1,ag 2,ag 3,ag 4,ag 5,ag 6,ag 7,ag 8,ag 9,ag 10,ag 11,ag 12,ag 13] ?_;refine ae ?_;refine gO rfl rfl ?_ rfl ?_ <;> intro h
   rotate_left
   ·exact absurd (oF h) om
   by_cases hd:nb=nm
   ·subst hd;rw [if_pos rfl] at hR;subst hR;rw [if_pos om] at hQ;subst hQ;refine fP ?_;(iterate 4 ((all_goals(refine ae ?_));(all_goals(first | ((first | refine ah rfl rfl ?_ rfl ?_ | refine ad rfl ?_ ?_);all_goals(intro h;(try simp only [pl] at h);(try (exfalso;omega)))) | skip))));all_goals(refine av ?_)
    all_goals rfl
   rw [if_neg hd] at hR;refine ae ?_;refine ad rfl ?_ ?_ <;> intro h
   ·exact absurd (eq_of_beq h) hd
   refine ae ?_;refine aw [ag 0,ag 1,ag 2,ag 3,ag 4,ag 5,ag 6,ag 7,ag 8,ag 9,ag 10,ag 11,ag 12,ag 13] ?_;refine ae ?_;refine gO rfl rfl ?_ rfl ?_ <;> intro h
   rotate_left
   ·exact absurd (oF h) om
   refine ae ?_;refine ad rfl ?_ ?_ <;> intro h
   ·rw [if_pos h] at hR;subst hR;rw [if_pos om] at hQ;subst hQ;refine ae ?_;refine av ?_;rfl
   ·rw [if_neg (by rw [h];simp)] at hR;refine ae ?_;exact⟨j + 1 + 1,⟨by show j + 1 + 1≤l.length;omega,by rw [hnmk];exact hR⟩,by show l.length - (j + 1 + 1) < l.length - (j + 1);omega,(by dsimp only;exact(vm [(0,_)] []))⟩
 ·have hk':k=l.length:=by have:=oF h;omega
  subst hk';rw [b₃,DQ] at hR;subst hR;rw [if_neg sm] at hQ;cases ok with
  | true=>
   rw [if_neg sm] at hQ;subst hQ;refine ae ?_;(iterate 6 ((all_goals(refine ae ?_));(all_goals(first | (refine ai rfl (fun _ h=>h) rfl (aa (ct)) rfl rfl ?_) | ((first | refine ah rfl rfl ?_ rfl ?_ | refine ad rfl ?_ ?_);all_goals(intro h;(try simp only [pl] at h);(try (exfalso;omega)))) | skip))));all_goals(refine av ?_)
   all_goals rfl
  | false=>
   rw [if_pos rfl] at hQ;subst hQ;refine ae ?_;(iterate 6 ((all_goals(refine ae ?_));(all_goals(first | (refine ai rfl (fun _ h=>h) rfl (aa (ct)) rfl rfl ?_) | ((first | refine ah rfl rfl ?_ rfl ?_ | refine ad rfl ?_ ?_);all_goals(intro h;(try simp only [pl] at h);(try (exfalso;omega)))) | skip))));all_goals(refine av ?_)
   all_goals rfl
def iK:List aW→List aW→List aW×Nat
 | [],l=>(l,0)
 | a :: r,l=>if dj a.name=false then([],10) else if 0≤eO a.name l 0 then([],8) else iK r (eP a l)
def lg0:gr:=⟨[],0⟩
def kT (acs:List aW):gr×Nat:=if 256 < acs.length then(lg0,3) else if (iK acs []).2≠0 then(lg0,(iK acs []).2) else if (totS (iK acs []).1 0).2=false then(lg0,6) else(⟨(iK acs []).1,0⟩,0)
theorem tV {a x:aW}: ∀{l:List aW},x∈o8 a l→x=a∨x∈l
 | [],h=>by rw [o8] at h;simp at h;exact .inl h
 | b :: r,h=>by
  rw [o8] at h
  split at h
  ·rcases c₆.1 h with rfl | h
   ·exact .inr sm
   ·rcases tV h with h | h
    ·exact .inl h
    ·exact .inr (by simp [h])
  ·rcases c₆.1 h with rfl | h
   ·exact .inl rfl
   ·exact .inr h
theorem jX {a x:aW} {l:List aW} (h:x∈eP a l):x=a∨x∈l:=by
 unfold eP at h;split at h
 ·rcases List.mem_or_eq_of_mem_set h with h | h
  ·exact .inr h
  ·exact .inl h
 ·exact tV h
def ni (a:aW):Prop:=a.name.length≤140737488355328∧bh a.bal∧bh a.seq
theorem eM.wd {a:aW} (h:eM a):ni a:=⟨by have:=h.1;omega,h.2⟩
theorem FG {s:List UInt8} (h:dj s=true):s.length≤20:=by
 unfold dj at h;rw [Bool.and_eq_true] at h;exact(ot h.2).2
theorem ni.sm {a:aW} (h:ni a) (hn:dj a.name=true):eM a:=⟨by have:=FG hn;omega,h.2⟩
theorem xY: ∀(r l:List aW),(∀a∈r,ni a)→(∀a∈l,eM a)→(∀a∈(iK r l).1,eM a)∧(iK r l).1.length≤l.length + r.length
 | [],l,_,h=>⟨h,by simp [iK]⟩
 | a :: r,l,h1,h2=>by
  rw [iK]
  split
  ·exact⟨sm,sm⟩
  ·rename_i hnm
   split
   ·exact⟨sm,sm⟩
   ·have:=xY r (eP a l) (fun x hx=>h1 x (by simp [hx])) (fun x hx=>(jX hx).elim (fun e=>e▸(h1 a sm).sm (by simpa using hnm)) (h2 x))
    have h3:=mh a l
    refine⟨this.1,?_⟩
    rw [c₂]
    omega
theorem tW {acs:List aW} (h: ∀a∈acs,ni a):kS (kT acs).1:=by
 have h0:kS lg0:=⟨by simp [lg0],by simp [lg0,bh],by simp [lg0]⟩;have:=xY acs [] h sm;unfold kT;split
 ·exact h0
 split
 ·exact h0
 split
 ·exact h0
 ·refine⟨?_,by simp [bh],this.1⟩;have h2:=this.2;simp only [d₀] at h2;dsimp only;omega
theorem MW (l:List aW) (hl:l.length≤140737488355328) (hsm: ∀a∈l,ni a):aH Tryz.prog G 86 [.sl l.length (l.map aV)] [] 0 (.tup [lgM (kT l).1, .int .i64 (kT l).2]) [] 0:=by
 generalize hQ:kT l=Q;obtain⟨⟨Ql,Qc⟩,Qe⟩:=Q;unfold kT at hQ;unfold lgM;dsimp only;by_cases hn:256 < l.length
 ·rw [if_pos hn] at hQ;simp only [lg0,a₁,gr.mk.injEq] at hQ;obtain⟨⟨rfl,rfl⟩,rfl⟩:=hQ;refine bR seat Tryz.func86 46 ?_;refine ae ?_;(iterate 4 ((all_goals(refine ae ?_));(all_goals(first | ((first | refine ah rfl rfl ?_ rfl ?_ | refine ad rfl ?_ ?_);all_goals(intro h;(try simp only [pl] at h);(try (exfalso;omega)))) | skip))));all_goals(refine av ?_;exact en [_,_])
 rw [if_neg hn] at hQ;have hsmg:=xY l [] hsm sm;generalize hv:iK l [] =v at *;obtain⟨vl,ve⟩:=v;dsimp only at hQ hsmg;have hvl:vl.length≤256:=by have:=hsmg.2;simp only [d₀] at this;omega
 have ct:=DJ (G:=G) vl 0 (by unfold bh;omega) om (fun a ha=>(hsmg.1 a ha).2.1);clear hsmg;generalize totS vl 0=p at *;obtain⟨tot,ok⟩:=p;dsimp only at ct hQ;refine bR seat Tryz.func86 46 ?_;refine ae ?_;(iterate 3 ((all_goals(refine ae ?_));(all_goals(first | ((first | refine ah rfl rfl ?_ rfl ?_ | refine ad rfl ?_ ?_);all_goals(intro h;(try simp only [pl] at h);(try (exfalso;omega)))) | skip))));refine ar (Nat×List aW) (fun x=> [(15, .int .i64 x.1),(14, .int .i64 l.length),(13, .sl l.length (l.map aV)),(4, .ptr 1 2 0 0 []),(2, .ptr 0 2 0 0 [])]) (fun x=> [(0,⟨36,2,false,0,[.st [.nils, .int .u64 0]]⟩),(1,⟨36,2,false,0,[.st [.sl x.2.length (x.2.map aV), .int .u64 0]]⟩)]) 2 (fun x=>x.1≤l.length∧x.2.length≤x.1∧(∀a∈x.2,eM a)∧iK (l.drop x.1) x.2=(vl,ve)) (fun x=>l.length - x.1) (0,[]) ⟨a₆ _,a₆ _,sm,by rw [c₁];exact hv⟩ (by dsimp only;exact(vm [(0,_),(1,_)] [])) ?_;clear hv;rintro⟨k,z⟩ ⟨hk,hz,hzs,hR⟩;try dsimp only
 dsimp only at hk hz hzs hR;refine ae ?_;refine ad rfl ?_ ?_ <;> intro h
 ·have hk':k < l.length:=by have:=ot h;omega
  have hel:=eN hk';have hsa:=hsm _ (b₀ hk');have c1:=xS (G:=G) l[k].name (by have:=hsa.1;omega);have c2:=xW (G:=G) z l[k].name om;have c3:=H3 (G:=G) l[k] z om;have hpl:=mh l[k] z;have hpm:dj l[k].name=true→∀x∈eP l[k] z,eM x:=fun hn x hx=>(jX hx).elim (fun e=>e▸hsa.sm hn) (hzs x)
  rw [a₅ hk',iK] at hR;generalize eP l[k] z=z2 at *;generalize l[k] =a at *;obtain⟨nm,bal,seq⟩:=a;replace hel:cS (l.map aV) l.length (k:Int)=some (.st [.str nm, .int .u64 bal, .int .u64 seq]):=hel;have hel:=al.mk hel;dsimp only at hR c1 c2 hpm;unfold aV at c3;dsimp only at c3;by_cases hnm:dj nm=false
  ·rw [hnm] at c1;rw [if_pos hnm] at hR;simp only [a₁] at hR;obtain⟨rfl,rfl⟩:=hR;rw [if_pos om] at hQ;simp only [lg0,a₁,gr.mk.injEq] at hQ;obtain⟨⟨rfl,rfl⟩,rfl⟩:=hQ;refine ae ?_;(iterate 4 ((all_goals(refine ae ?_));(all_goals(first | (refine ai rfl (fun _ h=>h) rfl (aa (c1)) rfl rfl ?_) | ((first | refine ah rfl rfl ?_ rfl ?_ | refine ad rfl ?_ ?_);all_goals(intro h;(try simp only [pl] at h);(try (exfalso;omega)))) | skip))));all_goals(refine av ?_;exact en [_,_])
  rw [if_neg hnm] at hR;have hnm:dj nm=true:=by simpa using hnm
  rw [hnm] at c1;generalize eO nm z 0=fi at *;by_cases hfi:0≤fi
  ·rw [if_pos hfi] at hR;simp only [a₁] at hR;obtain⟨rfl,rfl⟩:=hR;rw [if_pos om] at hQ;simp only [lg0,a₁,gr.mk.injEq] at hQ;obtain⟨⟨rfl,rfl⟩,rfl⟩:=hQ;refine ae ?_;(iterate 6 ((all_goals(refine ae ?_));(all_goals(first | (refine ai rfl (fun _ h=>h) rfl (aa (c1)) rfl rfl ?_) | (refine ai rfl (fun _ h=>h) rfl (aa (c2)) rfl rfl ?_) | ((first | refine ah rfl rfl ?_ rfl ?_ | refine ad rfl ?_ ?_);all_goals(intro h;(try simp only [pl] at h);(try (exfalso;omega)))) | skip))));all_goals(refine av ?_;exact en [_,_])
  rw [if_neg hfi] at hR;refine ae ?_;(iterate 7 ((all_goals(refine ae ?_));(all_goals(first | (refine ai rfl (fun _ h=>h) rfl (aa (c1)) rfl rfl ?_) | (refine ai rfl (fun _ h=>h) rfl (aa (c2)) rfl rfl ?_) | (refine ai rfl (fun _ h=>h) rfl (c3) rfl rfl ?_) | ((first | refine ah rfl rfl ?_ rfl ?_ | refine ad rfl ?_ ?_);all_goals(intro h;(try simp only [pl] at h);(try (exfalso;omega)))) | skip))));exact⟨(k + 1,z2),⟨by show k + 1≤l.length;omega,by show z2.length≤k + 1;omega,hpm hnm,hR⟩,by show l.length - (k + 1) < l.length - k;omega,(by dsimp only;exact(vm [(0,_),(1,_)] []))⟩
 ·have hk':k=l.length:=by have:=oF h;omega
  subst hk';rw [b₃,iK] at hR;simp only [a₁] at hR;obtain⟨rfl,rfl⟩:=hR;rw [if_neg sm] at hQ;cases ok with
  | true=>
   rw [if_neg sm] at hQ;simp only [a₁,gr.mk.injEq] at hQ;obtain⟨⟨rfl,rfl⟩,rfl⟩:=hQ;refine ae ?_;(iterate 4 ((all_goals(refine ae ?_));(all_goals(first | (refine ai rfl (fun _ h=>h) rfl (aa (ct)) rfl rfl ?_) | ((first | refine ah rfl rfl ?_ rfl ?_ | refine ad rfl ?_ ?_);all_goals(intro h;(try simp only [pl] at h);(try (exfalso;omega)))) | skip))));all_goals(refine av ?_;exact en [_,_])
  | false=>
   rw [if_pos rfl] at hQ;simp only [lg0,a₁,gr.mk.injEq] at hQ;obtain⟨⟨rfl,rfl⟩,rfl⟩:=hQ;refine ae ?_;(iterate 4 ((all_goals(refine ae ?_));(all_goals(first | (refine ai rfl (fun _ h=>h) rfl (aa (ct)) rfl rfl ?_) | ((first | refine ah rfl rfl ?_ rfl ?_ | refine ad rfl ?_ ?_);all_goals(intro h;(try simp only [pl] at h);(try (exfalso;omega)))) | skip))));all_goals(refine av ?_;exact en [_,_])
end
section
variable {G:GS}
attribute [local irreducible] aj aC aG aL aO vC aU au
structure kU where
 code:Nat
 sender:List UInt8
 seq:Nat
 gas:Nat
 prio:Nat
 deriving DecidableEq
def jy (r:kU):MV:= .st [.int .i64 r.code, .str r.sender, .int .u64 r.seq, .int .u64 r.gas, .int .u64 r.prio]
def DS (r:kU):Prop:=r.code≤1000∧r.sender.length≤5000∧bh r.seq∧bh r.gas∧bh r.prio
end
section
variable {G:GS}
attribute [local irreducible] aj aC aG aL aO vC aU au
def ek (t:iJ):Nat×Bool:=sumG (t.fee :: t.trs.map (·.amt)) 0
theorem Ap: ∀(l:List Nat) (s:Nat),bh s→bh (sumG l s).1
 | [],_,h=>h
 | x :: r,s,_=>by
  rw [sumG]
  split
  ·exact Ap r _ tT
  ·show(0:Nat) < _;omega
theorem ql (t:iJ):bh (ek t).1:=Ap _ _ (by unfold bh;omega)
theorem wy (f:Nat) (l:List kM) {k:Nat} (hk:k < l.length):eH (f :: (l.take (k + 1)).map (·.amt))=eH (f :: (l.take k).map (·.amt)) ++ [.int .u64 (l[k].amt:Int)] :=by
 rw [a₃ hk,a₂,← List.cons_append];unfold eH;rw [a₂];rfl
theorem H8 (t:iJ) (ht:gE t):aD Tryz.prog G 150 [nh t] (.tup [.int .u64 (ek t).1, .bool (ek t).2]):=by
 obtain⟨snd,seq,gas,fee,memo,trs⟩:=t;obtain⟨h1,h2,h3,h4,h5,h6,h7⟩:=ht;dsimp only at h1 h2 h3 h4 h5 h6 h7;have cs:=Ox (G:=G) (fee :: trs.map (·.amt)) (by simp;omega) (by
  intro a ha;rcases c₆.1 ha with rfl | ha
  ·exact h4
  ·obtain⟨x,hx,rfl⟩:=List.mem_map.1 ha;exact(h7 x hx).2)
 unfold ek;dsimp only;generalize sumG (fee :: trs.map (·.amt)) 0=p at *;obtain⟨v,b⟩:=p;dsimp only at cs ⊢;unfold nh;dsimp only;have hzl:(fee :: trs.map (·.amt)).length=trs.length + 1:=sm;refine aZ seat Tryz.func150 27 ?_;refine ae ?_;refine ar Nat (fun k=> [(13, .int .i64 k),(12, .int .i64 trs.length),(11, .sl trs.length (trs.map lh)),(4, .ms 0 1 0 (k + 1))]) (fun k=> [(0,⟨22,1,true,0,eH (fee :: (trs.take k).map (·.amt))⟩)]) 1 (fun k=>k≤trs.length) (fun k=>trs.length - k) 0 (a₆ _) (by rw [List.take_zero];exact(vm [(0,_)] [])) ?_;intro k hk;try dsimp only
 refine ae ?_;refine ad rfl ?_ ?_ <;> intro h
 ·have hk':k < trs.length:=by have:=ot h;omega
  have hel:=kP hk';have hsucc:=wy fee trs hk';have hll:(eH (fee :: (trs.take k).map (·.amt))).length=k + 1:=by simp [eH];omega
  generalize trs[k] =x at *;obtain⟨to_,amt⟩:=x;dsimp only at hsucc;replace hel:cS (trs.map lh) trs.length (k:Int)=some (.st [.str to_, .int .u64 amt]):=hel;have hel:=al.mk hel;refine ae ?_;refine aY rfl rfl (by intro R hR;refine dM hR ?_;(refine a₀ (a₈ _) ?_;refine⟨_,rfl,?_⟩;refine a₀ ⟨hll,aE (by kernel_rfl) pf⟩ ?_;refine⟨eH (fee :: (trs.take (k + 1)).map (·.amt)),sv (by rw [hsucc];rfl),k + 1 + 1,sv pf,?_⟩);exact hR) rfl ?_;refine ae ?_;exact⟨k + 1,by show k + 1≤trs.length;omega,by show trs.length - (k + 1) < trs.length - k;omega,(by dsimp only;exact(vm [(0,_)] []))⟩
 ·have hk':k=trs.length:=by have:=oF h;omega
  subst hk';rw [b₇];generalize fee :: trs.map (·.amt)=Z at *;rw [← hzl];refine ae ?_;refine bV rfl (fun _ h=>h) rfl (aa cs) rfl [(0,Z.length)] ⟨(by show Z.length≤(eH Z).length;simp [eH]),trivial⟩ lm ?_;refine ae ?_;refine av ?_;rfl
def kV (x:kM) (acs:List aW):aW:=if (bd acs x.to_).2 then(bd acs x.to_).1 else⟨x.to_,0,0⟩
def fQ (acs:List aW) (x:kM):List aW:=eP ⟨(kV x acs).name,((kV x acs).bal + x.amt) % 18446744073709551616,(kV x acs).seq⟩ acs
def i7 (l:gr) (t:iJ) (sum:Nat):aW:=⟨(bd l.acs t.sender).1.name,((bd l.acs t.sender).1.bal + (18446744073709551616 - sum)) % 18446744073709551616,((bd l.acs t.sender).1.seq + 1) % 18446744073709551616⟩
def ic (l:gr) (t:iJ) (sum:Nat):gr:=⟨t.trs.foldl fQ (eP (i7 l t sum) l.acs),(l.col + t.fee) % 18446744073709551616⟩
theorem mod_u64 {n:Nat}:bh (n % 18446744073709551616):=Nat.mod_lt _ om
theorem mT {acs:List aW} {name:List UInt8} (h: ∀a∈acs,eM a):eM (bd acs name).1:=by
 unfold bd;split
 ·rename_i a ha;exact h a (List.mem_of_find?_eq_some ha)
 ·exact⟨by simp [ac0],by simp [ac0,bh],by simp [ac0,bh]⟩
theorem DT {x:kM} {acs:List aW} (hx:lY x) (h: ∀a∈acs,eM a):eM (kV x acs):=by
 unfold kV;split
 ·exact mT h
 ·exact⟨hx.1,by simp [bh],by simp [bh]⟩
theorem xZ {x:kM} {acs:List aW} (hx:lY x) (h: ∀a∈acs,eM a):(∀a∈fQ acs x,eM a)∧(fQ acs x).length≤acs.length + 1:=by
 have hb:=DT hx h;exact⟨fun a ha=>(jX ha).elim (fun e=>e▸⟨hb.1,mod_u64,hb.2.2⟩) (h a),mh _ _⟩
theorem DU: ∀(l:List kM) (acs:List aW),(∀x∈l,lY x)→(∀a∈acs,eM a)→(∀a∈l.foldl fQ acs,eM a)∧(l.foldl fQ acs).length≤acs.length + l.length
 | [],acs,_,h=>⟨h,sm⟩
 | x :: r,acs,hl,h=>by
  have h1:=xZ (hl x sm) h
  have h2:=DU r (fQ acs x) (fun y hy=>hl y (by simp [hy])) h1.1
  exact⟨h2.1,by have:=h2.2;simp only [d₁,c₂];omega⟩
theorem Aq {l:gr} {t:iJ} {sum:Nat} (hl:kS l) (ht:gE t):(∀a∈(ic l t sum).acs,eM a)∧(ic l t sum).acs.length≤l.acs.length + 1 + t.trs.length∧bh (ic l t sum).col:=by
 have ha:eM (i7 l t sum):=⟨(mT hl.2.2).1,mod_u64,mod_u64⟩;have h1:=DU t.trs (eP (i7 l t sum) l.acs) ht.2.2.2.2.2.2 fun a h=>(jX h).elim (fun e=>e▸ha) (hl.2.2 a)
 have h2:=mh (i7 l t sum) l.acs;exact⟨h1.1,by have:=h1.2;unfold ic;dsimp only;omega,mod_u64⟩
theorem H9 (l:gr) (t:iJ) (sum:Nat) (hl:kS l) (ht:gE t) (hs:bh sum):aH Tryz.prog G 151 [lgM l,nh t, .int .u64 sum] [] 0 (lgM (ic l t sum)) [] 0:=by
 have hda:eM (i7 l t sum):=⟨(mT hl.2.2).1,mod_u64,mod_u64⟩;have hgs:eM (bd l.acs t.sender).1:=mT hl.2.2;obtain⟨acs,col⟩:=l;obtain⟨snd,seq,gas,fee,memo,trs⟩:=t;obtain⟨h1,h2,h3,h4,h5,h6,h7⟩:=ht;obtain⟨hl1,hl2,hl3⟩:=hl;dsimp only at h1 h2 h3 h4 h5 h6 h7 hl1 hl2 hl3 hgs;have c1:=Mh (G:=G) acs col snd om;have c2:=H3 (G:=G) (i7 ⟨acs,col⟩ ⟨snd,seq,gas,fee,memo,trs⟩ sum) acs om;have hp1:=mh (i7 ⟨acs,col⟩ ⟨snd,seq,gas,fee,memo,trs⟩ sum) acs;have hp2: ∀a∈eP (i7 ⟨acs,col⟩ ⟨snd,seq,gas,fee,memo,trs⟩ sum) acs,eM a:=fun a h=>(jX h).elim (fun e=>e▸hda) (hl3 a)
 unfold ic;dsimp only;generalize eP (i7 ⟨acs,col⟩ ⟨snd,seq,gas,fee,memo,trs⟩ sum) acs=z0 at *;unfold i7 at c2;dsimp only at c2;generalize bd acs snd=g at *;obtain⟨⟨gn,gb,gs⟩,gok⟩:=g;obtain⟨hg1,hg2,hg3⟩:=hgs;unfold bh at hg2 hg3 hl2 h4 hs;dsimp only at c1 c2 hg1 hg2 hg3;unfold aV at c1 c2;dsimp only at c1 c2;have e1:=aT.mk (show IntKind.u64.wrap ((gb:Int) - (sum:Int))=(((gb + (18446744073709551616 - sum)) % 18446744073709551616:Nat):Int) by rw [wu64];omega);have e2:=aT.mk (show IntKind.u64.wrap ((gs:Int) + 1)=(((gs + 1) % 18446744073709551616:Nat):Int) by rw [wu64];omega);have e3:=aT.mk (show IntKind.u64.wrap ((col:Int) + (fee:Int))=(((col + fee) % 18446744073709551616:Nat):Int) by rw [wu64];omega);generalize (gb + (18446744073709551616 - sum)) % 18446744073709551616=nb at *;generalize (gs + 1) % 18446744073709551616=ns at *;generalize (col + fee) % 18446744073709551616=nc at *;unfold lgM nh;dsimp only;generalize hR:trs.foldl fQ z0=R;refine bR seat Tryz.func151 71 ?_;refine ae ?_;(iterate 6 ((all_goals(refine ae ?_));(all_goals(first | (refine ai rfl (fun _ h=>h) rfl (aa (c1)) rfl rfl ?_) | (refine ai rfl (fun _ h=>h) rfl (c2) rfl rfl ?_) | ((first | refine ah rfl rfl ?_ rfl ?_ | refine ad rfl ?_ ?_);all_goals(intro h;(try simp only [pl] at h);(try (exfalso;omega)))) | skip))));refine ar (Nat×List aW) (fun x=> [(37, .int .i64 x.1),(36, .int .i64 trs.length),(35, .sl trs.length (trs.map lh)),(9, .sl x.2.length (x.2.map aV)),(6, .ptr 2 2 0 0 []),(4, .ptr 1 6 0 0 []),(3, .ptr 0 2 0 0 [])]) (fun x=> [(0,⟨36,2,false,0,[.st [.sl acs.length (acs.map aV), .int .u64 col]]⟩),(1,⟨100,6,false,0,[.st [.str snd, .int .u64 seq, .int .u64 gas, .int .u64 fee, .str memo, .sl trs.length (trs.map lh)]]⟩),(2,⟨36,2,false,0,[.st [.nils, .int .u64 0]]⟩)]) 3 (fun x=>x.1≤trs.length∧x.2.length≤acs.length + 1 + x.1∧(∀a∈x.2,eM a)∧(trs.drop x.1).foldl fQ x.2=R) (fun x=>trs.length - x.1) (0,z0) ⟨a₆ _,dm,hp2,by dsimp only;rw [c₁];exact hR⟩ (by dsimp only;exact(vm [(0,_),(1,_),(2,_)] [])) ?_;clear hR hp1 hp2 c1 c2;rintro⟨k,z⟩ ⟨hk,hz,hzs,hRk⟩;try dsimp only
 dsimp only at hk hz hzs hRk;refine ae ?_;refine ad rfl ?_ ?_ <;> intro h
 ·have hk':k < trs.length:=by have:=ot h;omega
  have hel:=kP hk';have hx:=h7 _ (b₀ hk');have hps:=xZ hx hzs;rw [a₅ hk',d₁] at hRk;have c3:=xW (G:=G) z trs[k].to_ om;have c4:=H3 (G:=G) ⟨(kV trs[k] z).name,((kV trs[k] z).bal + trs[k].amt) % 18446744073709551616,(kV trs[k] z).seq⟩ z om;have hpb:=DT hx hzs;have hsp:=kQ trs[k].to_ z 0;unfold fQ at hps hRk;have hpay:kV trs[k] z=if (bd z trs[k].to_).2 then(bd z trs[k].to_).1 else⟨trs[k].to_,0,0⟩:=rfl
  generalize eP ⟨(kV trs[k] z).name,((kV trs[k] z).bal + trs[k].amt) % 18446744073709551616,(kV trs[k] z).seq⟩ z=z2 at *;generalize kV trs[k] z=pb at *;generalize trs[k] =x at *;obtain⟨to_,amt⟩:=x;obtain⟨pn,pbal,pseq⟩:=pb;obtain⟨hx1,hx2⟩:=hx;obtain⟨hpb1,hpb2,hpb3⟩:=hpb;unfold bh at hx2 hpb2;dsimp only at c3 c4 hsp hpay hx1 hx2 hpb2;unfold aV at c4;dsimp only at c4;replace hel:cS (trs.map lh) trs.length (k:Int)=some (.st [.str to_, .int .u64 amt]):=hel;have hel:=al.mk hel;have e4:=aT.mk (show IntKind.u64.wrap ((pbal:Int) + (amt:Int))=(((pbal + amt) % 18446744073709551616:Nat):Int) by rw [wu64];omega);generalize hnb:(pbal + amt) % 18446744073709551616=nb2 at *;rcases hsp with ⟨f1,f2⟩ | ⟨j,a,f1,f2,f3⟩
  ·rw [f1] at c3;have hg:bd z to_=(ac0,false):=by unfold bd;rw [f2]
   rw [hg,if_neg sm] at hpay;simp only [aW.mk.injEq] at hpay;obtain⟨rfl,rfl,rfl⟩:=hpay;have e5:=aT.mk (show IntKind.u64.wrap ((0:Int) + (amt:Int))=(nb2:Int) by rw [wu64];omega);refine ae ?_;(iterate 8 ((all_goals(refine ae ?_));(all_goals(first | (refine ai rfl (fun _ h=>h) rfl (aa (c3)) rfl rfl ?_) | (refine ai rfl (fun _ h=>h) rfl (c4) rfl rfl ?_) | ((first | refine ah rfl rfl ?_ rfl ?_ | refine ad rfl ?_ ?_);all_goals(intro h;(try simp only [pl] at h);(try (exfalso;omega)))) | skip))));exact⟨(k + 1,z2),⟨dm,dm,hps.1,hRk⟩,dm,(by dsimp only;exact(vm [(0,_),(1,_),(2,_)] []))⟩
  ·rw [f1,b₁] at c3;have hg:bd z to_=(a,true):=by unfold bd;rw [f3]
   rw [hg,if_pos rfl] at hpay;dsimp only at hpay;obtain⟨hj,ha⟩:=List.getElem?_eq_some_iff.1 f2;have hel2:=eN hj;rw [ha,← hpay] at hel2;replace hel2:cS (z.map aV) z.length (j:Int)=some (.st [.str pn, .int .u64 pbal, .int .u64 pseq]):=hel2;have hel2:=al.mk hel2;clear f1 f2 f3 ha hpay;refine ae ?_;(iterate 8 ((all_goals(refine ae ?_));(all_goals(first | (refine ai rfl (fun _ h=>h) rfl (aa (c3)) rfl rfl ?_) | (refine ai rfl (fun _ h=>h) rfl (c4) rfl rfl ?_) | ((first | refine ah rfl rfl ?_ rfl ?_ | refine ad rfl ?_ ?_);all_goals(intro h;(try simp only [pl] at h);(try (exfalso;omega)))) | skip))));exact⟨(k + 1,z2),⟨dm,dm,hps.1,hRk⟩,dm,(by dsimp only;exact(vm [(0,_),(1,_),(2,_)] []))⟩
 ·have hk':k=trs.length:=by have:=oF h;omega
  subst hk';rw [b₃] at hRk;have hRk:z=R:=hRk;subst hRk;refine ae ?_;refine av ?_;refine⟨[_],[],[],rfl,rfl,trivial,rfl,⟨?_,trivial⟩,?_⟩
  ·exact .inl ⟨rfl,rfl⟩
  ·exact mm
end
section
variable {G:GS}
attribute [local irreducible] aj aC aG aL aO vC aU au
def fg (l:gr) (price:Nat) (t:iJ) (size:Nat):Nat:=
 if (bd l.acs t.sender).2=false then 13 else if (bd l.acs t.sender).1.seq≠t.seq then 14 else if t.seq=18446744073709551615 then 6 else if t.gas < mg size t.trs.length then 15 else
 if (jW t.gas price).2=false then 6 else if t.fee < (jW t.gas price).1 then 16 else if (ek t).2=false then 6 else if (bd l.acs t.sender).1.bal < (ek t).1 then 17 else
 if 256 < (ic l t (ek t).1).acs.length then 3 else 0
theorem K7 (l:gr) (price:Nat) (t:iJ) (size:Nat) (hl:kS l) (ht:gE t) (hp:bh price) (hz:size≤1000000000):aD Tryz.prog G 148 [lgM l, .int .u64 price,nh t, .int .i64 size] (.int .i64 (fg l price t size)):=by
 have cd:=H9 (G:=G) l t (ek t).1 hl ht (ql t);have cc:=H8 (G:=G) t ht;have hds:=Aq (sum:=(ek t).1) hl ht;generalize hr:fg l price t size=R;unfold fg at hr;generalize ic l t (ek t).1=D at *;generalize ek t=cst at *;obtain⟨cv,cb⟩:=cst;obtain⟨acs,col⟩:=l;obtain⟨snd,seq,gas,fee,memo,trs⟩:=t;obtain⟨h1,h2,h3,h4,h5,h6,h7⟩:=ht;obtain⟨hl1,hl2,hl3⟩:=hl;obtain⟨dacs,dcol⟩:=D;dsimp only at h1 h2 h3 h4 h5 h6 h7 hl1 hl2 hl3 hds hr cd cc;have c1:=Mh (G:=G) acs col snd om;have cu:=MP (G:=G) (size:Int) (trs.length:Int) om om;have cn:=MU (G:=G) gas price h3 hp;have hul:mg (size:Int) (trs.length:Int) < 18446744073709551616:=by unfold mg limS;omega
 generalize mg (size:Int) (trs.length:Int)=us at *;generalize jW gas price=mu at *;obtain⟨mv,mb⟩:=mu;generalize bd acs snd=g at *;obtain⟨⟨gn,gb,gs⟩,gok⟩:=g;dsimp only at c1 cn hr hds;unfold aV at c1;unfold nh lgM at *;dsimp only at *;cases gok with
 | false=>
  rw [if_pos rfl] at hr;refine aZ seat Tryz.func148 79 ?_;refine ae ?_;refine cC (c1) ?_;refine av ?_;refine congrArg (MV.int .i64) ?_;(repeat' split at hr) <;> omega
 | true=>
  rw [if_neg sm] at hr;refine aZ seat Tryz.func148 79 ?_;refine ae ?_;refine cC (c1) ?_;refine ad rfl ?_ ?_ <;> intro h
  ·have k0: ¬ (gs:Int)=(seq:Int):=by simpa using h
   have k1:gs≠seq:=om;refine ae ?_;refine av ?_;refine congrArg (MV.int .i64) ?_;(repeat' split at hr) <;> omega
  have k0:(gs:Int)=(seq:Int):=by simpa using h
  have k1:gs=seq:=om;refine ae ?_;refine ad rfl ?_ ?_ <;> intro h
  ·have k2:(seq:Int)=18446744073709551615:=by simpa using h
   refine ae ?_;refine av ?_;refine congrArg (MV.int .i64) ?_;(repeat' split at hr) <;> omega
  have k2: ¬ (seq:Int)=18446744073709551615:=by simpa using h
  refine ae ?_;refine aw [ag 0,ag 1,ag 2,ag 3,ag 4,ag 5,de 6,ag 7,ag 8] ?_;refine ae ?_;refine dk (cu) ?_;refine ad rfl ?_ ?_ <;> intro h
  ·have k3:=ot h;refine ae ?_;refine av ?_;refine congrArg (MV.int .i64) ?_;(repeat' split at hr) <;> omega
  have k3:=oF h;refine ae ?_;refine cC (cn) ?_;refine cC (cc) ?_;cases mb with
  | false=>
   rw [if_neg om,if_neg om,if_neg om,if_pos rfl] at hr;refine ae ?_;refine av ?_;refine congrArg (MV.int .i64) ?_;(repeat' split at hr) <;> omega
  | true=>
   rw [if_neg om,if_neg om,if_neg om,if_neg sm] at hr;refine ae ?_;refine ad rfl ?_ ?_ <;> intro h
   ·have k4:=ot h;rw [if_pos om] at hr;refine ae ?_;refine av ?_;refine congrArg (MV.int .i64) ?_;(repeat' split at hr) <;> omega
   have k4:=oF h;rw [if_neg om] at hr;cases cb with
   | false=>
    rw [if_pos rfl] at hr;refine ae ?_;refine av ?_;refine congrArg (MV.int .i64) ?_;(repeat' split at hr) <;> omega
   | true=>
    rw [if_neg sm] at hr;refine ae ?_;refine ad rfl ?_ ?_ <;> intro h
    ·have k5:=ot h;refine ae ?_;refine av ?_;refine congrArg (MV.int .i64) ?_;(repeat' split at hr) <;> omega
    have k5:=oF h;refine ae ?_;refine jS (cd) ?_;refine ad rfl ?_ ?_ <;> intro h
    ·have k6:=ot h;refine ae ?_;refine av ?_;refine congrArg (MV.int .i64) ?_;(repeat' split at hr) <;> omega
    have k6:=oF h;refine ae ?_;refine av ?_;refine congrArg (MV.int .i64) ?_;(repeat' split at hr) <;> omega
def Ar (l:gr) (price:Nat) (raw:List UInt8):gr×kU:=
 if eY l≠0 then(l,⟨1,[],0,0,0⟩) else if (aS raw).2≠0 then(l,⟨(aS raw).2,[],0,0,0⟩) else
 let t:=(aS raw).1
 let e:=fg l price t raw.length
 (if e≠0 then l else ic l t (ek t).1,⟨e,t.sender,t.seq,t.gas,o9 t.fee t.gas⟩)
theorem kW {raw:List UInt8}:gE (aS raw).1:=by
 unfold aS;split
 ·exact tS
 ·rename_i h;split
  ·exact tS
  ·split
   ·exact tS
   ·exact Mf om
theorem DV {raw:List UInt8} (h:(aS raw).2=0):raw.length≤4096:=by
 unfold aS at h;split at h
 ·exact absurd h (by decide)
 ·omega
theorem Oy (l:gr) (price:Nat) (raw:List UInt8) (hl:kS l) (hp:bh price) (hraw:raw.length≤140737488355328):aH Tryz.prog G 109 [lgM l, .int .u64 price, .sl raw.length (u8s raw)] [] 0 (.tup [lgM (Ar l price raw).1,jy (Ar l price raw).2]) [] 0:=by
 have cv:=H7 (G:=G) l hl;have cd:=Cm (G:=G) raw hraw;have hsm:=kW (raw:=raw);have cc:=H8 (G:=G) _ hsm;have cf:=fun he:(aS raw).2=0=>K7 (G:=G) l price _ raw.length hl hsm hp (by have:=DV he;omega)
 have cp:=MT (G:=G) (aS raw).1.fee (aS raw).1.gas hsm.2.2.2.1 hsm.2.2.1;have cdn:=H9 (G:=G) l _ (ek (aS raw).1).1 hl hsm (ql _);generalize hr:Ar l price raw=R;obtain⟨⟨Racs,Rcol⟩,⟨Rcode,Rsnd,Rseq,Rgas,Rprio⟩⟩:=R;unfold Ar at hr;generalize aS raw=d at *;obtain⟨t,e⟩:=d;dsimp only at *;generalize eY l=vl at *;generalize ek t=cst at *;obtain⟨cstv,cstb⟩:=cst;dsimp only at *;generalize ic l t cstv=D at *;generalize fg l price t raw.length=fe at *;obtain⟨snd,seq,gas,fee,memo,trs⟩:=t;dsimp only at *;generalize o9 fee gas=pr at *;obtain⟨acs,col⟩:=l;obtain⟨dacs,dcol⟩:=D;obtain⟨h1,h2,h3,h4,h5,h6,h7⟩:=hsm;obtain⟨hl1,hl2,hl3⟩:=hl;dsimp only at h1 h2 h3 h4 h5 h6 h7 hl1 hl2 hl3;unfold lgM nh at *;unfold jy;dsimp only at *;by_cases hv:vl=0
 ·subst hv;rw [if_neg sm] at hr;by_cases he:e=0
  ·subst he;replace cf:=cf rfl;rw [if_neg sm] at hr;have hr2:=hr;simp only [a₁,kU.mk.injEq] at hr2;obtain⟨hD,rfl,rfl,rfl,rfl,rfl⟩:=hr2;clear hr;refine bR seat Tryz.func109 61 ?_;refine ae ?_;refine cC (cv) ?_;refine jS (cd) ?_;refine aw [ag 0,ag 1,ag 2,ag 3,ag 4,de 5,ag 6,ag 7,ag 8,ag 9,ag 10,ag 11,ag 12,ag 13,ag 14,ag 15,de 16,ag 17,ag 18,ag 19] ?_;refine ae ?_;refine dk (cf) ?_;refine dk (cp) ?_;refine ad rfl ?_ ?_ <;> intro h
   ·have hfe:fe≠0:=fun e=>by subst e;simp at h
    rw [if_pos hfe] at hD;simp only [gr.mk.injEq] at hD;obtain⟨rfl,rfl⟩:=hD;refine ae ?_;refine aw [ag 0,ag 1,ag 2,ag 3] ?_;refine ae ?_;refine av ?_;exact en [_,_]
   ·have hfe:fe=0:=by
     have: ¬ (fe:Int)≠0:=by simpa using h
     omega
    subst hfe;rw [if_neg sm] at hD;simp only [gr.mk.injEq] at hD;obtain⟨rfl,rfl⟩:=hD;refine ae ?_;refine cC (cc) ?_;refine aw [ag 0,ag 1,ag 2,de 3,ag 4,ag 5,ag 6] ?_;refine ae ?_;refine jT (cdn) ?_;refine av ?_;exact en [_,_]
  ·rw [if_pos he] at hr;simp only [a₁,gr.mk.injEq,kU.mk.injEq] at hr;obtain⟨⟨rfl,rfl⟩,rfl,rfl,rfl,rfl,rfl⟩:=hr;refine bR seat Tryz.func109 61 ?_;refine ae ?_;refine cC (cv) ?_;refine jS (cd) ?_;refine ad rfl ?_ ?_ <;> intro h
   ·refine ae ?_;refine av ?_;exact en [_,_]
   ·exfalso;have: ¬ (e:Int)≠0:=by simpa using h
    omega
 ·rw [if_pos hv] at hr;simp only [a₁,gr.mk.injEq,kU.mk.injEq] at hr;obtain⟨⟨rfl,rfl⟩,rfl,rfl,rfl,rfl,rfl⟩:=hr;refine bR seat Tryz.func109 61 ?_;refine ae ?_;refine cC (cv) ?_;refine ad rfl ?_ ?_ <;> intro h
  ·refine ae ?_;refine av ?_;exact en [_,_]
  ·exfalso;have: ¬ (vl:Int)≠0:=by simpa using h
   omega
end
section
variable {G:GS}
attribute [local irreducible] aj aC aG aL aO vC aU au
theorem DX: ∀l:List kM,tP l≤100
 | [] =>by simp [tP]
 | x :: r=>by
  have:=DX r
  unfold tP
  split
  ·omega
  ·split <;> omega
theorem As (t:iJ):cU t≤100:=by
 have:=DX t.trs;unfold cU;(repeat' split) <;> omega
theorem ya (raw:List UInt8):(aS raw).2≤100:=by
 unfold aS;split
 ·simp
 ·split
  ·simp
  ·split
   ·exact As _
   ·simp
theorem FH (l:gr) (p:Nat) (t:iJ) (n:Nat):fg l p t n≤100:=by
 unfold fg;(repeat' split) <;> omega
theorem Ia {l:gr} {p:Nat} {t:iJ} {n:Nat} (h:fg l p t n=0):(ic l t (ek t).1).acs.length≤256:=by
 unfold fg at h;(repeat' split at h) <;> omega
theorem FI {f g:Nat} (hf:bh f):bh (o9 f g):=by
 unfold o9 dZ bh at *;split
 ·omega
 ·rename_i hg;by_cases hc:g=0∨g≤f * 1000 / 18446744073709551616
  ·simp [hc]
  ·simp only [hc,if_false,if_true]
   show f * 1000 / g < _
   rw [c₄ om];have:f * 1000 < g * 18446744073709551616:=(c₄ om).1 om;omega
theorem Cp {l:gr} {p:Nat} {raw:List UInt8} (hl:kS l):kS (Ar l p raw).1∧DS (Ar l p raw).2:=by
 have hd:=kW (raw:=raw);have h1:=ya raw;have h2:=FH l p (aS raw).1 raw.length;have hz: ∀c,c≤100→DS ⟨c,[],0,0,0⟩:=fun c hc=>⟨dm,sm,by simp [bh],by simp [bh],by simp [bh]⟩
 unfold Ar;split
 ·exact⟨hl,hz 1 om⟩
 ·split
  ·exact⟨hl,hz _ h1⟩
  ·refine⟨?_,dm,hd.1,hd.2.1,hd.2.2.1,FI hd.2.2.2.1⟩;dsimp only;split
   ·exact hl
   ·rename_i h3;have h4:=Ia (Decidable.not_not.1 h3);have h5:=Aq (sum:=(ek (aS raw).1).1) hl hd;exact⟨om,h5.2.2,h5.1⟩
end
section
variable {G:GS}
attribute [local irreducible] aj aC aG aL aO vC aU au
structure nR where
 com:gr
 chk:gr
 nxt:gr
 opn:Bool
 price:Nat
def appM (a:nR):MV:= .st [lgM a.com,lgM a.chk,lgM a.nxt, .bool a.opn, .int .u64 a.price]
def ig (a:nR):Prop:=kS a.com∧kS a.chk∧kS a.nxt∧bh a.price
def app0:nR:=⟨lg0,lg0,lg0,false,0⟩
theorem lg0_sm:kS lg0:=⟨by simp [lg0],by simp [lg0,bh],by simp [lg0]⟩
theorem yb:ig app0:=⟨lg0_sm,lg0_sm,lg0_sm,by simp [app0,bh]⟩
abbrev lgZ:MV:= .st [.nils, .int .u64 0]
theorem rel_lg0 {σ:Nat→Option Nat} {fz:Fz}:cN σ fz (lgM lg0) lgZ:= .inr ⟨_,rfl,⟨.inr ⟨rfl,rfl⟩,⟨rfl,rfl⟩,trivial⟩⟩
theorem rel_lg {σ:Nat→Option Nat} {fz:Fz} {n:Nat} {l:List MV} {c:Int}:cN σ fz (.st [.sl n l, .int .u64 c]) (.st [.sl n l, .int .u64 c]):= .inl ⟨rfl,rfl⟩
def fk (acs:List aW) (price:Nat):nR×Nat:=if (kT acs).2≠0 then(app0,(kT acs).2) else(⟨(kT acs).1,(kT acs).1,lg0,false,price⟩,0)
theorem wz {acs:List aW} {p:Nat} (h: ∀a∈acs,ni a) (hp:bh p):ig (fk acs p).1:=by
 unfold fk;split
 ·exact yb
 ·exact⟨tW h,tW h,lg0_sm,hp⟩
theorem Au {acs:List aW} {p:Nat} (h: ∀a∈acs,eM a) (hp:bh p):ig (fk acs p).1:=wz (fun a ha=>(h a ha).wd) hp
abbrev PZ:MV:= .st [lgZ,lgZ,lgZ, .bool false, .int .u64 0]
theorem Av {σ:Nat→Option Nat} {fz:Fz}:cN σ fz (appM app0) PZ:= .inr ⟨_,rfl,⟨rel_lg0,rel_lg0,rel_lg0,⟨rfl,rfl⟩,⟨rfl,rfl⟩,trivial⟩⟩
theorem K8 (l:List aW) (p:Nat) (hl:l.length≤140737488355328) (hsm: ∀a∈l,ni a) (hp:bh p):aH Tryz.prog G 44 [.sl l.length (l.map aV), .int .u64 p] [] 0 (.tup [appM (fk l p).1, .int .i64 (fk l p).2]) [] 0:=by
 have c1:=MW (G:=G) l hl hsm;unfold fk;generalize kT l=g at *;obtain⟨⟨acs,col⟩,e⟩:=g;unfold lgM at c1;dsimp only at c1 ⊢;by_cases he:e=0
 ·subst he;rw [if_neg sm];refine bR seat Tryz.func44 21 ?_;refine ae ?_;refine jS (c1) ?_;refine av ?_;refine⟨[_,_],[],[],rfl,rfl,trivial,rfl,⟨?_,?_,trivial⟩,?_⟩
  ·exact .inr ⟨_,rfl,⟨rel_lg,rel_lg,rel_lg0,⟨rfl,rfl⟩,⟨rfl,rfl⟩,trivial⟩⟩
  ·exact rv
  ·exact mm
 ·rw [if_pos he];refine bR seat Tryz.func44 21 ?_;refine ae ?_;refine jS (c1) ?_;refine ad rfl ?_ ?_ <;> intro h
  ·refine ae ?_;refine av ?_;refine⟨[_,_],[],[],rfl,rfl,trivial,rfl,⟨?_,?_,trivial⟩,?_⟩
   ·exact Av
   ·exact rv
   ·exact mm
  ·exfalso;have: ¬ (e:Int)≠0:=by simpa using h
   omega
def fX (a:nR) (raw:List UInt8):kU:=(Ar a.chk a.price raw).2
def fB (a:nR) (raw:List UInt8):nR:=⟨a.com,(Ar a.chk a.price raw).1,a.nxt,a.opn,a.price⟩
theorem tX {a:nR} {raw:List UInt8} (h:ig a):ig (fB a raw):=⟨h.1,(Cp h.2.1).1,h.2.2⟩
theorem K9 (a:nR) (raw:List UInt8) (ha:ig a) (hraw:raw.length≤140737488355328):aD Tryz.prog G 60 [appM a, .sl raw.length (u8s raw)] (jy (fX a raw)):=by
 have c1:=Oy (G:=G) a.chk a.price raw ha.2.1 ha.2.2.2 hraw;unfold fX;obtain⟨⟨a1,b1⟩,⟨a2,b2⟩,⟨a3,b3⟩,op,price⟩:=a;dsimp only at *;generalize Ar ⟨a2,b2⟩ price raw=y at *;obtain⟨⟨nacs,ncol⟩,⟨ec,esn,esq,egs,epr⟩⟩:=y;unfold appM lgM jy at *;dsimp only at *;refine aZ seat Tryz.func60 17 ?_;refine ae ?_;refine jS (c1) ?_;refine av ?_;rfl
theorem Ib (a:nR) (raw:List UInt8) (ha:ig a) (hraw:raw.length≤140737488355328):aD Tryz.prog G 66 [appM a, .sl raw.length (u8s raw)] (appM (fB a raw)):=by
 have c1:=Oy (G:=G) a.chk a.price raw ha.2.1 ha.2.2.2 hraw;unfold fB;obtain⟨⟨a1,b1⟩,⟨a2,b2⟩,⟨a3,b3⟩,op,price⟩:=a;dsimp only at *;generalize Ar ⟨a2,b2⟩ price raw=y at *;obtain⟨⟨nacs,ncol⟩,⟨ec,esn,esq,egs,epr⟩⟩:=y;unfold appM lgM jy at *;dsimp only at *;refine aZ seat Tryz.func66 16 ?_;refine ae ?_;refine jS (c1) ?_;refine av ?_;rfl
end
section
variable {G:GS}
attribute [local irreducible] aj aC aG aL aO vC aU au
theorem tY (x:List UInt8) (hx:x.length < 536870912):aH Tryz.prog G 106 [.sl x.length (u8s x)] [] 0 (.sl x.length (u8s x)) [] 0:=by
 refine bR seat Tryz.func106 8 ?_;refine ae ?_;refine wj rfl rfl (fun b hb=>?_);cases b with
 | true=>
  have h0:=hb rfl;have h1:x= [] :=List.length_eq_zero_iff.1 h0;subst h1;refine ae ?_;refine av ?_;exact en [_]
 | false=>
  refine ae ?_;refine aY rfl rfl (by intro R hR;refine dM hR ?_;refine a₀ ((cG x)) ?_;refine a₀ ⟨rfl,aE (by kernel_rfl) pf⟩ ?_;refine⟨u8s x,sv (by show [] ++ u8s x=_;rw [b₂]),x.length,sv pf,?_⟩;exact hR) rfl ?_;refine ae ?_;refine⟨[_],[],[(5,x.length)],rfl,rfl,?_,rfl,⟨?_,trivial⟩,?_⟩
  ·exact⟨by show x.length≤(u8s x).length;simp [u8s],trivial⟩
  ·exact rv
  ·exact mm
theorem Cq (n:Nat) (hn:bh n):aD Tryz.prog G 95 [.int .u64 n] (.int .i64 (bW n).length):=by
 unfold bh at hn;have hlen:=(da hn).2;generalize hr:(bW n).length=R at *;refine aZ seat Tryz.func95 11 ?_;refine ae ?_;refine ar (Nat×Nat) (fun x=> [(3, .int .i64 x.2),(0, .int .u64 x.1)]) (fun _=> []) 0 (fun x=>x.1 < 18446744073709551616∧x.2 + (bW x.1).length=R + 1) (fun x=>x.1) (n,1) ⟨hn,dm⟩ (by dsimp only;exact(vm [] [])) ?_;rintro⟨m,s⟩ ⟨hm,hs⟩;try dsimp only
 dsimp only at hm hs;have e1:=aT.mk (HP m);refine ae ?_;refine ad rfl ?_ ?_ <;> intro h
 ·have hge:=ot h;rw [rU om,c₂] at hs;refine ae ?_;exact⟨(m / 128,s + 1),⟨dm,dm⟩,dm,(by dsimp only;exact(vm [] []))⟩
 ·have hge:=oF h;rw [mQ om,a₉] at hs;have:s=R:=om;subst this;refine ae ?_;refine av ?_;rfl
theorem tZ (n:Nat) (hn:n < 4611686018427387904):aD Tryz.prog G 50 [.int .i64 n] (.int .i64 (i6 n)):=by
 have c1:=Cq (G:=G) n (by unfold bh;omega);have h2:=(da (n:=n) om).2;unfold i6;generalize (bW n).length=v at *;have hw:=aT.mk (show IntKind.u64.wrap (n:Int)=(n:Int) from bt _ om om);refine aZ seat Tryz.func50 11 ?_;refine ae ?_;(iterate 6 ((all_goals(refine ae ?_));(all_goals(first | (refine ai rfl (fun _ h=>h) rfl (aa (c1)) rfl rfl ?_) | ((first | refine ah rfl rfl ?_ rfl ?_ | refine ad rfl ?_ ?_);all_goals(intro h;(try simp only [pl] at h);(try (exfalso;omega)))) | skip))));all_goals(refine av ?_)
 all_goals(refine congrArg (MV.int .i64) ?_;omega)
end
section
variable {G:GS}
attribute [local irreducible] aj aC aG aL aO vC aU au
abbrev Aw (x:Int):Prop:= -9223372036854775808≤x∧x < 9223372036854775808
end
section
variable {G:GS}
attribute [local irreducible] aj aC aG aL aO vC aU au
theorem Ax (T:bf) (f:Nat) (e:TypeId) (he:bf.find T e=some (.int .u8)): ∀k:List UInt8,(u8s k).all (dh T (f + 1) e)=true
 | [] =>rfl
 | a :: k=>by
  show(dh T (f + 1) e (.int .u8 a.toNat) && (u8s k).all (dh T (f + 1) e))=true
  rw [Ax T f e he k]
  simp [dh,he,EF]
theorem DY: ∀(a b:List UInt8),a.length=b.length→rC (u8s a) (u8s b)=some (decide (a=b))
 | [],[],_=>rfl
 | x :: a,y :: b,h=>by
  show(match GO (.int .u8 x.toNat) (.int .u8 y.toNat),rC (u8s a) (u8s b) with | some p,some q=>some (p && q) | _,_=>none)=_
  rw [DY a b (by simpa using h)]
  have e:GO (.int .u8 x.toNat) (.int .u8 y.toNat)=some (decide (x=y)):=by
   show some (decide ((x.toNat:Int)=(y.toNat:Int)))=_
   have:((x.toNat:Int)=(y.toNat:Int))↔x=y:=by rw [Int.ofNat_inj,UInt8.toNat_inj]
   simp [this]
  rw [e]
  simp
 | [],_ :: _,h=>by simp at h
 | _ :: _,[],h=>by simp at h
theorem qm {a b:List UInt8} (h:a.length=b.length):GO (keyM a) (keyM b)=some (decide (a=b)):=DY a b h
theorem wA (f:Nat) (k:List UInt8):dh tab (f + 2) 55 (keyM k)=true:=by
 have h1:bf.find tab 55=some (.arr 32 5 1):=rfl;have h2:=Ax tab f 5 rfl k;unfold keyM;rw [dh.eq_def];simp only [h1];rw [h2];rfl
theorem eqT_key:NX Tryz.prog tab 55=true:=by kernel_rfl
theorem iL (a b:List UInt8):NX Tryz.prog tab 55=true∧dh tab 9 55 (keyM a)=true∧dh tab 9 55 (keyM b)=true:=⟨eqT_key,wA 7 a,wA 7 b⟩
theorem nw (f:Nat) (a:Int):dh tab (f + 1) 3 (.int .i64 a)=true:=by
 have h1:bf.find tab 3=some (.int .i64):=rfl;rw [dh.eq_def];simp only [h1];rfl
end
section
variable {G:GS}
theorem La (x n:Int) (hn:0 < n) (hn2:n < 9223372036854775808):aD Tryz.prog G 31 [.int .i64 x, .int .i64 n] (.int .i64 (x % n)):=by
 have hmod:=KI x n hn;have h1: -9223372036854775808≤x.tmod n + n∧x.tmod n + n < 9223372036854775808∨¬ x.tmod n < 0:=by
  have:=Int.lt_tmod_of_pos x hn;omega
 have hne:=bN.mk (show n≠0 by omega);refine aZ seat Tryz.func31 14 ?_;refine ae ?_;refine ad rfl ?_ ?_ <;> intro h
 ·have hx:=ot h;rw [if_pos hx] at hmod;refine ae ?_;refine av ?_;exact congrArg (MV.int .i64) hmod
 ·have hx:=oF h;rw [if_neg hx] at hmod;refine ae ?_;refine av ?_;exact congrArg (MV.int .i64) hmod
def mj (L:List Int) (N:Nat) (n:Int):Int:=(L[N]?.getD 0) % n
def dI (L:List Int) (N:Nat):VM:= [(0,⟨75,2,false,0,[.st [bM L, .int .i64 N]]⟩)]
abbrev numP:MV:= .ptr 0 2 0 0 []
theorem Ic (L:List Int) (N:Nat) (n:Int) (hn:0 < n) (hn2:n < 9223372036854775808) (hN:N < 4611686018427387904) :
  aH Tryz.prog G 24 [numP, .int .i64 n] (dI L N) 1 (.int .i64 (mj L N n)) (dI L (N + 1)) 1:=by
 have cp:=La (G:=G) (L[N]?.getD 0) n hn hn2
 unfold mj
 unfold dI
 generalize hx:(L[N]?.getD 0)=x at *
 by_cases hlt:N < L.length
 ·have hel:=al.mk (show cS (L.map (MV.int .i64)) L.length (N:Int)=some (.int .i64 x) by rw [jR hlt,← hx];simp [hlt])
  unfold bM
  refine bR seat Tryz.func24 36 ?_
  refine ae ?_
  refine aw [ag 0,ag 1,ag 2,ag 3,ag 4,ag 5,ag 6,ag 7,ag 8,ag 9] ?_
  refine ae ?_
  refine ad rfl ?_ ?_ <;> intro h
  ·refine ae ?_
   refine aw [ag 0,ag 1,ag 2,ag 3,ag 4,ag 5,ag 6,ag 7,ag 8,ag 9,ag 10] ?_
   refine ae ?_
   refine cC (cp) ?_
   exact en [_]
  ·exact absurd (oF h) om
 ·have hx0:x=0:=by rw [← hx];simp [hlt]
  subst hx0
  unfold bM
  refine bR seat Tryz.func24 36 ?_
  refine ae ?_
  refine aw [ag 0,ag 1,ag 2,ag 3,ag 4,ag 5,ag 6,ag 7,ag 8,ag 9] ?_
  refine ae ?_
  refine ad rfl ?_ ?_ <;> intro h
  ·exact absurd (ot h) om
  ·refine ae ?_
   refine cC (cp) ?_
   exact en [_]
end
section
def yd (Pg:Program) (G:GS) (f:FuncId) (args:List MV) (P:MV→Prop):Prop:=vx Pg G f args [] 0 fun r M n=>(P r∧dH r=true)∧M= [] ∧n=0
def Cr (G:GS) (L:List Int) (f:FuncId) (args:List MV) (k:Nat) (P:MV→Nat→Prop):Prop:=vx Tryz.prog G f args (dI L k) 1 fun r M n=> ∃k',(P r k'∧dH r=true)∧M=dI L k'∧n=1
section
variable {Pg:Program} {T:bf} {N:Nat} {ents:List FuncId} {G:GS} {ops:Array Oper} {d:Tmp} {ty:TypeId} {pos:String} {after:Array Edge} {g:Option (Nat×Bool)} {rest:List Oper} {K:VK} {E:VE} {M:VM} {n:Nat}
 {f:Operand} {args:Array Operand} {ats:Array TypeId} {f0:FuncId} {vs:List MV}
theorem Ie (hd:Nat.blt d N=true) (h1: ∀R:FuncId×List MV→Prop,R (f0,vs)→(dt E f args.toList).runP R) (h2:ents.contains f0=true) {args':List MV} {P:MV→Prop} (hc:yd Pg G f0 args' P) (bs:List (Nat×Nat)) (hb:Dq M bs)
  (hm:cN.relVs (bZ 0 []) (kz M bs) args' vs) (h: ∀r,P r→aj Pg T N ents G ops rest K ((d,r) :: E) (VM.bump M bs) n):aC Pg T N ents G ops ⟨some d, .call ⟨.value f,args,ats⟩,ty,pos,after,g⟩ rest K E M n:=by
 refine lO hd h1 h2 hc [] bs ⟨rfl,hb,rfl,hm,trivial⟩ rfl ?_
 rintro r _ _ ⟨⟨hP,hf⟩,rfl,rfl⟩
 refine⟨rfl,?_⟩
 rw [iU r hf]
 exact h r hP
theorem ua (hd:Nat.blt d N=true) (h1: ∀R:FuncId×List MV→Prop,R (f0,vs)→(dt E f args.toList).runP R) (h2:ents.contains f0=true) {args':List MV} {L:List Int} {k:Nat} {P:MV→Nat→Prop} (hc:Cr G L f0 args' k P) (hg:Pg=Tryz.prog) (b:Nat) (bs:List (Nat×Nat))
  (hm:dP 0 args' (dI L k) 1 vs M [(0,b)] bs) (h3:gY M [(0,b)] =true) (h: ∀r k',P r k'→aj Pg T N ents G ops rest K ((d,r) :: E) (jv (qS n [(0,b)]) (dI L k') ++ iv (VM.bump M bs) [(0,b)]) (n + 1)):aC Pg T N ents G ops ⟨some d, .call ⟨.value f,args,ats⟩,ty,pos,after,g⟩ rest K E M n:=by
 subst hg
 refine lO hd h1 h2 hc [(0,b)] bs hm h3 ?_
 rintro r _ _ ⟨k',⟨hP,hf⟩,rfl,rfl⟩
 refine⟨rfl,?_⟩
 rw [iU r hf]
 exact h r k' hP
end
theorem bk {G:GS} (L:List Int) (k n:Nat) (hn:0 < n) (hn2:n < 4611686018427387904) (hk:k < 4611686018427387904): ∃x:Nat,x < n∧aH Tryz.prog G 24 [numP, .int .i64 (n:Int)] (dI L k) 1 (.int .i64 (x:Int)) (dI L (k + 1)) 1:=by
 have h1:=d₂ (L[k]?.getD 0) (show(n:Int)≠0 by omega);have h2:=c₇ (L[k]?.getD 0) (show(0:Int) < n by omega);refine⟨(mj L k n).toNat,by unfold mj;omega,?_⟩;rw [show (((mj L k n).toNat:Nat):Int)=mj L k n by unfold mj;omega];exact Ic L k n om om hk
end
section
variable {G:GS}
attribute [local irreducible] aj aC aG aL aO vC aU au
structure Ent where
 key:List UInt8
 raw:List UInt8
 sender:List UInt8
 seq:Int
 gas:Int
 prio:Int
 height:Int
 time:Int
 order:Int
 peers:List Int
def aA (e:Ent):MV:= .st [keyM e.key, .sl e.raw.length (u8s e.raw), .str e.sender, .int .u64 e.seq, .int .u64 e.gas, .int .u64 e.prio, .int .i64 e.height, .int .i64 e.time, .int .i64 e.order,bM e.peers]
theorem eF {l:List Ent} {k:Nat} (hk:k < l.length):cS (l.map aA) l.length (k:Int)=some (aA l[k]):=eh hk (by simp [hk])
def bytesS (l:List Ent):Nat:=(l.map fun e=>e.raw.length).sum
theorem fN (l:List Ent) {k:Nat} (hk:k < l.length):bytesS (l.take (k + 1))=bytesS (l.take k) + l[k].raw.length:=by
 unfold bytesS;rw [a₃ hk,a₂,d₃];simp
theorem mU (l:List Ent) (B:Nat) (hok: ∀e∈l,e.raw.length≤B) (k:Nat):bytesS (l.take k)≤B * k:=by
 induction k with
 | zero=>simp [bytesS]
 | succ k ih=>
  rcases Nat.lt_or_ge k l.length with h | h
  ·rw [fN l h,Nat.mul_succ];have:=hok _ (b₀ h);omega
  ·rw [b₆ om];rw [b₆ h] at ih;rw [Nat.mul_succ];omega
theorem Lb (l:List Ent) (hl:l.length < 1000000) (hok: ∀e∈l,e.raw.length≤1000000):aD Tryz.prog G 29 [.sl l.length (l.map aA)] (.int .i64 (bytesS l)):=by
 refine aZ seat Tryz.func29 19 ?_;refine ae ?_;refine ar Nat (fun k=> [(8, .int .i64 k),(7, .int .i64 l.length),(6, .sl l.length (l.map aA)),(3, .int .i64 (bytesS (l.take k)))]) (fun _=> []) 0 (fun k=>k≤l.length) (fun k=>l.length - k) 0 (a₆ _) (vm [] []) ?_;intro k hk;try dsimp only
 refine ae ?_;refine ad rfl ?_ ?_ <;> intro h
 ·have hk':k < l.length:=by have:=ot h;omega
  have hke:=hok _ (b₀ hk');have hb:=mU l 1000000 hok k;have hs:=fN l hk';have hel:=eF hk';generalize l[k] =e at *;generalize hv:bytesS (l.take k)=v at *;have hel:=al.mk hel;refine ae ?_;exact⟨k + 1,by show k + 1≤l.length;omega,by show l.length - (k + 1) < l.length - k;omega,(by dsimp only;rw [hs];exact(vm [] []))⟩
 ·have hk':k=l.length:=by have:=oF h;omega
  subst hk';rw [b₇];refine ae ?_;refine av ?_;rfl
theorem Ay {c:List Ent} {k:Nat} {e:Ent} (h:c[k]? =some e):bH (c.map aA) (0 + k)=some (aA e):=by rw [bD,Nat.zero_add,List.getElem?_map,h];rfl
def ee (x y:Ent):Bool:=decide (x.prio < y.prio∨(x.prio=y.prio∧y.order < x.order))
def nS (e:Ent):List Ent→List Ent
 | [] => [e]
 | y :: l=>bif ee y e then y :: nS e l else e :: y :: l
def FJ:List Ent→List Ent
 | [] => []
 | e :: l=>nS e (FJ l)
def aB (l:List Ent):List Ent:=FJ l.reverse
def fY (c b s t m:Int):Bool:=decide (c < t∧0≤m∧b + max s 0≤m)
theorem wB (e:Ent): ∀l,(nS e l).Perm (e :: l)
 | [] => .refl _
 | y :: l=>by
  unfold nS
  cases ee y e with
  | true=>exact ((wB e l).cons y).trans (.swap e y l)
  | false=>exact .refl _
theorem wC: ∀l,(FJ l).Perm l
 | [] => .refl _
 | e :: l=>(wB e (FJ l)).trans ((wC l).cons e)
theorem ja (l:List Ent):(aB l).Perm l:=(wC _).trans (List.reverse_perm l)
theorem kX {a b:List Ent} (h:a.Perm b):bytesS a=bytesS b:=by
 unfold bytesS
 induction h with
 | nil=>rfl
 | cons x _ ih=>simp [ih]
 | swap x y l=>simp;omega
 | trans _ _ h1 h2=>exact h1.trans h2
def selG (p s t m:Int):List Ent→Int→Int→List Ent×Int×Int
 | [],c,b=>([],c,b)
 | e :: l,c,b=>match fY c b s t m || decide (p≤e.prio) with
  | true=>([],c,b)
  | false=>match selG p s t m l (c - 1) (b - e.raw.length) with
   | (v,c',b')=>(e :: v,c',b')
def cV (p s t m:Int) (l:List Ent):List (List UInt8)×Bool:=match selG p s t m (aB l) l.length (bytesS l) with
 | (v,c,b)=>match fY c b s t m with
  | true=>(v.map (·.key),true)
  | false=>([],false)
theorem ub {O:List Ent} {n k:Nat} (hn:O.length=n) (hk:k < n):cS (O.map aA) n (k:Int)=some (aA (O[k]'om)):=by subst hn;exact eF hk
theorem fZ (l:List Ent) (k:Nat):bytesS (l.take k) + bytesS (l.drop k)=bytesS l:=by
 unfold bytesS;rw [← d₃,← a₂,List.take_append_drop]
def MX (x:List (List UInt8)×Bool):MV:= .tup [.sl x.1.length (x.1.map keyM), .bool x.2]
def Ig (p s t m:Int) (O:List Ent) (n B k:Nat):Prop:= ∃v c b,selG p s t m (O.drop k) ((n:Int) - k) ((B:Int) - bytesS (O.take k))=(v,c,b)∧selG p s t m O n B=(O.take k ++ v,c,b)
theorem qn {p s t m:Int} {O:List Ent} {n B k:Nat} (hk:k < O.length) (h:Ig p s t m O n B k) (hr:(fY ((n:Int) - k) ((B:Int) - bytesS (O.take k)) s t m || decide (p≤O[k].prio))=false):Ig p s t m O n B (k + 1):=by
 obtain⟨v,c,b,h1,h2⟩:=h;rw [a₅ hk,selG,hr] at h1;generalize hg:selG p s t m (O.drop (k + 1)) ((n:Int) - k - 1) ((B:Int) - bytesS (O.take k) - O[k].raw.length)=r at h1;obtain⟨v',c',b'⟩:=r;dsimp only at h1;injection h1 with e1 e2
 injection e2 with e2 e3
 subst e1 e2 e3;refine⟨v',c',b',?_,?_⟩
 ·rw [fN O hk];rw [← hg];congr 1 <;> omega
 ·rw [h2,a₃ hk,List.append_assoc];rfl
theorem jb {p s t m:Int} {O:List Ent} {n B k:Nat} (h:Ig p s t m O n B k) (hr:k=O.length∨∃hk:k < O.length,(fY ((n:Int) - k) ((B:Int) - bytesS (O.take k)) s t m || decide (p≤O[k].prio))=true) :
  selG p s t m O n B=(O.take k,(n:Int) - k,(B:Int) - bytesS (O.take k)):=by
 obtain⟨v,c,b,h1,h2⟩:=h
 rcases hr with rfl | ⟨hk,hr⟩
 ·rw [b₃,selG] at h1
  injection h1 with e1 e2
  injection e2 with e2 e3
  subst e1 e2 e3
  rw [h2,d₄]
 ·rw [a₅ hk,selG,hr] at h1
  injection h1 with e1 e2
  injection e2 with e2 e3
  subst e1 e2 e3
  rw [h2,d₄]
theorem DZ (e:Ent): ∀(out:List Ent) (k:Nat),k≤out.length→(∀j (hj:j < out.length),j < k→ee out[j] e=true)→(∀hk:k < out.length,ee out[k] e=false)→nS e out=out.take k ++ e :: out.drop k
 | [],k,_,_,_=>by simp [nS]
 | y :: out,0,_,_,h2=>by
  have:=h2 sm
  unfold nS
  simp at this
  rw [this];rfl
 | y :: out,k + 1,hk,h1,h2=>by
  have h0:=h1 0 sm om
  unfold nS
  simp at h0
  rw [h0]
  have:=DZ e out k (by simpa using hk) (fun j hj hjk=>by have:=h1 (j + 1) (by simpa using hj) om;rwa [c₃] at this) (fun hk=>by have:=h2 (by simpa using hk);rwa [c₃] at this)
  rw [this];rfl
theorem Cs (l:List Ent) {i:Nat} (hi:i < l.length):aB (l.take (i + 1))=nS l[i] (aB (l.take i)):=by
 unfold aB;rw [a₃ hi,List.reverse_append];rfl
theorem qo (l:List Ent):(aB l).length=l.length:=(ja l).length_eq
theorem Ih {n k:Nat} {κ:IntKind} (h:k≤n):cF n none (some (.int κ (k:Int)))=some (0,k):=by
 unfold cF;dsimp only;rw [if_pos ⟨om,om⟩];simp
theorem Ct {n k:Nat} {κ:IntKind} (h:k≤n):cF n (some (.int κ (k:Int))) none=some (k,n):=by
 unfold cF;dsimp only;rw [if_pos ⟨om,om⟩];simp
theorem fO: ∀(l:List Ent),bE (l.map aA) 41=true
 | [] =>rfl
 | _ :: _=>rfl
theorem Ii (l:List Ent) (hl:l.length < 1000000):aH Tryz.prog G 110 [.sl l.length (l.map aA)] [] 0 (.sl l.length ((aB l).map aA)) [] 0:=by
  rw [show (.sl l.length ((aB l).map aA):MV)= .sl (aB l).length ((aB l).map aA) by rw [qo]];refine bR seat Tryz.func110 63 ?_;refine ae ?_;refine ar (Nat×List Ent) (fun x=> [(9, .int .i64 x.1),(8, .int .i64 l.length),(7, .sl l.length (l.map aA)),(3, .sl x.2.length (x.2.map aA))]) (fun _=> []) 0 (fun x=>x.1≤l.length∧x.2=aB (l.take x.1)) (fun x=>l.length - x.1) (0,[]) ⟨a₆ _,rfl⟩ (by dsimp only;exact(vm [] [])) ?_;rintro⟨i,out⟩ ⟨hi,hout⟩;try dsimp only
  dsimp only at hi hout;refine ae ?_;refine ad rfl ?_ ?_ <;> intro h
  · have hi':i < l.length:=by have:=ot h;omega
    have hol:out.length=i:=by rw [hout,qo];simp;omega
    have hnext:=Cs l hi';rw [← hout] at hnext;have hel:=eF hi';generalize l[i] =e at *;have hel:=al.mk hel;clear hout;refine ae ?_;refine xJ Nat (fun k=> [(6, .int .i64 k),(5, .ptr 0 41 0 0 []),(9, .int .i64 i),(8, .int .i64 l.length),(7, .sl l.length (l.map aA)),(3, .sl out.length (out.map aA))]) (fun _=> [(0,⟨64,41,false,0,[aA e]⟩)]) (fun _=>1) (fun k=>k≤out.length∧nS e out=out.take k ++ e :: out.drop k) (fun JQ hj=>?_) (fun k hIk=>?_)
    · refine ar Nat (fun k=> [(6, .int .i64 k),(5, .ptr 0 41 0 0 []),(9, .int .i64 i),(8, .int .i64 l.length),(7, .sl l.length (l.map aA)),(3, .sl out.length (out.map aA))]) (fun _=> [(0,⟨64,41,false,0,[aA e]⟩)]) 1 (fun k=>k≤out.length∧∀j (hj:j < out.length),j < k→ee out[j] e=true) (fun k=>out.length - k) 0 ⟨a₆ _,fun j hj h=>absurd h (Nat.not_lt_zero _)⟩ (vm [(0,_)] []) ?_;rintro k ⟨hki,hpre⟩;try dsimp only
      have step: ∀hk:k < out.length,ee out[k] e=true→(k + 1≤out.length∧∀j (hj:j < out.length),j < k + 1→ee out[j] e=true):=fun hk hb=>⟨om,fun j hj hjk=>by
        rcases Nat.lt_or_ge j k with h | h
        · exact hpre j hj h
        · have:j=k:=om;subst this;exact hb⟩
      have done:(∀hk:k < out.length,ee out[k] e=false)→k≤out.length∧nS e out=out.take k ++ e :: out.drop k:=fun h=>⟨hki,DZ e out k hki hpre h⟩
      clear hpre;refine ae ?_;refine aw [ag 0,ag 1,ag 2,ag 3,ag 4,ag 5,ag 6,ag 7,ag 8,ag 9,ag 10,ag 11,ag 12,ag 13,ag 14,ag 15,ag 16,ag 17,ag 18,ag 19,ag 20,ag 21,ag 22,ag 23,ag 24,ag 25,ag 26,ag 27,ag 28,ag 29,ag 30,ag 31,ag 32,ag 33] ?_;refine ae ?_;refine gO rfl rfl ?_ rfl ?_ <;> intro h
      · have hk:k < out.length:=by have:=ot h;omega
        have hrow:=eF hk;replace step:=step hk;replace done:=fun hb:ee out[k] e=false=>done fun _=>hb
        generalize out[k] =b at *;have hrow:=al.mk hrow;obtain⟨b1,b2,b3,b4,b5,b6,b7,b8,b9,b10⟩:=b;obtain⟨e1,e2,e3,e4,e5,e6,e7,e8,e9,e10⟩:=e;unfold ee at step done;unfold aA at hrow ⊢;dsimp only at step done hrow ⊢;refine ae ?_;refine gO rfl rfl ?_ rfl ?_ <;> intro h
        · have hp1:=oF h;refine ae ?_;refine gO rfl rfl ?_ rfl ?_ <;> intro h
          · have hp2:b6=e6:=by simpa using h
            refine ae ?_;refine ad rfl ?_ ?_ <;> intro h
            · have hp3:=ot h;refine ae ?_;exact⟨k + 1,step (decide_eq_true om),by show out.length - (k + 1) < out.length - k;omega,(by dsimp only;exact(vm [(0,_)] []))⟩
            · have hp3:=oF h;refine ae ?_;exact hj.nrm k (done (decide_eq_false om)) (vm [(0,_)] [])
          · have hp2:b6≠e6:=by simpa using h
            refine ae ?_;exact hj.nrm k (done (decide_eq_false om)) (vm [(0,_)] [])
        · have hp1:b6 < e6:=by simpa using h
          refine ae ?_;exact⟨k + 1,step (decide_eq_true om),by show out.length - (k + 1) < out.length - k;omega,(by dsimp only;exact(vm [(0,_)] []))⟩
      · have hk: ¬ k < out.length:=by
          have: ¬ ((k:Int) < out.length):=by simpa using h
          omega
        refine ae ?_;exact hj.nrm k (done fun h=>absurd h hk) (vm [(0,_)] [])
    · obtain⟨hki,hZ⟩:=hIk;generalize nS e out=Z at *;have hZl:Z.length=out.length + 1:=by rw [hZ];simp;omega
      replace hZ:out.take k ++ e :: out.drop k=Z:=hZ.symm;have fb1:=al.mk (nt (n:=out.length) (k:=k) (κ:= .i64) hki);have fb2:=al.mk (gm (n:=out.length) (k:=k) (κ:= .i64) hki);have fb3:=bN.mk (fO out);try dsimp only
      refine ae ?_;refine aw [ag 0,ag 1,ag 2,ag 3,ag 4,ag 5,ag 6,ag 7,ag 8,ag 9,ag 10,ag 11,ag 12] ?_;refine ae ?_;refine bO rfl (by intro R hR;refine dM hR ?_;refine a₀ ((by show bE (cutL _ 0 k) 41=true;rw [cut_take];exact fO _)) ?_;refine a₀ ⟨rfl,aE (by kernel_rfl) pf⟩ ?_;refine⟨(out.take k).map aA,sv (by show [] ++ cutL _ 0 k=_;rw [b₂,cut_take]),k,sv pf,?_⟩;exact hR) rfl ?_;refine ae ?_;refine bO rfl (by intro R hR;refine dM hR ?_;(refine a₀ (a₈ _) ?_;refine⟨_,rfl,?_⟩;refine a₀ ⟨(by simp <;> omega),aE (by kernel_rfl) pf⟩ ?_;refine⟨(out.take k ++ [e]).map aA,sv (by rw [a₂];rfl),k+1,sv pf,?_⟩);exact hR) rfl ?_;refine ae ?_;refine bO rfl (by intro R hR;refine dM hR ?_;refine a₀ ((by show bE (cutL _ k out.length) 41=true;rw [ej];exact fO _)) ?_;refine a₀ ⟨(by simp <;> omega),aE (by kernel_rfl) pf⟩ ?_;refine⟨Z.map aA,sv (by rw [← hZ];show _ ++ cutL _ k out.length=_;rw [ej];simp),Z.length,sv pf,?_⟩;exact hR) rfl ?_;refine ae ?_;exact⟨(i + 1,Z),⟨dm,hnext.symm⟩,dm,(by dsimp only;exact(vm [] [(12,Z.length)]))⟩
  · have hi':i=l.length:=by have:=oF h;omega
    subst hi';rw [b₇] at hout;subst hout;refine ae ?_;refine av ?_;exact en [_]
theorem Ij (a b m:Int) (ha:0≤a∧a < 4611686018427387904) (hb:0≤b∧b < 9223372036854775808) (hm: -9223372036854775808≤m∧m < 9223372036854775808) :
  aD Tryz.prog G 111 [.int .i64 a, .int .i64 b, .int .i64 m] (.bool (decide (a≤m∧b≤m - a))):=by
 refine aZ seat Tryz.func111 17 ?_
 refine ae ?_
 refine ah rfl rfl ?_ rfl ?_ <;> intro h
 ·have h1:a≤m:=by simpa using h
  refine ae ?_
  refine av ?_
  exact congrArg MV.bool (decide_eq_decide.2 om)
 ·have h1: ¬ a≤m:=by simpa using h
  refine ae ?_
  refine av ?_
  exact congrArg MV.bool (decide_eq_false om).symm
theorem Lc {n k B b:Nat} {s t m:Int} {c:Int} (hc:c=(n:Int) - k) (hb:b≤B):fY c ((B:Int) - b) s t m=decide ((n:Int) + 1 - k≤t∧((B:Int) - b≤m∧max s 0≤m - ((B:Int) - b))):=by
 subst hc;exact decide_eq_decide.2 om
theorem Oz (s:Int):(if (0:Int) > s then 0 else s)=max s 0:=by
 by_cases hs:(0:Int) > s
 ·rw [if_pos hs];omega
 ·rw [if_neg hs];omega
theorem FK (l:List Ent) (hl:l.length < 1000000) (hok: ∀e∈l,e.raw.length≤1000000) (p s t m:Int) (hs: -9223372036854775808≤s∧s < 9223372036854775808) (hm: -9223372036854775808≤m∧m < 9223372036854775808) :
  aH Tryz.prog G 63 [.sl l.length (l.map aA), .int .u64 p, .int .i64 s, .int .i64 t, .int .i64 m] [] 0 (MX (cV p s t m l)) [] 0:=by
 have hOp:=ja l
 have hOl:(aB l).length=l.length:=hOp.length_eq
 have hOb:bytesS (aB l)=bytesS l:=kX hOp
 have hord:=Ii (G:=G) l hl
 have hB:=mU l 1000000 hok l.length
 rw [b₇] at hB
 unfold MX
 refine bR seat Tryz.func63 68 ?_
 (have fct:=aT.mk (Oz s);refine ae ?_)
 refine cC (Lb l hl hok) ?_
 refine jS (hord) ?_
 refine ar Nat (fun k=> [(27, .int .i64 k),(26, .int .i64 l.length),(25, .sl l.length ((aB l).map aA)),(14, .ms 0 32 0 k),(13, .int .i64 ((bytesS l:Int) - bytesS ((aB l).take k))),(12, .int .i64 ((l.length:Int) + 1 - k)),(4, .int .i64 m),(3, .int .i64 t),(2, .int .i64 (max s 0)),(1, .int .u64 p)]) (fun k=> [(0,⟨55,32,true,0,((aB l).take k).map fun e=>keyM e.key⟩)]) 1 (fun k=>k≤l.length∧Ig p s t m (aB l) l.length (bytesS l) k) (fun k=>l.length - k) 0 ⟨a₆ _,?_⟩ ?_ ?_
 ·refine⟨(selG p s t m (aB l) l.length (bytesS l)).1,(selG p s t m (aB l) l.length (bytesS l)).2.1,(selG p s t m (aB l) l.length (bytesS l)).2.2,?_,rfl⟩
  simp [bytesS]
 ·try dsimp only
  rw [show ((bytesS l:Int) - bytesS ((aB l).take 0))=bytesS l by simp [bytesS]]
  exact(vm [] [])
 rintro k ⟨hk1,hI⟩
 try dsimp only
 have hbk:bytesS ((aB l).take k)≤bytesS l:=by
  have:=fZ (aB l) k
  omega
 have hre:=Lc (s:=s) (t:=t) (m:=m) (n:=l.length) (k:=k) rfl hbk
 refine ae ?_
 refine ad rfl ?_ ?_ <;> intro h
 ·have hk':k < l.length:=by have:=ot h;omega
  have hkO:k < (aB l).length:=om
  have hs2:=fN (aB l) hkO
  have hbk2:bytesS ((aB l).take (k + 1))≤bytesS l:=by
   have:=fZ (aB l) (k + 1)
   omega
  (have fct:=al.mk (ub hOl hk');refine ae ?_)
  refine ah rfl rfl ?_ rfl ?_ <;> intro h
  ·have h1:=ot h
   refine ae ?_
   refine cC (Ij ((bytesS l:Int) - bytesS ((aB l).take k)) (max s 0) m om om hm) ?_
   refine ad rfl ?_ ?_ <;> intro h
   ·have h2:=ot h
    have hroom:=hre.trans (decide_eq_true ⟨h1,h2⟩)
    have hsel:=jb hI (.inr ⟨hkO,by rw [hroom];rfl⟩)
    rw [show cV p s t m l=(((aB l).take k).map (·.key),true) by unfold cV;rw [hsel];simp only [hroom]]
    refine ae ?_
    refine⟨[_,_],[],[(0,k)],rfl,rfl,?_,rfl,⟨?_,?_,trivial⟩,?_⟩
    ·exact⟨by show k≤(((aB l).take k).map fun e=>keyM e.key).length;simp;omega,trivial⟩
    ·exact .inr ⟨rfl,rfl,by simp;omega,by simp;omega,by rw [List.map_map,b₅];exact bT (fun e:Ent=>keyM e.key) _⟩
    ·exact rv
    ·exact mm
   ·have h2:=oF h
    have hroom:=hre.trans (decide_eq_false fun h=>h2 h.2)
    refine ae ?_
    refine ad rfl ?_ ?_ <;> intro h
    ·have hp:=ot h
     have hsel:=jb hI (.inr ⟨hkO,by rw [hroom];simpa using hp⟩)
     rw [show cV p s t m l=([],false) by unfold cV;rw [hsel];simp only [hroom]]
     refine ae ?_
     exact en [_,_]
    ·have hp:=oF h
     have hstep:=qn hkO hI (by rw [hroom];simpa using hp)
     refine ae ?_
     refine aY rfl rfl (by intro R hR;refine dM hR ?_;(refine a₀ (a₈ _) ?_;refine⟨_,rfl,?_⟩;refine a₀ ⟨(by simp;omega),aE (by kernel_rfl) pf⟩ ?_;refine⟨((aB l).take (k + 1)).map fun e=>keyM e.key,sv (by rw [a₃ hkO,a₂];rfl),k + 1,sv pf,?_⟩);exact hR) rfl ?_
     refine ae ?_
     exact⟨k + 1,⟨om,hstep⟩,by show l.length - (k + 1) < l.length - k;omega,(by dsimp only;exact(vm [(0,_)] []))⟩
  ·have h1: ¬ ((l.length:Int) + 1 - k≤t):=by simpa using h
   have hroom:=hre.trans (decide_eq_false fun h=>h1 h.1)
   refine ae ?_
   refine ad rfl ?_ ?_ <;> intro h
   ·have hp:=ot h
    have hsel:=jb hI (.inr ⟨hkO,by rw [hroom];simpa using hp⟩)
    rw [show cV p s t m l=([],false) by unfold cV;rw [hsel];simp only [hroom]]
    refine ae ?_
    exact en [_,_]
   ·have hp:=oF h
    have hstep:=qn hkO hI (by rw [hroom];simpa using hp)
    refine ae ?_
    refine aY rfl rfl (by intro R hR;refine dM hR ?_;(refine a₀ (a₈ _) ?_;refine⟨_,rfl,?_⟩;refine a₀ ⟨(by simp;omega),aE (by kernel_rfl) pf⟩ ?_;refine⟨((aB l).take (k + 1)).map fun e=>keyM e.key,sv (by rw [a₃ hkO,a₂];rfl),k + 1,sv pf,?_⟩);exact hR) rfl ?_
    refine ae ?_
    exact⟨k + 1,⟨om,hstep⟩,by show l.length - (k + 1) < l.length - k;omega,(by dsimp only;exact(vm [(0,_)] []))⟩
 ·have hk':k=l.length:=by have:=oF h;omega
  have hsel:=jb hI (.inl om)
  refine ae ?_
  refine ah rfl rfl ?_ rfl ?_ <;> intro h
  ·have h1:=ot h
   refine ae ?_
   refine cC (Ij ((bytesS l:Int) - bytesS ((aB l).take k)) (max s 0) m om om hm) ?_
   refine ad rfl ?_ ?_ <;> intro h
   ·have h2:=ot h
    have hroom:=hre.trans (decide_eq_true ⟨h1,h2⟩)
    rw [show cV p s t m l=(((aB l).take k).map (·.key),true) by unfold cV;rw [hsel];simp only [hroom]]
    refine ae ?_
    refine⟨[_,_],[],[(0,k)],rfl,rfl,?_,rfl,⟨?_,?_,trivial⟩,?_⟩
    ·exact⟨by show k≤(((aB l).take k).map fun e=>keyM e.key).length;simp;omega,trivial⟩
    ·exact .inr ⟨rfl,rfl,by simp;omega,by simp;omega,by rw [List.map_map,b₅];exact bT (fun e:Ent=>keyM e.key) _⟩
    ·exact rv
    ·exact mm
   ·have h2:=oF h
    have hroom:=hre.trans (decide_eq_false fun h=>h2 h.2)
    rw [show cV p s t m l=([],false) by unfold cV;rw [hsel];simp only [hroom]]
    refine ae ?_
    exact en [_,_]
  ·have h1: ¬ ((l.length:Int) + 1 - k≤t):=by simpa using h
   have hroom:=hre.trans (decide_eq_false fun h=>h1 h.1)
   rw [show cV p s t m l=([],false) by unfold cV;rw [hsel];simp only [hroom]]
   refine ae ?_
   exact en [_,_]
end
section
variable {G:GS}
attribute [local irreducible] aj aC aG aL aO vC aU au
theorem mV {l:List (List UInt8)} {k:Nat} (hk:k < l.length):cS (l.map keyM) l.length (k:Int)=some (keyM l[k]):=eh hk (by simp [hk])
def posK (k:List UInt8):List (List UInt8)→Nat→Int
 | [],_=> -1
 | a :: r,i=>if a=k then i else posK k r (i + 1)
theorem jY (k:List UInt8): ∀(l:List (List UInt8)) (i:Nat),posK k l i= -1∨∃j,posK k l i=((i + j:Nat):Int)∧j < l.length
 | [],_=> .inl rfl
 | a :: r,i=>by
  unfold posK
  split
  ·exact .inr ⟨0,rfl,sm⟩
  ·rcases jY k r (i + 1) with h | ⟨j,h,hj⟩
   ·exact .inl h
   ·exact .inr ⟨j + 1,by rw [h];omega,by simp;omega⟩
theorem ye (l:List (List UInt8)) (key:List UInt8) (hl:l.length≤1000000) (hk32:key.length=32) (hs: ∀x∈l,x.length=32):aD Tryz.prog G 70 [.sl l.length (l.map keyM),keyM key] (.int .i64 (posK key l 0)):=by
 generalize hr:posK key l 0=R;refine aZ seat Tryz.func70 19 ?_;refine ae ?_;refine ar Nat (fun k=> [(9, .int .i64 k),(8, .int .i64 l.length),(7, .sl l.length (l.map keyM)),(3, .ptr 0 32 0 0 [])]) (fun _=> [(0,⟨55,32,false,0,[keyM key]⟩)]) 1 (fun k=>k≤l.length∧posK key (l.drop k) k=R) (fun k=>l.length - k) 0 ⟨a₆ _,by rw [c₁];exact hr⟩ (vm [(0,_)] []) ?_;rintro k ⟨hk,hR⟩;try dsimp only
 refine ae ?_;refine ad rfl ?_ ?_ <;> intro h
 ·have hk':k < l.length:=by have:=ot h;omega
  have hel:=mV hk';have h32:=hs _ (b₀ hk');rw [a₅ hk',posK] at hR;generalize l[k] =a at *;have hel:=al.mk hel;have q1:=al.mk (qm (a:=a) (b:=key) (by rw [h32,hk32]));have s1:=bN.mk (iL a key);by_cases he:a=key
  ·rw [if_pos he] at hR;rw [decide_eq_true he] at q1;subst hR;refine ae ?_;refine av ?_;rfl
  ·rw [if_neg he] at hR;rw [decide_eq_false he] at q1;refine ae ?_;exact⟨k + 1,⟨by show k + 1≤l.length;omega,hR⟩,by show l.length - (k + 1) < l.length - k;omega,(by dsimp only;exact(vm [(0,_)] []))⟩
 ·have hk':k=l.length:=by have:=oF h;omega
  subst hk';rw [b₃,posK] at hR;subst hR;refine ae ?_;refine av ?_;rfl
theorem OA (l:List (List UInt8)) (key:List UInt8) (hl:l.length≤1000000) (hk32:key.length=32) (hs: ∀x∈l,x.length=32):aD Tryz.prog G 26 [.sl l.length (l.map keyM),keyM key] (.bool (decide (0≤posK key l 0))):=by
 have c1:=ye (G:=G) l key hl hk32 hs;generalize posK key l 0=p at *;refine aZ seat Tryz.func26 9 ?_;refine ae ?_;refine cC (c1) ?_;refine av ?_;rfl
def gu (k:List UInt8) (l:List (List UInt8)):List (List UInt8):=if posK k l 0 < 0 then l else l.take (posK k l 0).toNat ++ l.drop ((posK k l 0).toNat + 1)
def uc (k:List UInt8) (l:List (List UInt8)) (size:Int):List (List UInt8):=if (size:Int) < (l.length:Int) + 1 then(l ++ [k]).drop 1 else l ++ [k]
def ik (k:List UInt8) (l:List (List UInt8)) (size:Int):List (List UInt8):=if 0≤posK k l 0 then l.take (posK k l 0).toNat ++ l.drop ((posK k l 0).toNat + 1) ++ [k] else uc k l (max 0 (min size 1024))
def eG (l:List (List UInt8)):Prop:= ∀x∈l,x.length=32
theorem Ik {k:List UInt8} {l:List (List UInt8)} (h:eG l):eG (gu k l)∧(gu k l).length≤l.length:=by
 unfold gu;split
 ·exact⟨h,a₈ _⟩
 ·refine⟨fun x hx=>(b₈.1 hx).elim (fun hx=>h x (c₅ hx)) (fun hx=>h x (b₉ hx)),?_⟩;rw [a₄,b₄,a₇];omega
theorem Il {k:List UInt8} {l:List (List UInt8)} {size:Int} (hk:k.length=32) (h:eG l):eG (ik k l size)∧(ik k l size).length≤max l.length 1024:=by
 unfold ik;split
 ·rename_i hp;rcases jY k l 0 with h0 | ⟨j,hj,hlt⟩
  ·omega
  refine⟨fun x hx=>(b₈.1 hx).elim (fun hx=>(b₈.1 hx).elim (fun hx=>h x (c₅ hx)) (fun hx=>h x (b₉ hx))) (fun hx=>by rw [c₈.1 hx];exact hk),?_⟩;rw [a₄,a₄,b₄,a₇,a₉];omega
 ·unfold uc;have ha:eG (l ++ [k]):=fun x hx=>(b₈.1 hx).elim (h x) (fun hx=>by rw [c₈.1 hx];exact hk)
  split
  ·refine⟨fun x hx=>ha x (b₉ hx),?_⟩;rw [a₇,a₄,a₉];omega
  ·refine⟨ha,?_⟩;rw [a₄,a₉];omega
theorem eZ: ∀(l:List (List UInt8)),bE (l.map keyM) 32=true
 | [] =>rfl
 | _ :: _=>rfl
theorem FL (l:List Ent) (j:Nat) (hj:j < l.length) (hl:l.length≤1000000):aH Tryz.prog G 112 [.sl l.length (l.map aA), .int .i64 j] [] 0 (.sl (l.take j ++ l.drop (j + 1)).length ((l.take j ++ l.drop (j + 1)).map aA)) [] 0:=by
 have hlen:(l.take j ++ l.drop (j + 1)).length=l.length - 1:=by rw [a₄,b₄,a₇];omega
 have fb1:=al.mk (nt (n:=l.length) (k:=j) (κ:= .i64) om);have fb2:=al.mk (show cF l.length (some (.int .i64 ((j:Int) + 1))) none=some (j + 1,l.length) from gm (n:=l.length) (k:=j + 1) (κ:= .i64) om);have fb3:=bN.mk (fO l);refine bR seat Tryz.func112 15 ?_;refine ae ?_;refine aw [ag 0,ag 1,ag 2,ag 3,ag 4,ag 5,ag 6,ag 7,ag 8,ag 9,ag 10] ?_;refine ae ?_;refine bO rfl (by intro R hR;refine dM hR ?_;refine a₀ ((by show bE (cutL _ 0 j) 41=true;rw [cut_take];exact fO _)) ?_;refine a₀ ⟨rfl,aE (by kernel_rfl) pf⟩ ?_;refine⟨(l.take j).map aA,sv (by show [] ++ cutL _ 0 j=_;rw [b₂,cut_take]),j,sv pf,?_⟩;exact hR) rfl ?_;refine ae ?_;refine bO rfl (by intro R hR;refine dM hR ?_;refine a₀ ((by show bE (cutL _ (j + 1) l.length) 41=true;rw [ej];exact fO _)) ?_;refine a₀ ⟨(by simp <;> omega),aE (by kernel_rfl) pf⟩ ?_;refine⟨(l.take j ++ l.drop (j + 1)).map aA,sv (by show _ ++ cutL _ (j + 1) l.length=_;rw [ej,a₂]),(l.length - 1),sv pf,?_⟩;exact hR) rfl ?_;refine ae ?_;generalize l.take j ++ l.drop (j + 1)=Z at *;rw [← hlen];refine⟨[_],[],[(10,Z.length)],rfl,rfl,?_,rfl,⟨?_,trivial⟩,?_⟩
 ·exact⟨by show Z.length≤(Z.map aA).length;simp,trivial⟩
 ·exact .inr ⟨rfl,rfl,rfl,c₀ (b₁ _),bT aA Z⟩
 ·exact mm
theorem MY (l:List (List UInt8)) (key:List UInt8) (hl:l.length≤1000000) (hk32:key.length=32) (hs:eG l):aH Tryz.prog G 35 [.sl l.length (l.map keyM),keyM key] [] 0 (.tup [.sl (gu key l).length ((gu key l).map keyM), .bool (decide (0≤posK key l 0))]) [] 0:=by
 have c1:=ye (G:=G) l key hl hk32 hs;unfold gu;rcases jY key l 0 with h0 | ⟨j,hj,hlt⟩
 ·rw [h0] at c1 ⊢;rw [if_pos om,decide_eq_false om];refine bR seat Tryz.func35 23 ?_;refine ae ?_;(iterate 4 ((all_goals(refine ae ?_));(all_goals(first | (refine ai rfl (fun _ h=>h) rfl (aa (c1)) rfl rfl ?_) | ((first | refine ah rfl rfl ?_ rfl ?_ | refine ad rfl ?_ ?_);all_goals(intro h;(try simp only [pl] at h);(try (exfalso;omega)))) | skip))));all_goals(refine av ?_)
  exact en [_,_]
 ·rw [hj,b₁] at c1 ⊢;rw [if_neg om,decide_eq_true om,c₉];have hlen:(l.take j ++ l.drop (j + 1)).length=l.length - 1:=by rw [a₄,b₄,a₇];omega
  have fb1:=al.mk (nt (n:=l.length) (k:=j) (κ:= .i64) om);have fb2:=al.mk (show cF l.length (some (.int .i64 ((j:Int) + 1))) none=some (j + 1,l.length) from gm (n:=l.length) (k:=j + 1) (κ:= .i64) om);have fb3:=bN.mk (eZ l);refine bR seat Tryz.func35 23 ?_;refine ae ?_;(iterate 3 ((all_goals(refine ae ?_));(all_goals(first | (refine ai rfl (fun _ h=>h) rfl (aa (c1)) rfl rfl ?_) | ((first | refine ah rfl rfl ?_ rfl ?_ | refine ad rfl ?_ ?_);all_goals(intro h;(try simp only [pl] at h);(try (exfalso;omega)))) | skip))));refine ae ?_;refine aw [ag 0,ag 1,ag 2,ag 3,ag 4,ag 5,ag 6,ag 7,ag 8,ag 9,ag 10,ag 11] ?_;refine ae ?_;refine bO rfl (by intro R hR;refine dM hR ?_;refine a₀ ((by show bE (cutL _ 0 j) 32=true;rw [cut_take];exact eZ _)) ?_;refine a₀ ⟨rfl,aE (by kernel_rfl) pf⟩ ?_;refine⟨(l.take j).map keyM,sv (by show [] ++ cutL _ 0 j=_;rw [b₂,cut_take]),j,sv pf,?_⟩;exact hR) rfl ?_;refine ae ?_;refine bO rfl (by intro R hR;refine dM hR ?_;refine a₀ ((by show bE (cutL _ (j + 1) l.length) 32=true;rw [ej];exact eZ _)) ?_;refine a₀ ⟨(by simp <;> omega),aE (by kernel_rfl) pf⟩ ?_;refine⟨(l.take j ++ l.drop (j + 1)).map keyM,sv (by show _ ++ cutL _ (j + 1) l.length=_;rw [ej,a₂]),(l.length - 1),sv pf,?_⟩;exact hR) rfl ?_;refine ae ?_;generalize l.take j ++ l.drop (j + 1)=Z at *;rw [← hlen];refine⟨[_,_],[],[(17,Z.length)],rfl,rfl,?_,rfl,⟨?_,?_,trivial⟩,?_⟩
  ·exact⟨by show Z.length≤(Z.map keyM).length;simp,trivial⟩
  ·exact .inr ⟨rfl,rfl,rfl,c₀ (b₁ _),bT keyM Z⟩
  ·exact rv
  ·exact mm
theorem MZ (l:List (List UInt8)) (size:Int) (key:List UInt8) (hl:l.length≤1000000) (hsz:Aw size) (hk32:key.length=32) (hs:eG l):aH Tryz.prog G 33 [.sl l.length (l.map keyM), .int .i64 size,keyM key] [] 0 (.tup [.sl (ik key l size).length ((ik key l size).map keyM), .bool (decide (posK key l 0 < 0))]) [] 0:=by
 have c1:=ye (G:=G) l key hl hk32 hs;unfold ik;have hmm:(if (if (1024:Int) < size then 1024 else size) > 0 then(if (1024:Int) < size then 1024 else size) else 0)=max 0 (min size 1024):=by (repeat' split) <;> omega
 generalize hM:max 0 (min size 1024)=M at *;rcases jY key l 0 with h0 | ⟨j,hj,hlt⟩
 ·rw [h0] at c1 ⊢;rw [if_neg om,decide_eq_true om];unfold uc;have hlk:(l ++ [key]).length=l.length + 1:=sm;have fb1:=al.mk (show cF (l.length + 1) (some (.int .i64 (1:Int))) none=some (1,l.length + 1) from gm (n:=l.length + 1) (k:=1) (κ:= .i64) om);refine bR seat Tryz.func33 44 ?_;refine ae ?_;(iterate 3 ((all_goals(refine ae ?_));(all_goals(first | (refine ai rfl (fun _ h=>h) rfl (aa (c1)) rfl rfl ?_) | ((first | refine ah rfl rfl ?_ rfl ?_ | refine ad rfl ?_ ?_);all_goals(intro h;(try simp only [pl] at h);(try (exfalso;omega)))) | skip))));refine ae ?_;refine aw [ag 0,ag 1,ag 2,ag 3,ag 4,ag 5,ag 6] ?_;refine ae ?_;refine bO rfl (by intro R hR;refine dM hR ?_;refine a₀ ((eZ l)) ?_;refine a₀ ⟨rfl,aE (by kernel_rfl) pf⟩ ?_;refine⟨l.map keyM,sv (by show [] ++ l.map keyM=_;rw [b₂]),l.length,sv pf,?_⟩;exact hR) rfl ?_;refine ae ?_;refine bO rfl (by intro R hR;refine dM hR ?_;(refine a₀ (a₈ _) ?_;refine⟨_,rfl,?_⟩;refine a₀ ⟨sm,aE (by kernel_rfl) pf⟩ ?_;refine⟨(l ++ [key]).map keyM,sv (by rw [a₂];rfl),l.length + 1,sv pf,?_⟩);exact hR) rfl ?_;refine ae ?_;by_cases hc:M < (l.length:Int) + 1
  ·rw [if_pos hc];refine ad rfl ?_ ?_ <;> intro h
   rotate_left
   ·exfalso;have h':=oF h;(repeat' split at h') <;> omega
   refine ae ?_;have hdl:((l ++ [key]).drop 1).length=l.length:=by rw [a₇,hlk];omega
   rw [hdl];refine⟨[_,_],[],[(17,l.length + 1)],rfl,rfl,?_,rfl,⟨?_,?_,trivial⟩,?_⟩
   ·exact⟨by show l.length + 1≤((l ++ [key]).map keyM).length;rw [b₅,hlk];exact a₈ _,trivial⟩
   ·refine .inr ⟨rfl,rfl,om,om,?_⟩
    show cutL ((l ++ [key]).map keyM) 1 (1 + l.length)=((l ++ [key]).drop 1).map keyM
    unfold cutL;rw [← List.map_drop];exact b₆ (by rw [b₅,hdl];omega)
   ·exact rv
   ·exact mm
  ·rw [if_neg hc];refine ad rfl ?_ ?_ <;> intro h
   ·exfalso;have h':=ot h;(repeat' split at h') <;> omega
   refine ae ?_;generalize l ++ [key] =Z at *;rw [← hlk];refine⟨[_,_],[],[(17,Z.length)],rfl,rfl,?_,rfl,⟨?_,?_,trivial⟩,?_⟩
   ·exact⟨by show Z.length≤(Z.map keyM).length;simp,trivial⟩
   ·exact .inr ⟨rfl,rfl,rfl,c₀ (b₁ _),bT keyM Z⟩
   ·exact rv
   ·exact mm
 ·rw [hj,b₁] at c1 ⊢;rw [if_pos om,decide_eq_false om,c₉];have hlen:(l.take j ++ l.drop (j + 1) ++ [key]).length=l.length:=by rw [a₄,a₄,b₄,a₇,a₉];omega
  have fb1:=al.mk (nt (n:=l.length) (k:=j) (κ:= .i64) om);have fb2:=al.mk (show cF l.length (some (.int .i64 ((j:Int) + 1))) none=some (j + 1,l.length) from gm (n:=l.length) (k:=j + 1) (κ:= .i64) om);have fb3:=bN.mk (eZ l);refine bR seat Tryz.func33 44 ?_;refine ae ?_;(iterate 3 ((all_goals(refine ae ?_));(all_goals(first | (refine ai rfl (fun _ h=>h) rfl (aa (c1)) rfl rfl ?_) | ((first | refine ah rfl rfl ?_ rfl ?_ | refine ad rfl ?_ ?_);all_goals(intro h;(try simp only [pl] at h);(try (exfalso;omega)))) | skip))));refine ae ?_;refine aw [ag 0,ag 1,ag 2,ag 3,ag 4,ag 5,ag 6,ag 7,ag 8,ag 9,ag 10,ag 11,ag 12,ag 13,ag 14] ?_;refine ae ?_;refine bO rfl (by intro R hR;refine dM hR ?_;refine a₀ ((by show bE (cutL _ 0 j) 32=true;rw [cut_take];exact eZ _)) ?_;refine a₀ ⟨rfl,aE (by kernel_rfl) pf⟩ ?_;refine⟨(l.take j).map keyM,sv (by show [] ++ cutL _ 0 j=_;rw [b₂,cut_take]),j,sv pf,?_⟩;exact hR) rfl ?_;refine ae ?_;refine bO rfl (by intro R hR;refine dM hR ?_;refine a₀ ((by show bE (cutL _ (j + 1) l.length) 32=true;rw [ej];exact eZ _)) ?_;refine a₀ ⟨(by simp <;> omega),aE (by kernel_rfl) pf⟩ ?_;refine⟨(l.take j ++ l.drop (j + 1)).map keyM,sv (by show _ ++ cutL _ (j + 1) l.length=_;rw [ej,a₂]),(l.length - 1),sv pf,?_⟩;exact hR) rfl ?_;refine ae ?_;refine bO rfl (by intro R hR;refine dM hR ?_;(refine a₀ (a₈ _) ?_;refine⟨_,rfl,?_⟩;refine a₀ ⟨(by simp <;> omega),aE (by kernel_rfl) pf⟩ ?_;refine⟨(l.take j ++ l.drop (j + 1) ++ [key]).map keyM,sv (by rw [a₂ (l₁:=l.take j ++ l.drop (j + 1))];rfl),l.length,sv pf,?_⟩);exact hR) rfl ?_;refine ae ?_;generalize l.take j ++ l.drop (j + 1) ++ [key] =Z at *;rw [← hlen];refine⟨[_,_],[],[(24,Z.length)],rfl,rfl,?_,rfl,⟨?_,?_,trivial⟩,?_⟩
  ·exact⟨by show Z.length≤(Z.map keyM).length;simp,trivial⟩
  ·exact .inr ⟨rfl,rfl,rfl,c₀ (b₁ _),bT keyM Z⟩
  ·exact rv
  ·exact mm
end
section
variable {G:GS}
attribute [local irreducible] aj aC aG aL aO vC aU au
theorem Im (L:List Int) (N:Nat) (n:Int) (hn:0 < n):0≤mj L N n∧mj L N n < n:=⟨d₂ _ om,c₇ _ hn⟩
def nextN (L:List Int) (N:Nat) (n:Nat):Nat:=(mj L N n).toNat
theorem cW (L:List Int) (N n:Nat) (hn:0 < n):mj L N n=(nextN L N n:Int)∧nextN L N n < n:=by
 have:=Im L N n om;unfold nextN;omega
theorem eQ (L:List Int) (N n:Nat) (hn:0 < n) (hn2:n < 4611686018427387904) (hN:N < 4611686018427387904) :
  aH Tryz.prog G 24 [numP, .int .i64 (n:Int)] (dI L N) 1 (.int .i64 (nextN L N n:Int)) (dI L (N + 1)) 1:=by
 have:=Ic (G:=G) L N n om om hN
 rw [(cW L N n hn).1] at this
 exact this
def ud:List (List UInt8):= [[97,110,110],[98,111,98],[101,118,101],[122,111,101],[110,101,119],[120,45,49]]
def pg (L:List Int) (N:Nat):List UInt8:=ud.getD (nextN L N 6) []
theorem Io {k:Nat} (hk:k < 6):bH (ud.map MV.str) (0 + k)=some (.str (ud.getD k [])):=by
 have h6:k=0∨k=1∨k=2∨k=3∨k=4∨k=5:=om;rcases h6 with rfl | rfl | rfl | rfl | rfl | rfl <;> rfl
theorem Ip (L:List Int) (N:Nat) (hN:N < 4611686018427387904):aH Tryz.prog G 91 [numP] (dI L N) 1 (.str (pg L N)) (dI L (N + 1)) 1:=by
 have h6:=(cW L N 6 om).2;have cn:=eQ (G:=G) L N 6 om om hN;have f1:=al.mk (ca h6);have f2:=al.mk (show bH [MV.str [97,110,110],MV.str [98,111,98],MV.str [101,118,101],MV.str [122,111,101],MV.str [110,101,119],MV.str [120,45,49]] (0 + nextN L N 6)=some (.str (ud.getD (nextN L N 6) [])) from Io h6);unfold pg;generalize nextN L N 6=x at *;generalize ud.getD x [] =nm at *;refine bR seat Tryz.func91 8 ?_;refine ae ?_;refine yc (cn) [(0,0)] ?_;refine ae ?_;exact en [_]
theorem Iq (L:List Int):aH Tryz.prog G 13 [bM L] [] 0 numP (dI L 0) 1:=by
 refine bR seat Tryz.func13 6 ?_;refine ae ?_;exact eb [_] [(0,3)] []
theorem Na (k:Nat):IntKind.u8.wrap (k:Int)=((UInt8.ofNat k).toNat:Int):=by
 rw [w8,UInt8.toNat_ofNat'];exact(Int.natCast_emod _ 256).symm
def ue:List (List UInt8):= [[],[],[],[114,101,110,116],[195,169,228,184,150],[97,10,98],[116,104,97,110,107,115,32,102,111,114,32,97,108,108,32,116,104,101,32,102,105,115,104,44,32,97,110,100,32,102,111,114,32,116,104,101,32,99,104,105,112,115]]
def wD (L:List Int) (N:Nat):List UInt8:=ue.getD (nextN L N 7) []
theorem Ir {k:Nat} (hk:k < 7):bH (ue.map MV.str) (0 + k)=some (.str (ue.getD k [])):=by
 have h6:k=0∨k=1∨k=2∨k=3∨k=4∨k=5∨k=6:=om;rcases h6 with rfl | rfl | rfl | rfl | rfl | rfl | rfl <;> rfl
theorem wE (L:List Int) (N:Nat):(pg L N).length≤5:=by
 have h:=(cW L N 6 om).2;unfold pg;generalize nextN L N 6=k at *;have h6:k=0∨k=1∨k=2∨k=3∨k=4∨k=5:=om;rcases h6 with rfl | rfl | rfl | rfl | rfl | rfl <;> decide
theorem FN (L:List Int) (N:Nat):(wD L N).length≤50:=by
 have h:=(cW L N 7 om).2;unfold wD;generalize nextN L N 7=k at *;have h6:k=0∨k=1∨k=2∨k=3∨k=4∨k=5∨k=6:=om;rcases h6 with rfl | rfl | rfl | rfl | rfl | rfl | rfl <;> decide
theorem Nb (L:List Int) (N:Nat) (hN:N < 4611686018427387904):aH Tryz.prog G 92 [numP] (dI L N) 1 (.str (wD L N)) (dI L (N + 1)) 1:=by
 have h7:=(cW L N 7 om).2;have cn:=eQ (G:=G) L N 7 om om hN;have f1:=al.mk (ca h7);have f2:=al.mk (Ir h7);unfold ue at f2;simp only [List.map_cons,List.map_nil] at f2;unfold wD ue;generalize nextN L N 7=x at *;generalize List.getD _ x [] =nm at *;refine bR seat Tryz.func92 8 ?_;refine ae ?_;refine yc (cn) [(0,0)] ?_;refine ae ?_;exact en [_]
end
section
variable {G:GS}
def Az (L:List Int) (N:Nat):kM:=⟨pg L N,if nextN L (N + 2) 12=0 then 9223372036854775808 else 1 + nextN L (N + 1) 60⟩
def GQ (L:List Int) (N j:Nat):List kM:=(List.range j).map fun i=>Az L (N + 3 * i)
theorem Is (L:List Int) (N j:Nat):GQ L N (j + 1)=GQ L N j ++ [Az L (N + 3 * j)] :=by unfold GQ;rw [List.range_succ,List.map_append];rfl
theorem yf (L:List Int) (N j:Nat):(GQ L N j).length=j:=by simp [GQ]
theorem It (L:List Int) (N:Nat):lY (Az L N):=by
 have h:=(cW L (N + 1) 60 om).2;refine⟨Nat.le_trans (wE L N) om,?_⟩;unfold Az bh;dsimp only;split <;> omega
theorem Nc (L:List Int) (N j:Nat): ∀x∈GQ L N j,lY x:=by
 intro x hx;obtain⟨i,_,rfl⟩:=List.mem_map.1 hx;exact It L _
def D0 (L:List Int) (N:Nat) (acs:List aW):List UInt8×Nat×Nat:=
 if acs.length=0 then(pg L N,0,N + 3) else if nextN L (N + 3) 8=0 then(pg L N,0,N + 4) else((acs.getD (nextN L (N + 4) acs.length) ac0).name,(acs.getD (nextN L (N + 4) acs.length) ac0).seq,N + 5)
def Mi (L:List Int) (N sq:Nat):Nat×Nat:=if nextN L N 6=0 then((sq + nextN L (N + 1) 3) % 18446744073709551616,N + 2) else(sq,N + 1)
def Nd (L:List Int) (N fee:Nat):Nat×Nat:=if nextN L N 9=0 then(nextN L (N + 1) 200,N + 2) else(fee,N + 1)
def D8 (L:List Int) (N:Nat) (acs:List aW) (price:Nat):iJ×Nat:=
 let a:=D0 L N acs
 let b:=Mi L a.2.2 a.2.1
 let gas:=150 + nextN L (N + 1) 6 * 40
 let fee:=gas * price % 18446744073709551616 * (1 + nextN L b.2 5) % 18446744073709551616
 let c:=Nd L (b.2 + 1) fee
 let m:=nextN L c.2 3
 (⟨a.1,b.1,gas,c.1,wD L (N + 2),GQ L (c.2 + 1) (m + 1)⟩,c.2 + 1 + 3 * (m + 1))
theorem Iu {L:List Int} {N:Nat} {acs:List aW} (h: ∀a∈acs,eM a):(D0 L N acs).1.length≤5000∧bh (D0 L N acs).2.1∧(D0 L N acs).2.2≤N + 5:=by
 have hn:=wE L N;unfold D0;split
 ·exact⟨dm,by simp [bh],dm⟩
 ·split
  ·exact⟨dm,by simp [bh],dm⟩
  ·have ha:eM (acs.getD (nextN L (N + 4) acs.length) ac0):=by
    rw [List.getD_eq_getElem?_getD];cases hx:acs[nextN L (N + 4) acs.length]? with
    | none=>exact ⟨by simp [ac0],by simp [ac0,bh],by simp [ac0,bh]⟩
    | some x=>exact h x (List.mem_of_getElem? hx)
   exact⟨ha.1,ha.2.2,dm⟩
theorem Iv {L:List Int} {N sq:Nat} (h:bh sq):bh (Mi L N sq).1∧(Mi L N sq).2≤N + 2:=by
 unfold Mi;split
 ·exact⟨mod_u64,dm⟩
 ·exact⟨h,dm⟩
theorem Iw {L:List Int} {N fee:Nat} (h:bh fee):bh (Nd L N fee).1∧(Nd L N fee).2≤N + 2:=by
 have hx:=(cW L (N + 1) 200 om).2;unfold Nd;split
 ·exact⟨by unfold bh;dsimp only;omega,dm⟩
 ·exact⟨h,dm⟩
theorem Ix {L:List Int} {N:Nat} {acs:List aW} {price:Nat} (h: ∀a∈acs,eM a):gE (D8 L N acs price).1∧(D8 L N acs price).2≤N + 20:=by
 have h1:=Iu (L:=L) (N:=N) h;have h2:=Iv (L:=L) (N:=(D0 L N acs).2.2) h1.2.1;unfold D8;dsimp only;have h3:=Iw (L:=L) (N:=(Mi L (D0 L N acs).2.2 (D0 L N acs).2.1).2 + 1) (fee:=(150 + nextN L (N + 1) 6 * 40) * price % 18446744073709551616 * (1 + nextN L (Mi L (D0 L N acs).2.2 (D0 L N acs).2.1).2 5) % 18446744073709551616) mod_u64;have hg:=(cW L (N + 1) 6 om).2;generalize Nd L _ _=c at *;have hm:=(cW L c.2 3 om).2;have hml:=FN L (N + 2);exact⟨⟨h1.1,h2.1,by unfold bh;dsimp only;omega,h3.1,dm,by dsimp only;rw [yf];omega,Nc L _ _⟩,om⟩
abbrev O0:MV:= .st [.str [], .int .u64 0, .int .u64 0, .int .u64 0, .str [], .nils]
theorem Mj (a b:Nat):IntKind.u64.wrap ((a:Int) * (b:Int))=((a * b % 18446744073709551616:Nat):Int):=by
 rw [wu64,← Int.natCast_mul];omega
theorem OB (a b:Nat):IntKind.u64.wrap ((a:Int) + (b:Int))=(((a + b) % 18446744073709551616:Nat):Int):=by rw [wu64];omega
theorem Nf (L:List Int) (N:Nat) (l:gr) (price:Nat) (hN:N < 4000000000000000000) (hl:kS l) (hp:bh price):aH Tryz.prog G 48 [numP,lgM l, .int .u64 price] (dI L N) 1 (nh (D8 L N l.acs price).1) (dI L (D8 L N l.acs price).2) 1:=by
 obtain⟨acs,col⟩:=l;obtain⟨hl1,hl2,hl3⟩:=hl;have k1:=Iu (L:=L) (N:=N) hl3;have k2:=Iv (L:=L) (N:=(D0 L N acs).2.2) k1.2.1;dsimp only at hl1 hl2 hl3 k1;unfold D8;dsimp only;have cn0:=Ip (G:=G) L N om;have cn1:=eQ (G:=G) L (N + 1) 6 om om om;have b1:=(cW L (N + 1) 6 om).2;have cn2:=Nb (G:=G) L (N + 2) om;generalize htx1:D0 L N acs=a at *;obtain⟨snd,sq,N1⟩:=a;dsimp only at *;generalize htx2:Mi L N1 sq=b at *;obtain⟨sq2,N2⟩:=b;dsimp only at *;generalize hx1:nextN L (N + 1) 6=x1 at *;generalize hmemo:wD L (N + 2)=memo at *;unfold nh lgM;dsimp only;refine bR seat Tryz.func48 96 ?_;refine ae ?_;refine yc (cn0) [(0,0)] ?_;refine ae ?_;refine yc (cn1) [(0,0)] ?_;refine ae ?_;refine yc (cn2) [(0,0)] ?_;refine ae ?_;refine rS Unit (fun _=> [(0,numP),(2, .int .u64 price),(6, .ptr 1 6 0 0 []),(7, .ptr 2 6 0 0 [])]) (fun _=>dI L N1 ++ [(1,⟨100,6,false,0,[O0]⟩),(2,⟨100,6,false,0,[.st [.str snd, .int .u64 sq, .int .u64 (150 + (x1:Int) * 40), .int .u64 0, .str memo, .nils]]⟩)]) (fun _=>3) (fun _=>True) (fun JQ hj=>?_) (fun _ _=>?_)
 ·by_cases h0:acs.length=0
  ·unfold D0 at htx1;rw [if_pos h0] at htx1;simp only [a₁] at htx1;obtain⟨rfl,rfl,rfl⟩:=htx1;refine ah rfl rfl ?_ rfl ?_ <;> intro h
   ·exact absurd (ot h) om
   refine ae ?_;exact hj.nrm () trivial (vm [(1,_),(2,_)] [])
  ·have cn3:=eQ (G:=G) L (N + 3) 8 om om om;unfold D0 at htx1;rw [if_neg h0] at htx1;generalize hx3:nextN L (N + 3) 8=x3 at *;refine ah rfl rfl ?_ rfl ?_ <;> intro h
   rotate_left
   ·exact absurd (oF h) om
   refine ae ?_;refine yc (cn3) [(0,0)] ?_;refine ae ?_;by_cases h3:x3=0
   ·rw [if_pos h3] at htx1;simp only [a₁] at htx1;obtain⟨rfl,rfl,rfl⟩:=htx1;refine ad rfl ?_ ?_ <;> intro h
    ·exact absurd (ot h) om
    refine ae ?_;exact hj.nrm () trivial (vm [(1,_),(2,_)] [])
   ·rw [if_neg h3] at htx1;have cn4:=eQ (G:=G) L (N + 4) acs.length om om om;have b4:=(cW L (N + 4) acs.length om).2;generalize hx4:nextN L (N + 4) acs.length=x4 at *;have hel:=eN b4;have hgd:acs.getD x4 ac0=acs[x4] :=by simp [b4]
    rw [hgd] at htx1;clear hgd;generalize acs[x4] =a at *;obtain⟨an,ab,asq⟩:=a;replace hel:cS (acs.map aV) acs.length (x4:Int)=some (.st [.str an, .int .u64 ab, .int .u64 asq]):=hel;have hel:=al.mk hel;simp only [a₁] at htx1;obtain⟨rfl,rfl,rfl⟩:=htx1;refine ad rfl ?_ ?_ <;> intro h
    rotate_left
    ·exact absurd (oF h) om
    refine ae ?_;refine aw [ag 0,ag 1,ag 2,ag 3,de 4,ag 5,ag 6,ag 7,ag 8] ?_;refine ae ?_;refine bG rfl (fun _ h=>h) rfl [0] (cn4) [(0,0)] [] ⟨rfl,trivial,rfl,lm,mm⟩ rfl rfl rfl rfl rfl ?_;refine ae ?_;refine aw [ag 0,ag 1,ag 2,ag 3,ag 4,ag 5,ag 6,ag 7] ?_;refine ae ?_;exact hj.nrm () trivial (vm [(1,_),(2,_)] [])
 ·have cn5:=eQ (G:=G) L N1 6 om om om;have cn6:=eQ (G:=G) L (N1 + 1) 3 om om om;have b6:=(cW L (N1 + 1) 3 om).2;unfold Mi at htx2;generalize hx5:nextN L N1 6=x5 at *;generalize hx6:nextN L (N1 + 1) 3=x6 at *;have ea:=aT.mk (OB sq x6);refine ae ?_;refine yc (cn5) [(0,0)] ?_;refine ae ?_;refine xI Unit (fun _=> [(0,numP),(2, .int .u64 price),(6, .ptr 1 6 0 0 []),(7, .ptr 2 6 0 0 [])]) (fun _=>dI L N2 ++ [(1,⟨100,6,false,0,[O0]⟩),(2,⟨100,6,false,0,[.st [.str snd, .int .u64 sq2, .int .u64 (150 + (x1:Int) * 40), .int .u64 0, .str memo, .nils]]⟩)]) (fun _=>3) (fun _=>True) (fun JQ hj=>?_) (fun _ _=>?_)
  ·by_cases h5:x5=0
   ·rw [if_pos h5] at htx2;simp only [a₁] at htx2;obtain⟨rfl,rfl⟩:=htx2;refine ad rfl ?_ ?_ <;> intro h
    rotate_left
    ·exact absurd h (by simp [h5])
    refine ae ?_;refine aw [ag 0,ag 1,ag 2,de 3,ag 4,ag 5,ag 6,ag 7] ?_;refine ae ?_;refine bG rfl (fun _ h=>h) rfl [0] (cn6) [(0,0)] [] ⟨rfl,trivial,rfl,lm,mm⟩ rfl rfl rfl rfl rfl ?_;refine ae ?_;exact hj.nrm () trivial (vm [(1,_),(2,_)] [])
   ·rw [if_neg h5] at htx2;simp only [a₁] at htx2;obtain⟨rfl,rfl⟩:=htx2;refine ad rfl ?_ ?_ <;> intro h
    ·exfalso;have:(x5:Int)=0:=by simpa using h
     omega
    refine ae ?_;exact hj.nrm () trivial (vm [(1,_),(2,_)] [])
  ·have k3:=Iw (L:=L) (N:=N2 + 1) (fee:=(150 + x1 * 40) * price % 18446744073709551616 * (1 + nextN L N2 5) % 18446744073709551616) mod_u64;have cn7:=eQ (G:=G) L N2 5 om om om;have cn8:=eQ (G:=G) L (N2 + 1) 9 om om om;have cn9:=eQ (G:=G) L (N2 + 1 + 1) 200 om om om;have b7:=(cW L N2 5 om).2;have b9:=(cW L (N2 + 1 + 1) 200 om).2;generalize hx7:nextN L N2 5=x7 at *;generalize hfee:(150 + x1 * 40) * price % 18446744073709551616=f0 at *;have em1:=aT.mk (show IntKind.u64.wrap ((150 + (x1:Int) * 40) * (price:Int))=(f0:Int) by rw [← hfee,← Mj];rfl);have em2:=aT.mk (show IntKind.u64.wrap ((f0:Int) * (1 + (x7:Int)))=((f0 * (1 + x7) % 18446744073709551616:Nat):Int) by rw [← Mj];rfl);generalize f0 * (1 + x7) % 18446744073709551616=f1 at *;generalize htx3:Nd L (N2 + 1) f1=c at *;obtain⟨fee,N3⟩:=c;dsimp only at *;unfold Nd at htx3;generalize hx8:nextN L (N2 + 1) 9=x8 at *;generalize hx9:nextN L (N2 + 1 + 1) 200=x9 at *;refine ae ?_;refine aw [ag 0,ag 1,ag 2,ag 3,ag 4,de 5,ag 6,ag 7,ag 8,ag 9,ag 10] ?_;refine ae ?_;refine bG rfl (fun _ h=>h) rfl [0] (cn7) [(0,0)] [] ⟨rfl,trivial,rfl,lm,mm⟩ rfl rfl rfl rfl rfl ?_;refine ae ?_;refine yc (cn8) [(0,0)] ?_;refine ae ?_;refine xI Unit (fun _=> [(0,numP),(6, .ptr 1 6 0 0 []),(7, .ptr 2 6 0 0 [])]) (fun _=>dI L N3 ++ [(1,⟨100,6,false,0,[O0]⟩),(2,⟨100,6,false,0,[.st [.str snd, .int .u64 sq2, .int .u64 (150 + (x1:Int) * 40), .int .u64 fee, .str memo, .nils]]⟩)]) (fun _=>3) (fun _=>True) (fun JQ hj=>?_) (fun _ _=>?_)
   ·by_cases h8:x8=0
    ·rw [if_pos h8] at htx3;simp only [a₁] at htx3;obtain⟨rfl,rfl⟩:=htx3;refine ad rfl ?_ ?_ <;> intro h
     rotate_left
     ·exact absurd h (by simp [h8])
     refine ae ?_;refine yc (cn9) [(0,0)] ?_;refine ae ?_;exact hj.nrm () trivial (vm [(1,_),(2,_)] [])
    ·rw [if_neg h8] at htx3;simp only [a₁] at htx3;obtain⟨rfl,rfl⟩:=htx3;refine ad rfl ?_ ?_ <;> intro h
     ·exfalso;have:(x8:Int)=0:=by simpa using h
      omega
     refine ae ?_;exact hj.nrm () trivial (vm [(1,_),(2,_)] [])
   ·have cna:=eQ (G:=G) L N3 3 om om om;have ba:=(cW L N3 3 om).2;generalize hxa:nextN L N3 3=m at *;generalize hN4:N3 + 1=N4 at *;have hN4b:N4 < 4300000000000000000:=om;clear em1 em2 hx7 hx8 hx9 cn7 cn8 cn9 k3 k1 k2;refine ae ?_;refine yc (cna) [(0,0)] ?_;refine ae ?_;refine ar Nat (fun j=> [(10, .int .i64 ((m:Int) - j)),(0,numP),(6, .ptr 1 6 0 0 []),(7, .ptr 2 6 0 0 [])]) (fun j=>dI L (N4 + 3 * j) ++ [(1,⟨100,6,false,0,[O0]⟩),(2,⟨100,6,false,0,[.st [.str snd, .int .u64 sq2, .int .u64 (150 + (x1:Int) * 40), .int .u64 fee, .str memo, .ms 3 2 0 j]]⟩),(3,⟨129,2,true,0,(GQ L N4 j).map lh⟩)]) 4 (fun j=>j≤m + 1) (fun j=>m + 1 - j) 0 (a₆ _) (vm [(1,_),(2,_)] []) ?_;intro j hj;try dsimp only
    refine ae ?_;refine ad rfl ?_ ?_ <;> intro h
    ·have hj':j < m + 1:=by have:=ot h;omega
     have d0:=Ip (G:=G) L (N4 + 3 * j) om;have d1:=eQ (G:=G) L (N4 + 3 * j + 1) 60 om om om;have d2:=eQ (G:=G) L (N4 + 3 * j + 1 + 1) 12 om om om;have hb1:=(cW L (N4 + 3 * j + 1) 60 om).2;have hsucc:=Is L N4 j;have hll:((GQ L N4 j).map lh).length=j:=by rw [b₅,yf]
     have hxf:Az L (N4 + 3 * j)=⟨pg L (N4 + 3 * j),if nextN L (N4 + 3 * j + 1 + 1) 12=0 then 9223372036854775808 else 1 + nextN L (N4 + 3 * j + 1) 60⟩:=rfl;have hN5:N4 + 3 * (j + 1)=N4 + 3 * j + 1 + 1 + 1:=om;rw [hxf] at hsucc;generalize nextN L (N4 + 3 * j + 1 + 1) 12=y2 at *;generalize nextN L (N4 + 3 * j + 1) 60=y1 at *;generalize pg L (N4 + 3 * j)=nm at *;clear hxf;refine ae ?_;refine yc (d0) [(0,0)] ?_;refine ae ?_;refine yc (d1) [(0,0)] ?_;refine ae ?_;refine yc (d2) [(0,0)] ?_;refine ae ?_;by_cases hy:y2=0
     ·rw [if_pos hy] at hsucc;refine ad rfl ?_ ?_ <;> intro h
      rotate_left
      ·exact absurd h (by simp [hy])
      refine ae ?_;refine aY rfl rfl (by intro R hR;refine dM hR ?_;(refine a₀ (a₈ _) ?_;refine⟨_,rfl,?_⟩;refine a₀ ⟨hll,aE (by kernel_rfl) pf⟩ ?_;refine⟨(GQ L N4 (j + 1)).map lh,sv (by rw [hsucc,a₂];rfl),j + 1,sv pf,?_⟩);exact hR) rfl ?_;refine ae ?_;exact⟨j + 1,by show j + 1≤m + 1;omega,by show m + 1 - (j + 1) < m + 1 - j;omega,(by dsimp only;rw [hN5];exact(vm [(1,_),(2,_),(3,_)] []))⟩
     ·rw [if_neg hy] at hsucc;refine ad rfl ?_ ?_ <;> intro h
      ·exfalso;have:(y2:Int)=0:=by simpa using h
       omega
      refine ae ?_;refine aY rfl rfl (by intro R hR;refine dM hR ?_;(refine a₀ (a₈ _) ?_;refine⟨_,rfl,?_⟩;refine a₀ ⟨hll,aE (by kernel_rfl) pf⟩ ?_;refine⟨(GQ L N4 (j + 1)).map lh,sv (by rw [hsucc,a₂];rfl),j + 1,sv pf,?_⟩);exact hR) rfl ?_;refine ae ?_;exact⟨j + 1,by show j + 1≤m + 1;omega,by show m + 1 - (j + 1) < m + 1 - j;omega,(by dsimp only;rw [hN5];exact(vm [(1,_),(2,_),(3,_)] []))⟩
    ·have hj':j=m + 1:=by have:=oF h;omega
     subst hj';have hll:=yf L N4 (m + 1);generalize GQ L N4 (m + 1)=xs at *;rw [← hll];refine ae ?_;refine av ?_;refine⟨[_],[],[(3,xs.length)],rfl,rfl,?_,rfl,⟨?_,trivial⟩,?_⟩
     ·exact⟨by show xs.length≤(xs.map lh).length;simp,trivial⟩
     ·exact .inr ⟨_,rfl,⟨⟨rfl,rfl⟩,⟨rfl,rfl⟩,⟨congrArg (MV.int _) om,rfl⟩,⟨rfl,rfl⟩,⟨rfl,rfl⟩, .inr ⟨rfl,rfl,rfl,c₀ (b₁ _),bT lh xs⟩,trivial⟩⟩
     ·exact mm
end
end Go.Proofs.YthdhlcicpcnbhaaGreatDoor
