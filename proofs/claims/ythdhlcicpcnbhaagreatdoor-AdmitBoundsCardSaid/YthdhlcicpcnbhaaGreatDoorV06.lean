/- Parts of a proof, one behind the other: G3, G6, G7, G8, G9, GA, GB, GC, GE, S1, N1, PA, PB, Q1, Q2. -/
import Derived.Test.YthdhlcicpcnbhaaGreatDoorV05
open And renaming intro → a₀
open Prod.mk renaming injEq → a₁
open List renaming map_append → a₂,take_succ_eq_append_getElem → a₃,length_append → a₄,drop_eq_getElem_cons → a₅,length_drop → a₇,length_singleton → a₉,getElem_mem → b₀,nil_append → b₂,drop_length → b₃,length_take → b₄,length_map → b₅,take_of_length_le → b₆,take_length → b₇,mem_append → b₈,mem_of_mem_drop → b₉,drop_zero → c₁,length_cons → c₂,getElem_cons_succ → c₃,mem_of_mem_take → c₅,mem_cons → c₆,mem_singleton → c₈,length_nil → d₀,foldl_cons → d₁,sum_append → d₃,append_nil → d₄
open Nat renaming zero_le → a₆,le_refl → a₈,zero_add → b₁,le_of_eq → c₀,div_lt_iff_lt_mul → c₄
open Int renaming emod_lt_of_pos → c₇,toNat_natCast → c₉,emod_nonneg → d₂
set_option maxRecDepth 20000
set_option maxHeartbeats 16000000
set_option linter.unusedVariables false
set_option linter.unusedSimpArgs false
namespace Go.Proofs.YthdhlcicpcnbhaaGreatDoor
open Go.RowKit
section
variable {G:GS}
attribute [local irreducible] aj aC aG aM aQ vC aY aA
def AD:Option (List UInt8)→List aW→Nat
 | _,[] =>0
 | p,a :: r=>if bW a.name=false then 10 else match p with
  | none=>AD (some a.name) r
  | some q=>if q=a.name then 8 else if (!(Op.bytesLess q a.name || q == a.name))=true then 1 else AD (some a.name) r
theorem yj (p:Option (List UInt8)):AD p [] =0:=by cases p <;> rfl
theorem kq (p:Option (List UInt8)) (a:aW) (r:List aW):AD p (a :: r)=if bW a.name=false then 10 else match p with
  | none=>AD (some a.name) r
  | some q=>if q=a.name then 8 else if (!(Op.bytesLess q a.name || q == a.name))=true then 1 else AD (some a.name) r:=by cases p <;> rfl
def lI (l:List aW):Nat→Option (List UInt8)
 | 0=>none
 | j + 1=>(l[j]?).map (·.name)
def cP (l:fH):Nat:=if 256 < l.acs.length then 3 else if AD none l.acs≠0 then AD none l.acs else if (totS l.acs l.col).2=false then 6 else 0
def iQ (l:fH):Prop:=l.acs.length≤50000∧bl l.col∧∀a∈l.acs,eX a
theorem IA (L:fH) (hL:iQ L):aD Tryz.prog G 146 [lgM L] (.int .i64 (cP L)):=by
 obtain⟨l,col⟩:=L;obtain⟨hl,hcol,hsm⟩:=hL;dsimp only at hl hcol hsm;have ct:=Ee (G:=G) l col hcol om (fun a ha=>(hsm a ha).2.1);generalize hQ:cP ⟨l,col⟩=Q;unfold cP at hQ;dsimp only at hQ;unfold lgM;dsimp only;by_cases hn:256 < l.length
 ·rw [if_pos hn] at hQ;subst hQ;refine bf seat Tryz.func146 59 ?_;refine ad ?_;(iterate 6 ((all_goals(refine ad ?_));(all_goals(first | ((first | refine ah rfl rfl ?_ rfl ?_ | refine ae rfl ?_ ?_);all_goals(intro h;(try simp only [pl] at h);(try (exfalso;omega)))) | skip))));all_goals(refine aw ?_)
  all_goals rfl
 rw [if_neg hn] at hQ;generalize hv:AD none l=v at *;generalize totS l col=p at *;obtain⟨tot,ok⟩:=p;dsimp only at ct hQ;refine bf seat Tryz.func146 59 ?_;refine ad ?_;(iterate 3 ((all_goals(refine ad ?_));(all_goals(first | ((first | refine ah rfl rfl ?_ rfl ?_ | refine ae rfl ?_ ?_);all_goals(intro h;(try simp only [pl] at h);(try (exfalso;omega)))) | skip))));refine ar Nat (fun k=> [(14, .int .i64 k),(13, .int .i64 l.length),(12, .sl l.length (l.map bd)),(1, .ptr 0 2 0 0 [])]) (fun _=> [(0,⟨36,2,false,0,[.st [.sl l.length (l.map bd), .int .u64 col]]⟩)]) 1 (fun k=>k≤l.length∧AD (lI l k) (l.drop k)=v) (fun k=>l.length - k) 0 ⟨a₆ _,by rw [c₁];exact hv⟩ (vm [(0,_)] []) ?_;clear hv;rintro k ⟨hk,hR⟩;try dsimp only
 refine ad ?_;refine ae rfl ?_ ?_ <;> intro h
 ·have hk':k < l.length:=by have:=ot h;omega
  have hel:=eY hk';have hpn:lI l (k + 1)=some l[k].name:=by show(l[k]?).map _=_;simp [hk']
  have c1:=ye (G:=G) l[k].name (by have:=(hsm _ (b₀ hk')).1;omega);rw [a₅ hk',kq] at hR;rw [← hpn] at hR;have hnmk:lI l (k + 1)=some l[k].name:=hpn;rw [hnmk] at hR;generalize hak:l[k] =a at *;obtain⟨nm,bal,seq⟩:=a;replace hel:db (l.map bd) l.length (k:Int)=some (.st [.str nm, .int .u64 bal, .int .u64 seq]):=hel;have hel:=al.mk hel;dsimp only at hR c1;by_cases hnm:bW nm=false
  ·rw [hnm] at c1;rw [if_pos hnm] at hR;subst hR;rw [if_pos om] at hQ;subst hQ;refine ad ?_;(iterate 6 ((all_goals(refine ad ?_));(all_goals(first | (refine ai rfl (fun _ h=>h) rfl (aa (c1)) rfl rfl ?_) | ((first | refine ah rfl rfl ?_ rfl ?_ | refine ae rfl ?_ ?_);all_goals(intro h;(try simp only [pl] at h);(try (exfalso;omega)))) | skip))));all_goals(refine aw ?_)
   all_goals rfl
  rw [if_neg hnm] at hR;have hnm:bW nm=true:=by simpa using hnm
  rw [hnm] at c1;cases k with
  | zero=>
   dsimp only [lI] at hR;have hR:AD (lI l (0 + 1)) (l.drop (0 + 1))=v:=by rw [hnmk];exact hR
   refine ad ?_;(iterate 3 ((all_goals(refine ad ?_));(all_goals(first | (refine ai rfl (fun _ h=>h) rfl (aa (c1)) rfl rfl ?_) | ((first | refine ah rfl rfl ?_ rfl ?_ | refine ae rfl ?_ ?_);all_goals(intro h;(try simp only [pl] at h);(try (exfalso;omega)))) | skip))));refine av [ag 0,ag 1,ag 2,ag 3,ag 4,ag 5,ag 6,ag 7,ag 8,ag 9,ag 10,ag 11,ag 12,ag 13] ?_;refine ad ?_;refine av [ag 0,ag 1,ag 2,ag 3,ag 4,ag 5,ag 6,ag 7,ag 8,ag 9,ag 10,ag 11,ag 12,ag 13] ?_;refine ad ?_;exact⟨0 + 1,⟨by show 0 + 1≤l.length;omega,hR⟩,by show l.length - (0 + 1) < l.length - 0;omega,(by dsimp only;exact(vm [(0,_)] []))⟩
  | succ j=>
   have hj:j < l.length:=om;have hep:=eY hj;have hpj:lI l (j + 1)=some l[j].name:=by show(l[j]?).map _=_;simp [hj]
   rw [hpj] at hR;generalize l[j] =b at *;obtain⟨nb,bb,sb⟩:=b;replace hep:db (l.map bd) l.length (((j + 1:Nat):Int) - 1)=some (.st [.str nb, .int .u64 bb, .int .u64 sb]):=by rw [show ((j + 1:Nat):Int) - 1=(j:Int) by omega];exact hep
   have hep:=al.mk hep;dsimp only at hR;refine ad ?_;(iterate 3 ((all_goals(refine ad ?_));(all_goals(first | (refine ai rfl (fun _ h=>h) rfl (aa (c1)) rfl rfl ?_) | ((first | refine ah rfl rfl ?_ rfl ?_ | refine ae rfl ?_ ?_);all_goals(intro h;(try simp only [pl] at h);(try (exfalso;omega)))) | skip))));refine av [ag 0,ag 1,ag 2,ag 3,ag 4,ag 5,ag 6,ag 7,ag 8,ag 9,ag 10,ag 11,ag 12,ag 13] ?_;refine ad ?_;refine dY rfl rfl ?_ rfl ?_ <;> intro h
   rotate_left
   ·exact absurd (oF h) om
   by_cases hd:nb=nm
   ·subst hd;rw [if_pos rfl] at hR;subst hR;rw [if_pos om] at hQ;subst hQ;refine eV ?_;(iterate 4 ((all_goals(refine ad ?_));(all_goals(first | ((first | refine ah rfl rfl ?_ rfl ?_ | refine ae rfl ?_ ?_);all_goals(intro h;(try simp only [pl] at h);(try (exfalso;omega)))) | skip))));all_goals(refine aw ?_)
    all_goals rfl
   rw [if_neg hd] at hR;refine ad ?_;refine ae rfl ?_ ?_ <;> intro h
   ·exact absurd (eq_of_beq h) hd
   refine ad ?_;refine av [ag 0,ag 1,ag 2,ag 3,ag 4,ag 5,ag 6,ag 7,ag 8,ag 9,ag 10,ag 11,ag 12,ag 13] ?_;refine ad ?_;refine dY rfl rfl ?_ rfl ?_ <;> intro h
   rotate_left
   ·exact absurd (oF h) om
   refine ad ?_;refine ae rfl ?_ ?_ <;> intro h
   ·rw [if_pos h] at hR;subst hR;rw [if_pos om] at hQ;subst hQ;refine ad ?_;refine aw ?_;rfl
   ·rw [if_neg (by rw [h];simp)] at hR;refine ad ?_;exact⟨j + 1 + 1,⟨by show j + 1 + 1≤l.length;omega,by rw [hnmk];exact hR⟩,by show l.length - (j + 1 + 1) < l.length - (j + 1);omega,(by dsimp only;exact(vm [(0,_)] []))⟩
 ·have hk':k=l.length:=by have:=oF h;omega
  subst hk';rw [b₃,yj] at hR;subst hR;rw [if_neg sm] at hQ;cases ok with
  | true=>
   rw [if_neg sm] at hQ;subst hQ;refine ad ?_;(iterate 6 ((all_goals(refine ad ?_));(all_goals(first | (refine ai rfl (fun _ h=>h) rfl (aa (ct)) rfl rfl ?_) | ((first | refine ah rfl rfl ?_ rfl ?_ | refine ae rfl ?_ ?_);all_goals(intro h;(try simp only [pl] at h);(try (exfalso;omega)))) | skip))));all_goals(refine aw ?_)
   all_goals rfl
  | false=>
   rw [if_pos rfl] at hQ;subst hQ;refine ad ?_;(iterate 6 ((all_goals(refine ad ?_));(all_goals(first | (refine ai rfl (fun _ h=>h) rfl (aa (ct)) rfl rfl ?_) | ((first | refine ah rfl rfl ?_ rfl ?_ | refine ae rfl ?_ ?_);all_goals(intro h;(try simp only [pl] at h);(try (exfalso;omega)))) | skip))));all_goals(refine aw ?_)
   all_goals rfl
def i7:List aW→List aW→List aW×Nat
 | [],l=>(l,0)
 | a :: r,l=>if bW a.name=false then([],10) else if 0≤eZ a.name l 0 then([],8) else i7 r (ei a l)
def lg0:fH:=⟨[],0⟩
def ln (acs:List aW):fH×Nat:=if 256 < acs.length then(lg0,3) else if (i7 acs []).2≠0 then(lg0,(i7 acs []).2) else if (totS (i7 acs []).1 0).2=false then(lg0,6) else(⟨(i7 acs []).1,0⟩,0)
theorem ug {a x:aW}: ∀{l:List aW},x∈pC a l→x=a∨x∈l
 | [],h=>by rw [pC] at h;simp at h;exact .inl h
 | b :: r,h=>by
  rw [pC] at h
  split at h
  ·rcases c₆.1 h with rfl | h
   ·exact .inr sm
   ·rcases ug h with h | h
    ·exact .inl h
    ·exact .inr (by simp [h])
  ·rcases c₆.1 h with rfl | h
   ·exact .inl rfl
   ·exact .inr h
theorem iF {a x:aW} {l:List aW} (h:x∈ei a l):x=a∨x∈l:=by
 unfold ei at h;split at h
 ·rcases List.mem_or_eq_of_mem_set h with h | h
  ·exact .inr h
  ·exact .inl h
 ·exact ug h
def qw (a:aW):Prop:=a.name.length≤140737488355328∧bl a.bal∧bl a.seq
theorem eX.wd {a:aW} (h:eX a):qw a:=⟨by have:=h.1;omega,h.2⟩
theorem F9 {s:List UInt8} (h:bW s=true):s.length≤20:=by
 unfold bW at h;rw [Bool.and_eq_true] at h;exact(ot h.2).2
theorem qw.sm {a:aW} (h:qw a) (hn:bW a.name=true):eX a:=⟨by have:=F9 hn;omega,h.2⟩
theorem yk: ∀(r l:List aW),(∀a∈r,qw a)→(∀a∈l,eX a)→(∀a∈(i7 r l).1,eX a)∧(i7 r l).1.length≤l.length + r.length
 | [],l,_,h=>⟨h,by simp [i7]⟩
 | a :: r,l,h1,h2=>by
  rw [i7]
  split
  ·exact⟨sm,sm⟩
  ·rename_i hnm
   split
   ·exact⟨sm,sm⟩
   ·have:=yk r (ei a l) (fun x hx=>h1 x (by simp [hx])) (fun x hx=>(iF hx).elim (fun e=>e▸(h1 a sm).sm (by simpa using hnm)) (h2 x))
    have h3:=mA a l
    refine⟨this.1,?_⟩
    rw [c₂]
    omega
theorem uh {acs:List aW} (h: ∀a∈acs,qw a):iQ (ln acs).1:=by
 have h0:iQ lg0:=⟨by simp [lg0],by simp [lg0,bl],by simp [lg0]⟩;have:=yk acs [] h sm;unfold ln;split
 ·exact h0
 split
 ·exact h0
 split
 ·exact h0
 ·refine⟨?_,by simp [bl],this.1⟩;have h2:=this.2;simp only [d₀] at h2;dsimp only;omega
theorem NI (l:List aW) (hl:l.length≤140737488355328) (hsm: ∀a∈l,qw a):aL Tryz.prog G 86 [.sl l.length (l.map bd)] [] 0 (.tup [lgM (ln l).1, .int .i64 (ln l).2]) [] 0:=by
 generalize hQ:ln l=Q;obtain⟨⟨Ql,Qc⟩,Qe⟩:=Q;unfold ln at hQ;unfold lgM;dsimp only;by_cases hn:256 < l.length
 ·rw [if_pos hn] at hQ;simp only [lg0,a₁,fH.mk.injEq] at hQ;obtain⟨⟨rfl,rfl⟩,rfl⟩:=hQ;refine bU seat Tryz.func86 46 ?_;refine ad ?_;(iterate 4 ((all_goals(refine ad ?_));(all_goals(first | ((first | refine ah rfl rfl ?_ rfl ?_ | refine ae rfl ?_ ?_);all_goals(intro h;(try simp only [pl] at h);(try (exfalso;omega)))) | skip))));all_goals(refine aw ?_;exact en [_,_])
 rw [if_neg hn] at hQ;have hsmg:=yk l [] hsm sm;generalize hv:i7 l [] =v at *;obtain⟨vl,ve⟩:=v;dsimp only at hQ hsmg;have hvl:vl.length≤256:=by have:=hsmg.2;simp only [d₀] at this;omega
 have ct:=Ee (G:=G) vl 0 (by unfold bl;omega) om (fun a ha=>(hsmg.1 a ha).2.1);clear hsmg;generalize totS vl 0=p at *;obtain⟨tot,ok⟩:=p;dsimp only at ct hQ;refine bU seat Tryz.func86 46 ?_;refine ad ?_;(iterate 3 ((all_goals(refine ad ?_));(all_goals(first | ((first | refine ah rfl rfl ?_ rfl ?_ | refine ae rfl ?_ ?_);all_goals(intro h;(try simp only [pl] at h);(try (exfalso;omega)))) | skip))));refine ar (Nat×List aW) (fun x=> [(15, .int .i64 x.1),(14, .int .i64 l.length),(13, .sl l.length (l.map bd)),(4, .ptr 1 2 0 0 []),(2, .ptr 0 2 0 0 [])]) (fun x=> [(0,⟨36,2,false,0,[.st [.nils, .int .u64 0]]⟩),(1,⟨36,2,false,0,[.st [.sl x.2.length (x.2.map bd), .int .u64 0]]⟩)]) 2 (fun x=>x.1≤l.length∧x.2.length≤x.1∧(∀a∈x.2,eX a)∧i7 (l.drop x.1) x.2=(vl,ve)) (fun x=>l.length - x.1) (0,[]) ⟨a₆ _,a₆ _,sm,by rw [c₁];exact hv⟩ (by dsimp only;exact(vm [(0,_),(1,_)] [])) ?_;clear hv;rintro⟨k,z⟩ ⟨hk,hz,hzs,hR⟩;try dsimp only
 dsimp only at hk hz hzs hR;refine ad ?_;refine ae rfl ?_ ?_ <;> intro h
 ·have hk':k < l.length:=by have:=ot h;omega
  have hel:=eY hk';have hsa:=hsm _ (b₀ hk');have c1:=ye (G:=G) l[k].name (by have:=hsa.1;omega);have c2:=yh (G:=G) z l[k].name om;have c3:=Iw (G:=G) l[k] z om;have hpl:=mA l[k] z;have hpm:bW l[k].name=true→∀x∈ei l[k] z,eX x:=fun hn x hx=>(iF hx).elim (fun e=>e▸hsa.sm hn) (hzs x)
  rw [a₅ hk',i7] at hR;generalize ei l[k] z=z2 at *;generalize l[k] =a at *;obtain⟨nm,bal,seq⟩:=a;replace hel:db (l.map bd) l.length (k:Int)=some (.st [.str nm, .int .u64 bal, .int .u64 seq]):=hel;have hel:=al.mk hel;dsimp only at hR c1 c2 hpm;unfold bd at c3;dsimp only at c3;by_cases hnm:bW nm=false
  ·rw [hnm] at c1;rw [if_pos hnm] at hR;simp only [a₁] at hR;obtain⟨rfl,rfl⟩:=hR;rw [if_pos om] at hQ;simp only [lg0,a₁,fH.mk.injEq] at hQ;obtain⟨⟨rfl,rfl⟩,rfl⟩:=hQ;refine ad ?_;(iterate 4 ((all_goals(refine ad ?_));(all_goals(first | (refine ai rfl (fun _ h=>h) rfl (aa (c1)) rfl rfl ?_) | ((first | refine ah rfl rfl ?_ rfl ?_ | refine ae rfl ?_ ?_);all_goals(intro h;(try simp only [pl] at h);(try (exfalso;omega)))) | skip))));all_goals(refine aw ?_;exact en [_,_])
  rw [if_neg hnm] at hR;have hnm:bW nm=true:=by simpa using hnm
  rw [hnm] at c1;generalize eZ nm z 0=fi at *;by_cases hfi:0≤fi
  ·rw [if_pos hfi] at hR;simp only [a₁] at hR;obtain⟨rfl,rfl⟩:=hR;rw [if_pos om] at hQ;simp only [lg0,a₁,fH.mk.injEq] at hQ;obtain⟨⟨rfl,rfl⟩,rfl⟩:=hQ;refine ad ?_;(iterate 6 ((all_goals(refine ad ?_));(all_goals(first | (refine ai rfl (fun _ h=>h) rfl (aa (c1)) rfl rfl ?_) | (refine ai rfl (fun _ h=>h) rfl (aa (c2)) rfl rfl ?_) | ((first | refine ah rfl rfl ?_ rfl ?_ | refine ae rfl ?_ ?_);all_goals(intro h;(try simp only [pl] at h);(try (exfalso;omega)))) | skip))));all_goals(refine aw ?_;exact en [_,_])
  rw [if_neg hfi] at hR;refine ad ?_;(iterate 7 ((all_goals(refine ad ?_));(all_goals(first | (refine ai rfl (fun _ h=>h) rfl (aa (c1)) rfl rfl ?_) | (refine ai rfl (fun _ h=>h) rfl (aa (c2)) rfl rfl ?_) | (refine ai rfl (fun _ h=>h) rfl (c3) rfl rfl ?_) | ((first | refine ah rfl rfl ?_ rfl ?_ | refine ae rfl ?_ ?_);all_goals(intro h;(try simp only [pl] at h);(try (exfalso;omega)))) | skip))));exact⟨(k + 1,z2),⟨by show k + 1≤l.length;omega,by show z2.length≤k + 1;omega,hpm hnm,hR⟩,by show l.length - (k + 1) < l.length - k;omega,(by dsimp only;exact(vm [(0,_),(1,_)] []))⟩
 ·have hk':k=l.length:=by have:=oF h;omega
  subst hk';rw [b₃,i7] at hR;simp only [a₁] at hR;obtain⟨rfl,rfl⟩:=hR;rw [if_neg sm] at hQ;cases ok with
  | true=>
   rw [if_neg sm] at hQ;simp only [a₁,fH.mk.injEq] at hQ;obtain⟨⟨rfl,rfl⟩,rfl⟩:=hQ;refine ad ?_;(iterate 4 ((all_goals(refine ad ?_));(all_goals(first | (refine ai rfl (fun _ h=>h) rfl (aa (ct)) rfl rfl ?_) | ((first | refine ah rfl rfl ?_ rfl ?_ | refine ae rfl ?_ ?_);all_goals(intro h;(try simp only [pl] at h);(try (exfalso;omega)))) | skip))));all_goals(refine aw ?_;exact en [_,_])
  | false=>
   rw [if_pos rfl] at hQ;simp only [lg0,a₁,fH.mk.injEq] at hQ;obtain⟨⟨rfl,rfl⟩,rfl⟩:=hQ;refine ad ?_;(iterate 4 ((all_goals(refine ad ?_));(all_goals(first | (refine ai rfl (fun _ h=>h) rfl (aa (ct)) rfl rfl ?_) | ((first | refine ah rfl rfl ?_ rfl ?_ | refine ae rfl ?_ ?_);all_goals(intro h;(try simp only [pl] at h);(try (exfalso;omega)))) | skip))));all_goals(refine aw ?_;exact en [_,_])
end
section
variable {G:GS}
attribute [local irreducible] aj aC aG aM aQ vC aY aA
structure lp where
 code:Nat
 sender:List UInt8
 seq:Nat
 gas:Nat
 prio:Nat
 deriving DecidableEq
def jO (r:lp):MV:= .st [.int .i64 r.code, .str r.sender, .int .u64 r.seq, .int .u64 r.gas, .int .u64 r.prio]
def Ei (r:lp):Prop:=r.code≤1000∧r.sender.length≤5000∧bl r.seq∧bl r.gas∧bl r.prio
end
section
variable {G:GS}
attribute [local irreducible] aj aC aG aM aQ vC aY aA
def cX (t:iP):Nat×Bool:=sumG (t.fee :: t.trs.map (·.amt)) 0
theorem AE: ∀(l:List Nat) (s:Nat),bl s→bl (sumG l s).1
 | [],_,h=>h
 | x :: r,s,_=>by
  rw [sumG]
  split
  ·exact AE r _ ud
  ·show(0:Nat) < _;omega
theorem qx (t:iP):bl (cX t).1:=AE _ _ (by unfold bl;omega)
theorem wI (f:Nat) (l:List jc) {k:Nat} (hk:k < l.length):eR (f :: (l.take (k + 1)).map (·.amt))=eR (f :: (l.take k).map (·.amt)) ++ [.int .u64 (l[k].amt:Int)] :=by
 rw [a₃ hk,a₂,← List.cons_append];unfold eR;rw [a₂];rfl
theorem IB (t:iP) (ht:gT t):aD Tryz.prog G 150 [nA t] (.tup [.int .u64 (cX t).1, .bool (cX t).2]):=by
 obtain⟨snd,seq,gas,fee,memo,trs⟩:=t;obtain⟨h1,h2,h3,h4,h5,h6,h7⟩:=ht;dsimp only at h1 h2 h3 h4 h5 h6 h7;have cs:=O7 (G:=G) (fee :: trs.map (·.amt)) (by simp;omega) (by
  intro a ha;rcases c₆.1 ha with rfl | ha
  ·exact h4
  ·obtain⟨x,hx,rfl⟩:=List.mem_map.1 ha;exact(h7 x hx).2)
 unfold cX;dsimp only;generalize sumG (fee :: trs.map (·.amt)) 0=p at *;obtain⟨v,b⟩:=p;dsimp only at cs ⊢;unfold nA;dsimp only;have hzl:(fee :: trs.map (·.amt)).length=trs.length + 1:=sm;refine bf seat Tryz.func150 27 ?_;refine ad ?_;refine ar Nat (fun k=> [(13, .int .i64 k),(12, .int .i64 trs.length),(11, .sl trs.length (trs.map lG)),(4, .ms 0 1 0 (k + 1))]) (fun k=> [(0,⟨22,1,true,0,eR (fee :: (trs.take k).map (·.amt))⟩)]) 1 (fun k=>k≤trs.length) (fun k=>trs.length - k) 0 (a₆ _) (by rw [List.take_zero];exact(vm [(0,_)] [])) ?_;intro k hk;try dsimp only
 refine ad ?_;refine ae rfl ?_ ?_ <;> intro h
 ·have hk':k < trs.length:=by have:=ot h;omega
  have hel:=lh hk';have hsucc:=wI fee trs hk';have hll:(eR (fee :: (trs.take k).map (·.amt))).length=k + 1:=by simp [eR];omega
  generalize trs[k] =x at *;obtain⟨to_,amt⟩:=x;dsimp only at hsucc;replace hel:db (trs.map lG) trs.length (k:Int)=some (.st [.str to_, .int .u64 amt]):=hel;have hel:=al.mk hel;refine ad ?_;refine bc rfl rfl (by intro R hR;refine dZ hR ?_;(refine a₀ (a₈ _) ?_;refine⟨_,rfl,?_⟩;refine a₀ ⟨hll,aF (by kernel_rfl) pf⟩ ?_;refine⟨eR (fee :: (trs.take (k + 1)).map (·.amt)),sv (by rw [hsucc];rfl),k + 1 + 1,sv pf,?_⟩);exact hR) rfl ?_;refine ad ?_;exact⟨k + 1,by show k + 1≤trs.length;omega,by show trs.length - (k + 1) < trs.length - k;omega,(by dsimp only;exact(vm [(0,_)] []))⟩
 ·have hk':k=trs.length:=by have:=oF h;omega
  subst hk';rw [b₇];generalize fee :: trs.map (·.amt)=Z at *;rw [← hzl];refine ad ?_;refine cG rfl (fun _ h=>h) rfl (aa cs) rfl [(0,Z.length)] ⟨(by show Z.length≤(eR Z).length;simp [eR]),trivial⟩ lm ?_;refine ad ?_;refine aw ?_;rfl
def iG (x:jc) (acs:List aW):aW:=if (aS acs x.to_).2 then(aS acs x.to_).1 else⟨x.to_,0,0⟩
def ej (acs:List aW) (x:jc):List aW:=ei ⟨(iG x acs).name,((iG x acs).bal + x.amt) % 18446744073709551616,(iG x acs).seq⟩ acs
def fa (l:fH) (t:iP) (sum:Nat):aW:=⟨(aS l.acs t.sender).1.name,((aS l.acs t.sender).1.bal + (18446744073709551616 - sum)) % 18446744073709551616,((aS l.acs t.sender).1.seq + 1) % 18446744073709551616⟩
def fb (l:fH) (t:iP) (sum:Nat):fH:=⟨t.trs.foldl ej (ei (fa l t sum) l.acs),(l.col + t.fee) % 18446744073709551616⟩
theorem mod_u64 {n:Nat}:bl (n % 18446744073709551616):=Nat.mod_lt _ om
theorem lq {acs:List aW} {name:List UInt8} (h: ∀a∈acs,eX a):eX (aS acs name).1:=by
 unfold aS;split
 ·rename_i a ha;exact h a (List.mem_of_find?_eq_some ha)
 ·exact⟨by simp [ac0],by simp [ac0,bl],by simp [ac0,bl]⟩
theorem Ej {x:jc} {acs:List aW} (hx:mo x) (h: ∀a∈acs,eX a):eX (iG x acs):=by
 unfold iG;split
 ·exact lq h
 ·exact⟨hx.1,by simp [bl],by simp [bl]⟩
theorem yl {x:jc} {acs:List aW} (hx:mo x) (h: ∀a∈acs,eX a):(∀a∈ej acs x,eX a)∧(ej acs x).length≤acs.length + 1:=by
 have hb:=Ej hx h;exact⟨fun a ha=>(iF ha).elim (fun e=>e▸⟨hb.1,mod_u64,hb.2.2⟩) (h a),mA _ _⟩
theorem Ek: ∀(l:List jc) (acs:List aW),(∀x∈l,mo x)→(∀a∈acs,eX a)→(∀a∈l.foldl ej acs,eX a)∧(l.foldl ej acs).length≤acs.length + l.length
 | [],acs,_,h=>⟨h,sm⟩
 | x :: r,acs,hl,h=>by
  have h1:=yl (hl x sm) h
  have h2:=Ek r (ej acs x) (fun y hy=>hl y (by simp [hy])) h1.1
  exact⟨h2.1,by have:=h2.2;simp only [d₁,c₂];omega⟩
theorem AF {l:fH} {t:iP} {sum:Nat} (hl:iQ l) (ht:gT t):(∀a∈(fb l t sum).acs,eX a)∧(fb l t sum).acs.length≤l.acs.length + 1 + t.trs.length∧bl (fb l t sum).col:=by
 have ha:eX (fa l t sum):=⟨(lq hl.2.2).1,mod_u64,mod_u64⟩;have h1:=Ek t.trs (ei (fa l t sum) l.acs) ht.2.2.2.2.2.2 fun a h=>(iF h).elim (fun e=>e▸ha) (hl.2.2 a)
 have h2:=mA (fa l t sum) l.acs;exact⟨h1.1,by have:=h1.2;unfold fb;dsimp only;omega,mod_u64⟩
theorem IC (l:fH) (t:iP) (sum:Nat) (hl:iQ l) (ht:gT t) (hs:bl sum):aL Tryz.prog G 151 [lgM l,nA t, .int .u64 sum] [] 0 (lgM (fb l t sum)) [] 0:=by
 have hda:eX (fa l t sum):=⟨(lq hl.2.2).1,mod_u64,mod_u64⟩;have hgs:eX (aS l.acs t.sender).1:=lq hl.2.2;obtain⟨acs,col⟩:=l;obtain⟨snd,seq,gas,fee,memo,trs⟩:=t;obtain⟨h1,h2,h3,h4,h5,h6,h7⟩:=ht;obtain⟨hl1,hl2,hl3⟩:=hl;dsimp only at h1 h2 h3 h4 h5 h6 h7 hl1 hl2 hl3 hgs;have c1:=MQ (G:=G) acs col snd om;have c2:=Iw (G:=G) (fa ⟨acs,col⟩ ⟨snd,seq,gas,fee,memo,trs⟩ sum) acs om;have hp1:=mA (fa ⟨acs,col⟩ ⟨snd,seq,gas,fee,memo,trs⟩ sum) acs;have hp2: ∀a∈ei (fa ⟨acs,col⟩ ⟨snd,seq,gas,fee,memo,trs⟩ sum) acs,eX a:=fun a h=>(iF h).elim (fun e=>e▸hda) (hl3 a)
 unfold fb;dsimp only;generalize ei (fa ⟨acs,col⟩ ⟨snd,seq,gas,fee,memo,trs⟩ sum) acs=z0 at *;unfold fa at c2;dsimp only at c2;generalize aS acs snd=g at *;obtain⟨⟨gn,gb,gs⟩,gok⟩:=g;obtain⟨hg1,hg2,hg3⟩:=hgs;unfold bl at hg2 hg3 hl2 h4 hs;dsimp only at c1 c2 hg1 hg2 hg3;unfold bd at c1 c2;dsimp only at c1 c2;have e1:=aX.mk (show IntKind.u64.wrap ((gb:Int) - (sum:Int))=(((gb + (18446744073709551616 - sum)) % 18446744073709551616:Nat):Int) by rw [wu64];omega);have e2:=aX.mk (show IntKind.u64.wrap ((gs:Int) + 1)=(((gs + 1) % 18446744073709551616:Nat):Int) by rw [wu64];omega);have e3:=aX.mk (show IntKind.u64.wrap ((col:Int) + (fee:Int))=(((col + fee) % 18446744073709551616:Nat):Int) by rw [wu64];omega);generalize (gb + (18446744073709551616 - sum)) % 18446744073709551616=nb at *;generalize (gs + 1) % 18446744073709551616=ns at *;generalize (col + fee) % 18446744073709551616=nc at *;unfold lgM nA;dsimp only;generalize hR:trs.foldl ej z0=R;refine bU seat Tryz.func151 71 ?_;refine ad ?_;(iterate 6 ((all_goals(refine ad ?_));(all_goals(first | (refine ai rfl (fun _ h=>h) rfl (aa (c1)) rfl rfl ?_) | (refine ai rfl (fun _ h=>h) rfl (c2) rfl rfl ?_) | ((first | refine ah rfl rfl ?_ rfl ?_ | refine ae rfl ?_ ?_);all_goals(intro h;(try simp only [pl] at h);(try (exfalso;omega)))) | skip))));refine ar (Nat×List aW) (fun x=> [(37, .int .i64 x.1),(36, .int .i64 trs.length),(35, .sl trs.length (trs.map lG)),(9, .sl x.2.length (x.2.map bd)),(6, .ptr 2 2 0 0 []),(4, .ptr 1 6 0 0 []),(3, .ptr 0 2 0 0 [])]) (fun x=> [(0,⟨36,2,false,0,[.st [.sl acs.length (acs.map bd), .int .u64 col]]⟩),(1,⟨100,6,false,0,[.st [.str snd, .int .u64 seq, .int .u64 gas, .int .u64 fee, .str memo, .sl trs.length (trs.map lG)]]⟩),(2,⟨36,2,false,0,[.st [.nils, .int .u64 0]]⟩)]) 3 (fun x=>x.1≤trs.length∧x.2.length≤acs.length + 1 + x.1∧(∀a∈x.2,eX a)∧(trs.drop x.1).foldl ej x.2=R) (fun x=>trs.length - x.1) (0,z0) ⟨a₆ _,dm,hp2,by dsimp only;rw [c₁];exact hR⟩ (by dsimp only;exact(vm [(0,_),(1,_),(2,_)] [])) ?_;clear hR hp1 hp2 c1 c2;rintro⟨k,z⟩ ⟨hk,hz,hzs,hRk⟩;try dsimp only
 dsimp only at hk hz hzs hRk;refine ad ?_;refine ae rfl ?_ ?_ <;> intro h
 ·have hk':k < trs.length:=by have:=ot h;omega
  have hel:=lh hk';have hx:=h7 _ (b₀ hk');have hps:=yl hx hzs;rw [a₅ hk',d₁] at hRk;have c3:=yh (G:=G) z trs[k].to_ om;have c4:=Iw (G:=G) ⟨(iG trs[k] z).name,((iG trs[k] z).bal + trs[k].amt) % 18446744073709551616,(iG trs[k] z).seq⟩ z om;have hpb:=Ej hx hzs;have hsp:=lj trs[k].to_ z 0;unfold ej at hps hRk;have hpay:iG trs[k] z=if (aS z trs[k].to_).2 then(aS z trs[k].to_).1 else⟨trs[k].to_,0,0⟩:=rfl
  generalize ei ⟨(iG trs[k] z).name,((iG trs[k] z).bal + trs[k].amt) % 18446744073709551616,(iG trs[k] z).seq⟩ z=z2 at *;generalize iG trs[k] z=pb at *;generalize trs[k] =x at *;obtain⟨to_,amt⟩:=x;obtain⟨pn,pbal,pseq⟩:=pb;obtain⟨hx1,hx2⟩:=hx;obtain⟨hpb1,hpb2,hpb3⟩:=hpb;unfold bl at hx2 hpb2;dsimp only at c3 c4 hsp hpay hx1 hx2 hpb2;unfold bd at c4;dsimp only at c4;replace hel:db (trs.map lG) trs.length (k:Int)=some (.st [.str to_, .int .u64 amt]):=hel;have hel:=al.mk hel;have e4:=aX.mk (show IntKind.u64.wrap ((pbal:Int) + (amt:Int))=(((pbal + amt) % 18446744073709551616:Nat):Int) by rw [wu64];omega);generalize hnb:(pbal + amt) % 18446744073709551616=nb2 at *;rcases hsp with ⟨f1,f2⟩ | ⟨j,a,f1,f2,f3⟩
  ·rw [f1] at c3;have hg:aS z to_=(ac0,false):=by unfold aS;rw [f2]
   rw [hg,if_neg sm] at hpay;simp only [aW.mk.injEq] at hpay;obtain⟨rfl,rfl,rfl⟩:=hpay;have e5:=aX.mk (show IntKind.u64.wrap ((0:Int) + (amt:Int))=(nb2:Int) by rw [wu64];omega);refine ad ?_;(iterate 8 ((all_goals(refine ad ?_));(all_goals(first | (refine ai rfl (fun _ h=>h) rfl (aa (c3)) rfl rfl ?_) | (refine ai rfl (fun _ h=>h) rfl (c4) rfl rfl ?_) | ((first | refine ah rfl rfl ?_ rfl ?_ | refine ae rfl ?_ ?_);all_goals(intro h;(try simp only [pl] at h);(try (exfalso;omega)))) | skip))));exact⟨(k + 1,z2),⟨dm,dm,hps.1,hRk⟩,dm,(by dsimp only;exact(vm [(0,_),(1,_),(2,_)] []))⟩
  ·rw [f1,b₁] at c3;have hg:aS z to_=(a,true):=by unfold aS;rw [f3]
   rw [hg,if_pos rfl] at hpay;dsimp only at hpay;obtain⟨hj,ha⟩:=List.getElem?_eq_some_iff.1 f2;have hel2:=eY hj;rw [ha,← hpay] at hel2;replace hel2:db (z.map bd) z.length (j:Int)=some (.st [.str pn, .int .u64 pbal, .int .u64 pseq]):=hel2;have hel2:=al.mk hel2;clear f1 f2 f3 ha hpay;refine ad ?_;(iterate 8 ((all_goals(refine ad ?_));(all_goals(first | (refine ai rfl (fun _ h=>h) rfl (aa (c3)) rfl rfl ?_) | (refine ai rfl (fun _ h=>h) rfl (c4) rfl rfl ?_) | ((first | refine ah rfl rfl ?_ rfl ?_ | refine ae rfl ?_ ?_);all_goals(intro h;(try simp only [pl] at h);(try (exfalso;omega)))) | skip))));exact⟨(k + 1,z2),⟨dm,dm,hps.1,hRk⟩,dm,(by dsimp only;exact(vm [(0,_),(1,_),(2,_)] []))⟩
 ·have hk':k=trs.length:=by have:=oF h;omega
  subst hk';rw [b₃] at hRk;have hRk:z=R:=hRk;subst hRk;refine ad ?_;refine aw ?_;refine⟨[_],[],[],rfl,rfl,trivial,rfl,⟨?_,trivial⟩,?_⟩
  ·exact .inl ⟨rfl,rfl⟩
  ·exact mm
end
section
variable {G:GS}
attribute [local irreducible] aj aC aG aM aQ vC aY aA
def dM (l:fH) (price:Nat) (t:iP) (size:Nat):Nat:=
 if (aS l.acs t.sender).2=false then 13 else if (aS l.acs t.sender).1.seq≠t.seq then 14 else if t.seq=18446744073709551615 then 6 else if t.gas < lH size t.trs.length then 15 else
 if (jy t.gas price).2=false then 6 else if t.fee < (jy t.gas price).1 then 16 else if (cX t).2=false then 6 else if (aS l.acs t.sender).1.bal < (cX t).1 then 17 else
 if 256 < (fb l t (cX t).1).acs.length then 3 else 0
theorem LH (l:fH) (price:Nat) (t:iP) (size:Nat) (hl:iQ l) (ht:gT t) (hp:bl price) (hz:size≤1000000000):aD Tryz.prog G 148 [lgM l, .int .u64 price,nA t, .int .i64 size] (.int .i64 (dM l price t size)):=by
 have cd:=IC (G:=G) l t (cX t).1 hl ht (qx t);have cc:=IB (G:=G) t ht;have hds:=AF (sum:=(cX t).1) hl ht;generalize hr:dM l price t size=R;unfold dM at hr;generalize fb l t (cX t).1=D at *;generalize cX t=cst at *;obtain⟨cv,cb⟩:=cst;obtain⟨acs,col⟩:=l;obtain⟨snd,seq,gas,fee,memo,trs⟩:=t;obtain⟨h1,h2,h3,h4,h5,h6,h7⟩:=ht;obtain⟨hl1,hl2,hl3⟩:=hl;obtain⟨dacs,dcol⟩:=D;dsimp only at h1 h2 h3 h4 h5 h6 h7 hl1 hl2 hl3 hds hr cd cc;have c1:=MQ (G:=G) acs col snd om;have cu:=NB (G:=G) (size:Int) (trs.length:Int) om om;have cn:=NH (G:=G) gas price h3 hp;have hul:lH (size:Int) (trs.length:Int) < 18446744073709551616:=by unfold lH limS;omega
 generalize lH (size:Int) (trs.length:Int)=us at *;generalize jy gas price=mu at *;obtain⟨mv,mb⟩:=mu;generalize aS acs snd=g at *;obtain⟨⟨gn,gb,gs⟩,gok⟩:=g;dsimp only at c1 cn hr hds;unfold bd at c1;unfold nA lgM at *;dsimp only at *;cases gok with
 | false=>
  rw [if_pos rfl] at hr;refine bf seat Tryz.func148 79 ?_;refine ad ?_;refine bL (c1) ?_;refine aw ?_;refine congrArg (MV.int .i64) ?_;(repeat' split at hr) <;> omega
 | true=>
  rw [if_neg sm] at hr;refine bf seat Tryz.func148 79 ?_;refine ad ?_;refine bL (c1) ?_;refine ae rfl ?_ ?_ <;> intro h
  ·have k0: ¬ (gs:Int)=(seq:Int):=by simpa using h
   have k1:gs≠seq:=om;refine ad ?_;refine aw ?_;refine congrArg (MV.int .i64) ?_;(repeat' split at hr) <;> omega
  have k0:(gs:Int)=(seq:Int):=by simpa using h
  have k1:gs=seq:=om;refine ad ?_;refine ae rfl ?_ ?_ <;> intro h
  ·have k2:(seq:Int)=18446744073709551615:=by simpa using h
   refine ad ?_;refine aw ?_;refine congrArg (MV.int .i64) ?_;(repeat' split at hr) <;> omega
  have k2: ¬ (seq:Int)=18446744073709551615:=by simpa using h
  refine ad ?_;refine av [ag 0,ag 1,ag 2,ag 3,ag 4,ag 5,da 6,ag 7,ag 8] ?_;refine ad ?_;refine du (cu) ?_;refine ae rfl ?_ ?_ <;> intro h
  ·have k3:=ot h;refine ad ?_;refine aw ?_;refine congrArg (MV.int .i64) ?_;(repeat' split at hr) <;> omega
  have k3:=oF h;refine ad ?_;refine bL (cn) ?_;refine bL (cc) ?_;cases mb with
  | false=>
   rw [if_neg om,if_neg om,if_neg om,if_pos rfl] at hr;refine ad ?_;refine aw ?_;refine congrArg (MV.int .i64) ?_;(repeat' split at hr) <;> omega
  | true=>
   rw [if_neg om,if_neg om,if_neg om,if_neg sm] at hr;refine ad ?_;refine ae rfl ?_ ?_ <;> intro h
   ·have k4:=ot h;rw [if_pos om] at hr;refine ad ?_;refine aw ?_;refine congrArg (MV.int .i64) ?_;(repeat' split at hr) <;> omega
   have k4:=oF h;rw [if_neg om] at hr;cases cb with
   | false=>
    rw [if_pos rfl] at hr;refine ad ?_;refine aw ?_;refine congrArg (MV.int .i64) ?_;(repeat' split at hr) <;> omega
   | true=>
    rw [if_neg sm] at hr;refine ad ?_;refine ae rfl ?_ ?_ <;> intro h
    ·have k5:=ot h;refine ad ?_;refine aw ?_;refine congrArg (MV.int .i64) ?_;(repeat' split at hr) <;> omega
    have k5:=oF h;refine ad ?_;refine kX (cd) ?_;refine ae rfl ?_ ?_ <;> intro h
    ·have k6:=ot h;refine ad ?_;refine aw ?_;refine congrArg (MV.int .i64) ?_;(repeat' split at hr) <;> omega
    have k6:=oF h;refine ad ?_;refine aw ?_;refine congrArg (MV.int .i64) ?_;(repeat' split at hr) <;> omega
def oh (l:fH) (price:Nat) (raw:List UInt8):fH×lp:=
 if cP l≠0 then(l,⟨1,[],0,0,0⟩) else if (aI raw).2≠0 then(l,⟨(aI raw).2,[],0,0,0⟩) else
 let t:=(aI raw).1
 let e:=dM l price t raw.length
 (if e≠0 then l else fb l t (cX t).1,⟨e,t.sender,t.seq,t.gas,pD t.fee t.gas⟩)
theorem lr {raw:List UInt8}:gT (aI raw).1:=by
 unfold aI;split
 ·exact uc
 ·rename_i h;split
  ·exact uc
  ·split
   ·exact uc
   ·exact MO om
theorem El {raw:List UInt8} (h:(aI raw).2=0):raw.length≤4096:=by
 unfold aI at h;split at h
 ·exact absurd h (by decide)
 ·omega
theorem O8 (l:fH) (price:Nat) (raw:List UInt8) (hl:iQ l) (hp:bl price) (hraw:raw.length≤140737488355328):aL Tryz.prog G 109 [lgM l, .int .u64 price, .sl raw.length (u8s raw)] [] 0 (.tup [lgM (oh l price raw).1,jO (oh l price raw).2]) [] 0:=by
 have cv:=IA (G:=G) l hl;have cd:=CE (G:=G) raw hraw;have hsm:=lr (raw:=raw);have cc:=IB (G:=G) _ hsm;have cf:=fun he:(aI raw).2=0=>LH (G:=G) l price _ raw.length hl hsm hp (by have:=El he;omega)
 have cp:=NG (G:=G) (aI raw).1.fee (aI raw).1.gas hsm.2.2.2.1 hsm.2.2.1;have cdn:=IC (G:=G) l _ (cX (aI raw).1).1 hl hsm (qx _);generalize hr:oh l price raw=R;obtain⟨⟨Racs,Rcol⟩,⟨Rcode,Rsnd,Rseq,Rgas,Rprio⟩⟩:=R;unfold oh at hr;generalize aI raw=d at *;obtain⟨t,e⟩:=d;dsimp only at *;generalize cP l=vl at *;generalize cX t=cst at *;obtain⟨cstv,cstb⟩:=cst;dsimp only at *;generalize fb l t cstv=D at *;generalize dM l price t raw.length=fe at *;obtain⟨snd,seq,gas,fee,memo,trs⟩:=t;dsimp only at *;generalize pD fee gas=pr at *;obtain⟨acs,col⟩:=l;obtain⟨dacs,dcol⟩:=D;obtain⟨h1,h2,h3,h4,h5,h6,h7⟩:=hsm;obtain⟨hl1,hl2,hl3⟩:=hl;dsimp only at h1 h2 h3 h4 h5 h6 h7 hl1 hl2 hl3;unfold lgM nA at *;unfold jO;dsimp only at *;by_cases hv:vl=0
 ·subst hv;rw [if_neg sm] at hr;by_cases he:e=0
  ·subst he;replace cf:=cf rfl;rw [if_neg sm] at hr;have hr2:=hr;simp only [a₁,lp.mk.injEq] at hr2;obtain⟨hD,rfl,rfl,rfl,rfl,rfl⟩:=hr2;clear hr;refine bU seat Tryz.func109 61 ?_;refine ad ?_;refine bL (cv) ?_;refine kX (cd) ?_;refine av [ag 0,ag 1,ag 2,ag 3,ag 4,da 5,ag 6,ag 7,ag 8,ag 9,ag 10,ag 11,ag 12,ag 13,ag 14,ag 15,da 16,ag 17,ag 18,ag 19] ?_;refine ad ?_;refine du (cf) ?_;refine du (cp) ?_;refine ae rfl ?_ ?_ <;> intro h
   ·have hfe:fe≠0:=fun e=>by subst e;simp at h
    rw [if_pos hfe] at hD;simp only [fH.mk.injEq] at hD;obtain⟨rfl,rfl⟩:=hD;refine ad ?_;refine av [ag 0,ag 1,ag 2,ag 3] ?_;refine ad ?_;refine aw ?_;exact en [_,_]
   ·have hfe:fe=0:=by
     have: ¬ (fe:Int)≠0:=by simpa using h
     omega
    subst hfe;rw [if_neg sm] at hD;simp only [fH.mk.injEq] at hD;obtain⟨rfl,rfl⟩:=hD;refine ad ?_;refine bL (cc) ?_;refine av [ag 0,ag 1,ag 2,da 3,ag 4,ag 5,ag 6] ?_;refine ad ?_;refine jk (cdn) ?_;refine aw ?_;exact en [_,_]
  ·rw [if_pos he] at hr;simp only [a₁,fH.mk.injEq,lp.mk.injEq] at hr;obtain⟨⟨rfl,rfl⟩,rfl,rfl,rfl,rfl,rfl⟩:=hr;refine bU seat Tryz.func109 61 ?_;refine ad ?_;refine bL (cv) ?_;refine kX (cd) ?_;refine ae rfl ?_ ?_ <;> intro h
   ·refine ad ?_;refine aw ?_;exact en [_,_]
   ·exfalso;have: ¬ (e:Int)≠0:=by simpa using h
    omega
 ·rw [if_pos hv] at hr;simp only [a₁,fH.mk.injEq,lp.mk.injEq] at hr;obtain⟨⟨rfl,rfl⟩,rfl,rfl,rfl,rfl,rfl⟩:=hr;refine bU seat Tryz.func109 61 ?_;refine ad ?_;refine bL (cv) ?_;refine ae rfl ?_ ?_ <;> intro h
  ·refine ad ?_;refine aw ?_;exact en [_,_]
  ·exfalso;have: ¬ (vl:Int)≠0:=by simpa using h
   omega
end
section
variable {G:GS}
attribute [local irreducible] aj aC aG aM aQ vC aY aA
theorem Em: ∀l:List jc,nB l≤100
 | [] =>by simp [nB]
 | x :: r=>by
  have:=Em r
  unfold nB
  split
  ·omega
  ·split <;> omega
theorem AG (t:iP):cE t≤100:=by
 have:=Em t.trs;unfold cE;(repeat' split) <;> omega
theorem ym (raw:List UInt8):(aI raw).2≤100:=by
 unfold aI;split
 ·simp
 ·split
  ·simp
  ·split
   ·exact AG _
   ·simp
theorem Ga (l:fH) (p:Nat) (t:iP) (n:Nat):dM l p t n≤100:=by
 unfold dM;(repeat' split) <;> omega
theorem ID {l:fH} {p:Nat} {t:iP} {n:Nat} (h:dM l p t n=0):(fb l t (cX t).1).acs.length≤256:=by
 unfold dM at h;(repeat' split at h) <;> omega
theorem Gb {f g:Nat} (hf:bl f):bl (pD f g):=by
 unfold pD ez bl at *;split
 ·omega
 ·rename_i hg;by_cases hc:g=0∨g≤f * 1000 / 18446744073709551616
  ·simp [hc]
  ·simp only [hc,if_false,if_true]
   show f * 1000 / g < _
   rw [c₄ om];have:f * 1000 < g * 18446744073709551616:=(c₄ om).1 om;omega
theorem ui {l:fH} {p:Nat} {raw:List UInt8} (hl:iQ l):iQ (oh l p raw).1∧Ei (oh l p raw).2:=by
 have hd:=lr (raw:=raw);have h1:=ym raw;have h2:=Ga l p (aI raw).1 raw.length;have hz: ∀c,c≤100→Ei ⟨c,[],0,0,0⟩:=fun c hc=>⟨dm,sm,by simp [bl],by simp [bl],by simp [bl]⟩
 unfold oh;split
 ·exact⟨hl,hz 1 om⟩
 ·split
  ·exact⟨hl,hz _ h1⟩
  ·refine⟨?_,dm,hd.1,hd.2.1,hd.2.2.1,Gb hd.2.2.2.1⟩;dsimp only;split
   ·exact hl
   ·rename_i h3;have h4:=ID (Decidable.not_not.1 h3);have h5:=AF (sum:=(cX (aI raw).1).1) hl hd;exact⟨om,h5.2.2,h5.1⟩
end
section
variable {G:GS}
attribute [local irreducible] aj aC aG aM aQ vC aY aA
structure nC where
 com:fH
 chk:fH
 nxt:fH
 opn:Bool
 price:Nat
def appM (a:nC):MV:= .st [lgM a.com,lgM a.chk,lgM a.nxt, .bool a.opn, .int .u64 a.price]
def gz (a:nC):Prop:=iQ a.com∧iQ a.chk∧iQ a.nxt∧bl a.price
def app0:nC:=⟨lg0,lg0,lg0,false,0⟩
theorem lg0_sm:iQ lg0:=⟨by simp [lg0],by simp [lg0,bl],by simp [lg0]⟩
theorem LI:gz app0:=⟨lg0_sm,lg0_sm,lg0_sm,by simp [app0,bl]⟩
abbrev lgZ:MV:= .st [.nils, .int .u64 0]
theorem rel_lg0 {σ:Nat→Option Nat} {fz:Fz}:cU σ fz (lgM lg0) lgZ:= .inr ⟨_,rfl,⟨.inr ⟨rfl,rfl⟩,⟨rfl,rfl⟩,trivial⟩⟩
theorem rel_lg {σ:Nat→Option Nat} {fz:Fz} {n:Nat} {l:List MV} {c:Int}:cU σ fz (.st [.sl n l, .int .u64 c]) (.st [.sl n l, .int .u64 c]):= .inl ⟨rfl,rfl⟩
def fM (acs:List aW) (price:Nat):nC×Nat:=if (ln acs).2≠0 then(app0,(ln acs).2) else(⟨(ln acs).1,(ln acs).1,lg0,false,price⟩,0)
theorem Gc {acs:List aW} {p:Nat} (h: ∀a∈acs,qw a) (hp:bl p):gz (fM acs p).1:=by
 unfold fM;split
 ·exact LI
 ·exact⟨uh h,uh h,lg0_sm,hp⟩
theorem AH {acs:List aW} {p:Nat} (h: ∀a∈acs,eX a) (hp:bl p):gz (fM acs p).1:=Gc (fun a ha=>(h a ha).wd) hp
abbrev QF:MV:= .st [lgZ,lgZ,lgZ, .bool false, .int .u64 0]
theorem AI {σ:Nat→Option Nat} {fz:Fz}:cU σ fz (appM app0) QF:= .inr ⟨_,rfl,⟨rel_lg0,rel_lg0,rel_lg0,⟨rfl,rfl⟩,⟨rfl,rfl⟩,trivial⟩⟩
theorem LJ (l:List aW) (p:Nat) (hl:l.length≤140737488355328) (hsm: ∀a∈l,qw a) (hp:bl p):aL Tryz.prog G 44 [.sl l.length (l.map bd), .int .u64 p] [] 0 (.tup [appM (fM l p).1, .int .i64 (fM l p).2]) [] 0:=by
 have c1:=NI (G:=G) l hl hsm;unfold fM;generalize ln l=g at *;obtain⟨⟨acs,col⟩,e⟩:=g;unfold lgM at c1;dsimp only at c1 ⊢;by_cases he:e=0
 ·subst he;rw [if_neg sm];refine bU seat Tryz.func44 21 ?_;refine ad ?_;refine kX (c1) ?_;refine aw ?_;refine⟨[_,_],[],[],rfl,rfl,trivial,rfl,⟨?_,?_,trivial⟩,?_⟩
  ·exact .inr ⟨_,rfl,⟨rel_lg,rel_lg,rel_lg0,⟨rfl,rfl⟩,⟨rfl,rfl⟩,trivial⟩⟩
  ·exact rv
  ·exact mm
 ·rw [if_pos he];refine bU seat Tryz.func44 21 ?_;refine ad ?_;refine kX (c1) ?_;refine ae rfl ?_ ?_ <;> intro h
  ·refine ad ?_;refine aw ?_;refine⟨[_,_],[],[],rfl,rfl,trivial,rfl,⟨?_,?_,trivial⟩,?_⟩
   ·exact AI
   ·exact rv
   ·exact mm
  ·exfalso;have: ¬ (e:Int)≠0:=by simpa using h
   omega
def bM (a:nC) (raw:List UInt8):lp:=(oh a.chk a.price raw).2
def fq (a:nC) (raw:List UInt8):nC:=⟨a.com,(oh a.chk a.price raw).1,a.nxt,a.opn,a.price⟩
theorem uj {a:nC} {raw:List UInt8} (h:gz a):gz (fq a raw):=⟨h.1,(ui h.2.1).1,h.2.2⟩
theorem yn (a:nC) (raw:List UInt8) (ha:gz a) (hraw:raw.length≤140737488355328):aD Tryz.prog G 60 [appM a, .sl raw.length (u8s raw)] (jO (bM a raw)):=by
 have c1:=O8 (G:=G) a.chk a.price raw ha.2.1 ha.2.2.2 hraw;unfold bM;obtain⟨⟨a1,b1⟩,⟨a2,b2⟩,⟨a3,b3⟩,op,price⟩:=a;dsimp only at *;generalize oh ⟨a2,b2⟩ price raw=y at *;obtain⟨⟨nacs,ncol⟩,⟨ec,esn,esq,egs,epr⟩⟩:=y;unfold appM lgM jO at *;dsimp only at *;refine bf seat Tryz.func60 17 ?_;refine ad ?_;refine kX (c1) ?_;refine aw ?_;rfl
theorem IE (a:nC) (raw:List UInt8) (ha:gz a) (hraw:raw.length≤140737488355328):aD Tryz.prog G 66 [appM a, .sl raw.length (u8s raw)] (appM (fq a raw)):=by
 have c1:=O8 (G:=G) a.chk a.price raw ha.2.1 ha.2.2.2 hraw;unfold fq;obtain⟨⟨a1,b1⟩,⟨a2,b2⟩,⟨a3,b3⟩,op,price⟩:=a;dsimp only at *;generalize oh ⟨a2,b2⟩ price raw=y at *;obtain⟨⟨nacs,ncol⟩,⟨ec,esn,esq,egs,epr⟩⟩:=y;unfold appM lgM jO at *;dsimp only at *;refine bf seat Tryz.func66 16 ?_;refine ad ?_;refine kX (c1) ?_;refine aw ?_;rfl
end
section
variable {G:GS}
attribute [local irreducible] aj aC aG aM aQ vC aY aA
theorem uk (x:List UInt8) (hx:x.length < 536870912):aL Tryz.prog G 106 [.sl x.length (u8s x)] [] 0 (.sl x.length (u8s x)) [] 0:=by
 refine bU seat Tryz.func106 8 ?_;refine ad ?_;refine wz rfl rfl (fun b hb=>?_);cases b with
 | true=>
  have h0:=hb rfl;have h1:x= [] :=List.length_eq_zero_iff.1 h0;subst h1;refine ad ?_;refine aw ?_;exact en [_]
 | false=>
  refine ad ?_;refine bc rfl rfl (by intro R hR;refine dZ hR ?_;refine a₀ ((dh x)) ?_;refine a₀ ⟨rfl,aF (by kernel_rfl) pf⟩ ?_;refine⟨u8s x,sv (by show [] ++ u8s x=_;rw [b₂]),x.length,sv pf,?_⟩;exact hR) rfl ?_;refine ad ?_;refine⟨[_],[],[(5,x.length)],rfl,rfl,?_,rfl,⟨?_,trivial⟩,?_⟩
  ·exact⟨by show x.length≤(u8s x).length;simp [u8s],trivial⟩
  ·exact rv
  ·exact mm
theorem CG (n:Nat) (hn:bl n):aD Tryz.prog G 95 [.int .u64 n] (.int .i64 (bZ n).length):=by
 unfold bl at hn;have hlen:=(dv hn).2;generalize hr:(bZ n).length=R at *;refine bf seat Tryz.func95 11 ?_;refine ad ?_;refine ar (Nat×Nat) (fun x=> [(3, .int .i64 x.2),(0, .int .u64 x.1)]) (fun _=> []) 0 (fun x=>x.1 < 18446744073709551616∧x.2 + (bZ x.1).length=R + 1) (fun x=>x.1) (n,1) ⟨hn,dm⟩ (by dsimp only;exact(vm [] [])) ?_;rintro⟨m,s⟩ ⟨hm,hs⟩;try dsimp only
 dsimp only at hm hs;have e1:=aX.mk (Ij m);refine ad ?_;refine ae rfl ?_ ?_ <;> intro h
 ·have hge:=ot h;rw [sk om,c₂] at hs;refine ad ?_;exact⟨(m / 128,s + 1),⟨dm,dm⟩,dm,(by dsimp only;exact(vm [] []))⟩
 ·have hge:=oF h;rw [na om,a₉] at hs;have:s=R:=om;subst this;refine ad ?_;refine aw ?_;rfl
theorem um (n:Nat) (hn:n < 4611686018427387904):aD Tryz.prog G 50 [.int .i64 n] (.int .i64 (iE n)):=by
 have c1:=CG (G:=G) n (by unfold bl;omega);have h2:=(dv (n:=n) om).2;unfold iE;generalize (bZ n).length=v at *;have hw:=aX.mk (show IntKind.u64.wrap (n:Int)=(n:Int) from bu _ om om);refine bf seat Tryz.func50 11 ?_;refine ad ?_;(iterate 6 ((all_goals(refine ad ?_));(all_goals(first | (refine ai rfl (fun _ h=>h) rfl (aa (c1)) rfl rfl ?_) | ((first | refine ah rfl rfl ?_ rfl ?_ | refine ae rfl ?_ ?_);all_goals(intro h;(try simp only [pl] at h);(try (exfalso;omega)))) | skip))));all_goals(refine aw ?_)
 all_goals(refine congrArg (MV.int .i64) ?_;omega)
end
section
variable {G:GS}
attribute [local irreducible] aj aC aG aM aQ vC aY aA
abbrev CH (x:Int):Prop:= -9223372036854775808≤x∧x < 9223372036854775808
end
section
variable {G:GS}
attribute [local irreducible] aj aC aG aM aQ vC aY aA
theorem AJ (T:bh) (f:Nat) (e:TypeId) (he:bh.find T e=some (.int .u8)): ∀k:List UInt8,(u8s k).all (dD T (f + 1) e)=true
 | [] =>rfl
 | a :: k=>by
  show(dD T (f + 1) e (.int .u8 a.toNat) && (u8s k).all (dD T (f + 1) e))=true
  rw [AJ T f e he k]
  simp [dD,he,E4]
theorem En: ∀(a b:List UInt8),a.length=b.length→rT (u8s a) (u8s b)=some (decide (a=b))
 | [],[],_=>rfl
 | x :: a,y :: b,h=>by
  show(match Hl (.int .u8 x.toNat) (.int .u8 y.toNat),rT (u8s a) (u8s b) with | some p,some q=>some (p && q) | _,_=>none)=_
  rw [En a b (by simpa using h)]
  have e:Hl (.int .u8 x.toNat) (.int .u8 y.toNat)=some (decide (x=y)):=by
   show some (decide ((x.toNat:Int)=(y.toNat:Int)))=_
   have:((x.toNat:Int)=(y.toNat:Int))↔x=y:=by rw [Int.ofNat_inj,UInt8.toNat_inj]
   simp [this]
  rw [e]
  simp
 | [],_ :: _,h=>by simp at h
 | _ :: _,[],h=>by simp at h
theorem qy {a b:List UInt8} (h:a.length=b.length):Hl (keyM a) (keyM b)=some (decide (a=b)):=En a b h
theorem wJ (f:Nat) (k:List UInt8):dD tab (f + 2) 55 (keyM k)=true:=by
 have h1:bh.find tab 55=some (.arr 32 5 1):=rfl;have h2:=AJ tab f 5 rfl k;unfold keyM;rw [dD.eq_def];simp only [h1];rw [h2];rfl
theorem eqT_key:OF Tryz.prog tab 55=true:=by kernel_rfl
theorem ig (a b:List UInt8):OF Tryz.prog tab 55=true∧dD tab 9 55 (keyM a)=true∧dD tab 9 55 (keyM b)=true:=⟨eqT_key,wJ 7 a,wJ 7 b⟩
theorem nL (f:Nat) (a:Int):dD tab (f + 1) 3 (.int .i64 a)=true:=by
 have h1:bh.find tab 3=some (.int .i64):=rfl;rw [dD.eq_def];simp only [h1];rfl
end
section
variable {G:GS}
theorem yp (x n:Int) (hn:0 < n) (hn2:n < 9223372036854775808):aD Tryz.prog G 31 [.int .i64 x, .int .i64 n] (.int .i64 (x % n)):=by
 have hmod:=Lm x n hn;have h1: -9223372036854775808≤x.tmod n + n∧x.tmod n + n < 9223372036854775808∨¬ x.tmod n < 0:=by
  have:=Int.lt_tmod_of_pos x hn;omega
 have hne:=bJ.mk (show n≠0 by omega);refine bf seat Tryz.func31 14 ?_;refine ad ?_;refine ae rfl ?_ ?_ <;> intro h
 ·have hx:=ot h;rw [if_pos hx] at hmod;refine ad ?_;refine aw ?_;exact congrArg (MV.int .i64) hmod
 ·have hx:=oF h;rw [if_neg hx] at hmod;refine ad ?_;refine aw ?_;exact congrArg (MV.int .i64) hmod
def mC (L:List Int) (N:Nat) (n:Int):Int:=(L[N]?.getD 0) % n
def ek (L:List Int) (N:Nat):VM:= [(0,⟨75,2,false,0,[.st [bS L, .int .i64 N]]⟩)]
abbrev numP:MV:= .ptr 0 2 0 0 []
theorem IF (L:List Int) (N:Nat) (n:Int) (hn:0 < n) (hn2:n < 9223372036854775808) (hN:N < 4611686018427387904) :
  aL Tryz.prog G 24 [numP, .int .i64 n] (ek L N) 1 (.int .i64 (mC L N n)) (ek L (N + 1)) 1:=by
 have cp:=yp (G:=G) (L[N]?.getD 0) n hn hn2
 unfold mC
 unfold ek
 generalize hx:(L[N]?.getD 0)=x at *
 by_cases hlt:N < L.length
 ·have hel:=al.mk (show db (L.map (MV.int .i64)) L.length (N:Int)=some (.int .i64 x) by rw [po hlt,← hx];simp [hlt])
  unfold bS
  refine bU seat Tryz.func24 36 ?_
  refine ad ?_
  refine av [ag 0,ag 1,ag 2,ag 3,ag 4,ag 5,ag 6,ag 7,ag 8,ag 9] ?_
  refine ad ?_
  refine ae rfl ?_ ?_ <;> intro h
  ·refine ad ?_
   refine av [ag 0,ag 1,ag 2,ag 3,ag 4,ag 5,ag 6,ag 7,ag 8,ag 9,ag 10] ?_
   refine ad ?_
   refine bL (cp) ?_
   exact en [_]
  ·exact absurd (oF h) om
 ·have hx0:x=0:=by rw [← hx];simp [hlt]
  subst hx0
  unfold bS
  refine bU seat Tryz.func24 36 ?_
  refine ad ?_
  refine av [ag 0,ag 1,ag 2,ag 3,ag 4,ag 5,ag 6,ag 7,ag 8,ag 9] ?_
  refine ad ?_
  refine ae rfl ?_ ?_ <;> intro h
  ·exact absurd (ot h) om
  ·refine ad ?_
   refine bL (cp) ?_
   exact en [_]
end
section
def CI (Pg:Program) (G:GS) (f:FuncId) (args:List MV) (P:MV→Prop):Prop:=vJ Pg G f args [] 0 fun r M n=>(P r∧dR r=true)∧M= [] ∧n=0
def CJ (G:GS) (L:List Int) (f:FuncId) (args:List MV) (k:Nat) (P:MV→Nat→Prop):Prop:=vJ Tryz.prog G f args (ek L k) 1 fun r M n=> ∃k',(P r k'∧dR r=true)∧M=ek L k'∧n=1
section
variable {Pg:Program} {T:bh} {N:Nat} {ents:List FuncId} {G:GS} {ops:Array Oper} {d:Tmp} {ty:TypeId} {pos:String} {after:Array Edge} {g:Option (Nat×Bool)} {rest:List Oper} {K:VK} {E:VE} {M:VM} {n:Nat}
 {f:Operand} {args:Array Operand} {ats:Array TypeId} {f0:FuncId} {vs:List MV}
theorem IG (hd:Nat.blt d N=true) (h1: ∀R:FuncId×List MV→Prop,R (f0,vs)→(dG E f args.toList).runP R) (h2:ents.contains f0=true) {args':List MV} {P:MV→Prop} (hc:CI Pg G f0 args' P) (bs:List (Nat×Nat)) (hb:DJ M bs)
  (hm:cU.relVs (cA 0 []) (kP M bs) args' vs) (h: ∀r,P r→aj Pg T N ents G ops rest K ((d,r) :: E) (VM.bump M bs) n):aC Pg T N ents G ops ⟨some d, .call ⟨.value f,args,ats⟩,ty,pos,after,g⟩ rest K E M n:=by
 refine kh hd h1 h2 hc [] bs ⟨rfl,hb,rfl,hm,trivial⟩ rfl ?_
 rintro r _ _ ⟨⟨hP,hf⟩,rfl,rfl⟩
 refine⟨rfl,?_⟩
 rw [jj r hf]
 exact h r hP
theorem AK (hd:Nat.blt d N=true) (h1: ∀R:FuncId×List MV→Prop,R (f0,vs)→(dG E f args.toList).runP R) (h2:ents.contains f0=true) {args':List MV} {L:List Int} {k:Nat} {P:MV→Nat→Prop} (hc:CJ G L f0 args' k P) (hg:Pg=Tryz.prog) (b:Nat) (bs:List (Nat×Nat))
  (hm:eh 0 args' (ek L k) 1 vs M [(0,b)] bs) (h3:iy M [(0,b)] =true) (h: ∀r k',P r k'→aj Pg T N ents G ops rest K ((d,r) :: E) (jL (rr n [(0,b)]) (ek L k') ++ iM (VM.bump M bs) [(0,b)]) (n + 1)):aC Pg T N ents G ops ⟨some d, .call ⟨.value f,args,ats⟩,ty,pos,after,g⟩ rest K E M n:=by
 subst hg
 refine kh hd h1 h2 hc [(0,b)] bs hm h3 ?_
 rintro r _ _ ⟨k',⟨hP,hf⟩,rfl,rfl⟩
 refine⟨rfl,?_⟩
 rw [jj r hf]
 exact h r k' hP
end
theorem cQ {G:GS} (L:List Int) (k n:Nat) (hn:0 < n) (hn2:n < 4611686018427387904) (hk:k < 4611686018427387904): ∃x:Nat,x < n∧aL Tryz.prog G 24 [numP, .int .i64 (n:Int)] (ek L k) 1 (.int .i64 (x:Int)) (ek L (k + 1)) 1:=by
 have h1:=d₂ (L[k]?.getD 0) (show(n:Int)≠0 by omega);have h2:=c₇ (L[k]?.getD 0) (show(0:Int) < n by omega);refine⟨(mC L k n).toNat,by unfold mC;omega,?_⟩;rw [show (((mC L k n).toNat:Nat):Int)=mC L k n by unfold mC;omega];exact IF L k n om om hk
end
section
variable {G:GS}
attribute [local irreducible] aj aC aG aM aQ vC aY aA
structure Ent where
 key:List UInt8
 raw:List UInt8
 sender:List UInt8
 seq:Int
 gas:Int
 prio:Int
 height:Int
 time:Int
 order:Int
 peers:List Int
def au (e:Ent):MV:= .st [keyM e.key, .sl e.raw.length (u8s e.raw), .str e.sender, .int .u64 e.seq, .int .u64 e.gas, .int .u64 e.prio, .int .i64 e.height, .int .i64 e.time, .int .i64 e.order,bS e.peers]
theorem dS {l:List Ent} {k:Nat} (hk:k < l.length):db (l.map au) l.length (k:Int)=some (au l[k]):=fK hk (by simp [hk])
def bytesS (l:List Ent):Nat:=(l.map fun e=>e.raw.length).sum
theorem gk (l:List Ent) {k:Nat} (hk:k < l.length):bytesS (l.take (k + 1))=bytesS (l.take k) + l[k].raw.length:=by
 unfold bytesS;rw [a₃ hk,a₂,d₃];simp
theorem ng (l:List Ent) (B:Nat) (hok: ∀e∈l,e.raw.length≤B) (k:Nat):bytesS (l.take k)≤B * k:=by
 induction k with
 | zero=>simp [bytesS]
 | succ k ih=>
  rcases Nat.lt_or_ge k l.length with h | h
  ·rw [gk l h,Nat.mul_succ];have:=hok _ (b₀ h);omega
  ·rw [b₆ om];rw [b₆ h] at ih;rw [Nat.mul_succ];omega
theorem Eo (l:List Ent) (hl:l.length < 1000000) (hok: ∀e∈l,e.raw.length≤1000000):aD Tryz.prog G 29 [.sl l.length (l.map au)] (.int .i64 (bytesS l)):=by
 refine bf seat Tryz.func29 19 ?_;refine ad ?_;refine ar Nat (fun k=> [(8, .int .i64 k),(7, .int .i64 l.length),(6, .sl l.length (l.map au)),(3, .int .i64 (bytesS (l.take k)))]) (fun _=> []) 0 (fun k=>k≤l.length) (fun k=>l.length - k) 0 (a₆ _) (vm [] []) ?_;intro k hk;try dsimp only
 refine ad ?_;refine ae rfl ?_ ?_ <;> intro h
 ·have hk':k < l.length:=by have:=ot h;omega
  have hke:=hok _ (b₀ hk');have hb:=ng l 1000000 hok k;have hs:=gk l hk';have hel:=dS hk';generalize l[k] =e at *;generalize hv:bytesS (l.take k)=v at *;have hel:=al.mk hel;refine ad ?_;exact⟨k + 1,by show k + 1≤l.length;omega,by show l.length - (k + 1) < l.length - k;omega,(by dsimp only;rw [hs];exact(vm [] []))⟩
 ·have hk':k=l.length:=by have:=oF h;omega
  subst hk';rw [b₇];refine ad ?_;refine aw ?_;rfl
theorem AM {c:List Ent} {k:Nat} {e:Ent} (h:c[k]? =some e):bK (c.map au) (0 + k)=some (au e):=by rw [bF,Nat.zero_add,List.getElem?_map,h];rfl
def eC (x y:Ent):Bool:=decide (x.prio < y.prio∨(x.prio=y.prio∧y.order < x.order))
def oi (e:Ent):List Ent→List Ent
 | [] => [e]
 | y :: l=>bif eC y e then y :: oi e l else e :: y :: l
def Gd:List Ent→List Ent
 | [] => []
 | e :: l=>oi e (Gd l)
def aB (l:List Ent):List Ent:=Gd l.reverse
def gA (c b s t m:Int):Bool:=decide (c < t∧0≤m∧b + max s 0≤m)
theorem wK (e:Ent): ∀l,(oi e l).Perm (e :: l)
 | [] => .refl _
 | y :: l=>by
  unfold oi
  cases eC y e with
  | true=>exact ((wK e l).cons y).trans (.swap e y l)
  | false=>exact .refl _
theorem wL: ∀l,(Gd l).Perm l
 | [] => .refl _
 | e :: l=>(wK e (Gd l)).trans ((wL l).cons e)
theorem js (l:List Ent):(aB l).Perm l:=(wL _).trans (List.reverse_perm l)
theorem lu {a b:List Ent} (h:a.Perm b):bytesS a=bytesS b:=by
 unfold bytesS
 induction h with
 | nil=>rfl
 | cons x _ ih=>simp [ih]
 | swap x y l=>simp;omega
 | trans _ _ h1 h2=>exact h1.trans h2
def selG (p s t m:Int):List Ent→Int→Int→List Ent×Int×Int
 | [],c,b=>([],c,b)
 | e :: l,c,b=>match gA c b s t m || decide (p≤e.prio) with
  | true=>([],c,b)
  | false=>match selG p s t m l (c - 1) (b - e.raw.length) with
   | (v,c',b')=>(e :: v,c',b')
def cK (p s t m:Int) (l:List Ent):List (List UInt8)×Bool:=match selG p s t m (aB l) l.length (bytesS l) with
 | (v,c,b)=>match gA c b s t m with
  | true=>(v.map (·.key),true)
  | false=>([],false)
theorem uo {O:List Ent} {n k:Nat} (hn:O.length=n) (hk:k < n):db (O.map au) n (k:Int)=some (au (O[k]'om)):=by subst hn;exact dS hk
theorem gC (l:List Ent) (k:Nat):bytesS (l.take k) + bytesS (l.drop k)=bytesS l:=by
 unfold bytesS;rw [← d₃,← a₂,List.take_append_drop]
def NJ (x:List (List UInt8)×Bool):MV:= .tup [.sl x.1.length (x.1.map keyM), .bool x.2]
def IH (p s t m:Int) (O:List Ent) (n B k:Nat):Prop:= ∃v c b,selG p s t m (O.drop k) ((n:Int) - k) ((B:Int) - bytesS (O.take k))=(v,c,b)∧selG p s t m O n B=(O.take k ++ v,c,b)
theorem qz {p s t m:Int} {O:List Ent} {n B k:Nat} (hk:k < O.length) (h:IH p s t m O n B k) (hr:(gA ((n:Int) - k) ((B:Int) - bytesS (O.take k)) s t m || decide (p≤O[k].prio))=false):IH p s t m O n B (k + 1):=by
 obtain⟨v,c,b,h1,h2⟩:=h;rw [a₅ hk,selG,hr] at h1;generalize hg:selG p s t m (O.drop (k + 1)) ((n:Int) - k - 1) ((B:Int) - bytesS (O.take k) - O[k].raw.length)=r at h1;obtain⟨v',c',b'⟩:=r;dsimp only at h1;injection h1 with e1 e2
 injection e2 with e2 e3
 subst e1 e2 e3;refine⟨v',c',b',?_,?_⟩
 ·rw [gk O hk];rw [← hg];congr 1 <;> omega
 ·rw [h2,a₃ hk,List.append_assoc];rfl
theorem jt {p s t m:Int} {O:List Ent} {n B k:Nat} (h:IH p s t m O n B k) (hr:k=O.length∨∃hk:k < O.length,(gA ((n:Int) - k) ((B:Int) - bytesS (O.take k)) s t m || decide (p≤O[k].prio))=true) :
  selG p s t m O n B=(O.take k,(n:Int) - k,(B:Int) - bytesS (O.take k)):=by
 obtain⟨v,c,b,h1,h2⟩:=h
 rcases hr with rfl | ⟨hk,hr⟩
 ·rw [b₃,selG] at h1
  injection h1 with e1 e2
  injection e2 with e2 e3
  subst e1 e2 e3
  rw [h2,d₄]
 ·rw [a₅ hk,selG,hr] at h1
  injection h1 with e1 e2
  injection e2 with e2 e3
  subst e1 e2 e3
  rw [h2,d₄]
theorem Ep (e:Ent): ∀(out:List Ent) (k:Nat),k≤out.length→(∀j (hj:j < out.length),j < k→eC out[j] e=true)→(∀hk:k < out.length,eC out[k] e=false)→oi e out=out.take k ++ e :: out.drop k
 | [],k,_,_,_=>by simp [oi]
 | y :: out,0,_,_,h2=>by
  have:=h2 sm
  unfold oi
  simp at this
  rw [this];rfl
 | y :: out,k + 1,hk,h1,h2=>by
  have h0:=h1 0 sm om
  unfold oi
  simp at h0
  rw [h0]
  have:=Ep e out k (by simpa using hk) (fun j hj hjk=>by have:=h1 (j + 1) (by simpa using hj) om;rwa [c₃] at this) (fun hk=>by have:=h2 (by simpa using hk);rwa [c₃] at this)
  rw [this];rfl
theorem CK (l:List Ent) {i:Nat} (hi:i < l.length):aB (l.take (i + 1))=oi l[i] (aB (l.take i)):=by
 unfold aB;rw [a₃ hi,List.reverse_append];rfl
theorem qA (l:List Ent):(aB l).length=l.length:=(js l).length_eq
theorem II {n k:Nat} {κ:IntKind} (h:k≤n):cI n none (some (.int κ (k:Int)))=some (0,k):=by
 unfold cI;dsimp only;rw [if_pos ⟨om,om⟩];simp
theorem CL {n k:Nat} {κ:IntKind} (h:k≤n):cI n (some (.int κ (k:Int))) none=some (k,n):=by
 unfold cI;dsimp only;rw [if_pos ⟨om,om⟩];simp
theorem fu: ∀(l:List Ent),bH (l.map au) 41=true
 | [] =>rfl
 | _ :: _=>rfl
theorem IJ (l:List Ent) (hl:l.length < 1000000):aL Tryz.prog G 110 [.sl l.length (l.map au)] [] 0 (.sl l.length ((aB l).map au)) [] 0:=by
  rw [show (.sl l.length ((aB l).map au):MV)= .sl (aB l).length ((aB l).map au) by rw [qA]];refine bU seat Tryz.func110 63 ?_;refine ad ?_;refine ar (Nat×List Ent) (fun x=> [(9, .int .i64 x.1),(8, .int .i64 l.length),(7, .sl l.length (l.map au)),(3, .sl x.2.length (x.2.map au))]) (fun _=> []) 0 (fun x=>x.1≤l.length∧x.2=aB (l.take x.1)) (fun x=>l.length - x.1) (0,[]) ⟨a₆ _,rfl⟩ (by dsimp only;exact(vm [] [])) ?_;rintro⟨i,out⟩ ⟨hi,hout⟩;try dsimp only
  dsimp only at hi hout;refine ad ?_;refine ae rfl ?_ ?_ <;> intro h
  · have hi':i < l.length:=by have:=ot h;omega
    have hol:out.length=i:=by rw [hout,qA];simp;omega
    have hnext:=CK l hi';rw [← hout] at hnext;have hel:=dS hi';generalize l[i] =e at *;have hel:=al.mk hel;clear hout;refine ad ?_;refine xU Nat (fun k=> [(6, .int .i64 k),(5, .ptr 0 41 0 0 []),(9, .int .i64 i),(8, .int .i64 l.length),(7, .sl l.length (l.map au)),(3, .sl out.length (out.map au))]) (fun _=> [(0,⟨64,41,false,0,[au e]⟩)]) (fun _=>1) (fun k=>k≤out.length∧oi e out=out.take k ++ e :: out.drop k) (fun JQ hj=>?_) (fun k hIk=>?_)
    · refine ar Nat (fun k=> [(6, .int .i64 k),(5, .ptr 0 41 0 0 []),(9, .int .i64 i),(8, .int .i64 l.length),(7, .sl l.length (l.map au)),(3, .sl out.length (out.map au))]) (fun _=> [(0,⟨64,41,false,0,[au e]⟩)]) 1 (fun k=>k≤out.length∧∀j (hj:j < out.length),j < k→eC out[j] e=true) (fun k=>out.length - k) 0 ⟨a₆ _,fun j hj h=>absurd h (Nat.not_lt_zero _)⟩ (vm [(0,_)] []) ?_;rintro k ⟨hki,hpre⟩;try dsimp only
      have step: ∀hk:k < out.length,eC out[k] e=true→(k + 1≤out.length∧∀j (hj:j < out.length),j < k + 1→eC out[j] e=true):=fun hk hb=>⟨om,fun j hj hjk=>by
        rcases Nat.lt_or_ge j k with h | h
        · exact hpre j hj h
        · have:j=k:=om;subst this;exact hb⟩
      have done:(∀hk:k < out.length,eC out[k] e=false)→k≤out.length∧oi e out=out.take k ++ e :: out.drop k:=fun h=>⟨hki,Ep e out k hki hpre h⟩
      clear hpre;refine ad ?_;refine av [ag 0,ag 1,ag 2,ag 3,ag 4,ag 5,ag 6,ag 7,ag 8,ag 9,ag 10,ag 11,ag 12,ag 13,ag 14,ag 15,ag 16,ag 17,ag 18,ag 19,ag 20,ag 21,ag 22,ag 23,ag 24,ag 25,ag 26,ag 27,ag 28,ag 29,ag 30,ag 31,ag 32,ag 33] ?_;refine ad ?_;refine dY rfl rfl ?_ rfl ?_ <;> intro h
      · have hk:k < out.length:=by have:=ot h;omega
        have hrow:=dS hk;replace step:=step hk;replace done:=fun hb:eC out[k] e=false=>done fun _=>hb
        generalize out[k] =b at *;have hrow:=al.mk hrow;obtain⟨b1,b2,b3,b4,b5,b6,b7,b8,b9,b10⟩:=b;obtain⟨e1,e2,e3,e4,e5,e6,e7,e8,e9,e10⟩:=e;unfold eC at step done;unfold au at hrow ⊢;dsimp only at step done hrow ⊢;refine ad ?_;refine dY rfl rfl ?_ rfl ?_ <;> intro h
        · have hp1:=oF h;refine ad ?_;refine dY rfl rfl ?_ rfl ?_ <;> intro h
          · have hp2:b6=e6:=by simpa using h
            refine ad ?_;refine ae rfl ?_ ?_ <;> intro h
            · have hp3:=ot h;refine ad ?_;exact⟨k + 1,step (decide_eq_true om),by show out.length - (k + 1) < out.length - k;omega,(by dsimp only;exact(vm [(0,_)] []))⟩
            · have hp3:=oF h;refine ad ?_;exact hj.nrm k (done (decide_eq_false om)) (vm [(0,_)] [])
          · have hp2:b6≠e6:=by simpa using h
            refine ad ?_;exact hj.nrm k (done (decide_eq_false om)) (vm [(0,_)] [])
        · have hp1:b6 < e6:=by simpa using h
          refine ad ?_;exact⟨k + 1,step (decide_eq_true om),by show out.length - (k + 1) < out.length - k;omega,(by dsimp only;exact(vm [(0,_)] []))⟩
      · have hk: ¬ k < out.length:=by
          have: ¬ ((k:Int) < out.length):=by simpa using h
          omega
        refine ad ?_;exact hj.nrm k (done fun h=>absurd h hk) (vm [(0,_)] [])
    · obtain⟨hki,hZ⟩:=hIk;generalize oi e out=Z at *;have hZl:Z.length=out.length + 1:=by rw [hZ];simp;omega
      replace hZ:out.take k ++ e :: out.drop k=Z:=hZ.symm;have fb1:=al.mk (mj (n:=out.length) (k:=k) (κ:= .i64) hki);have fb2:=al.mk (gJ (n:=out.length) (k:=k) (κ:= .i64) hki);have fb3:=bJ.mk (fu out);try dsimp only
      refine ad ?_;refine av [ag 0,ag 1,ag 2,ag 3,ag 4,ag 5,ag 6,ag 7,ag 8,ag 9,ag 10,ag 11,ag 12] ?_;refine ad ?_;refine bQ rfl (by intro R hR;refine dZ hR ?_;refine a₀ ((by show bH (cutL _ 0 k) 41=true;rw [cut_take];exact fu _)) ?_;refine a₀ ⟨rfl,aF (by kernel_rfl) pf⟩ ?_;refine⟨(out.take k).map au,sv (by show [] ++ cutL _ 0 k=_;rw [b₂,cut_take]),k,sv pf,?_⟩;exact hR) rfl ?_;refine ad ?_;refine bQ rfl (by intro R hR;refine dZ hR ?_;(refine a₀ (a₈ _) ?_;refine⟨_,rfl,?_⟩;refine a₀ ⟨(by simp <;> omega),aF (by kernel_rfl) pf⟩ ?_;refine⟨(out.take k ++ [e]).map au,sv (by rw [a₂];rfl),k+1,sv pf,?_⟩);exact hR) rfl ?_;refine ad ?_;refine bQ rfl (by intro R hR;refine dZ hR ?_;refine a₀ ((by show bH (cutL _ k out.length) 41=true;rw [eE];exact fu _)) ?_;refine a₀ ⟨(by simp <;> omega),aF (by kernel_rfl) pf⟩ ?_;refine⟨Z.map au,sv (by rw [← hZ];show _ ++ cutL _ k out.length=_;rw [eE];simp),Z.length,sv pf,?_⟩;exact hR) rfl ?_;refine ad ?_;exact⟨(i + 1,Z),⟨dm,hnext.symm⟩,dm,(by dsimp only;exact(vm [] [(12,Z.length)]))⟩
  · have hi':i=l.length:=by have:=oF h;omega
    subst hi';rw [b₇] at hout;subst hout;refine ad ?_;refine aw ?_;exact en [_]
theorem IK (a b m:Int) (ha:0≤a∧a < 4611686018427387904) (hb:0≤b∧b < 9223372036854775808) (hm: -9223372036854775808≤m∧m < 9223372036854775808) :
  aD Tryz.prog G 111 [.int .i64 a, .int .i64 b, .int .i64 m] (.bool (decide (a≤m∧b≤m - a))):=by
 refine bf seat Tryz.func111 17 ?_
 refine ad ?_
 refine ah rfl rfl ?_ rfl ?_ <;> intro h
 ·have h1:a≤m:=by simpa using h
  refine ad ?_
  refine aw ?_
  exact congrArg MV.bool (decide_eq_decide.2 om)
 ·have h1: ¬ a≤m:=by simpa using h
  refine ad ?_
  refine aw ?_
  exact congrArg MV.bool (decide_eq_false om).symm
theorem LK {n k B b:Nat} {s t m:Int} {c:Int} (hc:c=(n:Int) - k) (hb:b≤B):gA c ((B:Int) - b) s t m=decide ((n:Int) + 1 - k≤t∧((B:Int) - b≤m∧max s 0≤m - ((B:Int) - b))):=by
 subst hc;exact decide_eq_decide.2 om
theorem O9 (s:Int):(if (0:Int) > s then 0 else s)=max s 0:=by
 by_cases hs:(0:Int) > s
 ·rw [if_pos hs];omega
 ·rw [if_neg hs];omega
theorem Ge (l:List Ent) (hl:l.length < 1000000) (hok: ∀e∈l,e.raw.length≤1000000) (p s t m:Int) (hs: -9223372036854775808≤s∧s < 9223372036854775808) (hm: -9223372036854775808≤m∧m < 9223372036854775808) :
  aL Tryz.prog G 63 [.sl l.length (l.map au), .int .u64 p, .int .i64 s, .int .i64 t, .int .i64 m] [] 0 (NJ (cK p s t m l)) [] 0:=by
 have hOp:=js l
 have hOl:(aB l).length=l.length:=hOp.length_eq
 have hOb:bytesS (aB l)=bytesS l:=lu hOp
 have hord:=IJ (G:=G) l hl
 have hB:=ng l 1000000 hok l.length
 rw [b₇] at hB
 unfold NJ
 refine bU seat Tryz.func63 68 ?_
 (have fct:=aX.mk (O9 s);refine ad ?_)
 refine bL (Eo l hl hok) ?_
 refine kX (hord) ?_
 refine ar Nat (fun k=> [(27, .int .i64 k),(26, .int .i64 l.length),(25, .sl l.length ((aB l).map au)),(14, .ms 0 32 0 k),(13, .int .i64 ((bytesS l:Int) - bytesS ((aB l).take k))),(12, .int .i64 ((l.length:Int) + 1 - k)),(4, .int .i64 m),(3, .int .i64 t),(2, .int .i64 (max s 0)),(1, .int .u64 p)]) (fun k=> [(0,⟨55,32,true,0,((aB l).take k).map fun e=>keyM e.key⟩)]) 1 (fun k=>k≤l.length∧IH p s t m (aB l) l.length (bytesS l) k) (fun k=>l.length - k) 0 ⟨a₆ _,?_⟩ ?_ ?_
 ·refine⟨(selG p s t m (aB l) l.length (bytesS l)).1,(selG p s t m (aB l) l.length (bytesS l)).2.1,(selG p s t m (aB l) l.length (bytesS l)).2.2,?_,rfl⟩
  simp [bytesS]
 ·try dsimp only
  rw [show ((bytesS l:Int) - bytesS ((aB l).take 0))=bytesS l by simp [bytesS]]
  exact(vm [] [])
 rintro k ⟨hk1,hI⟩
 try dsimp only
 have hbk:bytesS ((aB l).take k)≤bytesS l:=by
  have:=gC (aB l) k
  omega
 have hre:=LK (s:=s) (t:=t) (m:=m) (n:=l.length) (k:=k) rfl hbk
 refine ad ?_
 refine ae rfl ?_ ?_ <;> intro h
 ·have hk':k < l.length:=by have:=ot h;omega
  have hkO:k < (aB l).length:=om
  have hs2:=gk (aB l) hkO
  have hbk2:bytesS ((aB l).take (k + 1))≤bytesS l:=by
   have:=gC (aB l) (k + 1)
   omega
  (have fct:=al.mk (uo hOl hk');refine ad ?_)
  refine ah rfl rfl ?_ rfl ?_ <;> intro h
  ·have h1:=ot h
   refine ad ?_
   refine bL (IK ((bytesS l:Int) - bytesS ((aB l).take k)) (max s 0) m om om hm) ?_
   refine ae rfl ?_ ?_ <;> intro h
   ·have h2:=ot h
    have hroom:=hre.trans (decide_eq_true ⟨h1,h2⟩)
    have hsel:=jt hI (.inr ⟨hkO,by rw [hroom];rfl⟩)
    rw [show cK p s t m l=(((aB l).take k).map (·.key),true) by unfold cK;rw [hsel];simp only [hroom]]
    refine ad ?_
    refine⟨[_,_],[],[(0,k)],rfl,rfl,?_,rfl,⟨?_,?_,trivial⟩,?_⟩
    ·exact⟨by show k≤(((aB l).take k).map fun e=>keyM e.key).length;simp;omega,trivial⟩
    ·exact .inr ⟨rfl,rfl,by simp;omega,by simp;omega,by rw [List.map_map,b₅];exact bV (fun e:Ent=>keyM e.key) _⟩
    ·exact rv
    ·exact mm
   ·have h2:=oF h
    have hroom:=hre.trans (decide_eq_false fun h=>h2 h.2)
    refine ad ?_
    refine ae rfl ?_ ?_ <;> intro h
    ·have hp:=ot h
     have hsel:=jt hI (.inr ⟨hkO,by rw [hroom];simpa using hp⟩)
     rw [show cK p s t m l=([],false) by unfold cK;rw [hsel];simp only [hroom]]
     refine ad ?_
     exact en [_,_]
    ·have hp:=oF h
     have hstep:=qz hkO hI (by rw [hroom];simpa using hp)
     refine ad ?_
     refine bc rfl rfl (by intro R hR;refine dZ hR ?_;(refine a₀ (a₈ _) ?_;refine⟨_,rfl,?_⟩;refine a₀ ⟨(by simp;omega),aF (by kernel_rfl) pf⟩ ?_;refine⟨((aB l).take (k + 1)).map fun e=>keyM e.key,sv (by rw [a₃ hkO,a₂];rfl),k + 1,sv pf,?_⟩);exact hR) rfl ?_
     refine ad ?_
     exact⟨k + 1,⟨om,hstep⟩,by show l.length - (k + 1) < l.length - k;omega,(by dsimp only;exact(vm [(0,_)] []))⟩
  ·have h1: ¬ ((l.length:Int) + 1 - k≤t):=by simpa using h
   have hroom:=hre.trans (decide_eq_false fun h=>h1 h.1)
   refine ad ?_
   refine ae rfl ?_ ?_ <;> intro h
   ·have hp:=ot h
    have hsel:=jt hI (.inr ⟨hkO,by rw [hroom];simpa using hp⟩)
    rw [show cK p s t m l=([],false) by unfold cK;rw [hsel];simp only [hroom]]
    refine ad ?_
    exact en [_,_]
   ·have hp:=oF h
    have hstep:=qz hkO hI (by rw [hroom];simpa using hp)
    refine ad ?_
    refine bc rfl rfl (by intro R hR;refine dZ hR ?_;(refine a₀ (a₈ _) ?_;refine⟨_,rfl,?_⟩;refine a₀ ⟨(by simp;omega),aF (by kernel_rfl) pf⟩ ?_;refine⟨((aB l).take (k + 1)).map fun e=>keyM e.key,sv (by rw [a₃ hkO,a₂];rfl),k + 1,sv pf,?_⟩);exact hR) rfl ?_
    refine ad ?_
    exact⟨k + 1,⟨om,hstep⟩,by show l.length - (k + 1) < l.length - k;omega,(by dsimp only;exact(vm [(0,_)] []))⟩
 ·have hk':k=l.length:=by have:=oF h;omega
  have hsel:=jt hI (.inl om)
  refine ad ?_
  refine ah rfl rfl ?_ rfl ?_ <;> intro h
  ·have h1:=ot h
   refine ad ?_
   refine bL (IK ((bytesS l:Int) - bytesS ((aB l).take k)) (max s 0) m om om hm) ?_
   refine ae rfl ?_ ?_ <;> intro h
   ·have h2:=ot h
    have hroom:=hre.trans (decide_eq_true ⟨h1,h2⟩)
    rw [show cK p s t m l=(((aB l).take k).map (·.key),true) by unfold cK;rw [hsel];simp only [hroom]]
    refine ad ?_
    refine⟨[_,_],[],[(0,k)],rfl,rfl,?_,rfl,⟨?_,?_,trivial⟩,?_⟩
    ·exact⟨by show k≤(((aB l).take k).map fun e=>keyM e.key).length;simp;omega,trivial⟩
    ·exact .inr ⟨rfl,rfl,by simp;omega,by simp;omega,by rw [List.map_map,b₅];exact bV (fun e:Ent=>keyM e.key) _⟩
    ·exact rv
    ·exact mm
   ·have h2:=oF h
    have hroom:=hre.trans (decide_eq_false fun h=>h2 h.2)
    rw [show cK p s t m l=([],false) by unfold cK;rw [hsel];simp only [hroom]]
    refine ad ?_
    exact en [_,_]
  ·have h1: ¬ ((l.length:Int) + 1 - k≤t):=by simpa using h
   have hroom:=hre.trans (decide_eq_false fun h=>h1 h.1)
   rw [show cK p s t m l=([],false) by unfold cK;rw [hsel];simp only [hroom]]
   refine ad ?_
   exact en [_,_]
end
section
variable {G:GS}
attribute [local irreducible] aj aC aG aM aQ vC aY aA
theorem lz {l:List (List UInt8)} {k:Nat} (hk:k < l.length):db (l.map keyM) l.length (k:Int)=some (keyM l[k]):=fK hk (by simp [hk])
def posK (k:List UInt8):List (List UInt8)→Nat→Int
 | [],_=> -1
 | a :: r,i=>if a=k then i else posK k r (i + 1)
theorem ku (k:List UInt8): ∀(l:List (List UInt8)) (i:Nat),posK k l i= -1∨∃j,posK k l i=((i + j:Nat):Int)∧j < l.length
 | [],_=> .inl rfl
 | a :: r,i=>by
  unfold posK
  split
  ·exact .inr ⟨0,rfl,sm⟩
  ·rcases ku k r (i + 1) with h | ⟨j,h,hj⟩
   ·exact .inl h
   ·exact .inr ⟨j + 1,by rw [h];omega,by simp;omega⟩
theorem yq (l:List (List UInt8)) (key:List UInt8) (hl:l.length≤1000000) (hk32:key.length=32) (hs: ∀x∈l,x.length=32):aD Tryz.prog G 70 [.sl l.length (l.map keyM),keyM key] (.int .i64 (posK key l 0)):=by
 generalize hr:posK key l 0=R;refine bf seat Tryz.func70 19 ?_;refine ad ?_;refine ar Nat (fun k=> [(9, .int .i64 k),(8, .int .i64 l.length),(7, .sl l.length (l.map keyM)),(3, .ptr 0 32 0 0 [])]) (fun _=> [(0,⟨55,32,false,0,[keyM key]⟩)]) 1 (fun k=>k≤l.length∧posK key (l.drop k) k=R) (fun k=>l.length - k) 0 ⟨a₆ _,by rw [c₁];exact hr⟩ (vm [(0,_)] []) ?_;rintro k ⟨hk,hR⟩;try dsimp only
 refine ad ?_;refine ae rfl ?_ ?_ <;> intro h
 ·have hk':k < l.length:=by have:=ot h;omega
  have hel:=lz hk';have h32:=hs _ (b₀ hk');rw [a₅ hk',posK] at hR;generalize l[k] =a at *;have hel:=al.mk hel;have q1:=al.mk (qy (a:=a) (b:=key) (by rw [h32,hk32]));have s1:=bJ.mk (ig a key);by_cases he:a=key
  ·rw [if_pos he] at hR;rw [decide_eq_true he] at q1;subst hR;refine ad ?_;refine aw ?_;rfl
  ·rw [if_neg he] at hR;rw [decide_eq_false he] at q1;refine ad ?_;exact⟨k + 1,⟨by show k + 1≤l.length;omega,hR⟩,by show l.length - (k + 1) < l.length - k;omega,(by dsimp only;exact(vm [(0,_)] []))⟩
 ·have hk':k=l.length:=by have:=oF h;omega
  subst hk';rw [b₃,posK] at hR;subst hR;refine ad ?_;refine aw ?_;rfl
theorem Er (l:List (List UInt8)) (key:List UInt8) (hl:l.length≤1000000) (hk32:key.length=32) (hs: ∀x∈l,x.length=32):aD Tryz.prog G 26 [.sl l.length (l.map keyM),keyM key] (.bool (decide (0≤posK key l 0))):=by
 have c1:=yq (G:=G) l key hl hk32 hs;generalize posK key l 0=p at *;refine bf seat Tryz.func26 9 ?_;refine ad ?_;refine bL (c1) ?_;refine aw ?_;rfl
def gD (k:List UInt8) (l:List (List UInt8)):List (List UInt8):=if posK k l 0 < 0 then l else l.take (posK k l 0).toNat ++ l.drop ((posK k l 0).toNat + 1)
def rG (k:List UInt8) (l:List (List UInt8)) (size:Int):List (List UInt8):=if (size:Int) < (l.length:Int) + 1 then(l ++ [k]).drop 1 else l ++ [k]
def gL (k:List UInt8) (l:List (List UInt8)) (size:Int):List (List UInt8):=if 0≤posK k l 0 then l.take (posK k l 0).toNat ++ l.drop ((posK k l 0).toNat + 1) ++ [k] else rG k l (max 0 (min size 1024))
def eF (l:List (List UInt8)):Prop:= ∀x∈l,x.length=32
theorem IL {k:List UInt8} {l:List (List UInt8)} (h:eF l):eF (gD k l)∧(gD k l).length≤l.length:=by
 unfold gD;split
 ·exact⟨h,a₈ _⟩
 ·refine⟨fun x hx=>(b₈.1 hx).elim (fun hx=>h x (c₅ hx)) (fun hx=>h x (b₉ hx)),?_⟩;rw [a₄,b₄,a₇];omega
theorem IM {k:List UInt8} {l:List (List UInt8)} {size:Int} (hk:k.length=32) (h:eF l):eF (gL k l size)∧(gL k l size).length≤max l.length 1024:=by
 unfold gL;split
 ·rename_i hp;rcases ku k l 0 with h0 | ⟨j,hj,hlt⟩
  ·omega
  refine⟨fun x hx=>(b₈.1 hx).elim (fun hx=>(b₈.1 hx).elim (fun hx=>h x (c₅ hx)) (fun hx=>h x (b₉ hx))) (fun hx=>by rw [c₈.1 hx];exact hk),?_⟩;rw [a₄,a₄,b₄,a₇,a₉];omega
 ·unfold rG;have ha:eF (l ++ [k]):=fun x hx=>(b₈.1 hx).elim (h x) (fun hx=>by rw [c₈.1 hx];exact hk)
  split
  ·refine⟨fun x hx=>ha x (b₉ hx),?_⟩;rw [a₇,a₄,a₉];omega
  ·refine⟨ha,?_⟩;rw [a₄,a₉];omega
theorem eI: ∀(l:List (List UInt8)),bH (l.map keyM) 32=true
 | [] =>rfl
 | _ :: _=>rfl
theorem Gf (l:List Ent) (j:Nat) (hj:j < l.length) (hl:l.length≤1000000):aL Tryz.prog G 112 [.sl l.length (l.map au), .int .i64 j] [] 0 (.sl (l.take j ++ l.drop (j + 1)).length ((l.take j ++ l.drop (j + 1)).map au)) [] 0:=by
 have hlen:(l.take j ++ l.drop (j + 1)).length=l.length - 1:=by rw [a₄,b₄,a₇];omega
 have fb1:=al.mk (mj (n:=l.length) (k:=j) (κ:= .i64) om);have fb2:=al.mk (show cI l.length (some (.int .i64 ((j:Int) + 1))) none=some (j + 1,l.length) from gJ (n:=l.length) (k:=j + 1) (κ:= .i64) om);have fb3:=bJ.mk (fu l);refine bU seat Tryz.func112 15 ?_;refine ad ?_;refine av [ag 0,ag 1,ag 2,ag 3,ag 4,ag 5,ag 6,ag 7,ag 8,ag 9,ag 10] ?_;refine ad ?_;refine bQ rfl (by intro R hR;refine dZ hR ?_;refine a₀ ((by show bH (cutL _ 0 j) 41=true;rw [cut_take];exact fu _)) ?_;refine a₀ ⟨rfl,aF (by kernel_rfl) pf⟩ ?_;refine⟨(l.take j).map au,sv (by show [] ++ cutL _ 0 j=_;rw [b₂,cut_take]),j,sv pf,?_⟩;exact hR) rfl ?_;refine ad ?_;refine bQ rfl (by intro R hR;refine dZ hR ?_;refine a₀ ((by show bH (cutL _ (j + 1) l.length) 41=true;rw [eE];exact fu _)) ?_;refine a₀ ⟨(by simp <;> omega),aF (by kernel_rfl) pf⟩ ?_;refine⟨(l.take j ++ l.drop (j + 1)).map au,sv (by show _ ++ cutL _ (j + 1) l.length=_;rw [eE,a₂]),(l.length - 1),sv pf,?_⟩;exact hR) rfl ?_;refine ad ?_;generalize l.take j ++ l.drop (j + 1)=Z at *;rw [← hlen];refine⟨[_],[],[(10,Z.length)],rfl,rfl,?_,rfl,⟨?_,trivial⟩,?_⟩
 ·exact⟨by show Z.length≤(Z.map au).length;simp,trivial⟩
 ·exact .inr ⟨rfl,rfl,rfl,c₀ (b₁ _),bV au Z⟩
 ·exact mm
theorem NK (l:List (List UInt8)) (key:List UInt8) (hl:l.length≤1000000) (hk32:key.length=32) (hs:eF l):aL Tryz.prog G 35 [.sl l.length (l.map keyM),keyM key] [] 0 (.tup [.sl (gD key l).length ((gD key l).map keyM), .bool (decide (0≤posK key l 0))]) [] 0:=by
 have c1:=yq (G:=G) l key hl hk32 hs;unfold gD;rcases ku key l 0 with h0 | ⟨j,hj,hlt⟩
 ·rw [h0] at c1 ⊢;rw [if_pos om,decide_eq_false om];refine bU seat Tryz.func35 23 ?_;refine ad ?_;(iterate 4 ((all_goals(refine ad ?_));(all_goals(first | (refine ai rfl (fun _ h=>h) rfl (aa (c1)) rfl rfl ?_) | ((first | refine ah rfl rfl ?_ rfl ?_ | refine ae rfl ?_ ?_);all_goals(intro h;(try simp only [pl] at h);(try (exfalso;omega)))) | skip))));all_goals(refine aw ?_)
  exact en [_,_]
 ·rw [hj,b₁] at c1 ⊢;rw [if_neg om,decide_eq_true om,c₉];have hlen:(l.take j ++ l.drop (j + 1)).length=l.length - 1:=by rw [a₄,b₄,a₇];omega
  have fb1:=al.mk (mj (n:=l.length) (k:=j) (κ:= .i64) om);have fb2:=al.mk (show cI l.length (some (.int .i64 ((j:Int) + 1))) none=some (j + 1,l.length) from gJ (n:=l.length) (k:=j + 1) (κ:= .i64) om);have fb3:=bJ.mk (eI l);refine bU seat Tryz.func35 23 ?_;refine ad ?_;(iterate 3 ((all_goals(refine ad ?_));(all_goals(first | (refine ai rfl (fun _ h=>h) rfl (aa (c1)) rfl rfl ?_) | ((first | refine ah rfl rfl ?_ rfl ?_ | refine ae rfl ?_ ?_);all_goals(intro h;(try simp only [pl] at h);(try (exfalso;omega)))) | skip))));refine ad ?_;refine av [ag 0,ag 1,ag 2,ag 3,ag 4,ag 5,ag 6,ag 7,ag 8,ag 9,ag 10,ag 11] ?_;refine ad ?_;refine bQ rfl (by intro R hR;refine dZ hR ?_;refine a₀ ((by show bH (cutL _ 0 j) 32=true;rw [cut_take];exact eI _)) ?_;refine a₀ ⟨rfl,aF (by kernel_rfl) pf⟩ ?_;refine⟨(l.take j).map keyM,sv (by show [] ++ cutL _ 0 j=_;rw [b₂,cut_take]),j,sv pf,?_⟩;exact hR) rfl ?_;refine ad ?_;refine bQ rfl (by intro R hR;refine dZ hR ?_;refine a₀ ((by show bH (cutL _ (j + 1) l.length) 32=true;rw [eE];exact eI _)) ?_;refine a₀ ⟨(by simp <;> omega),aF (by kernel_rfl) pf⟩ ?_;refine⟨(l.take j ++ l.drop (j + 1)).map keyM,sv (by show _ ++ cutL _ (j + 1) l.length=_;rw [eE,a₂]),(l.length - 1),sv pf,?_⟩;exact hR) rfl ?_;refine ad ?_;generalize l.take j ++ l.drop (j + 1)=Z at *;rw [← hlen];refine⟨[_,_],[],[(17,Z.length)],rfl,rfl,?_,rfl,⟨?_,?_,trivial⟩,?_⟩
  ·exact⟨by show Z.length≤(Z.map keyM).length;simp,trivial⟩
  ·exact .inr ⟨rfl,rfl,rfl,c₀ (b₁ _),bV keyM Z⟩
  ·exact rv
  ·exact mm
theorem NL (l:List (List UInt8)) (size:Int) (key:List UInt8) (hl:l.length≤1000000) (hsz:CH size) (hk32:key.length=32) (hs:eF l):aL Tryz.prog G 33 [.sl l.length (l.map keyM), .int .i64 size,keyM key] [] 0 (.tup [.sl (gL key l size).length ((gL key l size).map keyM), .bool (decide (posK key l 0 < 0))]) [] 0:=by
 have c1:=yq (G:=G) l key hl hk32 hs;unfold gL;have hmm:(if (if (1024:Int) < size then 1024 else size) > 0 then(if (1024:Int) < size then 1024 else size) else 0)=max 0 (min size 1024):=by (repeat' split) <;> omega
 generalize hM:max 0 (min size 1024)=M at *;rcases ku key l 0 with h0 | ⟨j,hj,hlt⟩
 ·rw [h0] at c1 ⊢;rw [if_neg om,decide_eq_true om];unfold rG;have hlk:(l ++ [key]).length=l.length + 1:=sm;have fb1:=al.mk (show cI (l.length + 1) (some (.int .i64 (1:Int))) none=some (1,l.length + 1) from gJ (n:=l.length + 1) (k:=1) (κ:= .i64) om);refine bU seat Tryz.func33 44 ?_;refine ad ?_;(iterate 3 ((all_goals(refine ad ?_));(all_goals(first | (refine ai rfl (fun _ h=>h) rfl (aa (c1)) rfl rfl ?_) | ((first | refine ah rfl rfl ?_ rfl ?_ | refine ae rfl ?_ ?_);all_goals(intro h;(try simp only [pl] at h);(try (exfalso;omega)))) | skip))));refine ad ?_;refine av [ag 0,ag 1,ag 2,ag 3,ag 4,ag 5,ag 6] ?_;refine ad ?_;refine bQ rfl (by intro R hR;refine dZ hR ?_;refine a₀ ((eI l)) ?_;refine a₀ ⟨rfl,aF (by kernel_rfl) pf⟩ ?_;refine⟨l.map keyM,sv (by show [] ++ l.map keyM=_;rw [b₂]),l.length,sv pf,?_⟩;exact hR) rfl ?_;refine ad ?_;refine bQ rfl (by intro R hR;refine dZ hR ?_;(refine a₀ (a₈ _) ?_;refine⟨_,rfl,?_⟩;refine a₀ ⟨sm,aF (by kernel_rfl) pf⟩ ?_;refine⟨(l ++ [key]).map keyM,sv (by rw [a₂];rfl),l.length + 1,sv pf,?_⟩);exact hR) rfl ?_;refine ad ?_;by_cases hc:M < (l.length:Int) + 1
  ·rw [if_pos hc];refine ae rfl ?_ ?_ <;> intro h
   rotate_left
   ·exfalso;have h':=oF h;(repeat' split at h') <;> omega
   refine ad ?_;have hdl:((l ++ [key]).drop 1).length=l.length:=by rw [a₇,hlk];omega
   rw [hdl];refine⟨[_,_],[],[(17,l.length + 1)],rfl,rfl,?_,rfl,⟨?_,?_,trivial⟩,?_⟩
   ·exact⟨by show l.length + 1≤((l ++ [key]).map keyM).length;rw [b₅,hlk];exact a₈ _,trivial⟩
   ·refine .inr ⟨rfl,rfl,om,om,?_⟩
    show cutL ((l ++ [key]).map keyM) 1 (1 + l.length)=((l ++ [key]).drop 1).map keyM
    unfold cutL;rw [← List.map_drop];exact b₆ (by rw [b₅,hdl];omega)
   ·exact rv
   ·exact mm
  ·rw [if_neg hc];refine ae rfl ?_ ?_ <;> intro h
   ·exfalso;have h':=ot h;(repeat' split at h') <;> omega
   refine ad ?_;generalize l ++ [key] =Z at *;rw [← hlk];refine⟨[_,_],[],[(17,Z.length)],rfl,rfl,?_,rfl,⟨?_,?_,trivial⟩,?_⟩
   ·exact⟨by show Z.length≤(Z.map keyM).length;simp,trivial⟩
   ·exact .inr ⟨rfl,rfl,rfl,c₀ (b₁ _),bV keyM Z⟩
   ·exact rv
   ·exact mm
 ·rw [hj,b₁] at c1 ⊢;rw [if_pos om,decide_eq_false om,c₉];have hlen:(l.take j ++ l.drop (j + 1) ++ [key]).length=l.length:=by rw [a₄,a₄,b₄,a₇,a₉];omega
  have fb1:=al.mk (mj (n:=l.length) (k:=j) (κ:= .i64) om);have fb2:=al.mk (show cI l.length (some (.int .i64 ((j:Int) + 1))) none=some (j + 1,l.length) from gJ (n:=l.length) (k:=j + 1) (κ:= .i64) om);have fb3:=bJ.mk (eI l);refine bU seat Tryz.func33 44 ?_;refine ad ?_;(iterate 3 ((all_goals(refine ad ?_));(all_goals(first | (refine ai rfl (fun _ h=>h) rfl (aa (c1)) rfl rfl ?_) | ((first | refine ah rfl rfl ?_ rfl ?_ | refine ae rfl ?_ ?_);all_goals(intro h;(try simp only [pl] at h);(try (exfalso;omega)))) | skip))));refine ad ?_;refine av [ag 0,ag 1,ag 2,ag 3,ag 4,ag 5,ag 6,ag 7,ag 8,ag 9,ag 10,ag 11,ag 12,ag 13,ag 14] ?_;refine ad ?_;refine bQ rfl (by intro R hR;refine dZ hR ?_;refine a₀ ((by show bH (cutL _ 0 j) 32=true;rw [cut_take];exact eI _)) ?_;refine a₀ ⟨rfl,aF (by kernel_rfl) pf⟩ ?_;refine⟨(l.take j).map keyM,sv (by show [] ++ cutL _ 0 j=_;rw [b₂,cut_take]),j,sv pf,?_⟩;exact hR) rfl ?_;refine ad ?_;refine bQ rfl (by intro R hR;refine dZ hR ?_;refine a₀ ((by show bH (cutL _ (j + 1) l.length) 32=true;rw [eE];exact eI _)) ?_;refine a₀ ⟨(by simp <;> omega),aF (by kernel_rfl) pf⟩ ?_;refine⟨(l.take j ++ l.drop (j + 1)).map keyM,sv (by show _ ++ cutL _ (j + 1) l.length=_;rw [eE,a₂]),(l.length - 1),sv pf,?_⟩;exact hR) rfl ?_;refine ad ?_;refine bQ rfl (by intro R hR;refine dZ hR ?_;(refine a₀ (a₈ _) ?_;refine⟨_,rfl,?_⟩;refine a₀ ⟨(by simp <;> omega),aF (by kernel_rfl) pf⟩ ?_;refine⟨(l.take j ++ l.drop (j + 1) ++ [key]).map keyM,sv (by rw [a₂ (l₁:=l.take j ++ l.drop (j + 1))];rfl),l.length,sv pf,?_⟩);exact hR) rfl ?_;refine ad ?_;generalize l.take j ++ l.drop (j + 1) ++ [key] =Z at *;rw [← hlen];refine⟨[_,_],[],[(24,Z.length)],rfl,rfl,?_,rfl,⟨?_,?_,trivial⟩,?_⟩
  ·exact⟨by show Z.length≤(Z.map keyM).length;simp,trivial⟩
  ·exact .inr ⟨rfl,rfl,rfl,c₀ (b₁ _),bV keyM Z⟩
  ·exact rv
  ·exact mm
end
section
variable {G:GS}
attribute [local irreducible] aj aC aG aM aQ vC aY aA
theorem IN (L:List Int) (N:Nat) (n:Int) (hn:0 < n):0≤mC L N n∧mC L N n < n:=⟨d₂ _ om,c₇ _ hn⟩
def nextN (L:List Int) (N:Nat) (n:Nat):Nat:=(mC L N n).toNat
theorem di (L:List Int) (N n:Nat) (hn:0 < n):mC L N n=(nextN L N n:Int)∧nextN L N n < n:=by
 have:=IN L N n om;unfold nextN;omega
theorem fc (L:List Int) (N n:Nat) (hn:0 < n) (hn2:n < 4611686018427387904) (hN:N < 4611686018427387904) :
  aL Tryz.prog G 24 [numP, .int .i64 (n:Int)] (ek L N) 1 (.int .i64 (nextN L N n:Int)) (ek L (N + 1)) 1:=by
 have:=IF (G:=G) L N n om om hN
 rw [(di L N n hn).1] at this
 exact this
def uq:List (List UInt8):= [[97,110,110],[98,111,98],[101,118,101],[122,111,101],[110,101,119],[120,45,49]]
def pE (L:List Int) (N:Nat):List UInt8:=uq.getD (nextN L N 6) []
theorem IP {k:Nat} (hk:k < 6):bK (uq.map MV.str) (0 + k)=some (.str (uq.getD k [])):=by
 have h6:k=0∨k=1∨k=2∨k=3∨k=4∨k=5:=om;rcases h6 with rfl | rfl | rfl | rfl | rfl | rfl <;> rfl
theorem IQ (L:List Int) (N:Nat) (hN:N < 4611686018427387904):aL Tryz.prog G 91 [numP] (ek L N) 1 (.str (pE L N)) (ek L (N + 1)) 1:=by
 have h6:=(di L N 6 om).2;have cn:=fc (G:=G) L N 6 om om hN;have f1:=al.mk (cB h6);have f2:=al.mk (show bK [MV.str [97,110,110],MV.str [98,111,98],MV.str [101,118,101],MV.str [122,111,101],MV.str [110,101,119],MV.str [120,45,49]] (0 + nextN L N 6)=some (.str (uq.getD (nextN L N 6) [])) from IP h6);unfold pE;generalize nextN L N 6=x at *;generalize uq.getD x [] =nm at *;refine bU seat Tryz.func91 8 ?_;refine ad ?_;refine yc (cn) [(0,0)] ?_;refine ad ?_;exact en [_]
theorem NM (L:List Int):aL Tryz.prog G 13 [bS L] [] 0 numP (ek L 0) 1:=by
 refine bU seat Tryz.func13 6 ?_;refine ad ?_;exact eb [_] [(0,3)] []
theorem NN (k:Nat):IntKind.u8.wrap (k:Int)=((UInt8.ofNat k).toNat:Int):=by
 rw [w8,UInt8.toNat_ofNat'];exact(Int.natCast_emod _ 256).symm
def ur:List (List UInt8):= [[],[],[],[114,101,110,116],[195,169,228,184,150],[97,10,98],[116,104,97,110,107,115,32,102,111,114,32,97,108,108,32,116,104,101,32,102,105,115,104,44,32,97,110,100,32,102,111,114,32,116,104,101,32,99,104,105,112,115]]
def wN (L:List Int) (N:Nat):List UInt8:=ur.getD (nextN L N 7) []
theorem IS {k:Nat} (hk:k < 7):bK (ur.map MV.str) (0 + k)=some (.str (ur.getD k [])):=by
 have h6:k=0∨k=1∨k=2∨k=3∨k=4∨k=5∨k=6:=om;rcases h6 with rfl | rfl | rfl | rfl | rfl | rfl | rfl <;> rfl
theorem wO (L:List Int) (N:Nat):(pE L N).length≤5:=by
 have h:=(di L N 6 om).2;unfold pE;generalize nextN L N 6=k at *;have h6:k=0∨k=1∨k=2∨k=3∨k=4∨k=5:=om;rcases h6 with rfl | rfl | rfl | rfl | rfl | rfl <;> decide
theorem Gg (L:List Int) (N:Nat):(wN L N).length≤50:=by
 have h:=(di L N 7 om).2;unfold wN;generalize nextN L N 7=k at *;have h6:k=0∨k=1∨k=2∨k=3∨k=4∨k=5∨k=6:=om;rcases h6 with rfl | rfl | rfl | rfl | rfl | rfl | rfl <;> decide
theorem NO (L:List Int) (N:Nat) (hN:N < 4611686018427387904):aL Tryz.prog G 92 [numP] (ek L N) 1 (.str (wN L N)) (ek L (N + 1)) 1:=by
 have h7:=(di L N 7 om).2;have cn:=fc (G:=G) L N 7 om om hN;have f1:=al.mk (cB h7);have f2:=al.mk (IS h7);unfold ur at f2;simp only [List.map_cons,List.map_nil] at f2;unfold wN ur;generalize nextN L N 7=x at *;generalize List.getD _ x [] =nm at *;refine bU seat Tryz.func92 8 ?_;refine ad ?_;refine yc (cn) [(0,0)] ?_;refine ad ?_;exact en [_]
end
section
variable {G:GS}
def AN (L:List Int) (N:Nat):jc:=⟨pE L N,if nextN L (N + 2) 12=0 then 9223372036854775808 else 1 + nextN L (N + 1) 60⟩
def Hn (L:List Int) (N j:Nat):List jc:=(List.range j).map fun i=>AN L (N + 3 * i)
theorem IT (L:List Int) (N j:Nat):Hn L N (j + 1)=Hn L N j ++ [AN L (N + 3 * j)] :=by unfold Hn;rw [List.range_succ,List.map_append];rfl
theorem yt (L:List Int) (N j:Nat):(Hn L N j).length=j:=by simp [Hn]
theorem IU (L:List Int) (N:Nat):mo (AN L N):=by
 have h:=(di L (N + 1) 60 om).2;refine⟨Nat.le_trans (wO L N) om,?_⟩;unfold AN bl;dsimp only;split <;> omega
theorem NP (L:List Int) (N j:Nat): ∀x∈Hn L N j,mo x:=by
 intro x hx;obtain⟨i,_,rfl⟩:=List.mem_map.1 hx;exact IU L _
def Es (L:List Int) (N:Nat) (acs:List aW):List UInt8×Nat×Nat:=
 if acs.length=0 then(pE L N,0,N + 3) else if nextN L (N + 3) 8=0 then(pE L N,0,N + 4) else((acs.getD (nextN L (N + 4) acs.length) ac0).name,(acs.getD (nextN L (N + 4) acs.length) ac0).seq,N + 5)
def MR (L:List Int) (N sq:Nat):Nat×Nat:=if nextN L N 6=0 then((sq + nextN L (N + 1) 3) % 18446744073709551616,N + 2) else(sq,N + 1)
def NQ (L:List Int) (N fee:Nat):Nat×Nat:=if nextN L N 9=0 then(nextN L (N + 1) 200,N + 2) else(fee,N + 1)
def Et (L:List Int) (N:Nat) (acs:List aW) (price:Nat):iP×Nat:=
 let a:=Es L N acs
 let b:=MR L a.2.2 a.2.1
 let gas:=150 + nextN L (N + 1) 6 * 40
 let fee:=gas * price % 18446744073709551616 * (1 + nextN L b.2 5) % 18446744073709551616
 let c:=NQ L (b.2 + 1) fee
 let m:=nextN L c.2 3
 (⟨a.1,b.1,gas,c.1,wN L (N + 2),Hn L (c.2 + 1) (m + 1)⟩,c.2 + 1 + 3 * (m + 1))
theorem IV {L:List Int} {N:Nat} {acs:List aW} (h: ∀a∈acs,eX a):(Es L N acs).1.length≤5000∧bl (Es L N acs).2.1∧(Es L N acs).2.2≤N + 5:=by
 have hn:=wO L N;unfold Es;split
 ·exact⟨dm,by simp [bl],dm⟩
 ·split
  ·exact⟨dm,by simp [bl],dm⟩
  ·have ha:eX (acs.getD (nextN L (N + 4) acs.length) ac0):=by
    rw [List.getD_eq_getElem?_getD];cases hx:acs[nextN L (N + 4) acs.length]? with
    | none=>exact ⟨by simp [ac0],by simp [ac0,bl],by simp [ac0,bl]⟩
    | some x=>exact h x (List.mem_of_getElem? hx)
   exact⟨ha.1,ha.2.2,dm⟩
theorem IW {L:List Int} {N sq:Nat} (h:bl sq):bl (MR L N sq).1∧(MR L N sq).2≤N + 2:=by
 unfold MR;split
 ·exact⟨mod_u64,dm⟩
 ·exact⟨h,dm⟩
theorem IX {L:List Int} {N fee:Nat} (h:bl fee):bl (NQ L N fee).1∧(NQ L N fee).2≤N + 2:=by
 have hx:=(di L (N + 1) 200 om).2;unfold NQ;split
 ·exact⟨by unfold bl;dsimp only;omega,dm⟩
 ·exact⟨h,dm⟩
theorem IY {L:List Int} {N:Nat} {acs:List aW} {price:Nat} (h: ∀a∈acs,eX a):gT (Et L N acs price).1∧(Et L N acs price).2≤N + 20:=by
 have h1:=IV (L:=L) (N:=N) h;have h2:=IW (L:=L) (N:=(Es L N acs).2.2) h1.2.1;unfold Et;dsimp only;have h3:=IX (L:=L) (N:=(MR L (Es L N acs).2.2 (Es L N acs).2.1).2 + 1) (fee:=(150 + nextN L (N + 1) 6 * 40) * price % 18446744073709551616 * (1 + nextN L (MR L (Es L N acs).2.2 (Es L N acs).2.1).2 5) % 18446744073709551616) mod_u64;have hg:=(di L (N + 1) 6 om).2;generalize NQ L _ _=c at *;have hm:=(di L c.2 3 om).2;have hml:=Gg L (N + 2);exact⟨⟨h1.1,h2.1,by unfold bl;dsimp only;omega,h3.1,dm,by dsimp only;rw [yt];omega,NP L _ _⟩,om⟩
abbrev PK:MV:= .st [.str [], .int .u64 0, .int .u64 0, .int .u64 0, .str [], .nils]
theorem MS (a b:Nat):IntKind.u64.wrap ((a:Int) * (b:Int))=((a * b % 18446744073709551616:Nat):Int):=by
 rw [wu64,← Int.natCast_mul];omega
theorem Pc (a b:Nat):IntKind.u64.wrap ((a:Int) + (b:Int))=(((a + b) % 18446744073709551616:Nat):Int):=by rw [wu64];omega
theorem NR (L:List Int) (N:Nat) (l:fH) (price:Nat) (hN:N < 4000000000000000000) (hl:iQ l) (hp:bl price):aL Tryz.prog G 48 [numP,lgM l, .int .u64 price] (ek L N) 1 (nA (Et L N l.acs price).1) (ek L (Et L N l.acs price).2) 1:=by
 obtain⟨acs,col⟩:=l;obtain⟨hl1,hl2,hl3⟩:=hl;have k1:=IV (L:=L) (N:=N) hl3;have k2:=IW (L:=L) (N:=(Es L N acs).2.2) k1.2.1;dsimp only at hl1 hl2 hl3 k1;unfold Et;dsimp only;have cn0:=IQ (G:=G) L N om;have cn1:=fc (G:=G) L (N + 1) 6 om om om;have b1:=(di L (N + 1) 6 om).2;have cn2:=NO (G:=G) L (N + 2) om;generalize htx1:Es L N acs=a at *;obtain⟨snd,sq,N1⟩:=a;dsimp only at *;generalize htx2:MR L N1 sq=b at *;obtain⟨sq2,N2⟩:=b;dsimp only at *;generalize hx1:nextN L (N + 1) 6=x1 at *;generalize hmemo:wN L (N + 2)=memo at *;unfold nA lgM;dsimp only;refine bU seat Tryz.func48 96 ?_;refine ad ?_;refine yc (cn0) [(0,0)] ?_;refine ad ?_;refine yc (cn1) [(0,0)] ?_;refine ad ?_;refine yc (cn2) [(0,0)] ?_;refine ad ?_;refine si Unit (fun _=> [(0,numP),(2, .int .u64 price),(6, .ptr 1 6 0 0 []),(7, .ptr 2 6 0 0 [])]) (fun _=>ek L N1 ++ [(1,⟨100,6,false,0,[PK]⟩),(2,⟨100,6,false,0,[.st [.str snd, .int .u64 sq, .int .u64 (150 + (x1:Int) * 40), .int .u64 0, .str memo, .nils]]⟩)]) (fun _=>3) (fun _=>True) (fun JQ hj=>?_) (fun _ _=>?_)
 ·by_cases h0:acs.length=0
  ·unfold Es at htx1;rw [if_pos h0] at htx1;simp only [a₁] at htx1;obtain⟨rfl,rfl,rfl⟩:=htx1;refine ah rfl rfl ?_ rfl ?_ <;> intro h
   ·exact absurd (ot h) om
   refine ad ?_;exact hj.nrm () trivial (vm [(1,_),(2,_)] [])
  ·have cn3:=fc (G:=G) L (N + 3) 8 om om om;unfold Es at htx1;rw [if_neg h0] at htx1;generalize hx3:nextN L (N + 3) 8=x3 at *;refine ah rfl rfl ?_ rfl ?_ <;> intro h
   rotate_left
   ·exact absurd (oF h) om
   refine ad ?_;refine yc (cn3) [(0,0)] ?_;refine ad ?_;by_cases h3:x3=0
   ·rw [if_pos h3] at htx1;simp only [a₁] at htx1;obtain⟨rfl,rfl,rfl⟩:=htx1;refine ae rfl ?_ ?_ <;> intro h
    ·exact absurd (ot h) om
    refine ad ?_;exact hj.nrm () trivial (vm [(1,_),(2,_)] [])
   ·rw [if_neg h3] at htx1;have cn4:=fc (G:=G) L (N + 4) acs.length om om om;have b4:=(di L (N + 4) acs.length om).2;generalize hx4:nextN L (N + 4) acs.length=x4 at *;have hel:=eY b4;have hgd:acs.getD x4 ac0=acs[x4] :=by simp [b4]
    rw [hgd] at htx1;clear hgd;generalize acs[x4] =a at *;obtain⟨an,ab,asq⟩:=a;replace hel:db (acs.map bd) acs.length (x4:Int)=some (.st [.str an, .int .u64 ab, .int .u64 asq]):=hel;have hel:=al.mk hel;simp only [a₁] at htx1;obtain⟨rfl,rfl,rfl⟩:=htx1;refine ae rfl ?_ ?_ <;> intro h
    rotate_left
    ·exact absurd (oF h) om
    refine ad ?_;refine av [ag 0,ag 1,ag 2,ag 3,da 4,ag 5,ag 6,ag 7,ag 8] ?_;refine ad ?_;refine bB rfl (fun _ h=>h) rfl [0] (cn4) [(0,0)] [] ⟨rfl,trivial,rfl,lm,mm⟩ rfl rfl rfl rfl rfl ?_;refine ad ?_;refine av [ag 0,ag 1,ag 2,ag 3,ag 4,ag 5,ag 6,ag 7] ?_;refine ad ?_;exact hj.nrm () trivial (vm [(1,_),(2,_)] [])
 ·have cn5:=fc (G:=G) L N1 6 om om om;have cn6:=fc (G:=G) L (N1 + 1) 3 om om om;have b6:=(di L (N1 + 1) 3 om).2;unfold MR at htx2;generalize hx5:nextN L N1 6=x5 at *;generalize hx6:nextN L (N1 + 1) 3=x6 at *;have ea:=aX.mk (Pc sq x6);refine ad ?_;refine yc (cn5) [(0,0)] ?_;refine ad ?_;refine Cs Unit (fun _=> [(0,numP),(2, .int .u64 price),(6, .ptr 1 6 0 0 []),(7, .ptr 2 6 0 0 [])]) (fun _=>ek L N2 ++ [(1,⟨100,6,false,0,[PK]⟩),(2,⟨100,6,false,0,[.st [.str snd, .int .u64 sq2, .int .u64 (150 + (x1:Int) * 40), .int .u64 0, .str memo, .nils]]⟩)]) (fun _=>3) (fun _=>True) (fun JQ hj=>?_) (fun _ _=>?_)
  ·by_cases h5:x5=0
   ·rw [if_pos h5] at htx2;simp only [a₁] at htx2;obtain⟨rfl,rfl⟩:=htx2;refine ae rfl ?_ ?_ <;> intro h
    rotate_left
    ·exact absurd h (by simp [h5])
    refine ad ?_;refine av [ag 0,ag 1,ag 2,da 3,ag 4,ag 5,ag 6,ag 7] ?_;refine ad ?_;refine bB rfl (fun _ h=>h) rfl [0] (cn6) [(0,0)] [] ⟨rfl,trivial,rfl,lm,mm⟩ rfl rfl rfl rfl rfl ?_;refine ad ?_;exact hj.nrm () trivial (vm [(1,_),(2,_)] [])
   ·rw [if_neg h5] at htx2;simp only [a₁] at htx2;obtain⟨rfl,rfl⟩:=htx2;refine ae rfl ?_ ?_ <;> intro h
    ·exfalso;have:(x5:Int)=0:=by simpa using h
     omega
    refine ad ?_;exact hj.nrm () trivial (vm [(1,_),(2,_)] [])
  ·have k3:=IX (L:=L) (N:=N2 + 1) (fee:=(150 + x1 * 40) * price % 18446744073709551616 * (1 + nextN L N2 5) % 18446744073709551616) mod_u64;have cn7:=fc (G:=G) L N2 5 om om om;have cn8:=fc (G:=G) L (N2 + 1) 9 om om om;have cn9:=fc (G:=G) L (N2 + 1 + 1) 200 om om om;have b7:=(di L N2 5 om).2;have b9:=(di L (N2 + 1 + 1) 200 om).2;generalize hx7:nextN L N2 5=x7 at *;generalize hfee:(150 + x1 * 40) * price % 18446744073709551616=f0 at *;have em1:=aX.mk (show IntKind.u64.wrap ((150 + (x1:Int) * 40) * (price:Int))=(f0:Int) by rw [← hfee,← MS];rfl);have em2:=aX.mk (show IntKind.u64.wrap ((f0:Int) * (1 + (x7:Int)))=((f0 * (1 + x7) % 18446744073709551616:Nat):Int) by rw [← MS];rfl);generalize f0 * (1 + x7) % 18446744073709551616=f1 at *;generalize htx3:NQ L (N2 + 1) f1=c at *;obtain⟨fee,N3⟩:=c;dsimp only at *;unfold NQ at htx3;generalize hx8:nextN L (N2 + 1) 9=x8 at *;generalize hx9:nextN L (N2 + 1 + 1) 200=x9 at *;refine ad ?_;refine av [ag 0,ag 1,ag 2,ag 3,ag 4,da 5,ag 6,ag 7,ag 8,ag 9,ag 10] ?_;refine ad ?_;refine bB rfl (fun _ h=>h) rfl [0] (cn7) [(0,0)] [] ⟨rfl,trivial,rfl,lm,mm⟩ rfl rfl rfl rfl rfl ?_;refine ad ?_;refine yc (cn8) [(0,0)] ?_;refine ad ?_;refine Cs Unit (fun _=> [(0,numP),(6, .ptr 1 6 0 0 []),(7, .ptr 2 6 0 0 [])]) (fun _=>ek L N3 ++ [(1,⟨100,6,false,0,[PK]⟩),(2,⟨100,6,false,0,[.st [.str snd, .int .u64 sq2, .int .u64 (150 + (x1:Int) * 40), .int .u64 fee, .str memo, .nils]]⟩)]) (fun _=>3) (fun _=>True) (fun JQ hj=>?_) (fun _ _=>?_)
   ·by_cases h8:x8=0
    ·rw [if_pos h8] at htx3;simp only [a₁] at htx3;obtain⟨rfl,rfl⟩:=htx3;refine ae rfl ?_ ?_ <;> intro h
     rotate_left
     ·exact absurd h (by simp [h8])
     refine ad ?_;refine yc (cn9) [(0,0)] ?_;refine ad ?_;exact hj.nrm () trivial (vm [(1,_),(2,_)] [])
    ·rw [if_neg h8] at htx3;simp only [a₁] at htx3;obtain⟨rfl,rfl⟩:=htx3;refine ae rfl ?_ ?_ <;> intro h
     ·exfalso;have:(x8:Int)=0:=by simpa using h
      omega
     refine ad ?_;exact hj.nrm () trivial (vm [(1,_),(2,_)] [])
   ·have cna:=fc (G:=G) L N3 3 om om om;have ba:=(di L N3 3 om).2;generalize hxa:nextN L N3 3=m at *;generalize hN4:N3 + 1=N4 at *;have hN4b:N4 < 4300000000000000000:=om;clear em1 em2 hx7 hx8 hx9 cn7 cn8 cn9 k3 k1 k2;refine ad ?_;refine yc (cna) [(0,0)] ?_;refine ad ?_;refine ar Nat (fun j=> [(10, .int .i64 ((m:Int) - j)),(0,numP),(6, .ptr 1 6 0 0 []),(7, .ptr 2 6 0 0 [])]) (fun j=>ek L (N4 + 3 * j) ++ [(1,⟨100,6,false,0,[PK]⟩),(2,⟨100,6,false,0,[.st [.str snd, .int .u64 sq2, .int .u64 (150 + (x1:Int) * 40), .int .u64 fee, .str memo, .ms 3 2 0 j]]⟩),(3,⟨129,2,true,0,(Hn L N4 j).map lG⟩)]) 4 (fun j=>j≤m + 1) (fun j=>m + 1 - j) 0 (a₆ _) (vm [(1,_),(2,_)] []) ?_;intro j hj;try dsimp only
    refine ad ?_;refine ae rfl ?_ ?_ <;> intro h
    ·have hj':j < m + 1:=by have:=ot h;omega
     have d0:=IQ (G:=G) L (N4 + 3 * j) om;have d1:=fc (G:=G) L (N4 + 3 * j + 1) 60 om om om;have d2:=fc (G:=G) L (N4 + 3 * j + 1 + 1) 12 om om om;have hb1:=(di L (N4 + 3 * j + 1) 60 om).2;have hsucc:=IT L N4 j;have hll:((Hn L N4 j).map lG).length=j:=by rw [b₅,yt]
     have hxf:AN L (N4 + 3 * j)=⟨pE L (N4 + 3 * j),if nextN L (N4 + 3 * j + 1 + 1) 12=0 then 9223372036854775808 else 1 + nextN L (N4 + 3 * j + 1) 60⟩:=rfl;have hN5:N4 + 3 * (j + 1)=N4 + 3 * j + 1 + 1 + 1:=om;rw [hxf] at hsucc;generalize nextN L (N4 + 3 * j + 1 + 1) 12=y2 at *;generalize nextN L (N4 + 3 * j + 1) 60=y1 at *;generalize pE L (N4 + 3 * j)=nm at *;clear hxf;refine ad ?_;refine yc (d0) [(0,0)] ?_;refine ad ?_;refine yc (d1) [(0,0)] ?_;refine ad ?_;refine yc (d2) [(0,0)] ?_;refine ad ?_;by_cases hy:y2=0
     ·rw [if_pos hy] at hsucc;refine ae rfl ?_ ?_ <;> intro h
      rotate_left
      ·exact absurd h (by simp [hy])
      refine ad ?_;refine bc rfl rfl (by intro R hR;refine dZ hR ?_;(refine a₀ (a₈ _) ?_;refine⟨_,rfl,?_⟩;refine a₀ ⟨hll,aF (by kernel_rfl) pf⟩ ?_;refine⟨(Hn L N4 (j + 1)).map lG,sv (by rw [hsucc,a₂];rfl),j + 1,sv pf,?_⟩);exact hR) rfl ?_;refine ad ?_;exact⟨j + 1,by show j + 1≤m + 1;omega,by show m + 1 - (j + 1) < m + 1 - j;omega,(by dsimp only;rw [hN5];exact(vm [(1,_),(2,_),(3,_)] []))⟩
     ·rw [if_neg hy] at hsucc;refine ae rfl ?_ ?_ <;> intro h
      ·exfalso;have:(y2:Int)=0:=by simpa using h
       omega
      refine ad ?_;refine bc rfl rfl (by intro R hR;refine dZ hR ?_;(refine a₀ (a₈ _) ?_;refine⟨_,rfl,?_⟩;refine a₀ ⟨hll,aF (by kernel_rfl) pf⟩ ?_;refine⟨(Hn L N4 (j + 1)).map lG,sv (by rw [hsucc,a₂];rfl),j + 1,sv pf,?_⟩);exact hR) rfl ?_;refine ad ?_;exact⟨j + 1,by show j + 1≤m + 1;omega,by show m + 1 - (j + 1) < m + 1 - j;omega,(by dsimp only;rw [hN5];exact(vm [(1,_),(2,_),(3,_)] []))⟩
    ·have hj':j=m + 1:=by have:=oF h;omega
     subst hj';have hll:=yt L N4 (m + 1);generalize Hn L N4 (m + 1)=xs at *;rw [← hll];refine ad ?_;refine aw ?_;refine⟨[_],[],[(3,xs.length)],rfl,rfl,?_,rfl,⟨?_,trivial⟩,?_⟩
     ·exact⟨by show xs.length≤(xs.map lG).length;simp,trivial⟩
     ·exact .inr ⟨_,rfl,⟨⟨rfl,rfl⟩,⟨rfl,rfl⟩,⟨congrArg (MV.int _) om,rfl⟩,⟨rfl,rfl⟩,⟨rfl,rfl⟩, .inr ⟨rfl,rfl,rfl,c₀ (b₁ _),bV lG xs⟩,trivial⟩⟩
     ·exact mm
end
end Go.Proofs.YthdhlcicpcnbhaaGreatDoor
