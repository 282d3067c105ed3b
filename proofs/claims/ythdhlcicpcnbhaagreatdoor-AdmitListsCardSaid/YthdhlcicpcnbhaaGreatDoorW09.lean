/- Parts of a proof, one behind the other: WB, WC, WD, WR, WI, WJ, WK, WE, WL, WN, WO, AL, X6, YA, BW, Y1. -/
import Derived.Test.YthdhlcicpcnbhaaGreatDoorW08
open List renaming getElem?_eq_some_iff → a₀,getElem?_eq_getElem → a₁,pairwise_cons → a₂,drop_eq_getElem_cons → a₃,replicate → a₄,length_take → a₅,mem_cons → a₆,take_succ_eq_append_getElem → a₈,take_append_of_le_length → a₉,getElem_mem → b₀,drop_length → b₁,mem_cons_self → b₃,find?_cons_of_neg → b₄,flatten_cons → b₅,take_append_drop → b₆,drop_zero → b₇,mem_of_getElem? → b₈,mem_cons_of_mem → b₉,mem_of_mem_drop → c₀,length_map → c₁,length_append → c₃,length_eq_zero_iff → c₄,append_assoc → c₅,map_cons → c₆,length_drop → c₇,getElem?_eq_none → c₈,mem_of_mem_take → c₉,length_set → d₀,getElem?_drop → d₃,prefix_append → d₄,filter_append → d₅,foldl_cons → d₉,map_append → e₁,find?_cons_of_pos → e₂,length_singleton → e₃,getElem?_zipWith → e₅,any_cons → e₇,take_succ_cons → e₈,flatten_append → e₉,filter_eq_self → f₀,getElem?_take → f₁,perm_middle → f₂,length_cons → f₃,take_length → f₄,nil_append → f₅,any_append → f₇,length_nil → f₈,append_nil → f₉,take_take → g₀,drop → g₁
open Nat renaming le_refl → a₇,zero_le → b₂,zero_add → c₂,min_def → d₁,not_lt_zero → d₈,min_eq_left → e₀,min → e₄,eq_of_beq_eq_true → e₆
open And renaming intro → d₂
open Prod.mk renaming injEq → d₆
open Bool renaming and_eq_true → d₇
open Int renaming natCast_add → f₆
set_option maxRecDepth 20000
set_option maxHeartbeats 16000000
set_option linter.unusedVariables false
set_option linter.unusedSimpArgs false
namespace Go.Proofs.YthdhlcicpcnbhaaGreatDoor
open Go.RowKit
section
def dC (l:List aW):Prop:=l.Pairwise fun a b=>Op.bytesLess a.name b.name=true
def posA (nm:List UInt8) (l:List aW):Nat:=(l.takeWhile fun a=>Op.bytesLess a.name nm).length
theorem posA_cons (nm:List UInt8) (a:aW) (r:List aW):posA nm (a :: r)=if Op.bytesLess a.name nm=true then posA nm r + 1 else 0:=by
 unfold posA;rw [List.takeWhile_cons];split <;> simp [*]
theorem kZ (nm:List UInt8): ∀l,posA nm l≤l.length
 | [] =>a₇ _
 | a :: r=>by
  rw [posA_cons]
  have:=kZ nm r
  split
  ·simp;omega
  ·exact b₂ _
theorem py {nm:List UInt8}: ∀{l:List aW},dC l→∀{k:Nat} (hk:k < l.length),Op.bytesLess l[k].name nm=true↔k < posA nm l
 | [],_,_,hk=>absurd hk (d₈ _)
 | a :: r,hs,k,hk=>by
  have hs':=a₂.1 hs
  rw [posA_cons]
  cases k with
  | zero=>
   rw [List.getElem_cons_zero]
   split
   ·rename_i h;simp [h]
   ·rename_i h;simp [h]
  | succ k=>
   rw [List.getElem_cons_succ]
   have hk':k < r.length:=by simpa using hk
   have ih:=py (nm:=nm) hs'.2 hk'
   split
   ·rw [ih];omega
   ·rename_i h
    refine⟨fun h2=>absurd (gI (hs'.1 _ (b₀ hk')) h2) h,fun h2=>absurd h2 (d₈ _)⟩
theorem dS {nm:List UInt8}: ∀{l:List aW},dC l→((bd l nm).2=true∧l[posA nm l]? =some (bd l nm).1∧(bd l nm).1.name=nm)∨((bd l nm).2=false∧∀a∈l,a.name≠nm)
 | [],_=> .inr ⟨rfl,sm⟩
 | a :: r,hs=>by
  have hs':=a₂.1 hs
  by_cases h:a.name=nm
  ·have e:bd (a :: r) nm=(a,true):=by unfold bd;rw [e₂ (by simp [h])]
   rw [e,posA_cons,h,less_irr]
   exact .inl ⟨rfl,rfl,by first | rfl | exact h⟩
  ·have e:bd (a :: r) nm=bd r nm:=by unfold bd;rw [b₄ (by simp [h])]
   rw [e,posA_cons]
   rcases dS (nm:=nm) hs'.2 with ⟨h1,h2,h3⟩ | ⟨h1,h2⟩
   ·have hlt:Op.bytesLess a.name nm=true:=by
     have:=hs'.1 _ (b₈ h2)
     rwa [h3] at this
    rw [if_pos hlt]
    exact .inl ⟨h1,by rw [List.getElem?_cons_succ];exact h2,h3⟩
   ·exact .inr ⟨h1,fun x hx=>(a₆.1 hx).elim (fun e=>e▸h) (h2 x)⟩
theorem Ei {nm:List UInt8} {l:List aW} (hs:dC l) (hk:posA nm l < l.length):(jd l[posA nm l].name nm == 0)=(bd l nm).2:=by
 rcases dS (nm:=nm) hs with ⟨h1,h2,h3⟩ | ⟨h1,h2⟩
 ·rw [a₁ hk] at h2;simp only [Option.some.injEq] at h2;rw [h2,h3,cmpN_self,h1];rfl
 ·rw [h1,beq_eq_false_iff_ne];exact fun h=>h2 _ (b₀ hk) (Nr h)
theorem Ej {nm:List UInt8} {l:List aW} (hs:dC l) (hk: ¬ posA nm l < l.length):(bd l nm).2=false:=by
 rcases dS (nm:=nm) hs with ⟨h1,h2,h3⟩ | ⟨h1,h2⟩
 ·rw [c₈ (Nat.le_of_not_lt hk)] at h2;cases h2
 ·exact h1
theorem pz {nm:List UInt8}: ∀{l:List aW} {i:Nat},(∀a∈l,a.name≠nm)→eO nm l i= -1
 | [],_,_=>rfl
 | a :: r,i,h=>by rw [eO,if_neg (h a (b₃ ..))];exact pz fun x hx=>h x (b₉ _ hx)
theorem qv {nm:List UInt8}: ∀{l:List aW} {i:Nat},dC l→(bd l nm).2=true→eO nm l i=((i + posA nm l:Nat):Int)
 | [],_,_,h=>by cases h
 | a :: r,i,hs,h=>by
  have hs':=a₂.1 hs
  rw [eO,posA_cons]
  by_cases e:a.name=nm
  ·rw [if_pos e,e,less_irr];rfl
  ·have e2:bd (a :: r) nm=bd r nm:=by unfold bd;rw [b₄ (by simp [e])]
   rw [e2] at h
   have hlt:Op.bytesLess a.name nm=true:=by
    rcases dS (nm:=nm) hs'.2 with ⟨_,h2,h3⟩ | ⟨h1,_⟩
    ·have:=hs'.1 _ (b₈ h2)
     rwa [h3] at this
    ·rw [h1] at h;cases h
   rw [if_neg e,if_pos hlt,qv (nm:=nm) hs'.2 h]
   congr 1
   omega
theorem mq {a:aW} {l:List aW} (hs:dC l) (h:(bd l a.name).2=true):eP a l=l.set (posA a.name l) a:=by
 unfold eP;rw [qv hs h,c₂,if_pos om];rfl
theorem pC {a:aW} {l:List aW} (hs:dC l) (h:(bd l a.name).2=false):eP a l=l.take (posA a.name l) ++ a :: l.drop (posA a.name l):=by
 unfold eP;have hno: ∀x∈l,x.name≠a.name:=by
  rcases dS (nm:=a.name) hs with ⟨h1,_,_⟩ | ⟨_,h2⟩
  ·rw [h1] at h;cases h
  ·exact h2
 rw [pz hno,if_neg (by decide)];refine xX a l _ (kZ _ _) (fun j hj hlt=>(py hs hj).2 hlt) (fun hk=>?_);cases hb:Op.bytesLess l[posA a.name l].name a.name with
 | false=>rfl
 | true=>exact absurd ((py hs hk).1 hb) (Nat.lt_irrefl _)
theorem Ek {a:aW}: ∀{l:List aW},dC l→(bd l a.name).2=true→dC (l.set (posA a.name l) a)
 | [],_,h=>by cases h
 | b :: r,hs,h=>by
  have hs':=a₂.1 hs
  rw [posA_cons]
  by_cases e:b.name=a.name
  ·rw [e,less_irr,if_neg sm,List.set_cons_zero]
   exact a₂.2 ⟨fun x hx=>by rw [← e];exact hs'.1 x hx,hs'.2⟩
  ·have e2:bd (b :: r) a.name=bd r a.name:=by unfold bd;rw [b₄ (by simp [e])]
   rw [e2] at h
   have hlt:Op.bytesLess b.name a.name=true:=by
    rcases dS (nm:=a.name) hs'.2 with ⟨_,h2,h3⟩ | ⟨h1,_⟩
    ·have:=hs'.1 _ (b₈ h2)
     rwa [h3] at this
    ·rw [h1] at h;cases h
   rw [if_pos hlt,List.set_cons_succ]
   refine a₂.2 ⟨fun x hx=>?_,Ek hs'.2 h⟩
   rcases List.mem_or_eq_of_mem_set hx with hx | rfl
   ·exact hs'.1 x hx
   ·exact hlt
theorem AU {a:aW}: ∀{l:List aW},dC l→(∀x∈l,x.name≠a.name)→dC (o8 a l)
 | [],_,_=>List.pairwise_singleton _ _
 | b :: r,hs,h=>by
  have hs':=a₂.1 hs
  rw [o8]
  split
  ·rename_i hlt
   refine a₂.2 ⟨fun x hx=>?_,AU hs'.2 fun x hx=>h x (b₉ _ hx)⟩
   rcases tV hx with rfl | hx
   ·exact hlt
   ·exact hs'.1 x hx
  ·rename_i hlt
   have hab:Op.bytesLess a.name b.name=true:=uA (by simpa using hlt) (h b (b₃ ..))
   refine a₂.2 ⟨fun x hx=>?_,hs⟩
   rcases a₆.1 hx with rfl | hx
   ·exact hab
   ·exact gI hab (hs'.1 x hx)
theorem pD {a:aW} {l:List aW} (hs:dC l):dC (eP a l):=by
 cases h:(bd l a.name).2 with
 | true=>rw [mq hs h];exact Ek hs h
 | false=>
  have hno: ∀x∈l,x.name≠a.name:=by
   rcases dS (nm:=a.name) hs with ⟨h1,_,_⟩ | ⟨_,h2⟩
   ·rw [h1] at h;cases h
   ·exact h2
  unfold eP;rw [pz hno,if_neg (by decide)];exact AU hs hno
theorem IU: ∀{l:List aW} {q:List UInt8},Co (some q) l=0→(∀a∈l,Op.bytesLess q a.name=true)∧dC l
 | [],_,_=>⟨sm,List.Pairwise.nil⟩
 | a :: r,q,h=>by
  rw [pa] at h
  dsimp only at h
  split at h
  ·exact absurd h (by decide)
  ·split at h
   ·exact absurd h (by decide)
   ·rename_i hne
    split at h
    ·exact absurd h (by decide)
    ·rename_i hn2
     have hqa:Op.bytesLess q a.name=true:=by
      cases hb:Op.bytesLess q a.name with
      | true=>rfl
      | false=>rw [hb] at hn2;exact absurd (by simpa using hn2) hne
     obtain⟨h1,h2⟩:=IU h
     refine⟨fun x hx=>?_,a₂.2 ⟨h1,h2⟩⟩
     rcases a₆.1 hx with rfl | hx
     ·exact hqa
     ·exact gI hqa (h1 x hx)
theorem wH {l:gr} (h:eY l=0):dC l.acs∧l.acs.length≤256:=by
 unfold eY at h;split at h
 ·exact absurd h (by decide)
 ·rename_i hn;split at h
  ·rename_i h1;exact absurd h h1
  ·rename_i h1;have h1:=Decidable.not_not.1 h1;refine⟨?_,om⟩;generalize l.acs=z at h1;cases z with
   | nil=>exact List.Pairwise.nil
   | cons a r=>
    rw [pa] at h1;dsimp only at h1;split at h1
    ·exact absurd h1 (by decide)
    ·exact a₂.2 (IU h1)
end
section
variable {G:GS}
attribute [local irreducible] aj aC aG aL aO vC aU au
theorem AV (l:List aW):bE (l.map aV) 3=true:=by
 cases l with
 | nil=>rfl
 | cons a r=>rfl
theorem Gc (l:List aW) (hl:l.length < 536870912):aH Tryz.prog G 125 [.sl l.length (l.map aV)] [] 0 (.sl l.length (l.map aV)) [] 0:=by
 refine bR seat Tryz.func125 8 ?_;refine ae ?_;refine wj rfl rfl (fun b hb=>?_);cases b with
 | true=>
  have h0:=hb rfl;have h1:l= [] :=c₄.1 h0;subst h1;refine ae ?_;refine av ?_;exact en [_]
 | false=>
  refine ae ?_;refine aY rfl rfl (by intro R hR;refine dM hR ?_;refine d₂ ((AV l)) ?_;refine d₂ ⟨rfl,aE (by kernel_rfl) pf⟩ ?_;refine⟨l.map aV,sv (by show [] ++ l.map aV=_;rw [f₅]),l.length,sv pf,?_⟩;exact hR) rfl ?_;refine ae ?_;refine⟨[_],[],[(5,l.length)],rfl,rfl,?_,rfl,⟨?_,trivial⟩,?_⟩
  ·exact⟨by show l.length≤(l.map aV).length;simp,trivial⟩
  ·exact .inr ⟨rfl,rfl,rfl,Nat.le_of_eq (c₂ _),bT aV l⟩
  ·exact mm
theorem yp (l:gr) (hl:l.acs.length < 536870912):aH Tryz.prog G 81 [lgM l] [] 0 (lgM l) [] 0:=by
 obtain⟨acs,col⟩:=l;have c1:=Gc (G:=G) acs hl;unfold lgM;dsimp only at hl ⊢;refine bR seat Tryz.func81 8 ?_;refine ae ?_;refine jS (c1) ?_;refine av ?_;exact en [_]
def cD (l:List aW):MB:=⟨87,3,true,0,l.map aV⟩
theorem Gd (l:List aW) (hl:l.length < 536870912):aH Tryz.prog G 125 [.sl l.length (l.map aV)] [] 0 (.ms 0 3 0 l.length) [(0,cD l)] 1:=by
 unfold cD;refine bR seat Tryz.func125 8 ?_;refine ae ?_;refine wj rfl rfl (fun b hb=>?_);cases b with
 | true=>
  have h0:=hb rfl;have h1:l= [] :=c₄.1 h0;subst h1;refine ae ?_;refine av ?_;exact en [_]
 | false=>
  refine ae ?_;refine aY rfl rfl (by intro R hR;refine dM hR ?_;refine d₂ ((AV l)) ?_;refine d₂ ⟨rfl,aE (by kernel_rfl) pf⟩ ?_;refine⟨l.map aV,sv (by show [] ++ l.map aV=_;rw [f₅]),l.length,sv pf,?_⟩;exact hR) rfl ?_;refine ae ?_;exact eb [_] [(0,5)] []
theorem AW (l:gr) (hl:l.acs.length < 536870912):aH Tryz.prog G 81 [lgM l] [] 0 (.st [.ms 0 3 0 l.acs.length, .int .u64 l.col]) [(0,cD l.acs)] 1:=by
 obtain⟨acs,col⟩:=l;have c1:=Gd (G:=G) acs hl;unfold lgM;unfold cD at c1 ⊢;dsimp only at hl c1 ⊢;refine bR seat Tryz.func81 8 ?_;refine ae ?_;refine yc (c1) [] ?_;refine ae ?_;refine av ?_;exact eb [_] [(0,4)] []
theorem Ml (m:Nat):((m:Int).fdiv (2 ^ (min (1:Int).toNat IntKind.u64.bits)))=((m / 2:Nat):Int):=by
 rw [show (2:Int) ^ (min (1:Int).toNat IntKind.u64.bits)=2 by rfl,Int.fdiv_eq_ediv_of_nonneg _ (by decide)];omega
theorem Ns {l:List aW} {k:Nat} (h:k < l.length):bH (l.map aV) (0 + k)=some (aV l[k]):=by rw [bD,Nat.zero_add,List.getElem?_map,List.getElem?_eq_getElem h];rfl
theorem IV (l:List aW) (nm:List UInt8) (hl:l.length≤100000) (hs:dC l):aD Tryz.prog G 235 [.sl l.length (l.map aV), .str nm, .fn 236 []] (.tup [.int .i64 (posA nm l), .bool (bd l nm).2]):=by
 refine aZ seat Tryz.func235 49 ?_;refine ae ?_;refine ar (Nat×Nat) (fun x=> [(9, .int .i64 x.1),(10, .int .i64 x.2),(8, .int .i64 l.length),(2, .fn 236 []),(1, .str nm),(0, .sl l.length (l.map aV))]) (fun _=> []) 0 (fun x=>x.1≤posA nm l∧posA nm l≤x.2∧x.2≤l.length) (fun x=>x.2 - x.1) (0,l.length) ⟨b₂ _,kZ _ _,a₇ _⟩ (vm [] []) ?_;rintro⟨i,j⟩ ⟨h1,h2,h3⟩;try dsimp only
 dsimp only at h1 h2 h3;refine ae ?_;refine ad rfl ?_ ?_ <;> intro h
 ·have hij:i < j:=by have:=ot h;omega
  have k2:=aT.mk (show(((i:Int) + (j:Int)).fdiv (2 ^ (min (1:Int).toNat IntKind.u64.bits)))=(((i + j) / 2:Nat):Int) by rw [← f₆];exact Ml (i + j));have k4:=aT.mk (show IntKind.i64.wrap (((i + j) / 2:Nat):Int)=(((i + j) / 2:Nat):Int) by rw [IntKind.wrap_i64];omega);have hm:(i + j) / 2 < l.length:=om;have hmi:i≤(i + j) / 2∧(i + j) / 2 < j:=om;have hel:=eN hm;have c1:=px (G:=G) l[(i + j) / 2] nm;have hpl:=py hs hm (nm:=nm);have hcl:=yn l[(i + j) / 2].name nm;generalize jd l[(i + j) / 2].name nm=cv at *;generalize l[(i + j) / 2] =a at *;obtain⟨an,ab,aq⟩:=a;unfold aV at c1;dsimp only at c1 hpl hcl;replace hel:cS (l.map aV) l.length (((i + j) / 2:Nat):Int)=some (.st [.str an, .int .u64 ab, .int .u64 aq]):=hel;have hel:=al.mk hel;refine ae ?_;refine cC (c1) ?_;refine ad rfl ?_ ?_ <;> intro h
  ·have hlt:(i + j) / 2 < posA nm l:=hpl.1 (hcl.1 (ot h));refine ae ?_;exact⟨((i + j) / 2 + 1,j),⟨dm,h2,h3⟩,dm,(by dsimp only;exact(vm [] []))⟩
  ·have hlt: ¬ (i + j) / 2 < posA nm l:=fun hh=>oF h (hcl.2 (hpl.2 hh))
   refine ae ?_;exact⟨(i,(i + j) / 2),⟨h1,dm,dm⟩,dm,(by dsimp only;exact(vm [] []))⟩
 ·have hij: ¬ i < j:=by have:=oF h;omega
  have hi:i=posA nm l:=om;subst hi;clear h1 h2 h3 hij;by_cases hp:posA nm l < l.length
  ·have hel:=eN hp;have c1:=px (G:=G) l[posA nm l] nm;have hhas:=Ei hs hp;rw [← hhas];generalize jd l[posA nm l].name nm=cv at *;generalize l[posA nm l] =a at *;obtain⟨an,ab,aq⟩:=a;unfold aV at c1;dsimp only at c1;replace hel:cS (l.map aV) l.length ((posA nm l:Nat):Int)=some (.st [.str an, .int .u64 ab, .int .u64 aq]):=hel;generalize posA nm l=pp at *;have hel:=al.mk hel;refine ae ?_;rw [show decide ((pp:Int) < (l.length:Int))=true from decide_eq_true om];refine ae ?_;refine cC (c1) ?_;refine av ?_;rfl
  ·have hhas:=Ej hs hp;rw [hhas];generalize posA nm l=pp at *;refine ae ?_;rw [show decide ((pp:Int) < (l.length:Int))=false from decide_eq_false om];refine ae ?_;refine av ?_;rfl
theorem AX (l:gr) (nm:List UInt8) (hl:l.acs.length≤100000) (hs:dC l.acs):aD Tryz.prog G 199 [lgM l, .str nm] (.tup [.int .i64 (posA nm l.acs), .bool (bd l.acs nm).2]):=by
 obtain⟨acs,col⟩:=l;dsimp only at hl hs ⊢;have c1:=IV (G:=G) acs nm hl hs;generalize (bd acs nm).2=hh at *;generalize posA nm acs=pp at *;unfold lgM;dsimp only;refine aZ seat Tryz.func199 12 ?_;refine ae ?_;refine cC (c1) ?_;refine av ?_;rfl
theorem IW (l:List aW) (nm:List UInt8) (hl:l.length≤100000) (hs:dC l):aH Tryz.prog G 235 [.ms 0 3 0 l.length, .str nm, .fn 236 []] [(0,cD l)] 1 (.tup [.int .i64 (posA nm l), .bool (bd l nm).2]) [(0,cD l)] 1:=by
 unfold cD;refine bR seat Tryz.func235 49 ?_;refine ae ?_;refine ar (Nat×Nat) (fun x=> [(9, .int .i64 x.1),(10, .int .i64 x.2),(8, .int .i64 l.length),(2, .fn 236 []),(1, .str nm),(0, .ms 0 3 0 l.length)]) (fun _=> [(0,⟨87,3,true,0,l.map aV⟩)]) 1 (fun x=>x.1≤posA nm l∧posA nm l≤x.2∧x.2≤l.length) (fun x=>x.2 - x.1) (0,l.length) ⟨b₂ _,kZ _ _,a₇ _⟩ (vm [] []) ?_;rintro⟨i,j⟩ ⟨h1,h2,h3⟩;try dsimp only
 dsimp only at h1 h2 h3;refine ae ?_;refine ad rfl ?_ ?_ <;> intro h
 ·have hij:i < j:=by have:=ot h;omega
  have k2:=aT.mk (show(((i:Int) + (j:Int)).fdiv (2 ^ (min (1:Int).toNat IntKind.u64.bits)))=(((i + j) / 2:Nat):Int) by rw [← f₆];exact Ml (i + j));have k4:=aT.mk (show IntKind.i64.wrap (((i + j) / 2:Nat):Int)=(((i + j) / 2:Nat):Int) by rw [IntKind.wrap_i64];omega);have hm:(i + j) / 2 < l.length:=om;have hmi:i≤(i + j) / 2∧(i + j) / 2 < j:=om;have hel:=Ns hm;have c1:=px (G:=G) l[(i + j) / 2] nm;have hpl:=py hs hm (nm:=nm);have hcl:=yn l[(i + j) / 2].name nm;generalize jd l[(i + j) / 2].name nm=cv at *;generalize l[(i + j) / 2] =a at *;obtain⟨an,ab,aq⟩:=a;unfold aV at c1;dsimp only at c1 hpl hcl;replace hel:bH (l.map aV) (0 + (i + j) / 2)=some (.st [.str an, .int .u64 ab, .int .u64 aq]):=hel;have hel:=al.mk hel;refine ae ?_;refine cC (c1) ?_;refine ad rfl ?_ ?_ <;> intro h
  ·have hlt:(i + j) / 2 < posA nm l:=hpl.1 (hcl.1 (ot h));refine ae ?_;exact⟨((i + j) / 2 + 1,j),⟨dm,h2,h3⟩,dm,(by dsimp only;exact(vm [] []))⟩
  ·have hlt: ¬ (i + j) / 2 < posA nm l:=fun hh=>oF h (hcl.2 (hpl.2 hh))
   refine ae ?_;exact⟨(i,(i + j) / 2),⟨h1,dm,dm⟩,dm,(by dsimp only;exact(vm [] []))⟩
 ·have hij: ¬ i < j:=by have:=oF h;omega
  have hi:i=posA nm l:=om;subst hi;clear h1 h2 h3 hij;by_cases hp:posA nm l < l.length
  ·have hel:=Ns hp;have c1:=px (G:=G) l[posA nm l] nm;have hhas:=Ei hs hp;rw [← hhas];generalize jd l[posA nm l].name nm=cv at *;generalize l[posA nm l] =a at *;obtain⟨an,ab,aq⟩:=a;unfold aV at c1;dsimp only at c1;replace hel:bH (l.map aV) (0 + posA nm l)=some (.st [.str an, .int .u64 ab, .int .u64 aq]):=hel;generalize posA nm l=pp at *;have hel:=al.mk hel;refine ae ?_;rw [show decide ((pp:Int) < (l.length:Int))=true from decide_eq_true om];refine ae ?_;refine cC (c1) ?_;refine av ?_;exact en [_,_]
  ·have hhas:=Ej hs hp;rw [hhas];generalize posA nm l=pp at *;refine ae ?_;rw [show decide ((pp:Int) < (l.length:Int))=false from decide_eq_false om];refine ae ?_;refine av ?_;exact en [_,_]
theorem IX (l:List aW) (col:Int) (nm:List UInt8) (hl:l.length≤100000) (hs:dC l):aH Tryz.prog G 199 [.st [.ms 0 3 0 l.length, .int .u64 col], .str nm] [(0,cD l)] 1 (.tup [.int .i64 (posA nm l), .bool (bd l nm).2]) [(0,cD l)] 1:=by
 have c1:=IW (G:=G) l nm hl hs;generalize (bd l nm).2=hh at *;generalize posA nm l=pp at *;unfold cD at *;refine bR seat Tryz.func199 12 ?_;refine ae ?_;refine yc (c1) [(0,0)] ?_;refine ae ?_;exact en [_,_]
end
section
def Ge (s:List UInt8) (ks:List (List UInt8)):List (List UInt8):=if s∈ks then ks else ks ++ [s]
def gJ (acs:List aW):List kM→List (List UInt8)→List (List UInt8)
 | [],ks=>ks
 | x :: r,ks=>gJ acs r (if (bd acs x.to_).2=true then ks else Ge x.to_ ks)
theorem getS_any (l:List aW) (nm:List UInt8):(bd l nm).2=l.any (fun a=>decide (a.name=nm)):=by
 induction l with
 | nil=>rfl
 | cons a r ih=>
  rw [e₇];by_cases h:a.name=nm
  ·have e:bd (a :: r) nm=(a,true):=by unfold bd;rw [e₂ (by simp [h])]
   rw [e];simp [h]
  ·have e:bd (a :: r) nm=bd r nm:=by unfold bd;rw [b₄ (by simp [h])]
   rw [e,ih];simp [h]
theorem El {a:aW} {l:List aW} (hs:dC l):(eP a l).length=l.length + (if (bd l a.name).2=true then 0 else 1):=by
 cases h:(bd l a.name).2 with
 | true=>rw [mq hs h];simp
 | false=>
  rw [pC hs h];have:=kZ a.name l;simp;omega
theorem yq {a:aW} {l:List aW} (hs:dC l) (nm:List UInt8):(bd (eP a l) nm).2=((bd l nm).2 || decide (a.name=nm)):=by
 cases h:(bd l a.name).2 with
 | true=>
  rw [mq hs h,getS_any,getS_any];rcases dS (nm:=a.name) hs with ⟨_,h2,h3⟩ | ⟨h1,_⟩
  ·obtain⟨hk,h2⟩:=a₀.1 h2;have e1:l.set (posA a.name l) a=l.take (posA a.name l) ++ a :: l.drop (posA a.name l + 1):=List.set_eq_take_append_cons_drop.trans (if_pos hk);have e2:l=l.take (posA a.name l) ++ l[posA a.name l] :: l.drop (posA a.name l + 1):=by
    conv=>lhs;rw [← b₆ (posA a.name l) l,a₃ hk]
   rw [e1]
   conv=>rhs;rw [e2]
   rw [h2];simp only [f₇,e₇,h3];cases decide (a.name=nm) <;> simp
  ·rw [h1] at h;cases h
 | false=>
  rw [pC hs h,getS_any,getS_any]
  conv=>rhs;rw [← b₆ (posA a.name l) l]
  simp only [f₇,e₇];cases decide (a.name=nm) <;> simp
theorem Gf (x:kM) {acs:List aW} (hs:dC acs):(kV x acs).name=x.to_:=by
 unfold kV;rcases dS (nm:=x.to_) hs with ⟨h1,_,h3⟩ | ⟨h1,_⟩
 ·rw [if_pos h1];exact h3
 ·rw [if_neg (by rw [h1];simp)]
theorem pE {x:kM} {acs:List aW} (hs:dC acs):dC (fQ acs x):=pD hs
theorem pF (z:List aW): ∀(trs:List kM) (cur:List aW) (ks:List (List UInt8)),dC cur→(∀nm,(bd cur nm).2=((bd z nm).2 || decide (nm∈ks)))→(trs.foldl fQ cur).length + ks.length=cur.length + (gJ z trs ks).length
 | [],cur,ks,_,_=>rfl
 | x :: r,cur,ks,hs,hk=>by
  rw [d₉,gJ]
  have hn:=Gf x hs
  have hl:(fQ cur x).length=cur.length + (if (bd cur x.to_).2=true then 0 else 1):=by
   unfold fQ
   rw [El hs]
   dsimp only
   rw [hn]
  have hh: ∀nm,(bd (fQ cur x) nm).2=((bd cur nm).2 || decide (x.to_=nm)):=fun nm=>by
   unfold fQ
   rw [yq hs]
   dsimp only
   rw [hn]
  have hx:=hk x.to_
  by_cases hz:(bd z x.to_).2=true
  ·rw [if_pos hz]
   rw [hz,Bool.true_or] at hx
   rw [if_pos hx] at hl
   have ih:=pF z r (fQ cur x) ks (pE hs) (fun nm=>by
    rw [hh,hk]
    by_cases e:x.to_=nm
    ·subst e;rw [hz];simp
    ·simp [e])
   omega
  ·rw [if_neg hz]
   have hz':(bd z x.to_).2=false:=by simpa using hz
   rw [hz',Bool.false_or] at hx
   unfold Ge
   by_cases hm:x.to_∈ks
   ·rw [if_pos hm]
    rw [if_pos (by rw [hx];simpa using hm)] at hl
    have ih:=pF z r (fQ cur x) ks (pE hs) (fun nm=>by
     rw [hh,hk]
     by_cases e:x.to_=nm
     ·subst e;simp [hm]
     ·simp [e])
    omega
   ·rw [if_neg hm]
    rw [if_neg (by rw [hx];simpa using hm)] at hl
    have ih:=pF z r (fQ cur x) (ks ++ [x.to_]) (pE hs) (fun nm=>by
     rw [hh,hk,Bool.or_assoc]
     congr 1
     by_cases e:x.to_=nm
     ·subst e;simp
     ·simp [e,Ne.symm e])
    rw [c₃,e₃] at ih
    omega
theorem IY {l:gr} {t:iJ} {sum:Nat} (hs:dC l.acs) (hp:(bd l.acs t.sender).2=true):(ic l t sum).acs.length=l.acs.length + (gJ l.acs t.trs []).length:=by
 have hn:(i7 l t sum).name=t.sender:=by
  rcases dS (nm:=t.sender) hs with ⟨_,_,h3⟩ | ⟨h1,_⟩
  ·exact h3
  ·rw [h1] at hp;cases hp
 have h1:(eP (i7 l t sum) l.acs).length=l.acs.length:=by rw [El hs,hn,if_pos hp,Nat.add_zero]
 have h2:=pF l.acs t.trs (eP (i7 l t sum) l.acs) [] (pD hs) (fun nm=>by
  rw [yq hs,hn];by_cases e:t.sender=nm
  ·subst e;rw [hp];simp
  ·simp [e])
 rw [h1,f₈,Nat.add_zero] at h2;exact h2
theorem uB (z:List aW): ∀(trs:List kM) (ks:List (List UInt8)),(gJ z trs ks).length≤ks.length + trs.length
 | [],_=>a₇ _
 | x :: r,ks=>by
  rw [gJ]
  have ih:=uB z r
  have h2:(Ge x.to_ ks).length≤ks.length + 1:=by unfold Ge;split <;> simp
  split
  ·have:=ih ks;simp;omega
  ·have:=ih (Ge x.to_ ks);simp;omega
theorem uC {s:List UInt8}: ∀{ks:List (List UInt8)} {i:Nat},s ∉ ks→findM s (ks.map MV.str) i=some none
 | [],_,_=>rfl
 | x :: r,i,h=>by
  rw [a₆,not_or] at h
  rw [c₆,findM,beq_eq_false_iff_ne.2 h.1]
  exact uC h.2
theorem qw {s:List UInt8}: ∀{ks:List (List UInt8)} {i:Nat},s∈ks→∃j,findM s (ks.map MV.str) i=some (some (i + j))∧j < ks.length
 | x :: r,i,h=>by
  rw [c₆,findM]
  by_cases e:s=x
  ·exact⟨0,by rw [beq_iff_eq.2 e];rfl,sm⟩
  ·rw [beq_eq_false_iff_ne.2 e]
   obtain⟨j,hj,hl⟩:=qw (i:=i + 1) ((a₆.1 h).resolve_left e)
   exact⟨j + 1,by rw [show i + (j + 1)=i + 1 + j by omega];exact hj,by simpa using hl⟩
end
section
def rK:List aW→List (List UInt8)→Nat
 | [],_=>0
 | a :: r,ks=>if dj a.name=false then 10 else if a.name∈ks then 8 else rK r (ks ++ [a.name])
theorem yt {nm:List UInt8} {l:List aW} (hs:dC l):(0≤eO nm l 0)↔(bd l nm).2=true:=by
 rcases dS (nm:=nm) hs with ⟨h1,_,_⟩ | ⟨h1,h2⟩
 ·rw [qv hs h1,h1];simp
 ·rw [pz h2,h1];simp
theorem CG: ∀(r l:List aW) (ks:List (List UInt8)),dC l→(∀nm,(bd l nm).2=decide (nm∈ks))→(iK r l).2=rK r ks
 | [],_,_,_,_=>rfl
 | a :: r,l,ks,hs,hk=>by
  rw [iK,rK]
  by_cases h1:dj a.name=false
  ·rw [if_pos h1,if_pos h1]
  ·rw [if_neg h1,if_neg h1]
   by_cases h2:a.name∈ks
   ·rw [if_pos h2,if_pos ((yt hs).2 (by rw [hk];simpa using h2))]
   ·rw [if_neg h2,if_neg (fun h=>h2 (by have:=(yt hs).1 h;rw [hk] at this;simpa using this))]
    refine CG r _ _ (pD hs) fun nm=>?_
    rw [yq hs,hk]
    by_cases e:a.name=nm
    ·subst e;simp
    ·simp [e,Ne.symm e]
theorem CH: ∀(r l:List aW),dC l→(iK r l).2=0→dC (iK r l).1∧(iK r l).1.Perm (l ++ r)
 | [],l,hs,_=>by rw [iK,f₉];exact⟨hs,List.Perm.refl _⟩
 | a :: r,l,hs,h=>by
  rw [iK] at h ⊢
  by_cases h1:dj a.name=false
  ·rw [if_pos h1] at h;exact absurd h (by decide)
  ·rw [if_neg h1] at h ⊢
   by_cases h2:0≤eO a.name l 0
   ·rw [if_pos h2] at h;exact absurd h (by decide)
   ·rw [if_neg h2] at h ⊢
    obtain⟨h3,h4⟩:=CH r (eP a l) (pD hs) h
    refine⟨h3,h4.trans ?_⟩
    have hno:(bd l a.name).2=false:=by
     cases hb:(bd l a.name).2 with
     | false=>rfl
     | true=>exact absurd ((yt hs).2 hb) h2
    have hp:(eP a l).Perm (a :: l):=by
     rw [pC hs hno]
     have:=f₂ (a:=a) (l₁:=l.take (posA a.name l)) (l₂:=l.drop (posA a.name l))
     rwa [b₆] at this
    refine(hp.append_right r).trans ?_
    exact(f₂ (a:=a) (l₁:=l) (l₂:=r)).symm
theorem uD: ∀(r:List aW) (ks:List (List UInt8)),rK r ks=0→r.Pairwise (fun a b=>a.name≠b.name)∧∀a∈r,a.name ∉ ks
 | [],_,_=>⟨List.Pairwise.nil,sm⟩
 | a :: r,ks,h=>by
  rw [rK] at h
  split at h
  ·exact absurd h (by decide)
  ·split at h
   ·exact absurd h (by decide)
   ·rename_i hm
    obtain⟨h1,h2⟩:=uD r _ h
    refine⟨a₂.2 ⟨fun b hb e=>h2 b hb (by rw [← e];simp),h1⟩,fun b hb=>?_⟩
    rcases a₆.1 hb with rfl | hb
    ·exact hm
    ·exact fun hk=>h2 b hb (List.mem_append_left _ hk)
theorem AY: ∀{l m:List aW},dC l→dC m→l.Perm m→l=m
 | [],m,_,_,h=>(List.nil_perm.1 h).symm
 | a :: r,[],_,_,h=>absurd (List.perm_nil.1 h) sm
 | a :: r,b :: s,hl,hm,h=>by
  have h1:=a₂.1 hl
  have h2:=a₂.1 hm
  have hab:a=b:=by
   rcases a₆.1 (h.subset (b₃ ..)) with e | ha
   ·exact e
   ·rcases a₆.1 (h.symm.subset (b₃ ..)) with e | hb
    ·exact e.symm
    ·have k1:=h2.1 a ha
     have k2:=h1.1 b hb
     rw [F9 k1] at k2
     cases k2
  subst hab
  rw [AY h1.2 h2.2 h.cons_inv]
theorem vJ {l m:List aW} (hp:l.Perm m) (hd:m.Pairwise (fun a b=>a.name≠b.name)) (hs:l.Pairwise (fun a b=>Op.bytesLess b.name a.name=false)):dC l:=by
 have hd':l.Pairwise (fun a b=>a.name≠b.name):=hp.symm.pairwise hd (fun h e=>h e.symm);exact hs.imp₂ (fun a b h1 h2=>uA h1 (Ne.symm h2)) hd'
def uE (l:List aW):Nat:=(l.map (·.bal)).sum
theorem yu: ∀(l:List aW) (s:Nat),(totS l s).2=true↔(l= [] ∨s + uE l < 18446744073709551616)
 | [],s=>by simp [totS]
 | a :: r,s=>by
  rw [totS]
  have ih:=yu r (iz s a.bal).1
  have e:uE (a :: r)=a.bal + uE r:=by simp [uE]
  unfold iz at *
  by_cases h:s + a.bal < 18446744073709551616
  ·rw [if_pos h] at *
   rw [if_pos rfl,ih,e]
   dsimp only
   constructor
   ·rintro(rfl | h2)
    ·right;simp [uE];omega
    ·right;omega
   ·rintro(h2 | h2)
    ·cases h2
    ·right;omega
  ·rw [if_neg h,if_neg sm,e]
   simp
   omega
theorem wI {l m:List aW} (h:l.Perm m):(totS l 0).2=(totS m 0).2:=by
 have hs:uE l=uE m:=(h.map _).sum_nat;have hn:l= [] ↔m= [] :=⟨fun e=>by subst e;exact List.nil_perm.1 h,fun e=>by subst e;exact List.perm_nil.1 h⟩;have h1:=yu l 0;have h2:=yu m 0;rw [hs,hn] at h1;have:=h1.trans h2.symm;cases ha:(totS l 0).2 <;> cases hb:(totS m 0).2 <;> simp_all
end
section
open Go.RowKit Go.Lib Go.Shelf
theorem IZ:(Tryz.prog.info? 87).map (fun i=>(i.zero,i.size,i.bytes))=some (some (.agg #[.string ⟨#[]⟩, .int .u64 0, .int .u64 0]),3,32):=by kernel_rfl
theorem AZ:Tryz.prog.underlying 25=some (.slice 87):=by kernel_rfl
theorem Em:Tryz.prog.underlying 3=some (.int .i64):=by kernel_rfl
section
variable {P:Program}
theorem yw (w:World) {o:Oper} {a:Act} {K:Act→World→Prop} {Q:Exit→Act→World→Prop} (d s:Operand) (t t':TypeId)
  (ho:o.op= .call { callee:= .builtin .copy,args:= #[d,s],argTypes:= #[t,t'] }) (v u:Value) (hd:a.eval d=v) (hs:a.eval s=u) {v':Value} {w':World}
  (hr:(Builtin.copy_ #[t,t'] o.type #[v,u]).run P w= .ok v' w') (h:K (a.put o.dst v') w'):o.wp P a w K Q:=by
 unfold Oper.wp execOp
 simp only [ho,resolve,invoke,builtin,Sem.run_bind,Sem.run_pure,Result.andThen_ok,List.map_toArray,c₆,List.map_nil,hd,hs,hr]
 exact h
theorem ka (w:World) {ops:Array Oper} {rest:List Oper} {o:Oper} {a:Act} {Q:Exit→Act→World→Prop} (hgd:o.guard=none) (d s:Operand) (t t':TypeId)
  (ho:o.op= .call { callee:= .builtin .copy,args:= #[d,s],argTypes:= #[t,t'] }) (v u:Value) (hd:a.eval d=v) (hs:a.eval s=u) {v':Value} {w':World}
  (hr:(Builtin.copy_ #[t,t'] o.type #[v,u]).run P w= .ok v' w') (h:wpList P ops Q rest (a.put o.dst v') w'):wpList P ops Q (o :: rest) a w:=
 wpList_plain hgd fun _ hK=>yw w d s t t' ho v u hd hs hr (hK _ _ h)
theorem mr {ops:Array Oper} {o:Oper} {a:Act} {w:World} {K:Act→World→Prop} {Q:Exit→Act→World→Prop} {E:Prop}
  (hg:o.guard=none) (d x:Operand) (dT sT:TypeId) (hop:o.op=Op.call { callee:=Callee.builtin Builtin.copy,args:= #[d,x],argTypes:= #[dT,sT] })
  (v u:Value) (hd:a.eval d=v) (hx:a.eval x=u) {v':Value} {w':World} (hr:(Builtin.copy_ #[dT,sT] o.type #[v,u]).run P w= .ok v' w') (hK:K (a.put o.dst v') w') :
  if Region.wanted o (yielded ops a.tmps)=true then Oper.wp P o a w K Q else E:=by
 have hw:Region.wanted o (yielded ops a.tmps)=true:=by simp [Region.wanted,hg]
 rw [if_pos hw]
 unfold Oper.wp
 simp [execOp,hop,resolve,invoke,builtin,hd,hx,hr,Result.andThen]
 exact hK
end
theorem gR {P:Program} (w:World) (dT sT ty elem:TypeId) (es g o dLen dCap:Nat) (a:Addr) (sLen sCap:Nat) (cur:Array Value) (t:TypeId) (cs:List Value)
  (hu:P.underlying dT=some (.slice elem)) (hs:(P.info? elem).map (·.size)=some es)
  (hg:w.heap[g]? =some (.cells cur t (0,0))) (hn:cs.length=e₄ sLen dLen * es)
  (hsrc: ∀j v,cs[j]? =some v→w.cell? (a.add j)=some v) (hfit:o + cs.length≤cur.size) (h1: ∀v∈cs,v.oneCell'=true) :
  (Builtin.copy_ #[dT,sT] ty #[.slice (some ⟨g,o,none⟩) dLen dCap, .slice (some a) sLen sCap]).run P w =
   .ok (goInt (e₄ sLen dLen)) (w.setRow g (cur.toList.take o ++ cs ++ cur.toList.drop (o + cs.length)).toArray):=by
 have hl:=run_loadCells_list (P:=P) w a cs hsrc
 have hst:=run_storeCells_at P g o t cs 0 cur w hg (by simpa using hfit) h1
 cases hq:P.info? elem with
 | none=>simp [hq] at hs
 | some i=>
  have hi:i.size=es:=by simpa [hq] using hs
  simp [Builtin.copy_,run_underlying hu,Builtin.lenOf,Builtin.firstCells,sizeOf,typeInfo,hq,hi,← hn,hl,hst]
def Gg:Value:= .agg #[.string ⟨#[]⟩, .int .u64 0, .int .u64 0]
theorem rr: ∃i0,Tryz.prog.info? 87=some i0∧i0.zero=some Gg∧i0.size=3∧i0.bytes=32:=by
 have h:=IZ;cases hq:Tryz.prog.info? 87 with
 | none=>rw [hq] at h;cases h
 | some i=>
  rw [hq] at h;simp only [Option.map_some,Option.some.injEq,d₆] at h;exact⟨i,rfl,h.1,h.2.1,h.2.2⟩
set_option maxRecDepth 100000 in
theorem I0 (b off n c i vb voff vc:Nat) (cs vs:List Value) (w:World) (hi:i < n) (hnc:n≤c) (hroom:c < n + 1) (hbig:(n + 1) * 32≤140737488355328)
  (hcl:cs.length=n * 3) (hvl:vs.length=3)
  (hcs: ∀j v,cs[j]? =some v→w.cell? ⟨b,off + j,none⟩=some v)
  (hvs: ∀j v,vs[j]? =some v→w.cell? ⟨vb,voff + j,none⟩=some v) (h1c: ∀v∈cs,v.oneCell'=true) (h1v: ∀v∈vs,v.oneCell'=true) :
  Calls Tryz.prog 205 #[.slice (some ⟨b,off,none⟩) n c, .int .i64 i, .slice (some ⟨vb,voff,none⟩) 1 vc] w fun e w'=>
   ∃G,n + 1≤G∧G≤maxLen∧∃ROW:Array Value,ROW.size=G * 3∧(cs.take (i * 3) ++ vs ++ cs.drop (i * 3)) <+:ROW.toList∧
   e= .returned (.slice (some ⟨w.heap.size,0,none⟩) (n + 1) G)∧
   ∃R1 R0,w'=(((w.alloc (.cells R0 87)).drew.setRow w.heap.size R1).drew).setRow w.heap.size ROW:=by
 obtain⟨i0,hi0,hz0,hzs,hzb⟩:=rr
 have ha:Tryz.prog.underlying 25=some (.slice 87):=AZ
 have hint:Tryz.prog.underlying 3=some (.int .i64):=Em
 have u22:=run_underlying ha
 have u3:=run_underlying hint
 have hz2: ¬ ((i:Int)=(n:Int)):=om
 have hz3:(c:Int) < (n:Int) + 1:=om
 have hsz:(Tryz.prog.info? 87).map (·.size)=some 3:=by rw [hi0];simp [hzs]
 have hbw:b < w.heap.size:=block_lt_of_cell (hcs 0 _ (a₁ om))
 have hvw:vb < w.heap.size:=block_lt_of_cell (hvs 0 _ (a₁ om))
 have hkk:(n:Int) + 1 - (i:Int)=((n + 1 - i:Nat):Int):=om
 have hik:i + (n + 1 - i)=n + 1:=om
 have hold:(Builtin.firstCells i0.size i (.slice (some ⟨b,off,none⟩) i c)).run Tryz.prog w.drew= .ok (cs.take (i * 3)).toArray w.drew:=by
  rw [hzs]
  exact run_firstCells_some w.drew 3 i ⟨b,off,none⟩ i c (cs.take (i * 3)) (by rw [a₅];omega) (fun j v hj=>by
   rw [Addr.add_lit]
   rw [f₁] at hj
   split at hj
   ·exact hcs j v hj
   ·cases hj)
 have hrz: ∀ty,(Builtin.append_ #[25,3] ty #[.slice (some ⟨b,off,none⟩) i c, .int .i64 ((n:Int) + 1 - (i:Int))]).run Tryz.prog w =
   .ok (.slice (some ⟨w.heap.size,0,none⟩) (n + 1) (grownCap w (n + 1) c 87)) (w.drew.alloc (.cells ((cs.take (i * 3)).toArray ++ Builtin.zeroCells Gg.cells (n + 1 - i) ++ Builtin.zeroCells Gg.cells (grownCap w (n + 1) c 87 - (n + 1))) 87)):=fun ty=>by
  have h:=Lib.run_append_grow_zeros w 25 3 ty 87 i0 _ .i64 .i64 ha hint hi0 hz0 (some ⟨b,off,none⟩) i c (cs.take (i * 3)) hold (n + 1 - i) om om om om (by rw [hzb];omega) (by rw [hzb,hik];exact growslice_fits hroom hbig)
  rw [hik] at h
  rw [hkk]
  exact h
 have hGn:n + 1≤grownCap w (n + 1) c 87:=grownCap_ge w _ _ _
 have hG63:grownCap w (n + 1) c 87≤maxLen:=grownCap_le_maxLen w (n + 1) c 87 (by unfold maxLen;omega)
 obtain⟨G,hG⟩: ∃G,G=grownCap w (n + 1) c 87:=⟨_,rfl⟩
 obtain⟨ROW,hROW⟩: ∃ROW:Array Value,ROW=(cs.take (i * 3)).toArray ++ Builtin.zeroCells Gg.cells (n + 1 - i) ++ Builtin.zeroCells Gg.cells (G - (n + 1)):=⟨_,rfl⟩
 rw [← hG] at hrz hGn hG63
 rw [← hROW] at hrz
 have hRl:ROW.size=G * 3:=by
  have hz: ∀k,(Builtin.zeroCells Gg.cells k).size=k * 3:=fun k=>by unfold Builtin.zeroCells;rw [Array.size_map,Array.size_range];rfl
  rw [hROW,Array.size_append,Array.size_append,hz,hz,List.size_toArray,a₅,hcl]
  simp only [d₁]
  split <;> omega
 have hW1g: ∀(W:World),W.heap=(w.alloc (.cells ROW 87)).heap→W.heap[w.heap.size]? =some (.cells ROW 87 (0,0)):=fun W hW=>by
  rw [hW]
  show(w.heap.push (.cells ROW 87 (0,0)))[w.heap.size]? =_
  exact Array.getElem?_push_size
 have hOb: ∀(W:World),W.heap=(w.alloc (.cells ROW 87)).heap→∀x j v,x < w.heap.size→w.cell? ⟨x,j,none⟩=some v→W.cell? ⟨x,j,none⟩=some v:=fun W hW x j v hx h=>by
  have h1:=World.cell?_alloc_past (w:=w) (.cells ROW 87) x j hx
  unfold World.cell? at h1 h ⊢
  rw [hW]
  exact h1.trans h
 have hcpA: ∀(W:World),W.heap=(w.alloc (.cells ROW 87)).heap→∀ty dc,(Builtin.copy_ #[25,25] ty #[.slice (some ⟨w.heap.size,i * 3,none⟩) (n + 1 - i) dc, .slice (some ⟨vb,voff,none⟩) 1 vc]).run Tryz.prog W= .ok (goInt 1) (W.setRow w.heap.size (ROW.toList.take (i * 3) ++ vs ++ ROW.toList.drop (i * 3 + 3)).toArray):=fun W hW ty dc=>by
  have hm:e₄ 1 (n + 1 - i)=1:=by simp only [d₁];split <;> omega
  have h:=gR W 25 25 ty 87 3 w.heap.size (i * 3) (n + 1 - i) dc ⟨vb,voff,none⟩ 1 vc ROW 87 vs ha hsz (hW1g W hW) (by rw [hm,hvl]) (fun j v hj=>by rw [Addr.add_lit];exact hOb W hW vb _ v hvw (hvs j v hj)) om h1v
  rw [hm,hvl] at h
  exact h
 obtain⟨R1,hR1⟩: ∃R1,R1=(ROW.toList.take (i * 3) ++ vs ++ ROW.toList.drop (i * 3 + 3)).toArray:=⟨_,rfl⟩
 rw [← hR1] at hcpA
 have hR1l:R1.size=G * 3:=by
  rw [hR1]
  simp
  omega
 have hdl:(cs.drop (i * 3)).length=(n - i) * 3:=by rw [c₇,hcl];omega
 have hcpB: ∀(W:World),W.heap=((w.alloc (.cells ROW 87)).drew.setRow w.heap.size R1).heap→∀ty dc sc,(Builtin.copy_ #[25,25] ty #[.slice (some ⟨w.heap.size,(i + 1) * 3,none⟩) (n - i) dc, .slice (some ⟨b,off + i * 3,none⟩) (n - i) sc]).run Tryz.prog W= .ok (goInt (n - i:Nat)) (W.setRow w.heap.size (R1.toList.take ((i + 1) * 3) ++ cs.drop (i * 3) ++ R1.toList.drop ((i + 1) * 3 + (n - i) * 3)).toArray):=fun W hW ty dc sc=>by
  have hm:e₄ (n - i) (n - i)=n - i:=Nat.min_self _
  have hg1:W.heap[w.heap.size]? =some (.cells R1 87 (0,0)):=by
   rw [hW]
   exact setRow_heap _ w.heap.size ROW R1 87 (0,0) (hW1g _ rfl)
  have h:=gR W 25 25 ty 87 3 w.heap.size ((i + 1) * 3) (n - i) dc ⟨b,off + i * 3,none⟩ (n - i) sc R1 87 (cs.drop (i * 3)) ha hsz hg1 (by rw [hm,hdl]) (fun j v hj=>by
   rw [Addr.add_lit,Nat.add_assoc]
   rw [d₃] at hj
   have h1:=hOb (w.alloc (.cells ROW 87)).drew rfl b _ v hbw (hcs _ v hj)
   have h2:(((w.alloc (.cells ROW 87)).drew.setRow w.heap.size R1)).cell? ⟨b,off + (i * 3 + j),none⟩=some v:=(cell_setRow_other _ _ _ _ (Nat.ne_of_lt hbw)).trans h1
   unfold World.cell? at h2 ⊢
   rw [hW]
   exact h2) om (fun v hv=>h1c v (c₀ hv))
  rw [hm,hdl] at h
  exact h
 have hw1:IntKind.i64.wrap ((i:Int) + 1)=(i:Int) + 1:=by rw [IntKind.wrap_i64];omega
 have hw2:IntKind.i64.wrap ((n:Int) + 1)=(n:Int) + 1:=by rw [IntKind.wrap_i64];omega
 have hb1:(0:Int)≤(i:Int) + 1:=om
 have hin:i≤n:=om
 have htn:((i:Int) + 1).toNat=i + 1:=om
 have hb3:(i:Int)≤(n:Int):=om
 have hGi: ¬ (G=i):=om
 have hGim: ¬ (G=i + 1):=om
 have hci: ¬ (c=i):=om
 have hpre:(cs.take (i * 3))=ROW.toList.take (i * 3):=by
  rw [hROW,Array.toList_append,Array.toList_append,c₅,a₉ (by simp;omega),List.toList_toArray,g₀,Nat.min_self]
 have hR1p:R1.toList.take ((i + 1) * 3)=cs.take (i * 3) ++ vs:=by
  rw [hR1,← hpre]
  have h1:(cs.take (i * 3)).length=i * 3:=by simp;omega
  show List.take _ (cs.take (i * 3) ++ vs ++ _)=_
  rw [a₉ (by simp;omega),List.take_of_length_le (by simp;omega)]
 obtain⟨R2,hR2⟩: ∃R2,R2=(R1.toList.take ((i + 1) * 3) ++ cs.drop (i * 3) ++ R1.toList.drop ((i + 1) * 3 + (n - i) * 3)).toArray:=⟨_,rfl⟩
 rw [← hR2] at hcpB
 have hR2l:R2.size=G * 3:=by
  rw [hR2]
  simp
  omega
 have hR2p:(cs.take (i * 3) ++ vs ++ cs.drop (i * 3)) <+:R2.toList:=by
  rw [hR2,hR1p]
  exact d₄ _ _
 have mixed:Tryz.prog.follows Departure.mixedOrders=true:=by kernel_rfl
 clear hkk hik hold hROW hG hR1 hR2 hpre hR1p
 go_enter Tryz.func205,Tryz.ntmps205
 have hA0:=hcpA (w.alloc (.cells ROW 87)).drew rfl
 have hB0:=hcpB ((w.alloc (.cells ROW 87)).drew.setRow w.heap.size R1).drew rfl
 go_wp2_with (first
  | (at_builtin;refine Lib.wpList_append_run _ rfl _ _ _ _ rfl _ _ rfl rfl _ _ (hrz _) ?_)
  | (at_builtin;refine ka _ rfl _ _ 25 25 rfl _ _ rfl rfl (hA0 _ _) ?_))
 go_region_law_o (refine mr rfl _ _ 25 25 rfl _ _ (by simp [Act.eval,Act.put]) (by simp [Act.eval,Act.put]) (hB0 _ _ _) ?_)
 go_wp2
 go_ret
 exact⟨G,hGn,hG63,R2,hR2l,hR2p,rfl,R1,ROW,rfl⟩
set_option maxRecDepth 100000 in
theorem Gh (b n c i vb vc:Nat) (cs vs:List Value) (cur curv:Array Value) (tv:TypeId) (w:World) (hi:i < n) (hroom:n + 1≤c) (hc63:c≤maxLen) (hvb:vb≠b)
  (hg:w.heap[b]? =some (.cells cur 87 (0,0))) (hcz:cur.size=c * 3) (hgv:w.heap[vb]? =some (.cells curv tv (0,0)))
  (hcl:cs.length=n * 3) (hvl:vs.length=3) (hcp:cs <+:cur.toList)
  (hvs: ∀j v,vs[j]? =some v→w.cell? ⟨vb,j,none⟩=some v) (h1c: ∀v∈cs,v.oneCell'=true) (h1v: ∀v∈vs,v.oneCell'=true) :
  Calls Tryz.prog 205 #[.slice (some ⟨b,0,none⟩) n c, .int .i64 i, .slice (some ⟨vb,0,none⟩) 1 vc] w fun e w'=>
   ∃ROW:Array Value,ROW.size=c * 3∧(cs.take (i * 3) ++ vs ++ cs.drop (i * 3)) <+:ROW.toList∧
   e= .returned (.slice (some ⟨b,0,none⟩) (n + 1) c)∧
   ∃R1,w'=(w.drew.setRow b R1).setRow b ROW:=by
 obtain⟨i0,hi0,hz0,hzs,hzb⟩:=rr
 have ha:Tryz.prog.underlying 25=some (.slice 87):=AZ
 have hint:Tryz.prog.underlying 3=some (.int .i64):=Em
 have u22:=run_underlying ha
 have u3:=run_underlying hint
 unfold maxLen at hc63
 have hz2: ¬ ((i:Int)=(n:Int)):=om
 have hsz:(Tryz.prog.info? 87).map (·.size)=some 3:=by rw [hi0];simp [hzs]
 have hso: ∀w,(Go.sizeOf 87).run Tryz.prog w= .ok 3 w:=fun w=>by simp [sizeOf,typeInfo,hi0,hzs]
 have hsa:w.shape? vb=some (tv,curv.size):=by simp [World.shape?,hgv]
 have hsb:w.shape? b=some (87,c * 3):=by simp [World.shape?,hg,hcz]
 have hfa: ∀k,w.frozen? ⟨vb,k,none⟩=false:=fun k=>by simp [World.frozen?,hgv]
 have hov: ∀lb cb,(callFunc 241 #[.slice (some ⟨vb,0,none⟩) 1 vc, .slice (some ⟨b,(i + 1) * 3,none⟩) lb cb]).run Tryz.prog w= .ok (.value (.bool false)) w:=fun lb cb=>by
  rw [run_callFunc_extern Tryz.func241 (by kernel_rfl) (by kernel_rfl) (by kernel_rfl) (e:=Extern.SlicesOverlaps.overlaps #[25,25] #[4]) (by kernel_rfl),
   Lib.run_overlaps_apart w 25 4 87 ha 3 hso ⟨vb,0,none⟩ ⟨b,(i + 1) * 3,none⟩ 1 vc lb cb hvb tv 87 curv.size (c * 3) hsa hsb om (hfa 0) (hfa _)]
  rfl
 obtain⟨tl,htl⟩:=hcp
 have hct:cur.toList.length=c * 3:=by rw [Array.length_toList];exact hcz
 have hdl:(cs.drop (i * 3)).length=(n - i) * 3:=by rw [c₇,hcl];omega
 have hcell: ∀(W:World),W.heap=w.heap→∀j v,cs[j]? =some v→W.cell? ⟨b,j,none⟩=some v:=fun W hW j v hj=>by
  have h1:cur[j]? =some v:=by
   rw [← Array.getElem?_toList,← htl,List.getElem?_append_left (a₀.1 hj).1]
   exact hj
  unfold World.cell?
  rw [hW,hg]
  exact h1
 have hcpA: ∀(W:World),W.heap=w.heap→∀ty dc sc,(Builtin.copy_ #[25,25] ty #[.slice (some ⟨b,(i + 1) * 3,none⟩) (n - i) dc, .slice (some ⟨b,i * 3,none⟩) (n + 1 - i) sc]).run Tryz.prog W= .ok (goInt (n - i:Nat)) (W.setRow b (cur.toList.take ((i + 1) * 3) ++ cs.drop (i * 3) ++ cur.toList.drop ((i + 1) * 3 + (n - i) * 3)).toArray):=fun W hW ty dc sc=>by
  have hm:e₄ (n + 1 - i) (n - i)=n - i:=by simp only [d₁];split <;> omega
  have h:=gR W 25 25 ty 87 3 b ((i + 1) * 3) (n - i) dc ⟨b,i * 3,none⟩ (n + 1 - i) sc cur 87 (cs.drop (i * 3)) ha hsz (by rw [hW];exact hg) (by rw [hm,hdl]) (fun j v hj=>by
   rw [Addr.add_lit]
   rw [d₃] at hj
   exact hcell W hW _ v hj) om (fun v hv=>h1c v (c₀ hv))
  rw [hm,hdl] at h
  exact h
 obtain⟨R1,hR1⟩: ∃R1,R1=(cur.toList.take ((i + 1) * 3) ++ cs.drop (i * 3) ++ cur.toList.drop ((i + 1) * 3 + (n - i) * 3)).toArray:=⟨_,rfl⟩
 rw [← hR1] at hcpA
 have hR1l:R1.size=c * 3:=by
  rw [hR1]
  simp
  omega
 have hcpB: ∀(W:World),W.heap=(w.drew.setRow b R1).heap→∀ty dc,(Builtin.copy_ #[25,25] ty #[.slice (some ⟨b,i * 3,none⟩) (n + 1 - i) dc, .slice (some ⟨vb,0,none⟩) 1 vc]).run Tryz.prog W= .ok (goInt 1) (W.setRow b (R1.toList.take (i * 3) ++ vs ++ R1.toList.drop (i * 3 + 3)).toArray):=fun W hW ty dc=>by
  have hm:e₄ 1 (n + 1 - i)=1:=by simp only [d₁];split <;> omega
  have hg1:W.heap[b]? =some (.cells R1 87 (0,0)):=by
   rw [hW]
   exact setRow_heap _ b cur R1 87 (0,0) hg
  have h:=gR W 25 25 ty 87 3 b (i * 3) (n + 1 - i) dc ⟨vb,0,none⟩ 1 vc R1 87 vs ha hsz hg1 (by rw [hm,hvl]) (fun j v hj=>by
   rw [Addr.add_lit,c₂]
   have h2:(w.drew.setRow b R1).cell? ⟨vb,j,none⟩=some v:=(cell_setRow_other _ _ _ _ hvb).trans (hvs j v hj)
   unfold World.cell? at h2 ⊢
   rw [hW]
   exact h2) om h1v
  rw [hm,hvl] at h
  exact h
 obtain⟨R2,hR2⟩: ∃R2,R2=(R1.toList.take (i * 3) ++ vs ++ R1.toList.drop (i * 3 + 3)).toArray:=⟨_,rfl⟩
 rw [← hR2] at hcpB
 have hR2l:R2.size=c * 3:=by
  rw [hR2]
  simp
  omega
 have hp1:R1.toList.take (i * 3)=cs.take (i * 3):=by
  rw [hR1]
  show List.take _ (cur.toList.take ((i + 1) * 3) ++ cs.drop (i * 3) ++ _)=_
  rw [c₅,a₉ (by simp;omega),g₀,← htl,a₉ om]
  congr 1
  simp only [d₁]
  split <;> omega
 have hp2:cs.drop (i * 3) <+:R1.toList.drop (i * 3 + 3):=by
  rw [hR1]
  show _ <+:g₁ _ (cur.toList.take ((i + 1) * 3) ++ cs.drop (i * 3) ++ _)
  have hl:(cur.toList.take ((i + 1) * 3)).length=i * 3 + 3:=by rw [a₅,hct,e₀ om];omega
  rw [c₅,List.drop_left' hl]
  exact d₄ _ _
 have hR2p:(cs.take (i * 3) ++ vs ++ cs.drop (i * 3)) <+:R2.toList:=by
  rw [hR2,hp1]
  obtain⟨z,hz⟩:=hp2
  rw [← hz]
  exact⟨z,sm⟩
 have hw1:IntKind.i64.wrap ((i:Int) + 1)=(i:Int) + 1:=by rw [IntKind.wrap_i64];omega
 have hw2:IntKind.i64.wrap ((n:Int) + 1)=(n:Int) + 1:=by rw [IntKind.wrap_i64];omega
 have hb1:(0:Int)≤(i:Int) + 1:=om
 have hb0:(0:Int)≤(n:Int) + 1:=om
 have hin:i≤n:=om
 have htn:((i:Int) + 1).toNat=i + 1:=om
 have htm:((n:Int) + 1).toNat=n + 1:=om
 have hb3:(i:Int)≤(n:Int) + 1:=om
 have hci: ¬ (c=i):=om
 have hcim: ¬ (c=i + 1):=om
 have mixed:Tryz.prog.follows Departure.mixedOrders=true:=by kernel_rfl
 have hA0:=hcpA w.drew rfl
 have hB0:=hcpB (w.drew.setRow b R1) rfl
 clear hR1 hR2 hp1 hp2 htl hcell
 go_enter Tryz.func205,Tryz.ntmps205
 go_wp2_with (simp only [hov])
 go_region_law_o (refine mr rfl _ _ 25 25 rfl _ _ (by simp [Act.eval,Act.put]) (by simp [Act.eval,Act.put]) (hA0 _ _ _) ?_)
 go_wp2_with (at_builtin;refine ka _ rfl _ _ 25 25 rfl _ _ rfl rfl (hB0 _ _) ?_)
 go_ret
 exact⟨R2,hR2l,hR2p,rfl,R1,rfl⟩
end
section
open Go.RowKit Go.Lib
variable {G:GS}
attribute [local irreducible] aj aC aG aL aO vC aU au
theorem A3 {α β:Type} {R:α→β→Prop} {x0:α} {p0:β} (h0:R x0 p0): ∀(i:Nat) {L:List α} {Q:List β},Q.length=L.length→(∀(j:Nat) x p,L[j]? =some x→Q[j]? =some p→R x p)→∀(j:Nat) x p,(L.take i ++ x0 :: L.drop i)[j]? =some x→(Q.take i ++ p0 :: Q.drop i)[j]? =some p→R x p
 | 0,L,Q,hl,h,j,x,p,hx,hp=>by
  cases j with
  | zero=>simp at hx hp;subst hx;subst hp;exact h0
  | succ j=>exact h j x p (by simpa using hx) (by simpa using hp)
 | i + 1,[],[],hl,h,j,x,p,hx,hp=>by
  cases j with
  | zero=>simp at hx hp;subst hx;subst hp;exact h0
  | succ j=>simp at hx
 | i + 1,[],q :: Q,hl,_,_,_,_,_,_=>by simp at hl
 | i + 1,y :: L,[],hl,_,_,_,_,_,_=>by simp at hl
 | i + 1,y :: L,q :: Q,hl,h,j,x,p,hx,hp=>by
  cases j with
  | zero=>exact h 0 x p (by simpa using hx) (by simpa using hp)
  | succ j=>exact A3 h0 i (by simpa using hl) (fun k u v hu hv=>h (k + 1) u v (by simpa using hu) (by simpa using hv)) j x p (by simpa using hx) (by simpa using hp)
theorem wJ {Q:List (List Value)}:(∀p∈Q,p.length=3)→Q.flatten.length=Q.length * 3:=by
 induction Q with
 | nil=>intro _;rfl
 | cons q Q ih=>
  intro h;rw [b₅,c₃,ih fun p hp=>h p (b₉ _ hp),h q (b₃ ..),f₃];omega
theorem nT: ∀(i:Nat) {Q:List (List Value)},(∀p∈Q,p.length=3)→(Q.take i).flatten=Q.flatten.take (i * 3)∧(Q.drop i).flatten=Q.flatten.drop (i * 3)
 | 0,Q,_=>by simp
 | i + 1,[],_=>by simp
 | i + 1,q :: Q,h=>by
  have hq:=h q (b₃ ..)
  obtain⟨h1,h2⟩:=nT i (Q:=Q) fun p hp=>h p (b₉ _ hp)
  rw [e₈,List.drop_succ_cons,b₅,b₅,h1,h2,show (i + 1) * 3=q.length + i * 3 by omega,List.take_length_add_append,List.drop_length_add_append]
  exact⟨rfl,rfl⟩
theorem Gi {w:World} {P:bC} {adr:dV} {L:List MV} {Q:List (List Value)} (hl:Q.length=L.length) (h: ∀(j:Nat) x p,L[j]? =some x→Q[j]? =some p→bF w P adr x p): ∀v∈Q.flatten,v.oneCell'=true:=by
 intro v hv;obtain⟨p,hp,hvp⟩:=List.mem_flatten.1 hv;obtain⟨j,hj⟩:=List.getElem?_of_mem hp;have hjl:=(a₀.1 hj).1;exact(h j _ p (a₁ om) hj).one v hvp
theorem wK {B g:Nat} {w0 w:World} (hb:Below B w0 w) (hBg:B≤g) (cs:Array Value):Below B w0 (w.setRow g cs):=
 ⟨hb.os,hb.tape,hb.output,by rw [setRow_size];exact hb.size,fun k hk=>(setRow_other _ _ _ _ om).trans (hb.block k hk)⟩
theorem wL {ex:Fp} {w:World} {g:Nat} (c:Array Value) (hx:ex g):bl ex w (w.setRow g c):=⟨rfl,rfl,rfl,sm,fun b _ hne=>setRow_other _ _ _ _ fun e=>hne (e▸hx)⟩
theorem uF {w:World} {g:Nat} {cur:Array Value} {ty:TypeId} (hg:w.heap[g]? =some (.cells cur ty (0,0))) {cs:List Value} (hp:cs <+:cur.toList) {j:Nat} {v:Value} (hj:cs[j]? =some v):w.cell? ⟨g,j,none⟩=some v:=by
 have h1:cur[j]? =some v:=by rw [← Array.getElem?_toList];exact cI hp hj
 unfold World.cell?;rw [hg];exact h1
theorem En {b0:MB} {c:Nat} {b:MB} (h:VM.get [(2,b0)] c=some b):aN (fun _=>none) 2 b0 c=some b:=by
 rw [VM.get_cons] at h;by_cases e:c=2
 ·subst e;rw [aF];exact h
 ·rw [if_neg (Ne.symm e)] at h;cases h
theorem I1 {w:World} {P:bC} {adr:dV} {m:FM} (h:aQ w P adr m):aQ w.drew P adr m∧bg w w.drew P P adr adr:=by
 have k:bg w w.drew P P adr adr:=⟨fun _ _ h=>h,fun _ _ _=>rfl,fun _ _ h=>h,fun _ _ cur _ _ h=>⟨cur,h,rfl⟩⟩;refine⟨⟨fun c b hc=>?_,h.inj,h.prot⟩,k⟩;rcases h.blk c b hc with h1 | ⟨g,h1,h2⟩
 ·exact .inl h1
 ·exact .inr ⟨g,h1,h2.keep k rfl fun _ h=>h⟩
theorem Gj (l:List aW) (a:aW) (i:Nat) (hi:i < l.length) (hl:l.length≤100000):aH Tryz.prog G 205 [.ms 0 3 0 l.length, .int .i64 i, .ms 1 3 0 1] [(0,cD l),(1,cD [a])] 2 (.ms 2 3 0 (l.length + 1)) [(2,cD (l.take i ++ a :: l.drop i))] 3:=by
 intro w P adr vals hg hI hn hL hargs;cases hargs with | cons a1 hargs=>cases hargs with | cons a2 hargs=>cases hargs with | cons a3 hargs=>
 cases hargs;have e2:=a2.int_;subst e2;rcases a1.ms_ with ⟨_,_,h0⟩ | ⟨g,o,cap,hg1,rfl,ho,hcap,hcm,cur0,ty0,hw0,hsz0⟩
 ·omega
 rcases a3.ms_ with ⟨_,_,h0⟩ | ⟨gv,ov,capv,hg3,rfl,hov,hcapv,_,_⟩
 ·omega
 have ho:o=0:=by simpa using ho (.inr rfl)
 subst ho;have hov:ov=0:=by simpa using hov (.inr rfl)
 subst hov;have hsz0:=hsz0 rfl
 -- what memory holds
 rcases hI.blk 0 (cD l) rfl with ⟨_,h2,_⟩ | ⟨g',h1,h2⟩
 ·have:(cD l).l.length=0:=by rw [h2];rfl
  rw [show (cD l).l.length=l.length from c₁ _] at this;omega
 rw [hg1] at h1;injection h1 with h1
 subst h1;obtain⟨cur,Q,hw,hQl,hQ3,hQr,hQp⟩:=h2.ofR rfl;rcases hI.blk 1 (cD [a]) rfl with ⟨_,h3,_⟩ | ⟨g',h1,h3⟩
 ·cases h3
 rw [hg3] at h1;injection h1 with h1
 subst h1;obtain⟨curv,V,hwv,hVl,hV3,hVr,hVp⟩:=h3.ofR rfl;have hne:gv≠g:=fun e=>absurd (hI.inj 1 0 _ _ g rfl rfl (by rw [← e];exact hg3) hg1) (by decide)
 rw [hw0] at hw;injection hw with hw
 injection hw with hw ht
 subst hw;subst ht;have hQl:Q.length=(l.map aV).length:=hQl;have hVl:V.length=1:=hVl;obtain⟨p,rfl⟩: ∃p,V= [p] :=by
  match V,hVl with
  | [p],_=>exact ⟨p,rfl⟩
 have hp3:p.length=3:=hV3 p sm;have hpr:bF w P noAdr (aV a) p:=hVr 0 _ _ rfl rfl;rw [b₅,List.flatten_nil,f₉] at hVp;have hQr: ∀(j:Nat) x p,(l.map aV)[j]? =some x→Q[j]? =some p→bF w P noAdr x p:=hQr
 have hQ3: ∀p∈Q,p.length=3:=hQ3
 have hcl:Q.flatten.length=l.length * 3:=by rw [wJ hQ3,hQl,c₁]
 have h1c:=Gi hQl hQr;have h1v: ∀v∈p,v.oneCell'=true:=hpr.one
 have hvs: ∀j v,p[j]? =some v→w.cell? ⟨gv,j,none⟩=some v:=fun j v hj=>uF hwv hVp hj
 -- the row behind it
 have hQn: ∀(j:Nat) x q,((l.take i ++ a :: l.drop i).map aV)[j]? =some x→(Q.take i ++ p :: Q.drop i)[j]? =some q→bF w P noAdr x q:=by
  rw [e₁,c₆,List.map_take,List.map_drop];exact A3 hpr i hQl hQr
 have hQn3: ∀q∈Q.take i ++ p :: Q.drop i,q.length=3:=by
  intro q hq;rcases List.mem_append.1 hq with h | h
  ·exact hQ3 q (c₉ h)
  ·rcases a₆.1 h with rfl | h
   ·exact hp3
   ·exact hQ3 q (c₀ h)
 have hQnl:(Q.take i ++ p :: Q.drop i).length=((l.take i ++ a :: l.drop i).map aV).length:=by
  simp only [c₃,f₃,a₅,c₇,c₁];rw [hQl,c₁]
 have hQnf:(Q.take i ++ p :: Q.drop i).flatten=Q.flatten.take (i * 3) ++ p ++ Q.flatten.drop (i * 3):=by
  rw [e₉,b₅,(nT i hQ3).1,(nT i hQ3).2,c₅]
 have h2n:=hn 2 (a₇ _);by_cases hroom:cap < l.length + 1
 ·refine(I0 g 0 l.length cap i gv 0 capv Q.flatten p w hi hcap hroom om hcl hp3 (fun j v hj=>by rw [c₂];exact uF hw0 hQp hj) (fun j v hj=>by rw [c₂];exact hvs j v hj) h1c h1v).mono ?_;rintro e w' ⟨C,hC1,hC2,ROW,hR,hRp,rfl,R1,R0,rfl⟩;have hb:Below w.heap.size w ((((w.alloc (.cells R0 87)).drew.setRow w.heap.size R1).drew).setRow w.heap.size ROW):=
   wK (wK (Below.alloc1 w _).drew (a₇ _) _).drew (a₇ _) _
  have hgn:((((w.alloc (.cells R0 87)).drew.setRow w.heap.size R1).drew).setRow w.heap.size ROW).heap[w.heap.size]? =some (.cells ROW 87 (0,0)):=
   setRow_heap _ _ R1 ROW _ _ (setRow_heap _ _ R0 R1 _ _ (heap_alloc_new w _))
  generalize ((((w.alloc (.cells R0 87)).drew.setRow w.heap.size R1).drew).setRow w.heap.size ROW)=w' at *;have hI0:aQ w P adr (fun _=>none):=hI.sub fun c b hc=>nomatch hc
  obtain⟨k1,k2⟩:=hI0.new (b:=cD (l.take i ++ a :: l.drop i)) h2n rfl hb hgn hQnl hQn3 (fun j x q hx hq=>hQn j x q hx hq) (by rw [hQnf];exact hRp) (b₂ _);refine⟨_,rfl,P,aN adr 2 w.heap.size,k1.sub fun c b hc=>?_, .val [_] (.ms w.heap.size 0 C (aF _ _ _) (fun _=>by simp) hC1 hC2 ⟨ROW,_,hgn,fun _=>hR⟩),k2,fun c hc=>aK _ _ om,fun c hc=>?_,fun c g hc=>?_,fun b o hb=> .inl hb,(bl.of_below hb).weak fun _ e=>e.elim⟩
  ·exact En hc
  ·rw [aK _ _ om];exact hn c om
  ·by_cases e:c=2
   ·subst e;rw [aF] at hc;injection hc with hc
    exact .inl om
   ·rw [aK _ _ e] at hc;exact .inr ⟨c,hc⟩
 ·refine(Gh g l.length cap i gv capv Q.flatten p cur0 curv _ w hi om hcm hne hw0 hsz0 hwv hcl hp3 hQp hvs h1c h1v).mono ?_;rintro e w' ⟨ROW,hR,hRp,rfl,R1,rfl⟩;rw [setRow_setRow];obtain⟨hI1,hk1⟩:=I1 hI;have hI2:aQ w.drew P adr (aN (fun _=>none) 0 (cD l)):=hI1.sub fun c b hc=>by
   by_cases e:c=0
   ·subst e;rw [aF] at hc;exact hc
   ·rw [aK _ _ e] at hc;cases hc
  have hpg: ∀o,¬ P g o:=fun o ho=>absurd (h2.pe o ho) (d₈ _)
  have hsz:ROW.size=cur0.size:=by rw [hR,hsz0]
  obtain⟨k1,k2⟩:=hI2.write (c:=0) (g:=g) (b:=cD l) (b':=cD (l.take i ++ a :: l.drop i)) (cur:=cur0) (cur':=ROW) (by show(l.map aV).length≤((l.take i ++ a :: l.drop i).map aV).length;simp;omega) (aF _ _ _) hg1 rfl rfl rfl hw0 hsz (fun o ho=>absurd ho (hpg o)) hQnl hQn3 (fun j x q hx hq=>(hQn j x q hx hq).keep hk1.free) (by rw [hQnf];exact hRp);have e0:aN (aN (fun _=>none) 0 (cD l)) 0 (cD (l.take i ++ a :: l.drop i))=aN (fun _=>none) 0 (cD (l.take i ++ a :: l.drop i)):=by
   funext x;by_cases e:x=0
   ·subst e;rw [aF,aF]
   ·rw [aK _ _ e,aK _ _ e,aK _ _ e]
  rw [e0] at k1;obtain⟨k3,k4⟩:=k1.rename (d:=2) hg1 h2n rfl;have hkk:=(hk1.trans k2).trans k4;refine⟨_,rfl,P,aN adr 2 g,k3.sub fun c b hc=>?_, .val [_] (.ms g 0 cap (aF _ _ _) (fun _=>by simp) om hcm ⟨ROW,_,setRow_heap _ _ cur0 ROW _ _ hw0,fun _=>hR⟩),hkk,fun c hc=>aK _ _ om,fun c hc=>?_,fun c g' hc=>?_,fun b o hb=> .inl hb,?_⟩
  ·have:=En hc;by_cases e:c=2
   ·subst e;rw [aF] at this ⊢;exact this
   ·rw [aK _ _ e] at this;cases this
  ·rw [aK _ _ om];exact hn c om
  ·by_cases e:c=2
   ·subst e;rw [aF] at hc;injection hc with hc
    exact .inr ⟨0,by rw [← hc];exact hg1⟩
   ·rw [aK _ _ e] at hc;exact .inr ⟨c,hc⟩
  ·have hs:=wL (w:=w.drew) (ex:=fun b=> ∃c0,adr c0=some b) (g:=g) ROW ⟨0,hg1⟩;exact⟨hs.os,hs.tape,hs.output,hs.size,hs.block⟩
end
section
open Go.RowKit Go.Lib
variable {G:GS}
attribute [local irreducible] aj aC aG aL aO vC aU au
theorem CI (l:List aW) (a:aW) (hl:l.length≤100000):aH Tryz.prog G 205 [.ms 0 3 0 l.length, .int .i64 l.length, .ms 1 3 0 1] [(0,cD l),(1,cD [a])] 2 (.ms 2 3 0 (l.length + 1)) [(2,cD (l ++ [a]))] 3:=by
 have hb:=al.mk (gm (κ:= .i64) (a₇ l.length));unfold cD;refine bR seat Tryz.func205 95 ?_;refine ae ?_;refine ad rfl ?_ ?_ <;> intro h
 ·refine ae ?_;refine aY rfl rfl (by intro R hR;refine dM hR ?_;(refine d₂ (a₇ _) ?_;refine⟨_,rfl,?_⟩;refine d₂ ⟨sm,aE (by kernel_rfl) pf⟩ ?_;refine⟨(l ++ [a]).map aV,sv (by rw [e₁];rfl),l.length + 1,sv pf,?_⟩);exact hR) rfl ?_;refine ae ?_;exact eb [_] [(2,19)] []
 ·rw [beq_self_eq_true] at h;cases h
theorem I2 (l:List aW) (a:aW) (i:Nat) (hi:i≤l.length) (hl:l.length≤100000):aH Tryz.prog G 205 [.ms 0 3 0 l.length, .int .i64 i, .ms 1 3 0 1] [(0,cD l),(1,cD [a])] 2 (.ms 2 3 0 (l.length + 1)) [(2,cD (l.take i ++ a :: l.drop i))] 3:=by
 by_cases h:i < l.length
 ·exact Gj l a i h hl
 ·have e:i=l.length:=om;subst e;rw [f₄,b₁];exact CI l a hl
end
section
variable {G:GS}
attribute [local irreducible] aj aC aG aL aO vC aU au
def yx (ks:List (List UInt8)):MV:= .mpv (ks.map .str) (a₄ ks.length (.st []))
theorem Gk (n i:Nat):setL (a₄ n (MV.st [])) i (.st [])=a₄ n (.st []):=by
 rw [setL_eq];apply List.ext_getElem
 ·simp
 ·intro k h1 h2;simp [List.getElem_set]
theorem Gl {Pg:Program} {E:VE} {M:VM} {o:Oper} {x:Operand} {t k e:TypeId} {c:Nat} {b:MB} {ks vs:List MV} (ho:o.op= .call ⟨.builtin .len, #[x], #[t]⟩) (hx:iD (VE.get E) x=some (.mp c)) (hc:VM.get M c=some b) (hb:b.l= [.mpv ks vs]) (hu:Pg.underlying t=some (.map k e)) (hl:vs.length=ks.length):pW Pg E M o=some ks.length:=by
 unfold pW;rw [ho];dsimp only;rw [hx];dsimp only;rw [hc];dsimp only;rw [hb];dsimp only;rw [hu];dsimp only;rw [if_pos hl]
theorem Lv (l:gr) (t:iJ) (hl:l.acs.length≤100000) (hs:dC l.acs) (ht:gE t):aD Tryz.prog G 203 [lgM l,nh t] (.int .i64 (gJ l.acs t.trs []).length):=by
 obtain⟨snd,seq,gas,fee,memo,trs⟩:=t;obtain⟨h1,h2,h3,h4,h5,h6,h7⟩:=ht;dsimp only at h1 h2 h3 h4 h5 h6 h7;have cp:=fun nm=>AX (G:=G) l nm hl hs
 obtain⟨acs,col⟩:=l;dsimp only at hl hs cp ⊢;generalize hR:gJ acs trs [] =R;unfold lgM at cp;unfold lgM nh;dsimp only at cp ⊢;refine aZ seat Tryz.func203 34 ?_;refine ae ?_;refine ar (Nat×List (List UInt8)) (fun x=> [(14, .int .i64 x.1),(13, .int .i64 trs.length),(12, .sl trs.length (trs.map lh)),(5, .mp 2),(2, .ptr 0 2 0 0 [])]) (fun x=> [(0,⟨36,2,false,0,[.st [.sl acs.length (acs.map aV), .int .u64 col]]⟩),(2,⟨170,0,false,0,[yx x.2]⟩)]) 3 (fun x=>x.1≤trs.length∧x.2.length≤x.1∧gJ acs (trs.drop x.1) x.2=R) (fun x=>trs.length - x.1) (0,[]) ⟨b₂ _,a₇ _,by rw [b₇];exact hR⟩ (by dsimp only;exact(vm [(0,_),(2,_)] [])) ?_;clear hR;rintro⟨k,ks⟩ ⟨hk,hks,hR⟩;unfold yx;try dsimp only
 dsimp only at hk hks hR;refine ae ?_;refine ad rfl ?_ ?_ <;> intro h
 ·have hk':k < trs.length:=by have:=ot h;omega
  have hel:=kP hk';rw [a₃ hk',gJ] at hR;have c1:=cp trs[k].to_;generalize trs[k] =x at *;obtain⟨to_,amt⟩:=x;dsimp only at c1 hR;replace hel:cS (trs.map lh) trs.length (k:Int)=some (.st [.str to_, .int .u64 amt]):=hel;have hel:=al.mk hel;generalize posA to_ acs=pp at *;cases hb:(bd acs to_).2 with
  | true=>
   rw [hb] at c1 hR;rw [if_pos rfl] at hR;refine ae ?_;refine cC (c1) ?_;exact⟨(k + 1,ks),⟨dm,dm,hR⟩,dm,(by dsimp only;exact(vm [(0,_),(2,_)] []))⟩
  | false=>
   rw [hb] at c1 hR;rw [if_neg sm] at hR;unfold Ge at hR;by_cases hm:to_∈ks
   ·rw [if_pos hm] at hR;obtain⟨j,hj,hjl⟩:=qw (i:=0) hm;have hj:=al.mk hj;have hz:=bN.mk (show(a₄ ks.length (MV.st [])).length=(ks.map MV.str).length by simp);have hv:=aT.mk (show [MV.mpv (ks.map MV.str) (setL (a₄ ks.length (MV.st [])) (0 + j) (.st []))] = [MV.mpv (ks.map MV.str) (a₄ ks.length (.st []))] by rw [Gk]);refine ae ?_;refine cC (c1) ?_;exact⟨(k + 1,ks),⟨dm,dm,hR⟩,dm,(by dsimp only;exact(vm [(0,_),(2,_)] []))⟩
   ·rw [if_neg hm] at hR;have hj:=al.mk (uC (i:=0) hm);have hz:=bN.mk (show(a₄ ks.length (MV.st [])).length=(ks.map MV.str).length by simp);have hv:=aT.mk (show [MV.mpv (ks.map MV.str ++ [.str to_]) (a₄ ks.length (MV.st []) ++ [.st []])] = [MV.mpv ((ks ++ [to_]).map MV.str) (a₄ (ks ++ [to_]).length (.st []))] by rw [e₁,c₃,e₃,List.replicate_succ'];rfl);refine ae ?_;refine cC (c1) ?_;exact⟨(k + 1,ks ++ [to_]),⟨dm,by simp;omega,hR⟩,dm,(by dsimp only;exact(vm [(0,_),(2,_)] []))⟩
 ·have hk':k=trs.length:=by have:=oF h;omega
  subst hk';rw [b₁,gJ] at hR;subst hR;refine ae ?_;refine MG (k:=ks.length) ?_ rfl ?_
  ·refine Eq.trans (Gl (ks:=ks.map MV.str) (vs:=a₄ ks.length (.st [])) (b:=⟨170,0,false,0,[.mpv (ks.map MV.str) (a₄ ks.length (.st []))]⟩) (c:=2) (k:=9) (e:=172) (t:=170) (x:= .tmp 32) ?_ ?_ ?_ rfl (by kernel_rfl) sm) (congrArg some (c₁ _));all_goals rfl
  refine ae ?_;refine av ?_;rfl
end
section
variable {G:GS}
attribute [local irreducible] aj aC aG aL aO vC aU au
theorem I3 (l:gr) (price:Nat) (t:iJ) (size:Nat) (hl:kS l) (hs:dC l.acs) (ht:gE t) (hp:bh price) (hz:size≤1000000000):aD Tryz.prog G 164 [lgM l, .int .u64 price,nh t, .int .i64 size] (.int .i64 (fg l price t size)):=by
 have cc:=Eg (G:=G) t ht;have cf:=Lv (G:=G) l t (by have:=hl.1;omega) hs ht;have c1:=AX (G:=G) l t.sender (by have:=hl.1;omega) hs;have hdl:(bd l.acs t.sender).2=true→(ic l t (ek t).1).acs.length=l.acs.length + (gJ l.acs t.trs []).length:=IY hs;have hfl:=uB l.acs t.trs [];have hpos:=dS (nm:=t.sender) hs;have hple:=kZ t.sender l.acs;generalize hr:fg l price t size=R;unfold fg at hr;generalize ic l t (ek t).1=D at *;generalize ek t=cst at *;obtain⟨cv,cb⟩:=cst;obtain⟨acs,col⟩:=l;obtain⟨snd,seq,gas,fee,memo,trs⟩:=t;obtain⟨h1,h2,h3,h4,h5,h6,h7⟩:=ht;obtain⟨hl1,hl2,hl3⟩:=hl;obtain⟨dacs,dcol⟩:=D;dsimp only at h1 h2 h3 h4 h5 h6 h7 hl1 hl2 hl3 hr cc cf c1 hdl hpos hs hple;dsimp only [f₈] at hfl;have cu:=Lu (G:=G) (size:Int) (trs.length:Int) om om;have cn:=Lt (G:=G) gas price h3 hp;have hul:mg (size:Int) (trs.length:Int) < 18446744073709551616:=by unfold mg limS;omega
 generalize mg (size:Int) (trs.length:Int)=us at *;generalize jW gas price=mu at *;obtain⟨mv,mb⟩:=mu;generalize (gJ acs trs []).length=fr at *;generalize posA snd acs=pp at *;generalize bd acs snd=g at *;obtain⟨⟨gn,gb,gs⟩,gok⟩:=g;dsimp only at c1 cn hr hdl hpos;unfold nh lgM at *;dsimp only at *;cases gok with
 | false=>
  rw [if_pos rfl] at hr;refine aZ seat Tryz.func164 83 ?_;refine ae ?_;refine cC (c1) ?_;refine av ?_;refine congrArg (MV.int .i64) ?_;(repeat' split at hr) <;> omega
 | true=>
  rw [if_neg sm] at hr;have hdl:=hdl rfl;have hel:acs[pp]? =some ⟨gn,gb,gs⟩:=by
   rcases hpos with ⟨_,h,_⟩ | ⟨h,_⟩
   ·exact h
   ·cases h
  have hppl:pp < acs.length:=(a₀.1 hel).1;have hel:cS (acs.map aV) acs.length (pp:Int)=some (.st [.str gn, .int .u64 gb, .int .u64 gs]):=by
   have h:=eN hppl;rw [(a₀.1 hel).2] at h;exact h
  have hel:=al.mk hel;clear hpos;refine aZ seat Tryz.func164 83 ?_;refine ae ?_;refine cC (c1) ?_;refine ad rfl ?_ ?_ <;> intro h
  ·have k0: ¬ (gs:Int)=(seq:Int):=by simpa using h
   have k1:gs≠seq:=om;refine ae ?_;refine av ?_;refine congrArg (MV.int .i64) ?_;(repeat' split at hr) <;> omega
  have k0:(gs:Int)=(seq:Int):=by simpa using h
  have k1:gs=seq:=om;refine ae ?_;refine ad rfl ?_ ?_ <;> intro h
  ·have k2:(gs:Int)=18446744073709551615:=by simpa using h
   refine ae ?_;refine av ?_;refine congrArg (MV.int .i64) ?_;(repeat' split at hr) <;> omega
  have k2: ¬ (gs:Int)=18446744073709551615:=by simpa using h
  refine ae ?_;refine aw [ag 0,ag 1,ag 2,ag 3,ag 4,ag 5,de 6,ag 7,ag 8] ?_;refine ae ?_;refine dk (cu) ?_;refine ad rfl ?_ ?_ <;> intro h
  ·have k3:=ot h;refine ae ?_;refine av ?_;refine congrArg (MV.int .i64) ?_;(repeat' split at hr) <;> omega
  have k3:=oF h;refine ae ?_;refine cC (cn) ?_;cases mb with
  | false=>
   rw [if_neg om,if_neg om,if_neg om,if_pos rfl] at hr;refine ae ?_;refine av ?_;refine congrArg (MV.int .i64) ?_;(repeat' split at hr) <;> omega
  | true=>
   rw [if_neg om,if_neg om,if_neg om,if_neg sm] at hr;refine ae ?_;refine ad rfl ?_ ?_ <;> intro h
   ·have k4:=ot h;rw [if_pos om] at hr;refine ae ?_;refine av ?_;refine congrArg (MV.int .i64) ?_;(repeat' split at hr) <;> omega
   have k4:=oF h;rw [if_neg om] at hr;refine ae ?_;refine cC (cc) ?_;cases cb with
   | false=>
    rw [if_pos rfl] at hr;refine ae ?_;refine av ?_;refine congrArg (MV.int .i64) ?_;(repeat' split at hr) <;> omega
   | true=>
    rw [if_neg sm] at hr;refine ae ?_;refine ad rfl ?_ ?_ <;> intro h
    ·have k5:=ot h;refine ae ?_;refine av ?_;refine congrArg (MV.int .i64) ?_;(repeat' split at hr) <;> omega
    have k5:=oF h;refine ae ?_;refine aw [ag 0,ag 1,ag 2,ag 3,ag 4,de 5,ag 6,ag 7,ag 8] ?_;refine ae ?_;refine dk (cf) ?_;refine ad rfl ?_ ?_ <;> intro h
    ·have k6:=ot h;refine ae ?_;refine av ?_;refine congrArg (MV.int .i64) ?_;(repeat' split at hr) <;> omega
    have k6:=oF h;refine ae ?_;refine av ?_;refine congrArg (MV.int .i64) ?_;(repeat' split at hr) <;> omega
end
section
variable {G:GS}
attribute [local irreducible] aj aC aG aL aO vC aU au
theorem yy {l:List aW} {k:Nat} {nm:List UInt8} {b s:Nat} (h:l[k]? =some ⟨nm,b,s⟩):bH (l.map aV) (0 + k)=some (.st [.str nm, .int .u64 b, .int .u64 s]):=by rw [bD,Nat.zero_add,List.getElem?_map,h];rfl
theorem yz (l:List aW) (k:Nat) (nm:List UInt8) (b s:Nat):setL (l.map aV) (0 + k) (.st [.str nm, .int .u64 b, .int .u64 s])=(l.set k ⟨nm,b,s⟩).map aV:=by rw [setL_eq,Nat.zero_add,List.map_set];rfl
theorem uG {acs:List aW} {a:aW} {nm:List UInt8} (hs:dC acs) (h:(bd acs nm)=(a,true)):a.name=nm∧acs[posA nm acs]? =some a:=by
 rcases dS (nm:=nm) hs with ⟨_,h2,h3⟩ | ⟨h1,_⟩
 ·rw [h] at h2 h3;exact⟨h3,h2⟩
 ·rw [h] at h1;cases h1
theorem Lw {z:List aW} {x:kM} {b:aW} (hs:dC z) (h:bd z x.to_=(b,true)):fQ z x=z.set (posA x.to_ z) ⟨b.name,(b.bal + x.amt) % 18446744073709551616,b.seq⟩:=by
 obtain⟨h1,_⟩:=uG hs h;have hp:kV x z=b:=by unfold kV;rw [h];rfl
 unfold fQ;rw [hp,mq hs (by dsimp only;rw [h1,h])];dsimp only;rw [h1]
theorem Nt {z:List aW} {x:kM} (hs:dC z) (h:(bd z x.to_).2=false):fQ z x=z.take (posA x.to_ z) ++ ⟨x.to_,(0 + x.amt) % 18446744073709551616,0⟩ :: z.drop (posA x.to_ z):=by
 have hp:kV x z=⟨x.to_,0,0⟩:=by unfold kV;rw [h];rfl
 unfold fQ;rw [hp,pC hs (by exact h)]
theorem Lx (z:List aW) (a:aW) {p:Nat} (hp:p≤z.length):(z.take p ++ a :: z.drop p)[p]? =some a:=by
 have h:(z.take p).length=p:=by simp [e₀ hp]
 rw [List.getElem?_append_right om,h,Nat.sub_self];rfl
theorem Ly (z:List aW) (a b:aW) {p:Nat} (hp:p≤z.length):(z.take p ++ a :: z.drop p).set p b=z.take p ++ b :: z.drop p:=by
 have h:(z.take p).length=p:=by simp [e₀ hp]
 rw [List.set_append_right _ _ om,h,Nat.sub_self];rfl
theorem LA (l:gr) (t:iJ) (hl:kS l) (hs:dC l.acs) (ht:gE t) (hgot:(bd l.acs t.sender).2=true):aH Tryz.prog G 166 [.st [.ms 0 3 0 l.acs.length, .int .u64 l.col],nh t] [(0,cD l.acs)] 1 (lgM (ic l t (ek t).1)) [] 1:=by
 have cc:=Eg (G:=G) t ht;have hcu:=ql t;obtain⟨acs,col⟩:=l;obtain⟨snd,seq,gas,fee,memo,trs⟩:=t;obtain⟨h1,h2,h3,h4,h5,h6,h7⟩:=ht;obtain⟨hl1,hl2,hl3⟩:=hl;dsimp only at h1 h2 h3 h4 h5 h6 h7 hl1 hl2 hl3 hs hgot ⊢;have cp:=fun (z:List aW) nm (hz:dC z) (hzl:z.length≤100000)=>IX (G:=G) z col nm hzl hz
 generalize ek ⟨snd,seq,gas,fee,memo,trs⟩=cst at *;obtain⟨cv,cb⟩:=cst;dsimp only at cc hcu ⊢;obtain⟨⟨⟨gn,gb,gs⟩,gok⟩,hg⟩: ∃g,bd acs snd=g:=⟨_,rfl⟩
 rw [hg] at hgot;dsimp only at hgot;subst hgot;obtain⟨hgn,hel⟩:=uG hs hg;have hsm:eM ⟨gn,gb,gs⟩:=by have:=mT (acs:=acs) (name:=snd) hl3;rwa [hg] at this
 obtain⟨q1,q2,q3⟩:=hsm;dsimp only at hgn q1 q2 q3;unfold bh at q2 q3 hcu h4 hl2;have hppl:posA snd acs < acs.length:=(a₀.1 hel).1;have hdA:i7 ⟨acs,col⟩ ⟨snd,seq,gas,fee,memo,trs⟩ cv=⟨gn,(gb + (18446744073709551616 - cv)) % 18446744073709551616,(gs + 1) % 18446744073709551616⟩:=by unfold i7;dsimp only;rw [hg]
 have hz0:eP ⟨gn,(gb + (18446744073709551616 - cv)) % 18446744073709551616,(gs + 1) % 18446744073709551616⟩ acs=acs.set (posA snd acs) ⟨gn,(gb + (18446744073709551616 - cv)) % 18446744073709551616,(gs + 1) % 18446744073709551616⟩:=by
  rw [mq hs (by dsimp only;rw [hgn,hg])];dsimp only;rw [hgn]
 have hsm0: ∀a∈eP ⟨gn,(gb + (18446744073709551616 - cv)) % 18446744073709551616,(gs + 1) % 18446744073709551616⟩ acs,eM a:=fun a h=>(jX h).elim (fun e=>e▸⟨q1,mod_u64,mod_u64⟩) (hl3 a)
 have hs0:dC (eP ⟨gn,(gb + (18446744073709551616 - cv)) % 18446744073709551616,(gs + 1) % 18446744073709551616⟩ acs):=pD hs;have e1:=aT.mk (show IntKind.u64.wrap ((gb:Int) - (cv:Int))=(((gb + (18446744073709551616 - cv)) % 18446744073709551616:Nat):Int) by rw [wu64];omega);have e2:=aT.mk (show IntKind.u64.wrap ((gs:Int) + 1)=(((gs + 1) % 18446744073709551616:Nat):Int) by rw [wu64];omega);have e3:=aT.mk (show IntKind.u64.wrap ((col:Int) + (fee:Int))=(((col + fee) % 18446744073709551616:Nat):Int) by rw [wu64];omega);unfold ic;rw [hdA];dsimp only;generalize (gb + (18446744073709551616 - cv)) % 18446744073709551616=nb at *;generalize (gs + 1) % 18446744073709551616=ns at *;generalize (col + fee) % 18446744073709551616=nc at *;have r1:=al.mk (yy hel);have t1:=yz acs (posA snd acs) gn nb gs;have r2:=yy (show(acs.set (posA snd acs) ⟨gn,nb,gs⟩)[posA snd acs]? =some ⟨gn,nb,gs⟩ by rw [List.getElem?_set_self hppl]);have t2:=yz (acs.set (posA snd acs) ⟨gn,nb,gs⟩) (posA snd acs) gn nb ns;rw [List.set_set,← hz0,← t1] at t2;rw [← t1] at r2;have r2:=al.mk r2;have hz0l:(eP ⟨gn,nb,ns⟩ acs).length=acs.length:=by rw [hz0,d₀]
 have c1:=cp acs snd hs om;rw [hg] at c1;generalize hR:trs.foldl fQ (eP ⟨gn,nb,ns⟩ acs)=R;generalize eP ⟨gn,nb,ns⟩ acs=z0 at *;generalize posA snd acs=pp0 at *;clear hz0 hdA hel hg t1;unfold cD at cp c1 ⊢;unfold lgM nh at *;dsimp only at *;refine bR seat Tryz.func166 88 ?_;refine ae ?_;refine cC (cc) ?_;refine yc (c1) [(0,0)] ?_;refine ae ?_;refine ar (Nat×List aW×List MV×Nat×Bool) (fun x=> [(47, .int .i64 x.1),(46, .int .i64 trs.length),(45, .sl trs.length (trs.map lh)),(4, .ptr 3 2 0 0 []),(3, .ptr 2 6 0 0 []),(2, .ptr 1 2 0 0 [])]) (fun x=>match x.2.2.2.2 with
  | true=> [(1,⟨36,2,false,0,[.st [.ms 4 3 0 x.2.2.2.1, .int .u64 col]]⟩),(4,⟨87,3,true,0,x.2.2.1⟩),(2,⟨100,6,false,0,[.st [.str snd, .int .u64 seq, .int .u64 gas, .int .u64 fee, .str memo, .sl trs.length (trs.map lh)]]⟩),(3,⟨36,2,false,0,[.st [.nils, .int .u64 0]]⟩)]
  | false=> [(1,⟨36,2,false,0,[.st [.ms 0 3 0 x.2.2.2.1, .int .u64 col]]⟩),(0,⟨87,3,true,0,x.2.2.1⟩),(2,⟨100,6,false,0,[.st [.str snd, .int .u64 seq, .int .u64 gas, .int .u64 fee, .str memo, .sl trs.length (trs.map lh)]]⟩),(3,⟨36,2,false,0,[.st [.nils, .int .u64 0]]⟩)]) 5 (fun x=>x.1≤trs.length∧x.2.1.length≤acs.length + x.1∧dC x.2.1∧(∀a∈x.2.1,eM a)∧(trs.drop x.1).foldl fQ x.2.1=R∧x.2.2.1=x.2.1.map aV∧x.2.2.2.1=x.2.1.length) (fun x=>trs.length - x.1) (0,z0,_,acs.length,false) ⟨b₂ _,dm,hs0,hsm0,by dsimp only;rw [b₇];exact hR,t2,hz0l.symm⟩ (by dsimp only;exact(vm [(1,_),(2,_),(3,_)] [])) ?_
 clear hR t2 r1 r2 c1 hz0l hs0 hsm0;rintro⟨k,z,Z,m,f⟩ ⟨hk,hzn,hz,hzs,hRk,hZ,hm⟩;dsimp only at hk hzn hz hzs hRk hZ hm;subst hZ;subst hm;try dsimp only
 refine ae ?_;refine ad rfl ?_ ?_ <;> intro h
 ·have hk':k < trs.length:=by have:=ot h;omega
  have hel:=kP hk';have hx:=h7 _ (b₀ hk');have hps:=xZ hx hzs;rw [a₃ hk',d₉] at hRk;generalize trs[k] =x at *;obtain⟨to_,amt⟩:=x;obtain⟨hx1,hx2⟩:=hx;dsimp only at hx1 hx2;unfold bh at hx2;replace hel:cS (trs.map lh) trs.length (k:Int)=some (.st [.str to_, .int .u64 amt]):=hel;have helx:=al.mk hel;clear hel;have cq:=cp z to_ hz om;obtain⟨⟨⟨bn,bb,bs⟩,bok⟩,hg⟩: ∃g,bd z to_=g:=⟨_,rfl⟩
  have hgs:=mT (name:=to_) hzs;rw [hg] at cq hgs;obtain⟨hgs1,hgs2,hgs3⟩:=hgs;dsimp only at cq hgs1 hgs2 hgs3;unfold bh at hgs2 hgs3;cases bok with
  | true=>
   obtain⟨hbn,hel⟩:=uG hz hg;have hz2:=Lw (x:=⟨to_,amt⟩) hz hg;dsimp only at hbn hel hz2;have hzs2:dC (fQ z ⟨to_,amt⟩):=pE hz;have hppl:posA to_ z < z.length:=(a₀.1 hel).1;have hzl:(fQ z ⟨to_,amt⟩).length=z.length:=by rw [hz2,d₀]
   have r1:=al.mk (yy hel);have s1:=yz z (posA to_ z) bn ((bb + amt) % 18446744073709551616) bs;rw [← hz2] at s1;have w1:=aT.mk (show IntKind.u64.wrap ((bb:Int) + (amt:Int))=(((bb + amt) % 18446744073709551616:Nat):Int) by rw [wu64];omega);generalize (bb + amt) % 18446744073709551616=sm at *;generalize fQ z ⟨to_,amt⟩=z' at *;generalize posA to_ z=pp at *;clear hz2 hg;cases f with
   | true=>
    dsimp only;refine ae ?_;refine yc (cq) [(0,4)] ?_;refine ae ?_;refine aw [ag 0,ag 1,ag 2,ag 3,ag 4,ag 5,ag 6,ag 7,ag 8,ag 9,ag 10,ag 11] ?_;refine ae ?_;exact⟨(k + 1,z',_,z.length,true),⟨dm,dm,hzs2,hps.1,hRk,s1,hzl.symm⟩,dm,(by dsimp only;exact(vm [(1,_),(4,_),(2,_),(3,_)] []))⟩
   | false=>
    dsimp only;refine ae ?_;refine yc (cq) [(0,0)] ?_;refine ae ?_;refine aw [ag 0,ag 1,ag 2,ag 3,ag 4,ag 5,ag 6,ag 7,ag 8,ag 9,ag 10,ag 11] ?_;refine ae ?_;exact⟨(k + 1,z',_,z.length,false),⟨dm,dm,hzs2,hps.1,hRk,s1,hzl.symm⟩,dm,(by dsimp only;exact(vm [(1,_),(2,_),(3,_)] []))⟩
  | false=>
   replace hg:(bd z to_).2=false:=by rw [hg]
   have hz2:=Nt (x:=⟨to_,amt⟩) hz hg;dsimp only at hz2;have hzs2:dC (fQ z ⟨to_,amt⟩):=pE hz;have hppl:posA to_ z≤z.length:=kZ _ _;have hzl:(fQ z ⟨to_,amt⟩).length=z.length + 1:=by rw [hz2];simp;omega
   have r1:=al.mk (yy (Lx z ⟨to_,0,0⟩ hppl));have s1:=yz (z.take (posA to_ z) ++ ⟨to_,0,0⟩ :: z.drop (posA to_ z)) (posA to_ z) to_ ((0 + amt) % 18446744073709551616) 0;rw [Ly _ _ _ hppl,← hz2] at s1;have w1:=aT.mk (show IntKind.u64.wrap ((0:Nat) + (amt:Int))=(((0 + amt) % 18446744073709551616:Nat):Int) by rw [wu64];omega);have ci:=I2 (G:=G) z ⟨to_,0,0⟩ (posA to_ z) hppl om;unfold cD at ci;generalize (0 + amt) % 18446744073709551616=sm at *;generalize z.take (posA to_ z) ++ ⟨to_,0,0⟩ :: z.drop (posA to_ z)=zi at *;generalize fQ z ⟨to_,amt⟩=z' at *;generalize posA to_ z=pp at *;clear hz2 hg;cases f with
   | true=>
    dsimp only;refine ae ?_;refine yc (cq) [(0,4)] ?_;refine ae ?_;refine bQ rfl (fun _ h=>h) rfl (ci) [(0,4),(1,_)] [] ⟨rfl,trivial,rfl,lm,mm⟩ rfl rfl ?_;refine ae ?_;refine aw [ag 0,ag 1,ag 2,ag 3,ag 4,ag 5,ag 6,ag 7,ag 8,ag 9,ag 10,ag 11] ?_;refine ae ?_;exact⟨(k + 1,z',_,z.length + 1,true),⟨dm,dm,hzs2,hps.1,hRk,s1,hzl.symm⟩,dm,(by dsimp only;exact(vm [(1,_),(4,_),(2,_),(3,_)] []))⟩
   | false=>
    dsimp only;refine ae ?_;refine yc (cq) [(0,0)] ?_;refine ae ?_;refine bQ rfl (fun _ h=>h) rfl (ci) [(0,0),(1,_)] [] ⟨rfl,trivial,rfl,lm,mm⟩ rfl rfl ?_;refine ae ?_;refine aw [ag 0,ag 1,ag 2,ag 3,ag 4,ag 5,ag 6,ag 7,ag 8,ag 9,ag 10,ag 11] ?_;refine ae ?_;exact⟨(k + 1,z',_,z.length + 1,true),⟨dm,dm,hzs2,hps.1,hRk,s1,hzl.symm⟩,dm,(by dsimp only;exact(vm [(1,_),(4,_),(2,_),(3,_)] []))⟩
 ·have hk':k=trs.length:=by have:=oF h;omega
  subst hk';rw [b₁,List.foldl_nil] at hRk;subst hRk;cases f with
  | true=>
   dsimp only;refine ae ?_;refine av ?_;refine⟨[_],[],[(4,z.length)],rfl,rfl,?_,rfl,⟨?_,trivial⟩,?_⟩
   ·exact⟨by show z.length≤(z.map aV).length;simp,trivial⟩
   ·exact .inr ⟨_,rfl,lm⟩
   ·exact mm
  | false=>
   dsimp only;refine ae ?_;refine av ?_;refine⟨[_],[],[(0,z.length)],rfl,rfl,?_,rfl,⟨?_,trivial⟩,?_⟩
   ·exact⟨by show z.length≤(z.map aV).length;simp,trivial⟩
   ·exact .inr ⟨_,rfl,lm⟩
   ·exact mm
end
section
attribute [local irreducible] aj aC aG aL aO vC aU au
theorem A4 {l:gr} {p:Nat} {t:iJ} {n:Nat} (h:fg l p t n=0):(bd l.acs t.sender).2=true:=by
 unfold fg at h;cases hb:(bd l.acs t.sender).2 with
 | true=>rfl
 | false=>rw [hb,if_pos rfl] at h;exact absurd h (by decide)
theorem Mm (l:gr) (price:Nat) (raw:List UInt8) (hl:kS l) (hp:bh price) (hraw:raw.length≤140737488355328):aH Tryz.prog GU 141 [lgM l, .int .u64 price, .sl raw.length (u8s raw)] [] 0 (.tup [lgM (Ar l price raw).1,jy (Ar l price raw).2]) [] 0:=by
 have cv:=Gb (G:=GU) l hl;have cd:=F5 raw hraw;have hsm:=kW (raw:=raw);have cp:=Ls (G:=GU) (aS raw).1.fee (aS raw).1.gas hsm.2.2.2.1 hsm.2.2.1;have co:=AW (G:=GU) l (by have:=hl.1;omega);have cf:=fun (hv:eY l=0) (he:(aS raw).2=0)=>I3 (G:=GU) l price _ raw.length hl (wH hv).1 hsm hp (by have:=DV he;omega)
 have cdn:=fun (hv:eY l=0) (hf:fg l price (aS raw).1 raw.length=0)=>LA (G:=GU) l _ hl (wH hv).1 hsm (A4 hf)
 generalize hr:Ar l price raw=R;obtain⟨⟨Racs,Rcol⟩,⟨Rcode,Rsnd,Rseq,Rgas,Rprio⟩⟩:=R;unfold Ar at hr;generalize aS raw=d at *;obtain⟨t,e⟩:=d;dsimp only at *;generalize eY l=vl at *;generalize ek t=cst at *;obtain⟨cstv,cstb⟩:=cst;dsimp only at *;generalize ic l t cstv=D at *;generalize fg l price t raw.length=fe at *;obtain⟨snd,seq,gas,fee,memo,trs⟩:=t;dsimp only at *;generalize o9 fee gas=pr at *;obtain⟨acs,col⟩:=l;obtain⟨dacs,dcol⟩:=D;obtain⟨h1,h2,h3,h4,h5,h6,h7⟩:=hsm;obtain⟨hl1,hl2,hl3⟩:=hl;dsimp only at h1 h2 h3 h4 h5 h6 h7 hl1 hl2 hl3;unfold cD at *;unfold lgM nh at *;unfold jy;dsimp only at *;by_cases hv:vl=0
 ·subst hv;replace cf:=cf rfl;rw [if_neg sm] at hr;by_cases he:e=0
  ·subst he;replace cf:=cf rfl;rw [if_neg sm] at hr;have hr2:=hr;simp only [d₆,kU.mk.injEq] at hr2;obtain⟨hD,rfl,rfl,rfl,rfl,rfl⟩:=hr2;clear hr;refine bR seat Tryz.func141 55 ?_;refine ae ?_;refine yc (co) [] ?_;refine ae ?_;refine cC (cv) ?_;refine jS (cd) ?_;refine aw [ag 0,ag 1,ag 2,ag 3,ag 4,de 5,ag 6,ag 7,ag 8,ag 9,ag 10,ag 11,ag 12,ag 13,ag 14,ag 15,de 16,ag 17,ag 18,ag 19] ?_;refine ae ?_;refine dk (cf) ?_;refine dk (cp) ?_;refine ad rfl ?_ ?_ <;> intro h
   ·have hfe:fe=0:=by
     have:(fe:Int)=0:=by simpa using h
     omega
    subst hfe;rw [if_neg sm] at hD;simp only [gr.mk.injEq] at hD;obtain⟨rfl,rfl⟩:=hD;have cdn:=cdn rfl rfl;refine ae ?_;refine yc (cdn) [(0,4)] ?_;refine ae ?_;refine aw [ag 0,ag 1,ag 2,ag 3] ?_;refine ae ?_;refine av ?_;exact en [_,_]
   ·have hfe:fe≠0:=fun e=>by subst e;simp at h
    rw [if_pos hfe] at hD;simp only [gr.mk.injEq] at hD;obtain⟨rfl,rfl⟩:=hD;refine ae ?_;refine aw [ag 0,ag 1,ag 2,ag 3] ?_;refine ae ?_;refine av ?_;refine⟨[_,_],[],[(4,acs.length)],rfl,rfl,?_,rfl,⟨?_,?_,trivial⟩,?_⟩
    ·exact⟨by show acs.length≤(acs.map aV).length;simp,trivial⟩
    ·exact .inr ⟨_,rfl,lm⟩
    ·exact rv
    ·exact mm
  ·rw [if_pos he] at hr;simp only [d₆,gr.mk.injEq,kU.mk.injEq] at hr;obtain⟨⟨rfl,rfl⟩,rfl,rfl,rfl,rfl,rfl⟩:=hr;refine bR seat Tryz.func141 55 ?_;refine ae ?_;refine yc (co) [] ?_;refine ae ?_;refine cC (cv) ?_;refine jS (cd) ?_;refine ad rfl ?_ ?_ <;> intro h
   ·refine ae ?_;refine av ?_;refine⟨[_,_],[],[(4,acs.length)],rfl,rfl,?_,rfl,⟨?_,?_,trivial⟩,?_⟩
    ·exact⟨by show acs.length≤(acs.map aV).length;simp,trivial⟩
    ·exact .inr ⟨_,rfl,lm⟩
    ·exact rv
    ·exact mm
   ·exact absurd (by simpa using h) he
 ·rw [if_pos hv] at hr;simp only [d₆,gr.mk.injEq,kU.mk.injEq] at hr;obtain⟨⟨rfl,rfl⟩,rfl,rfl,rfl,rfl,rfl⟩:=hr;refine bR seat Tryz.func141 55 ?_;refine ae ?_;refine yc (co) [] ?_;refine ae ?_;refine cC (cv) ?_;refine ad rfl ?_ ?_ <;> intro h
  ·refine ae ?_;refine av ?_;refine⟨[_,_],[],[(4,acs.length)],rfl,rfl,?_,rfl,⟨?_,?_,trivial⟩,?_⟩
   ·exact⟨by show acs.length≤(acs.map aV).length;simp,trivial⟩
   ·exact .inr ⟨_,rfl,lm⟩
   ·exact rv
   ·exact mm
  ·exact absurd (by simpa using h) hv
end
section
theorem Gm (a:aW) (m:List aW):uE (a :: m)=a.bal + uE m:=by simp [uE]
end
section
def cL (k:List UInt8) (l:List (List UInt8)):List (List UInt8):=l.filter (fun x=>decide (x≠k))
def dw (k:List UInt8) (l:List (List UInt8)) (size:Int):List (List UInt8):=if k∈l then cL k l ++ [k] else if min (max size 0) 1024=0 then l else l.drop (max ((l.length:Int) - min (max size 0) 1024 + 1) 0).toNat ++ [k]
theorem Gn {k:List UInt8} {l:List (List UInt8)} (hd:l.Nodup):cL k l=gu k l:=(gg hd).symm
theorem Gp {k:List UInt8} {l:List (List UInt8)} {size:Int} (hd:l.Nodup) (hl:(l.length:Int)≤min (max size 0) 1024):dw k l size=ik k l size:=by
 unfold dw;by_cases hk:k∈l
 ·rw [if_pos hk,uq hd hk];rfl
 ·rw [if_neg hk,qt hk];unfold uc;have e:max 0 (min size 1024)=min (max size 0) 1024:=om;rw [e];generalize min (max size 0) 1024=z at *;by_cases h0:z=0
  ·rw [if_pos h0,if_pos om];have:l= [] :=List.eq_nil_of_length_eq_zero om;subst this;rfl
  ·rw [if_neg h0];split
   ·have hz:(max ((l.length:Int) - z + 1) 0).toNat=1:=om;rw [hz];cases l with
    | nil=>simp at *;omega
    | cons a l=>rfl
   ·have hz:(max ((l.length:Int) - z + 1) 0).toNat=0:=om;rw [hz];rfl
def kc (s:cY) (key raw:List UInt8) (peer:Int) (r:kU) (ks:List (List UInt8)):cY:=
 { s with ents:=s.ents.filter (fun e=>decide (e.key ∉ ks)) ++ [AG s key raw peer r],cache:=ks.foldl (fun c k=>cL k c) s.cache,app:=fB s.app raw,arr:=s.arr + 1 }
theorem I4: ∀(ks l:List (List UInt8)),ks.foldl (fun c k=>cL k c) l=l.filter (fun x=>decide (x ∉ ks))
 | [],l=>by
  rw [f₀.2 fun _ _=>by simp]
  rfl
 | k :: ks,l=>by
  rw [d₉,I4 ks]
  unfold cL
  rw [List.filter_filter]
  congr 1
  funext e
  simp [Bool.and_comm]
theorem A5 {s:cY} {key raw:List UInt8} {peer:Int} {r:kU} {ks:List (List UInt8)} (h:dR s):kc s key raw peer r ks=jr s key raw peer r ks:=by
 unfold kc jr;rw [jc ks h.kd h.cd,I4];rfl
end
section
def je {α:Type} (p:α→Bool):List α→Nat→Int
 | [],_=> -1
 | a :: l,i=>if p a=true then(i:Int) else je p l (i + 1)
theorem mX {α:Type} (p:α→Bool): ∀(l:List α) (i:Nat),(je p l i= -1∧∀x∈l,p x=false)∨∃j,∃hj:j < l.length,je p l i=((i + j:Nat):Int)∧(∀x∈l.take j,p x=false)∧p l[j] =true
 | [],i=> .inl ⟨rfl,fun x h=>nomatch h⟩
 | a :: l,i=>by
  unfold je
  cases ha:p a with
  | true=>exact .inr ⟨0,sm,rfl,fun x h=>by simp at h,ha⟩
  | false=>
   rw [if_neg (by decide)]
   rcases mX p l (i + 1) with ⟨h1,h2⟩ | ⟨j,hj,h1,h2,h3⟩
   ·exact .inl ⟨h1,fun x hx=>by rcases a₆.1 hx with rfl | hx;exact ha;exact h2 x hx⟩
   ·refine .inr ⟨j + 1,by simpa using hj,by rw [h1];omega,fun x hx=>?_,h3⟩
    rw [e₈] at hx
    rcases a₆.1 hx with rfl | hx
    ·exact ha
    ·exact h2 x hx
theorem A6 (k:List UInt8): ∀(l:List Ent) (i:Nat),je (fun e:Ent=>decide (e.key=k)) l i=posK k (l.map (·.key)) i
 | [],_=>rfl
 | a :: l,i=>by
  unfold je
  rw [c₆,posK]
  simp only [decide_eq_true_eq]
  split
  ·rfl
  ·exact A6 k l (i + 1)
structure nj {α:Type} (p:α→Bool) (l:List α) (i j:Nat) (c:List α):Prop where
 hl:c.length=l.length
 ij:i < j
 jl:j≤l.length
 tk:c.take i=(l.take j).filter (fun x=> !p x)
 dr:c.drop j=l.drop j
theorem nj.start {α:Type} {p:α→Bool} {l:List α} {j:Nat} (hj:j < l.length) (h1: ∀x∈l.take j,p x=false) (h2:p l[j] =true):nj p l j (j + 1) l:=by
 refine⟨rfl,Nat.lt_succ_self j,hj,?_,rfl⟩;rw [a₈ hj,d₅,f₀.2 fun x hx=>by rw [h1 x hx];rfl];simp [h2]
theorem nj.at_ {α:Type} {p:α→Bool} {l c:List α} {i j:Nat} (h:nj p l i j c) (hj:j < l.length):c[j]? =some l[j] :=by
 have:=congrArg (fun z:List α=>z[0]?) h.dr;simpa [hj] using this
theorem nj.skip {α:Type} {p:α→Bool} {l c:List α} {i j:Nat} (h:nj p l i j c) (hj:j < l.length) (hp:p l[j] =true):nj p l i (j + 1) c:=by
 refine⟨h.hl,by have:=h.ij;omega,hj,?_,?_⟩
 ·rw [h.tk,a₈ hj,d₅];simp [hp]
 ·have:=congrArg (g₁ 1) h.dr;simpa using this
theorem nj.keep {α:Type} {p:α→Bool} {l c:List α} {i j:Nat} (h:nj p l i j c) (hj:j < l.length) (hp:p l[j] =false):nj p l (i + 1) (j + 1) (c.set i l[j]):=by
 have hij:=h.ij;have hl:=h.hl;refine⟨by rw [d₀,hl],om,hj,?_,?_⟩
 ·rw [a₈ hj,d₅,← h.tk];rw [a₈ (by rw [d₀];omega),List.take_set_of_le (a₇ i)];simp [hp]
 ·rw [List.drop_set_of_lt om];have:=congrArg (g₁ 1) h.dr;simpa using this
theorem nj.fin {α:Type} {p:α→Bool} {l c:List α} {i:Nat} (h:nj p l i l.length c):c.take i=l.filter (fun x=> !p x)∧i=(l.filter (fun x=> !p x)).length:=by
 have h1:=h.tk;rw [f₄] at h1;refine⟨h1,?_⟩;rw [← h1,a₅];have:=h.ij;have:=h.hl;omega
end
section
inductive RD (q:MV→Bool) (m:FM):MV→MV→Prop where
 | same {v} (h:q v=true):RD q m v v
 | nils:RD q m (.sl 0 []) .nils
 | ms {c off n es l'} (b:MB) (hb:m c=some b) (he:b.es=es) (h0:es≠0) (hn:off + n≤b.l.length) (hl:l'.length=n) (h: ∀(j:Nat) x y,l'[j]? =some x→b.l[off + j]? =some y→RD q m x y):RD q m (.sl n l') (.ms c es off n)
 | ptr {c es k fo path x} (b:MB) (y:MV) (hb:m c=some b) (he:b.es=es) (h0:es≠0) (hx:b.l[k]? =some y) (h:RD q m x y):RD q m (.ep x fo path) (.ptr c es k fo path)
 | st {l' l} (hl:l'.length=l.length) (h: ∀(j:Nat) x y,l'[j]? =some x→l[j]? =some y→RD q m x y):RD q m (.st l') (.st l)
 | fn {f l' l} (hl:l'.length=l.length) (h: ∀(j:Nat) x y,l'[j]? =some x→l[j]? =some y→RD q m x y):RD q m (.fn f l') (.fn f l)
inductive A7 (q:MV→Bool) (m:FM):List MV→List MV→Prop where
 | nil:A7 q m [] []
 | cons {x y l r} (h:RD q m x y) (t:A7 q m l r):A7 q m (x :: l) (y :: r)
inductive OG (q:MV→Bool) (m:FM):MV→MV→Prop where
 | one {x y} (h:RD q m x y):OG q m x y
 | tup {l r} (h:A7 q m l r):OG q m (.tup l) (.tup r)
mutual
def MV.flat:MV→Bool
 | .int .. =>true
 | .bool .. =>true
 | .str .. =>true
 | .st l=>MV.flats l
 | .arr _ _ l=>MV.flats l
 | _=>false
def MV.flats:List MV→Bool
 | [] =>true
 | m :: l=>MV.flat m && MV.flats l
end
theorem qx: ∀{l:List MV} {j:Nat} {r:MV},MV.flats l=true→l[j]? =some r→r.flat=true
 | a :: l,0,r,h,hj=>by
  have h:(a.flat && MV.flats l)=true:=h
  rw [d₇] at h
  injection hj with hj;subst hj;exact h.1
 | a :: l,j + 1,r,h,hj=>by
  have h:(a.flat && MV.flats l)=true:=h
  rw [d₇] at h
  exact qx h.2 (by simpa using hj)
theorem A7.same {q:MV→Bool} {m:FM}: ∀{l:List MV},l.all q=true→A7 q m l l
 | [],_=> .nil
 | x :: l,h=>by
  have h:(q x && l.all q)=true:=h
  rw [d₇] at h
  exact .cons (.same h.1) (A7.same h.2)
theorem A7.get {q:MV→Bool} {m:FM}: ∀{l r:List MV},A7 q m l r→l.length=r.length∧∀{j:Nat} {x:MV},l[j]? =some x→∃y,r[j]? =some y∧RD q m x y
 | _,_, .nil=>⟨rfl,fun h=>by simp at h⟩
 | _,_, .cons h t=>by
  obtain⟨h1,h2⟩:=t.get
  refine⟨by simpa using h1,fun {j x} hj=>?_⟩
  cases j with
  | zero=>injection hj with hj;subst hj;exact⟨_,rfl,h⟩
  | succ j=>exact h2 (by simpa using hj)
theorem RD.row {q:MV→Bool} {m:FM} {c n es:Nat} {l:List MV} (b:MB) (hb:m c=some b) (hl:b.l=l) (hn:l.length=n) (hf: ∀x∈l,q x=true) (h0:es≠0:=by decide) (he:b.es=es:=by rfl):RD q m (.sl n l) (.ms c es 0 n):=by
 subst hl;refine .ms b hb he h0 om hn fun j x y hx hy=>?_
 rw [c₂,hx] at hy;injection hy with hy
 subst hy;exact .same (hf x (b₈ hx))
section
variable {w w':World} {P P' P2:bC} {adr adr':dV} {m:FM} {x v:MV} {cs:List Value} {q:MV→Bool}
theorem I5 {r:MV} (hr:bF w P adr r cs):r.flat=true→∀{adr':dV},bF w' P' adr' r cs:=by
 induction hr with
 | int=>intro _ _;exact .int
 | bool=>intro _ _;exact .bool
 | str=>intro _ _;exact .str
 | st parts hp hr ih=>intro hf _;exact .st parts hp fun j m p h1 h2=>ih j m p h1 h2 (qx hf h1)
 | arr parts hl hp hes hr ih=>intro hf _;exact .arr parts hl hp hes fun j m p h1 h2=>ih j m p h1 h2 (qx hf h1)
 | _=>intro hf;cases hf
theorem RD.agg (h:RD q m x v):x.isAgg=v.isAgg:=by cases h <;> rfl
def OH (w:World):bC:=fun b _=>b < w.heap.size
theorem Eo:bF w P adr (.sl 0 []) [.slice none 0 0] := .sl none 0 0 [] rfl rfl (fun p hp=>nomatch hp) (fun _=>⟨rfl,rfl⟩) (a₇ _) (fun h=>absurd rfl h) (fun j m p h=>by simp at h)
theorem RD.rep (hI:aQ w P adr m) (hq: ∀{v:MV} {a:dV} {cs:List Value},q v=true→bF w P a v cs→bF w P2 noAdr v cs) (hp2: ∀c g,adr c=some g→g < w.heap.size→∀o,P2 g o) (h:RD q m x v): ∀{a:dV} {cs:List Value},(∀c g,a c=some g→adr c=some g)→bF w P a v cs→bF w P2 noAdr x cs:=by
 have cellA: ∀{c g:Nat} {cur:Array Value} {t:TypeId} {i:Nat} {u:Value},adr c=some g→w.heap[g]? =some (.cells cur t (0,0))→cur.toList[i]? =some u→w.cell? ⟨g,i,none⟩=some u∧P2 g i:=fun {c g cur t i u} ha hg hu=>by
  refine⟨?_,hp2 c g ha (Array.getElem?_eq_some_iff.1 hg).1 _⟩;rw [cell_of_row w g _ cur t (0,0) hg];simpa using hu
 have sub: ∀{b:MB} {c g:Nat},(if b.row then noAdr else adr) c=some g→adr c=some g:=fun {b c g} h=>by
  split at h
  ·cases h
  ·exact h
 induction h with
 | same hf=>intro a cs _ hr;exact hq hf hr
 | nils=>
  intro a cs _ hr;cases hr;exact Eo
 | @ms c off n es l' b hb he h0 hn hl h ih=>
  intro a cs ha hr;cases hr with
  | ms0=>
   have:l'= [] :=c₄.1 hl;subst this;exact Eo
  | ms g o cap hg ho hcap hcap2 hsz=>
   have hg:=ha _ _ hg;rcases hI.blk c b hb with ⟨_,_,h3,_⟩ | ⟨g',h1,h2⟩
   ·rw [hg] at h3;cases h3
   rw [hg] at h1;injection h1 with h1
   subst h1;obtain⟨cur,parts,c1,c2,c3,c4,c5⟩:=h2.ofE (by rw [he];exact h0);have hpes: ∀p∈parts,p.length=es:=fun p hp=>by rw [c3 p hp,he]
   have hall: ∀p∈(parts.drop off).take n,p.length=es:=fun p hp=>hpes p (c₀ (c₉ hp))
   have hlen2:((parts.drop off).take n).length=n:=by rw [a₅,c₇];omega
   refine .sl (some ⟨g,o,none⟩) cap es ((parts.drop off).take n) hl hlen2 hall (fun h=>nomatch h) hcap (fun hn0=>⟨g,o,rfl,fun j u hj=>?_⟩) fun j y p hy hp=>?_
   ·have ho:=ho (.inl hn0);subst ho;exact cellA hg c1 (cI c5 (cK hpes off n hj om))
   ·have hjl:=(a₀.1 hy).1;rw [List.getElem?_take_of_lt om,d₃] at hp;obtain⟨z,hz⟩: ∃z,b.l[off + j]? =some z:=⟨b.l[off + j]'om,a₁ om⟩
    exact ih j y z hy hz (fun _ _ h=>sub h) (c4 _ z p hz hp)
 | @ptr c es k fo path x b y hb he h0 hx h ih=>
  intro a cs ha hr;cases hr with
  | ptr g hg=>
   have hg:=ha _ _ hg;rcases hI.blk c b hb with ⟨_,_,h3,_⟩ | ⟨g',h1,h2⟩
   ·rw [hg] at h3;cases h3
   rw [hg] at h1;injection h1 with h1
   subst h1;obtain⟨cur,parts,c1,c2,c3,c4,c5⟩:=h2.ofE (by rw [he];exact h0);have hpes: ∀p∈parts,p.length=es:=fun p hp=>by rw [c3 p hp,he]
   have hkl:=(a₀.1 hx).1;have hk2:k < parts.length:=om;refine .ep g (k * es) parts[k] (fun j u hj=>cellA hg c1 (cI c5 (cK hpes k 1 (x:=u) ?_ om))) (ih (fun _ _ h=>sub h) (c4 k y parts[k] hx (a₁ hk2)));rw [show (parts.drop k).take 1= [parts[k]] by rw [a₃ hk2];rfl];simpa using hj
 | @st l' l hl h ih=>
  intro a cs ha hr;cases hr with
  | st parts hp hr=>
   refine .st parts om fun j x p hx hp2=>?_
   have hj:=(a₀.1 hp2).1;have hz:l[j]? =some (l[j]'om):=a₁ om;exact ih j x _ hx hz ha (hr j _ p hz hp2)
 | @fn f l' l hl h ih=>
  intro a cs ha hr;cases hr with
  | fn parts hp hr=>
   have e:List.zipWith valM l parts=List.zipWith valM l' parts:=by
    apply List.ext_getElem?;intro j;rw [e₅,e₅];by_cases hj:j < l.length
    ·have h1:l[j]? =some (l[j]'hj):=a₁ hj;have h2:l'[j]? =some (l'[j]'om):=a₁ om;have h3:parts[j]? =some (parts[j]'om):=a₁ om;rw [h1,h2,h3]
     show some (valM _ _)=some (valM _ _)
     unfold valM;rw [(h j _ _ h2 h1).agg]
    ·have h1:l[j]? =none:=c₈ om;have h2:l'[j]? =none:=c₈ om;rw [h1,h2]
   rw [e];refine .fn parts om fun j x p hx hp2=>?_
   have hj:=(a₀.1 hp2).1;have hz:l[j]? =some (l[j]'om):=a₁ om;exact ih j x _ hx hz ha (hr j _ p hz hp2)
theorem RD.val (hq: ∀v:MV,q v=true→v.isVal=true) (h:RD q m x v):v.isVal=true:=by
 cases h with
 | same h=>exact hq _ h
 | _=>rfl
theorem RD.repV {u:Value} (hI:aQ w P adr m) (hv: ∀v:MV,q v=true→v.isVal=true) (hq: ∀{v:MV} {a:dV} {cs:List Value},q v=true→bF w P a v cs→bF w P2 noAdr v cs) (hp2: ∀c g,adr c=some g→g < w.heap.size→∀o,P2 g o) (h:RD q m x v) (hr:aI w P adr v u):aI w P2 noAdr x u:=by
 have hv:=h.val hv;cases hr with
 | val cs hr=>
  have e:valM v cs=valM x cs:=by unfold valM;rw [h.agg]
  rw [e];exact .val cs (h.rep hI hq hp2 (fun _ _ h=>h) hr)
 | undef=>cases hv
 | tup vs hl h2=>cases hv
theorem A7.repVs (hI:aQ w P adr m) (hv: ∀v:MV,q v=true→v.isVal=true) (hq: ∀{v:MV} {a:dV} {cs:List Value},q v=true→bF w P a v cs→bF w P2 noAdr v cs) (hp2: ∀c g,adr c=some g→g < w.heap.size→∀o,P2 g o): ∀{l r:List MV} {us:List Value},A7 q m l r→cB w P adr r us→cB w P2 noAdr l us
 | _,_,_, .nil, .nil=> .nil
 | _,_,_, .cons h t, .cons h2 t2=> .cons (h.repV hI hv hq hp2 h2) (A7.repVs hI hv hq hp2 t t2)
theorem OG.repV {u:Value} (hI:aQ w P adr m) (hv: ∀v:MV,q v=true→v.isVal=true) (hq: ∀{v:MV} {a:dV} {cs:List Value},q v=true→bF w P a v cs→bF w P2 noAdr v cs) (hp2: ∀c g,adr c=some g→g < w.heap.size→∀o,P2 g o) (h:OG q m x v) (hr:aI w P adr v u):aI w P2 noAdr x u:=by
 cases h with
 | one h=>exact h.repV hI hv hq hp2 hr
 | tup h=>
  obtain⟨h1,h2⟩:=h.get;cases hr with
  | val cs hr=>cases hr
  | tup vs hl h3=>
   refine .tup vs om fun j x u hx hu=>?_
   obtain⟨y,hy,hd⟩:=h2 hx;obtain⟨cs,h4,rfl⟩:=h3 j y u hy hu;exact⟨cs,hd.rep hI hq hp2 (fun _ _ h=>h) h4,by unfold valM;rw [hd.agg]⟩
theorem CJ: ∀v:MV,v.idFree=true→v.isVal=true:=fun v h=>by cases v <;> first | rfl | cases h
theorem I6: ∀v:MV,v.flat=true→v.isVal=true:=fun v h=>by cases v <;> first | rfl | cases h
end
theorem iA {Pg:Program} {G:GS} {f:FuncId} {args' args:List MV} {res res1:MV} {M1:VM} {n1:Nat} (hc:aH Pg G f args' [] 0 res1 M1 n1) {M0:VM} {n0:Nat} (hd:A7 MV.idFree (VM.get M0) args' args) (hf:OG MV.flat (VM.get M1) res res1):aH Pg G f args M0 n0 res M0 n0:=by
 intro w P adr vals hG hI hn hL hr;have ha:=hd.repVs (P2:=OH w) hI CJ (fun {v a cs} hv hr=>(hr.free hv).keep ⟨fun b o h=>hI.prot b o h,fun _ _ _=>rfl,fun _ _ h=>h,fun _ _ _ _ h=>nomatch h⟩) (fun c g _ hg o=>hg) hr;refine Calls.mono (hc w (OH w) noAdr vals hG ⟨fun c b h=>(nomatch h),fun c c' b b' g h=>(nomatch h),fun b o h=>h⟩ (fun _ _=>rfl) (fun c g h=>nomatch h) ha) ?_;rintro e w' ⟨v,h1,P1,a1,hI1,h2,_,_,_,hnew,_,h3⟩;have h3:bl (fun _=>False) w w':=⟨h3.os,h3.tape,h3.output,h3.size,fun b hb _=>h3.block b hb (fun⟨_,h⟩=>nomatch h)⟩;have hb:=h3.below;refine⟨v,h1,gM w w' P,adr,hI.below hb,?_,bg.below hI.prot hb,fun _ _=>rfl,hn,fun c g h=> .inr ⟨c,h⟩,fun b o h=>?_,⟨h3.os,h3.tape,h3.output,h3.size,fun b hb2 _=>h3.block b hb2 (fun e=>e)⟩⟩
 ·refine(hf.repV hI1 I6 (fun hv hr=>I5 hr hv) (fun c g hg hlt o=> .inr ⟨?_,hlt⟩) h2).ofNone;rcases hnew c g hg with h | ⟨_,h⟩
  ·exact h
  ·cases h
 ·rcases h with h | h
  ·exact .inl h
  ·exact .inr (.inl h.1)
theorem A8 {Pg:Program} {G:GS} {f:FuncId} {args:List MV} {M0:VM} {n0 n1:Nat} {res:MV} {ty:TypeId} {es pe:Nat} {l:List MV} (k:Nat) (hc:aH Pg G f args M0 n0 res [(0,⟨ty,es,true,pe,l⟩)] n1) (hk:pe≤k):aH Pg G f args M0 n0 res [(0,⟨ty,es,true,pe,l.take k⟩)] n1:=by
 intro w P adr vals a1 a2 a3 a4 a5;refine Calls.mono (hc w P adr vals a1 a2 a3 a4 a5) ?_;rintro e w' ⟨v,h1,P',adr',hI,h2⟩;refine⟨v,h1,P',adr',⟨fun c b hb=>?_,fun c c' b b' g h1 h2=>?_,hI.prot⟩,h2⟩
 ·have hg:VM.get [(0,(⟨ty,es,true,pe,l.take k⟩:MB))] c=bif Nat.beq 0 c then some ⟨ty,es,true,pe,l.take k⟩ else none:=rfl;rw [hg] at hb;cases h0:Nat.beq 0 c with
  | false=>rw [h0] at hb;cases hb
  | true=>
   rw [h0] at hb;injection hb with hb
   subst hb;have:=e₆ h0;subst this;rcases hI.blk 0 _ rfl with ⟨_,q1,q2,q3⟩ | ⟨g,q1,q2⟩
   ·refine .inl ⟨rfl,?_,q2,q3⟩
    show l.take k= []
    rw [show l= [] from q1];simp
   ·refine .inr ⟨g,q1,⟨.inl ?_,q2.pe,?_⟩⟩
    ·obtain⟨cur,parts,c1,c2,c3,c4,c5⟩:=q2.ofR rfl;refine⟨cur,parts.take k,c1,?_,fun p hp=>c3 p (c₉ hp),fun j x p hx hp=>?_,?_⟩
     ·show(parts.take k).length=(l.take k).length
      rw [a₅,a₅,c2]
     ·have hx:(l.take k)[j]? =some x:=hx;rw [f₁] at hx hp;split at hx
      ·rename_i hjk;rw [if_pos hjk] at hp;exact c4 j x p hx hp
      ·cases hx
     ·refine List.IsPrefix.trans ?_ c5;rw [show parts.flatten=(parts.take k).flatten ++ (parts.drop k).flatten by rw [← e₉,b₆]];exact d₄ _ _
    ·show pe≤(l.take k).length
     have h5:pe≤l.length:=q2.le;rw [a₅];omega
 ·have one: ∀{c:Nat} {b:MB},VM.get [(0,(⟨ty,es,true,pe,l.take k⟩:MB))] c=some b→c=0:=fun {c b} h=>by
   have hg:VM.get [(0,(⟨ty,es,true,pe,l.take k⟩:MB))] c=bif Nat.beq 0 c then some ⟨ty,es,true,pe,l.take k⟩ else none:=rfl;rw [hg] at h;cases h0:Nat.beq 0 c with
   | false=>rw [h0] at h;cases h
   | true=>exact (e₆ h0).symm
  intro _ _;rw [one h1,one h2]
end
section
variable {G:GS}
attribute [local irreducible] aj aC aG aL aO vC aU au
theorem Mn {c:List (List UInt8)} {k:Nat} {e:List UInt8} (h:c[k]? =some e):bH (c.map keyM) (0 + k)=some (keyM e):=by rw [bD,Nat.zero_add,List.getElem?_map,h];rfl
theorem I7 (l:List (List UInt8)) (key:List UInt8) (hl:l.length≤1000000) (hk32:key.length=32) (hs:eG l):aD Tryz.prog G 139 [.sl l.length (l.map keyM),keyM key] (.int .i64 (posK key l 0)):=by
 generalize hr:posK key l 0=R;refine aZ seat Tryz.func139 19 ?_;refine ae ?_;refine ar Nat (fun k=> [(8, .int .i64 k),(7, .int .i64 l.length),(6, .sl l.length (l.map keyM)),(3, .ptr 0 32 0 0 []),(0, .sl l.length (l.map keyM))]) (fun _=> [(0,⟨55,32,false,0,[keyM key]⟩)]) 1 (fun k=>k≤l.length∧posK key (l.drop k) k=R) (fun k=>l.length - k) 0 ⟨b₂ _,by rw [b₇];exact hr⟩ (vm [(0,_)] []) ?_;rintro k ⟨hk,hR⟩;try dsimp only
 refine ae ?_;refine ad rfl ?_ ?_ <;> intro h
 ·have hk':k < l.length:=by have:=ot h;omega
  have hel:=mV hk';have h32:=hs _ (b₀ hk');rw [a₃ hk',posK] at hR;generalize l[k] =a at *;have hel:=al.mk hel;have q1:=al.mk (qm (a:=key) (b:=a) (by rw [h32,hk32]));have s1:=bN.mk (iL key a);refine ae ?_;refine aw [ag 0,ag 1,ag 2,ag 3,ag 4,ag 5] ?_;by_cases he:a=key
  ·rw [if_pos he] at hR;rw [decide_eq_true he.symm] at q1;subst hR;refine ae ?_;refine av ?_;rfl
  ·rw [if_neg he] at hR;rw [decide_eq_false (fun e=>he e.symm)] at q1;refine ae ?_;exact⟨k + 1,⟨by show k + 1≤l.length;omega,hR⟩,by show l.length - (k + 1) < l.length - k;omega,(by dsimp only;exact(vm [(0,_)] []))⟩
 ·have hk':k=l.length:=by have:=oF h;omega
  subst hk';rw [b₁,posK] at hR;subst hR;refine ae ?_;refine av ?_;rfl
theorem I8 (l:List Int) (v:Int) (hl:l.length≤1000000):aD Tryz.prog G 140 [bM l, .int .i64 v] (.int .i64 (je (fun x=>decide (x=v)) l 0)):=by
 generalize hr:je (fun x=>decide (x=v)) l 0=R;unfold bM;refine aZ seat Tryz.func140 19 ?_;refine ae ?_;refine ar Nat (fun k=> [(8, .int .i64 k),(7, .int .i64 l.length),(6, .sl l.length (l.map (MV.int .i64))),(1, .int .i64 v),(0, .sl l.length (l.map (MV.int .i64)))]) (fun _=> []) 0 (fun k=>k≤l.length∧je (fun x=>decide (x=v)) (l.drop k) k=R) (fun k=>l.length - k) 0 ⟨b₂ _,by rw [b₇];exact hr⟩ (vm [] []) ?_;rintro k ⟨hk,hR⟩;try dsimp only
 refine ae ?_;refine ad rfl ?_ ?_ <;> intro h
 ·have hk':k < l.length:=by have:=ot h;omega
  have hel:=al.mk (jR hk');rw [a₃ hk',je] at hR;generalize l[k] =a at *;refine ae ?_;refine ad rfl ?_ ?_ <;> intro h
  ·have he:v=a:=by simpa using h
   rw [if_pos (decide_eq_true he.symm)] at hR;subst hR;refine ae ?_;refine av ?_;rfl
  ·have he: ¬ v=a:=by simpa using h
   rw [if_neg (by simpa using fun e=>he e.symm)] at hR;refine ae ?_;exact⟨k + 1,⟨by show k + 1≤l.length;omega,hR⟩,by show l.length - (k + 1) < l.length - k;omega,(by dsimp only;exact(vm [] []))⟩
 ·have hk':k=l.length:=by have:=oF h;omega
  subst hk';rw [b₁,je] at hR;subst hR;refine ae ?_;refine av ?_;rfl
theorem uH (k:List UInt8) (l:List (List UInt8)):decide (0≤posK k l 0)=decide (k∈l):=by
 refine decide_eq_decide.2 ?_;have:=mn k l 0;constructor
 ·intro h;exact Classical.byContradiction fun hn=>by have:=this.2 hn;omega
 ·intro h;exact Classical.byContradiction fun hn=>this.1 om h
theorem I9 (v:Int) (l:List Int):decide (0≤je (fun x=>decide (x=v)) l 0)=decide (v∈l):=by
 refine decide_eq_decide.2 ?_;rcases mX (fun x=>decide (x=v)) l 0 with ⟨h1,h2⟩ | ⟨j,hj,h1,_,h3⟩
 ·refine⟨fun h=>by omega,fun h=>?_⟩;have:=h2 v h;simp at this
 ·refine⟨fun _=>?_,fun _=>by omega⟩;rw [← ot h3];exact b₀ hj
theorem A9 (l:List (List UInt8)) (key:List UInt8) (hl:l.length≤1000000) (hk32:key.length=32) (hs:eG l):aD Tryz.prog G 97 [.sl l.length (l.map keyM),keyM key] (.bool (decide (key∈l))):=by
 have c1:=I7 (G:=G) l key hl hk32 hs;rw [← uH];generalize posK key l 0=R at *;refine aZ seat Tryz.func97 9 ?_;refine ae ?_;refine cC (c1) ?_;refine av ?_;rfl
theorem yA (l:List (List UInt8)) (key:List UInt8) (hl:l.length≤1000000) (hk32:key.length=32) (hs:eG l):aD Tryz.prog G 52 [.sl l.length (l.map keyM),keyM key] (.bool (decide (key∈l))):=by
 have c1:=A9 (G:=G) l key hl hk32 hs;generalize decide (key∈l)=R at *;refine aZ seat Tryz.func52 8 ?_;refine ae ?_;refine cC (c1) ?_;refine av ?_;rfl
theorem ru (l:List Int) (v:Int) (hl:l.length≤1000000):aD Tryz.prog G 99 [bM l, .int .i64 v] (.bool (decide (v∈l))):=by
 have c1:=I8 (G:=G) l v hl;rw [← I9];generalize je (fun x=>decide (x=v)) l 0=R at *;unfold bM at *;refine aZ seat Tryz.func99 9 ?_;refine ae ?_;refine cC (c1) ?_;refine av ?_;rfl
theorem Gq (l:List (List UInt8)) (hl:l.length≤1000000) (g:FuncId) (v:MV) (p:List UInt8→Bool) (hg:ents.contains g=true) (hp: ∀x∈l,aD Tryz.prog G g [keyM x, .ep v 0 []] (.bool (p x))):aD Tryz.prog G 116 [.sl l.length (l.map keyM), .fn g [.ep v 0 []]] (.int .i64 (je p l 0)):=by
 generalize hr:je p l 0=R;refine aZ seat Tryz.func116 19 ?_;refine ae ?_;refine ar Nat (fun k=> [(8, .int .i64 k),(7, .int .i64 l.length),(6, .sl l.length (l.map keyM)),(1, .fn g [.ep v 0 []]),(0, .sl l.length (l.map keyM))]) (fun _=> []) 0 (fun k=>k≤l.length∧je p (l.drop k) k=R) (fun k=>l.length - k) 0 ⟨b₂ _,by rw [b₇];exact hr⟩ (vm [] []) ?_;rintro k ⟨hk,hR⟩;try dsimp only
 refine ae ?_;refine ad rfl ?_ ?_ <;> intro h
 ·have hk':k < l.length:=by have:=ot h;omega
  have hel:=mV hk';have c1:=hp _ (b₀ hk');rw [a₃ hk',je] at hR;generalize p l[k] =b at *;generalize l[k] =a at *;have hel:=al.mk hel;refine ae ?_;refine yv (c1) ?_ (h2:=hg);refine ae ?_;cases b with
  | true=>
   rw [if_pos rfl] at hR;subst hR;refine ae ?_;refine av ?_;rfl
  | false=>
   rw [if_neg (by decide)] at hR;refine ae ?_;exact⟨k + 1,⟨by show k + 1≤l.length;omega,hR⟩,by show l.length - (k + 1) < l.length - k;omega,(by dsimp only;exact(vm [] []))⟩
 ·have hk':k=l.length:=by have:=oF h;omega
  subst hk';rw [b₁,je] at hR;subst hR;refine ae ?_;refine av ?_;rfl
theorem wN (l:List (Ent)) (hl:l.length≤1000000) (g:FuncId) (v:MV) (p:Ent→Bool) (hg:ents.contains g=true) (hp: ∀x∈l,aD Tryz.prog G g [aA x, .ep v 0 []] (.bool (p x))):aD Tryz.prog G 75 [.sl l.length (l.map aA), .fn g [.ep v 0 []]] (.int .i64 (je p l 0)):=by
 generalize hr:je p l 0=R;refine aZ seat Tryz.func75 19 ?_;refine ae ?_;refine ar Nat (fun k=> [(8, .int .i64 k),(7, .int .i64 l.length),(6, .sl l.length (l.map aA)),(1, .fn g [.ep v 0 []]),(0, .sl l.length (l.map aA))]) (fun _=> []) 0 (fun k=>k≤l.length∧je p (l.drop k) k=R) (fun k=>l.length - k) 0 ⟨b₂ _,by rw [b₇];exact hr⟩ (vm [] []) ?_;rintro k ⟨hk,hR⟩;try dsimp only
 refine ae ?_;refine ad rfl ?_ ?_ <;> intro h
 ·have hk':k < l.length:=by have:=ot h;omega
  have hel:=eF hk';have c1:=hp _ (b₀ hk');rw [a₃ hk',je] at hR;generalize p l[k] =b at *;generalize l[k] =a at *;have hel:=al.mk hel;refine ae ?_;refine yv (c1) ?_ (h2:=hg);refine ae ?_;cases b with
  | true=>
   rw [if_pos rfl] at hR;subst hR;refine ae ?_;refine av ?_;rfl
  | false=>
   rw [if_neg (by decide)] at hR;refine ae ?_;exact⟨k + 1,⟨by show k + 1≤l.length;omega,hR⟩,by show l.length - (k + 1) < l.length - k;omega,(by dsimp only;exact(vm [] []))⟩
 ·have hk':k=l.length:=by have:=oF h;omega
  subst hk';rw [b₁,je] at hR;subst hR;refine ae ?_;refine av ?_;rfl
end
end Go.Proofs.YthdhlcicpcnbhaaGreatDoor
