/- Parts of a proof, one behind the other: WB, WC, WD, WR, WI, WJ, WK, WE, WL, WN, WO, AL, X5, X6, YA. -/
import Derived.Test.YthdhlcicpcnbhaaGreatDoorV08
open List renaming pairwise_cons → a₀,getElem?_eq_some_iff → a₁,mem_cons → a₂,mem_cons_self → a₄,find?_cons_of_neg → a₅,replicate → a₆,take_succ_eq_append_getElem → a₇,mem_cons_of_mem → a₈,take_append_of_le_length → a₉,take_append_drop → b₀,append_assoc → b₁,drop_eq_getElem_cons → b₂,getElem?_eq_getElem → b₃,length_take → b₄,length_append → b₅,find?_cons_of_pos → b₆,flatten_cons → b₇,map_cons → b₈,foldl_cons → b₉,length_map → c₀,length_drop → c₃,length_singleton → c₄,mem_of_getElem? → c₅,mem_of_mem_drop → c₆,length_set → c₇,eq_nil_of_length_eq_zero → c₈,filter_append → d₁,find?_append → d₃,getElem_mem → d₄,drop_length → d₅,length_eq_zero_iff → d₆,length_nil → d₈,append_nil → d₉,map_append → e₁,mem_of_mem_take → e₃,any_cons → e₄,sum_cons → e₅,take_succ_cons → e₆,filter_eq_self → e₇,getElem?_drop → e₈,prefix_append → e₉,perm_middle → f₀,length_cons → f₁,take_length → f₂,nil_append → f₄,any_append → f₆,take_take → f₇,drop_zero → f₈,drop → f₉
open Nat renaming le_refl → a₃,zero_add → c₁,zero_le → c₂,min_def → c₉,not_lt_zero → d₇,min_eq_left → e₀,min → e₂,mod_eq_of_lt → f₃
open And renaming intro → d₀
open Prod.mk renaming injEq → d₂
open Int renaming natCast_add → f₅
set_option maxRecDepth 20000
set_option maxHeartbeats 16000000
set_option linter.unusedVariables false
set_option linter.unusedSimpArgs false
namespace Go.Proofs.YthdhlcicpcnbhaaGreatDoor
open Go.RowKit
section
def cS (l:List aW):Prop:=l.Pairwise fun a b=>Op.bytesLess a.name b.name=true
def posA (nm:List UInt8) (l:List aW):Nat:=(l.takeWhile fun a=>Op.bytesLess a.name nm).length
theorem posA_cons (nm:List UInt8) (a:aW) (r:List aW):posA nm (a :: r)=if Op.bytesLess a.name nm=true then posA nm r + 1 else 0:=by
 unfold posA;rw [List.takeWhile_cons];split <;> simp [*]
theorem lB (nm:List UInt8): ∀l,posA nm l≤l.length
 | [] =>a₃ _
 | a :: r=>by
  rw [posA_cons]
  have:=lB nm r
  split
  ·simp;omega
  ·exact c₂ _
theorem nk {nm:List UInt8}: ∀{l:List aW},cS l→∀{k:Nat} (hk:k < l.length),Op.bytesLess l[k].name nm=true↔k < posA nm l
 | [],_,_,hk=>absurd hk (d₇ _)
 | a :: r,hs,k,hk=>by
  have hs':=a₀.1 hs
  rw [posA_cons]
  cases k with
  | zero=>
   rw [List.getElem_cons_zero]
   split
   ·rename_i h;simp [h]
   ·rename_i h;simp [h]
  | succ k=>
   rw [List.getElem_cons_succ]
   have hk':k < r.length:=by simpa using hk
   have ih:=nk (nm:=nm) hs'.2 hk'
   split
   ·rw [ih];omega
   ·rename_i h
    refine⟨fun h2=>absurd (gW (hs'.1 _ (d₄ hk')) h2) h,fun h2=>absurd h2 (d₇ _)⟩
theorem dJ {nm:List UInt8}: ∀{l:List aW},cS l→((aS l nm).2=true∧l[posA nm l]? =some (aS l nm).1∧(aS l nm).1.name=nm)∨((aS l nm).2=false∧∀a∈l,a.name≠nm)
 | [],_=> .inr ⟨rfl,sm⟩
 | a :: r,hs=>by
  have hs':=a₀.1 hs
  by_cases h:a.name=nm
  ·have e:aS (a :: r) nm=(a,true):=by unfold aS;rw [b₆ (by simp [h])]
   rw [e,posA_cons,h,less_irr]
   exact .inl ⟨rfl,rfl,by first | rfl | exact h⟩
  ·have e:aS (a :: r) nm=aS r nm:=by unfold aS;rw [a₅ (by simp [h])]
   rw [e,posA_cons]
   rcases dJ (nm:=nm) hs'.2 with ⟨h1,h2,h3⟩ | ⟨h1,h2⟩
   ·have hlt:Op.bytesLess a.name nm=true:=by
     have:=hs'.1 _ (c₅ h2)
     rwa [h3] at this
    rw [if_pos hlt]
    exact .inl ⟨h1,by rw [List.getElem?_cons_succ];exact h2,h3⟩
   ·exact .inr ⟨h1,fun x hx=>(a₂.1 hx).elim (fun e=>e▸h) (h2 x)⟩
theorem EC {nm:List UInt8} {l:List aW} (hs:cS l) (hk:posA nm l < l.length):(jv l[posA nm l].name nm == 0)=(aS l nm).2:=by
 rcases dJ (nm:=nm) hs with ⟨h1,h2,h3⟩ | ⟨h1,h2⟩
 ·rw [b₃ hk] at h2;simp only [Option.some.injEq] at h2;rw [h2,h3,cmpN_self,h1];rfl
 ·rw [h1,beq_eq_false_iff_ne];exact fun h=>h2 _ (d₄ hk) (N7 h)
theorem ED {nm:List UInt8} {l:List aW} (hs:cS l) (hk: ¬ posA nm l < l.length):(aS l nm).2=false:=by
 rcases dJ (nm:=nm) hs with ⟨h1,h2,h3⟩ | ⟨h1,h2⟩
 ·rw [List.getElem?_eq_none (Nat.le_of_not_lt hk)] at h2;cases h2
 ·exact h1
theorem pM {nm:List UInt8}: ∀{l:List aW} {i:Nat},(∀a∈l,a.name≠nm)→eZ nm l i= -1
 | [],_,_=>rfl
 | a :: r,i,h=>by rw [eZ,if_neg (h a (a₄ ..))];exact pM fun x hx=>h x (a₈ _ hx)
theorem qG {nm:List UInt8}: ∀{l:List aW} {i:Nat},cS l→(aS l nm).2=true→eZ nm l i=((i + posA nm l:Nat):Int)
 | [],_,_,h=>by cases h
 | a :: r,i,hs,h=>by
  have hs':=a₀.1 hs
  rw [eZ,posA_cons]
  by_cases e:a.name=nm
  ·rw [if_pos e,e,less_irr];rfl
  ·have e2:aS (a :: r) nm=aS r nm:=by unfold aS;rw [a₅ (by simp [e])]
   rw [e2] at h
   have hlt:Op.bytesLess a.name nm=true:=by
    rcases dJ (nm:=nm) hs'.2 with ⟨_,h2,h3⟩ | ⟨h1,_⟩
    ·have:=hs'.1 _ (c₅ h2)
     rwa [h3] at this
    ·rw [h1] at h;cases h
   rw [if_neg e,if_pos hlt,qG (nm:=nm) hs'.2 h]
   congr 1
   omega
theorem kz {a:aW} {l:List aW} (hs:cS l) (h:(aS l a.name).2=true):ei a l=l.set (posA a.name l) a:=by
 unfold ei;rw [qG hs h,c₁,if_pos om];rfl
theorem mG {a:aW} {l:List aW} (hs:cS l) (h:(aS l a.name).2=false):ei a l=l.take (posA a.name l) ++ a :: l.drop (posA a.name l):=by
 unfold ei;have hno: ∀x∈l,x.name≠a.name:=by
  rcases dJ (nm:=a.name) hs with ⟨h1,_,_⟩ | ⟨_,h2⟩
  ·rw [h1] at h;cases h
  ·exact h2
 rw [pM hno,if_neg (by decide)];refine yi a l _ (lB _ _) (fun j hj hlt=>(nk hs hj).2 hlt) (fun hk=>?_);cases hb:Op.bytesLess l[posA a.name l].name a.name with
 | false=>rfl
 | true=>exact absurd ((nk hs hk).1 hb) (Nat.lt_irrefl _)
theorem EE {a:aW}: ∀{l:List aW},cS l→(aS l a.name).2=true→cS (l.set (posA a.name l) a)
 | [],_,h=>by cases h
 | b :: r,hs,h=>by
  have hs':=a₀.1 hs
  rw [posA_cons]
  by_cases e:b.name=a.name
  ·rw [e,less_irr,if_neg sm,List.set_cons_zero]
   exact a₀.2 ⟨fun x hx=>by rw [← e];exact hs'.1 x hx,hs'.2⟩
  ·have e2:aS (b :: r) a.name=aS r a.name:=by unfold aS;rw [a₅ (by simp [e])]
   rw [e2] at h
   have hlt:Op.bytesLess b.name a.name=true:=by
    rcases dJ (nm:=a.name) hs'.2 with ⟨_,h2,h3⟩ | ⟨h1,_⟩
    ·have:=hs'.1 _ (c₅ h2)
     rwa [h3] at this
    ·rw [h1] at h;cases h
   rw [if_pos hlt,List.set_cons_succ]
   refine a₀.2 ⟨fun x hx=>?_,EE hs'.2 h⟩
   rcases List.mem_or_eq_of_mem_set hx with hx | rfl
   ·exact hs'.1 x hx
   ·exact hlt
theorem A9 {a:aW}: ∀{l:List aW},cS l→(∀x∈l,x.name≠a.name)→cS (pC a l)
 | [],_,_=>List.pairwise_singleton _ _
 | b :: r,hs,h=>by
  have hs':=a₀.1 hs
  rw [pC]
  split
  ·rename_i hlt
   refine a₀.2 ⟨fun x hx=>?_,A9 hs'.2 fun x hx=>h x (a₈ _ hx)⟩
   rcases ug hx with rfl | hx
   ·exact hlt
   ·exact hs'.1 x hx
  ·rename_i hlt
   have hab:Op.bytesLess a.name b.name=true:=uH (by simpa using hlt) (h b (a₄ ..))
   refine a₀.2 ⟨fun x hx=>?_,hs⟩
   rcases a₂.1 hx with rfl | hx
   ·exact hab
   ·exact gW hab (hs'.1 x hx)
theorem np {a:aW} {l:List aW} (hs:cS l):cS (ei a l):=by
 cases h:(aS l a.name).2 with
 | true=>rw [kz hs h];exact EE hs h
 | false=>
  have hno: ∀x∈l,x.name≠a.name:=by
   rcases dJ (nm:=a.name) hs with ⟨h1,_,_⟩ | ⟨_,h2⟩
   ·rw [h1] at h;cases h
   ·exact h2
  unfold ei;rw [pM hno,if_neg (by decide)];exact A9 hs hno
theorem Ji: ∀{l:List aW} {q:List UInt8},AD (some q) l=0→(∀a∈l,Op.bytesLess q a.name=true)∧cS l
 | [],_,_=>⟨sm,List.Pairwise.nil⟩
 | a :: r,q,h=>by
  rw [kq] at h
  dsimp only at h
  split at h
  ·exact absurd h (by decide)
  ·split at h
   ·exact absurd h (by decide)
   ·rename_i hne
    split at h
    ·exact absurd h (by decide)
    ·rename_i hn2
     have hqa:Op.bytesLess q a.name=true:=by
      cases hb:Op.bytesLess q a.name with
      | true=>rfl
      | false=>rw [hb] at hn2;exact absurd (by simpa using hn2) hne
     obtain⟨h1,h2⟩:=Ji h
     refine⟨fun x hx=>?_,a₀.2 ⟨h1,h2⟩⟩
     rcases a₂.1 hx with rfl | hx
     ·exact hqa
     ·exact gW hqa (h1 x hx)
theorem qH {l:fH} (h:cP l=0):cS l.acs∧l.acs.length≤256:=by
 unfold cP at h;split at h
 ·exact absurd h (by decide)
 ·rename_i hn;split at h
  ·rename_i h1;exact absurd h h1
  ·rename_i h1;have h1:=Decidable.not_not.1 h1;refine⟨?_,om⟩;generalize l.acs=z at h1;cases z with
   | nil=>exact List.Pairwise.nil
   | cons a r=>
    rw [kq] at h1;dsimp only at h1;split at h1
    ·exact absurd h1 (by decide)
    ·exact a₀.2 (Ji h1)
end
section
variable {G:GS}
attribute [local irreducible] aj aC aG aM aQ vC aY aA
theorem Ba (l:List aW):bH (l.map bd) 3=true:=by
 cases l with
 | nil=>rfl
 | cons a r=>rfl
theorem GD (l:List aW) (hl:l.length < 536870912):aL Tryz.prog G 125 [.sl l.length (l.map bd)] [] 0 (.sl l.length (l.map bd)) [] 0:=by
 refine bU seat Tryz.func125 8 ?_;refine ad ?_;refine wz rfl rfl (fun b hb=>?_);cases b with
 | true=>
  have h0:=hb rfl;have h1:l= [] :=d₆.1 h0;subst h1;refine ad ?_;refine aw ?_;exact en [_]
 | false=>
  refine ad ?_;refine bc rfl rfl (by intro R hR;refine dZ hR ?_;refine d₀ ((Ba l)) ?_;refine d₀ ⟨rfl,aF (by kernel_rfl) pf⟩ ?_;refine⟨l.map bd,sv (by show [] ++ l.map bd=_;rw [f₄]),l.length,sv pf,?_⟩;exact hR) rfl ?_;refine ad ?_;refine⟨[_],[],[(5,l.length)],rfl,rfl,?_,rfl,⟨?_,trivial⟩,?_⟩
  ·exact⟨by show l.length≤(l.map bd).length;simp,trivial⟩
  ·exact .inr ⟨rfl,rfl,rfl,Nat.le_of_eq (c₁ _),bV bd l⟩
  ·exact mm
theorem yC (l:fH) (hl:l.acs.length < 536870912):aL Tryz.prog G 81 [lgM l] [] 0 (lgM l) [] 0:=by
 obtain⟨acs,col⟩:=l;have c1:=GD (G:=G) acs hl;unfold lgM;dsimp only at hl ⊢;refine bU seat Tryz.func81 8 ?_;refine ad ?_;refine kX (c1) ?_;refine aw ?_;exact en [_]
def cF (l:List aW):MB:=⟨87,3,true,0,l.map bd⟩
theorem GF (l:List aW) (hl:l.length < 536870912):aL Tryz.prog G 125 [.sl l.length (l.map bd)] [] 0 (.ms 0 3 0 l.length) [(0,cF l)] 1:=by
 unfold cF;refine bU seat Tryz.func125 8 ?_;refine ad ?_;refine wz rfl rfl (fun b hb=>?_);cases b with
 | true=>
  have h0:=hb rfl;have h1:l= [] :=d₆.1 h0;subst h1;refine ad ?_;refine aw ?_;exact en [_]
 | false=>
  refine ad ?_;refine bc rfl rfl (by intro R hR;refine dZ hR ?_;refine d₀ ((Ba l)) ?_;refine d₀ ⟨rfl,aF (by kernel_rfl) pf⟩ ?_;refine⟨l.map bd,sv (by show [] ++ l.map bd=_;rw [f₄]),l.length,sv pf,?_⟩;exact hR) rfl ?_;refine ad ?_;exact eb [_] [(0,5)] []
theorem Bb (l:fH) (hl:l.acs.length < 536870912):aL Tryz.prog G 81 [lgM l] [] 0 (.st [.ms 0 3 0 l.acs.length, .int .u64 l.col]) [(0,cF l.acs)] 1:=by
 obtain⟨acs,col⟩:=l;have c1:=GF (G:=G) acs hl;unfold lgM;unfold cF at c1 ⊢;dsimp only at hl c1 ⊢;refine bU seat Tryz.func81 8 ?_;refine ad ?_;refine yc (c1) [] ?_;refine ad ?_;refine aw ?_;exact eb [_] [(0,4)] []
theorem MU (m:Nat):((m:Int).fdiv (2 ^ (min (1:Int).toNat IntKind.u64.bits)))=((m / 2:Nat):Int):=by
 rw [show (2:Int) ^ (min (1:Int).toNat IntKind.u64.bits)=2 by rfl,Int.fdiv_eq_ediv_of_nonneg _ (by decide)];omega
theorem N8 {l:List aW} {k:Nat} (h:k < l.length):bK (l.map bd) (0 + k)=some (bd l[k]):=by rw [bF,Nat.zero_add,List.getElem?_map,List.getElem?_eq_getElem h];rfl
theorem Jj (l:List aW) (nm:List UInt8) (hl:l.length≤100000) (hs:cS l):aD Tryz.prog G 235 [.sl l.length (l.map bd), .str nm, .fn 236 []] (.tup [.int .i64 (posA nm l), .bool (aS l nm).2]):=by
 refine bf seat Tryz.func235 49 ?_;refine ad ?_;refine ar (Nat×Nat) (fun x=> [(9, .int .i64 x.1),(10, .int .i64 x.2),(8, .int .i64 l.length),(2, .fn 236 []),(1, .str nm),(0, .sl l.length (l.map bd))]) (fun _=> []) 0 (fun x=>x.1≤posA nm l∧posA nm l≤x.2∧x.2≤l.length) (fun x=>x.2 - x.1) (0,l.length) ⟨c₂ _,lB _ _,a₃ _⟩ (vm [] []) ?_;rintro⟨i,j⟩ ⟨h1,h2,h3⟩;try dsimp only
 dsimp only at h1 h2 h3;refine ad ?_;refine ae rfl ?_ ?_ <;> intro h
 ·have hij:i < j:=by have:=ot h;omega
  have k2:=aX.mk (show(((i:Int) + (j:Int)).fdiv (2 ^ (min (1:Int).toNat IntKind.u64.bits)))=(((i + j) / 2:Nat):Int) by rw [← f₅];exact MU (i + j));have k4:=aX.mk (show IntKind.i64.wrap (((i + j) / 2:Nat):Int)=(((i + j) / 2:Nat):Int) by rw [IntKind.wrap_i64];omega);have hm:(i + j) / 2 < l.length:=om;have hmi:i≤(i + j) / 2∧(i + j) / 2 < j:=om;have hel:=eY hm;have c1:=pL (G:=G) l[(i + j) / 2] nm;have hpl:=nk hs hm (nm:=nm);have hcl:=yB l[(i + j) / 2].name nm;generalize jv l[(i + j) / 2].name nm=cv at *;generalize l[(i + j) / 2] =a at *;obtain⟨an,ab,aq⟩:=a;unfold bd at c1;dsimp only at c1 hpl hcl;replace hel:db (l.map bd) l.length (((i + j) / 2:Nat):Int)=some (.st [.str an, .int .u64 ab, .int .u64 aq]):=hel;have hel:=al.mk hel;refine ad ?_;refine bL (c1) ?_;refine ae rfl ?_ ?_ <;> intro h
  ·have hlt:(i + j) / 2 < posA nm l:=hpl.1 (hcl.1 (ot h));refine ad ?_;exact⟨((i + j) / 2 + 1,j),⟨dm,h2,h3⟩,dm,(by dsimp only;exact(vm [] []))⟩
  ·have hlt: ¬ (i + j) / 2 < posA nm l:=fun hh=>oF h (hcl.2 (hpl.2 hh))
   refine ad ?_;exact⟨(i,(i + j) / 2),⟨h1,dm,dm⟩,dm,(by dsimp only;exact(vm [] []))⟩
 ·have hij: ¬ i < j:=by have:=oF h;omega
  have hi:i=posA nm l:=om;subst hi;clear h1 h2 h3 hij;by_cases hp:posA nm l < l.length
  ·have hel:=eY hp;have c1:=pL (G:=G) l[posA nm l] nm;have hhas:=EC hs hp;rw [← hhas];generalize jv l[posA nm l].name nm=cv at *;generalize l[posA nm l] =a at *;obtain⟨an,ab,aq⟩:=a;unfold bd at c1;dsimp only at c1;replace hel:db (l.map bd) l.length ((posA nm l:Nat):Int)=some (.st [.str an, .int .u64 ab, .int .u64 aq]):=hel;generalize posA nm l=pp at *;have hel:=al.mk hel;refine ad ?_;rw [show decide ((pp:Int) < (l.length:Int))=true from decide_eq_true om];refine ad ?_;refine bL (c1) ?_;refine aw ?_;rfl
  ·have hhas:=ED hs hp;rw [hhas];generalize posA nm l=pp at *;refine ad ?_;rw [show decide ((pp:Int) < (l.length:Int))=false from decide_eq_false om];refine ad ?_;refine aw ?_;rfl
theorem Bc (l:fH) (nm:List UInt8) (hl:l.acs.length≤100000) (hs:cS l.acs):aD Tryz.prog G 199 [lgM l, .str nm] (.tup [.int .i64 (posA nm l.acs), .bool (aS l.acs nm).2]):=by
 obtain⟨acs,col⟩:=l;dsimp only at hl hs ⊢;have c1:=Jj (G:=G) acs nm hl hs;generalize (aS acs nm).2=hh at *;generalize posA nm acs=pp at *;unfold lgM;dsimp only;refine bf seat Tryz.func199 12 ?_;refine ad ?_;refine bL (c1) ?_;refine aw ?_;rfl
theorem Jk (l:List aW) (nm:List UInt8) (hl:l.length≤100000) (hs:cS l):aL Tryz.prog G 235 [.ms 0 3 0 l.length, .str nm, .fn 236 []] [(0,cF l)] 1 (.tup [.int .i64 (posA nm l), .bool (aS l nm).2]) [(0,cF l)] 1:=by
 unfold cF;refine bU seat Tryz.func235 49 ?_;refine ad ?_;refine ar (Nat×Nat) (fun x=> [(9, .int .i64 x.1),(10, .int .i64 x.2),(8, .int .i64 l.length),(2, .fn 236 []),(1, .str nm),(0, .ms 0 3 0 l.length)]) (fun _=> [(0,⟨87,3,true,0,l.map bd⟩)]) 1 (fun x=>x.1≤posA nm l∧posA nm l≤x.2∧x.2≤l.length) (fun x=>x.2 - x.1) (0,l.length) ⟨c₂ _,lB _ _,a₃ _⟩ (vm [] []) ?_;rintro⟨i,j⟩ ⟨h1,h2,h3⟩;try dsimp only
 dsimp only at h1 h2 h3;refine ad ?_;refine ae rfl ?_ ?_ <;> intro h
 ·have hij:i < j:=by have:=ot h;omega
  have k2:=aX.mk (show(((i:Int) + (j:Int)).fdiv (2 ^ (min (1:Int).toNat IntKind.u64.bits)))=(((i + j) / 2:Nat):Int) by rw [← f₅];exact MU (i + j));have k4:=aX.mk (show IntKind.i64.wrap (((i + j) / 2:Nat):Int)=(((i + j) / 2:Nat):Int) by rw [IntKind.wrap_i64];omega);have hm:(i + j) / 2 < l.length:=om;have hmi:i≤(i + j) / 2∧(i + j) / 2 < j:=om;have hel:=N8 hm;have c1:=pL (G:=G) l[(i + j) / 2] nm;have hpl:=nk hs hm (nm:=nm);have hcl:=yB l[(i + j) / 2].name nm;generalize jv l[(i + j) / 2].name nm=cv at *;generalize l[(i + j) / 2] =a at *;obtain⟨an,ab,aq⟩:=a;unfold bd at c1;dsimp only at c1 hpl hcl;replace hel:bK (l.map bd) (0 + (i + j) / 2)=some (.st [.str an, .int .u64 ab, .int .u64 aq]):=hel;have hel:=al.mk hel;refine ad ?_;refine bL (c1) ?_;refine ae rfl ?_ ?_ <;> intro h
  ·have hlt:(i + j) / 2 < posA nm l:=hpl.1 (hcl.1 (ot h));refine ad ?_;exact⟨((i + j) / 2 + 1,j),⟨dm,h2,h3⟩,dm,(by dsimp only;exact(vm [] []))⟩
  ·have hlt: ¬ (i + j) / 2 < posA nm l:=fun hh=>oF h (hcl.2 (hpl.2 hh))
   refine ad ?_;exact⟨(i,(i + j) / 2),⟨h1,dm,dm⟩,dm,(by dsimp only;exact(vm [] []))⟩
 ·have hij: ¬ i < j:=by have:=oF h;omega
  have hi:i=posA nm l:=om;subst hi;clear h1 h2 h3 hij;by_cases hp:posA nm l < l.length
  ·have hel:=N8 hp;have c1:=pL (G:=G) l[posA nm l] nm;have hhas:=EC hs hp;rw [← hhas];generalize jv l[posA nm l].name nm=cv at *;generalize l[posA nm l] =a at *;obtain⟨an,ab,aq⟩:=a;unfold bd at c1;dsimp only at c1;replace hel:bK (l.map bd) (0 + posA nm l)=some (.st [.str an, .int .u64 ab, .int .u64 aq]):=hel;generalize posA nm l=pp at *;have hel:=al.mk hel;refine ad ?_;rw [show decide ((pp:Int) < (l.length:Int))=true from decide_eq_true om];refine ad ?_;refine bL (c1) ?_;refine aw ?_;exact en [_,_]
  ·have hhas:=ED hs hp;rw [hhas];generalize posA nm l=pp at *;refine ad ?_;rw [show decide ((pp:Int) < (l.length:Int))=false from decide_eq_false om];refine ad ?_;refine aw ?_;exact en [_,_]
theorem Jl (l:List aW) (col:Int) (nm:List UInt8) (hl:l.length≤100000) (hs:cS l):aL Tryz.prog G 199 [.st [.ms 0 3 0 l.length, .int .u64 col], .str nm] [(0,cF l)] 1 (.tup [.int .i64 (posA nm l), .bool (aS l nm).2]) [(0,cF l)] 1:=by
 have c1:=Jk (G:=G) l nm hl hs;generalize (aS l nm).2=hh at *;generalize posA nm l=pp at *;unfold cF at *;refine bU seat Tryz.func199 12 ?_;refine ad ?_;refine yc (c1) [(0,0)] ?_;refine ad ?_;exact en [_,_]
end
section
def GG (s:List UInt8) (ks:List (List UInt8)):List (List UInt8):=if s∈ks then ks else ks ++ [s]
def gX (acs:List aW):List jc→List (List UInt8)→List (List UInt8)
 | [],ks=>ks
 | x :: r,ks=>gX acs r (if (aS acs x.to_).2=true then ks else GG x.to_ ks)
theorem getS_any (l:List aW) (nm:List UInt8):(aS l nm).2=l.any (fun a=>decide (a.name=nm)):=by
 induction l with
 | nil=>rfl
 | cons a r ih=>
  rw [e₄];by_cases h:a.name=nm
  ·have e:aS (a :: r) nm=(a,true):=by unfold aS;rw [b₆ (by simp [h])]
   rw [e];simp [h]
  ·have e:aS (a :: r) nm=aS r nm:=by unfold aS;rw [a₅ (by simp [h])]
   rw [e,ih];simp [h]
theorem EF {a:aW} {l:List aW} (hs:cS l):(ei a l).length=l.length + (if (aS l a.name).2=true then 0 else 1):=by
 cases h:(aS l a.name).2 with
 | true=>rw [kz hs h];simp
 | false=>
  rw [mG hs h];have:=lB a.name l;simp;omega
theorem yD {a:aW} {l:List aW} (hs:cS l) (nm:List UInt8):(aS (ei a l) nm).2=((aS l nm).2 || decide (a.name=nm)):=by
 cases h:(aS l a.name).2 with
 | true=>
  rw [kz hs h,getS_any,getS_any];rcases dJ (nm:=a.name) hs with ⟨_,h2,h3⟩ | ⟨h1,_⟩
  ·obtain⟨hk,h2⟩:=a₁.1 h2;have e1:l.set (posA a.name l) a=l.take (posA a.name l) ++ a :: l.drop (posA a.name l + 1):=List.set_eq_take_append_cons_drop.trans (if_pos hk);have e2:l=l.take (posA a.name l) ++ l[posA a.name l] :: l.drop (posA a.name l + 1):=by
    conv=>lhs;rw [← b₀ (posA a.name l) l,b₂ hk]
   rw [e1]
   conv=>rhs;rw [e2]
   rw [h2];simp only [f₆,e₄,h3];cases decide (a.name=nm) <;> simp
  ·rw [h1] at h;cases h
 | false=>
  rw [mG hs h,getS_any,getS_any]
  conv=>rhs;rw [← b₀ (posA a.name l) l]
  simp only [f₆,e₄];cases decide (a.name=nm) <;> simp
theorem nq (x:jc) {acs:List aW} (hs:cS acs):(iG x acs).name=x.to_:=by
 unfold iG;rcases dJ (nm:=x.to_) hs with ⟨h1,_,h3⟩ | ⟨h1,_⟩
 ·rw [if_pos h1];exact h3
 ·rw [if_neg (by rw [h1];simp)]
theorem jI {x:jc} {acs:List aW} (hs:cS acs):cS (ej acs x):=np hs
theorem pN (z:List aW): ∀(trs:List jc) (cur:List aW) (ks:List (List UInt8)),cS cur→(∀nm,(aS cur nm).2=((aS z nm).2 || decide (nm∈ks)))→(trs.foldl ej cur).length + ks.length=cur.length + (gX z trs ks).length
 | [],cur,ks,_,_=>rfl
 | x :: r,cur,ks,hs,hk=>by
  rw [b₉,gX]
  have hn:=nq x hs
  have hl:(ej cur x).length=cur.length + (if (aS cur x.to_).2=true then 0 else 1):=by
   unfold ej
   rw [EF hs]
   dsimp only
   rw [hn]
  have hh: ∀nm,(aS (ej cur x) nm).2=((aS cur nm).2 || decide (x.to_=nm)):=fun nm=>by
   unfold ej
   rw [yD hs]
   dsimp only
   rw [hn]
  have hx:=hk x.to_
  by_cases hz:(aS z x.to_).2=true
  ·rw [if_pos hz]
   rw [hz,Bool.true_or] at hx
   rw [if_pos hx] at hl
   have ih:=pN z r (ej cur x) ks (jI hs) (fun nm=>by
    rw [hh,hk]
    by_cases e:x.to_=nm
    ·subst e;rw [hz];simp
    ·simp [e])
   omega
  ·rw [if_neg hz]
   have hz':(aS z x.to_).2=false:=by simpa using hz
   rw [hz',Bool.false_or] at hx
   unfold GG
   by_cases hm:x.to_∈ks
   ·rw [if_pos hm]
    rw [if_pos (by rw [hx];simpa using hm)] at hl
    have ih:=pN z r (ej cur x) ks (jI hs) (fun nm=>by
     rw [hh,hk]
     by_cases e:x.to_=nm
     ·subst e;simp [hm]
     ·simp [e])
    omega
   ·rw [if_neg hm]
    rw [if_neg (by rw [hx];simpa using hm)] at hl
    have ih:=pN z r (ej cur x) (ks ++ [x.to_]) (jI hs) (fun nm=>by
     rw [hh,hk,Bool.or_assoc]
     congr 1
     by_cases e:x.to_=nm
     ·subst e;simp
     ·simp [e,Ne.symm e])
    rw [b₅,c₄] at ih
    omega
theorem Jm {l:fH} {t:iP} {sum:Nat} (hs:cS l.acs) (hp:(aS l.acs t.sender).2=true):(fb l t sum).acs.length=l.acs.length + (gX l.acs t.trs []).length:=by
 have hn:(fa l t sum).name=t.sender:=by
  rcases dJ (nm:=t.sender) hs with ⟨_,_,h3⟩ | ⟨h1,_⟩
  ·exact h3
  ·rw [h1] at hp;cases hp
 have h1:(ei (fa l t sum) l.acs).length=l.acs.length:=by rw [EF hs,hn,if_pos hp,Nat.add_zero]
 have h2:=pN l.acs t.trs (ei (fa l t sum) l.acs) [] (np hs) (fun nm=>by
  rw [yD hs,hn];by_cases e:t.sender=nm
  ·subst e;rw [hp];simp
  ·simp [e])
 rw [h1,d₈,Nat.add_zero] at h2;exact h2
theorem uI (z:List aW): ∀(trs:List jc) (ks:List (List UInt8)),(gX z trs ks).length≤ks.length + trs.length
 | [],_=>a₃ _
 | x :: r,ks=>by
  rw [gX]
  have ih:=uI z r
  have h2:(GG x.to_ ks).length≤ks.length + 1:=by unfold GG;split <;> simp
  split
  ·have:=ih ks;simp;omega
  ·have:=ih (GG x.to_ ks);simp;omega
theorem uJ {s:List UInt8}: ∀{ks:List (List UInt8)} {i:Nat},s ∉ ks→findM s (ks.map MV.str) i=some none
 | [],_,_=>rfl
 | x :: r,i,h=>by
  rw [a₂,not_or] at h
  rw [b₈,findM,beq_eq_false_iff_ne.2 h.1]
  exact uJ h.2
theorem qI {s:List UInt8}: ∀{ks:List (List UInt8)} {i:Nat},s∈ks→∃j,findM s (ks.map MV.str) i=some (some (i + j))∧j < ks.length
 | x :: r,i,h=>by
  rw [b₈,findM]
  by_cases e:s=x
  ·exact⟨0,by rw [beq_iff_eq.2 e];rfl,sm⟩
  ·rw [beq_eq_false_iff_ne.2 e]
   obtain⟨j,hj,hl⟩:=qI (i:=i + 1) ((a₂.1 h).resolve_left e)
   exact⟨j + 1,by rw [show i + (j + 1)=i + 1 + j by omega];exact hj,by simpa using hl⟩
end
section
def r7:List aW→List (List UInt8)→Nat
 | [],_=>0
 | a :: r,ks=>if bW a.name=false then 10 else if a.name∈ks then 8 else r7 r (ks ++ [a.name])
theorem yE {nm:List UInt8} {l:List aW} (hs:cS l):(0≤eZ nm l 0)↔(aS l nm).2=true:=by
 rcases dJ (nm:=nm) hs with ⟨h1,_,_⟩ | ⟨h1,h2⟩
 ·rw [qG hs h1,h1];simp
 ·rw [pM h2,h1];simp
theorem CY: ∀(r l:List aW) (ks:List (List UInt8)),cS l→(∀nm,(aS l nm).2=decide (nm∈ks))→(i7 r l).2=r7 r ks
 | [],_,_,_,_=>rfl
 | a :: r,l,ks,hs,hk=>by
  rw [i7,r7]
  by_cases h1:bW a.name=false
  ·rw [if_pos h1,if_pos h1]
  ·rw [if_neg h1,if_neg h1]
   by_cases h2:a.name∈ks
   ·rw [if_pos h2,if_pos ((yE hs).2 (by rw [hk];simpa using h2))]
   ·rw [if_neg h2,if_neg (fun h=>h2 (by have:=(yE hs).1 h;rw [hk] at this;simpa using this))]
    refine CY r _ _ (np hs) fun nm=>?_
    rw [yD hs,hk]
    by_cases e:a.name=nm
    ·subst e;simp
    ·simp [e,Ne.symm e]
theorem CZ: ∀(r l:List aW),cS l→(i7 r l).2=0→cS (i7 r l).1∧(i7 r l).1.Perm (l ++ r)
 | [],l,hs,_=>by rw [i7,d₉];exact⟨hs,List.Perm.refl _⟩
 | a :: r,l,hs,h=>by
  rw [i7] at h ⊢
  by_cases h1:bW a.name=false
  ·rw [if_pos h1] at h;exact absurd h (by decide)
  ·rw [if_neg h1] at h ⊢
   by_cases h2:0≤eZ a.name l 0
   ·rw [if_pos h2] at h;exact absurd h (by decide)
   ·rw [if_neg h2] at h ⊢
    obtain⟨h3,h4⟩:=CZ r (ei a l) (np hs) h
    refine⟨h3,h4.trans ?_⟩
    have hno:(aS l a.name).2=false:=by
     cases hb:(aS l a.name).2 with
     | false=>rfl
     | true=>exact absurd ((yE hs).2 hb) h2
    have hp:(ei a l).Perm (a :: l):=by
     rw [mG hs hno]
     have:=f₀ (a:=a) (l₁:=l.take (posA a.name l)) (l₂:=l.drop (posA a.name l))
     rwa [b₀] at this
    refine(hp.append_right r).trans ?_
    exact(f₀ (a:=a) (l₁:=l) (l₂:=r)).symm
theorem uK: ∀(r:List aW) (ks:List (List UInt8)),r7 r ks=0→r.Pairwise (fun a b=>a.name≠b.name)∧∀a∈r,a.name ∉ ks
 | [],_,_=>⟨List.Pairwise.nil,sm⟩
 | a :: r,ks,h=>by
  rw [r7] at h
  split at h
  ·exact absurd h (by decide)
  ·split at h
   ·exact absurd h (by decide)
   ·rename_i hm
    obtain⟨h1,h2⟩:=uK r _ h
    refine⟨a₀.2 ⟨fun b hb e=>h2 b hb (by rw [← e];simp),h1⟩,fun b hb=>?_⟩
    rcases a₂.1 hb with rfl | hb
    ·exact hm
    ·exact fun hk=>h2 b hb (List.mem_append_left _ hk)
theorem Bd: ∀{l m:List aW},cS l→cS m→l.Perm m→l=m
 | [],m,_,_,h=>(List.nil_perm.1 h).symm
 | a :: r,[],_,_,h=>absurd (List.perm_nil.1 h) sm
 | a :: r,b :: s,hl,hm,h=>by
  have h1:=a₀.1 hl
  have h2:=a₀.1 hm
  have hab:a=b:=by
   rcases a₂.1 (h.subset (a₄ ..)) with e | ha
   ·exact e
   ·rcases a₂.1 (h.symm.subset (a₄ ..)) with e | hb
    ·exact e.symm
    ·have k1:=h2.1 a ha
     have k2:=h1.1 b hb
     rw [Gx k1] at k2
     cases k2
  subst hab
  rw [Bd h1.2 h2.2 h.cons_inv]
theorem vT {l m:List aW} (hp:l.Perm m) (hd:m.Pairwise (fun a b=>a.name≠b.name)) (hs:l.Pairwise (fun a b=>Op.bytesLess b.name a.name=false)):cS l:=by
 have hd':l.Pairwise (fun a b=>a.name≠b.name):=hp.symm.pairwise hd (fun h e=>h e.symm);exact hs.imp₂ (fun a b h1 h2=>uH h1 (Ne.symm h2)) hd'
def gl (l:List aW):Nat:=(l.map (·.bal)).sum
theorem qJ: ∀(l:List aW) (s:Nat),(totS l s).2=true↔(l= [] ∨s + gl l < 18446744073709551616)
 | [],s=>by simp [totS]
 | a :: r,s=>by
  rw [totS]
  have ih:=qJ r (iD s a.bal).1
  have e:gl (a :: r)=a.bal + gl r:=by simp [gl]
  unfold iD at *
  by_cases h:s + a.bal < 18446744073709551616
  ·rw [if_pos h] at *
   rw [if_pos rfl,ih,e]
   dsimp only
   constructor
   ·rintro(rfl | h2)
    ·right;simp [gl];omega
    ·right;omega
   ·rintro(h2 | h2)
    ·cases h2
    ·right;omega
  ·rw [if_neg h,if_neg sm,e]
   simp
   omega
theorem wS {l m:List aW} (h:l.Perm m):(totS l 0).2=(totS m 0).2:=by
 have hs:gl l=gl m:=(h.map _).sum_nat;have hn:l= [] ↔m= [] :=⟨fun e=>by subst e;exact List.nil_perm.1 h,fun e=>by subst e;exact List.perm_nil.1 h⟩;have h1:=qJ l 0;have h2:=qJ m 0;rw [hs,hn] at h1;have:=h1.trans h2.symm;cases ha:(totS l 0).2 <;> cases hb:(totS m 0).2 <;> simp_all
end
section
open Go.RowKit Go.Lib Go.Shelf
theorem Jn:(Tryz.prog.info? 87).map (fun i=>(i.zero,i.size,i.bytes))=some (some (.agg #[.string ⟨#[]⟩, .int .u64 0, .int .u64 0]),3,32):=by kernel_rfl
theorem Be:Tryz.prog.underlying 25=some (.slice 87):=by kernel_rfl
theorem EG:Tryz.prog.underlying 3=some (.int .i64):=by kernel_rfl
section
variable {P:Program}
theorem yF (w:World) {o:Oper} {a:Act} {K:Act→World→Prop} {Q:Exit→Act→World→Prop} (d s:Operand) (t t':TypeId)
  (ho:o.op= .call { callee:= .builtin .copy,args:= #[d,s],argTypes:= #[t,t'] }) (v u:Value) (hd:a.eval d=v) (hs:a.eval s=u) {v':Value} {w':World}
  (hr:(Builtin.copy_ #[t,t'] o.type #[v,u]).run P w= .ok v' w') (h:K (a.put o.dst v') w'):o.wp P a w K Q:=by
 unfold Oper.wp execOp
 simp only [ho,resolve,invoke,builtin,Sem.run_bind,Sem.run_pure,Result.andThen_ok,List.map_toArray,b₈,List.map_nil,hd,hs,hr]
 exact h
theorem kA (w:World) {ops:Array Oper} {rest:List Oper} {o:Oper} {a:Act} {Q:Exit→Act→World→Prop} (hgd:o.guard=none) (d s:Operand) (t t':TypeId)
  (ho:o.op= .call { callee:= .builtin .copy,args:= #[d,s],argTypes:= #[t,t'] }) (v u:Value) (hd:a.eval d=v) (hs:a.eval s=u) {v':Value} {w':World}
  (hr:(Builtin.copy_ #[t,t'] o.type #[v,u]).run P w= .ok v' w') (h:wpList P ops Q rest (a.put o.dst v') w'):wpList P ops Q (o :: rest) a w:=
 wpList_plain hgd fun _ hK=>yF w d s t t' ho v u hd hs hr (hK _ _ h)
theorem mH {ops:Array Oper} {o:Oper} {a:Act} {w:World} {K:Act→World→Prop} {Q:Exit→Act→World→Prop} {E:Prop}
  (hg:o.guard=none) (d x:Operand) (dT sT:TypeId) (hop:o.op=Op.call { callee:=Callee.builtin Builtin.copy,args:= #[d,x],argTypes:= #[dT,sT] })
  (v u:Value) (hd:a.eval d=v) (hx:a.eval x=u) {v':Value} {w':World} (hr:(Builtin.copy_ #[dT,sT] o.type #[v,u]).run P w= .ok v' w') (hK:K (a.put o.dst v') w') :
  if Region.wanted o (yielded ops a.tmps)=true then Oper.wp P o a w K Q else E:=by
 have hw:Region.wanted o (yielded ops a.tmps)=true:=by simp [Region.wanted,hg]
 rw [if_pos hw]
 unfold Oper.wp
 simp [execOp,hop,resolve,invoke,builtin,hd,hx,hr,Result.andThen]
 exact hK
end
theorem il {P:Program} (w:World) (dT sT ty elem:TypeId) (es g o dLen dCap:Nat) (a:Addr) (sLen sCap:Nat) (cur:Array Value) (t:TypeId) (cs:List Value)
  (hu:P.underlying dT=some (.slice elem)) (hs:(P.info? elem).map (·.size)=some es)
  (hg:w.heap[g]? =some (.cells cur t (0,0))) (hn:cs.length=e₂ sLen dLen * es)
  (hsrc: ∀j v,cs[j]? =some v→w.cell? (a.add j)=some v) (hfit:o + cs.length≤cur.size) (h1: ∀v∈cs,v.oneCell'=true) :
  (Builtin.copy_ #[dT,sT] ty #[.slice (some ⟨g,o,none⟩) dLen dCap, .slice (some a) sLen sCap]).run P w =
   .ok (goInt (e₂ sLen dLen)) (w.setRow g (cur.toList.take o ++ cs ++ cur.toList.drop (o + cs.length)).toArray):=by
 have hl:=run_loadCells_list (P:=P) w a cs hsrc
 have hst:=run_storeCells_at P g o t cs 0 cur w hg (by simpa using hfit) h1
 cases hq:P.info? elem with
 | none=>simp [hq] at hs
 | some i=>
  have hi:i.size=es:=by simpa [hq] using hs
  simp [Builtin.copy_,run_underlying hu,Builtin.lenOf,Builtin.firstCells,sizeOf,typeInfo,hq,hi,← hn,hl,hst]
def GH:Value:= .agg #[.string ⟨#[]⟩, .int .u64 0, .int .u64 0]
theorem rM: ∃i0,Tryz.prog.info? 87=some i0∧i0.zero=some GH∧i0.size=3∧i0.bytes=32:=by
 have h:=Jn;cases hq:Tryz.prog.info? 87 with
 | none=>rw [hq] at h;cases h
 | some i=>
  rw [hq] at h;simp only [Option.map_some,Option.some.injEq,d₂] at h;exact⟨i,rfl,h.1,h.2.1,h.2.2⟩
set_option maxRecDepth 100000 in
theorem Jo (b off n c i vb voff vc:Nat) (cs vs:List Value) (w:World) (hi:i < n) (hnc:n≤c) (hroom:c < n + 1) (hbig:(n + 1) * 32≤140737488355328)
  (hcl:cs.length=n * 3) (hvl:vs.length=3)
  (hcs: ∀j v,cs[j]? =some v→w.cell? ⟨b,off + j,none⟩=some v)
  (hvs: ∀j v,vs[j]? =some v→w.cell? ⟨vb,voff + j,none⟩=some v) (h1c: ∀v∈cs,v.oneCell'=true) (h1v: ∀v∈vs,v.oneCell'=true) :
  Calls Tryz.prog 205 #[.slice (some ⟨b,off,none⟩) n c, .int .i64 i, .slice (some ⟨vb,voff,none⟩) 1 vc] w fun e w'=>
   ∃G,n + 1≤G∧G≤maxLen∧∃ROW:Array Value,ROW.size=G * 3∧(cs.take (i * 3) ++ vs ++ cs.drop (i * 3)) <+:ROW.toList∧
   e= .returned (.slice (some ⟨w.heap.size,0,none⟩) (n + 1) G)∧
   ∃R1 R0,w'=(((w.alloc (.cells R0 87)).drew.setRow w.heap.size R1).drew).setRow w.heap.size ROW:=by
 obtain⟨i0,hi0,hz0,hzs,hzb⟩:=rM
 have ha:Tryz.prog.underlying 25=some (.slice 87):=Be
 have hint:Tryz.prog.underlying 3=some (.int .i64):=EG
 have u22:=run_underlying ha
 have u3:=run_underlying hint
 have hz2: ¬ ((i:Int)=(n:Int)):=om
 have hz3:(c:Int) < (n:Int) + 1:=om
 have hsz:(Tryz.prog.info? 87).map (·.size)=some 3:=by rw [hi0];simp [hzs]
 have hbw:b < w.heap.size:=block_lt_of_cell (hcs 0 _ (b₃ om))
 have hvw:vb < w.heap.size:=block_lt_of_cell (hvs 0 _ (b₃ om))
 have hkk:(n:Int) + 1 - (i:Int)=((n + 1 - i:Nat):Int):=om
 have hik:i + (n + 1 - i)=n + 1:=om
 have hold:(Builtin.firstCells i0.size i (.slice (some ⟨b,off,none⟩) i c)).run Tryz.prog w.drew= .ok (cs.take (i * 3)).toArray w.drew:=by
  rw [hzs]
  exact run_firstCells_some w.drew 3 i ⟨b,off,none⟩ i c (cs.take (i * 3)) (by rw [b₄];omega) (fun j v hj=>by
   rw [Addr.add_lit]
   rw [List.getElem?_take] at hj
   split at hj
   ·exact hcs j v hj
   ·cases hj)
 have hrz: ∀ty,(Builtin.append_ #[25,3] ty #[.slice (some ⟨b,off,none⟩) i c, .int .i64 ((n:Int) + 1 - (i:Int))]).run Tryz.prog w =
   .ok (.slice (some ⟨w.heap.size,0,none⟩) (n + 1) (grownCap w (n + 1) c 87)) (w.drew.alloc (.cells ((cs.take (i * 3)).toArray ++ Builtin.zeroCells GH.cells (n + 1 - i) ++ Builtin.zeroCells GH.cells (grownCap w (n + 1) c 87 - (n + 1))) 87)):=fun ty=>by
  have h:=Lib.run_append_grow_zeros w 25 3 ty 87 i0 _ .i64 .i64 ha hint hi0 hz0 (some ⟨b,off,none⟩) i c (cs.take (i * 3)) hold (n + 1 - i) om om om om (by rw [hzb];omega) (by rw [hzb,hik];exact growslice_fits hroom hbig)
  rw [hik] at h
  rw [hkk]
  exact h
 have hGn:n + 1≤grownCap w (n + 1) c 87:=grownCap_ge w _ _ _
 have hG63:grownCap w (n + 1) c 87≤maxLen:=grownCap_le_maxLen w (n + 1) c 87 (by unfold maxLen;omega)
 obtain⟨G,hG⟩: ∃G,G=grownCap w (n + 1) c 87:=⟨_,rfl⟩
 obtain⟨ROW,hROW⟩: ∃ROW:Array Value,ROW=(cs.take (i * 3)).toArray ++ Builtin.zeroCells GH.cells (n + 1 - i) ++ Builtin.zeroCells GH.cells (G - (n + 1)):=⟨_,rfl⟩
 rw [← hG] at hrz hGn hG63
 rw [← hROW] at hrz
 have hRl:ROW.size=G * 3:=by
  have hz: ∀k,(Builtin.zeroCells GH.cells k).size=k * 3:=fun k=>by unfold Builtin.zeroCells;rw [Array.size_map,Array.size_range];rfl
  rw [hROW,Array.size_append,Array.size_append,hz,hz,List.size_toArray,b₄,hcl]
  simp only [c₉]
  split <;> omega
 have hW1g: ∀(W:World),W.heap=(w.alloc (.cells ROW 87)).heap→W.heap[w.heap.size]? =some (.cells ROW 87 (0,0)):=fun W hW=>by
  rw [hW]
  show(w.heap.push (.cells ROW 87 (0,0)))[w.heap.size]? =_
  exact Array.getElem?_push_size
 have hOb: ∀(W:World),W.heap=(w.alloc (.cells ROW 87)).heap→∀x j v,x < w.heap.size→w.cell? ⟨x,j,none⟩=some v→W.cell? ⟨x,j,none⟩=some v:=fun W hW x j v hx h=>by
  have h1:=World.cell?_alloc_past (w:=w) (.cells ROW 87) x j hx
  unfold World.cell? at h1 h ⊢
  rw [hW]
  exact h1.trans h
 have hcpA: ∀(W:World),W.heap=(w.alloc (.cells ROW 87)).heap→∀ty dc,(Builtin.copy_ #[25,25] ty #[.slice (some ⟨w.heap.size,i * 3,none⟩) (n + 1 - i) dc, .slice (some ⟨vb,voff,none⟩) 1 vc]).run Tryz.prog W= .ok (goInt 1) (W.setRow w.heap.size (ROW.toList.take (i * 3) ++ vs ++ ROW.toList.drop (i * 3 + 3)).toArray):=fun W hW ty dc=>by
  have hm:e₂ 1 (n + 1 - i)=1:=by simp only [c₉];split <;> omega
  have h:=il W 25 25 ty 87 3 w.heap.size (i * 3) (n + 1 - i) dc ⟨vb,voff,none⟩ 1 vc ROW 87 vs ha hsz (hW1g W hW) (by rw [hm,hvl]) (fun j v hj=>by rw [Addr.add_lit];exact hOb W hW vb _ v hvw (hvs j v hj)) om h1v
  rw [hm,hvl] at h
  exact h
 obtain⟨R1,hR1⟩: ∃R1,R1=(ROW.toList.take (i * 3) ++ vs ++ ROW.toList.drop (i * 3 + 3)).toArray:=⟨_,rfl⟩
 rw [← hR1] at hcpA
 have hR1l:R1.size=G * 3:=by
  rw [hR1]
  simp
  omega
 have hdl:(cs.drop (i * 3)).length=(n - i) * 3:=by rw [c₃,hcl];omega
 have hcpB: ∀(W:World),W.heap=((w.alloc (.cells ROW 87)).drew.setRow w.heap.size R1).heap→∀ty dc sc,(Builtin.copy_ #[25,25] ty #[.slice (some ⟨w.heap.size,(i + 1) * 3,none⟩) (n - i) dc, .slice (some ⟨b,off + i * 3,none⟩) (n - i) sc]).run Tryz.prog W= .ok (goInt (n - i:Nat)) (W.setRow w.heap.size (R1.toList.take ((i + 1) * 3) ++ cs.drop (i * 3) ++ R1.toList.drop ((i + 1) * 3 + (n - i) * 3)).toArray):=fun W hW ty dc sc=>by
  have hm:e₂ (n - i) (n - i)=n - i:=Nat.min_self _
  have hg1:W.heap[w.heap.size]? =some (.cells R1 87 (0,0)):=by
   rw [hW]
   exact setRow_heap _ w.heap.size ROW R1 87 (0,0) (hW1g _ rfl)
  have h:=il W 25 25 ty 87 3 w.heap.size ((i + 1) * 3) (n - i) dc ⟨b,off + i * 3,none⟩ (n - i) sc R1 87 (cs.drop (i * 3)) ha hsz hg1 (by rw [hm,hdl]) (fun j v hj=>by
   rw [Addr.add_lit,Nat.add_assoc]
   rw [e₈] at hj
   have h1:=hOb (w.alloc (.cells ROW 87)).drew rfl b _ v hbw (hcs _ v hj)
   have h2:(((w.alloc (.cells ROW 87)).drew.setRow w.heap.size R1)).cell? ⟨b,off + (i * 3 + j),none⟩=some v:=(cell_setRow_other _ _ _ _ (Nat.ne_of_lt hbw)).trans h1
   unfold World.cell? at h2 ⊢
   rw [hW]
   exact h2) om (fun v hv=>h1c v (c₆ hv))
  rw [hm,hdl] at h
  exact h
 have hw1:IntKind.i64.wrap ((i:Int) + 1)=(i:Int) + 1:=by rw [IntKind.wrap_i64];omega
 have hw2:IntKind.i64.wrap ((n:Int) + 1)=(n:Int) + 1:=by rw [IntKind.wrap_i64];omega
 have hb1:(0:Int)≤(i:Int) + 1:=om
 have hin:i≤n:=om
 have htn:((i:Int) + 1).toNat=i + 1:=om
 have hb3:(i:Int)≤(n:Int):=om
 have hGi: ¬ (G=i):=om
 have hGim: ¬ (G=i + 1):=om
 have hci: ¬ (c=i):=om
 have hpre:(cs.take (i * 3))=ROW.toList.take (i * 3):=by
  rw [hROW,Array.toList_append,Array.toList_append,b₁,a₉ (by simp;omega),List.toList_toArray,f₇,Nat.min_self]
 have hR1p:R1.toList.take ((i + 1) * 3)=cs.take (i * 3) ++ vs:=by
  rw [hR1,← hpre]
  have h1:(cs.take (i * 3)).length=i * 3:=by simp;omega
  show List.take _ (cs.take (i * 3) ++ vs ++ _)=_
  rw [a₉ (by simp;omega),List.take_of_length_le (by simp;omega)]
 obtain⟨R2,hR2⟩: ∃R2,R2=(R1.toList.take ((i + 1) * 3) ++ cs.drop (i * 3) ++ R1.toList.drop ((i + 1) * 3 + (n - i) * 3)).toArray:=⟨_,rfl⟩
 rw [← hR2] at hcpB
 have hR2l:R2.size=G * 3:=by
  rw [hR2]
  simp
  omega
 have hR2p:(cs.take (i * 3) ++ vs ++ cs.drop (i * 3)) <+:R2.toList:=by
  rw [hR2,hR1p]
  exact e₉ _ _
 have mixed:Tryz.prog.follows Departure.mixedOrders=true:=by kernel_rfl
 clear hkk hik hold hROW hG hR1 hR2 hpre hR1p
 go_enter Tryz.func205,Tryz.ntmps205
 have hA0:=hcpA (w.alloc (.cells ROW 87)).drew rfl
 have hB0:=hcpB ((w.alloc (.cells ROW 87)).drew.setRow w.heap.size R1).drew rfl
 go_wp2_with (first
  | (at_builtin;refine Lib.wpList_append_run _ rfl _ _ _ _ rfl _ _ rfl rfl _ _ (hrz _) ?_)
  | (at_builtin;refine kA _ rfl _ _ 25 25 rfl _ _ rfl rfl (hA0 _ _) ?_))
 go_region_law_o (refine mH rfl _ _ 25 25 rfl _ _ (by simp [Act.eval,Act.put]) (by simp [Act.eval,Act.put]) (hB0 _ _ _) ?_)
 go_wp2
 go_ret
 exact⟨G,hGn,hG63,R2,hR2l,hR2p,rfl,R1,ROW,rfl⟩
set_option maxRecDepth 100000 in
theorem GI (b n c i vb vc:Nat) (cs vs:List Value) (cur curv:Array Value) (tv:TypeId) (w:World) (hi:i < n) (hroom:n + 1≤c) (hc63:c≤maxLen) (hvb:vb≠b)
  (hg:w.heap[b]? =some (.cells cur 87 (0,0))) (hcz:cur.size=c * 3) (hgv:w.heap[vb]? =some (.cells curv tv (0,0)))
  (hcl:cs.length=n * 3) (hvl:vs.length=3) (hcp:cs <+:cur.toList)
  (hvs: ∀j v,vs[j]? =some v→w.cell? ⟨vb,j,none⟩=some v) (h1c: ∀v∈cs,v.oneCell'=true) (h1v: ∀v∈vs,v.oneCell'=true) :
  Calls Tryz.prog 205 #[.slice (some ⟨b,0,none⟩) n c, .int .i64 i, .slice (some ⟨vb,0,none⟩) 1 vc] w fun e w'=>
   ∃ROW:Array Value,ROW.size=c * 3∧(cs.take (i * 3) ++ vs ++ cs.drop (i * 3)) <+:ROW.toList∧
   e= .returned (.slice (some ⟨b,0,none⟩) (n + 1) c)∧
   ∃R1,w'=(w.drew.setRow b R1).setRow b ROW:=by
 obtain⟨i0,hi0,hz0,hzs,hzb⟩:=rM
 have ha:Tryz.prog.underlying 25=some (.slice 87):=Be
 have hint:Tryz.prog.underlying 3=some (.int .i64):=EG
 have u22:=run_underlying ha
 have u3:=run_underlying hint
 unfold maxLen at hc63
 have hz2: ¬ ((i:Int)=(n:Int)):=om
 have hsz:(Tryz.prog.info? 87).map (·.size)=some 3:=by rw [hi0];simp [hzs]
 have hso: ∀w,(Go.sizeOf 87).run Tryz.prog w= .ok 3 w:=fun w=>by simp [sizeOf,typeInfo,hi0,hzs]
 have hsa:w.shape? vb=some (tv,curv.size):=by simp [World.shape?,hgv]
 have hsb:w.shape? b=some (87,c * 3):=by simp [World.shape?,hg,hcz]
 have hfa: ∀k,w.frozen? ⟨vb,k,none⟩=false:=fun k=>by simp [World.frozen?,hgv]
 have hov: ∀lb cb,(callFunc 241 #[.slice (some ⟨vb,0,none⟩) 1 vc, .slice (some ⟨b,(i + 1) * 3,none⟩) lb cb]).run Tryz.prog w= .ok (.value (.bool false)) w:=fun lb cb=>by
  rw [run_callFunc_extern Tryz.func241 (by kernel_rfl) (by kernel_rfl) (by kernel_rfl) (e:=Extern.SlicesOverlaps.overlaps #[25,25] #[4]) (by kernel_rfl),
   Lib.run_overlaps_apart w 25 4 87 ha 3 hso ⟨vb,0,none⟩ ⟨b,(i + 1) * 3,none⟩ 1 vc lb cb hvb tv 87 curv.size (c * 3) hsa hsb om (hfa 0) (hfa _)]
  rfl
 obtain⟨tl,htl⟩:=hcp
 have hct:cur.toList.length=c * 3:=by rw [Array.length_toList];exact hcz
 have hdl:(cs.drop (i * 3)).length=(n - i) * 3:=by rw [c₃,hcl];omega
 have hcell: ∀(W:World),W.heap=w.heap→∀j v,cs[j]? =some v→W.cell? ⟨b,j,none⟩=some v:=fun W hW j v hj=>by
  have h1:cur[j]? =some v:=by
   rw [← Array.getElem?_toList,← htl,List.getElem?_append_left (a₁.1 hj).1]
   exact hj
  unfold World.cell?
  rw [hW,hg]
  exact h1
 have hcpA: ∀(W:World),W.heap=w.heap→∀ty dc sc,(Builtin.copy_ #[25,25] ty #[.slice (some ⟨b,(i + 1) * 3,none⟩) (n - i) dc, .slice (some ⟨b,i * 3,none⟩) (n + 1 - i) sc]).run Tryz.prog W= .ok (goInt (n - i:Nat)) (W.setRow b (cur.toList.take ((i + 1) * 3) ++ cs.drop (i * 3) ++ cur.toList.drop ((i + 1) * 3 + (n - i) * 3)).toArray):=fun W hW ty dc sc=>by
  have hm:e₂ (n + 1 - i) (n - i)=n - i:=by simp only [c₉];split <;> omega
  have h:=il W 25 25 ty 87 3 b ((i + 1) * 3) (n - i) dc ⟨b,i * 3,none⟩ (n + 1 - i) sc cur 87 (cs.drop (i * 3)) ha hsz (by rw [hW];exact hg) (by rw [hm,hdl]) (fun j v hj=>by
   rw [Addr.add_lit]
   rw [e₈] at hj
   exact hcell W hW _ v hj) om (fun v hv=>h1c v (c₆ hv))
  rw [hm,hdl] at h
  exact h
 obtain⟨R1,hR1⟩: ∃R1,R1=(cur.toList.take ((i + 1) * 3) ++ cs.drop (i * 3) ++ cur.toList.drop ((i + 1) * 3 + (n - i) * 3)).toArray:=⟨_,rfl⟩
 rw [← hR1] at hcpA
 have hR1l:R1.size=c * 3:=by
  rw [hR1]
  simp
  omega
 have hcpB: ∀(W:World),W.heap=(w.drew.setRow b R1).heap→∀ty dc,(Builtin.copy_ #[25,25] ty #[.slice (some ⟨b,i * 3,none⟩) (n + 1 - i) dc, .slice (some ⟨vb,0,none⟩) 1 vc]).run Tryz.prog W= .ok (goInt 1) (W.setRow b (R1.toList.take (i * 3) ++ vs ++ R1.toList.drop (i * 3 + 3)).toArray):=fun W hW ty dc=>by
  have hm:e₂ 1 (n + 1 - i)=1:=by simp only [c₉];split <;> omega
  have hg1:W.heap[b]? =some (.cells R1 87 (0,0)):=by
   rw [hW]
   exact setRow_heap _ b cur R1 87 (0,0) hg
  have h:=il W 25 25 ty 87 3 b (i * 3) (n + 1 - i) dc ⟨vb,0,none⟩ 1 vc R1 87 vs ha hsz hg1 (by rw [hm,hvl]) (fun j v hj=>by
   rw [Addr.add_lit,c₁]
   have h2:(w.drew.setRow b R1).cell? ⟨vb,j,none⟩=some v:=(cell_setRow_other _ _ _ _ hvb).trans (hvs j v hj)
   unfold World.cell? at h2 ⊢
   rw [hW]
   exact h2) om h1v
  rw [hm,hvl] at h
  exact h
 obtain⟨R2,hR2⟩: ∃R2,R2=(R1.toList.take (i * 3) ++ vs ++ R1.toList.drop (i * 3 + 3)).toArray:=⟨_,rfl⟩
 rw [← hR2] at hcpB
 have hR2l:R2.size=c * 3:=by
  rw [hR2]
  simp
  omega
 have hp1:R1.toList.take (i * 3)=cs.take (i * 3):=by
  rw [hR1]
  show List.take _ (cur.toList.take ((i + 1) * 3) ++ cs.drop (i * 3) ++ _)=_
  rw [b₁,a₉ (by simp;omega),f₇,← htl,a₉ om]
  congr 1
  simp only [c₉]
  split <;> omega
 have hp2:cs.drop (i * 3) <+:R1.toList.drop (i * 3 + 3):=by
  rw [hR1]
  show _ <+:f₉ _ (cur.toList.take ((i + 1) * 3) ++ cs.drop (i * 3) ++ _)
  have hl:(cur.toList.take ((i + 1) * 3)).length=i * 3 + 3:=by rw [b₄,hct,e₀ om];omega
  rw [b₁,List.drop_left' hl]
  exact e₉ _ _
 have hR2p:(cs.take (i * 3) ++ vs ++ cs.drop (i * 3)) <+:R2.toList:=by
  rw [hR2,hp1]
  obtain⟨z,hz⟩:=hp2
  rw [← hz]
  exact⟨z,sm⟩
 have hw1:IntKind.i64.wrap ((i:Int) + 1)=(i:Int) + 1:=by rw [IntKind.wrap_i64];omega
 have hw2:IntKind.i64.wrap ((n:Int) + 1)=(n:Int) + 1:=by rw [IntKind.wrap_i64];omega
 have hb1:(0:Int)≤(i:Int) + 1:=om
 have hb0:(0:Int)≤(n:Int) + 1:=om
 have hin:i≤n:=om
 have htn:((i:Int) + 1).toNat=i + 1:=om
 have htm:((n:Int) + 1).toNat=n + 1:=om
 have hb3:(i:Int)≤(n:Int) + 1:=om
 have hci: ¬ (c=i):=om
 have hcim: ¬ (c=i + 1):=om
 have mixed:Tryz.prog.follows Departure.mixedOrders=true:=by kernel_rfl
 have hA0:=hcpA w.drew rfl
 have hB0:=hcpB (w.drew.setRow b R1) rfl
 clear hR1 hR2 hp1 hp2 htl hcell
 go_enter Tryz.func205,Tryz.ntmps205
 go_wp2_with (simp only [hov])
 go_region_law_o (refine mH rfl _ _ 25 25 rfl _ _ (by simp [Act.eval,Act.put]) (by simp [Act.eval,Act.put]) (hA0 _ _ _) ?_)
 go_wp2_with (at_builtin;refine kA _ rfl _ _ 25 25 rfl _ _ rfl rfl (hB0 _ _) ?_)
 go_ret
 exact⟨R2,hR2l,hR2p,rfl,R1,rfl⟩
end
section
open Go.RowKit Go.Lib
variable {G:GS}
attribute [local irreducible] aj aC aG aM aQ vC aY aA
theorem Bf {α β:Type} {R:α→β→Prop} {x0:α} {p0:β} (h0:R x0 p0): ∀(i:Nat) {L:List α} {Q:List β},Q.length=L.length→(∀(j:Nat) x p,L[j]? =some x→Q[j]? =some p→R x p)→∀(j:Nat) x p,(L.take i ++ x0 :: L.drop i)[j]? =some x→(Q.take i ++ p0 :: Q.drop i)[j]? =some p→R x p
 | 0,L,Q,hl,h,j,x,p,hx,hp=>by
  cases j with
  | zero=>simp at hx hp;subst hx;subst hp;exact h0
  | succ j=>exact h j x p (by simpa using hx) (by simpa using hp)
 | i + 1,[],[],hl,h,j,x,p,hx,hp=>by
  cases j with
  | zero=>simp at hx hp;subst hx;subst hp;exact h0
  | succ j=>simp at hx
 | i + 1,[],q :: Q,hl,_,_,_,_,_,_=>by simp at hl
 | i + 1,y :: L,[],hl,_,_,_,_,_,_=>by simp at hl
 | i + 1,y :: L,q :: Q,hl,h,j,x,p,hx,hp=>by
  cases j with
  | zero=>exact h 0 x p (by simpa using hx) (by simpa using hp)
  | succ j=>exact Bf h0 i (by simpa using hl) (fun k u v hu hv=>h (k + 1) u v (by simpa using hu) (by simpa using hv)) j x p (by simpa using hx) (by simpa using hp)
theorem wT {Q:List (List Value)}:(∀p∈Q,p.length=3)→Q.flatten.length=Q.length * 3:=by
 induction Q with
 | nil=>intro _;rfl
 | cons q Q ih=>
  intro h;rw [b₇,b₅,ih fun p hp=>h p (a₈ _ hp),h q (a₄ ..),f₁];omega
theorem oo: ∀(i:Nat) {Q:List (List Value)},(∀p∈Q,p.length=3)→(Q.take i).flatten=Q.flatten.take (i * 3)∧(Q.drop i).flatten=Q.flatten.drop (i * 3)
 | 0,Q,_=>by simp
 | i + 1,[],_=>by simp
 | i + 1,q :: Q,h=>by
  have hq:=h q (a₄ ..)
  obtain⟨h1,h2⟩:=oo i (Q:=Q) fun p hp=>h p (a₈ _ hp)
  rw [e₆,List.drop_succ_cons,b₇,b₇,h1,h2,show (i + 1) * 3=q.length + i * 3 by omega,List.take_length_add_append,List.drop_length_add_append]
  exact⟨rfl,rfl⟩
theorem GJ {w:World} {P:bE} {adr:er} {L:List MV} {Q:List (List Value)} (hl:Q.length=L.length) (h: ∀(j:Nat) x p,L[j]? =some x→Q[j]? =some p→bI w P adr x p): ∀v∈Q.flatten,v.oneCell'=true:=by
 intro v hv;obtain⟨p,hp,hvp⟩:=List.mem_flatten.1 hv;obtain⟨j,hj⟩:=List.getElem?_of_mem hp;have hjl:=(a₁.1 hj).1;exact(h j _ p (b₃ om) hj).one v hvp
theorem wU {B g:Nat} {w0 w:World} (hb:Below B w0 w) (hBg:B≤g) (cs:Array Value):Below B w0 (w.setRow g cs):=
 ⟨hb.os,hb.tape,hb.output,by rw [setRow_size];exact hb.size,fun k hk=>(setRow_other _ _ _ _ om).trans (hb.block k hk)⟩
theorem wV {ex:Fp} {w:World} {g:Nat} (c:Array Value) (hx:ex g):bo ex w (w.setRow g c):=⟨rfl,rfl,rfl,sm,fun b _ hne=>setRow_other _ _ _ _ fun e=>hne (e▸hx)⟩
theorem uL {w:World} {g:Nat} {cur:Array Value} {ty:TypeId} (hg:w.heap[g]? =some (.cells cur ty (0,0))) {cs:List Value} (hp:cs <+:cur.toList) {j:Nat} {v:Value} (hj:cs[j]? =some v):w.cell? ⟨g,j,none⟩=some v:=by
 have h1:cur[j]? =some v:=by rw [← Array.getElem?_toList];exact cM hp hj
 unfold World.cell?;rw [hg];exact h1
theorem EH {b0:MB} {c:Nat} {b:MB} (h:VM.get [(2,b0)] c=some b):aP (fun _=>none) 2 b0 c=some b:=by
 rw [VM.get_cons] at h;by_cases e:c=2
 ·subst e;rw [aE];exact h
 ·rw [if_neg (Ne.symm e)] at h;cases h
theorem Jp {w:World} {P:bE} {adr:er} {m:FM} (h:aU w P adr m):aU w.drew P adr m∧bj w w.drew P P adr adr:=by
 have k:bj w w.drew P P adr adr:=⟨fun _ _ h=>h,fun _ _ _=>rfl,fun _ _ h=>h,fun _ _ cur _ _ h=>⟨cur,h,rfl⟩⟩;refine⟨⟨fun c b hc=>?_,h.inj,h.prot⟩,k⟩;rcases h.blk c b hc with h1 | ⟨g,h1,h2⟩
 ·exact .inl h1
 ·exact .inr ⟨g,h1,h2.keep k rfl fun _ h=>h⟩
theorem GK (l:List aW) (a:aW) (i:Nat) (hi:i < l.length) (hl:l.length≤100000):aL Tryz.prog G 205 [.ms 0 3 0 l.length, .int .i64 i, .ms 1 3 0 1] [(0,cF l),(1,cF [a])] 2 (.ms 2 3 0 (l.length + 1)) [(2,cF (l.take i ++ a :: l.drop i))] 3:=by
 intro w P adr vals hg hI hn hL hargs;cases hargs with | cons a1 hargs=>cases hargs with | cons a2 hargs=>cases hargs with | cons a3 hargs=>
 cases hargs;have e2:=a2.int_;subst e2;rcases a1.ms_ with ⟨_,_,h0⟩ | ⟨g,o,cap,hg1,rfl,ho,hcap,hcm,cur0,ty0,hw0,hsz0⟩
 ·omega
 rcases a3.ms_ with ⟨_,_,h0⟩ | ⟨gv,ov,capv,hg3,rfl,hov,hcapv,_,_⟩
 ·omega
 have ho:o=0:=by simpa using ho (.inr rfl)
 subst ho;have hov:ov=0:=by simpa using hov (.inr rfl)
 subst hov;have hsz0:=hsz0 rfl
 -- what memory holds
 rcases hI.blk 0 (cF l) rfl with ⟨_,h2,_⟩ | ⟨g',h1,h2⟩
 ·have:(cF l).l.length=0:=by rw [h2];rfl
  rw [show (cF l).l.length=l.length from c₀ _] at this;omega
 rw [hg1] at h1;injection h1 with h1
 subst h1;obtain⟨cur,Q,hw,hQl,hQ3,hQr,hQp⟩:=h2.ofR rfl;rcases hI.blk 1 (cF [a]) rfl with ⟨_,h3,_⟩ | ⟨g',h1,h3⟩
 ·cases h3
 rw [hg3] at h1;injection h1 with h1
 subst h1;obtain⟨curv,V,hwv,hVl,hV3,hVr,hVp⟩:=h3.ofR rfl;have hne:gv≠g:=fun e=>absurd (hI.inj 1 0 _ _ g rfl rfl (by rw [← e];exact hg3) hg1) (by decide)
 rw [hw0] at hw;injection hw with hw
 injection hw with hw ht
 subst hw;subst ht;have hQl:Q.length=(l.map bd).length:=hQl;have hVl:V.length=1:=hVl;obtain⟨p,rfl⟩: ∃p,V= [p] :=by
  match V,hVl with
  | [p],_=>exact ⟨p,rfl⟩
 have hp3:p.length=3:=hV3 p sm;have hpr:bI w P noAdr (bd a) p:=hVr 0 _ _ rfl rfl;rw [b₇,List.flatten_nil,d₉] at hVp;have hQr: ∀(j:Nat) x p,(l.map bd)[j]? =some x→Q[j]? =some p→bI w P noAdr x p:=hQr
 have hQ3: ∀p∈Q,p.length=3:=hQ3
 have hcl:Q.flatten.length=l.length * 3:=by rw [wT hQ3,hQl,c₀]
 have h1c:=GJ hQl hQr;have h1v: ∀v∈p,v.oneCell'=true:=hpr.one
 have hvs: ∀j v,p[j]? =some v→w.cell? ⟨gv,j,none⟩=some v:=fun j v hj=>uL hwv hVp hj
 -- the row behind it
 have hQn: ∀(j:Nat) x q,((l.take i ++ a :: l.drop i).map bd)[j]? =some x→(Q.take i ++ p :: Q.drop i)[j]? =some q→bI w P noAdr x q:=by
  rw [e₁,b₈,List.map_take,List.map_drop];exact Bf hpr i hQl hQr
 have hQn3: ∀q∈Q.take i ++ p :: Q.drop i,q.length=3:=by
  intro q hq;rcases List.mem_append.1 hq with h | h
  ·exact hQ3 q (e₃ h)
  ·rcases a₂.1 h with rfl | h
   ·exact hp3
   ·exact hQ3 q (c₆ h)
 have hQnl:(Q.take i ++ p :: Q.drop i).length=((l.take i ++ a :: l.drop i).map bd).length:=by
  simp only [b₅,f₁,b₄,c₃,c₀];rw [hQl,c₀]
 have hQnf:(Q.take i ++ p :: Q.drop i).flatten=Q.flatten.take (i * 3) ++ p ++ Q.flatten.drop (i * 3):=by
  rw [List.flatten_append,b₇,(oo i hQ3).1,(oo i hQ3).2,b₁]
 have h2n:=hn 2 (a₃ _);by_cases hroom:cap < l.length + 1
 ·refine(Jo g 0 l.length cap i gv 0 capv Q.flatten p w hi hcap hroom om hcl hp3 (fun j v hj=>by rw [c₁];exact uL hw0 hQp hj) (fun j v hj=>by rw [c₁];exact hvs j v hj) h1c h1v).mono ?_;rintro e w' ⟨C,hC1,hC2,ROW,hR,hRp,rfl,R1,R0,rfl⟩;have hb:Below w.heap.size w ((((w.alloc (.cells R0 87)).drew.setRow w.heap.size R1).drew).setRow w.heap.size ROW):=
   wU (wU (Below.alloc1 w _).drew (a₃ _) _).drew (a₃ _) _
  have hgn:((((w.alloc (.cells R0 87)).drew.setRow w.heap.size R1).drew).setRow w.heap.size ROW).heap[w.heap.size]? =some (.cells ROW 87 (0,0)):=
   setRow_heap _ _ R1 ROW _ _ (setRow_heap _ _ R0 R1 _ _ (heap_alloc_new w _))
  generalize ((((w.alloc (.cells R0 87)).drew.setRow w.heap.size R1).drew).setRow w.heap.size ROW)=w' at *;have hI0:aU w P adr (fun _=>none):=hI.sub fun c b hc=>nomatch hc
  obtain⟨k1,k2⟩:=hI0.new (b:=cF (l.take i ++ a :: l.drop i)) h2n rfl hb hgn hQnl hQn3 (fun j x q hx hq=>hQn j x q hx hq) (by rw [hQnf];exact hRp) (c₂ _);refine⟨_,rfl,P,aP adr 2 w.heap.size,k1.sub fun c b hc=>?_, .val [_] (.ms w.heap.size 0 C (aE _ _ _) (fun _=>by simp) hC1 hC2 ⟨ROW,_,hgn,fun _=>hR⟩),k2,fun c hc=>aK _ _ om,fun c hc=>?_,fun c g hc=>?_,fun b o hb=> .inl hb,(bo.of_below hb).weak fun _ e=>e.elim⟩
  ·exact EH hc
  ·rw [aK _ _ om];exact hn c om
  ·by_cases e:c=2
   ·subst e;rw [aE] at hc;injection hc with hc
    exact .inl om
   ·rw [aK _ _ e] at hc;exact .inr ⟨c,hc⟩
 ·refine(GI g l.length cap i gv capv Q.flatten p cur0 curv _ w hi om hcm hne hw0 hsz0 hwv hcl hp3 hQp hvs h1c h1v).mono ?_;rintro e w' ⟨ROW,hR,hRp,rfl,R1,rfl⟩;rw [setRow_setRow];obtain⟨hI1,hk1⟩:=Jp hI;have hI2:aU w.drew P adr (aP (fun _=>none) 0 (cF l)):=hI1.sub fun c b hc=>by
   by_cases e:c=0
   ·subst e;rw [aE] at hc;exact hc
   ·rw [aK _ _ e] at hc;cases hc
  have hpg: ∀o,¬ P g o:=fun o ho=>absurd (h2.pe o ho) (d₇ _)
  have hsz:ROW.size=cur0.size:=by rw [hR,hsz0]
  obtain⟨k1,k2⟩:=hI2.write (c:=0) (g:=g) (b:=cF l) (b':=cF (l.take i ++ a :: l.drop i)) (cur:=cur0) (cur':=ROW) (by show(l.map bd).length≤((l.take i ++ a :: l.drop i).map bd).length;simp;omega) (aE _ _ _) hg1 rfl rfl rfl hw0 hsz (fun o ho=>absurd ho (hpg o)) hQnl hQn3 (fun j x q hx hq=>(hQn j x q hx hq).keep hk1.free) (by rw [hQnf];exact hRp);have e0:aP (aP (fun _=>none) 0 (cF l)) 0 (cF (l.take i ++ a :: l.drop i))=aP (fun _=>none) 0 (cF (l.take i ++ a :: l.drop i)):=by
   funext x;by_cases e:x=0
   ·subst e;rw [aE,aE]
   ·rw [aK _ _ e,aK _ _ e,aK _ _ e]
  rw [e0] at k1;obtain⟨k3,k4⟩:=k1.rename (d:=2) hg1 h2n rfl;have hkk:=(hk1.trans k2).trans k4;refine⟨_,rfl,P,aP adr 2 g,k3.sub fun c b hc=>?_, .val [_] (.ms g 0 cap (aE _ _ _) (fun _=>by simp) om hcm ⟨ROW,_,setRow_heap _ _ cur0 ROW _ _ hw0,fun _=>hR⟩),hkk,fun c hc=>aK _ _ om,fun c hc=>?_,fun c g' hc=>?_,fun b o hb=> .inl hb,?_⟩
  ·have:=EH hc;by_cases e:c=2
   ·subst e;rw [aE] at this ⊢;exact this
   ·rw [aK _ _ e] at this;cases this
  ·rw [aK _ _ om];exact hn c om
  ·by_cases e:c=2
   ·subst e;rw [aE] at hc;injection hc with hc
    exact .inr ⟨0,by rw [← hc];exact hg1⟩
   ·rw [aK _ _ e] at hc;exact .inr ⟨c,hc⟩
  ·have hs:=wV (w:=w.drew) (ex:=fun b=> ∃c0,adr c0=some b) (g:=g) ROW ⟨0,hg1⟩;exact⟨hs.os,hs.tape,hs.output,hs.size,hs.block⟩
end
section
open Go.RowKit Go.Lib
variable {G:GS}
attribute [local irreducible] aj aC aG aM aQ vC aY aA
theorem C0 (l:List aW) (a:aW) (hl:l.length≤100000):aL Tryz.prog G 205 [.ms 0 3 0 l.length, .int .i64 l.length, .ms 1 3 0 1] [(0,cF l),(1,cF [a])] 2 (.ms 2 3 0 (l.length + 1)) [(2,cF (l ++ [a]))] 3:=by
 have hb:=al.mk (gJ (κ:= .i64) (a₃ l.length));unfold cF;refine bU seat Tryz.func205 95 ?_;refine ad ?_;refine ae rfl ?_ ?_ <;> intro h
 ·refine ad ?_;refine bc rfl rfl (by intro R hR;refine dZ hR ?_;(refine d₀ (a₃ _) ?_;refine⟨_,rfl,?_⟩;refine d₀ ⟨sm,aF (by kernel_rfl) pf⟩ ?_;refine⟨(l ++ [a]).map bd,sv (by rw [e₁];rfl),l.length + 1,sv pf,?_⟩);exact hR) rfl ?_;refine ad ?_;exact eb [_] [(2,19)] []
 ·rw [beq_self_eq_true] at h;cases h
theorem Jq (l:List aW) (a:aW) (i:Nat) (hi:i≤l.length) (hl:l.length≤100000):aL Tryz.prog G 205 [.ms 0 3 0 l.length, .int .i64 i, .ms 1 3 0 1] [(0,cF l),(1,cF [a])] 2 (.ms 2 3 0 (l.length + 1)) [(2,cF (l.take i ++ a :: l.drop i))] 3:=by
 by_cases h:i < l.length
 ·exact GK l a i h hl
 ·have e:i=l.length:=om;subst e;rw [f₂,d₅];exact C0 l a hl
end
section
variable {G:GS}
attribute [local irreducible] aj aC aG aM aQ vC aY aA
def yG (ks:List (List UInt8)):MV:= .mpv (ks.map .str) (a₆ ks.length (.st []))
theorem GL (n i:Nat):setL (a₆ n (MV.st [])) i (.st [])=a₆ n (.st []):=by
 rw [setL_eq];apply List.ext_getElem
 ·simp
 ·intro k h1 h2;simp [List.getElem_set]
theorem GM {Pg:Program} {E:VE} {M:VM} {o:Oper} {x:Operand} {t k e:TypeId} {c:Nat} {b:MB} {ks vs:List MV} (ho:o.op= .call ⟨.builtin .len, #[x], #[t]⟩) (hx:iU (VE.get E) x=some (.mp c)) (hc:VM.get M c=some b) (hb:b.l= [.mpv ks vs]) (hu:Pg.underlying t=some (.map k e)) (hl:vs.length=ks.length):qg Pg E M o=some ks.length:=by
 unfold qg;rw [ho];dsimp only;rw [hx];dsimp only;rw [hc];dsimp only;rw [hb];dsimp only;rw [hu];dsimp only;rw [if_pos hl]
theorem L8 (l:fH) (t:iP) (hl:l.acs.length≤100000) (hs:cS l.acs) (ht:gT t):aD Tryz.prog G 203 [lgM l,nA t] (.int .i64 (gX l.acs t.trs []).length):=by
 obtain⟨snd,seq,gas,fee,memo,trs⟩:=t;obtain⟨h1,h2,h3,h4,h5,h6,h7⟩:=ht;dsimp only at h1 h2 h3 h4 h5 h6 h7;have cp:=fun nm=>Bc (G:=G) l nm hl hs
 obtain⟨acs,col⟩:=l;dsimp only at hl hs cp ⊢;generalize hR:gX acs trs [] =R;unfold lgM at cp;unfold lgM nA;dsimp only at cp ⊢;refine bf seat Tryz.func203 34 ?_;refine ad ?_;refine ar (Nat×List (List UInt8)) (fun x=> [(14, .int .i64 x.1),(13, .int .i64 trs.length),(12, .sl trs.length (trs.map lG)),(5, .mp 2),(2, .ptr 0 2 0 0 [])]) (fun x=> [(0,⟨36,2,false,0,[.st [.sl acs.length (acs.map bd), .int .u64 col]]⟩),(2,⟨170,0,false,0,[yG x.2]⟩)]) 3 (fun x=>x.1≤trs.length∧x.2.length≤x.1∧gX acs (trs.drop x.1) x.2=R) (fun x=>trs.length - x.1) (0,[]) ⟨c₂ _,a₃ _,by rw [f₈];exact hR⟩ (by dsimp only;exact(vm [(0,_),(2,_)] [])) ?_;clear hR;rintro⟨k,ks⟩ ⟨hk,hks,hR⟩;unfold yG;try dsimp only
 dsimp only at hk hks hR;refine ad ?_;refine ae rfl ?_ ?_ <;> intro h
 ·have hk':k < trs.length:=by have:=ot h;omega
  have hel:=lh hk';rw [b₂ hk',gX] at hR;have c1:=cp trs[k].to_;generalize trs[k] =x at *;obtain⟨to_,amt⟩:=x;dsimp only at c1 hR;replace hel:db (trs.map lG) trs.length (k:Int)=some (.st [.str to_, .int .u64 amt]):=hel;have hel:=al.mk hel;generalize posA to_ acs=pp at *;cases hb:(aS acs to_).2 with
  | true=>
   rw [hb] at c1 hR;rw [if_pos rfl] at hR;refine ad ?_;refine bL (c1) ?_;exact⟨(k + 1,ks),⟨dm,dm,hR⟩,dm,(by dsimp only;exact(vm [(0,_),(2,_)] []))⟩
  | false=>
   rw [hb] at c1 hR;rw [if_neg sm] at hR;unfold GG at hR;by_cases hm:to_∈ks
   ·rw [if_pos hm] at hR;obtain⟨j,hj,hjl⟩:=qI (i:=0) hm;have hj:=al.mk hj;have hz:=bJ.mk (show(a₆ ks.length (MV.st [])).length=(ks.map MV.str).length by simp);have hv:=aX.mk (show [MV.mpv (ks.map MV.str) (setL (a₆ ks.length (MV.st [])) (0 + j) (.st []))] = [MV.mpv (ks.map MV.str) (a₆ ks.length (.st []))] by rw [GL]);refine ad ?_;refine bL (c1) ?_;exact⟨(k + 1,ks),⟨dm,dm,hR⟩,dm,(by dsimp only;exact(vm [(0,_),(2,_)] []))⟩
   ·rw [if_neg hm] at hR;have hj:=al.mk (uJ (i:=0) hm);have hz:=bJ.mk (show(a₆ ks.length (MV.st [])).length=(ks.map MV.str).length by simp);have hv:=aX.mk (show [MV.mpv (ks.map MV.str ++ [.str to_]) (a₆ ks.length (MV.st []) ++ [.st []])] = [MV.mpv ((ks ++ [to_]).map MV.str) (a₆ (ks ++ [to_]).length (.st []))] by rw [e₁,b₅,c₄,List.replicate_succ'];rfl);refine ad ?_;refine bL (c1) ?_;exact⟨(k + 1,ks ++ [to_]),⟨dm,by simp;omega,hR⟩,dm,(by dsimp only;exact(vm [(0,_),(2,_)] []))⟩
 ·have hk':k=trs.length:=by have:=oF h;omega
  subst hk';rw [d₅,gX] at hR;subst hR;refine ad ?_;refine Ns (k:=ks.length) ?_ rfl ?_
  ·refine Eq.trans (GM (ks:=ks.map MV.str) (vs:=a₆ ks.length (.st [])) (b:=⟨170,0,false,0,[.mpv (ks.map MV.str) (a₆ ks.length (.st []))]⟩) (c:=2) (k:=9) (e:=172) (t:=170) (x:= .tmp 32) ?_ ?_ ?_ rfl (by kernel_rfl) sm) (congrArg some (c₀ _));all_goals rfl
  refine ad ?_;refine aw ?_;rfl
end
section
variable {G:GS}
attribute [local irreducible] aj aC aG aM aQ vC aY aA
theorem Jr (l:fH) (price:Nat) (t:iP) (size:Nat) (hl:iQ l) (hs:cS l.acs) (ht:gT t) (hp:bl price) (hz:size≤1000000000):aD Tryz.prog G 164 [lgM l, .int .u64 price,nA t, .int .i64 size] (.int .i64 (dM l price t size)):=by
 have cc:=EA (G:=G) t ht;have cf:=L8 (G:=G) l t (by have:=hl.1;omega) hs ht;have c1:=Bc (G:=G) l t.sender (by have:=hl.1;omega) hs;have hdl:(aS l.acs t.sender).2=true→(fb l t (cX t).1).acs.length=l.acs.length + (gX l.acs t.trs []).length:=Jm hs;have hfl:=uI l.acs t.trs [];have hpos:=dJ (nm:=t.sender) hs;have hple:=lB t.sender l.acs;generalize hr:dM l price t size=R;unfold dM at hr;generalize fb l t (cX t).1=D at *;generalize cX t=cst at *;obtain⟨cv,cb⟩:=cst;obtain⟨acs,col⟩:=l;obtain⟨snd,seq,gas,fee,memo,trs⟩:=t;obtain⟨h1,h2,h3,h4,h5,h6,h7⟩:=ht;obtain⟨hl1,hl2,hl3⟩:=hl;obtain⟨dacs,dcol⟩:=D;dsimp only at h1 h2 h3 h4 h5 h6 h7 hl1 hl2 hl3 hr cc cf c1 hdl hpos hs hple;dsimp only [d₈] at hfl;have cu:=L7 (G:=G) (size:Int) (trs.length:Int) om om;have cn:=L6 (G:=G) gas price h3 hp;have hul:lH (size:Int) (trs.length:Int) < 18446744073709551616:=by unfold lH limS;omega
 generalize lH (size:Int) (trs.length:Int)=us at *;generalize jy gas price=mu at *;obtain⟨mv,mb⟩:=mu;generalize (gX acs trs []).length=fr at *;generalize posA snd acs=pp at *;generalize aS acs snd=g at *;obtain⟨⟨gn,gb,gs⟩,gok⟩:=g;dsimp only at c1 cn hr hdl hpos;unfold nA lgM at *;dsimp only at *;cases gok with
 | false=>
  rw [if_pos rfl] at hr;refine bf seat Tryz.func164 83 ?_;refine ad ?_;refine bL (c1) ?_;refine aw ?_;refine congrArg (MV.int .i64) ?_;(repeat' split at hr) <;> omega
 | true=>
  rw [if_neg sm] at hr;have hdl:=hdl rfl;have hel:acs[pp]? =some ⟨gn,gb,gs⟩:=by
   rcases hpos with ⟨_,h,_⟩ | ⟨h,_⟩
   ·exact h
   ·cases h
  have hppl:pp < acs.length:=(a₁.1 hel).1;have hel:db (acs.map bd) acs.length (pp:Int)=some (.st [.str gn, .int .u64 gb, .int .u64 gs]):=by
   have h:=eY hppl;rw [(a₁.1 hel).2] at h;exact h
  have hel:=al.mk hel;clear hpos;refine bf seat Tryz.func164 83 ?_;refine ad ?_;refine bL (c1) ?_;refine ae rfl ?_ ?_ <;> intro h
  ·have k0: ¬ (gs:Int)=(seq:Int):=by simpa using h
   have k1:gs≠seq:=om;refine ad ?_;refine aw ?_;refine congrArg (MV.int .i64) ?_;(repeat' split at hr) <;> omega
  have k0:(gs:Int)=(seq:Int):=by simpa using h
  have k1:gs=seq:=om;refine ad ?_;refine ae rfl ?_ ?_ <;> intro h
  ·have k2:(gs:Int)=18446744073709551615:=by simpa using h
   refine ad ?_;refine aw ?_;refine congrArg (MV.int .i64) ?_;(repeat' split at hr) <;> omega
  have k2: ¬ (gs:Int)=18446744073709551615:=by simpa using h
  refine ad ?_;refine av [ag 0,ag 1,ag 2,ag 3,ag 4,ag 5,da 6,ag 7,ag 8] ?_;refine ad ?_;refine du (cu) ?_;refine ae rfl ?_ ?_ <;> intro h
  ·have k3:=ot h;refine ad ?_;refine aw ?_;refine congrArg (MV.int .i64) ?_;(repeat' split at hr) <;> omega
  have k3:=oF h;refine ad ?_;refine bL (cn) ?_;cases mb with
  | false=>
   rw [if_neg om,if_neg om,if_neg om,if_pos rfl] at hr;refine ad ?_;refine aw ?_;refine congrArg (MV.int .i64) ?_;(repeat' split at hr) <;> omega
  | true=>
   rw [if_neg om,if_neg om,if_neg om,if_neg sm] at hr;refine ad ?_;refine ae rfl ?_ ?_ <;> intro h
   ·have k4:=ot h;rw [if_pos om] at hr;refine ad ?_;refine aw ?_;refine congrArg (MV.int .i64) ?_;(repeat' split at hr) <;> omega
   have k4:=oF h;rw [if_neg om] at hr;refine ad ?_;refine bL (cc) ?_;cases cb with
   | false=>
    rw [if_pos rfl] at hr;refine ad ?_;refine aw ?_;refine congrArg (MV.int .i64) ?_;(repeat' split at hr) <;> omega
   | true=>
    rw [if_neg sm] at hr;refine ad ?_;refine ae rfl ?_ ?_ <;> intro h
    ·have k5:=ot h;refine ad ?_;refine aw ?_;refine congrArg (MV.int .i64) ?_;(repeat' split at hr) <;> omega
    have k5:=oF h;refine ad ?_;refine av [ag 0,ag 1,ag 2,ag 3,ag 4,da 5,ag 6,ag 7,ag 8] ?_;refine ad ?_;refine du (cf) ?_;refine ae rfl ?_ ?_ <;> intro h
    ·have k6:=ot h;refine ad ?_;refine aw ?_;refine congrArg (MV.int .i64) ?_;(repeat' split at hr) <;> omega
    have k6:=oF h;refine ad ?_;refine aw ?_;refine congrArg (MV.int .i64) ?_;(repeat' split at hr) <;> omega
end
section
variable {G:GS}
attribute [local irreducible] aj aC aG aM aQ vC aY aA
theorem yH {l:List aW} {k:Nat} {nm:List UInt8} {b s:Nat} (h:l[k]? =some ⟨nm,b,s⟩):bK (l.map bd) (0 + k)=some (.st [.str nm, .int .u64 b, .int .u64 s]):=by rw [bF,Nat.zero_add,List.getElem?_map,h];rfl
theorem yI (l:List aW) (k:Nat) (nm:List UInt8) (b s:Nat):setL (l.map bd) (0 + k) (.st [.str nm, .int .u64 b, .int .u64 s])=(l.set k ⟨nm,b,s⟩).map bd:=by rw [setL_eq,Nat.zero_add,List.map_set];rfl
theorem uM {acs:List aW} {a:aW} {nm:List UInt8} (hs:cS acs) (h:(aS acs nm)=(a,true)):a.name=nm∧acs[posA nm acs]? =some a:=by
 rcases dJ (nm:=nm) hs with ⟨_,h2,h3⟩ | ⟨h1,_⟩
 ·rw [h] at h2 h3;exact⟨h3,h2⟩
 ·rw [h] at h1;cases h1
theorem L9 {z:List aW} {x:jc} {b:aW} (hs:cS z) (h:aS z x.to_=(b,true)):ej z x=z.set (posA x.to_ z) ⟨b.name,(b.bal + x.amt) % 18446744073709551616,b.seq⟩:=by
 obtain⟨h1,_⟩:=uM hs h;have hp:iG x z=b:=by unfold iG;rw [h];rfl
 unfold ej;rw [hp,kz hs (by dsimp only;rw [h1,h])];dsimp only;rw [h1]
theorem N9 {z:List aW} {x:jc} (hs:cS z) (h:(aS z x.to_).2=false):ej z x=z.take (posA x.to_ z) ++ ⟨x.to_,(0 + x.amt) % 18446744073709551616,0⟩ :: z.drop (posA x.to_ z):=by
 have hp:iG x z=⟨x.to_,0,0⟩:=by unfold iG;rw [h];rfl
 unfold ej;rw [hp,mG hs (by exact h)]
theorem Ma (z:List aW) (a:aW) {p:Nat} (hp:p≤z.length):(z.take p ++ a :: z.drop p)[p]? =some a:=by
 have h:(z.take p).length=p:=by simp [e₀ hp]
 rw [List.getElem?_append_right om,h,Nat.sub_self];rfl
theorem Mb (z:List aW) (a b:aW) {p:Nat} (hp:p≤z.length):(z.take p ++ a :: z.drop p).set p b=z.take p ++ b :: z.drop p:=by
 have h:(z.take p).length=p:=by simp [e₀ hp]
 rw [List.set_append_right _ _ om,h,Nat.sub_self];rfl
theorem Mc (l:fH) (t:iP) (hl:iQ l) (hs:cS l.acs) (ht:gT t) (hgot:(aS l.acs t.sender).2=true):aL Tryz.prog G 166 [.st [.ms 0 3 0 l.acs.length, .int .u64 l.col],nA t] [(0,cF l.acs)] 1 (lgM (fb l t (cX t).1)) [] 1:=by
 have cc:=EA (G:=G) t ht;have hcu:=qx t;obtain⟨acs,col⟩:=l;obtain⟨snd,seq,gas,fee,memo,trs⟩:=t;obtain⟨h1,h2,h3,h4,h5,h6,h7⟩:=ht;obtain⟨hl1,hl2,hl3⟩:=hl;dsimp only at h1 h2 h3 h4 h5 h6 h7 hl1 hl2 hl3 hs hgot ⊢;have cp:=fun (z:List aW) nm (hz:cS z) (hzl:z.length≤100000)=>Jl (G:=G) z col nm hzl hz
 generalize cX ⟨snd,seq,gas,fee,memo,trs⟩=cst at *;obtain⟨cv,cb⟩:=cst;dsimp only at cc hcu ⊢;obtain⟨⟨⟨gn,gb,gs⟩,gok⟩,hg⟩: ∃g,aS acs snd=g:=⟨_,rfl⟩
 rw [hg] at hgot;dsimp only at hgot;subst hgot;obtain⟨hgn,hel⟩:=uM hs hg;have hsm:eX ⟨gn,gb,gs⟩:=by have:=lq (acs:=acs) (name:=snd) hl3;rwa [hg] at this
 obtain⟨q1,q2,q3⟩:=hsm;dsimp only at hgn q1 q2 q3;unfold bl at q2 q3 hcu h4 hl2;have hppl:posA snd acs < acs.length:=(a₁.1 hel).1;have hdA:fa ⟨acs,col⟩ ⟨snd,seq,gas,fee,memo,trs⟩ cv=⟨gn,(gb + (18446744073709551616 - cv)) % 18446744073709551616,(gs + 1) % 18446744073709551616⟩:=by unfold fa;dsimp only;rw [hg]
 have hz0:ei ⟨gn,(gb + (18446744073709551616 - cv)) % 18446744073709551616,(gs + 1) % 18446744073709551616⟩ acs=acs.set (posA snd acs) ⟨gn,(gb + (18446744073709551616 - cv)) % 18446744073709551616,(gs + 1) % 18446744073709551616⟩:=by
  rw [kz hs (by dsimp only;rw [hgn,hg])];dsimp only;rw [hgn]
 have hsm0: ∀a∈ei ⟨gn,(gb + (18446744073709551616 - cv)) % 18446744073709551616,(gs + 1) % 18446744073709551616⟩ acs,eX a:=fun a h=>(iF h).elim (fun e=>e▸⟨q1,mod_u64,mod_u64⟩) (hl3 a)
 have hs0:cS (ei ⟨gn,(gb + (18446744073709551616 - cv)) % 18446744073709551616,(gs + 1) % 18446744073709551616⟩ acs):=np hs;have e1:=aX.mk (show IntKind.u64.wrap ((gb:Int) - (cv:Int))=(((gb + (18446744073709551616 - cv)) % 18446744073709551616:Nat):Int) by rw [wu64];omega);have e2:=aX.mk (show IntKind.u64.wrap ((gs:Int) + 1)=(((gs + 1) % 18446744073709551616:Nat):Int) by rw [wu64];omega);have e3:=aX.mk (show IntKind.u64.wrap ((col:Int) + (fee:Int))=(((col + fee) % 18446744073709551616:Nat):Int) by rw [wu64];omega);unfold fb;rw [hdA];dsimp only;generalize (gb + (18446744073709551616 - cv)) % 18446744073709551616=nb at *;generalize (gs + 1) % 18446744073709551616=ns at *;generalize (col + fee) % 18446744073709551616=nc at *;have r1:=al.mk (yH hel);have t1:=yI acs (posA snd acs) gn nb gs;have r2:=yH (show(acs.set (posA snd acs) ⟨gn,nb,gs⟩)[posA snd acs]? =some ⟨gn,nb,gs⟩ by rw [List.getElem?_set_self hppl]);have t2:=yI (acs.set (posA snd acs) ⟨gn,nb,gs⟩) (posA snd acs) gn nb ns;rw [List.set_set,← hz0,← t1] at t2;rw [← t1] at r2;have r2:=al.mk r2;have hz0l:(ei ⟨gn,nb,ns⟩ acs).length=acs.length:=by rw [hz0,c₇]
 have c1:=cp acs snd hs om;rw [hg] at c1;generalize hR:trs.foldl ej (ei ⟨gn,nb,ns⟩ acs)=R;generalize ei ⟨gn,nb,ns⟩ acs=z0 at *;generalize posA snd acs=pp0 at *;clear hz0 hdA hel hg t1;unfold cF at cp c1 ⊢;unfold lgM nA at *;dsimp only at *;refine bU seat Tryz.func166 88 ?_;refine ad ?_;refine bL (cc) ?_;refine yc (c1) [(0,0)] ?_;refine ad ?_;refine ar (Nat×List aW×List MV×Nat×Bool) (fun x=> [(47, .int .i64 x.1),(46, .int .i64 trs.length),(45, .sl trs.length (trs.map lG)),(4, .ptr 3 2 0 0 []),(3, .ptr 2 6 0 0 []),(2, .ptr 1 2 0 0 [])]) (fun x=>match x.2.2.2.2 with
  | true=> [(1,⟨36,2,false,0,[.st [.ms 4 3 0 x.2.2.2.1, .int .u64 col]]⟩),(4,⟨87,3,true,0,x.2.2.1⟩),(2,⟨100,6,false,0,[.st [.str snd, .int .u64 seq, .int .u64 gas, .int .u64 fee, .str memo, .sl trs.length (trs.map lG)]]⟩),(3,⟨36,2,false,0,[.st [.nils, .int .u64 0]]⟩)]
  | false=> [(1,⟨36,2,false,0,[.st [.ms 0 3 0 x.2.2.2.1, .int .u64 col]]⟩),(0,⟨87,3,true,0,x.2.2.1⟩),(2,⟨100,6,false,0,[.st [.str snd, .int .u64 seq, .int .u64 gas, .int .u64 fee, .str memo, .sl trs.length (trs.map lG)]]⟩),(3,⟨36,2,false,0,[.st [.nils, .int .u64 0]]⟩)]) 5 (fun x=>x.1≤trs.length∧x.2.1.length≤acs.length + x.1∧cS x.2.1∧(∀a∈x.2.1,eX a)∧(trs.drop x.1).foldl ej x.2.1=R∧x.2.2.1=x.2.1.map bd∧x.2.2.2.1=x.2.1.length) (fun x=>trs.length - x.1) (0,z0,_,acs.length,false) ⟨c₂ _,dm,hs0,hsm0,by dsimp only;rw [f₈];exact hR,t2,hz0l.symm⟩ (by dsimp only;exact(vm [(1,_),(2,_),(3,_)] [])) ?_
 clear hR t2 r1 r2 c1 hz0l hs0 hsm0;rintro⟨k,z,Z,m,f⟩ ⟨hk,hzn,hz,hzs,hRk,hZ,hm⟩;dsimp only at hk hzn hz hzs hRk hZ hm;subst hZ;subst hm;try dsimp only
 refine ad ?_;refine ae rfl ?_ ?_ <;> intro h
 ·have hk':k < trs.length:=by have:=ot h;omega
  have hel:=lh hk';have hx:=h7 _ (d₄ hk');have hps:=yl hx hzs;rw [b₂ hk',b₉] at hRk;generalize trs[k] =x at *;obtain⟨to_,amt⟩:=x;obtain⟨hx1,hx2⟩:=hx;dsimp only at hx1 hx2;unfold bl at hx2;replace hel:db (trs.map lG) trs.length (k:Int)=some (.st [.str to_, .int .u64 amt]):=hel;have helx:=al.mk hel;clear hel;have cq:=cp z to_ hz om;obtain⟨⟨⟨bn,bb,bs⟩,bok⟩,hg⟩: ∃g,aS z to_=g:=⟨_,rfl⟩
  have hgs:=lq (name:=to_) hzs;rw [hg] at cq hgs;obtain⟨hgs1,hgs2,hgs3⟩:=hgs;dsimp only at cq hgs1 hgs2 hgs3;unfold bl at hgs2 hgs3;cases bok with
  | true=>
   obtain⟨hbn,hel⟩:=uM hz hg;have hz2:=L9 (x:=⟨to_,amt⟩) hz hg;dsimp only at hbn hel hz2;have hzs2:cS (ej z ⟨to_,amt⟩):=jI hz;have hppl:posA to_ z < z.length:=(a₁.1 hel).1;have hzl:(ej z ⟨to_,amt⟩).length=z.length:=by rw [hz2,c₇]
   have r1:=al.mk (yH hel);have s1:=yI z (posA to_ z) bn ((bb + amt) % 18446744073709551616) bs;rw [← hz2] at s1;have w1:=aX.mk (show IntKind.u64.wrap ((bb:Int) + (amt:Int))=(((bb + amt) % 18446744073709551616:Nat):Int) by rw [wu64];omega);generalize (bb + amt) % 18446744073709551616=sm at *;generalize ej z ⟨to_,amt⟩=z' at *;generalize posA to_ z=pp at *;clear hz2 hg;cases f with
   | true=>
    dsimp only;refine ad ?_;refine yc (cq) [(0,4)] ?_;refine ad ?_;refine av [ag 0,ag 1,ag 2,ag 3,ag 4,ag 5,ag 6,ag 7,ag 8,ag 9,ag 10,ag 11] ?_;refine ad ?_;exact⟨(k + 1,z',_,z.length,true),⟨dm,dm,hzs2,hps.1,hRk,s1,hzl.symm⟩,dm,(by dsimp only;exact(vm [(1,_),(4,_),(2,_),(3,_)] []))⟩
   | false=>
    dsimp only;refine ad ?_;refine yc (cq) [(0,0)] ?_;refine ad ?_;refine av [ag 0,ag 1,ag 2,ag 3,ag 4,ag 5,ag 6,ag 7,ag 8,ag 9,ag 10,ag 11] ?_;refine ad ?_;exact⟨(k + 1,z',_,z.length,false),⟨dm,dm,hzs2,hps.1,hRk,s1,hzl.symm⟩,dm,(by dsimp only;exact(vm [(1,_),(2,_),(3,_)] []))⟩
  | false=>
   replace hg:(aS z to_).2=false:=by rw [hg]
   have hz2:=N9 (x:=⟨to_,amt⟩) hz hg;dsimp only at hz2;have hzs2:cS (ej z ⟨to_,amt⟩):=jI hz;have hppl:posA to_ z≤z.length:=lB _ _;have hzl:(ej z ⟨to_,amt⟩).length=z.length + 1:=by rw [hz2];simp;omega
   have r1:=al.mk (yH (Ma z ⟨to_,0,0⟩ hppl));have s1:=yI (z.take (posA to_ z) ++ ⟨to_,0,0⟩ :: z.drop (posA to_ z)) (posA to_ z) to_ ((0 + amt) % 18446744073709551616) 0;rw [Mb _ _ _ hppl,← hz2] at s1;have w1:=aX.mk (show IntKind.u64.wrap ((0:Nat) + (amt:Int))=(((0 + amt) % 18446744073709551616:Nat):Int) by rw [wu64];omega);have ci:=Jq (G:=G) z ⟨to_,0,0⟩ (posA to_ z) hppl om;unfold cF at ci;generalize (0 + amt) % 18446744073709551616=sm at *;generalize z.take (posA to_ z) ++ ⟨to_,0,0⟩ :: z.drop (posA to_ z)=zi at *;generalize ej z ⟨to_,amt⟩=z' at *;generalize posA to_ z=pp at *;clear hz2 hg;cases f with
   | true=>
    dsimp only;refine ad ?_;refine yc (cq) [(0,4)] ?_;refine ad ?_;refine bR rfl (fun _ h=>h) rfl (ci) [(0,4),(1,_)] [] ⟨rfl,trivial,rfl,lm,mm⟩ rfl rfl ?_;refine ad ?_;refine av [ag 0,ag 1,ag 2,ag 3,ag 4,ag 5,ag 6,ag 7,ag 8,ag 9,ag 10,ag 11] ?_;refine ad ?_;exact⟨(k + 1,z',_,z.length + 1,true),⟨dm,dm,hzs2,hps.1,hRk,s1,hzl.symm⟩,dm,(by dsimp only;exact(vm [(1,_),(4,_),(2,_),(3,_)] []))⟩
   | false=>
    dsimp only;refine ad ?_;refine yc (cq) [(0,0)] ?_;refine ad ?_;refine bR rfl (fun _ h=>h) rfl (ci) [(0,0),(1,_)] [] ⟨rfl,trivial,rfl,lm,mm⟩ rfl rfl ?_;refine ad ?_;refine av [ag 0,ag 1,ag 2,ag 3,ag 4,ag 5,ag 6,ag 7,ag 8,ag 9,ag 10,ag 11] ?_;refine ad ?_;exact⟨(k + 1,z',_,z.length + 1,true),⟨dm,dm,hzs2,hps.1,hRk,s1,hzl.symm⟩,dm,(by dsimp only;exact(vm [(1,_),(4,_),(2,_),(3,_)] []))⟩
 ·have hk':k=trs.length:=by have:=oF h;omega
  subst hk';rw [d₅,List.foldl_nil] at hRk;subst hRk;cases f with
  | true=>
   dsimp only;refine ad ?_;refine aw ?_;refine⟨[_],[],[(4,z.length)],rfl,rfl,?_,rfl,⟨?_,trivial⟩,?_⟩
   ·exact⟨by show z.length≤(z.map bd).length;simp,trivial⟩
   ·exact .inr ⟨_,rfl,lm⟩
   ·exact mm
  | false=>
   dsimp only;refine ad ?_;refine aw ?_;refine⟨[_],[],[(0,z.length)],rfl,rfl,?_,rfl,⟨?_,trivial⟩,?_⟩
   ·exact⟨by show z.length≤(z.map bd).length;simp,trivial⟩
   ·exact .inr ⟨_,rfl,lm⟩
   ·exact mm
end
section
attribute [local irreducible] aj aC aG aM aQ vC aY aA
theorem rN {l:fH} {p:Nat} {t:iP} {n:Nat} (h:dM l p t n=0):(aS l.acs t.sender).2=true:=by
 unfold dM at h;cases hb:(aS l.acs t.sender).2 with
 | true=>rfl
 | false=>rw [hb,if_pos rfl] at h;exact absurd h (by decide)
theorem MW (l:fH) (price:Nat) (raw:List UInt8) (hl:iQ l) (hp:bl price) (hraw:raw.length≤140737488355328):aL Tryz.prog GU 141 [lgM l, .int .u64 price, .sl raw.length (u8s raw)] [] 0 (.tup [lgM (oh l price raw).1,jO (oh l price raw).2]) [] 0:=by
 have cv:=Gz (G:=GU) l hl;have cd:=Gt raw hraw;have hsm:=lr (raw:=raw);have cp:=L5 (G:=GU) (aI raw).1.fee (aI raw).1.gas hsm.2.2.2.1 hsm.2.2.1;have co:=Bb (G:=GU) l (by have:=hl.1;omega);have cf:=fun (hv:cP l=0) (he:(aI raw).2=0)=>Jr (G:=GU) l price _ raw.length hl (qH hv).1 hsm hp (by have:=El he;omega)
 have cdn:=fun (hv:cP l=0) (hf:dM l price (aI raw).1 raw.length=0)=>Mc (G:=GU) l _ hl (qH hv).1 hsm (rN hf)
 generalize hr:oh l price raw=R;obtain⟨⟨Racs,Rcol⟩,⟨Rcode,Rsnd,Rseq,Rgas,Rprio⟩⟩:=R;unfold oh at hr;generalize aI raw=d at *;obtain⟨t,e⟩:=d;dsimp only at *;generalize cP l=vl at *;generalize cX t=cst at *;obtain⟨cstv,cstb⟩:=cst;dsimp only at *;generalize fb l t cstv=D at *;generalize dM l price t raw.length=fe at *;obtain⟨snd,seq,gas,fee,memo,trs⟩:=t;dsimp only at *;generalize pD fee gas=pr at *;obtain⟨acs,col⟩:=l;obtain⟨dacs,dcol⟩:=D;obtain⟨h1,h2,h3,h4,h5,h6,h7⟩:=hsm;obtain⟨hl1,hl2,hl3⟩:=hl;dsimp only at h1 h2 h3 h4 h5 h6 h7 hl1 hl2 hl3;unfold cF at *;unfold lgM nA at *;unfold jO;dsimp only at *;by_cases hv:vl=0
 ·subst hv;replace cf:=cf rfl;rw [if_neg sm] at hr;by_cases he:e=0
  ·subst he;replace cf:=cf rfl;rw [if_neg sm] at hr;have hr2:=hr;simp only [d₂,lp.mk.injEq] at hr2;obtain⟨hD,rfl,rfl,rfl,rfl,rfl⟩:=hr2;clear hr;refine bU seat Tryz.func141 55 ?_;refine ad ?_;refine yc (co) [] ?_;refine ad ?_;refine bL (cv) ?_;refine kX (cd) ?_;refine av [ag 0,ag 1,ag 2,ag 3,ag 4,da 5,ag 6,ag 7,ag 8,ag 9,ag 10,ag 11,ag 12,ag 13,ag 14,ag 15,da 16,ag 17,ag 18,ag 19] ?_;refine ad ?_;refine du (cf) ?_;refine du (cp) ?_;refine ae rfl ?_ ?_ <;> intro h
   ·have hfe:fe=0:=by
     have:(fe:Int)=0:=by simpa using h
     omega
    subst hfe;rw [if_neg sm] at hD;simp only [fH.mk.injEq] at hD;obtain⟨rfl,rfl⟩:=hD;have cdn:=cdn rfl rfl;refine ad ?_;refine yc (cdn) [(0,4)] ?_;refine ad ?_;refine av [ag 0,ag 1,ag 2,ag 3] ?_;refine ad ?_;refine aw ?_;exact en [_,_]
   ·have hfe:fe≠0:=fun e=>by subst e;simp at h
    rw [if_pos hfe] at hD;simp only [fH.mk.injEq] at hD;obtain⟨rfl,rfl⟩:=hD;refine ad ?_;refine av [ag 0,ag 1,ag 2,ag 3] ?_;refine ad ?_;refine aw ?_;refine⟨[_,_],[],[(4,acs.length)],rfl,rfl,?_,rfl,⟨?_,?_,trivial⟩,?_⟩
    ·exact⟨by show acs.length≤(acs.map bd).length;simp,trivial⟩
    ·exact .inr ⟨_,rfl,lm⟩
    ·exact rv
    ·exact mm
  ·rw [if_pos he] at hr;simp only [d₂,fH.mk.injEq,lp.mk.injEq] at hr;obtain⟨⟨rfl,rfl⟩,rfl,rfl,rfl,rfl,rfl⟩:=hr;refine bU seat Tryz.func141 55 ?_;refine ad ?_;refine yc (co) [] ?_;refine ad ?_;refine bL (cv) ?_;refine kX (cd) ?_;refine ae rfl ?_ ?_ <;> intro h
   ·refine ad ?_;refine aw ?_;refine⟨[_,_],[],[(4,acs.length)],rfl,rfl,?_,rfl,⟨?_,?_,trivial⟩,?_⟩
    ·exact⟨by show acs.length≤(acs.map bd).length;simp,trivial⟩
    ·exact .inr ⟨_,rfl,lm⟩
    ·exact rv
    ·exact mm
   ·exact absurd (by simpa using h) he
 ·rw [if_pos hv] at hr;simp only [d₂,fH.mk.injEq,lp.mk.injEq] at hr;obtain⟨⟨rfl,rfl⟩,rfl,rfl,rfl,rfl,rfl⟩:=hr;refine bU seat Tryz.func141 55 ?_;refine ad ?_;refine yc (co) [] ?_;refine ad ?_;refine bL (cv) ?_;refine ae rfl ?_ ?_ <;> intro h
  ·refine ad ?_;refine aw ?_;refine⟨[_,_],[],[(4,acs.length)],rfl,rfl,?_,rfl,⟨?_,?_,trivial⟩,?_⟩
   ·exact⟨by show acs.length≤(acs.map bd).length;simp,trivial⟩
   ·exact .inr ⟨_,rfl,lm⟩
   ·exact rv
   ·exact mm
  ·exact absurd (by simpa using h) hv
end
section
theorem yJ {l:List aW} {nm:List UInt8} (h:(aS l nm).2=false):(aS l nm).1=ac0:=by
 unfold aS at *;split at h
 ·cases h
 ·rfl
def Qv:Option aW→aW×Bool
 | some a=>(a,true)
 | none=>(ac0,false)
theorem getS_gOf (l:List aW) (nm:List UInt8):aS l nm=Qv (l.find? fun a=>decide (a.name=nm)):=by unfold aS Qv;rfl
theorem balS_app (l m:List aW):gl (l ++ m)=gl l + gl m:=by simp [gl]
theorem nr (a:aW) (m:List aW):gl (a :: m)=a.bal + gl m:=by simp [gl]
theorem EI {a:aW} {l:List aW} (hs:cS l): ∃u v w,l=u ++ v ++ w∧ei a l=u ++ a :: w∧(∀x∈u,x.name≠a.name)∧((v= [] ∧aS l a.name=(ac0,false))∨∃x,v= [x] ∧x.name=a.name∧aS l a.name=(x,true)):=by
 rcases dJ (nm:=a.name) hs with ⟨h1,h2,h3⟩ | ⟨h1,h2⟩
 ·obtain⟨hk,h4⟩:=a₁.1 h2;refine⟨l.take (posA a.name l),[l[posA a.name l]],l.drop (posA a.name l + 1),?_,?_,?_, .inr ⟨_,rfl,by rw [h4];exact h3,by rw [h4,← h1]⟩⟩
  ·rw [b₁,List.singleton_append,← b₂ hk,b₀]
  ·rw [kz hs h1];exact List.set_eq_take_append_cons_drop.trans (if_pos hk)
  ·intro x hx e;obtain⟨j,hj,rfl⟩:=List.mem_iff_getElem.1 hx;rw [b₄] at hj;rw [List.getElem_take] at e;have:=(nk (nm:=a.name) hs (k:=j) om).2 om;rw [e,less_irr] at this;cases this
 ·refine⟨l.take (posA a.name l),[],l.drop (posA a.name l),?_,mG hs h1,fun x hx=>h2 x (e₃ hx), .inl ⟨rfl,by rw [← yJ h1,← h1]⟩⟩;rw [d₉,b₀]
theorem Bg {a:aW} {l:List aW} (hs:cS l) (nm:List UInt8):aS (ei a l) nm=if a.name=nm then(a,true) else aS l nm:=by
 obtain⟨u,v,w,h1,h2,h3,h4⟩:=EI (a:=a) hs;rw [h2,getS_gOf,d₃];by_cases e:a.name=nm
 ·subst e;rw [if_pos rfl,List.find?_eq_none.2 (fun x hx=>by simpa using h3 x hx),b₆ sm];rfl
 ·rw [if_neg e,a₅ (by simpa using e),getS_gOf,h1,b₁,d₃,d₃];rcases h4 with ⟨rfl,_⟩ | ⟨x,rfl,hx,_⟩
  ·rfl
  ·rw [a₅ (by rw [hx];simpa using e)];rfl
theorem EJ {a:aW} {l:List aW} (hs:cS l):gl (ei a l) + (aS l a.name).1.bal=gl l + a.bal:=by
 obtain⟨u,v,w,h1,h2,h3,h4⟩:=EI (a:=a) hs;rw [h2,balS_app,nr];rcases h4 with ⟨rfl,h5⟩ | ⟨x,rfl,hx,h5⟩
 ·rw [h5,h1,balS_app,balS_app];simp [gl,ac0];omega
 ·rw [h5]
  conv=>rhs;rw [h1]
  rw [balS_app,balS_app,nr];simp [gl];omega
theorem C5 (nm:List UInt8): ∀l:List aW,(aS l nm).1.bal≤gl l
 | [] =>by simp [aS,ac0]
 | a :: r=>by
  rw [nr]
  have ih:=C5 nm r
  rw [getS_gOf] at *
  by_cases h:a.name=nm
  ·rw [b₆ (by simpa using h)]
   show a.bal≤_
   omega
  ·rw [a₅ (by simpa using h)]
   omega
theorem Js (x:jc) (acs:List aW):(iG x acs).bal=(aS acs x.to_).1.bal:=by
 unfold iG;cases h:(aS acs x.to_).2 with
 | true=>rw [if_pos rfl]
 | false=>rw [if_neg sm,yJ h];rfl
theorem Jt (x:jc) (acs:List aW):(iG x acs).seq=(aS acs x.to_).1.seq:=by
 unfold iG;cases h:(aS acs x.to_).2 with
 | true=>rw [if_pos rfl]
 | false=>rw [if_neg sm,yJ h];rfl
theorem Md {x:jc} {acs:List aW} (hs:cS acs) (h:gl acs + x.amt < 18446744073709551616):gl (ej acs x)=gl acs + x.amt:=by
 have hn:=nq x hs;have hb:=Js x acs;have hl:=C5 x.to_ acs;have hp:=EJ (a:=⟨(iG x acs).name,((iG x acs).bal + x.amt) % 18446744073709551616,(iG x acs).seq⟩) hs;dsimp only at hp;unfold ej;rw [hn] at hp ⊢;rw [hb] at hp ⊢;rw [f₃ om] at hp ⊢;omega
theorem Bh: ∀(trs:List jc) (acs:List aW),cS acs→gl acs + (trs.map (·.amt)).sum < 18446744073709551616→gl (trs.foldl ej acs)=gl acs + (trs.map (·.amt)).sum∧cS (trs.foldl ej acs)
 | [],acs,hs,_=>⟨sm,hs⟩
 | x :: r,acs,hs,h=>by
  rw [b₈,e₅] at *
  rw [b₉]
  have h1:=Md (x:=x) hs om
  have h2:=Bh r (ej acs x) (jI hs) om
  exact⟨om,h2.2⟩
theorem wW: ∀{l:List jc},nB l=0→∀x∈l,bW x.to_=true
 | [],_,x,hx=>by cases hx
 | y :: r,h,x,hx=>by
  rw [nB] at h
  split at h
  ·exact absurd h (by decide)
  ·rename_i hn
   split at h
   ·exact absurd h (by decide)
   ·rcases a₂.1 hx with rfl | hx
    ·simpa using hn
    ·exact wW h x hx
theorem GN {raw:List UInt8} (h:(aI raw).2=0):bW (aI raw).1.sender=true∧∀x∈(aI raw).1.trs,bW x.to_=true:=by
 unfold aI at *;split at h
 ·exact absurd h (by decide)
 ·rename_i h1;rw [if_neg h1];split at h
  ·exact absurd h (by decide)
  ·rename_i h2;rw [if_neg h2];split at h
   ·rename_i h3;exact absurd h h3
   ·rename_i h3;rw [if_neg h3];have h4:=Decidable.not_not.1 h3;dsimp only;generalize (bA (aH raw).1 tx0).1=t at *;unfold cE at h4;split at h4
    ·exact absurd h4 (by decide)
    ·rename_i k1;split at h4
     ·exact absurd h4 (by decide)
     ·split at h4
      ·exact absurd h4 (by decide)
      ·split at h4
       ·exact absurd h4 (by decide)
       ·exact⟨by simpa using k1,wW h4⟩
theorem uN: ∀(trs:List jc) (acs:List aW),cS acs→(∀x∈trs,bW x.to_=true)→(∀a∈acs,bW a.name=true)→∀a∈trs.foldl ej acs,bW a.name=true
 | [],_,_,_,h=>h
 | x :: r,acs,hs,h1,h2=>by
  rw [b₉]
  refine uN r _ (jI hs) (fun y hy=>h1 y (a₈ _ hy)) fun a ha=>?_
  unfold ej at ha
  rcases iF ha with rfl | ha
  ·dsimp only
   rw [nq x hs]
   exact h1 x (a₄ ..)
  ·exact h2 a ha
def EK (l m:List aW):Prop:= ∀nm,(aS l nm).2=true→(aS m nm).2=true∧(aS l nm).1.seq≤(aS m nm).1.seq
theorem EK.refl (l:List aW):EK l l:=fun _ h=>⟨h,a₃ _⟩
theorem EK.trans {l m k:List aW} (h1:EK l m) (h2:EK m k):EK l k:=fun nm h=>⟨(h2 nm (h1 nm h).1).1,Nat.le_trans (h1 nm h).2 (h2 nm (h1 nm h).1).2⟩
theorem Me {x:jc} {acs:List aW} (hs:cS acs):EK acs (ej acs x):=by
 intro nm h;unfold ej;rw [Bg hs];dsimp only;rw [nq x hs];split
 ·rename_i e;subst e;refine⟨rfl,?_⟩;dsimp only;rw [Jt];exact a₃ _
 ·exact⟨h,a₃ _⟩
theorem Bi: ∀(trs:List jc) (acs:List aW),cS acs→EK acs (trs.foldl ej acs)
 | [],acs,_=>EK.refl acs
 | x :: r,acs,hs=>(Me hs).trans (Bi r _ (jI hs))
theorem Bj: ∀(l:List Nat) (s:Nat),(sumG l s).2=true→(sumG l s).1=s + l.sum
 | [],s,_=>by simp [sumG]
 | x :: r,s,h=>by
  rw [sumG] at *
  unfold iD at *
  by_cases hl:s + x < 18446744073709551616
  ·rw [if_pos hl] at *
   rw [if_pos rfl] at *
   rw [Bj r _ h,e₅]
   dsimp only
   omega
  ·rw [if_neg hl] at h
   rw [if_neg sm] at h
   cases h
theorem uO: ∀{l:List aW} {q:Option (List UInt8)},AD q l=0→∀a∈l,bW a.name=true
 | [],_,_,a,ha=>by cases ha
 | b :: r,q,h,a,ha=>by
  rw [kq] at h
  split at h
  ·exact absurd h (by decide)
  ·rename_i hn
   rcases a₂.1 ha with rfl | ha
   ·simpa using hn
   ·cases q with
    | none=>exact uO h a ha
    | some q0=>
     dsimp only at h
     split at h
     ·exact absurd h (by decide)
     ·split at h
      ·exact absurd h (by decide)
      ·exact uO h a ha
theorem MX: ∀{l:List aW} {q:Option (List UInt8)},cS l→(∀a∈l,bW a.name=true)→(∀q0,q=some q0→∀a∈l,Op.bytesLess q0 a.name=true)→AD q l=0
 | [],_,_,_,_=>yj _
 | b :: r,q,hs,hn,hq=>by
  have hs':=a₀.1 hs
  have ih:=MX (q:=some b.name) hs'.2 (fun a ha=>hn a (a₈ _ ha)) (fun q0 e a ha=>by cases e;exact hs'.1 a ha)
  rw [kq,if_neg (by rw [hn b (a₄ ..)];simp)]
  cases q with
  | none=>exact ih
  | some q0=>
   have hl:=hq q0 rfl b (a₄ ..)
   dsimp only
   rw [if_neg (fun e=>by rw [e,less_irr] at hl;cases hl),if_neg (by rw [hl];simp)]
   exact ih
theorem Ju {l:fH} (h:cP l=0) (hs:iQ l):(∀a∈l.acs,bW a.name=true)∧l.col + gl l.acs < 18446744073709551616:=by
 unfold cP at h;split at h
 ·exact absurd h (by decide)
 ·split at h
  ·rename_i h1;exact absurd h h1
  ·rename_i h1;refine⟨uO (Decidable.not_not.1 h1),?_⟩;split at h
   ·exact absurd h (by decide)
   ·rename_i h2;have h3:=(qJ l.acs l.col).1 (by simpa using h2);rcases h3 with h3 | h3
    ·rw [h3];have:=hs.2.1;unfold bl at this;simp [gl];exact this
    ·exact h3
theorem Jv {l:fH} (hs:cS l.acs) (hn: ∀a∈l.acs,bW a.name=true) (hl:l.acs.length≤256) (ht:l.col + gl l.acs < 18446744073709551616):cP l=0:=by
 unfold cP;rw [if_neg om,MX hs hn (fun q0 e=>by cases e),if_neg sm,(qJ l.acs l.col).2 (.inr ht),if_neg sm]
theorem C6 {l:fH} {p:Nat} {t:iP} {n:Nat} (h:dM l p t n=0):(aS l.acs t.sender).2=true∧(aS l.acs t.sender).1.seq=t.seq∧t.seq≠18446744073709551615∧(cX t).2=true∧(cX t).1≤(aS l.acs t.sender).1.bal∧(fb l t (cX t).1).acs.length≤256:=by
 have h0:=rN h;unfold dM at h;rw [if_neg (by rw [h0];simp)] at h;by_cases h1:(aS l.acs t.sender).1.seq≠t.seq
 ·rw [if_pos h1] at h;exact absurd h (by decide)
 rw [if_neg h1] at h;by_cases h2:t.seq=18446744073709551615
 ·rw [if_pos h2] at h;exact absurd h (by decide)
 rw [if_neg h2] at h;by_cases h3:t.gas < lH n t.trs.length
 ·rw [if_pos h3] at h;exact absurd h (by decide)
 rw [if_neg h3] at h;by_cases h4:(jy t.gas p).2=false
 ·rw [if_pos h4] at h;exact absurd h (by decide)
 rw [if_neg h4] at h;by_cases h5:t.fee < (jy t.gas p).1
 ·rw [if_pos h5] at h;exact absurd h (by decide)
 rw [if_neg h5] at h;by_cases h6:(cX t).2=false
 ·rw [if_pos h6] at h;exact absurd h (by decide)
 rw [if_neg h6] at h;by_cases h7:(aS l.acs t.sender).1.bal < (cX t).1
 ·rw [if_pos h7] at h;exact absurd h (by decide)
 rw [if_neg h7] at h;by_cases h8:256 < (fb l t (cX t).1).acs.length
 ·rw [if_pos h8] at h;exact absurd h (by decide)
 exact⟨h0,Decidable.not_not.1 h1,h2,by simpa using h6,om,om⟩
theorem C7 {l:fH} {p:Nat} {t:iP} {n:Nat} (hv:cP l=0) (hl:iQ l) (hf:dM l p t n=0) (hn:bW t.sender=true) (hx: ∀x∈t.trs,bW x.to_=true) :
  cP (fb l t (cX t).1)=0∧EK l.acs (fb l t (cX t).1).acs∧(aS (fb l t (cX t).1).acs t.sender).2=true∧t.seq < (aS (fb l t (cX t).1).acs t.sender).1.seq:=by
 obtain⟨h0,h1,h2,h3,h4,h5⟩:=C6 hf
 obtain⟨v1,v2⟩:=Ju hv hl
 have hs:=(qH hv).1
 have hc:=Bj _ _ h3
 rw [e₅,c₁] at hc
 have hle:=C5 t.sender l.acs
 have hname:(aS l.acs t.sender).1.name=t.sender:=by
  rcases dJ (nm:=t.sender) hs with ⟨_,_,k⟩ | ⟨k,_⟩
  ·exact k
  ·rw [h0] at k;cases k
 have hsq:bl (aS l.acs t.sender).1.seq:=(lq hl.2.2).2.2
 unfold bl at hsq
 have hcs:cX t=sumG (t.fee :: t.trs.map (·.amt)) 0:=rfl
 rw [← hcs] at hc
 generalize (cX t).1=c at *
 have e1:(fa l t c).name=t.sender:=hname
 have e2:(fa l t c).bal=(aS l.acs t.sender).1.bal - c:=by
  show((aS l.acs t.sender).1.bal + (18446744073709551616 - c)) % 18446744073709551616=_
  omega
 have e3:(fa l t c).seq=t.seq + 1:=by
  show((aS l.acs t.sender).1.seq + 1) % 18446744073709551616=_
  rw [h1] at hsq ⊢
  omega
 have hp:=EJ (a:=fa l t c) hs
 rw [e1,e2] at hp
 have hs1:cS (ei (fa l t c) l.acs):=np hs
 have hg:=Bg (a:=fa l t c) hs
 rw [e1] at hg
 have ha1:EK l.acs (ei (fa l t c) l.acs):=by
  intro nm h
  rw [hg]
  split
  ·rename_i e
   subst e
   exact⟨rfl,by dsimp only;rw [e3,h1];omega⟩
  ·exact⟨h,a₃ _⟩
 have hps:=Bh t.trs _ hs1 om
 have ha2:=Bi t.trs _ hs1
 have hq:=ha2 t.sender (by rw [hg,if_pos rfl])
 rw [hg,if_pos rfl] at hq
 dsimp only at hq
 refine⟨?_,ha1.trans ha2,hq.1,Nat.lt_of_lt_of_le (by rw [e3];omega) hq.2⟩
 refine Jv hps.2 ?_ h5 ?_
 ·refine uN _ _ hs1 hx fun a ha=>?_
  rcases iF ha with rfl | ha
  ·rw [e1];exact hn
  ·exact v1 a ha
 ·show(l.col + t.fee) % 18446744073709551616 + gl (t.trs.foldl ej (ei (fa l t c) l.acs)) < _
  rw [hps.1,f₃ om]
  omega
theorem Bk {l:fH} (p:Nat) (raw:List UInt8) (hv:cP l=0) (hl:iQ l):cP (oh l p raw).1=0∧EK l.acs (oh l p raw).1.acs∧((oh l p raw).2.code=0→(aI raw).2=0∧(aS (oh l p raw).1.acs (aI raw).1.sender).2=true∧(aI raw).1.seq < (aS (oh l p raw).1.acs (aI raw).1.sender).1.seq):=by
 unfold oh;rw [if_neg (by rw [hv];simp)];by_cases hd:(aI raw).2=0
 ·rw [if_neg (by rw [hd];simp)];dsimp only;by_cases hf:dM l p (aI raw).1 raw.length=0
  ·rw [if_neg (by rw [hf];simp)];obtain⟨n1,n2⟩:=GN hd;obtain⟨k1,k2,k3,k4⟩:=C7 hv hl hf n1 n2;exact⟨k1,k2,fun _=>⟨hd,k3,k4⟩⟩
  ·rw [if_pos hf];exact⟨hv,EK.refl _,fun h=>absurd h hf⟩
 ·rw [if_pos hd];exact⟨hv,EK.refl _,fun h=>absurd h hd⟩
theorem GO {l:fH} {p:Nat} {raw:List UInt8} (h:(oh l p raw).2.code=0):cP l=0:=by
 unfold oh at h;split at h
 ·exact absurd h sm
 ·rename_i h1;exact Decidable.not_not.1 h1
end
section
theorem wX: ∀l:List jc,nB l < 20
 | [] =>by simp [nB]
 | x :: l=>by
  have:=wX l
  unfold nB
  repeat' split
  all_goals omega
theorem Jw (raw:List UInt8):(aI raw).2 < 20:=by
 have h: ∀t,cE t < 20:=fun t=>by
  have:=wX t.trs;unfold cE
  repeat' split
  all_goals omega
 unfold aI
 repeat' split
 ·simp
 ·simp
 ·exact h _
 ·simp
theorem uP (a:nC) (raw:List UInt8):(bM a raw).code < 20:=by
 have h:=Jw raw;unfold bM oh;split
 ·simp
 split
 ·exact h
 dsimp only;unfold dM
 repeat' split
 all_goals omega
inductive Hp (s:cL) (raw:List UInt8) (peer:Int):cL→Int→Prop
 | size {c:Int} (h:c=20∨c=21):Hp s raw peer s c
 | seen (h:aT raw∈s.cache∨∃e∈s.ents,e.key=aT raw):Hp s raw peer (dj (bm s (aT raw)) (jF (aT raw) s.ents) peer) 23
 | bad {c:Int} (h0:c≠0∧c≠20∧c≠21∧c≠23∧c≠24) (h1:aT raw ∉ s.cache) (h2: ∀e∈s.ents,e.key≠aT raw):Hp s raw peer (dw (bm s (aT raw)) (aT raw)) c
 | full (h1:aT raw ∉ s.cache) (h2: ∀e∈s.ents,e.key≠aT raw):Hp s raw peer (eJ (bm s (aT raw)) (aT raw)) 24
theorem qK (s:cL) (raw:List UInt8) (peer:Int):((aO s raw peer).2.code=0∧(aO s raw peer)=(fS (bm s (aT raw)) (aT raw) raw peer (bM s.app raw) (cK (bM s.app raw).prio raw.length s.cfg.maxTxs s.cfg.maxBytes s.ents).1,LO (aT raw) (bM s.app raw) (cK (bM s.app raw).prio raw.length s.cfg.maxTxs s.cfg.maxBytes s.ents).1)∧
      (cK (bM s.app raw).prio raw.length s.cfg.maxTxs s.cfg.maxBytes s.ents).2=true∧(bM s.app raw).code=0∧aT raw ∉ s.cache∧(∀e∈s.ents,e.key≠aT raw)∧(raw.length:Int)≤s.cfg.maxTx)∨
    ∃c,c≠0∧(aO s raw peer).2=fw c∧Hp s raw peer (aO s raw peer).1 c:=by
  unfold aO fB
  dsimp only
  have hcode:=uP s.app raw
  generalize hk:aT raw=key at *
  split
  · exact .inr ⟨20,by decide,rfl, .size (.inl rfl)⟩
  split
  · exact .inr ⟨21,by decide,rfl, .size (.inr rfl)⟩
  split
  · rename_i h
    refine .inr ⟨23,by decide,rfl,?_⟩
    have:=Hp.seen (s:=s) (raw:=raw) (peer:=peer) (by
      rw [hk]
      by_cases h1:0≤posK key s.cache 0
      · exact .inl (Classical.byContradiction fun hx=>by have:=(gE key s.cache 0).2 hx;omega)
      · refine .inr (Classical.byContradiction fun hx=>?_)
        have: ¬ 0≤jF key s.ents:=uC.2 fun e he hh=>hx ⟨e,he,hh⟩
        omega)
    rw [hk] at this
    exact this
  rename_i h1 h2 h3
  have n1:aT raw ∉ s.cache:=by rw [hk];exact(gE key s.cache 0).1 om
  have n2: ∀e∈s.ents,e.key≠aT raw:=by rw [hk];exact uC.1 om
  have hbad: ∀c:Int,c≠0∧c≠20∧c≠21∧c≠23∧c≠24→Hp s raw peer (dw (bm s key) key) c:=fun c hc=>by
    have:=Hp.bad (peer:=peer) hc n1 n2
    rw [hk] at this
    exact this
  split
  · have hcode:=uP (bm s key).app raw
    exact .inr ⟨_,om,rfl,hbad _ om⟩
  split
  · exact .inr ⟨22,by decide,rfl,hbad _ (by decide)⟩
  split
  · have:=Hp.full (peer:=peer) n1 n2
    rw [hk] at this
    exact .inr ⟨24,by decide,rfl,this⟩
  · rename_i h4 h5 h6
    refine .inl ⟨rfl,rfl,?_,?_,by rw [← hk];exact n1,by rw [← hk];exact n2,om⟩
    · show(cK (bM s.app raw).prio raw.length s.cfg.maxTxs s.cfg.maxBytes s.ents).2=true
      cases hq:(cK (bM s.app raw).prio raw.length s.cfg.maxTxs s.cfg.maxBytes s.ents).2 with
      | true=>rfl
      | false=>exact absurd hq h6
    · show(bM s.app raw).code=0
      have: ¬ (bM s.app raw).code≠0:=h4
      omega
theorem Bl {s:cL} (k:List UInt8) (h:cZ s):k ∉ (eJ s k).cache:=by
 show k ∉ gD k s.cache
 rw [fC h.cd];intro hk;have:=(List.mem_filter.1 hk).2;simp at this
theorem Jx {s:cL} {k:List UInt8} (hc:qC s.cfg) (h:cZ s) (hk:k ∉ s.cache):k∈(bm s k).cache↔0 < s.cfg.cache:=by
 show k∈gL k s.cache s.cfg.cache↔_
 rw [nj hk];have hcl:=h.cl;have hcc:=hc.cache;rw [show max 0 (min s.cfg.cache 1024)=s.cfg.cache by rw [Int.min_eq_left hcc.2,Int.max_eq_right hcc.1]];unfold rG;split
 ·rename_i h5;constructor
  ·intro hm;have:((s.cache ++ [k]).drop 1).length≠0:=fun e=>by rw [c₈ e] at hm;cases hm
   rw [c₃,b₅,c₄] at this;omega
  ·intro hp;have:s.cache≠ [] :=fun e=>by rw [e,d₈] at h5;omega
   obtain⟨a,l,e⟩:=List.exists_cons_of_ne_nil this;rw [e];simp
 ·exact⟨fun _=>by omega,fun _=>by simp⟩
end
section
def cR (k:List UInt8) (l:List (List UInt8)):List (List UInt8):=l.filter (fun x=>decide (x≠k))
def dK (k:List UInt8) (l:List (List UInt8)) (size:Int):List (List UInt8):=if k∈l then cR k l ++ [k] else if min (max size 0) 1024=0 then l else l.drop (max ((l.length:Int) - min (max size 0) 1024 + 1) 0).toNat ++ [k]
theorem GP {k:List UInt8} {l:List (List UInt8)} (hd:l.Nodup):cR k l=gD k l:=(fC hd).symm
theorem GQ {k:List UInt8} {l:List (List UInt8)} {size:Int} (hd:l.Nodup) (hl:(l.length:Int)≤min (max size 0) 1024):dK k l size=gL k l size:=by
 unfold dK;by_cases hk:k∈l
 ·rw [if_pos hk,uA hd hk];rfl
 ·rw [if_neg hk,nj hk];unfold rG;have e:max 0 (min size 1024)=min (max size 0) 1024:=om;rw [e];generalize min (max size 0) 1024=z at *;by_cases h0:z=0
  ·rw [if_pos h0,if_pos om];have:l= [] :=c₈ om;subst this;rfl
  ·rw [if_neg h0];split
   ·have hz:(max ((l.length:Int) - z + 1) 0).toNat=1:=om;rw [hz];cases l with
    | nil=>simp at *;omega
    | cons a l=>rfl
   ·have hz:(max ((l.length:Int) - z + 1) 0).toNat=0:=om;rw [hz];rfl
def kB (s:cL) (key raw:List UInt8) (peer:Int) (r:lp) (ks:List (List UInt8)):cL:=
 { s with ents:=s.ents.filter (fun e=>decide (e.key ∉ ks)) ++ [AT s key raw peer r],cache:=ks.foldl (fun c k=>cR k c) s.cache,app:=fq s.app raw,arr:=s.arr + 1 }
theorem Jy: ∀(ks l:List (List UInt8)),ks.foldl (fun c k=>cR k c) l=l.filter (fun x=>decide (x ∉ ks))
 | [],l=>by
  rw [e₇.2 fun _ _=>by simp]
  rfl
 | k :: ks,l=>by
  rw [b₉,Jy ks]
  unfold cR
  rw [List.filter_filter]
  congr 1
  funext e
  simp [Bool.and_comm]
theorem Bm {s:cL} {key raw:List UInt8} {peer:Int} {r:lp} {ks:List (List UInt8)} (h:cZ s):kB s key raw peer r ks=fS s key raw peer r ks:=by
 unfold kB fS;rw [ju ks h.kd h.cd,Jy];rfl
end
section
def jw {α:Type} (p:α→Bool):List α→Nat→Int
 | [],_=> -1
 | a :: l,i=>if p a=true then(i:Int) else jw p l (i + 1)
theorem nt {α:Type} (p:α→Bool): ∀(l:List α) (i:Nat),(jw p l i= -1∧∀x∈l,p x=false)∨∃j,∃hj:j < l.length,jw p l i=((i + j:Nat):Int)∧(∀x∈l.take j,p x=false)∧p l[j] =true
 | [],i=> .inl ⟨rfl,fun x h=>nomatch h⟩
 | a :: l,i=>by
  unfold jw
  cases ha:p a with
  | true=>exact .inr ⟨0,sm,rfl,fun x h=>by simp at h,ha⟩
  | false=>
   rw [if_neg (by decide)]
   rcases nt p l (i + 1) with ⟨h1,h2⟩ | ⟨j,hj,h1,h2,h3⟩
   ·exact .inl ⟨h1,fun x hx=>by rcases a₂.1 hx with rfl | hx;exact ha;exact h2 x hx⟩
   ·refine .inr ⟨j + 1,by simpa using hj,by rw [h1];omega,fun x hx=>?_,h3⟩
    rw [e₆] at hx
    rcases a₂.1 hx with rfl | hx
    ·exact ha
    ·exact h2 x hx
theorem Bn (k:List UInt8): ∀(l:List Ent) (i:Nat),jw (fun e:Ent=>decide (e.key=k)) l i=posK k (l.map (·.key)) i
 | [],_=>rfl
 | a :: l,i=>by
  unfold jw
  rw [b₈,posK]
  simp only [decide_eq_true_eq]
  split
  ·rfl
  ·exact Bn k l (i + 1)
structure nE {α:Type} (p:α→Bool) (l:List α) (i j:Nat) (c:List α):Prop where
 hl:c.length=l.length
 ij:i < j
 jl:j≤l.length
 tk:c.take i=(l.take j).filter (fun x=> !p x)
 dr:c.drop j=l.drop j
theorem nE.start {α:Type} {p:α→Bool} {l:List α} {j:Nat} (hj:j < l.length) (h1: ∀x∈l.take j,p x=false) (h2:p l[j] =true):nE p l j (j + 1) l:=by
 refine⟨rfl,Nat.lt_succ_self j,hj,?_,rfl⟩;rw [a₇ hj,d₁,e₇.2 fun x hx=>by rw [h1 x hx];rfl];simp [h2]
theorem nE.at_ {α:Type} {p:α→Bool} {l c:List α} {i j:Nat} (h:nE p l i j c) (hj:j < l.length):c[j]? =some l[j] :=by
 have:=congrArg (fun z:List α=>z[0]?) h.dr;simpa [hj] using this
theorem nE.skip {α:Type} {p:α→Bool} {l c:List α} {i j:Nat} (h:nE p l i j c) (hj:j < l.length) (hp:p l[j] =true):nE p l i (j + 1) c:=by
 refine⟨h.hl,by have:=h.ij;omega,hj,?_,?_⟩
 ·rw [h.tk,a₇ hj,d₁];simp [hp]
 ·have:=congrArg (f₉ 1) h.dr;simpa using this
theorem nE.keep {α:Type} {p:α→Bool} {l c:List α} {i j:Nat} (h:nE p l i j c) (hj:j < l.length) (hp:p l[j] =false):nE p l (i + 1) (j + 1) (c.set i l[j]):=by
 have hij:=h.ij;have hl:=h.hl;refine⟨by rw [c₇,hl],om,hj,?_,?_⟩
 ·rw [a₇ hj,d₁,← h.tk];rw [a₇ (by rw [c₇];omega),List.take_set_of_le (a₃ i)];simp [hp]
 ·rw [List.drop_set_of_lt om];have:=congrArg (f₉ 1) h.dr;simpa using this
theorem nE.fin {α:Type} {p:α→Bool} {l c:List α} {i:Nat} (h:nE p l i l.length c):c.take i=l.filter (fun x=> !p x)∧i=(l.filter (fun x=> !p x)).length:=by
 have h1:=h.tk;rw [f₂] at h1;refine⟨h1,?_⟩;rw [← h1,b₄];have:=h.ij;have:=h.hl;omega
end
end Go.Proofs.YthdhlcicpcnbhaaGreatDoor
