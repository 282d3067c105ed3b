/- Parts of a proof, one behind the other: D3, D4, D5, D6, D7, F1, F2, F3, F4, G1, G2. -/
import Derived.Test.YthdhlcicpcnbhaaGreatDoorV04
open Prod.mk renaming injEq → a₀
open List renaming drop_eq_getElem_cons → a₁,drop_length → a₂,drop_zero → a₅,length_singleton → a₈,length_append → a₉,getElem_mem → b₀,nil_append → b₃,getElem?_eq_some_iff → c₀,getElem_cons_zero → c₄,mem_singleton → c₅,cons_eq_cons → d₀,all_append → d₄,length_set → d₆
open And renaming intro → a₃
open Nat renaming zero_add → a₄,zero_le → a₆,lt_or_ge → b₄,testBit_eq_decide_div_mod_eq → b₆,div_lt_iff_lt_mul → b₇,and_two_pow_sub_one_eq_mod → b₈,shiftLeft_add_eq_or_of_lt → b₉,div_le_self → c₂,le_refl → c₃,mul_comm → c₆,lt_of_le_of_lt → c₇,le_of_eq → c₈,mul_add → d₁,shiftLeft_eq → d₃
open Bool renaming false_eq_true → a₇,true_and → b₁,false_and → b₅,and_eq_true → d₂
open Int renaming fdiv_eq_ediv_of_nonneg → b₂,natCast_ediv → c₁,toNat_natCast → c₉,natCast_mul → d₅
set_option maxRecDepth 20000
set_option maxHeartbeats 16000000
set_option linter.unusedVariables false
set_option linter.unusedSimpArgs false
namespace Go.Proofs.YthdhlcicpcnbhaaGreatDoor
open Go.RowKit
section
mutual
theorem gU {σ:Nat→Option Nat} {fz:Fz}: ∀(m:MV),m.idFree=true→cU σ fz m m
 | .st l,h=> .inl ⟨rfl,h⟩
 | .fn f l,h=> .inl ⟨rfl,h⟩
 | .ifc t v,h=> .inl ⟨rfl,h⟩
 | .sl ..,_=> .inl rfl
 | .ep ..,_=> .inl rfl
 | .ptr ..,h=>by cases h
 | .ms ..,h=>by cases h
 | .tup ..,h=>by cases h
 | .undef,h=>by cases h
 | .int ..,_=>⟨rfl,rfl⟩
 | .bool ..,_=>⟨rfl,rfl⟩
 | .str ..,_=>⟨rfl,rfl⟩
 | .nilp,_=>⟨rfl,rfl⟩
 | .gp ..,_=>⟨rfl,rfl⟩
 | .nils,_=>⟨rfl,rfl⟩
 | .nilf,_=>⟨rfl,rfl⟩
 | .nili,_=>⟨rfl,rfl⟩
 | .arr ..,_=>⟨rfl,rfl⟩
theorem dI {σ:Nat→Option Nat} {fz:Fz}: ∀(l:List MV),MV.idFrees l=true→cU.relVs σ fz l l
 | [],_=>trivial
 | m :: l,h=>by
  simp only [MV.idFrees,d₂] at h
  exact⟨gU m h.1,dI l h.2⟩
end
section
variable {Pg:Program} {T:bh} {N:Nat} {ents:List FuncId} {G:GS} {ops:Array Oper} {d:Tmp} {ty:TypeId} {pos:String} {after:Array Edge} {g:Option (Nat×Bool)} {rest:List Oper} {K:VK} {E:VE} {M:VM} {n:Nat} {f:Operand} {args:Array Operand} {ats:Array TypeId} {f0:FuncId} {vs:List MV} {res:MV}
theorem ai (hd:Nat.blt d N=true) (h1: ∀R:FuncId×List MV→Prop,R (f0,vs)→(dG E f args.toList).runP R) (h2:ents.contains f0=true) (hc:aL Pg G f0 vs [] 0 res [] 0) (hf:dR res=true) (hi:MV.idFrees vs=true)
  (h:aj Pg T N ents G ops rest K ((d,res) :: E) M n):aC Pg T N ents G ops ⟨some d, .call ⟨.value f,args,ats⟩,ty,pos,after,g⟩ rest K E M n:=
 sj hd h1 h2 hc hf (dI vs hi) h
end
variable {G:GS}
attribute [local irreducible] aj aC aG aM aQ vC aY aA
def ew (s:List UInt8) (i:Nat):Bool:=decide (i < s.length) && (decide (128≤(s.getD i 0).toNat) && decide ((s.getD i 0).toNat < 192))
theorem pz {s:List UInt8} {i:Nat} (h:i < s.length):E6 s (i:Int)=some (s.getD i 0):=by
 unfold E6;rw [if_pos om];simp [h]
theorem LB {s:List UInt8} {j:Int} (i:Nat) (hj:j=i) (h:i < s.length):E6 s j=some (s.getD i 0):=by
 subst hj;exact pz h
theorem tZ (s:List UInt8) (i:Nat) (hs:s.length < 1000000000):aD Tryz.prog G 229 [.str s, .int .i64 i] (.bool (ew s i)):=by
 unfold ew;by_cases hi:i < s.length
 ·have f1:=al.mk (pz hi);generalize s.getD i 0=c at *;rw [decide_eq_true hi,b₁];by_cases h1:128≤c.toNat
  ·rw [decide_eq_true h1,b₁];refine bf seat Tryz.func229 21 ?_;(iterate 3 ((all_goals(refine ad ?_));(all_goals(first | ((first | refine ah rfl rfl ?_ rfl ?_ | refine ae rfl ?_ ?_);all_goals(intro h;(try simp only [pl] at h);(try (exfalso;omega)))) | skip))));all_goals first | (exfalso;omega) | (refine aw ?_;first | rfl | exact congrArg MV.bool (decide_eq_decide.2 (by omega)))
  ·rw [decide_eq_false h1,b₅];refine bf seat Tryz.func229 21 ?_;(iterate 3 ((all_goals(refine ad ?_));(all_goals(first | ((first | refine ah rfl rfl ?_ rfl ?_ | refine ae rfl ?_ ?_);all_goals(intro h;(try simp only [pl] at h);(try (exfalso;omega)))) | skip))));all_goals first | (exfalso;omega) | (refine aw ?_;first | rfl | exact congrArg MV.bool (decide_eq_decide.2 (by omega)))
 ·rw [decide_eq_false hi,b₅];refine bf seat Tryz.func229 21 ?_;(iterate 3 ((all_goals(refine ad ?_));(all_goals(first | ((first | refine ah rfl rfl ?_ rfl ?_ | refine ae rfl ?_ ?_);all_goals(intro h;(try simp only [pl] at h);(try (exfalso;omega)))) | skip))));all_goals first | (exfalso;omega) | (refine aw ?_;first | rfl | exact congrArg MV.bool (decide_eq_decide.2 (by omega)))
def mw (s:List UInt8) (i:Nat):Nat:=
 if (s.getD i 0).toNat < 128 then 1 else
 if 194≤(s.getD i 0).toNat∧(s.getD i 0).toNat < 224∧ew s (i + 1)=true then 2 else
 if 224≤(s.getD i 0).toNat∧(s.getD i 0).toNat < 240∧ew s (i + 1)=true∧ew s (i + 2)=true then
  (if (s.getD i 0).toNat=224∧(s.getD (i + 1) 0).toNat < 160∨(s.getD i 0).toNat=237∧160≤(s.getD (i + 1) 0).toNat then 0 else 3) else
 if 240≤(s.getD i 0).toNat∧(s.getD i 0).toNat < 245∧ew s (i + 1)=true∧ew s (i + 2)=true∧ew s (i + 3)=true then
  (if (s.getD i 0).toNat=240∧(s.getD (i + 1) 0).toNat < 144∨(s.getD i 0).toNat=244∧144≤(s.getD (i + 1) 0).toNat then 0 else 4) else 0
theorem CC {s:List UInt8} {i:Nat} (h:ew s i=true):i < s.length:=by
 unfold ew at h;rw [d₂] at h;exact ot h.1
theorem Ny (s:List UInt8) (i:Nat) (hs:s.length < 1000000000) (hi:i < s.length):aD Tryz.prog G 189 [.str s, .int .i64 i] (.int .i64 (mw s i)):=by
 have f0:=al.mk (pz hi);have c1:aD Tryz.prog G 229 [.str s, .int .i64 ((i:Int) + 1)] _:=tZ s (i + 1) hs;have c2:aD Tryz.prog G 229 [.str s, .int .i64 ((i:Int) + 2)] _:=tZ s (i + 2) hs;have c3:aD Tryz.prog G 229 [.str s, .int .i64 ((i:Int) + 3)] _:=tZ s (i + 3) hs;generalize hr:mw s i=r;unfold mw at hr;have l1:=CC (s:=s) (i:=i + 1);have f1:i + 1 < s.length→E6 s ((i:Int) + 1)=some (s.getD (i + 1) 0):=fun h=>LB (i + 1) om h
 generalize s.getD i 0=x at *;generalize s.getD (i + 1) 0=y at *;generalize ew s (i + 1)=b1 at *;generalize ew s (i + 2)=b2 at *;generalize ew s (i + 3)=b3 at *;rcases b₄ x.toNat 128 with g1 | g1
 ·
  clear l1 f1;refine bf seat Tryz.func189 109 ?_;(iterate 12 ((all_goals(refine ad ?_));(all_goals(first | (refine ai rfl (fun _ h=>h) rfl (aa (c1)) rfl rfl ?_) | (refine ai rfl (fun _ h=>h) rfl (aa (c2)) rfl rfl ?_) | (refine ai rfl (fun _ h=>h) rfl (aa (c3)) rfl rfl ?_) | ((first | refine ah rfl rfl ?_ rfl ?_ | refine ae rfl ?_ ?_);all_goals(intro h;(try simp only [pl] at h);(try (exfalso;omega)))) | skip))));refine aw ?_;exact congrArg (MV.int .i64) (by subst hr;(repeat(first | rw [if_pos (by omega)] | rw [if_neg (by omega)]));first | rfl | omega)
 rcases b₄ x.toNat 194 with g2 | g2
 ·
  clear l1 f1;refine bf seat Tryz.func189 109 ?_;(iterate 12 ((all_goals(refine ad ?_));(all_goals(first | (refine ai rfl (fun _ h=>h) rfl (aa (c1)) rfl rfl ?_) | (refine ai rfl (fun _ h=>h) rfl (aa (c2)) rfl rfl ?_) | (refine ai rfl (fun _ h=>h) rfl (aa (c3)) rfl rfl ?_) | ((first | refine ah rfl rfl ?_ rfl ?_ | refine ae rfl ?_ ?_);all_goals(intro h;(try simp only [pl] at h);(try (exfalso;omega)))) | skip))));refine aw ?_;exact congrArg (MV.int .i64) (by subst hr;(repeat(first | rw [if_pos (by omega)] | rw [if_neg (by omega)]));first | rfl | omega)
 rcases b₄ x.toNat 224 with g3 | g3
 ·cases b1 with
  | false=>
   simp only [a₇,and_false,and_true,false_and,true_and,if_false] at hr;clear l1 f1;refine bf seat Tryz.func189 109 ?_;(iterate 12 ((all_goals(refine ad ?_));(all_goals(first | (refine ai rfl (fun _ h=>h) rfl (aa (c1)) rfl rfl ?_) | (refine ai rfl (fun _ h=>h) rfl (aa (c2)) rfl rfl ?_) | (refine ai rfl (fun _ h=>h) rfl (aa (c3)) rfl rfl ?_) | ((first | refine ah rfl rfl ?_ rfl ?_ | refine ae rfl ?_ ?_);all_goals(intro h;(try simp only [pl] at h);(try (exfalso;omega)))) | skip))));refine aw ?_;exact congrArg (MV.int .i64) (by subst hr;(repeat(first | rw [if_pos (by omega)] | rw [if_neg (by omega)]));first | rfl | omega)
  | true=>
   rw [if_neg om,if_pos ⟨om,om,rfl⟩] at hr;clear l1 f1;refine bf seat Tryz.func189 109 ?_;(iterate 12 ((all_goals(refine ad ?_));(all_goals(first | (refine ai rfl (fun _ h=>h) rfl (aa (c1)) rfl rfl ?_) | (refine ai rfl (fun _ h=>h) rfl (aa (c2)) rfl rfl ?_) | (refine ai rfl (fun _ h=>h) rfl (aa (c3)) rfl rfl ?_) | ((first | refine ah rfl rfl ?_ rfl ?_ | refine ae rfl ?_ ?_);all_goals(intro h;(try simp only [pl] at h);(try (exfalso;omega)))) | skip))));refine aw ?_;exact congrArg (MV.int .i64) (by subst hr;(repeat(first | rw [if_pos (by omega)] | rw [if_neg (by omega)]));first | rfl | omega)
 rw [if_neg om,if_neg om] at hr;rcases b₄ x.toNat 240 with g4 | g4
 ·cases b1 with
  | false=>
   simp only [a₇,and_false,and_true,false_and,true_and,if_false] at hr;clear l1 f1;refine bf seat Tryz.func189 109 ?_;(iterate 12 ((all_goals(refine ad ?_));(all_goals(first | (refine ai rfl (fun _ h=>h) rfl (aa (c1)) rfl rfl ?_) | (refine ai rfl (fun _ h=>h) rfl (aa (c2)) rfl rfl ?_) | (refine ai rfl (fun _ h=>h) rfl (aa (c3)) rfl rfl ?_) | ((first | refine ah rfl rfl ?_ rfl ?_ | refine ae rfl ?_ ?_);all_goals(intro h;(try simp only [pl] at h);(try (exfalso;omega)))) | skip))));refine aw ?_;exact congrArg (MV.int .i64) (by subst hr;(repeat(first | rw [if_pos (by omega)] | rw [if_neg (by omega)]));first | rfl | omega)
  | true=>
   cases b2 with
   | false=>
    simp only [a₇,and_false,and_true,false_and,true_and,if_false] at hr;clear l1 f1;refine bf seat Tryz.func189 109 ?_;(iterate 12 ((all_goals(refine ad ?_));(all_goals(first | (refine ai rfl (fun _ h=>h) rfl (aa (c1)) rfl rfl ?_) | (refine ai rfl (fun _ h=>h) rfl (aa (c2)) rfl rfl ?_) | (refine ai rfl (fun _ h=>h) rfl (aa (c3)) rfl rfl ?_) | ((first | refine ah rfl rfl ?_ rfl ?_ | refine ae rfl ?_ ?_);all_goals(intro h;(try simp only [pl] at h);(try (exfalso;omega)))) | skip))));refine aw ?_;exact congrArg (MV.int .i64) (by subst hr;(repeat(first | rw [if_pos (by omega)] | rw [if_neg (by omega)]));first | rfl | omega)
   | true=>
    have f1:=al.mk (f1 (l1 rfl));rw [if_pos ⟨om,om,rfl,rfl⟩] at hr;refine bf seat Tryz.func189 109 ?_;(iterate 20 ((all_goals(refine ad ?_));(all_goals(first | (refine ai rfl (fun _ h=>h) rfl (aa (c1)) rfl rfl ?_) | (refine ai rfl (fun _ h=>h) rfl (aa (c2)) rfl rfl ?_) | (refine ai rfl (fun _ h=>h) rfl (aa (c3)) rfl rfl ?_) | ((first | refine ah rfl rfl ?_ rfl ?_ | refine ae rfl ?_ ?_);all_goals(intro h;(try simp only [pl] at h);(try (exfalso;omega)))) | skip))));all_goals(refine aw ?_;exact congrArg (MV.int .i64) (by subst hr;(repeat(first | rw [if_pos (by omega)] | rw [if_neg (by omega)]));first | rfl | omega))
 rw [if_neg om] at hr;rcases b₄ x.toNat 245 with g5 | g5
 ·cases b1 with
  | false=>
   simp only [a₇,and_false,and_true,false_and,true_and,if_false] at hr;clear l1 f1;refine bf seat Tryz.func189 109 ?_;(iterate 12 ((all_goals(refine ad ?_));(all_goals(first | (refine ai rfl (fun _ h=>h) rfl (aa (c1)) rfl rfl ?_) | (refine ai rfl (fun _ h=>h) rfl (aa (c2)) rfl rfl ?_) | (refine ai rfl (fun _ h=>h) rfl (aa (c3)) rfl rfl ?_) | ((first | refine ah rfl rfl ?_ rfl ?_ | refine ae rfl ?_ ?_);all_goals(intro h;(try simp only [pl] at h);(try (exfalso;omega)))) | skip))));refine aw ?_;exact congrArg (MV.int .i64) (by subst hr;(repeat(first | rw [if_pos (by omega)] | rw [if_neg (by omega)]));first | rfl | omega)
  | true=>
   cases b2 with
   | false=>
    simp only [a₇,and_false,and_true,false_and,true_and,if_false] at hr;clear l1 f1;refine bf seat Tryz.func189 109 ?_;(iterate 12 ((all_goals(refine ad ?_));(all_goals(first | (refine ai rfl (fun _ h=>h) rfl (aa (c1)) rfl rfl ?_) | (refine ai rfl (fun _ h=>h) rfl (aa (c2)) rfl rfl ?_) | (refine ai rfl (fun _ h=>h) rfl (aa (c3)) rfl rfl ?_) | ((first | refine ah rfl rfl ?_ rfl ?_ | refine ae rfl ?_ ?_);all_goals(intro h;(try simp only [pl] at h);(try (exfalso;omega)))) | skip))));refine aw ?_;exact congrArg (MV.int .i64) (by subst hr;(repeat(first | rw [if_pos (by omega)] | rw [if_neg (by omega)]));first | rfl | omega)
   | true=>
    cases b3 with
    | false=>
     simp only [a₇,and_false,and_true,false_and,true_and,if_false] at hr;clear l1 f1;refine bf seat Tryz.func189 109 ?_;(iterate 12 ((all_goals(refine ad ?_));(all_goals(first | (refine ai rfl (fun _ h=>h) rfl (aa (c1)) rfl rfl ?_) | (refine ai rfl (fun _ h=>h) rfl (aa (c2)) rfl rfl ?_) | (refine ai rfl (fun _ h=>h) rfl (aa (c3)) rfl rfl ?_) | ((first | refine ah rfl rfl ?_ rfl ?_ | refine ae rfl ?_ ?_);all_goals(intro h;(try simp only [pl] at h);(try (exfalso;omega)))) | skip))));refine aw ?_;exact congrArg (MV.int .i64) (by subst hr;(repeat(first | rw [if_pos (by omega)] | rw [if_neg (by omega)]));first | rfl | omega)
    | true=>
     have f1:=al.mk (f1 (l1 rfl));rw [if_pos ⟨om,om,rfl,rfl,rfl⟩] at hr;refine bf seat Tryz.func189 109 ?_;(iterate 24 ((all_goals(refine ad ?_));(all_goals(first | (refine ai rfl (fun _ h=>h) rfl (aa (c1)) rfl rfl ?_) | (refine ai rfl (fun _ h=>h) rfl (aa (c2)) rfl rfl ?_) | (refine ai rfl (fun _ h=>h) rfl (aa (c3)) rfl rfl ?_) | ((first | refine ah rfl rfl ?_ rfl ?_ | refine ae rfl ?_ ?_);all_goals(intro h;(try simp only [pl] at h);(try (exfalso;omega)))) | skip))));all_goals(refine aw ?_;exact congrArg (MV.int .i64) (by subst hr;(repeat(first | rw [if_pos (by omega)] | rw [if_neg (by omega)]));first | rfl | omega))
 ·rw [if_neg om] at hr;clear l1 f1;refine bf seat Tryz.func189 109 ?_;(iterate 12 ((all_goals(refine ad ?_));(all_goals(first | (refine ai rfl (fun _ h=>h) rfl (aa (c1)) rfl rfl ?_) | (refine ai rfl (fun _ h=>h) rfl (aa (c2)) rfl rfl ?_) | (refine ai rfl (fun _ h=>h) rfl (aa (c3)) rfl rfl ?_) | ((first | refine ah rfl rfl ?_ rfl ?_ | refine ae rfl ?_ ?_);all_goals(intro h;(try simp only [pl] at h);(try (exfalso;omega)))) | skip))));refine aw ?_;exact congrArg (MV.int .i64) (by subst hr;(repeat(first | rw [if_pos (by omega)] | rw [if_neg (by omega)]));first | rfl | omega)
end
section
variable {G:GS}
attribute [local irreducible] aj aC aG aM aQ vC aY aA
def jo:Nat→List UInt8→Nat→Nat→Nat×Bool
 | 0,_,_,n=>(n,true)
 | f + 1,s,i,n=>if i < s.length then(if mw s i=0 then(0,false) else jo f s (i + mw s i) (n + 1)) else(n,true)
def my (s:List UInt8):Nat×Bool:=jo s.length s 0 0
def rF (s:List UInt8):Bool:=(my s).2 && decide ((my s).1≤64)
theorem Az (s:List UInt8) (i:Nat):mw s i≤4:=by
 unfold mw
 repeat' split
 all_goals omega
theorem LC (s:List UInt8) (hs:s.length < 500000000):aD Tryz.prog G 157 [.str s] (.tup [.int .i64 (my s).1, .bool (my s).2]):=by
  generalize hr:my s=r;unfold my at hr;obtain⟨r1,r2⟩:=r;dsimp only;refine bf seat Tryz.func157 22 ?_;refine ad ?_;refine ar (Nat×Nat×Nat) (fun x=> [(5, .int .i64 x.2.1),(4, .int .i64 x.2.2),(0, .str s)]) (fun _=> []) 0 (fun x=>jo x.1 s x.2.1 x.2.2=(r1,r2)∧s.length≤x.2.1 + x.1∧x.2.1≤s.length + 4∧x.2.2 + x.1≤s.length) (fun x=>x.1) (s.length,0,0) ⟨hr,dm,dm,dm⟩ (by dsimp only;exact(vm [] [])) ?_;rintro⟨f,i,n⟩ ⟨hR,h1,h2,h3⟩;try dsimp only
  dsimp only at hR h1 h2 h3;refine ad ?_;refine ae rfl ?_ ?_ <;> intro h
  · have hi:i < s.length:=by have:=ot h;omega
    have c1:=Ny (G:=G) s i om hi;have hk:=Az s i
    match f,hR,h1,h3 with
    | 0,hR,h1,h3=>exfalso;omega
    | f + 1,hR,h1,h3=>
    rw [jo,if_pos hi] at hR;generalize mw s i=k at *;refine ad ?_;refine bL (c1) ?_;refine ae rfl ?_ ?_ <;> intro h
    · have hk0:k=0:=by
        have:(k:Int)=0:=by simpa using h
        omega
      rw [if_pos hk0] at hR;simp only [a₀] at hR;obtain⟨rfl,rfl⟩:=hR;refine ad ?_;refine aw ?_;rfl
    · have hk0:k≠0:=by
        have: ¬ (k:Int)=0:=by simpa using h
        omega
      rw [if_neg hk0] at hR;refine ad ?_;exact⟨(f,i + k,n + 1),⟨hR,dm,dm,dm⟩,by show f < f + 1;omega,(by dsimp only;exact(vm [] []))⟩
  · have hi: ¬ i < s.length:=by have:=oF h;omega
    have:jo f s i n=(n,true):=by cases f with | zero=>rfl | succ f=>rw [jo,if_neg hi]
    rw [this] at hR;simp only [a₀] at hR;obtain⟨rfl,rfl⟩:=hR;refine ad ?_;refine aw ?_;rfl
theorem Nz (s:List UInt8) (hs:s.length < 500000000):aD Tryz.prog G 131 [.str s] (.bool (rF s)):=by
 have c1:=LC (G:=G) s hs;unfold rF;generalize my s=r at *;obtain⟨n,ok⟩:=r;dsimp only at c1 ⊢;cases ok with
 | true=>
  refine bf seat Tryz.func131 15 ?_;refine ad ?_;refine bL (c1) ?_;refine aw ?_;exact congrArg MV.bool (decide_eq_decide.2 om)
 | false=>
  refine bf seat Tryz.func131 15 ?_;refine ad ?_;refine bL (c1) ?_;refine aw ?_;rfl
def mz (c:UInt8):Bool:=decide (97≤c.toNat∧c.toNat≤122∨48≤c.toNat∧c.toNat≤57∨c.toNat=45)
def bW (s:List UInt8):Bool:=s.all mz && decide (1≤s.length∧s.length≤20)
theorem ye (s:List UInt8) (hs:s.length≤140737488355328):aD Tryz.prog G 126 [.str s] (.bool (bW s)):=by
 generalize hr:bW s=r;unfold bW at hr;refine bf seat Tryz.func126 41 ?_;refine ad ?_;refine ar Nat (fun i=> [(3, .int .i64 i),(0, .str s)]) (fun _=> []) 0 (fun i=>i≤s.length∧(s.take i).all mz=true) (fun i=>s.length - i) 0 ⟨a₆ _,sm⟩ (vm [] []) ?_;rintro i ⟨hi,hp⟩;try dsimp only
 refine ad ?_;refine ae rfl ?_ ?_ <;> intro h
 ·have hi':i < s.length:=by have:=ot h;omega
  have f0:=al.mk (pz hi');have hsu:(s.take (i + 1)).all mz=((s.take i).all mz && mz (s.getD i 0)):=by
   rw [List.take_succ_eq_append_getElem hi',d₄];simp [hi']
  have hall:mz (s.getD i 0)=false→s.all mz=false:=fun h=>by
   rw [← List.take_append_drop (i + 1) s,d₄,hsu,h];simp
  generalize s.getD i 0=c at *;by_cases hc:mz c=true
  ·rw [hp,hc] at hsu;have hc':=ot hc;(iterate 6 ((all_goals(refine ad ?_));(all_goals(first | ((first | refine ah rfl rfl ?_ rfl ?_ | refine ae rfl ?_ ?_);all_goals(intro h;(try simp only [pl] at h);(try (exfalso;omega)))) | skip))));all_goals exact⟨i + 1,⟨by omega,by rw [hsu];rfl⟩,by show s.length - (i + 1) < s.length - i;omega,(by dsimp only;exact(vm [] []))⟩
  ·have hcf:mz c=false:=by simpa using hc
   rw [hall hcf,b₅] at hr;subst hr;have hc':=oF hcf;(iterate 6 ((all_goals(refine ad ?_));(all_goals(first | ((first | refine ah rfl rfl ?_ rfl ?_ | refine ae rfl ?_ ?_);all_goals(intro h;(try simp only [pl] at h);(try (exfalso;omega)))) | skip))));all_goals(refine aw ?_;rfl)
 ·have hi':i=s.length:=by have:=oF h;omega
  subst hi';rw [List.take_length] at hp;rw [hp,b₁] at hr;subst hr;(iterate 3 ((all_goals(refine ad ?_));(all_goals(first | ((first | refine ah rfl rfl ?_ rfl ?_ | refine ae rfl ?_ ?_);all_goals(intro h;(try simp only [pl] at h);(try (exfalso;omega)))) | skip))));all_goals(refine aw ?_;exact congrArg MV.bool (by first | exact decide_eq_decide.2 (by omega) | exact(decide_eq_false (by omega)).symm))
def nB:List jc→Nat
 | [] =>0
 | x :: r=>if bW x.to_=false then 10 else if x.amt=0 then 12 else nB r
def cE (t:iP):Nat:=if bW t.sender=false then 10 else if t.gas=0 then 15 else if rF t.memo=false then 11 else if t.trs.length=0∨16 < t.trs.length then 3 else nB t.trs
theorem wG (t:iP) (ht:gT t):aD Tryz.prog G 89 [nA t] (.int .i64 (cE t)):=by
 obtain⟨sender,seq,gas,fee,memo,trs⟩:=t;obtain⟨h1,h2,h3,h4,h5,h6,h7⟩:=ht;dsimp only at h1 h2 h3 h4 h5 h6 h7;have c1:=ye (G:=G) sender om;have c2:=Nz (G:=G) memo om;generalize hr:cE _=r;unfold cE at hr;unfold nA;dsimp only at hr ⊢;generalize bW sender=b1 at *;generalize rF memo=b2 at *;cases b1 with
 | false=>
  rw [if_pos rfl] at hr;subst hr;refine bf seat Tryz.func89 45 ?_;(iterate 2 ((all_goals(refine ad ?_));(all_goals(first | (refine ai rfl (fun _ h=>h) rfl (aa (c1)) rfl rfl ?_) | ((first | refine ah rfl rfl ?_ rfl ?_ | refine ae rfl ?_ ?_);all_goals(intro h;(try simp only [pl] at h);(try (exfalso;omega)))) | skip))));refine aw ?_;rfl
 | true=>
 rw [if_neg sm] at hr;by_cases hg:gas=0
 ·rw [if_pos hg] at hr;subst hr;refine bf seat Tryz.func89 45 ?_;(iterate 3 ((all_goals(refine ad ?_));(all_goals(first | (refine ai rfl (fun _ h=>h) rfl (aa (c1)) rfl rfl ?_) | ((first | refine ah rfl rfl ?_ rfl ?_ | refine ae rfl ?_ ?_);all_goals(intro h;(try simp only [pl] at h);(try (exfalso;omega)))) | skip))));refine aw ?_;rfl
 rw [if_neg hg] at hr;cases b2 with
 | false=>
  rw [if_pos rfl] at hr;subst hr;refine bf seat Tryz.func89 45 ?_;(iterate 4 ((all_goals(refine ad ?_));(all_goals(first | (refine ai rfl (fun _ h=>h) rfl (aa (c1)) rfl rfl ?_) | (refine ai rfl (fun _ h=>h) rfl (aa (c2)) rfl rfl ?_) | ((first | refine ah rfl rfl ?_ rfl ?_ | refine ae rfl ?_ ?_);all_goals(intro h;(try simp only [pl] at h);(try (exfalso;omega)))) | skip))));refine aw ?_;rfl
 | true=>
 rw [if_neg sm] at hr;by_cases hl:trs.length=0∨16 < trs.length
 ·rw [if_pos hl] at hr;subst hr;refine bf seat Tryz.func89 45 ?_;(iterate 6 ((all_goals(refine ad ?_));(all_goals(first | (refine ai rfl (fun _ h=>h) rfl (aa (c1)) rfl rfl ?_) | (refine ai rfl (fun _ h=>h) rfl (aa (c2)) rfl rfl ?_) | ((first | refine ah rfl rfl ?_ rfl ?_ | refine ae rfl ?_ ?_);all_goals(intro h;(try simp only [pl] at h);(try (exfalso;omega)))) | skip))));all_goals(refine aw ?_;rfl)
 rw [if_neg hl] at hr;refine bf seat Tryz.func89 45 ?_;(iterate 6 ((all_goals(refine ad ?_));(all_goals(first | (refine ai rfl (fun _ h=>h) rfl (aa (c1)) rfl rfl ?_) | (refine ai rfl (fun _ h=>h) rfl (aa (c2)) rfl rfl ?_) | ((first | refine ah rfl rfl ?_ rfl ?_ | refine ae rfl ?_ ?_);all_goals(intro h;(try simp only [pl] at h);(try (exfalso;omega)))) | skip))));refine ar Nat (fun k=> [(33, .int .i64 k),(32, .int .i64 trs.length),(31, .sl trs.length (trs.map lG))]) (fun _=> []) 0 (fun k=>k≤trs.length∧nB (trs.drop k)=r) (fun k=>trs.length - k) 0 ⟨a₆ _,by rw [a₅];exact hr⟩ (vm [] []) ?_;rintro k ⟨hk,hR⟩;try dsimp only
 refine ad ?_;refine ae rfl ?_ ?_ <;> intro h
 ·have hk':k < trs.length:=by have:=ot h;omega
  have hx:=h7 _ (b₀ hk');have hel:=al.mk (lh hk');rw [a₁ hk',nB] at hR;generalize trs[k] =x at *;have d1:=ye (G:=G) x.to_ (by have:=hx.1;omega);generalize bW x.to_=b at *;cases b with
  | false=>
   rw [if_pos rfl] at hR;subst hR;(iterate 3 ((all_goals(refine ad ?_));(all_goals(first | (refine ai rfl (fun _ h=>h) rfl (aa (d1)) rfl rfl ?_) | ((first | refine ah rfl rfl ?_ rfl ?_ | refine ae rfl ?_ ?_);all_goals(intro h;(try simp only [pl] at h);(try (exfalso;omega)))) | skip))));refine aw ?_;rfl
  | true=>
   rw [if_neg sm] at hR;by_cases hz:x.amt=0
   ·rw [if_pos hz] at hR;subst hR;(iterate 4 ((all_goals(refine ad ?_));(all_goals(first | (refine ai rfl (fun _ h=>h) rfl (aa (d1)) rfl rfl ?_) | ((first | refine ah rfl rfl ?_ rfl ?_ | refine ae rfl ?_ ?_);all_goals(intro h;(try simp only [pl] at h);(try (exfalso;omega)))) | skip))));refine aw ?_;rfl
   ·rw [if_neg hz] at hR;(iterate 4 ((all_goals(refine ad ?_));(all_goals(first | (refine ai rfl (fun _ h=>h) rfl (aa (d1)) rfl rfl ?_) | ((first | refine ah rfl rfl ?_ rfl ?_ | refine ae rfl ?_ ?_);all_goals(intro h;(try simp only [pl] at h);(try (exfalso;omega)))) | skip))));exact⟨k + 1,⟨om,hR⟩,by show trs.length - (k + 1) < trs.length - k;omega,(by dsimp only;exact(vm [] []))⟩
 ·have hk':k=trs.length:=by have:=oF h;omega
  subst hk';rw [a₂,nB] at hR;subst hR;refine ad ?_;refine aw ?_;rfl
end
section
variable {G:GS}
attribute [local irreducible] aj aC aG aM aQ vC aY aA
def fk (t:iP):List UInt8×Nat:=if cE t≠0 then([],cE t) else if 4096 < (eQ t).length then([],3) else(eQ t,0)
theorem AA (t:iP) (ht:gT t):aL Tryz.prog G 47 [nA t] [] 0 (.tup [.sl (fk t).1.length (u8s (fk t).1), .int .i64 (fk t).2]) [] 0:=by
 have c1:=wG (G:=G) t ht;have c2:=Iv (G:=G) t ht;have hfl:=qv ht;unfold fk;generalize cE t=v at *;generalize eQ t=m at *;by_cases hv:v=0
 ·subst hv;rw [if_neg sm];by_cases hm:4096 < m.length
  ·rw [if_pos hm];refine bU seat Tryz.func47 17 ?_;(iterate 6 ((all_goals(refine ad ?_));(all_goals(first | (refine ai rfl (fun _ h=>h) rfl (aa (c1)) rfl rfl ?_) | (refine ai rfl (fun _ h=>h) rfl (c2) rfl rfl ?_) | ((first | refine ah rfl rfl ?_ rfl ?_ | refine ae rfl ?_ ?_);all_goals(intro h;(try simp only [pl] at h);(try (exfalso;omega)))) | skip))));exact en [_,_]
  ·rw [if_neg hm];refine bU seat Tryz.func47 17 ?_;(iterate 6 ((all_goals(refine ad ?_));(all_goals(first | (refine ai rfl (fun _ h=>h) rfl (aa (c1)) rfl rfl ?_) | (refine ai rfl (fun _ h=>h) rfl (c2) rfl rfl ?_) | ((first | refine ah rfl rfl ?_ rfl ?_ | refine ae rfl ?_ ?_);all_goals(intro h;(try simp only [pl] at h);(try (exfalso;omega)))) | skip))));exact en [_,_]
 ·rw [if_pos hv];refine bU seat Tryz.func47 17 ?_;(iterate 5 ((all_goals(refine ad ?_));(all_goals(first | (refine ai rfl (fun _ h=>h) rfl (aa (c1)) rfl rfl ?_) | (refine ai rfl (fun _ h=>h) rfl (c2) rfl rfl ?_) | ((first | refine ah rfl rfl ?_ rfl ?_ | refine ae rfl ?_ ?_);all_goals(intro h;(try simp only [pl] at h);(try (exfalso;omega)))) | skip))));exact en [_,_]
theorem ua (B:Nat): ∀(k:Nat) (b:List UInt8) (at_:Nat) (acc:List fR),b.length≤B→(∀f∈acc,jM f∧f.bytes.length≤B)→(∀f∈(fh k b at_ acc).1,jM f∧f.bytes.length≤B)∧(fh k b at_ acc).1.length≤acc.length + k
 | k,[],at_,acc,_,ha=>by rw [ml];exact⟨ha,dm⟩
 | 0,x :: b,at_,acc,_,_=>by rw [k7 sm];exact⟨sm,sm⟩
 | k + 1,x :: b,at_,acc,hb,ha=>by
  rw [k8 sm]
  split
  ·exact⟨sm,sm⟩
  ·rename_i h
   have h1:=Cv (b:=x :: b) om
   have:=ua B k ((x :: b).drop (eW (x :: b)).2.1) (at_ + (eW (x :: b)).2.1) (acc ++ [(eW (x :: b)).1]) (by rw [List.length_drop];omega) (fj ha fun f hf=>by rw [c₅.1 hf];exact⟨h1.2.2.1,om⟩)
   rw [a₉,a₈] at this
   exact⟨this.1,om⟩
theorem fm (b:List UInt8):(∀f∈(aH b).1,jM f∧f.bytes.length≤b.length)∧(aH b).1.length≤1024:=by
 have:=ua b.length 1024 b 0 [] (c₃ _) sm;simpa [aH] using this
def jq:List fR→jc→jc×Bool
 | [],x=>(x,true)
 | f :: r,x=>if f.num=1∧f.kind=2 then jq r ⟨f.bytes,x.amt⟩ else if f.num=2∧f.kind=0 then jq r ⟨x.to_,f.val⟩ else(x,false)
def dk (b:List UInt8):jc×Bool:=match jq (aH b).1 ⟨[],0⟩ with
 | (x,ok)=>(x,ok && (decide ((aH b).2.2=0) && (bg (bD 1 x.to_ ++ cC 2 x.amt) == b)))
theorem yf (a b:List UInt8):aD Tryz.prog G 113 [.sl a.length (u8s a), .sl b.length (u8s b)] (.bool (a == b)):=by
 have f1:=al.mk (eH a);have f2:=al.mk (eH b);refine bf seat Tryz.func113 10 ?_;refine ad ?_;refine aw ?_;rfl
theorem CD (b:List UInt8) (hb:b.length≤5000):aL Tryz.prog G 218 [.sl b.length (u8s b)] [] 0 (.tup [lG (dk b).1, .bool (dk b).2]) [] 0:=by
 have c0:=As (G:=G) b om;have hfo:=fm b;generalize hr:dk b=r;unfold dk at hr;generalize aH b=t at *;obtain⟨l,at1,e⟩:=t;dsimp only at hr hfo c0;obtain⟨R,okk⟩:=r;dsimp only;refine bU seat Tryz.func218 63 ?_;refine ad ?_;refine kX (c0) ?_;refine ar (Nat×jc) (fun x=> [(18, .int .i64 x.1),(17, .int .i64 l.length),(16, .sl l.length (l.map dz)),(7, .ptr 1 2 0 0 []),(6, .int .i64 e),(2, .ptr 0 2 0 0 []),(0, .sl b.length (u8s b))]) (fun x=> [(0,⟨129,2,false,0,[.st [.str [], .int .u64 0]]⟩),(1,⟨129,2,false,0,[.st [.str x.2.to_, .int .u64 x.2.amt]]⟩)]) 2 (fun x=>x.1≤l.length∧x.2.to_.length≤5000∧bl x.2.amt∧(match jq (l.drop x.1) x.2 with | (x,ok)=>(x,ok && (decide (e=0) && (bg (bD 1 x.to_ ++ cC 2 x.amt) == b))))=(R,okk)) (fun x=>l.length - x.1) (0,⟨[],0⟩) ⟨a₆ _,sm,by simp [bl],by dsimp only;rw [a₅];exact hr⟩ (by dsimp only;exact(vm [(0,_),(1,_)] [])) ?_;rintro⟨k,x⟩ ⟨hk,hx1,hx2,hR⟩;obtain⟨to_,amt⟩:=x;try dsimp only
 dsimp only at hk hx1 hx2 hR;refine ad ?_;refine ae rfl ?_ ?_ <;> intro h
 ·have hk':k < l.length:=by have:=ot h;omega
  have hok:=hfo.1 _ (b₀ hk');have hel:=px hk';rw [a₁ hk'] at hR;generalize l[k] =f at *;obtain⟨num,kind,val,bytes⟩:=f;replace hel:db (l.map dz) l.length (k:Int)=some (.st [.int .i64 num, .int .i64 kind, .int .u64 val, .sl bytes.length (u8s bytes)]):=hel;have hel:=al.mk hel;have hby:=al.mk (eH bytes);rw [jq] at hR;dsimp only at hR hok;by_cases g1:num=1∧kind=2
  ·rw [if_pos g1] at hR;obtain⟨rfl,rfl⟩:=g1;(iterate 6 ((all_goals(refine ad ?_));(all_goals(first | ((first | refine ah rfl rfl ?_ rfl ?_ | refine ae rfl ?_ ?_);all_goals(intro h;(try simp only [pl] at h);(try (exfalso;omega)))) | skip))));exact⟨(k + 1,⟨bytes,amt⟩),⟨dm,dm,hx2,hR⟩,by show l.length - (k + 1) < l.length - k;omega,(by dsimp only;exact(vm [(0,_),(1,_)] []))⟩
  rw [if_neg g1] at hR;by_cases g2:num=2∧kind=0
  ·rw [if_pos g2] at hR;obtain⟨rfl,rfl⟩:=g2;(iterate 6 ((all_goals(refine ad ?_));(all_goals(first | ((first | refine ah rfl rfl ?_ rfl ?_ | refine ae rfl ?_ ?_);all_goals(intro h;(try simp only [pl] at h);(try (exfalso;omega)))) | skip))));exact⟨(k + 1,⟨to_,val⟩),⟨dm,hx1,by have:=hok.1;unfold jM at this;dsimp only at this ⊢;unfold bl;omega,hR⟩,by show l.length - (k + 1) < l.length - k;omega,(by dsimp only;exact(vm [(0,_),(1,_)] []))⟩
  ·rw [if_neg g2] at hR;dsimp only at hR;rw [b₅] at hR;simp only [a₀] at hR;obtain⟨rfl,rfl⟩:=hR;(iterate 6 ((all_goals(refine ad ?_));(all_goals(first | ((first | refine ah rfl rfl ?_ rfl ?_ | refine ae rfl ?_ ?_);all_goals(intro h;(try simp only [pl] at h);(try (exfalso;omega)))) | skip))));all_goals(refine aw ?_;exact en [_,_])
 ·have hk':k=l.length:=by have:=oF h;omega
  subst hk';rw [a₂,jq] at hR;dsimp only at hR;rw [b₁] at hR;have hio:=py (x:=⟨to_,amt⟩) ⟨hx1,hx2⟩;have hil:=nf (x:=⟨to_,amt⟩) ⟨hx1,hx2⟩;have hto:=jn (n:=1) (s:=to_) om om 5000 hx1 om;have d1:=yd (G:=G) [] 1 to_ sm om;rw [b₃] at d1;have d2:=mn (G:=G) (bD 1 to_) 2 amt om;dsimp only at hio hil;have d3:=qu (G:=G) (bD 1 to_ ++ cC 2 amt) (fun f hf=>(hio.1 f hf).1) om om;have d4:=yf (G:=G) (bg (bD 1 to_ ++ cC 2 amt)) b;unfold yb at d1 d2;by_cases he:e=0
  ·subst he;rw [decide_eq_true rfl,b₁] at hR;simp only [a₀] at hR;obtain⟨rfl,rfl⟩:=hR;generalize bD 1 to_ ++ cC 2 amt=li at *;generalize bD 1 to_=lt at *;generalize bg li=mi at *;refine ad ?_;refine av [ag 0,ag 1,ag 2,ag 3,ag 4,ag 5,da 6,ag 7,ag 8,da 9,da 10,ag 11,da 12,ag 13,ag 14,ag 15] ?_;refine ad ?_;refine bB rfl (fun _ h=>h) rfl [] (d1) [] [] ⟨rfl,trivial,rfl,lm,mm⟩ rfl rfl rfl rfl rfl ?_;refine ad ?_;refine bB rfl (fun _ h=>h) rfl [9] (d2) [(0,9)] [] ⟨rfl,trivial,rfl,lm,mm⟩ rfl rfl rfl rfl rfl ?_;refine ad ?_;refine kn rfl (fun _ h=>h) rfl [12] (d3) rfl [(12,li.length)] mm lm rfl ?_;refine ad ?_;refine du (d4) ?_;refine aw ?_;refine⟨[_,_],[],[],rfl,rfl,trivial,rfl,⟨?_,?_,trivial⟩,?_⟩
   ·exact .inl ⟨rfl,rfl⟩
   ·exact rv
   ·exact mm
  ·rw [decide_eq_false he,b₅] at hR;simp only [a₀] at hR;obtain⟨rfl,rfl⟩:=hR;refine ad ?_;refine av [ag 0,ag 1,ag 2,ag 3,ag 4,ag 5,da 6,ag 7,ag 8,da 9,da 10,ag 11,da 12,ag 13,ag 14,ag 15] ?_;refine ad ?_;refine dY rfl rfl ?_ rfl ?_ <;> intro h
   ·exfalso;have:(e:Int)=0:=by simpa using h
    omega
   refine ad ?_;refine aw ?_;refine⟨[_,_],[],[],rfl,rfl,trivial,rfl,⟨?_,?_,trivial⟩,?_⟩
   ·exact .inl ⟨rfl,rfl⟩
   ·exact rv
   ·exact mm
end
section
variable {G:GS}
attribute [local irreducible] aj aC aG aM aQ vC aY aA
def bA:List fR→iP→iP×Bool
 | [],t=>(t,true)
 | f :: r,t=>
  if f.num=1∧f.kind=2 then bA r ⟨f.bytes,t.seq,t.gas,t.fee,t.memo,t.trs⟩ else
  if f.num=2∧f.kind=0 then bA r ⟨t.sender,f.val,t.gas,t.fee,t.memo,t.trs⟩ else
  if f.num=3∧f.kind=0 then bA r ⟨t.sender,t.seq,f.val,t.fee,t.memo,t.trs⟩ else
  if f.num=4∧f.kind=0 then bA r ⟨t.sender,t.seq,t.gas,f.val,t.memo,t.trs⟩ else
  if f.num=5∧f.kind=2 then bA r ⟨t.sender,t.seq,t.gas,t.fee,f.bytes,t.trs⟩ else
  if f.num=6∧f.kind=2 then(if (dk f.bytes).2 then bA r ⟨t.sender,t.seq,t.gas,t.fee,t.memo,t.trs ++ [(dk f.bytes).1]⟩ else(t,false)) else(t,false)
def tx0:iP:=⟨[],0,0,0,[],[]⟩
theorem ub: ∀(l:List fR) (x:jc),(∀f∈l,jM f∧f.bytes.length≤5000)→mo x→mo (jq l x).1
 | [],x,_,h=>h
 | f :: r,x,hl,h=>by
  have hf:=hl f sm
  rw [jq]
  split
  ·exact ub r _ (fun g hg=>hl g (by simp [hg])) ⟨hf.2,h.2⟩
  ·split
   ·exact ub r _ (fun g hg=>hl g (by simp [hg])) ⟨h.1,by have:=hf.1;unfold jM at this;unfold bl;dsimp only;omega⟩
   ·exact h
theorem yg {b:List UInt8} (hb:b.length≤5000):mo (dk b).1:=by
 unfold dk;have h:=fm b;have:=ub (aH b).1 ⟨[],0⟩ (fun f hf=>⟨(h.1 f hf).1,by have:=(h.1 f hf).2;omega⟩) ⟨sm,by simp [bl]⟩;generalize jq (aH b).1 ⟨[],0⟩=r at *;exact this
theorem jr: ∀(l:List fR) (t:iP),(∀f∈l,jM f∧f.bytes.length≤5000)→t.trs.length + l.length≤5000→gT t→gT (bA l t).1
 | [],t,_,_,h=>h
 | f :: r,t,hl,hn,h=>by
  have hf:=hl f sm
  have hr: ∀g∈r,jM g∧g.bytes.length≤5000:=fun g hg=>hl g (by simp [hg])
  have hv:bl f.val:=by have:=hf.1;unfold jM at this;unfold bl;omega
  simp only [List.length_cons] at hn
  obtain⟨h1,h2,h3,h4,h5,h6,h7⟩:=h
  rw [bA]
  split
  ·exact jr r _ hr dm ⟨hf.2,h2,h3,h4,h5,h6,h7⟩
  split
  ·exact jr r _ hr dm ⟨h1,hv,h3,h4,h5,h6,h7⟩
  split
  ·exact jr r _ hr dm ⟨h1,h2,hv,h4,h5,h6,h7⟩
  split
  ·exact jr r _ hr dm ⟨h1,h2,h3,hv,h5,h6,h7⟩
  split
  ·exact jr r _ hr dm ⟨h1,h2,h3,h4,hf.2,h6,h7⟩
  split
  ·split
   ·exact jr r _ hr (by dsimp only;rw [a₉,a₈];omega) ⟨h1,h2,h3,h4,h5,by dsimp only;rw [a₉,a₈];omega,fj h7 fun x hx=>by rw [c₅.1 hx];exact yg hf.2⟩
   ·exact⟨h1,h2,h3,h4,h5,h6,h7⟩
  ·exact⟨h1,h2,h3,h4,h5,h6,h7⟩
theorem NA (l:List fR) (hl: ∀f∈l,jM f∧f.bytes.length≤5000) (hn:l.length≤1024):aL Tryz.prog G 172 [.sl l.length (l.map dz)] [] 0 (.tup [nA (bA l tx0).1, .bool (bA l tx0).2]) [] 0:=by
 generalize hr:bA l tx0=r;obtain⟨R,okk⟩:=r;dsimp only;refine bU seat Tryz.func172 104 ?_;refine ad ?_;refine ar (Nat×iP) (fun x=> [(11, .int .i64 x.1),(10, .int .i64 l.length),(9, .sl l.length (l.map dz)),(4, .ptr 1 6 0 0 []),(2, .ptr 0 6 0 0 [])]) (fun x=> [(0,⟨100,6,false,0,[.st [.str [], .int .u64 0, .int .u64 0, .int .u64 0, .str [], .nils]]⟩),(1,⟨100,6,false,0,[.st [.str x.2.sender, .int .u64 x.2.seq, .int .u64 x.2.gas, .int .u64 x.2.fee, .str x.2.memo, .ms 2 2 0 x.2.trs.length]]⟩),(2,⟨129,2,true,0,x.2.trs.map lG⟩)]) 3 (fun x=>x.1≤l.length∧x.2.trs.length≤x.1∧bA (l.drop x.1) x.2=(R,okk)) (fun x=>l.length - x.1) (0,tx0) ⟨a₆ _,a₆ _,by dsimp only;rw [a₅];exact hr⟩ (by dsimp only;exact(vm [(0,_),(1,_)] [])) ?_;rintro⟨k,t⟩ ⟨hk,ht,hR⟩;obtain⟨sender,seq,gas,fee,memo,trs⟩:=t;try dsimp only
 dsimp only at hk ht hR;refine ad ?_;refine ae rfl ?_ ?_ <;> intro h
 ·have hk':k < l.length:=by have:=ot h;omega
  have hok:=hl _ (b₀ hk');have hel:=px hk';rw [a₁ hk'] at hR;generalize l[k] =f at *;obtain⟨num,kind,val,bytes⟩:=f;replace hel:db (l.map dz) l.length (k:Int)=some (.st [.int .i64 num, .int .i64 kind, .int .u64 val, .sl bytes.length (u8s bytes)]):=hel;have hel:=al.mk hel;have hby:=al.mk (eH bytes);rw [bA] at hR;dsimp only at hR hok;by_cases g1:num=1∧kind=2
  ·rw [if_pos g1] at hR;obtain⟨rfl,rfl⟩:=g1;(iterate 4 ((all_goals(refine ad ?_));(all_goals(first | ((first | refine ah rfl rfl ?_ rfl ?_ | refine ae rfl ?_ ?_);all_goals(intro h;(try simp only [pl] at h);(try (exfalso;omega)))) | skip))));exact⟨(k + 1,⟨bytes,seq,gas,fee,memo,trs⟩),⟨dm,dm,hR⟩,by show l.length - (k + 1) < l.length - k;omega,(by dsimp only;exact(vm [(0,_),(1,_),(2,_)] []))⟩
  rw [if_neg g1] at hR;by_cases g2:num=2∧kind=0
  ·rw [if_pos g2] at hR;obtain⟨rfl,rfl⟩:=g2;(iterate 6 ((all_goals(refine ad ?_));(all_goals(first | ((first | refine ah rfl rfl ?_ rfl ?_ | refine ae rfl ?_ ?_);all_goals(intro h;(try simp only [pl] at h);(try (exfalso;omega)))) | skip))));exact⟨(k + 1,⟨sender,val,gas,fee,memo,trs⟩),⟨dm,dm,hR⟩,by show l.length - (k + 1) < l.length - k;omega,(by dsimp only;exact(vm [(0,_),(1,_),(2,_)] []))⟩
  rw [if_neg g2] at hR;by_cases g3:num=3∧kind=0
  ·rw [if_pos g3] at hR;obtain⟨rfl,rfl⟩:=g3;(iterate 8 ((all_goals(refine ad ?_));(all_goals(first | ((first | refine ah rfl rfl ?_ rfl ?_ | refine ae rfl ?_ ?_);all_goals(intro h;(try simp only [pl] at h);(try (exfalso;omega)))) | skip))));exact⟨(k + 1,⟨sender,seq,val,fee,memo,trs⟩),⟨dm,dm,hR⟩,by show l.length - (k + 1) < l.length - k;omega,(by dsimp only;exact(vm [(0,_),(1,_),(2,_)] []))⟩
  rw [if_neg g3] at hR;by_cases g4:num=4∧kind=0
  ·rw [if_pos g4] at hR;obtain⟨rfl,rfl⟩:=g4;(iterate 10 ((all_goals(refine ad ?_));(all_goals(first | ((first | refine ah rfl rfl ?_ rfl ?_ | refine ae rfl ?_ ?_);all_goals(intro h;(try simp only [pl] at h);(try (exfalso;omega)))) | skip))));exact⟨(k + 1,⟨sender,seq,gas,val,memo,trs⟩),⟨dm,dm,hR⟩,by show l.length - (k + 1) < l.length - k;omega,(by dsimp only;exact(vm [(0,_),(1,_),(2,_)] []))⟩
  rw [if_neg g4] at hR;by_cases g5:num=5∧kind=2
  ·rw [if_pos g5] at hR;obtain⟨rfl,rfl⟩:=g5;(iterate 12 ((all_goals(refine ad ?_));(all_goals(first | ((first | refine ah rfl rfl ?_ rfl ?_ | refine ae rfl ?_ ?_);all_goals(intro h;(try simp only [pl] at h);(try (exfalso;omega)))) | skip))));exact⟨(k + 1,⟨sender,seq,gas,fee,bytes,trs⟩),⟨dm,dm,hR⟩,by show l.length - (k + 1) < l.length - k;omega,(by dsimp only;exact(vm [(0,_),(1,_),(2,_)] []))⟩
  rw [if_neg g5] at hR;by_cases g6:num=6∧kind=2
  ·rw [if_pos g6] at hR;obtain⟨rfl,rfl⟩:=g6;have c1:=CD (G:=G) bytes hok.2;generalize dk bytes=q at *;obtain⟨x,b⟩:=q;dsimp only at c1 hR;cases b with
   | false=>
    rw [if_neg sm] at hR;simp only [a₀] at hR;obtain⟨rfl,rfl⟩:=hR;(iterate 16 ((all_goals(refine ad ?_));(all_goals(first | (refine ai rfl (fun _ h=>h) rfl (c1) rfl rfl ?_) | ((first | refine ah rfl rfl ?_ rfl ?_ | refine ae rfl ?_ ?_);all_goals(intro h;(try simp only [pl] at h);(try (exfalso;omega)))) | skip))));all_goals(refine aw ?_;(refine⟨[_,_],[],[(2,trs.length)],rfl,rfl,?_,rfl,⟨?_,?_,trivial⟩,?_⟩;(exact⟨(show trs.length≤(trs.map lG).length by simp),trivial⟩);(exact .inr ⟨_,rfl,lm⟩);exact rv;exact mm))
   | true=>
    rw [if_pos rfl] at hR;(iterate 10 ((all_goals(refine ad ?_));(all_goals(first | (refine ai rfl (fun _ h=>h) rfl (c1) rfl rfl ?_) | ((first | refine ah rfl rfl ?_ rfl ?_ | refine ae rfl ?_ ?_);all_goals(intro h;(try simp only [pl] at h);(try (exfalso;omega)))) | skip))));refine bc rfl rfl (by intro R hR;refine dZ hR ?_;(refine a₃ (c₃ _) ?_;refine⟨_,rfl,?_⟩;refine a₃ ⟨sm,aF (by kernel_rfl) pf⟩ ?_;refine⟨(trs ++ [x]).map lG,sv (by simp;rfl),trs.length + 1,sv pf,?_⟩);exact hR) rfl ?_;refine ad ?_;exact⟨(k + 1,⟨sender,seq,gas,fee,memo,trs ++ [x]⟩),⟨dm,by dsimp only;rw [a₉,a₈];omega,hR⟩,by show l.length - (k + 1) < l.length - k;omega,(by dsimp only;rw [a₉,a₈];exact(vm [(0,_),(1,_),(2,_)] []))⟩
  ·rw [if_neg g6] at hR;simp only [a₀] at hR;obtain⟨rfl,rfl⟩:=hR;(iterate 14 ((all_goals(refine ad ?_));(all_goals(first | ((first | refine ah rfl rfl ?_ rfl ?_ | refine ae rfl ?_ ?_);all_goals(intro h;(try simp only [pl] at h);(try (exfalso;omega)))) | skip))));all_goals(refine aw ?_;(refine⟨[_,_],[],[(2,trs.length)],rfl,rfl,?_,rfl,⟨?_,?_,trivial⟩,?_⟩;(exact⟨(show trs.length≤(trs.map lG).length by simp),trivial⟩);(exact .inr ⟨_,rfl,lm⟩);exact rv;exact mm))
 ·have hk':k=l.length:=by have:=oF h;omega
  subst hk';rw [a₂,bA] at hR;simp only [a₀] at hR;obtain⟨rfl,rfl⟩:=hR;refine ad ?_;all_goals(refine aw ?_;(refine⟨[_,_],[],[(2,trs.length)],rfl,rfl,?_,rfl,⟨?_,?_,trivial⟩,?_⟩;(exact⟨(show trs.length≤(trs.map lG).length by simp),trivial⟩);(exact .inr ⟨_,rfl,lm⟩);exact rv;exact mm))
end
section
variable {G:GS}
attribute [local irreducible] aj aC aG aM aQ vC aY aA
def aI (raw:List UInt8):iP×Nat:=
 if 4096 < raw.length then(tx0,3) else
 if (aH raw).2.2≠0∨(bA (aH raw).1 tx0).2=false∨eQ (bA (aH raw).1 tx0).1≠raw then(tx0,4) else
 if cE (bA (aH raw).1 tx0).1≠0 then(tx0,cE (bA (aH raw).1 tx0).1) else((bA (aH raw).1 tx0).1,0)
theorem uc:gT tx0:=⟨by simp [tx0],by simp [tx0,bl],by simp [tx0,bl],by simp [tx0,bl],by simp [tx0],by simp [tx0],by simp [tx0]⟩
theorem MO {raw:List UInt8} (h:raw.length≤4096):gT (bA (aH raw).1 tx0).1:=by
 have hf:=fm raw;refine jr _ tx0 (fun f hm=>⟨(hf.1 f hm).1,by have:=(hf.1 f hm).2;omega⟩) ?_ uc
 show 0 + _≤_
 omega
theorem CE (raw:List UInt8) (hraw:raw.length≤140737488355328):aL Tryz.prog G 147 [.sl raw.length (u8s raw)] [] 0 (.tup [nA (aI raw).1, .int .i64 (aI raw).2]) [] 0:=by
 generalize hr:aI raw=r;obtain⟨R,code⟩:=r;dsimp only;unfold aI at hr;by_cases h1:4096 < raw.length
 ·rw [if_pos h1] at hr;simp only [a₀] at hr;obtain⟨rfl,rfl⟩:=hr;refine bU seat Tryz.func147 46 ?_;refine ad ?_;(iterate 4 ((all_goals(refine ad ?_));(all_goals(first | ((first | refine ah rfl rfl ?_ rfl ?_ | refine ae rfl ?_ ?_);all_goals(intro h;(try simp only [pl] at h);(try (exfalso;omega)))) | skip))));all_goals(refine aw ?_;exact en [_,_])
 rw [if_neg h1] at hr;have c1:=As (G:=G) raw om;have hf:=fm raw;have c2:=NA (G:=G) (aH raw).1 (fun f hm=>⟨(hf.1 f hm).1,by have:=(hf.1 f hm).2;omega⟩) hf.2;have hsm:=MO (raw:=raw) om;have c3:=Iv (G:=G) _ hsm;have c4:=yf (G:=G) (eQ (bA (aH raw).1 tx0).1) raw;have c5:=wG (G:=G) _ hsm;clear hf hsm;generalize aH raw=F at *;obtain⟨l,at_,e⟩:=F;dsimp only at c1 c2 c3 c4 c5 hr;generalize bA l tx0=T at *;obtain⟨t,ok⟩:=T;dsimp only at c1 c2 c3 c4 c5 hr;generalize eQ t=fs at *;generalize cE t=vt at *;have hb:(fs == raw)=true↔fs=raw:=sm;generalize (fs == raw)=b at *;by_cases he:e=0
 ·subst he;cases ok with
  | false=>
   rw [if_pos sm] at hr;simp only [a₀] at hr;obtain⟨rfl,rfl⟩:=hr;refine bU seat Tryz.func147 46 ?_;refine ad ?_;(iterate 12 ((all_goals(refine ad ?_));(all_goals(first | (refine ai rfl (fun _ h=>h) rfl (c1) rfl rfl ?_) | (refine ai rfl (fun _ h=>h) rfl (c2) rfl rfl ?_) | (refine ai rfl (fun _ h=>h) rfl (c3) rfl rfl ?_) | (refine ai rfl (fun _ h=>h) rfl (aa (c4)) rfl rfl ?_) | (refine ai rfl (fun _ h=>h) rfl (aa (c5)) rfl rfl ?_) | ((first | refine ah rfl rfl ?_ rfl ?_ | refine ae rfl ?_ ?_);all_goals(intro h;(try simp only [pl] at h);(try (exfalso;omega)))) | skip))));all_goals(refine aw ?_;exact en [_,_])
  | true=>
   cases b with
   | false=>
    have hne:fs≠raw:=fun e=>by have:=hb.2 e;simp at this
    rw [if_pos (by simp [hne])] at hr;simp only [a₀] at hr;obtain⟨rfl,rfl⟩:=hr;refine bU seat Tryz.func147 46 ?_;refine ad ?_;(iterate 12 ((all_goals(refine ad ?_));(all_goals(first | (refine ai rfl (fun _ h=>h) rfl (c1) rfl rfl ?_) | (refine ai rfl (fun _ h=>h) rfl (c2) rfl rfl ?_) | (refine ai rfl (fun _ h=>h) rfl (c3) rfl rfl ?_) | (refine ai rfl (fun _ h=>h) rfl (aa (c4)) rfl rfl ?_) | (refine ai rfl (fun _ h=>h) rfl (aa (c5)) rfl rfl ?_) | ((first | refine ah rfl rfl ?_ rfl ?_ | refine ae rfl ?_ ?_);all_goals(intro h;(try simp only [pl] at h);(try (exfalso;omega)))) | skip))));all_goals(refine aw ?_;exact en [_,_])
   | true=>
    have heq:fs=raw:=hb.1 rfl;rw [if_neg (by simp [heq])] at hr;by_cases hv:vt=0
    ·subst hv;rw [if_neg sm] at hr;simp only [a₀] at hr;obtain⟨rfl,rfl⟩:=hr;refine bU seat Tryz.func147 46 ?_;refine ad ?_;(iterate 12 ((all_goals(refine ad ?_));(all_goals(first | (refine ai rfl (fun _ h=>h) rfl (c1) rfl rfl ?_) | (refine ai rfl (fun _ h=>h) rfl (c2) rfl rfl ?_) | (refine ai rfl (fun _ h=>h) rfl (c3) rfl rfl ?_) | (refine ai rfl (fun _ h=>h) rfl (aa (c4)) rfl rfl ?_) | (refine ai rfl (fun _ h=>h) rfl (aa (c5)) rfl rfl ?_) | ((first | refine ah rfl rfl ?_ rfl ?_ | refine ae rfl ?_ ?_);all_goals(intro h;(try simp only [pl] at h);(try (exfalso;omega)))) | skip))));all_goals(refine aw ?_;exact en [_,_])
    ·rw [if_pos hv] at hr;simp only [a₀] at hr;obtain⟨rfl,rfl⟩:=hr;refine bU seat Tryz.func147 46 ?_;refine ad ?_;(iterate 12 ((all_goals(refine ad ?_));(all_goals(first | (refine ai rfl (fun _ h=>h) rfl (c1) rfl rfl ?_) | (refine ai rfl (fun _ h=>h) rfl (c2) rfl rfl ?_) | (refine ai rfl (fun _ h=>h) rfl (c3) rfl rfl ?_) | (refine ai rfl (fun _ h=>h) rfl (aa (c4)) rfl rfl ?_) | (refine ai rfl (fun _ h=>h) rfl (aa (c5)) rfl rfl ?_) | ((first | refine ah rfl rfl ?_ rfl ?_ | refine ae rfl ?_ ?_);all_goals(intro h;(try simp only [pl] at h);(try (exfalso;omega)))) | skip))));all_goals(refine aw ?_;exact en [_,_])
 ·rw [if_pos (.inl he)] at hr;simp only [a₀] at hr;obtain⟨rfl,rfl⟩:=hr;refine bU seat Tryz.func147 46 ?_;refine ad ?_;(iterate 12 ((all_goals(refine ad ?_));(all_goals(first | (refine ai rfl (fun _ h=>h) rfl (c1) rfl rfl ?_) | (refine ai rfl (fun _ h=>h) rfl (c2) rfl rfl ?_) | (refine ai rfl (fun _ h=>h) rfl (c3) rfl rfl ?_) | (refine ai rfl (fun _ h=>h) rfl (aa (c4)) rfl rfl ?_) | (refine ai rfl (fun _ h=>h) rfl (aa (c5)) rfl rfl ?_) | ((first | refine ah rfl rfl ?_ rfl ?_ | refine ae rfl ?_ ?_);all_goals(intro h;(try simp only [pl] at h);(try (exfalso;omega)))) | skip))));all_goals(refine aw ?_;exact en [_,_])
end
section
variable {G:GS}
attribute [local irreducible] aj aC aG aM aQ vC aY aA
structure aW where
 name:List UInt8
 bal:Nat
 seq:Nat
def bd (a:aW):MV:= .st [.str a.name, .int .u64 a.bal, .int .u64 a.seq]
def eX (a:aW):Prop:=a.name.length≤5000∧bl a.bal∧bl a.seq
def ac0:aW:=⟨[],0,0⟩
structure fH where
 acs:List aW
 col:Nat
def lgM (l:fH):MV:= .st [.sl l.acs.length (l.acs.map bd), .int .u64 l.col]
def iD (a b:Nat):Nat×Bool:=if a + b < 18446744073709551616 then(a + b,true) else(0,false)
theorem eY {l:List aW} {k:Nat} (hk:k < l.length):db (l.map bd) l.length (k:Int)=some (bd l[k]):=fK hk (by simp [hk])
theorem MP (a b:Nat) (ha:bl a) (hb:bl b):aD Tryz.prog G 156 [.int .u64 a, .int .u64 b] (.tup [.int .u64 (iD a b).1, .bool (iD a b).2]):=by
 unfold bl at ha hb;generalize hr:iD a b=r;obtain⟨R,okk⟩:=r;unfold iD at hr;dsimp only;split at hr
 ·rename_i h;simp only [a₀] at hr;obtain⟨rfl,rfl⟩:=hr;refine bf seat Tryz.func156 13 ?_;refine ad ?_;(iterate 4 ((all_goals(refine ad ?_));(all_goals(first | ((first | refine ah rfl rfl ?_ rfl ?_ | refine ae rfl ?_ ?_);all_goals(intro h;(try simp only [pl] at h);(try (exfalso;omega)))) | skip))));all_goals(refine aw ?_)
  all_goals rfl
 ·rename_i h;simp only [a₀] at hr;obtain⟨rfl,rfl⟩:=hr;refine bf seat Tryz.func156 13 ?_;refine ad ?_;(iterate 4 ((all_goals(refine ad ?_));(all_goals(first | ((first | refine ah rfl rfl ?_ rfl ?_ | refine ae rfl ?_ ?_);all_goals(intro h;(try simp only [pl] at h);(try (exfalso;omega)))) | skip))));all_goals(refine aw ?_)
  all_goals rfl
def eZ (name:List UInt8):List aW→Nat→Int
 | [],_=> -1
 | a :: r,i=>if a.name=name then i else eZ name r (i + 1)
theorem yh (l:List aW) (name:List UInt8) (hl:l.length≤1000000):aD Tryz.prog G 127 [.sl l.length (l.map bd), .str name] (.int .i64 (eZ name l 0)):=by
 generalize hr:eZ name l 0=R;refine bf seat Tryz.func127 20 ?_;refine ad ?_;refine ar Nat (fun k=> [(9, .int .i64 k),(8, .int .i64 l.length),(7, .sl l.length (l.map bd)),(1, .str name)]) (fun _=> []) 0 (fun k=>k≤l.length∧eZ name (l.drop k) k=R) (fun k=>l.length - k) 0 ⟨a₆ _,by rw [a₅];exact hr⟩ (vm [] []) ?_;rintro k ⟨hk,hR⟩;try dsimp only
 refine ad ?_;refine ae rfl ?_ ?_ <;> intro h
 ·have hk':k < l.length:=by have:=ot h;omega
  have hel:=eY hk';rw [a₁ hk',eZ] at hR;generalize l[k] =a at *;obtain⟨nm,bal,seq⟩:=a;replace hel:db (l.map bd) l.length (k:Int)=some (.st [.str nm, .int .u64 bal, .int .u64 seq]):=hel;have hel:=al.mk hel;dsimp only at hR;by_cases he:nm=name
  ·rw [if_pos he] at hR;subst he;subst hR;refine eV ?_;refine aw ?_;rfl
  ·rw [if_neg he] at hR;refine ad ?_;refine ae rfl ?_ ?_ <;> intro h
   ·exact absurd (eq_of_beq h) he
   ·refine ad ?_;exact⟨k + 1,⟨by show k + 1≤l.length;omega,hR⟩,by show l.length - (k + 1) < l.length - k;omega,(by dsimp only;exact(vm [] []))⟩
 ·have hk':k=l.length:=by have:=oF h;omega
  subst hk';rw [a₂,eZ] at hR;subst hR;refine ad ?_;refine aw ?_;rfl
end
section
variable {G:GS}
attribute [local irreducible] aj aC aG aM aQ vC aY aA
def limS (n:Int):Nat:=(max 0 (min n 1073741824)).toNat
theorem wH (n:Int) (hn: -9223372036854775808≤n∧n < 9223372036854775808):aD Tryz.prog G 219 [.int .i64 n] (.int .u64 (limS n)):=by
 refine bf seat Tryz.func219 7 ?_;refine ad ?_;refine aw ?_;refine congrArg (MV.int .u64) ?_;unfold limS;split <;> split <;> omega
def jy (a b:Nat):Nat×Bool:=if a * b < 18446744073709551616 then(a * b,true) else(0,false)
theorem O4 (a b:Nat) (ha:bl a) (hb:bl b):aD Tryz.prog G 220 [.int .u64 a, .int .u64 b] (.tup [.int .u64 (jy a b).1, .bool (jy a b).2]):=by
 unfold bl at ha hb;have hq:0 < a→(18446744073709551615 / a < b↔18446744073709551615 < b * a):=fun h=>b₇ h
 have hm:a=0→a * b=0:=fun h=>by rw [h,Nat.zero_mul]
 rw [c₆ b a] at hq;have f1:=aX.mk (show IntKind.u64.wrap ((18446744073709551615:Int).tdiv (a:Int))=((18446744073709551615 / a:Nat):Int) from Ar (a:=18446744073709551615) a om);have f2:a * b < 18446744073709551616→IntKind.u64.wrap ((a:Int) * (b:Int))=((a * b:Nat):Int):=fun h=>by
  rw [← d₅];exact bu _ om om
 have hz:(18446744073709551615 / a:Nat) < 18446744073709551616:=c₇ (c₂ _ _) om;generalize hr:jy a b=r;obtain⟨R,okk⟩:=r;unfold jy at hr;generalize a * b=m at *;generalize 18446744073709551615 / a=q at *;dsimp only;by_cases h:m < 18446744073709551616
 ·rw [if_pos h] at hr;simp only [a₀] at hr;obtain⟨rfl,rfl⟩:=hr;have f2:=aX.mk (f2 h);refine bf seat Tryz.func220 17 ?_;refine ad ?_;(iterate 6 ((all_goals(refine ad ?_));(all_goals(first | ((first | refine ah rfl rfl ?_ rfl ?_ | refine ae rfl ?_ ?_);all_goals(intro h;(try simp only [pl] at h);(try (exfalso;omega)))) | skip))));all_goals(refine aw ?_)
  all_goals rfl
 ·rw [if_neg h] at hr;simp only [a₀] at hr;obtain⟨rfl,rfl⟩:=hr;refine bf seat Tryz.func220 17 ?_;refine ad ?_;(iterate 6 ((all_goals(refine ad ?_));(all_goals(first | ((first | refine ah rfl rfl ?_ rfl ?_ | refine ae rfl ?_ ?_);all_goals(intro h;(try simp only [pl] at h);(try (exfalso;omega)))) | skip))));all_goals(refine aw ?_)
  all_goals rfl
def lH (size trs:Int):Nat:=50 + limS size + 20 * limS trs
theorem NB (x y:Int) (hx: -9223372036854775808≤x∧x < 9223372036854775808) (hy: -9223372036854775808≤y∧y < 9223372036854775808):aD Tryz.prog G 174 [.int .i64 x, .int .i64 y] (.int .u64 (lH x y)):=by
 have c1:=wH (G:=G) x hx;have c2:=wH (G:=G) y hy;have l1:limS x≤1073741824:=by unfold limS;omega
 have l2:limS y≤1073741824:=by unfold limS;omega
 unfold lH;generalize limS x=u at *;generalize limS y=v at *;refine bf seat Tryz.func174 13 ?_;refine ad ?_;(iterate 4 ((all_goals(refine ad ?_));(all_goals(first | (refine ai rfl (fun _ h=>h) rfl (aa (c1)) rfl rfl ?_) | (refine ai rfl (fun _ h=>h) rfl (aa (c2)) rfl rfl ?_) | ((first | refine ah rfl rfl ?_ rfl ?_ | refine ae rfl ?_ ?_);all_goals(intro h;(try simp only [pl] at h);(try (exfalso;omega)))) | skip))));all_goals(refine aw ?_)
 refine congrArg (MV.int .u64) ?_;omega
end
section
variable {G:GS}
attribute [local irreducible] aj aC aG aM aQ vC aY aA
def aS (l:List aW) (name:List UInt8):aW×Bool:=match l.find? (fun a=>decide (a.name=name)) with
 | some a=>(a,true)
 | none=>(ac0,false)
theorem lj (name:List UInt8): ∀(l:List aW) (i:Nat),(eZ name l i= -1∧l.find? (fun a=>decide (a.name=name))=none)∨∃k a,eZ name l i=((i + k:Nat):Int)∧l[k]? =some a∧l.find? (fun a=>decide (a.name=name))=some a
 | [],i=> .inl ⟨rfl,rfl⟩
 | a :: r,i=>by
  by_cases h:a.name=name
  ·exact .inr ⟨0,a,by rw [eZ,if_pos h];rfl,rfl,by simp [h]⟩
  ·have hf:(a :: r).find? (fun a=>decide (a.name=name))=r.find? (fun a=>decide (a.name=name)):=by simp [h]
   rw [eZ,if_neg h,hf]
   rcases lj name r (i + 1) with h1 | ⟨k,b,h1,h2,h3⟩
   ·exact .inl h1
   ·exact .inr ⟨k + 1,b,by rw [h1];omega,by simpa using h2,h3⟩
theorem MQ (l:List aW) (col:Nat) (name:List UInt8) (hl:l.length≤1000000):aD Tryz.prog G 173 [.st [.sl l.length (l.map bd), .int .u64 col], .str name] (.tup [bd (aS l name).1, .bool (aS l name).2]):=by
 have c1:=yh (G:=G) l name hl;rcases lj name l 0 with ⟨h1,h2⟩ | ⟨k,a,h1,h2,h3⟩
 ·rw [h1] at c1;have e:aS l name=(ac0,false):=by unfold aS;rw [h2]
  rw [e];refine bf seat Tryz.func173 19 ?_;refine ad ?_;(iterate 6 ((all_goals(refine ad ?_));(all_goals(first | (refine ai rfl (fun _ h=>h) rfl (aa (c1)) rfl rfl ?_) | ((first | refine ah rfl rfl ?_ rfl ?_ | refine ae rfl ?_ ?_);all_goals(intro h;(try simp only [pl] at h);(try (exfalso;omega)))) | skip))));all_goals(refine aw ?_)
  all_goals rfl
 ·rw [h1,a₄] at c1;have e:aS l name=(a,true):=by unfold aS;rw [h3]
  rw [e];obtain⟨hk,ha⟩:=c₀.1 h2;have hel:=eY hk;rw [ha] at hel;obtain⟨nm,bal,seq⟩:=a;replace hel:db (l.map bd) l.length (k:Int)=some (.st [.str nm, .int .u64 bal, .int .u64 seq]):=hel;have hel:=al.mk hel;clear h1 h2 h3 e ha;refine bf seat Tryz.func173 19 ?_;refine ad ?_;(iterate 6 ((all_goals(refine ad ?_));(all_goals(first | (refine ai rfl (fun _ h=>h) rfl (aa (c1)) rfl rfl ?_) | ((first | refine ah rfl rfl ?_ rfl ?_ | refine ae rfl ?_ ?_);all_goals(intro h;(try simp only [pl] at h);(try (exfalso;omega)))) | skip))));all_goals(refine aw ?_)
  all_goals rfl
def totS:List aW→Nat→Nat×Bool
 | [],s=>(s,true)
 | a :: r,s=>if (iD s a.bal).2 then totS r (iD s a.bal).1 else(0,false)
theorem ud {a b:Nat}:bl (iD a b).1:=by
 unfold iD bl;split
 ·assumption
 ·show 0 < _;omega
theorem Ee (l:List aW) (col:Nat) (hc:bl col) (hl:l.length≤1000000) (hs: ∀a∈l,bl a.bal):aD Tryz.prog G 129 [.st [.sl l.length (l.map bd), .int .u64 col]] (.tup [.int .u64 (totS l col).1, .bool (totS l col).2]):=by
 generalize hr:totS l col=r;obtain⟨R,okk⟩:=r;dsimp only;refine bf seat Tryz.func129 30 ?_;refine ad ?_;refine ar (Nat×Nat) (fun x=> [(14, .int .i64 x.1),(13, .int .i64 l.length),(12, .sl l.length (l.map bd)),(4, .int .u64 x.2)]) (fun _=> []) 0 (fun x=>x.1≤l.length∧bl x.2∧totS (l.drop x.1) x.2=(R,okk)) (fun x=>l.length - x.1) (0,col) ⟨a₆ _,hc,by rw [a₅];exact hr⟩ (by dsimp only;exact(vm [] [])) ?_;rintro⟨k,s⟩ ⟨hk,hsU,hR⟩;try dsimp only
 dsimp only at hk hsU hR;refine ad ?_;refine ae rfl ?_ ?_ <;> intro h
 ·have hk':k < l.length:=by have:=ot h;omega
  have hel:=eY hk';have hb:=hs _ (b₀ hk');rw [a₁ hk',totS] at hR;generalize l[k] =a at *;obtain⟨nm,bal,seq⟩:=a;replace hel:db (l.map bd) l.length (k:Int)=some (.st [.str nm, .int .u64 bal, .int .u64 seq]):=hel;have hel:=al.mk hel;dsimp only at hR hb;have c1:=MP (G:=G) s bal hsU hb;have hU:= @ud s bal;generalize iD s bal=p at *;obtain⟨v,b⟩:=p;dsimp only at c1 hR hU;cases b with
  | true=>
   rw [if_pos rfl] at hR;refine ad ?_;(iterate 6 ((all_goals(refine ad ?_));(all_goals(first | (refine ai rfl (fun _ h=>h) rfl (aa (c1)) rfl rfl ?_) | ((first | refine ah rfl rfl ?_ rfl ?_ | refine ae rfl ?_ ?_);all_goals(intro h;(try simp only [pl] at h);(try (exfalso;omega)))) | skip))));exact⟨(k + 1,v),⟨by show k + 1≤l.length;omega,hU,hR⟩,by show l.length - (k + 1) < l.length - k;omega,(by dsimp only;exact(vm [] []))⟩
  | false=>
   rw [if_neg sm] at hR;simp only [a₀] at hR;obtain⟨rfl,rfl⟩:=hR;refine ad ?_;(iterate 6 ((all_goals(refine ad ?_));(all_goals(first | (refine ai rfl (fun _ h=>h) rfl (aa (c1)) rfl rfl ?_) | ((first | refine ah rfl rfl ?_ rfl ?_ | refine ae rfl ?_ ?_);all_goals(intro h;(try simp only [pl] at h);(try (exfalso;omega)))) | skip))));all_goals(refine aw ?_)
   all_goals rfl
 ·have hk':k=l.length:=by have:=oF h;omega
  subst hk';rw [a₂,totS] at hR;simp only [a₀] at hR;obtain⟨rfl,rfl⟩:=hR;refine ad ?_;refine aw ?_;rfl
end
section
variable {G:GS}
attribute [local irreducible] aj aC aG aM aQ vC aY aA
def pC (a:aW):List aW→List aW
 | [] => [a]
 | b :: r=>if Op.bytesLess b.name a.name then b :: pC a r else a :: b :: r
def ei (a:aW) (l:List aW):List aW:=if 0≤eZ a.name l 0 then l.set (eZ a.name l 0).toNat a else pC a l
theorem yi (a:aW): ∀(l:List aW) (k:Nat),k≤l.length→(∀j (hj:j < l.length),j < k→Op.bytesLess l[j].name a.name=true)→(∀hk:k < l.length,Op.bytesLess l[k].name a.name=false)→pC a l=l.take k ++ a :: l.drop k
 | [],k,h,_,_=>by
  have:k=0:=by simpa using h
  subst this;rfl
 | b :: r,0,_,_,h2=>by
  have:=h2 sm
  simp only [c₄] at this
  rw [pC,if_neg (by rw [this];simp)]
  rfl
 | b :: r,k + 1,h,h1,h2=>by
  have hb:=h1 0 sm om
  simp only [c₄] at hb
  rw [pC,if_pos hb,yi a r k (by simpa using h) (fun j hj hjk=>by have:=h1 (j + 1) (by simpa using hj) om;simpa using this) (fun hk=>by have:=h2 (by simpa using hk);simpa using this)]
  rfl
theorem ll (l:List aW):bH (l.map bd) 3=true:=by cases l <;> rfl
theorem ue (a:aW): ∀l,(pC a l).length=l.length + 1
 | [] =>rfl
 | b :: r=>by
  rw [pC]
  split
  ·simp [ue a r]
  ·simp
theorem mA (a:aW) (l:List aW):(ei a l).length≤l.length + 1:=by
 unfold ei;split
 ·simp
 ·rw [ue];omega
theorem Iw (a:aW) (l:List aW) (hl:l.length≤1000000):aL Tryz.prog G 128 [.sl l.length (l.map bd),bd a] [] 0 (.sl (ei a l).length ((ei a l).map bd)) [] 0:=by
 have c1:=yh (G:=G) l a.name hl;obtain⟨nm,bal,seq⟩:=a;dsimp only at c1;have hspec:=lj nm l 0;have hput:ei ⟨nm,bal,seq⟩ l=if 0≤eZ nm l 0 then l.set (eZ nm l 0).toNat ⟨nm,bal,seq⟩ else pC ⟨nm,bal,seq⟩ l:=rfl
 by_cases hf:eZ nm l 0= -1
 ·rw [hf] at c1 hput;rw [if_neg om] at hput;rw [hput];clear hspec hf hput;have hins:=yi ⟨nm,bal,seq⟩ l;have hil:=ue ⟨nm,bal,seq⟩ l;dsimp only at hins;generalize pC ⟨nm,bal,seq⟩ l=Z at *;refine bU seat Tryz.func128 50 ?_;refine ad ?_;(iterate 3 ((all_goals(refine ad ?_));(all_goals(first | (refine ai rfl (fun _ h=>h) rfl (aa (c1)) rfl rfl ?_) | ((first | refine ah rfl rfl ?_ rfl ?_ | refine ae rfl ?_ ?_);all_goals(intro h;(try simp only [pl] at h);(try (exfalso;omega)))) | skip))));refine ar Nat (fun k=> [(7, .int .i64 k),(3, .ptr 0 3 0 0 []),(0, .sl l.length (l.map bd))]) (fun _=> [(0,⟨87,3,false,0,[.st [.str nm, .int .u64 bal, .int .u64 seq]]⟩)]) 1 (fun k=>k≤l.length∧∀j (hj:j < l.length),j < k→Op.bytesLess l[j].name nm=true) (fun k=>l.length - k) 0 ⟨a₆ _,fun j hj h=>absurd h (Nat.not_lt_zero _)⟩ (vm [(0,_)] []) ?_;rintro k ⟨hki,hpre⟩;try dsimp only
  have step: ∀hk:k < l.length,Op.bytesLess l[k].name nm=true→(k + 1≤l.length∧∀j (hj:j < l.length),j < k + 1→Op.bytesLess l[j].name nm=true):=fun hk hb=>⟨om,fun j hj hjk=>by
   rcases b₄ j k with h | h
   ·exact hpre j hj h
   ·have:j=k:=om;subst this;exact hb⟩
  have done:(∀hk:k < l.length,Op.bytesLess l[k].name nm=false)→Z=l.take k ++ ⟨nm,bal,seq⟩ :: l.drop k:=fun h=>hins k hki hpre h
  clear hins;refine ad ?_;refine av [ag 0,ag 1,ag 2,ag 3,ag 4,ag 5,ag 6,ag 7,ag 8,ag 9,ag 10,ag 11,ag 12,ag 13] ?_;refine ad ?_;refine dY rfl rfl ?_ rfl ?_ <;> intro h
  ·have hk:k < l.length:=by have:=ot h;omega
   have hel:=eY hk;replace step:=step hk;generalize he:l[k] =b at *;obtain⟨nm',bal',seq'⟩:=b;replace hel:db (l.map bd) l.length (k:Int)=some (.st [.str nm', .int .u64 bal', .int .u64 seq']):=hel;have hel:=al.mk hel;dsimp only at step;refine ad ?_;refine ae rfl ?_ ?_ <;> intro h
   ·refine ad ?_;exact⟨k + 1,step h,by show l.length - (k + 1) < l.length - k;omega,(by dsimp only;exact(vm [(0,_)] []))⟩
   ·have hfin:=done (fun _=>by rw [he];exact h);have fb1:=al.mk (mj (κ:= .i64) hki);have fb2:=al.mk (gJ (κ:= .i64) hki);have fb3:=bJ.mk (ll l);refine ad ?_;refine av [ag 0,ag 1,ag 2,ag 3,ag 4,ag 5,ag 6,ag 7,ag 8,ag 9,ag 10,ag 11,ag 12] ?_;refine ad ?_;refine bQ rfl (by intro R hR;refine dZ hR ?_;refine a₃ ((by show bH (cutL _ 0 k) 3=true;rw [cut_take];exact ll _)) ?_;refine a₃ ⟨rfl,aF (by kernel_rfl) pf⟩ ?_;refine⟨(l.take k).map bd,sv (by show [] ++ cutL _ 0 k=_;rw [b₃,cut_take]),k,sv pf,?_⟩;exact hR) rfl ?_;refine ad ?_;refine bQ rfl (by intro R hR;refine dZ hR ?_;(refine a₃ (c₃ _) ?_;refine⟨_,rfl,?_⟩;refine a₃ ⟨(by simp <;> omega),aF (by kernel_rfl) pf⟩ ?_;refine⟨(l.take k ++ [(⟨nm,bal,seq⟩:aW)]).map bd,sv (by simp;rfl),k+1,sv pf,?_⟩);exact hR) rfl ?_;refine ad ?_;refine bQ rfl (by intro R hR;refine dZ hR ?_;refine a₃ ((by show bH (cutL _ k l.length) 3=true;rw [eE];exact ll _)) ?_;refine a₃ ⟨(by simp <;> omega),aF (by kernel_rfl) pf⟩ ?_;refine⟨Z.map bd,sv (by rw [hfin];show _ ++ cutL _ k l.length=_;rw [eE];simp),Z.length,sv pf,?_⟩;exact hR) rfl ?_;refine ad ?_;refine⟨[_],[],[(26,Z.length)],rfl,rfl,?_,rfl,⟨?_,trivial⟩,?_⟩
    ·exact⟨by show Z.length≤(Z.map bd).length;simp,trivial⟩
    ·exact .inr ⟨rfl,rfl,rfl,c₈ (a₄ _),bV bd Z⟩
    ·exact mm
  ·have hk:k=l.length:=by have:=oF h;omega
   have hfin:=done (fun h=>absurd h om);refine ad ?_;have fb1:=al.mk (mj (κ:= .i64) hki);have fb2:=al.mk (gJ (κ:= .i64) hki);have fb3:=bJ.mk (ll l);refine ad ?_;refine av [ag 0,ag 1,ag 2,ag 3,ag 4,ag 5,ag 6,ag 7,ag 8,ag 9,ag 10,ag 11,ag 12] ?_;refine ad ?_;refine bQ rfl (by intro R hR;refine dZ hR ?_;refine a₃ ((by show bH (cutL _ 0 k) 3=true;rw [cut_take];exact ll _)) ?_;refine a₃ ⟨rfl,aF (by kernel_rfl) pf⟩ ?_;refine⟨(l.take k).map bd,sv (by show [] ++ cutL _ 0 k=_;rw [b₃,cut_take]),k,sv pf,?_⟩;exact hR) rfl ?_;refine ad ?_;refine bQ rfl (by intro R hR;refine dZ hR ?_;(refine a₃ (c₃ _) ?_;refine⟨_,rfl,?_⟩;refine a₃ ⟨(by simp <;> omega),aF (by kernel_rfl) pf⟩ ?_;refine⟨(l.take k ++ [(⟨nm,bal,seq⟩:aW)]).map bd,sv (by simp;rfl),k+1,sv pf,?_⟩);exact hR) rfl ?_;refine ad ?_;refine bQ rfl (by intro R hR;refine dZ hR ?_;refine a₃ ((by show bH (cutL _ k l.length) 3=true;rw [eE];exact ll _)) ?_;refine a₃ ⟨(by simp <;> omega),aF (by kernel_rfl) pf⟩ ?_;refine⟨Z.map bd,sv (by rw [hfin];show _ ++ cutL _ k l.length=_;rw [eE];simp),Z.length,sv pf,?_⟩;exact hR) rfl ?_;refine ad ?_;refine⟨[_],[],[(26,Z.length)],rfl,rfl,?_,rfl,⟨?_,trivial⟩,?_⟩
   ·exact⟨by show Z.length≤(Z.map bd).length;simp,trivial⟩
   ·exact .inr ⟨rfl,rfl,rfl,c₈ (a₄ _),bV bd Z⟩
   ·exact mm
 ·obtain⟨k,b,h1,h2,_⟩:=hspec.resolve_left (fun h=>hf h.1);have hk:=(c₀.1 h2).1;rw [h1] at c1 hput;rw [if_pos om,c₉,a₄] at hput;rw [a₄] at c1;rw [hput];clear h1 h2 hspec hf hput;rw [d₆];have f1:=al.mk (cB hk);have hrow:bK (l.map bd) (0 + k)=some (bd l[k]):=by rw [bF,a₄];simp [hk]
  generalize l[k] =b' at hrow;obtain⟨nm',bal',seq'⟩:=b';have hrow:=al.mk (show bK (l.map bd) (0 + k)=some (.st [.str nm', .int .u64 bal', .int .u64 seq']) from hrow);refine bU seat Tryz.func128 50 ?_;refine ad ?_;(iterate 3 ((all_goals(refine ad ?_));(all_goals(first | (refine ai rfl (fun _ h=>h) rfl (aa (c1)) rfl rfl ?_) | ((first | refine ah rfl rfl ?_ rfl ?_ | refine ae rfl ?_ ?_);all_goals(intro h;(try simp only [pl] at h);(try (exfalso;omega)))) | skip))));refine bc rfl rfl (by intro R hR;refine dZ hR ?_;refine a₃ ((ll l)) ?_;refine a₃ ⟨rfl,aF (by kernel_rfl) pf⟩ ?_;refine⟨l.map bd,sv (by show [] ++ l.map bd=_;rw [b₃]),l.length,sv pf,?_⟩;exact hR) rfl ?_;refine ad ?_;refine⟨[_],[],[(10,l.length)],rfl,rfl,?_,rfl,⟨?_,trivial⟩,?_⟩
  ·exact⟨by show l.length≤(setL (l.map bd) (0 + k) _).length;rw [setL_eq];simp,trivial⟩
  ·refine .inr ⟨rfl,rfl,rfl,c₈ (a₄ _),?_⟩
   show cutL (setL (l.map bd) (0 + k) (bd ⟨nm,bal,seq⟩)) 0 (0 + l.length)=(l.set k ⟨nm,bal,seq⟩).map bd
   rw [setL_eq,a₄,← List.map_set,cut_take,a₄];rw [List.take_of_length_le (by rw [d₆];omega)]
  ·exact mm
end
section
variable {G:GS}
attribute [local irreducible] aj aC aG aM aQ vC aY aA
def sumG:List Nat→Nat→Nat×Bool
 | [],s=>(s,true)
 | x :: r,s=>if (iD s x).2 then sumG r (iD s x).1 else(0,false)
def eR (l:List Nat):List MV:=l.map fun(n:Nat)=>MV.int .u64 (n:Int)
theorem Ef {l:List Nat} {k:Nat} (hk:k < l.length):db (eR l) l.length (k:Int)=some (.int .u64 (l[k] :Int)):=fK hk (by simp [eR,hk])
theorem gV (m:Nat):((m:Int).fdiv (2 ^ (min (32:Int).toNat IntKind.u64.bits)))=((m / 4294967296:Nat):Int):=by
 rw [show min (32:Int).toNat IntKind.u64.bits=32 by rfl,b₂ _ (by decide)];exact(c₁ m 4294967296).symm
theorem ic {m:Nat} (hm:m < 18446744073709551616):IntKind.u64.wrap ((BitVec.ofInt IntKind.u64.bits (m:Int) &&& BitVec.ofInt IntKind.u64.bits (4294967295:Int)).toNat:Int)=((m % 4294967296:Nat):Int):=by
 have e:=b₈ m 32;rw [BitVec.toNat_and,eD _ _ (show m < 2 ^ IntKind.u64.bits from hm),show (4294967295:Int)=((4294967295:Nat):Int) by rfl,eD _ _ (show 4294967295 < 2 ^ IntKind.u64.bits by decide),show (4294967295:Nat)=2 ^ 32 - 1 by rfl,e,wu64];omega
theorem NC {h l:Nat} (hh:h < 4294967296) (hl:l < 4294967296):IntKind.u64.wrap ((BitVec.ofInt IntKind.u64.bits ((h * 4294967296:Nat):Int) ||| BitVec.ofInt IntKind.u64.bits (l:Int)).toNat:Int)=((h * 4294967296 + l:Nat):Int):=by
 have e:h * 4294967296 ||| l=h * 4294967296 + l:=by
  have:=b₉ (i:=32) hl h;rw [d₃] at this;exact this.symm
 rw [BitVec.toNat_or,eD _ _ (show h * 4294967296 < 2 ^ IntKind.u64.bits by show _ < 18446744073709551616;omega),eD _ _ (show l < 2 ^ IntKind.u64.bits by show _ < 18446744073709551616;omega),e,wu64];omega
theorem ND (m:Nat):IntKind.u64.wrap ((m:Int) * 2 ^ (min (32:Int).toNat IntKind.u64.bits))=((m % 4294967296 * 4294967296:Nat):Int):=by
 rw [show min (32:Int).toNat IntKind.u64.bits=32 by rfl,wu64];omega
def ez (a b c:Nat):Nat×Bool:=if c=0∨c≤a * b / 18446744073709551616 then(0,false) else(a * b / c,true)
theorem CF (a b:Nat) (ha:bl a) (hb:bl b): ∃w p q r:Nat,a / 4294967296 * (b / 4294967296)=w∧a % 4294967296 * (b % 4294967296)=p∧a / 4294967296 * (b % 4294967296)=q∧a % 4294967296 * (b / 4294967296)=r∧w < 18446744065119617026∧p < 18446744065119617026∧q < 18446744065119617026∧r < 18446744065119617026∧a * b=w * 18446744073709551616 + (q + r) * 4294967296 + p∧a * b / 18446744073709551616 < 18446744073709551616:=by
 unfold bl at ha hb;have b1: ∀x y:Nat,x≤4294967295→y≤4294967295→x * y < 18446744065119617026:=fun x y hx hy=>by
  have:=Nat.mul_le_mul hx hy;omega
 refine⟨_,_,_,_,rfl,rfl,rfl,rfl,b1 _ _ om om,b1 _ _ om om,b1 _ _ om om,b1 _ _ om om,?_,?_⟩
 ·have e1:a=a / 4294967296 * 4294967296 + a % 4294967296:=om;have e2:b=b / 4294967296 * 4294967296 + b % 4294967296:=om;generalize a / 4294967296=x at *;generalize a % 4294967296=y at *;generalize b / 4294967296=u at *;generalize b % 4294967296=v at *;subst e1;subst e2;rw [Nat.add_mul,d₁,d₁,Nat.add_mul];have h1:x * 4294967296 * (u * 4294967296)=x * u * 18446744073709551616:=by rw [Nat.mul_mul_mul_comm]
  have h2:x * 4294967296 * v=x * v * 4294967296:=by rw [Nat.mul_right_comm]
  have h3:y * (u * 4294967296)=y * u * 4294967296:=by rw [Nat.mul_assoc]
  rw [h1,h2,h3];omega
 ·rw [b₇ om];have:=Nat.mul_le_mul (show a≤18446744073709551615 by omega) (show b≤18446744073709551615 by omega);omega
theorem F7 (a b:Nat) (ha:bl a) (hb:bl b):aD Tryz.prog G 221 [.int .u64 a, .int .u64 b] (.tup [.int .u64 (a * b / 18446744073709551616:Nat), .int .u64 (a * b % 18446744073709551616:Nat)]):=by
 obtain⟨w,p,q,r,hw,hp,hq,hr,bw,bp,bq,br,hab,hhi⟩:=CF a b ha hb;unfold bl at ha hb;have mk: ∀x y z:Nat,x * y=z→z < 18446744065119617026→IntKind.u64.wrap ((x:Int) * (y:Int))=(z:Int):=fun x y z h hz=>by
  rw [← d₅,h];exact bu _ om om
 have m1:=aX.mk (mk _ _ _ hw bw);have m2:=aX.mk (mk _ _ _ hp bp);have m3:=aX.mk (mk _ _ _ hq bq);have m4:=aX.mk (mk _ _ _ hr br);have s1:=aX.mk (gV a);have s2:=aX.mk (gV b);have s3:=aX.mk (gV p);have s4:=aX.mk (gV q);have s5:=aX.mk (gV r);have l1:=aX.mk (ic (m:=a) ha);have l2:=aX.mk (ic (m:=b) hb);have l3:=aX.mk (ic (m:=p) om);have l4:=aX.mk (ic (m:=q) om);have l5:=aX.mk (ic (m:=r) om);clear hw hp hq hr mk;generalize a * b=n at *;subst hab;have hm:p / 4294967296 + q % 4294967296 + r % 4294967296 < 18446744073709551616:=om;have a1:=aX.mk (show IntKind.u64.wrap (((p / 4294967296:Nat):Int) + ((q % 4294967296:Nat):Int))=((p / 4294967296 + q % 4294967296:Nat):Int) from bu _ om om);have a2:=aX.mk (show IntKind.u64.wrap (((p / 4294967296 + q % 4294967296:Nat):Int) + ((r % 4294967296:Nat):Int))=((p / 4294967296 + q % 4294967296 + r % 4294967296:Nat):Int) from bu _ om om);have s6:=aX.mk (gV (p / 4294967296 + q % 4294967296 + r % 4294967296));have s7:=aX.mk (ND (p / 4294967296 + q % 4294967296 + r % 4294967296));have o1:=aX.mk (NC (h:=(p / 4294967296 + q % 4294967296 + r % 4294967296) % 4294967296) (l:=p % 4294967296) om om);refine bf seat Tryz.func221 56 ?_;refine ad ?_;(iterate 4 ((all_goals(refine ad ?_));(all_goals(first | ((first | refine ah rfl rfl ?_ rfl ?_ | refine ae rfl ?_ ?_);all_goals(intro h;(try simp only [pl] at h);(try (exfalso;omega)))) | skip))));all_goals(refine aw ?_)
 refine congrArg MV.tup ?_;refine d₀.2 ⟨congrArg (MV.int .u64) ?_,d₀.2 ⟨congrArg (MV.int .u64) ?_,rfl⟩⟩
 ·omega
 ·omega
theorem O5 (m:Nat):((m:Int).fdiv (2 ^ (min (63:Int).toNat IntKind.u64.bits)))=((m / 9223372036854775808:Nat):Int):=by
 rw [show min (63:Int).toNat IntKind.u64.bits=63 by rfl,b₂ _ (by decide)];exact(c₁ m 9223372036854775808).symm
theorem O6 (m:Nat) {i:Nat} (hi:i < 64):((m:Int).fdiv (2 ^ (min (i:Int).toNat IntKind.u64.bits)))=((m / 2 ^ i:Nat):Int):=by
 rw [show min (i:Int).toNat IntKind.u64.bits=i by rw [c₉];exact Nat.min_eq_left (Nat.le_of_lt hi),b₂ _ (by exact Int.le_of_lt (Int.pow_pos (by decide)))];rw [c₁,Int.natCast_pow];rfl
theorem P5 {m:Nat} (hm:m < 18446744073709551616):IntKind.u64.wrap ((BitVec.ofInt IntKind.u64.bits (m:Int) &&& BitVec.ofInt IntKind.u64.bits (1:Int)).toNat:Int)=((m % 2:Nat):Int):=by
 have e:=b₈ m 1;rw [BitVec.toNat_and,eD _ _ (show m < 2 ^ IntKind.u64.bits from hm),show (1:Int)=((1:Nat):Int) by rfl,eD _ _ (show 1 < 2 ^ IntKind.u64.bits by decide),show (1:Nat)=2 ^ 1 - 1 by rfl,e,wu64];omega
theorem Eg (m:Nat):IntKind.u64.wrap ((m:Int) * 2 ^ (min (1:Int).toNat IntKind.u64.bits))=((2 * m % 18446744073709551616:Nat):Int):=by
 rw [show min (1:Int).toNat IntKind.u64.bits=1 by rfl,wu64];omega
theorem Ix {m b:Nat} (hm:m % 2=0) (hb:b < 2) (h:m < 18446744073709551616):IntKind.u64.wrap ((BitVec.ofInt IntKind.u64.bits (m:Int) ||| BitVec.ofInt IntKind.u64.bits (b:Int)).toNat:Int)=((m + b:Nat):Int):=by
 have e:m ||| b=m + b:=by
  have:=b₉ (i:=1) hb (m / 2);rw [d₃,show m / 2 * 2 ^ 1=m by omega] at this;exact this.symm
 rw [BitVec.toNat_or,eD _ _ (show m < 2 ^ IntKind.u64.bits from h),eD _ _ (show b < 2 ^ IntKind.u64.bits by show _ < 18446744073709551616;omega),e,wu64];omega
theorem NF {m:Nat} (hm:m % 2=0) (h:m < 18446744073709551616):IntKind.u64.wrap ((BitVec.ofInt IntKind.u64.bits (m:Int) ||| BitVec.ofInt IntKind.u64.bits (1:Int)).toNat:Int)=((m + 1:Nat):Int):=Ix (b:=1) hm om h
theorem LD {N c i out rest bit:Nat} (hb:N / 2 ^ i % 2=bit) (h:N / 2 ^ (i + 1)=c * out + rest):N / 2 ^ i=c * (2 * out) + (2 * rest + bit):=by
 have e:N / 2 ^ (i + 1)=N / 2 ^ i / 2:=by rw [Nat.pow_succ,Nat.div_div_eq_div_mul]
 rw [e] at h;rw [show c * (2 * out)=2 * (c * out) by rw [Nat.mul_left_comm]];omega
theorem LF (N:Nat) {i:Nat} (hi:i < 64):N % 18446744073709551616 / 2 ^ i % 2=N / 2 ^ i % 2:=by
 have h1:=Nat.testBit_mod_two_pow N 64 i;rw [b₆,b₆,decide_eq_true hi,b₁,decide_eq_decide] at h1;have e:(2:Nat) ^ 64=18446744073709551616:=by rfl
 rw [e] at h1;omega
theorem Iy (a b c:Nat) (ha:bl a) (hb:bl b) (hc:bl c):aD Tryz.prog G 176 [.int .u64 a, .int .u64 b, .int .u64 c] (.tup [.int .u64 (ez a b c).1, .bool (ez a b c).2]):=by
 have c1:=F7 (G:=G) a b ha hb;obtain⟨_,_,_,_,_,_,_,_,_,_,_,_,_,hhi⟩:=CF a b ha hb;unfold bl at ha hb hc;generalize hr:ez a b c=r;obtain⟨R,okk⟩:=r;dsimp only;unfold ez at hr;have hlow:=fun i hi=>LF (a * b) (i:=i) hi
 have hlt:(a * b) % 18446744073709551616 < 18446744073709551616:=Nat.mod_lt _ om;by_cases h0:c=0∨c≤a * b / 18446744073709551616
 ·rw [if_pos h0] at hr;simp only [a₀] at hr;obtain⟨rfl,rfl⟩:=hr;generalize a * b / 18446744073709551616=hi at *;refine bf seat Tryz.func176 54 ?_;refine ad ?_;(iterate 6 ((all_goals(refine ad ?_));(all_goals(first | (refine ai rfl (fun _ h=>h) rfl (aa (c1)) rfl rfl ?_) | ((first | refine ah rfl rfl ?_ rfl ?_ | refine ae rfl ?_ ?_);all_goals(intro h;(try simp only [pl] at h);(try (exfalso;omega)))) | skip))));all_goals(refine aw ?_)
  all_goals rfl
 ·rw [if_neg h0] at hr;simp only [a₀] at hr;obtain⟨rfl,rfl⟩:=hr;have hbig:a * b < 18446744073709551616 * c:=by rw [c₆ 18446744073709551616 c];exact(b₇ om).1 om
  generalize a * b=N at *;generalize hhi':N / 18446744073709551616=hi at *;generalize N % 18446744073709551616=low at *;have hi0:N / 2 ^ 64=c * 0 + hi:=by rw [Nat.mul_zero,a₄];exact hhi'
  have hc0:0 < c:=om;refine bf seat Tryz.func176 54 ?_;refine ad ?_;(iterate 6 ((all_goals(refine ad ?_));(all_goals(first | (refine ai rfl (fun _ h=>h) rfl (aa (c1)) rfl rfl ?_) | ((first | refine ah rfl rfl ?_ rfl ?_ | refine ae rfl ?_ ?_);all_goals(intro h;(try simp only [pl] at h);(try (exfalso;omega)))) | skip))));refine ar (Nat×Nat×Nat) (fun x=> [(11, .int .i64 ((x.1:Int) - 1)),(10, .int .u64 x.2.2),(9, .int .u64 low),(8, .int .u64 x.2.1),(2, .int .u64 c)]) (fun _=> []) 0 (fun x=>x.1≤64∧x.2.1 < c∧N / 2 ^ x.1=c * x.2.2 + x.2.1) (fun x=>x.1) (64,hi,0) ⟨dm,dm,hi0⟩ (by dsimp only;exact(vm [] [])) ?_;rintro⟨j,rest,out⟩ ⟨hj,hrest,hq⟩;try dsimp only
  dsimp only at hj hrest hq;cases j with
  | zero=>
   rw [Nat.pow_zero,Nat.div_one] at hq;have hout:N / c=out:=by rw [hq,Nat.mul_add_div hc0,Nat.div_eq_of_lt hrest,Nat.add_zero]
   rw [hout];refine ad ?_;(iterate 4 ((all_goals(refine ad ?_));(all_goals(first | ((first | refine ah rfl rfl ?_ rfl ?_ | refine ae rfl ?_ ?_);all_goals(intro h;(try simp only [pl] at h);(try (exfalso;omega)))) | skip))));all_goals(refine aw ?_)
   all_goals rfl
  | succ i=>
   have hi6:i < 64:=om;have hcast:((i + 1:Nat):Int) - 1=(i:Int):=om;rw [hcast];obtain⟨bit,hbit⟩: ∃bit,bit=low / 2 ^ i % 2:=⟨_,rfl⟩
   have hb2:bit < 2:=om;have hstep:=LD (bit:=bit) (by rw [hbit];exact(hlow i hi6).symm) hq;have hsm:low / 2 ^ i < 18446744073709551616:=c₇ (c₂ _ _) hlt;have e1:=aX.mk (O5 rest);have e2:=aX.mk (Eg rest);have e3:=aX.mk (O6 low hi6);have e4:=aX.mk (P5 hsm);rw [← hbit] at e4;have e5:=aX.mk (Ix (m:=2 * rest % 18446744073709551616) om hb2 om);have e6:=aX.mk (Eg out);have hcap: ∀o r,N / 2 ^ i=c * o + r→o < 18446744073709551616:=fun o r h=>by
    have h1:N / 2 ^ i≤N:=c₂ _ _;refine Nat.lt_of_mul_lt_mul_left (a:=c) ?_;rw [c₆ c 18446744073709551616];omega
   have ho:=hcap _ _ hstep;by_cases hge:c≤2 * rest + bit
   ·have h2:N / 2 ^ i=c * (2 * out + 1) + (2 * rest + bit - c):=by rw [hstep,d₁,Nat.mul_one];omega
    have ho2:=hcap _ _ h2;have e7:=aX.mk (show IntKind.u64.wrap (((2 * rest % 18446744073709551616 + bit:Nat):Int) - (c:Int))=((2 * rest + bit - c:Nat):Int) by rw [wu64];omega);have e8:=aX.mk (NF (m:=2 * out % 18446744073709551616) om om);have e9:2 * out % 18446744073709551616 + 1=2 * out + 1:=om;rw [e9] at e8;have hlt2:2 * rest + bit - c < c:=om;clear hlow hbit hstep hcap hq;generalize 2 * rest + bit - c=r2 at *;generalize 2 * out + 1=o2 at *;refine ad ?_;(iterate 6 ((all_goals(refine ad ?_));(all_goals(first | ((first | refine ah rfl rfl ?_ rfl ?_ | refine ae rfl ?_ ?_);all_goals(intro h;(try simp only [pl] at h);(try (exfalso;omega)))) | skip))));all_goals(exact⟨(i,r2,o2),⟨by dsimp only;omega,hlt2,h2⟩,by dsimp only;omega,(by dsimp only;exact(vm [] []))⟩)
   ·have e9:2 * out % 18446744073709551616=2 * out:=om;rw [e9] at e6;have e10:2 * rest % 18446744073709551616 + bit=2 * rest + bit:=om;rw [e10] at e5;clear hlow hbit hcap hq;refine ad ?_;(iterate 6 ((all_goals(refine ad ?_));(all_goals(first | ((first | refine ah rfl rfl ?_ rfl ?_ | refine ae rfl ?_ ?_);all_goals(intro h;(try simp only [pl] at h);(try (exfalso;omega)))) | skip))));all_goals(exact⟨(i,2 * rest + bit,2 * out),⟨by dsimp only;omega,by dsimp only;omega,hstep⟩,by dsimp only;omega,(by dsimp only;exact(vm [] []))⟩)
def pD (fee gas:Nat):Nat:=if gas=0 then 0 else if (ez fee 1000 gas).2 then(ez fee 1000 gas).1 else 18446744073709551615
end
section
variable {G:GS}
attribute [local irreducible] aj aC aG aM aQ vC aY aA
theorem O7 (l:List Nat) (hl:l.length≤1000000) (hs: ∀a∈l,bl a):aD Tryz.prog G 177 [.sl l.length (eR l)] (.tup [.int .u64 (sumG l 0).1, .bool (sumG l 0).2]):=by
 generalize hr:sumG l 0=r;obtain⟨R,okk⟩:=r;dsimp only;refine bf seat Tryz.func177 26 ?_;refine ad ?_;refine ar (Nat×Nat) (fun x=> [(11, .int .i64 x.1),(10, .int .i64 l.length),(9, .sl l.length (eR l)),(4, .int .u64 x.2)]) (fun _=> []) 0 (fun x=>x.1≤l.length∧bl x.2∧sumG (l.drop x.1) x.2=(R,okk)) (fun x=>l.length - x.1) (0,0) ⟨a₆ _,by unfold bl;omega,by rw [a₅];exact hr⟩ (by dsimp only;exact(vm [] [])) ?_;rintro⟨k,s⟩ ⟨hk,hsU,hR⟩;try dsimp only
 dsimp only at hk hsU hR;refine ad ?_;refine ae rfl ?_ ?_ <;> intro h
 ·have hk':k < l.length:=by have:=ot h;omega
  have hel:=Ef hk';have hb:=hs _ (b₀ hk');rw [a₁ hk',sumG] at hR;generalize l[k] =a at *;have hel:=al.mk hel;have c1:=MP (G:=G) s a hsU hb;have hU:= @ud s a;generalize iD s a=p at *;obtain⟨v,b⟩:=p;dsimp only at c1 hR hU;cases b with
  | true=>
   rw [if_pos rfl] at hR;refine ad ?_;(iterate 6 ((all_goals(refine ad ?_));(all_goals(first | (refine ai rfl (fun _ h=>h) rfl (aa (c1)) rfl rfl ?_) | ((first | refine ah rfl rfl ?_ rfl ?_ | refine ae rfl ?_ ?_);all_goals(intro h;(try simp only [pl] at h);(try (exfalso;omega)))) | skip))));exact⟨(k + 1,v),⟨by show k + 1≤l.length;omega,hU,hR⟩,by show l.length - (k + 1) < l.length - k;omega,(by dsimp only;exact(vm [] []))⟩
  | false=>
   rw [if_neg sm] at hR;simp only [a₀] at hR;obtain⟨rfl,rfl⟩:=hR;refine ad ?_;(iterate 6 ((all_goals(refine ad ?_));(all_goals(first | (refine ai rfl (fun _ h=>h) rfl (aa (c1)) rfl rfl ?_) | ((first | refine ah rfl rfl ?_ rfl ?_ | refine ae rfl ?_ ?_);all_goals(intro h;(try simp only [pl] at h);(try (exfalso;omega)))) | skip))));all_goals(refine aw ?_)
   all_goals rfl
 ·have hk':k=l.length:=by have:=oF h;omega
  subst hk';rw [a₂,sumG] at hR;simp only [a₀] at hR;obtain⟨rfl,rfl⟩:=hR;refine ad ?_;refine aw ?_;rfl
theorem NG (fee gas:Nat) (h1:bl fee) (h2:bl gas):aD Tryz.prog G 149 [.int .u64 fee, .int .u64 gas] (.int .u64 (pD fee gas)):=by
 have c1:=Iy (G:=G) fee 1000 gas h1 (by unfold bl;omega) h2;unfold pD;generalize ez fee 1000 gas=p at *;obtain⟨v,b⟩:=p;dsimp only at c1 ⊢;by_cases hg:gas=0
 ·subst hg;rw [if_pos rfl];refine bf seat Tryz.func149 17 ?_;refine ad ?_;(iterate 6 ((all_goals(refine ad ?_));(all_goals(first | (refine ai rfl (fun _ h=>h) rfl (aa (c1)) rfl rfl ?_) | ((first | refine ah rfl rfl ?_ rfl ?_ | refine ae rfl ?_ ?_);all_goals(intro h;(try simp only [pl] at h);(try (exfalso;omega)))) | skip))));all_goals(refine aw ?_)
  all_goals rfl
 ·rw [if_neg hg];cases b with
  | true=>
   rw [if_pos rfl];refine bf seat Tryz.func149 17 ?_;refine ad ?_;(iterate 6 ((all_goals(refine ad ?_));(all_goals(first | (refine ai rfl (fun _ h=>h) rfl (aa (c1)) rfl rfl ?_) | ((first | refine ah rfl rfl ?_ rfl ?_ | refine ae rfl ?_ ?_);all_goals(intro h;(try simp only [pl] at h);(try (exfalso;omega)))) | skip))));all_goals(refine aw ?_)
   all_goals rfl
  | false=>
   rw [if_neg sm];refine bf seat Tryz.func149 17 ?_;refine ad ?_;(iterate 6 ((all_goals(refine ad ?_));(all_goals(first | (refine ai rfl (fun _ h=>h) rfl (aa (c1)) rfl rfl ?_) | ((first | refine ah rfl rfl ?_ rfl ?_ | refine ae rfl ?_ ?_);all_goals(intro h;(try simp only [pl] at h);(try (exfalso;omega)))) | skip))));all_goals(refine aw ?_)
   all_goals rfl
theorem NH (a b:Nat) (ha:bl a) (hb:bl b):aD Tryz.prog G 175 [.int .u64 a, .int .u64 b] (.tup [.int .u64 (jy a b).1, .bool (jy a b).2]):=by
 have c1:=O4 (G:=G) a b ha hb;generalize jy a b=p at *;obtain⟨v,b⟩:=p;dsimp only at c1 ⊢;refine bf seat Tryz.func175 11 ?_;refine ad ?_;(iterate 6 ((all_goals(refine ad ?_));(all_goals(first | (refine ai rfl (fun _ h=>h) rfl (aa (c1)) rfl rfl ?_) | ((first | refine ah rfl rfl ?_ rfl ?_ | refine ae rfl ?_ ?_);all_goals(intro h;(try simp only [pl] at h);(try (exfalso;omega)))) | skip))));all_goals(refine aw ?_)
 all_goals rfl
theorem F8 (n:Nat) (hn:bl n):aD Tryz.prog G 107 [.int .u64 n] (.int .i64 (bZ n).length):=by
 have c1:=Ao (G:=G) [] n sm hn;rw [b₃,List.length_nil,a₄] at c1;refine bf seat Tryz.func107 6 ?_;refine ad ?_;refine yc (c1) [] ?_;refine ad ?_;refine aw ?_;rfl
def iE (n:Nat):Nat:=1 + (bZ n).length + n
theorem LG (n:Nat) (hn:n < 4611686018427387904):aD Tryz.prog G 57 [.int .i64 n] (.int .i64 (iE n)):=by
 have c1:=F8 (G:=G) n (by unfold bl;omega);have h2:=(dv (n:=n) om).2;unfold iE;generalize (bZ n).length=v at *;have hw:=aX.mk (show IntKind.u64.wrap (n:Int)=(n:Int) from bu _ om om);refine bf seat Tryz.func57 11 ?_;refine ad ?_;(iterate 6 ((all_goals(refine ad ?_));(all_goals(first | (refine ai rfl (fun _ h=>h) rfl (aa (c1)) rfl rfl ?_) | ((first | refine ah rfl rfl ?_ rfl ?_ | refine ae rfl ?_ ?_);all_goals(intro h;(try simp only [pl] at h);(try (exfalso;omega)))) | skip))));all_goals(refine aw ?_)
 all_goals(refine congrArg (MV.int .i64) ?_;omega)
theorem Iz (l:List Int) (n:Int) (hl:l.length < 1000000000):aD Tryz.prog G 108 [bS l, .int .i64 n] (.bool (decide (n∈l))):=by
 generalize hr:decide (n∈l)=R;unfold bS;refine bf seat Tryz.func108 17 ?_;refine ad ?_;refine ar Nat (fun k=> [(9, .int .i64 k),(8, .int .i64 l.length),(7, .sl l.length (l.map (MV.int .i64))),(1, .int .i64 n)]) (fun _=> []) 0 (fun k=>k≤l.length∧decide (n∈l.drop k)=R) (fun k=>l.length - k) 0 ⟨a₆ _,by rw [a₅];exact hr⟩ (vm [] []) ?_;rintro k ⟨hk,hR⟩;try dsimp only
 refine ad ?_;refine ae rfl ?_ ?_ <;> intro h
 ·have hk':k < l.length:=by have:=ot h;omega
  have hel:=po hk';rw [a₁ hk'] at hR;generalize l[k] =a at *;have hel:=al.mk hel;by_cases he:a=n
  ·subst he;have:R=true:=by rw [← hR];simp
   subst this;refine eV ?_;refine aw ?_;rfl
  ·have hR2:decide (n∈l.drop (k + 1))=R:=by rw [← hR];simp [Ne.symm he]
   refine ad ?_;refine ae rfl ?_ ?_ <;> intro h
   ·exact absurd (eq_of_beq h) he
   ·refine ad ?_;exact⟨k + 1,⟨by show k + 1≤l.length;omega,hR2⟩,by show l.length - (k + 1) < l.length - k;omega,(by dsimp only;exact(vm [] []))⟩
 ·have hk':k=l.length:=by have:=oF h;omega
  subst hk';rw [a₂] at hR;have:R=false:=by rw [← hR];simp
  subst this;refine ad ?_;refine aw ?_;rfl
def Eh (l:List (List UInt8)):MV:= .sl l.length (l.map Cy)
theorem AB (a b:List (List UInt8)) (ha:a.length < 1000000000) (hb:b.length < 1000000000):aD Tryz.prog G 68 [Eh a,Eh b] (.bool (decide (a=b))):=by
 generalize hr:decide (a=b)=R;unfold Eh;by_cases hlen:a.length=b.length
 ·refine bf seat Tryz.func68 27 ?_;refine ad ?_;(iterate 2 ((all_goals(refine ad ?_));(all_goals(first | ((first | refine ah rfl rfl ?_ rfl ?_ | refine ae rfl ?_ ?_);all_goals(intro h;(try simp only [pl] at h);(try (exfalso;omega)))) | skip))));refine ar Nat (fun k=> [(13, .int .i64 k),(12, .int .i64 a.length),(1, .sl b.length (b.map Cy)),(0, .sl a.length (a.map Cy))]) (fun _=> []) 0 (fun k=>k≤a.length∧decide (a.drop k=b.drop k)=R) (fun k=>a.length - k) 0 ⟨a₆ _,by rw [a₅,a₅];exact hr⟩ (vm [] []) ?_;rintro k ⟨hk,hR⟩;try dsimp only
  refine ad ?_;refine ae rfl ?_ ?_ <;> intro h
  ·have hk':k < a.length:=by have:=ot h;omega
   have hk2:k < b.length:=om;have h1:=Ed hk';have h2:=Ed hk2;rw [a₁ hk',a₁ hk2] at hR;generalize a[k] =x at *;generalize b[k] =y at *;have h1:db (a.map Cy) a.length (k:Int)=some (.sl x.length (u8s x)):=h1;have h2:db (b.map Cy) b.length (k:Int)=some (.sl y.length (u8s y)):=h2;have h1:=al.mk h1;have h2:=al.mk h2;have c1:=yf (G:=G) x y;refine ad ?_;refine av [ag 0,ag 1,ag 2,ag 3,ag 4,ag 5,ag 6,ag 7,da 8,ag 9] ?_;refine ad ?_;refine OS (c1) ?_;have hxy:(x == y)=true↔x=y:=sm;generalize (x == y)=e at *;cases e with
   | true=>
    have hxy:=hxy.1 rfl;subst hxy;have hR2:decide (a.drop (k + 1)=b.drop (k + 1))=R:=by rw [← hR];simp
    refine ad ?_;exact⟨k + 1,⟨by show k + 1≤a.length;omega,hR2⟩,by show a.length - (k + 1) < a.length - k;omega,(by dsimp only;exact(vm [] []))⟩
   | false=>
    have:R=false:=by rw [← hR];simp;exact fun e=>absurd (hxy.2 e) sm
    subst this;refine ad ?_;refine aw ?_;rfl
  ·have hk':k=a.length:=by have:=oF h;omega
   have:R=true:=by rw [← hR,hk',a₂,hlen,a₂];simp
   subst this;refine ad ?_;refine aw ?_;rfl
 ·have:R=false:=by rw [← hr];simp;exact fun e=>hlen (by rw [e])
  subst this;refine bf seat Tryz.func68 27 ?_;refine ad ?_;(iterate 2 ((all_goals(refine ad ?_));(all_goals(first | ((first | refine ah rfl rfl ?_ rfl ?_ | refine ae rfl ?_ ?_);all_goals(intro h;(try simp only [pl] at h);(try (exfalso;omega)))) | skip))));all_goals(refine aw ?_)
  all_goals rfl
end
end Go.Proofs.YthdhlcicpcnbhaaGreatDoor
