/- Parts of a proof, one behind the other: D3, D4, D5, D6, D7, F1, F2, F3, F4, G1, G2. -/
import Derived.Test.YthdhlcicpcnbhaaGreatDoorW04
open Prod.mk renaming injEq → a₀
open List renaming drop_eq_getElem_cons → a₁,drop_length → a₂,drop_zero → a₅,length_singleton → a₈,length_append → a₉,getElem_mem → b₀,nil_append → b₃,getElem?_eq_some_iff → c₀,getElem_cons_zero → c₄,mem_singleton → c₅,cons_eq_cons → d₀,all_append → d₄,length_set → d₆
open And renaming intro → a₃
open Nat renaming zero_add → a₄,zero_le → a₆,lt_or_ge → b₄,testBit_eq_decide_div_mod_eq → b₆,div_lt_iff_lt_mul → b₇,and_two_pow_sub_one_eq_mod → b₈,shiftLeft_add_eq_or_of_lt → b₉,div_le_self → c₂,le_refl → c₃,mul_comm → c₆,lt_of_le_of_lt → c₇,le_of_eq → c₈,mul_add → d₁,shiftLeft_eq → d₃
open Bool renaming false_eq_true → a₇,true_and → b₁,false_and → b₅,and_eq_true → d₂
open Int renaming fdiv_eq_ediv_of_nonneg → b₂,natCast_ediv → c₁,toNat_natCast → c₉,natCast_mul → d₅
set_option maxRecDepth 20000
set_option maxHeartbeats 16000000
set_option linter.unusedVariables false
set_option linter.unusedSimpArgs false
namespace Go.Proofs.YthdhlcicpcnbhaaGreatDoor
open Go.RowKit
section
mutual
theorem gF {σ:Nat→Option Nat} {fz:Fz}: ∀(m:MV),m.idFree=true→cN σ fz m m
 | .st l,h=> .inl ⟨rfl,h⟩
 | .fn f l,h=> .inl ⟨rfl,h⟩
 | .ifc t v,h=> .inl ⟨rfl,h⟩
 | .sl ..,_=> .inl rfl
 | .ep ..,_=> .inl rfl
 | .ptr ..,h=>by cases h
 | .ms ..,h=>by cases h
 | .tup ..,h=>by cases h
 | .undef,h=>by cases h
 | .int ..,_=>⟨rfl,rfl⟩
 | .bool ..,_=>⟨rfl,rfl⟩
 | .str ..,_=>⟨rfl,rfl⟩
 | .nilp,_=>⟨rfl,rfl⟩
 | .gp ..,_=>⟨rfl,rfl⟩
 | .nils,_=>⟨rfl,rfl⟩
 | .nilf,_=>⟨rfl,rfl⟩
 | .nili,_=>⟨rfl,rfl⟩
 | .arr ..,_=>⟨rfl,rfl⟩
theorem dv {σ:Nat→Option Nat} {fz:Fz}: ∀(l:List MV),MV.idFrees l=true→cN.relVs σ fz l l
 | [],_=>trivial
 | m :: l,h=>by
  simp only [MV.idFrees,d₂] at h
  exact⟨gF m h.1,dv l h.2⟩
end
section
variable {Pg:Program} {T:bf} {N:Nat} {ents:List FuncId} {G:GS} {ops:Array Oper} {d:Tmp} {ty:TypeId} {pos:String} {after:Array Edge} {g:Option (Nat×Bool)} {rest:List Oper} {K:VK} {E:VE} {M:VM} {n:Nat} {f:Operand} {args:Array Operand} {ats:Array TypeId} {f0:FuncId} {vs:List MV} {res:MV}
theorem ai (hd:Nat.blt d N=true) (h1: ∀R:FuncId×List MV→Prop,R (f0,vs)→(dt E f args.toList).runP R) (h2:ents.contains f0=true) (hc:aH Pg G f0 vs [] 0 res [] 0) (hf:dH res=true) (hi:MV.idFrees vs=true)
  (h:aj Pg T N ents G ops rest K ((d,res) :: E) M n):aC Pg T N ents G ops ⟨some d, .call ⟨.value f,args,ats⟩,ty,pos,after,g⟩ rest K E M n:=
 rT hd h1 h2 hc hf (dv vs hi) h
end
variable {G:GS}
attribute [local irreducible] aj aC aG aL aO vC aU au
def dY (s:List UInt8) (i:Nat):Bool:=decide (i < s.length) && (decide (128≤(s.getD i 0).toNat) && decide ((s.getD i 0).toNat < 192))
theorem o7 {s:List UInt8} {i:Nat} (h:i < s.length):EH s (i:Int)=some (s.getD i 0):=by
 unfold EH;rw [if_pos om];simp [h]
theorem KY {s:List UInt8} {j:Int} (i:Nat) (hj:j=i) (h:i < s.length):EH s j=some (s.getD i 0):=by
 subst hj;exact o7 h
theorem tO (s:List UInt8) (i:Nat) (hs:s.length < 1000000000):aD Tryz.prog G 229 [.str s, .int .i64 i] (.bool (dY s i)):=by
 unfold dY;by_cases hi:i < s.length
 ·have f1:=al.mk (o7 hi);generalize s.getD i 0=c at *;rw [decide_eq_true hi,b₁];by_cases h1:128≤c.toNat
  ·rw [decide_eq_true h1,b₁];refine aZ seat Tryz.func229 21 ?_;(iterate 3 ((all_goals(refine ae ?_));(all_goals(first | ((first | refine ah rfl rfl ?_ rfl ?_ | refine ad rfl ?_ ?_);all_goals(intro h;(try simp only [pl] at h);(try (exfalso;omega)))) | skip))));all_goals first | (exfalso;omega) | (refine av ?_;first | rfl | exact congrArg MV.bool (decide_eq_decide.2 (by omega)))
  ·rw [decide_eq_false h1,b₅];refine aZ seat Tryz.func229 21 ?_;(iterate 3 ((all_goals(refine ae ?_));(all_goals(first | ((first | refine ah rfl rfl ?_ rfl ?_ | refine ad rfl ?_ ?_);all_goals(intro h;(try simp only [pl] at h);(try (exfalso;omega)))) | skip))));all_goals first | (exfalso;omega) | (refine av ?_;first | rfl | exact congrArg MV.bool (decide_eq_decide.2 (by omega)))
 ·rw [decide_eq_false hi,b₅];refine aZ seat Tryz.func229 21 ?_;(iterate 3 ((all_goals(refine ae ?_));(all_goals(first | ((first | refine ah rfl rfl ?_ rfl ?_ | refine ad rfl ?_ ?_);all_goals(intro h;(try simp only [pl] at h);(try (exfalso;omega)))) | skip))));all_goals first | (exfalso;omega) | (refine av ?_;first | rfl | exact congrArg MV.bool (decide_eq_decide.2 (by omega)))
def mc (s:List UInt8) (i:Nat):Nat:=
 if (s.getD i 0).toNat < 128 then 1 else
 if 194≤(s.getD i 0).toNat∧(s.getD i 0).toNat < 224∧dY s (i + 1)=true then 2 else
 if 224≤(s.getD i 0).toNat∧(s.getD i 0).toNat < 240∧dY s (i + 1)=true∧dY s (i + 2)=true then
  (if (s.getD i 0).toNat=224∧(s.getD (i + 1) 0).toNat < 160∨(s.getD i 0).toNat=237∧160≤(s.getD (i + 1) 0).toNat then 0 else 3) else
 if 240≤(s.getD i 0).toNat∧(s.getD i 0).toNat < 245∧dY s (i + 1)=true∧dY s (i + 2)=true∧dY s (i + 3)=true then
  (if (s.getD i 0).toNat=240∧(s.getD (i + 1) 0).toNat < 144∨(s.getD i 0).toNat=244∧144≤(s.getD (i + 1) 0).toNat then 0 else 4) else 0
theorem Ck {s:List UInt8} {i:Nat} (h:dY s i=true):i < s.length:=by
 unfold dY at h;rw [d₂] at h;exact ot h.1
theorem MM (s:List UInt8) (i:Nat) (hs:s.length < 1000000000) (hi:i < s.length):aD Tryz.prog G 189 [.str s, .int .i64 i] (.int .i64 (mc s i)):=by
 have f0:=al.mk (o7 hi);have c1:aD Tryz.prog G 229 [.str s, .int .i64 ((i:Int) + 1)] _:=tO s (i + 1) hs;have c2:aD Tryz.prog G 229 [.str s, .int .i64 ((i:Int) + 2)] _:=tO s (i + 2) hs;have c3:aD Tryz.prog G 229 [.str s, .int .i64 ((i:Int) + 3)] _:=tO s (i + 3) hs;generalize hr:mc s i=r;unfold mc at hr;have l1:=Ck (s:=s) (i:=i + 1);have f1:i + 1 < s.length→EH s ((i:Int) + 1)=some (s.getD (i + 1) 0):=fun h=>KY (i + 1) om h
 generalize s.getD i 0=x at *;generalize s.getD (i + 1) 0=y at *;generalize dY s (i + 1)=b1 at *;generalize dY s (i + 2)=b2 at *;generalize dY s (i + 3)=b3 at *;rcases b₄ x.toNat 128 with g1 | g1
 ·
  clear l1 f1;refine aZ seat Tryz.func189 109 ?_;(iterate 12 ((all_goals(refine ae ?_));(all_goals(first | (refine ai rfl (fun _ h=>h) rfl (aa (c1)) rfl rfl ?_) | (refine ai rfl (fun _ h=>h) rfl (aa (c2)) rfl rfl ?_) | (refine ai rfl (fun _ h=>h) rfl (aa (c3)) rfl rfl ?_) | ((first | refine ah rfl rfl ?_ rfl ?_ | refine ad rfl ?_ ?_);all_goals(intro h;(try simp only [pl] at h);(try (exfalso;omega)))) | skip))));refine av ?_;exact congrArg (MV.int .i64) (by subst hr;(repeat(first | rw [if_pos (by omega)] | rw [if_neg (by omega)]));first | rfl | omega)
 rcases b₄ x.toNat 194 with g2 | g2
 ·
  clear l1 f1;refine aZ seat Tryz.func189 109 ?_;(iterate 12 ((all_goals(refine ae ?_));(all_goals(first | (refine ai rfl (fun _ h=>h) rfl (aa (c1)) rfl rfl ?_) | (refine ai rfl (fun _ h=>h) rfl (aa (c2)) rfl rfl ?_) | (refine ai rfl (fun _ h=>h) rfl (aa (c3)) rfl rfl ?_) | ((first | refine ah rfl rfl ?_ rfl ?_ | refine ad rfl ?_ ?_);all_goals(intro h;(try simp only [pl] at h);(try (exfalso;omega)))) | skip))));refine av ?_;exact congrArg (MV.int .i64) (by subst hr;(repeat(first | rw [if_pos (by omega)] | rw [if_neg (by omega)]));first | rfl | omega)
 rcases b₄ x.toNat 224 with g3 | g3
 ·cases b1 with
  | false=>
   simp only [a₇,and_false,and_true,false_and,true_and,if_false] at hr;clear l1 f1;refine aZ seat Tryz.func189 109 ?_;(iterate 12 ((all_goals(refine ae ?_));(all_goals(first | (refine ai rfl (fun _ h=>h) rfl (aa (c1)) rfl rfl ?_) | (refine ai rfl (fun _ h=>h) rfl (aa (c2)) rfl rfl ?_) | (refine ai rfl (fun _ h=>h) rfl (aa (c3)) rfl rfl ?_) | ((first | refine ah rfl rfl ?_ rfl ?_ | refine ad rfl ?_ ?_);all_goals(intro h;(try simp only [pl] at h);(try (exfalso;omega)))) | skip))));refine av ?_;exact congrArg (MV.int .i64) (by subst hr;(repeat(first | rw [if_pos (by omega)] | rw [if_neg (by omega)]));first | rfl | omega)
  | true=>
   rw [if_neg om,if_pos ⟨om,om,rfl⟩] at hr;clear l1 f1;refine aZ seat Tryz.func189 109 ?_;(iterate 12 ((all_goals(refine ae ?_));(all_goals(first | (refine ai rfl (fun _ h=>h) rfl (aa (c1)) rfl rfl ?_) | (refine ai rfl (fun _ h=>h) rfl (aa (c2)) rfl rfl ?_) | (refine ai rfl (fun _ h=>h) rfl (aa (c3)) rfl rfl ?_) | ((first | refine ah rfl rfl ?_ rfl ?_ | refine ad rfl ?_ ?_);all_goals(intro h;(try simp only [pl] at h);(try (exfalso;omega)))) | skip))));refine av ?_;exact congrArg (MV.int .i64) (by subst hr;(repeat(first | rw [if_pos (by omega)] | rw [if_neg (by omega)]));first | rfl | omega)
 rw [if_neg om,if_neg om] at hr;rcases b₄ x.toNat 240 with g4 | g4
 ·cases b1 with
  | false=>
   simp only [a₇,and_false,and_true,false_and,true_and,if_false] at hr;clear l1 f1;refine aZ seat Tryz.func189 109 ?_;(iterate 12 ((all_goals(refine ae ?_));(all_goals(first | (refine ai rfl (fun _ h=>h) rfl (aa (c1)) rfl rfl ?_) | (refine ai rfl (fun _ h=>h) rfl (aa (c2)) rfl rfl ?_) | (refine ai rfl (fun _ h=>h) rfl (aa (c3)) rfl rfl ?_) | ((first | refine ah rfl rfl ?_ rfl ?_ | refine ad rfl ?_ ?_);all_goals(intro h;(try simp only [pl] at h);(try (exfalso;omega)))) | skip))));refine av ?_;exact congrArg (MV.int .i64) (by subst hr;(repeat(first | rw [if_pos (by omega)] | rw [if_neg (by omega)]));first | rfl | omega)
  | true=>
   cases b2 with
   | false=>
    simp only [a₇,and_false,and_true,false_and,true_and,if_false] at hr;clear l1 f1;refine aZ seat Tryz.func189 109 ?_;(iterate 12 ((all_goals(refine ae ?_));(all_goals(first | (refine ai rfl (fun _ h=>h) rfl (aa (c1)) rfl rfl ?_) | (refine ai rfl (fun _ h=>h) rfl (aa (c2)) rfl rfl ?_) | (refine ai rfl (fun _ h=>h) rfl (aa (c3)) rfl rfl ?_) | ((first | refine ah rfl rfl ?_ rfl ?_ | refine ad rfl ?_ ?_);all_goals(intro h;(try simp only [pl] at h);(try (exfalso;omega)))) | skip))));refine av ?_;exact congrArg (MV.int .i64) (by subst hr;(repeat(first | rw [if_pos (by omega)] | rw [if_neg (by omega)]));first | rfl | omega)
   | true=>
    have f1:=al.mk (f1 (l1 rfl));rw [if_pos ⟨om,om,rfl,rfl⟩] at hr;refine aZ seat Tryz.func189 109 ?_;(iterate 20 ((all_goals(refine ae ?_));(all_goals(first | (refine ai rfl (fun _ h=>h) rfl (aa (c1)) rfl rfl ?_) | (refine ai rfl (fun _ h=>h) rfl (aa (c2)) rfl rfl ?_) | (refine ai rfl (fun _ h=>h) rfl (aa (c3)) rfl rfl ?_) | ((first | refine ah rfl rfl ?_ rfl ?_ | refine ad rfl ?_ ?_);all_goals(intro h;(try simp only [pl] at h);(try (exfalso;omega)))) | skip))));all_goals(refine av ?_;exact congrArg (MV.int .i64) (by subst hr;(repeat(first | rw [if_pos (by omega)] | rw [if_neg (by omega)]));first | rfl | omega))
 rw [if_neg om] at hr;rcases b₄ x.toNat 245 with g5 | g5
 ·cases b1 with
  | false=>
   simp only [a₇,and_false,and_true,false_and,true_and,if_false] at hr;clear l1 f1;refine aZ seat Tryz.func189 109 ?_;(iterate 12 ((all_goals(refine ae ?_));(all_goals(first | (refine ai rfl (fun _ h=>h) rfl (aa (c1)) rfl rfl ?_) | (refine ai rfl (fun _ h=>h) rfl (aa (c2)) rfl rfl ?_) | (refine ai rfl (fun _ h=>h) rfl (aa (c3)) rfl rfl ?_) | ((first | refine ah rfl rfl ?_ rfl ?_ | refine ad rfl ?_ ?_);all_goals(intro h;(try simp only [pl] at h);(try (exfalso;omega)))) | skip))));refine av ?_;exact congrArg (MV.int .i64) (by subst hr;(repeat(first | rw [if_pos (by omega)] | rw [if_neg (by omega)]));first | rfl | omega)
  | true=>
   cases b2 with
   | false=>
    simp only [a₇,and_false,and_true,false_and,true_and,if_false] at hr;clear l1 f1;refine aZ seat Tryz.func189 109 ?_;(iterate 12 ((all_goals(refine ae ?_));(all_goals(first | (refine ai rfl (fun _ h=>h) rfl (aa (c1)) rfl rfl ?_) | (refine ai rfl (fun _ h=>h) rfl (aa (c2)) rfl rfl ?_) | (refine ai rfl (fun _ h=>h) rfl (aa (c3)) rfl rfl ?_) | ((first | refine ah rfl rfl ?_ rfl ?_ | refine ad rfl ?_ ?_);all_goals(intro h;(try simp only [pl] at h);(try (exfalso;omega)))) | skip))));refine av ?_;exact congrArg (MV.int .i64) (by subst hr;(repeat(first | rw [if_pos (by omega)] | rw [if_neg (by omega)]));first | rfl | omega)
   | true=>
    cases b3 with
    | false=>
     simp only [a₇,and_false,and_true,false_and,true_and,if_false] at hr;clear l1 f1;refine aZ seat Tryz.func189 109 ?_;(iterate 12 ((all_goals(refine ae ?_));(all_goals(first | (refine ai rfl (fun _ h=>h) rfl (aa (c1)) rfl rfl ?_) | (refine ai rfl (fun _ h=>h) rfl (aa (c2)) rfl rfl ?_) | (refine ai rfl (fun _ h=>h) rfl (aa (c3)) rfl rfl ?_) | ((first | refine ah rfl rfl ?_ rfl ?_ | refine ad rfl ?_ ?_);all_goals(intro h;(try simp only [pl] at h);(try (exfalso;omega)))) | skip))));refine av ?_;exact congrArg (MV.int .i64) (by subst hr;(repeat(first | rw [if_pos (by omega)] | rw [if_neg (by omega)]));first | rfl | omega)
    | true=>
     have f1:=al.mk (f1 (l1 rfl));rw [if_pos ⟨om,om,rfl,rfl,rfl⟩] at hr;refine aZ seat Tryz.func189 109 ?_;(iterate 24 ((all_goals(refine ae ?_));(all_goals(first | (refine ai rfl (fun _ h=>h) rfl (aa (c1)) rfl rfl ?_) | (refine ai rfl (fun _ h=>h) rfl (aa (c2)) rfl rfl ?_) | (refine ai rfl (fun _ h=>h) rfl (aa (c3)) rfl rfl ?_) | ((first | refine ah rfl rfl ?_ rfl ?_ | refine ad rfl ?_ ?_);all_goals(intro h;(try simp only [pl] at h);(try (exfalso;omega)))) | skip))));all_goals(refine av ?_;exact congrArg (MV.int .i64) (by subst hr;(repeat(first | rw [if_pos (by omega)] | rw [if_neg (by omega)]));first | rfl | omega))
 ·rw [if_neg om] at hr;clear l1 f1;refine aZ seat Tryz.func189 109 ?_;(iterate 12 ((all_goals(refine ae ?_));(all_goals(first | (refine ai rfl (fun _ h=>h) rfl (aa (c1)) rfl rfl ?_) | (refine ai rfl (fun _ h=>h) rfl (aa (c2)) rfl rfl ?_) | (refine ai rfl (fun _ h=>h) rfl (aa (c3)) rfl rfl ?_) | ((first | refine ah rfl rfl ?_ rfl ?_ | refine ad rfl ?_ ?_);all_goals(intro h;(try simp only [pl] at h);(try (exfalso;omega)))) | skip))));refine av ?_;exact congrArg (MV.int .i64) (by subst hr;(repeat(first | rw [if_pos (by omega)] | rw [if_neg (by omega)]));first | rfl | omega)
end
section
variable {G:GS}
attribute [local irreducible] aj aC aG aL aO vC aU au
def iX:Nat→List UInt8→Nat→Nat→Nat×Bool
 | 0,_,_,n=>(n,true)
 | f + 1,s,i,n=>if i < s.length then(if mc s i=0 then(0,false) else iX f s (i + mc s i) (n + 1)) else(n,true)
def me (s:List UInt8):Nat×Bool:=iX s.length s 0 0
def ra (s:List UInt8):Bool:=(me s).2 && decide ((me s).1≤64)
theorem Am (s:List UInt8) (i:Nat):mc s i≤4:=by
 unfold mc
 repeat' split
 all_goals omega
theorem KZ (s:List UInt8) (hs:s.length < 500000000):aD Tryz.prog G 157 [.str s] (.tup [.int .i64 (me s).1, .bool (me s).2]):=by
  generalize hr:me s=r;unfold me at hr;obtain⟨r1,r2⟩:=r;dsimp only;refine aZ seat Tryz.func157 22 ?_;refine ae ?_;refine ar (Nat×Nat×Nat) (fun x=> [(5, .int .i64 x.2.1),(4, .int .i64 x.2.2),(0, .str s)]) (fun _=> []) 0 (fun x=>iX x.1 s x.2.1 x.2.2=(r1,r2)∧s.length≤x.2.1 + x.1∧x.2.1≤s.length + 4∧x.2.2 + x.1≤s.length) (fun x=>x.1) (s.length,0,0) ⟨hr,dm,dm,dm⟩ (by dsimp only;exact(vm [] [])) ?_;rintro⟨f,i,n⟩ ⟨hR,h1,h2,h3⟩;try dsimp only
  dsimp only at hR h1 h2 h3;refine ae ?_;refine ad rfl ?_ ?_ <;> intro h
  · have hi:i < s.length:=by have:=ot h;omega
    have c1:=MM (G:=G) s i om hi;have hk:=Am s i
    match f,hR,h1,h3 with
    | 0,hR,h1,h3=>exfalso;omega
    | f + 1,hR,h1,h3=>
    rw [iX,if_pos hi] at hR;generalize mc s i=k at *;refine ae ?_;refine cC (c1) ?_;refine ad rfl ?_ ?_ <;> intro h
    · have hk0:k=0:=by
        have:(k:Int)=0:=by simpa using h
        omega
      rw [if_pos hk0] at hR;simp only [a₀] at hR;obtain⟨rfl,rfl⟩:=hR;refine ae ?_;refine av ?_;rfl
    · have hk0:k≠0:=by
        have: ¬ (k:Int)=0:=by simpa using h
        omega
      rw [if_neg hk0] at hR;refine ae ?_;exact⟨(f,i + k,n + 1),⟨hR,dm,dm,dm⟩,by show f < f + 1;omega,(by dsimp only;exact(vm [] []))⟩
  · have hi: ¬ i < s.length:=by have:=oF h;omega
    have:iX f s i n=(n,true):=by cases f with | zero=>rfl | succ f=>rw [iX,if_neg hi]
    rw [this] at hR;simp only [a₀] at hR;obtain⟨rfl,rfl⟩:=hR;refine ae ?_;refine av ?_;rfl
theorem MN (s:List UInt8) (hs:s.length < 500000000):aD Tryz.prog G 131 [.str s] (.bool (ra s)):=by
 have c1:=KZ (G:=G) s hs;unfold ra;generalize me s=r at *;obtain⟨n,ok⟩:=r;dsimp only at c1 ⊢;cases ok with
 | true=>
  refine aZ seat Tryz.func131 15 ?_;refine ae ?_;refine cC (c1) ?_;refine av ?_;exact congrArg MV.bool (decide_eq_decide.2 om)
 | false=>
  refine aZ seat Tryz.func131 15 ?_;refine ae ?_;refine cC (c1) ?_;refine av ?_;rfl
def mf (c:UInt8):Bool:=decide (97≤c.toNat∧c.toNat≤122∨48≤c.toNat∧c.toNat≤57∨c.toNat=45)
def dj (s:List UInt8):Bool:=s.all mf && decide (1≤s.length∧s.length≤20)
theorem xS (s:List UInt8) (hs:s.length≤140737488355328):aD Tryz.prog G 126 [.str s] (.bool (dj s)):=by
 generalize hr:dj s=r;unfold dj at hr;refine aZ seat Tryz.func126 41 ?_;refine ae ?_;refine ar Nat (fun i=> [(3, .int .i64 i),(0, .str s)]) (fun _=> []) 0 (fun i=>i≤s.length∧(s.take i).all mf=true) (fun i=>s.length - i) 0 ⟨a₆ _,sm⟩ (vm [] []) ?_;rintro i ⟨hi,hp⟩;try dsimp only
 refine ae ?_;refine ad rfl ?_ ?_ <;> intro h
 ·have hi':i < s.length:=by have:=ot h;omega
  have f0:=al.mk (o7 hi');have hsu:(s.take (i + 1)).all mf=((s.take i).all mf && mf (s.getD i 0)):=by
   rw [List.take_succ_eq_append_getElem hi',d₄];simp [hi']
  have hall:mf (s.getD i 0)=false→s.all mf=false:=fun h=>by
   rw [← List.take_append_drop (i + 1) s,d₄,hsu,h];simp
  generalize s.getD i 0=c at *;by_cases hc:mf c=true
  ·rw [hp,hc] at hsu;have hc':=ot hc;(iterate 6 ((all_goals(refine ae ?_));(all_goals(first | ((first | refine ah rfl rfl ?_ rfl ?_ | refine ad rfl ?_ ?_);all_goals(intro h;(try simp only [pl] at h);(try (exfalso;omega)))) | skip))));all_goals exact⟨i + 1,⟨by omega,by rw [hsu];rfl⟩,by show s.length - (i + 1) < s.length - i;omega,(by dsimp only;exact(vm [] []))⟩
  ·have hcf:mf c=false:=by simpa using hc
   rw [hall hcf,b₅] at hr;subst hr;have hc':=oF hcf;(iterate 6 ((all_goals(refine ae ?_));(all_goals(first | ((first | refine ah rfl rfl ?_ rfl ?_ | refine ad rfl ?_ ?_);all_goals(intro h;(try simp only [pl] at h);(try (exfalso;omega)))) | skip))));all_goals(refine av ?_;rfl)
 ·have hi':i=s.length:=by have:=oF h;omega
  subst hi';rw [List.take_length] at hp;rw [hp,b₁] at hr;subst hr;(iterate 3 ((all_goals(refine ae ?_));(all_goals(first | ((first | refine ah rfl rfl ?_ rfl ?_ | refine ad rfl ?_ ?_);all_goals(intro h;(try simp only [pl] at h);(try (exfalso;omega)))) | skip))));all_goals(refine av ?_;exact congrArg MV.bool (by first | exact decide_eq_decide.2 (by omega) | exact(decide_eq_false (by omega)).symm))
def tP:List kM→Nat
 | [] =>0
 | x :: r=>if dj x.to_=false then 10 else if x.amt=0 then 12 else tP r
def cU (t:iJ):Nat:=if dj t.sender=false then 10 else if t.gas=0 then 15 else if ra t.memo=false then 11 else if t.trs.length=0∨16 < t.trs.length then 3 else tP t.trs
theorem wv (t:iJ) (ht:gE t):aD Tryz.prog G 89 [nh t] (.int .i64 (cU t)):=by
 obtain⟨sender,seq,gas,fee,memo,trs⟩:=t;obtain⟨h1,h2,h3,h4,h5,h6,h7⟩:=ht;dsimp only at h1 h2 h3 h4 h5 h6 h7;have c1:=xS (G:=G) sender om;have c2:=MN (G:=G) memo om;generalize hr:cU _=r;unfold cU at hr;unfold nh;dsimp only at hr ⊢;generalize dj sender=b1 at *;generalize ra memo=b2 at *;cases b1 with
 | false=>
  rw [if_pos rfl] at hr;subst hr;refine aZ seat Tryz.func89 45 ?_;(iterate 2 ((all_goals(refine ae ?_));(all_goals(first | (refine ai rfl (fun _ h=>h) rfl (aa (c1)) rfl rfl ?_) | ((first | refine ah rfl rfl ?_ rfl ?_ | refine ad rfl ?_ ?_);all_goals(intro h;(try simp only [pl] at h);(try (exfalso;omega)))) | skip))));refine av ?_;rfl
 | true=>
 rw [if_neg sm] at hr;by_cases hg:gas=0
 ·rw [if_pos hg] at hr;subst hr;refine aZ seat Tryz.func89 45 ?_;(iterate 3 ((all_goals(refine ae ?_));(all_goals(first | (refine ai rfl (fun _ h=>h) rfl (aa (c1)) rfl rfl ?_) | ((first | refine ah rfl rfl ?_ rfl ?_ | refine ad rfl ?_ ?_);all_goals(intro h;(try simp only [pl] at h);(try (exfalso;omega)))) | skip))));refine av ?_;rfl
 rw [if_neg hg] at hr;cases b2 with
 | false=>
  rw [if_pos rfl] at hr;subst hr;refine aZ seat Tryz.func89 45 ?_;(iterate 4 ((all_goals(refine ae ?_));(all_goals(first | (refine ai rfl (fun _ h=>h) rfl (aa (c1)) rfl rfl ?_) | (refine ai rfl (fun _ h=>h) rfl (aa (c2)) rfl rfl ?_) | ((first | refine ah rfl rfl ?_ rfl ?_ | refine ad rfl ?_ ?_);all_goals(intro h;(try simp only [pl] at h);(try (exfalso;omega)))) | skip))));refine av ?_;rfl
 | true=>
 rw [if_neg sm] at hr;by_cases hl:trs.length=0∨16 < trs.length
 ·rw [if_pos hl] at hr;subst hr;refine aZ seat Tryz.func89 45 ?_;(iterate 6 ((all_goals(refine ae ?_));(all_goals(first | (refine ai rfl (fun _ h=>h) rfl (aa (c1)) rfl rfl ?_) | (refine ai rfl (fun _ h=>h) rfl (aa (c2)) rfl rfl ?_) | ((first | refine ah rfl rfl ?_ rfl ?_ | refine ad rfl ?_ ?_);all_goals(intro h;(try simp only [pl] at h);(try (exfalso;omega)))) | skip))));all_goals(refine av ?_;rfl)
 rw [if_neg hl] at hr;refine aZ seat Tryz.func89 45 ?_;(iterate 6 ((all_goals(refine ae ?_));(all_goals(first | (refine ai rfl (fun _ h=>h) rfl (aa (c1)) rfl rfl ?_) | (refine ai rfl (fun _ h=>h) rfl (aa (c2)) rfl rfl ?_) | ((first | refine ah rfl rfl ?_ rfl ?_ | refine ad rfl ?_ ?_);all_goals(intro h;(try simp only [pl] at h);(try (exfalso;omega)))) | skip))));refine ar Nat (fun k=> [(33, .int .i64 k),(32, .int .i64 trs.length),(31, .sl trs.length (trs.map lh))]) (fun _=> []) 0 (fun k=>k≤trs.length∧tP (trs.drop k)=r) (fun k=>trs.length - k) 0 ⟨a₆ _,by rw [a₅];exact hr⟩ (vm [] []) ?_;rintro k ⟨hk,hR⟩;try dsimp only
 refine ae ?_;refine ad rfl ?_ ?_ <;> intro h
 ·have hk':k < trs.length:=by have:=ot h;omega
  have hx:=h7 _ (b₀ hk');have hel:=al.mk (kP hk');rw [a₁ hk',tP] at hR;generalize trs[k] =x at *;have d1:=xS (G:=G) x.to_ (by have:=hx.1;omega);generalize dj x.to_=b at *;cases b with
  | false=>
   rw [if_pos rfl] at hR;subst hR;(iterate 3 ((all_goals(refine ae ?_));(all_goals(first | (refine ai rfl (fun _ h=>h) rfl (aa (d1)) rfl rfl ?_) | ((first | refine ah rfl rfl ?_ rfl ?_ | refine ad rfl ?_ ?_);all_goals(intro h;(try simp only [pl] at h);(try (exfalso;omega)))) | skip))));refine av ?_;rfl
  | true=>
   rw [if_neg sm] at hR;by_cases hz:x.amt=0
   ·rw [if_pos hz] at hR;subst hR;(iterate 4 ((all_goals(refine ae ?_));(all_goals(first | (refine ai rfl (fun _ h=>h) rfl (aa (d1)) rfl rfl ?_) | ((first | refine ah rfl rfl ?_ rfl ?_ | refine ad rfl ?_ ?_);all_goals(intro h;(try simp only [pl] at h);(try (exfalso;omega)))) | skip))));refine av ?_;rfl
   ·rw [if_neg hz] at hR;(iterate 4 ((all_goals(refine ae ?_));(all_goals(first | (refine ai rfl (fun _ h=>h) rfl (aa (d1)) rfl rfl ?_) | ((first | refine ah rfl rfl ?_ rfl ?_ | refine ad rfl ?_ ?_);all_goals(intro h;(try simp only [pl] at h);(try (exfalso;omega)))) | skip))));exact⟨k + 1,⟨om,hR⟩,by show trs.length - (k + 1) < trs.length - k;omega,(by dsimp only;exact(vm [] []))⟩
 ·have hk':k=trs.length:=by have:=oF h;omega
  subst hk';rw [a₂,tP] at hR;subst hR;refine ae ?_;refine av ?_;rfl
end
section
variable {G:GS}
attribute [local irreducible] aj aC aG aL aO vC aU au
def eW (t:iJ):List UInt8×Nat:=if cU t≠0 then([],cU t) else if 4096 < (eE t).length then([],3) else(eE t,0)
theorem An (t:iJ) (ht:gE t):aH Tryz.prog G 47 [nh t] [] 0 (.tup [.sl (eW t).1.length (u8s (eW t).1), .int .i64 (eW t).2]) [] 0:=by
 have c1:=wv (G:=G) t ht;have c2:=H0 (G:=G) t ht;have hfl:=qk ht;unfold eW;generalize cU t=v at *;generalize eE t=m at *;by_cases hv:v=0
 ·subst hv;rw [if_neg sm];by_cases hm:4096 < m.length
  ·rw [if_pos hm];refine bR seat Tryz.func47 17 ?_;(iterate 6 ((all_goals(refine ae ?_));(all_goals(first | (refine ai rfl (fun _ h=>h) rfl (aa (c1)) rfl rfl ?_) | (refine ai rfl (fun _ h=>h) rfl (c2) rfl rfl ?_) | ((first | refine ah rfl rfl ?_ rfl ?_ | refine ad rfl ?_ ?_);all_goals(intro h;(try simp only [pl] at h);(try (exfalso;omega)))) | skip))));exact en [_,_]
  ·rw [if_neg hm];refine bR seat Tryz.func47 17 ?_;(iterate 6 ((all_goals(refine ae ?_));(all_goals(first | (refine ai rfl (fun _ h=>h) rfl (aa (c1)) rfl rfl ?_) | (refine ai rfl (fun _ h=>h) rfl (c2) rfl rfl ?_) | ((first | refine ah rfl rfl ?_ rfl ?_ | refine ad rfl ?_ ?_);all_goals(intro h;(try simp only [pl] at h);(try (exfalso;omega)))) | skip))));exact en [_,_]
 ·rw [if_pos hv];refine bR seat Tryz.func47 17 ?_;(iterate 5 ((all_goals(refine ae ?_));(all_goals(first | (refine ai rfl (fun _ h=>h) rfl (aa (c1)) rfl rfl ?_) | (refine ai rfl (fun _ h=>h) rfl (c2) rfl rfl ?_) | ((first | refine ah rfl rfl ?_ rfl ?_ | refine ad rfl ?_ ?_);all_goals(intro h;(try simp only [pl] at h);(try (exfalso;omega)))) | skip))));exact en [_,_]
theorem tQ (B:Nat): ∀(k:Nat) (b:List UInt8) (at_:Nat) (acc:List fA),b.length≤B→(∀f∈acc,jw f∧f.bytes.length≤B)→(∀f∈(eU k b at_ acc).1,jw f∧f.bytes.length≤B)∧(eU k b at_ acc).1.length≤acc.length + k
 | k,[],at_,acc,_,ha=>by rw [lW];exact⟨ha,dm⟩
 | 0,x :: b,at_,acc,_,_=>by rw [kJ sm];exact⟨sm,sm⟩
 | k + 1,x :: b,at_,acc,hb,ha=>by
  rw [kK sm]
  split
  ·exact⟨sm,sm⟩
  ·rename_i h
   have h1:=Ce (b:=x :: b) om
   have:=tQ B k ((x :: b).drop (eL (x :: b)).2.1) (at_ + (eL (x :: b)).2.1) (acc ++ [(eL (x :: b)).1]) (by rw [List.length_drop];omega) (eV ha fun f hf=>by rw [c₅.1 hf];exact⟨h1.2.2.1,om⟩)
   rw [a₉,a₈] at this
   exact⟨this.1,om⟩
theorem eX (b:List UInt8):(∀f∈(aJ b).1,jw f∧f.bytes.length≤b.length)∧(aJ b).1.length≤1024:=by
 have:=tQ b.length 1024 b 0 [] (c₃ _) sm;simpa [aJ] using this
def iY:List fA→kM→kM×Bool
 | [],x=>(x,true)
 | f :: r,x=>if f.num=1∧f.kind=2 then iY r ⟨f.bytes,x.amt⟩ else if f.num=2∧f.kind=0 then iY r ⟨x.to_,f.val⟩ else(x,false)
def cX (b:List UInt8):kM×Bool:=match iY (aJ b).1 ⟨[],0⟩ with
 | (x,ok)=>(x,ok && (decide ((aJ b).2.2=0) && (bc (bA 1 x.to_ ++ cj 2 x.amt) == b)))
theorem xU (a b:List UInt8):aD Tryz.prog G 113 [.sl a.length (u8s a), .sl b.length (u8s b)] (.bool (a == b)):=by
 have f1:=al.mk (er a);have f2:=al.mk (er b);refine aZ seat Tryz.func113 10 ?_;refine ae ?_;refine av ?_;rfl
theorem Cl (b:List UInt8) (hb:b.length≤5000):aH Tryz.prog G 218 [.sl b.length (u8s b)] [] 0 (.tup [lh (cX b).1, .bool (cX b).2]) [] 0:=by
 have c0:=Af (G:=G) b om;have hfo:=eX b;generalize hr:cX b=r;unfold cX at hr;generalize aJ b=t at *;obtain⟨l,at1,e⟩:=t;dsimp only at hr hfo c0;obtain⟨R,okk⟩:=r;dsimp only;refine bR seat Tryz.func218 63 ?_;refine ae ?_;refine jS (c0) ?_;refine ar (Nat×kM) (fun x=> [(18, .int .i64 x.1),(17, .int .i64 l.length),(16, .sl l.length (l.map db)),(7, .ptr 1 2 0 0 []),(6, .int .i64 e),(2, .ptr 0 2 0 0 []),(0, .sl b.length (u8s b))]) (fun x=> [(0,⟨129,2,false,0,[.st [.str [], .int .u64 0]]⟩),(1,⟨129,2,false,0,[.st [.str x.2.to_, .int .u64 x.2.amt]]⟩)]) 2 (fun x=>x.1≤l.length∧x.2.to_.length≤5000∧bh x.2.amt∧(match iY (l.drop x.1) x.2 with | (x,ok)=>(x,ok && (decide (e=0) && (bc (bA 1 x.to_ ++ cj 2 x.amt) == b))))=(R,okk)) (fun x=>l.length - x.1) (0,⟨[],0⟩) ⟨a₆ _,sm,by simp [bh],by dsimp only;rw [a₅];exact hr⟩ (by dsimp only;exact(vm [(0,_),(1,_)] [])) ?_;rintro⟨k,x⟩ ⟨hk,hx1,hx2,hR⟩;obtain⟨to_,amt⟩:=x;try dsimp only
 dsimp only at hk hx1 hx2 hR;refine ae ?_;refine ad rfl ?_ ?_ <;> intro h
 ·have hk':k < l.length:=by have:=ot h;omega
  have hok:=hfo.1 _ (b₀ hk');have hel:=o5 hk';rw [a₁ hk'] at hR;generalize l[k] =f at *;obtain⟨num,kind,val,bytes⟩:=f;replace hel:cS (l.map db) l.length (k:Int)=some (.st [.int .i64 num, .int .i64 kind, .int .u64 val, .sl bytes.length (u8s bytes)]):=hel;have hel:=al.mk hel;have hby:=al.mk (er bytes);rw [iY] at hR;dsimp only at hR hok;by_cases g1:num=1∧kind=2
  ·rw [if_pos g1] at hR;obtain⟨rfl,rfl⟩:=g1;(iterate 6 ((all_goals(refine ae ?_));(all_goals(first | ((first | refine ah rfl rfl ?_ rfl ?_ | refine ad rfl ?_ ?_);all_goals(intro h;(try simp only [pl] at h);(try (exfalso;omega)))) | skip))));exact⟨(k + 1,⟨bytes,amt⟩),⟨dm,dm,hx2,hR⟩,by show l.length - (k + 1) < l.length - k;omega,(by dsimp only;exact(vm [(0,_),(1,_)] []))⟩
  rw [if_neg g1] at hR;by_cases g2:num=2∧kind=0
  ·rw [if_pos g2] at hR;obtain⟨rfl,rfl⟩:=g2;(iterate 6 ((all_goals(refine ae ?_));(all_goals(first | ((first | refine ah rfl rfl ?_ rfl ?_ | refine ad rfl ?_ ?_);all_goals(intro h;(try simp only [pl] at h);(try (exfalso;omega)))) | skip))));exact⟨(k + 1,⟨to_,val⟩),⟨dm,hx1,by have:=hok.1;unfold jw at this;dsimp only at this ⊢;unfold bh;omega,hR⟩,by show l.length - (k + 1) < l.length - k;omega,(by dsimp only;exact(vm [(0,_),(1,_)] []))⟩
  ·rw [if_neg g2] at hR;dsimp only at hR;rw [b₅] at hR;simp only [a₀] at hR;obtain⟨rfl,rfl⟩:=hR;(iterate 6 ((all_goals(refine ae ?_));(all_goals(first | ((first | refine ah rfl rfl ?_ rfl ?_ | refine ad rfl ?_ ?_);all_goals(intro h;(try simp only [pl] at h);(try (exfalso;omega)))) | skip))));all_goals(refine av ?_;exact en [_,_])
 ·have hk':k=l.length:=by have:=oF h;omega
  subst hk';rw [a₂,iY] at hR;dsimp only at hR;rw [b₁] at hR;have hio:=o6 (x:=⟨to_,amt⟩) ⟨hx1,hx2⟩;have hil:=mS (x:=⟨to_,amt⟩) ⟨hx1,hx2⟩;have hto:=iW (n:=1) (s:=to_) om om 5000 hx1 om;have d1:=xR (G:=G) [] 1 to_ sm om;rw [b₃] at d1;have d2:=lX (G:=G) (bA 1 to_) 2 amt om;dsimp only at hio hil;have d3:=qi (G:=G) (bA 1 to_ ++ cj 2 amt) (fun f hf=>(hio.1 f hf).1) om om;have d4:=xU (G:=G) (bc (bA 1 to_ ++ cj 2 amt)) b;unfold xQ at d1 d2;by_cases he:e=0
  ·subst he;rw [decide_eq_true rfl,b₁] at hR;simp only [a₀] at hR;obtain⟨rfl,rfl⟩:=hR;generalize bA 1 to_ ++ cj 2 amt=li at *;generalize bA 1 to_=lt at *;generalize bc li=mi at *;refine ae ?_;refine aw [ag 0,ag 1,ag 2,ag 3,ag 4,ag 5,de 6,ag 7,ag 8,de 9,de 10,ag 11,de 12,ag 13,ag 14,ag 15] ?_;refine ae ?_;refine bG rfl (fun _ h=>h) rfl [] (d1) [] [] ⟨rfl,trivial,rfl,lm,mm⟩ rfl rfl rfl rfl rfl ?_;refine ae ?_;refine bG rfl (fun _ h=>h) rfl [9] (d2) [(0,9)] [] ⟨rfl,trivial,rfl,lm,mm⟩ rfl rfl rfl rfl rfl ?_;refine ae ?_;refine jQ rfl (fun _ h=>h) rfl [12] (d3) rfl [(12,li.length)] mm lm rfl ?_;refine ae ?_;refine dk (d4) ?_;refine av ?_;refine⟨[_,_],[],[],rfl,rfl,trivial,rfl,⟨?_,?_,trivial⟩,?_⟩
   ·exact .inl ⟨rfl,rfl⟩
   ·exact rv
   ·exact mm
  ·rw [decide_eq_false he,b₅] at hR;simp only [a₀] at hR;obtain⟨rfl,rfl⟩:=hR;refine ae ?_;refine aw [ag 0,ag 1,ag 2,ag 3,ag 4,ag 5,de 6,ag 7,ag 8,de 9,de 10,ag 11,de 12,ag 13,ag 14,ag 15] ?_;refine ae ?_;refine gO rfl rfl ?_ rfl ?_ <;> intro h
   ·exfalso;have:(e:Int)=0:=by simpa using h
    omega
   refine ae ?_;refine av ?_;refine⟨[_,_],[],[],rfl,rfl,trivial,rfl,⟨?_,?_,trivial⟩,?_⟩
   ·exact .inl ⟨rfl,rfl⟩
   ·exact rv
   ·exact mm
end
section
variable {G:GS}
attribute [local irreducible] aj aC aG aL aO vC aU au
def bB:List fA→iJ→iJ×Bool
 | [],t=>(t,true)
 | f :: r,t=>
  if f.num=1∧f.kind=2 then bB r ⟨f.bytes,t.seq,t.gas,t.fee,t.memo,t.trs⟩ else
  if f.num=2∧f.kind=0 then bB r ⟨t.sender,f.val,t.gas,t.fee,t.memo,t.trs⟩ else
  if f.num=3∧f.kind=0 then bB r ⟨t.sender,t.seq,f.val,t.fee,t.memo,t.trs⟩ else
  if f.num=4∧f.kind=0 then bB r ⟨t.sender,t.seq,t.gas,f.val,t.memo,t.trs⟩ else
  if f.num=5∧f.kind=2 then bB r ⟨t.sender,t.seq,t.gas,t.fee,f.bytes,t.trs⟩ else
  if f.num=6∧f.kind=2 then(if (cX f.bytes).2 then bB r ⟨t.sender,t.seq,t.gas,t.fee,t.memo,t.trs ++ [(cX f.bytes).1]⟩ else(t,false)) else(t,false)
def tx0:iJ:=⟨[],0,0,0,[],[]⟩
theorem tR: ∀(l:List fA) (x:kM),(∀f∈l,jw f∧f.bytes.length≤5000)→lY x→lY (iY l x).1
 | [],x,_,h=>h
 | f :: r,x,hl,h=>by
  have hf:=hl f sm
  rw [iY]
  split
  ·exact tR r _ (fun g hg=>hl g (by simp [hg])) ⟨hf.2,h.2⟩
  ·split
   ·exact tR r _ (fun g hg=>hl g (by simp [hg])) ⟨h.1,by have:=hf.1;unfold jw at this;unfold bh;dsimp only;omega⟩
   ·exact h
theorem xV {b:List UInt8} (hb:b.length≤5000):lY (cX b).1:=by
 unfold cX;have h:=eX b;have:=tR (aJ b).1 ⟨[],0⟩ (fun f hf=>⟨(h.1 f hf).1,by have:=(h.1 f hf).2;omega⟩) ⟨sm,by simp [bh]⟩;generalize iY (aJ b).1 ⟨[],0⟩=r at *;exact this
theorem iZ: ∀(l:List fA) (t:iJ),(∀f∈l,jw f∧f.bytes.length≤5000)→t.trs.length + l.length≤5000→gE t→gE (bB l t).1
 | [],t,_,_,h=>h
 | f :: r,t,hl,hn,h=>by
  have hf:=hl f sm
  have hr: ∀g∈r,jw g∧g.bytes.length≤5000:=fun g hg=>hl g (by simp [hg])
  have hv:bh f.val:=by have:=hf.1;unfold jw at this;unfold bh;omega
  simp only [List.length_cons] at hn
  obtain⟨h1,h2,h3,h4,h5,h6,h7⟩:=h
  rw [bB]
  split
  ·exact iZ r _ hr dm ⟨hf.2,h2,h3,h4,h5,h6,h7⟩
  split
  ·exact iZ r _ hr dm ⟨h1,hv,h3,h4,h5,h6,h7⟩
  split
  ·exact iZ r _ hr dm ⟨h1,h2,hv,h4,h5,h6,h7⟩
  split
  ·exact iZ r _ hr dm ⟨h1,h2,h3,hv,h5,h6,h7⟩
  split
  ·exact iZ r _ hr dm ⟨h1,h2,h3,h4,hf.2,h6,h7⟩
  split
  ·split
   ·exact iZ r _ hr (by dsimp only;rw [a₉,a₈];omega) ⟨h1,h2,h3,h4,h5,by dsimp only;rw [a₉,a₈];omega,eV h7 fun x hx=>by rw [c₅.1 hx];exact xV hf.2⟩
   ·exact⟨h1,h2,h3,h4,h5,h6,h7⟩
  ·exact⟨h1,h2,h3,h4,h5,h6,h7⟩
theorem MO (l:List fA) (hl: ∀f∈l,jw f∧f.bytes.length≤5000) (hn:l.length≤1024):aH Tryz.prog G 172 [.sl l.length (l.map db)] [] 0 (.tup [nh (bB l tx0).1, .bool (bB l tx0).2]) [] 0:=by
 generalize hr:bB l tx0=r;obtain⟨R,okk⟩:=r;dsimp only;refine bR seat Tryz.func172 104 ?_;refine ae ?_;refine ar (Nat×iJ) (fun x=> [(11, .int .i64 x.1),(10, .int .i64 l.length),(9, .sl l.length (l.map db)),(4, .ptr 1 6 0 0 []),(2, .ptr 0 6 0 0 [])]) (fun x=> [(0,⟨100,6,false,0,[.st [.str [], .int .u64 0, .int .u64 0, .int .u64 0, .str [], .nils]]⟩),(1,⟨100,6,false,0,[.st [.str x.2.sender, .int .u64 x.2.seq, .int .u64 x.2.gas, .int .u64 x.2.fee, .str x.2.memo, .ms 2 2 0 x.2.trs.length]]⟩),(2,⟨129,2,true,0,x.2.trs.map lh⟩)]) 3 (fun x=>x.1≤l.length∧x.2.trs.length≤x.1∧bB (l.drop x.1) x.2=(R,okk)) (fun x=>l.length - x.1) (0,tx0) ⟨a₆ _,a₆ _,by dsimp only;rw [a₅];exact hr⟩ (by dsimp only;exact(vm [(0,_),(1,_)] [])) ?_;rintro⟨k,t⟩ ⟨hk,ht,hR⟩;obtain⟨sender,seq,gas,fee,memo,trs⟩:=t;try dsimp only
 dsimp only at hk ht hR;refine ae ?_;refine ad rfl ?_ ?_ <;> intro h
 ·have hk':k < l.length:=by have:=ot h;omega
  have hok:=hl _ (b₀ hk');have hel:=o5 hk';rw [a₁ hk'] at hR;generalize l[k] =f at *;obtain⟨num,kind,val,bytes⟩:=f;replace hel:cS (l.map db) l.length (k:Int)=some (.st [.int .i64 num, .int .i64 kind, .int .u64 val, .sl bytes.length (u8s bytes)]):=hel;have hel:=al.mk hel;have hby:=al.mk (er bytes);rw [bB] at hR;dsimp only at hR hok;by_cases g1:num=1∧kind=2
  ·rw [if_pos g1] at hR;obtain⟨rfl,rfl⟩:=g1;(iterate 4 ((all_goals(refine ae ?_));(all_goals(first | ((first | refine ah rfl rfl ?_ rfl ?_ | refine ad rfl ?_ ?_);all_goals(intro h;(try simp only [pl] at h);(try (exfalso;omega)))) | skip))));exact⟨(k + 1,⟨bytes,seq,gas,fee,memo,trs⟩),⟨dm,dm,hR⟩,by show l.length - (k + 1) < l.length - k;omega,(by dsimp only;exact(vm [(0,_),(1,_),(2,_)] []))⟩
  rw [if_neg g1] at hR;by_cases g2:num=2∧kind=0
  ·rw [if_pos g2] at hR;obtain⟨rfl,rfl⟩:=g2;(iterate 6 ((all_goals(refine ae ?_));(all_goals(first | ((first | refine ah rfl rfl ?_ rfl ?_ | refine ad rfl ?_ ?_);all_goals(intro h;(try simp only [pl] at h);(try (exfalso;omega)))) | skip))));exact⟨(k + 1,⟨sender,val,gas,fee,memo,trs⟩),⟨dm,dm,hR⟩,by show l.length - (k + 1) < l.length - k;omega,(by dsimp only;exact(vm [(0,_),(1,_),(2,_)] []))⟩
  rw [if_neg g2] at hR;by_cases g3:num=3∧kind=0
  ·rw [if_pos g3] at hR;obtain⟨rfl,rfl⟩:=g3;(iterate 8 ((all_goals(refine ae ?_));(all_goals(first | ((first | refine ah rfl rfl ?_ rfl ?_ | refine ad rfl ?_ ?_);all_goals(intro h;(try simp only [pl] at h);(try (exfalso;omega)))) | skip))));exact⟨(k + 1,⟨sender,seq,val,fee,memo,trs⟩),⟨dm,dm,hR⟩,by show l.length - (k + 1) < l.length - k;omega,(by dsimp only;exact(vm [(0,_),(1,_),(2,_)] []))⟩
  rw [if_neg g3] at hR;by_cases g4:num=4∧kind=0
  ·rw [if_pos g4] at hR;obtain⟨rfl,rfl⟩:=g4;(iterate 10 ((all_goals(refine ae ?_));(all_goals(first | ((first | refine ah rfl rfl ?_ rfl ?_ | refine ad rfl ?_ ?_);all_goals(intro h;(try simp only [pl] at h);(try (exfalso;omega)))) | skip))));exact⟨(k + 1,⟨sender,seq,gas,val,memo,trs⟩),⟨dm,dm,hR⟩,by show l.length - (k + 1) < l.length - k;omega,(by dsimp only;exact(vm [(0,_),(1,_),(2,_)] []))⟩
  rw [if_neg g4] at hR;by_cases g5:num=5∧kind=2
  ·rw [if_pos g5] at hR;obtain⟨rfl,rfl⟩:=g5;(iterate 12 ((all_goals(refine ae ?_));(all_goals(first | ((first | refine ah rfl rfl ?_ rfl ?_ | refine ad rfl ?_ ?_);all_goals(intro h;(try simp only [pl] at h);(try (exfalso;omega)))) | skip))));exact⟨(k + 1,⟨sender,seq,gas,fee,bytes,trs⟩),⟨dm,dm,hR⟩,by show l.length - (k + 1) < l.length - k;omega,(by dsimp only;exact(vm [(0,_),(1,_),(2,_)] []))⟩
  rw [if_neg g5] at hR;by_cases g6:num=6∧kind=2
  ·rw [if_pos g6] at hR;obtain⟨rfl,rfl⟩:=g6;have c1:=Cl (G:=G) bytes hok.2;generalize cX bytes=q at *;obtain⟨x,b⟩:=q;dsimp only at c1 hR;cases b with
   | false=>
    rw [if_neg sm] at hR;simp only [a₀] at hR;obtain⟨rfl,rfl⟩:=hR;(iterate 16 ((all_goals(refine ae ?_));(all_goals(first | (refine ai rfl (fun _ h=>h) rfl (c1) rfl rfl ?_) | ((first | refine ah rfl rfl ?_ rfl ?_ | refine ad rfl ?_ ?_);all_goals(intro h;(try simp only [pl] at h);(try (exfalso;omega)))) | skip))));all_goals(refine av ?_;(refine⟨[_,_],[],[(2,trs.length)],rfl,rfl,?_,rfl,⟨?_,?_,trivial⟩,?_⟩;(exact⟨(show trs.length≤(trs.map lh).length by simp),trivial⟩);(exact .inr ⟨_,rfl,lm⟩);exact rv;exact mm))
   | true=>
    rw [if_pos rfl] at hR;(iterate 10 ((all_goals(refine ae ?_));(all_goals(first | (refine ai rfl (fun _ h=>h) rfl (c1) rfl rfl ?_) | ((first | refine ah rfl rfl ?_ rfl ?_ | refine ad rfl ?_ ?_);all_goals(intro h;(try simp only [pl] at h);(try (exfalso;omega)))) | skip))));refine aY rfl rfl (by intro R hR;refine dM hR ?_;(refine a₃ (c₃ _) ?_;refine⟨_,rfl,?_⟩;refine a₃ ⟨sm,aE (by kernel_rfl) pf⟩ ?_;refine⟨(trs ++ [x]).map lh,sv (by simp;rfl),trs.length + 1,sv pf,?_⟩);exact hR) rfl ?_;refine ae ?_;exact⟨(k + 1,⟨sender,seq,gas,fee,memo,trs ++ [x]⟩),⟨dm,by dsimp only;rw [a₉,a₈];omega,hR⟩,by show l.length - (k + 1) < l.length - k;omega,(by dsimp only;rw [a₉,a₈];exact(vm [(0,_),(1,_),(2,_)] []))⟩
  ·rw [if_neg g6] at hR;simp only [a₀] at hR;obtain⟨rfl,rfl⟩:=hR;(iterate 14 ((all_goals(refine ae ?_));(all_goals(first | ((first | refine ah rfl rfl ?_ rfl ?_ | refine ad rfl ?_ ?_);all_goals(intro h;(try simp only [pl] at h);(try (exfalso;omega)))) | skip))));all_goals(refine av ?_;(refine⟨[_,_],[],[(2,trs.length)],rfl,rfl,?_,rfl,⟨?_,?_,trivial⟩,?_⟩;(exact⟨(show trs.length≤(trs.map lh).length by simp),trivial⟩);(exact .inr ⟨_,rfl,lm⟩);exact rv;exact mm))
 ·have hk':k=l.length:=by have:=oF h;omega
  subst hk';rw [a₂,bB] at hR;simp only [a₀] at hR;obtain⟨rfl,rfl⟩:=hR;refine ae ?_;all_goals(refine av ?_;(refine⟨[_,_],[],[(2,trs.length)],rfl,rfl,?_,rfl,⟨?_,?_,trivial⟩,?_⟩;(exact⟨(show trs.length≤(trs.map lh).length by simp),trivial⟩);(exact .inr ⟨_,rfl,lm⟩);exact rv;exact mm))
end
section
variable {G:GS}
attribute [local irreducible] aj aC aG aL aO vC aU au
def aS (raw:List UInt8):iJ×Nat:=
 if 4096 < raw.length then(tx0,3) else
 if (aJ raw).2.2≠0∨(bB (aJ raw).1 tx0).2=false∨eE (bB (aJ raw).1 tx0).1≠raw then(tx0,4) else
 if cU (bB (aJ raw).1 tx0).1≠0 then(tx0,cU (bB (aJ raw).1 tx0).1) else((bB (aJ raw).1 tx0).1,0)
theorem tS:gE tx0:=⟨by simp [tx0],by simp [tx0,bh],by simp [tx0,bh],by simp [tx0,bh],by simp [tx0],by simp [tx0],by simp [tx0]⟩
theorem Mf {raw:List UInt8} (h:raw.length≤4096):gE (bB (aJ raw).1 tx0).1:=by
 have hf:=eX raw;refine iZ _ tx0 (fun f hm=>⟨(hf.1 f hm).1,by have:=(hf.1 f hm).2;omega⟩) ?_ tS
 show 0 + _≤_
 omega
theorem Cm (raw:List UInt8) (hraw:raw.length≤140737488355328):aH Tryz.prog G 147 [.sl raw.length (u8s raw)] [] 0 (.tup [nh (aS raw).1, .int .i64 (aS raw).2]) [] 0:=by
 generalize hr:aS raw=r;obtain⟨R,code⟩:=r;dsimp only;unfold aS at hr;by_cases h1:4096 < raw.length
 ·rw [if_pos h1] at hr;simp only [a₀] at hr;obtain⟨rfl,rfl⟩:=hr;refine bR seat Tryz.func147 46 ?_;refine ae ?_;(iterate 4 ((all_goals(refine ae ?_));(all_goals(first | ((first | refine ah rfl rfl ?_ rfl ?_ | refine ad rfl ?_ ?_);all_goals(intro h;(try simp only [pl] at h);(try (exfalso;omega)))) | skip))));all_goals(refine av ?_;exact en [_,_])
 rw [if_neg h1] at hr;have c1:=Af (G:=G) raw om;have hf:=eX raw;have c2:=MO (G:=G) (aJ raw).1 (fun f hm=>⟨(hf.1 f hm).1,by have:=(hf.1 f hm).2;omega⟩) hf.2;have hsm:=Mf (raw:=raw) om;have c3:=H0 (G:=G) _ hsm;have c4:=xU (G:=G) (eE (bB (aJ raw).1 tx0).1) raw;have c5:=wv (G:=G) _ hsm;clear hf hsm;generalize aJ raw=F at *;obtain⟨l,at_,e⟩:=F;dsimp only at c1 c2 c3 c4 c5 hr;generalize bB l tx0=T at *;obtain⟨t,ok⟩:=T;dsimp only at c1 c2 c3 c4 c5 hr;generalize eE t=fs at *;generalize cU t=vt at *;have hb:(fs == raw)=true↔fs=raw:=sm;generalize (fs == raw)=b at *;by_cases he:e=0
 ·subst he;cases ok with
  | false=>
   rw [if_pos sm] at hr;simp only [a₀] at hr;obtain⟨rfl,rfl⟩:=hr;refine bR seat Tryz.func147 46 ?_;refine ae ?_;(iterate 12 ((all_goals(refine ae ?_));(all_goals(first | (refine ai rfl (fun _ h=>h) rfl (c1) rfl rfl ?_) | (refine ai rfl (fun _ h=>h) rfl (c2) rfl rfl ?_) | (refine ai rfl (fun _ h=>h) rfl (c3) rfl rfl ?_) | (refine ai rfl (fun _ h=>h) rfl (aa (c4)) rfl rfl ?_) | (refine ai rfl (fun _ h=>h) rfl (aa (c5)) rfl rfl ?_) | ((first | refine ah rfl rfl ?_ rfl ?_ | refine ad rfl ?_ ?_);all_goals(intro h;(try simp only [pl] at h);(try (exfalso;omega)))) | skip))));all_goals(refine av ?_;exact en [_,_])
  | true=>
   cases b with
   | false=>
    have hne:fs≠raw:=fun e=>by have:=hb.2 e;simp at this
    rw [if_pos (by simp [hne])] at hr;simp only [a₀] at hr;obtain⟨rfl,rfl⟩:=hr;refine bR seat Tryz.func147 46 ?_;refine ae ?_;(iterate 12 ((all_goals(refine ae ?_));(all_goals(first | (refine ai rfl (fun _ h=>h) rfl (c1) rfl rfl ?_) | (refine ai rfl (fun _ h=>h) rfl (c2) rfl rfl ?_) | (refine ai rfl (fun _ h=>h) rfl (c3) rfl rfl ?_) | (refine ai rfl (fun _ h=>h) rfl (aa (c4)) rfl rfl ?_) | (refine ai rfl (fun _ h=>h) rfl (aa (c5)) rfl rfl ?_) | ((first | refine ah rfl rfl ?_ rfl ?_ | refine ad rfl ?_ ?_);all_goals(intro h;(try simp only [pl] at h);(try (exfalso;omega)))) | skip))));all_goals(refine av ?_;exact en [_,_])
   | true=>
    have heq:fs=raw:=hb.1 rfl;rw [if_neg (by simp [heq])] at hr;by_cases hv:vt=0
    ·subst hv;rw [if_neg sm] at hr;simp only [a₀] at hr;obtain⟨rfl,rfl⟩:=hr;refine bR seat Tryz.func147 46 ?_;refine ae ?_;(iterate 12 ((all_goals(refine ae ?_));(all_goals(first | (refine ai rfl (fun _ h=>h) rfl (c1) rfl rfl ?_) | (refine ai rfl (fun _ h=>h) rfl (c2) rfl rfl ?_) | (refine ai rfl (fun _ h=>h) rfl (c3) rfl rfl ?_) | (refine ai rfl (fun _ h=>h) rfl (aa (c4)) rfl rfl ?_) | (refine ai rfl (fun _ h=>h) rfl (aa (c5)) rfl rfl ?_) | ((first | refine ah rfl rfl ?_ rfl ?_ | refine ad rfl ?_ ?_);all_goals(intro h;(try simp only [pl] at h);(try (exfalso;omega)))) | skip))));all_goals(refine av ?_;exact en [_,_])
    ·rw [if_pos hv] at hr;simp only [a₀] at hr;obtain⟨rfl,rfl⟩:=hr;refine bR seat Tryz.func147 46 ?_;refine ae ?_;(iterate 12 ((all_goals(refine ae ?_));(all_goals(first | (refine ai rfl (fun _ h=>h) rfl (c1) rfl rfl ?_) | (refine ai rfl (fun _ h=>h) rfl (c2) rfl rfl ?_) | (refine ai rfl (fun _ h=>h) rfl (c3) rfl rfl ?_) | (refine ai rfl (fun _ h=>h) rfl (aa (c4)) rfl rfl ?_) | (refine ai rfl (fun _ h=>h) rfl (aa (c5)) rfl rfl ?_) | ((first | refine ah rfl rfl ?_ rfl ?_ | refine ad rfl ?_ ?_);all_goals(intro h;(try simp only [pl] at h);(try (exfalso;omega)))) | skip))));all_goals(refine av ?_;exact en [_,_])
 ·rw [if_pos (.inl he)] at hr;simp only [a₀] at hr;obtain⟨rfl,rfl⟩:=hr;refine bR seat Tryz.func147 46 ?_;refine ae ?_;(iterate 12 ((all_goals(refine ae ?_));(all_goals(first | (refine ai rfl (fun _ h=>h) rfl (c1) rfl rfl ?_) | (refine ai rfl (fun _ h=>h) rfl (c2) rfl rfl ?_) | (refine ai rfl (fun _ h=>h) rfl (c3) rfl rfl ?_) | (refine ai rfl (fun _ h=>h) rfl (aa (c4)) rfl rfl ?_) | (refine ai rfl (fun _ h=>h) rfl (aa (c5)) rfl rfl ?_) | ((first | refine ah rfl rfl ?_ rfl ?_ | refine ad rfl ?_ ?_);all_goals(intro h;(try simp only [pl] at h);(try (exfalso;omega)))) | skip))));all_goals(refine av ?_;exact en [_,_])
end
section
variable {G:GS}
attribute [local irreducible] aj aC aG aL aO vC aU au
structure aW where
 name:List UInt8
 bal:Nat
 seq:Nat
def aV (a:aW):MV:= .st [.str a.name, .int .u64 a.bal, .int .u64 a.seq]
def eM (a:aW):Prop:=a.name.length≤5000∧bh a.bal∧bh a.seq
def ac0:aW:=⟨[],0,0⟩
structure gr where
 acs:List aW
 col:Nat
def lgM (l:gr):MV:= .st [.sl l.acs.length (l.acs.map aV), .int .u64 l.col]
def iz (a b:Nat):Nat×Bool:=if a + b < 18446744073709551616 then(a + b,true) else(0,false)
theorem eN {l:List aW} {k:Nat} (hk:k < l.length):cS (l.map aV) l.length (k:Int)=some (aV l[k]):=eh hk (by simp [hk])
theorem Mg (a b:Nat) (ha:bh a) (hb:bh b):aD Tryz.prog G 156 [.int .u64 a, .int .u64 b] (.tup [.int .u64 (iz a b).1, .bool (iz a b).2]):=by
 unfold bh at ha hb;generalize hr:iz a b=r;obtain⟨R,okk⟩:=r;unfold iz at hr;dsimp only;split at hr
 ·rename_i h;simp only [a₀] at hr;obtain⟨rfl,rfl⟩:=hr;refine aZ seat Tryz.func156 13 ?_;refine ae ?_;(iterate 4 ((all_goals(refine ae ?_));(all_goals(first | ((first | refine ah rfl rfl ?_ rfl ?_ | refine ad rfl ?_ ?_);all_goals(intro h;(try simp only [pl] at h);(try (exfalso;omega)))) | skip))));all_goals(refine av ?_)
  all_goals rfl
 ·rename_i h;simp only [a₀] at hr;obtain⟨rfl,rfl⟩:=hr;refine aZ seat Tryz.func156 13 ?_;refine ae ?_;(iterate 4 ((all_goals(refine ae ?_));(all_goals(first | ((first | refine ah rfl rfl ?_ rfl ?_ | refine ad rfl ?_ ?_);all_goals(intro h;(try simp only [pl] at h);(try (exfalso;omega)))) | skip))));all_goals(refine av ?_)
  all_goals rfl
def eO (name:List UInt8):List aW→Nat→Int
 | [],_=> -1
 | a :: r,i=>if a.name=name then i else eO name r (i + 1)
theorem xW (l:List aW) (name:List UInt8) (hl:l.length≤1000000):aD Tryz.prog G 127 [.sl l.length (l.map aV), .str name] (.int .i64 (eO name l 0)):=by
 generalize hr:eO name l 0=R;refine aZ seat Tryz.func127 20 ?_;refine ae ?_;refine ar Nat (fun k=> [(9, .int .i64 k),(8, .int .i64 l.length),(7, .sl l.length (l.map aV)),(1, .str name)]) (fun _=> []) 0 (fun k=>k≤l.length∧eO name (l.drop k) k=R) (fun k=>l.length - k) 0 ⟨a₆ _,by rw [a₅];exact hr⟩ (vm [] []) ?_;rintro k ⟨hk,hR⟩;try dsimp only
 refine ae ?_;refine ad rfl ?_ ?_ <;> intro h
 ·have hk':k < l.length:=by have:=ot h;omega
  have hel:=eN hk';rw [a₁ hk',eO] at hR;generalize l[k] =a at *;obtain⟨nm,bal,seq⟩:=a;replace hel:cS (l.map aV) l.length (k:Int)=some (.st [.str nm, .int .u64 bal, .int .u64 seq]):=hel;have hel:=al.mk hel;dsimp only at hR;by_cases he:nm=name
  ·rw [if_pos he] at hR;subst he;subst hR;refine fP ?_;refine av ?_;rfl
  ·rw [if_neg he] at hR;refine ae ?_;refine ad rfl ?_ ?_ <;> intro h
   ·exact absurd (eq_of_beq h) he
   ·refine ae ?_;exact⟨k + 1,⟨by show k + 1≤l.length;omega,hR⟩,by show l.length - (k + 1) < l.length - k;omega,(by dsimp only;exact(vm [] []))⟩
 ·have hk':k=l.length:=by have:=oF h;omega
  subst hk';rw [a₂,eO] at hR;subst hR;refine ae ?_;refine av ?_;rfl
end
section
variable {G:GS}
attribute [local irreducible] aj aC aG aL aO vC aU au
def limS (n:Int):Nat:=(max 0 (min n 1073741824)).toNat
theorem wx (n:Int) (hn: -9223372036854775808≤n∧n < 9223372036854775808):aD Tryz.prog G 219 [.int .i64 n] (.int .u64 (limS n)):=by
 refine aZ seat Tryz.func219 7 ?_;refine ae ?_;refine av ?_;refine congrArg (MV.int .u64) ?_;unfold limS;split <;> split <;> omega
def jW (a b:Nat):Nat×Bool:=if a * b < 18446744073709551616 then(a * b,true) else(0,false)
theorem Ou (a b:Nat) (ha:bh a) (hb:bh b):aD Tryz.prog G 220 [.int .u64 a, .int .u64 b] (.tup [.int .u64 (jW a b).1, .bool (jW a b).2]):=by
 unfold bh at ha hb;have hq:0 < a→(18446744073709551615 / a < b↔18446744073709551615 < b * a):=fun h=>b₇ h
 have hm:a=0→a * b=0:=fun h=>by rw [h,Nat.zero_mul]
 rw [c₆ b a] at hq;have f1:=aT.mk (show IntKind.u64.wrap ((18446744073709551615:Int).tdiv (a:Int))=((18446744073709551615 / a:Nat):Int) from Ae (a:=18446744073709551615) a om);have f2:a * b < 18446744073709551616→IntKind.u64.wrap ((a:Int) * (b:Int))=((a * b:Nat):Int):=fun h=>by
  rw [← d₅];exact bt _ om om
 have hz:(18446744073709551615 / a:Nat) < 18446744073709551616:=c₇ (c₂ _ _) om;generalize hr:jW a b=r;obtain⟨R,okk⟩:=r;unfold jW at hr;generalize a * b=m at *;generalize 18446744073709551615 / a=q at *;dsimp only;by_cases h:m < 18446744073709551616
 ·rw [if_pos h] at hr;simp only [a₀] at hr;obtain⟨rfl,rfl⟩:=hr;have f2:=aT.mk (f2 h);refine aZ seat Tryz.func220 17 ?_;refine ae ?_;(iterate 6 ((all_goals(refine ae ?_));(all_goals(first | ((first | refine ah rfl rfl ?_ rfl ?_ | refine ad rfl ?_ ?_);all_goals(intro h;(try simp only [pl] at h);(try (exfalso;omega)))) | skip))));all_goals(refine av ?_)
  all_goals rfl
 ·rw [if_neg h] at hr;simp only [a₀] at hr;obtain⟨rfl,rfl⟩:=hr;refine aZ seat Tryz.func220 17 ?_;refine ae ?_;(iterate 6 ((all_goals(refine ae ?_));(all_goals(first | ((first | refine ah rfl rfl ?_ rfl ?_ | refine ad rfl ?_ ?_);all_goals(intro h;(try simp only [pl] at h);(try (exfalso;omega)))) | skip))));all_goals(refine av ?_)
  all_goals rfl
def mg (size trs:Int):Nat:=50 + limS size + 20 * limS trs
theorem MP (x y:Int) (hx: -9223372036854775808≤x∧x < 9223372036854775808) (hy: -9223372036854775808≤y∧y < 9223372036854775808):aD Tryz.prog G 174 [.int .i64 x, .int .i64 y] (.int .u64 (mg x y)):=by
 have c1:=wx (G:=G) x hx;have c2:=wx (G:=G) y hy;have l1:limS x≤1073741824:=by unfold limS;omega
 have l2:limS y≤1073741824:=by unfold limS;omega
 unfold mg;generalize limS x=u at *;generalize limS y=v at *;refine aZ seat Tryz.func174 13 ?_;refine ae ?_;(iterate 4 ((all_goals(refine ae ?_));(all_goals(first | (refine ai rfl (fun _ h=>h) rfl (aa (c1)) rfl rfl ?_) | (refine ai rfl (fun _ h=>h) rfl (aa (c2)) rfl rfl ?_) | ((first | refine ah rfl rfl ?_ rfl ?_ | refine ad rfl ?_ ?_);all_goals(intro h;(try simp only [pl] at h);(try (exfalso;omega)))) | skip))));all_goals(refine av ?_)
 refine congrArg (MV.int .u64) ?_;omega
end
section
variable {G:GS}
attribute [local irreducible] aj aC aG aL aO vC aU au
def bd (l:List aW) (name:List UInt8):aW×Bool:=match l.find? (fun a=>decide (a.name=name)) with
 | some a=>(a,true)
 | none=>(ac0,false)
theorem kQ (name:List UInt8): ∀(l:List aW) (i:Nat),(eO name l i= -1∧l.find? (fun a=>decide (a.name=name))=none)∨∃k a,eO name l i=((i + k:Nat):Int)∧l[k]? =some a∧l.find? (fun a=>decide (a.name=name))=some a
 | [],i=> .inl ⟨rfl,rfl⟩
 | a :: r,i=>by
  by_cases h:a.name=name
  ·exact .inr ⟨0,a,by rw [eO,if_pos h];rfl,rfl,by simp [h]⟩
  ·have hf:(a :: r).find? (fun a=>decide (a.name=name))=r.find? (fun a=>decide (a.name=name)):=by simp [h]
   rw [eO,if_neg h,hf]
   rcases kQ name r (i + 1) with h1 | ⟨k,b,h1,h2,h3⟩
   ·exact .inl h1
   ·exact .inr ⟨k + 1,b,by rw [h1];omega,by simpa using h2,h3⟩
theorem Mh (l:List aW) (col:Nat) (name:List UInt8) (hl:l.length≤1000000):aD Tryz.prog G 173 [.st [.sl l.length (l.map aV), .int .u64 col], .str name] (.tup [aV (bd l name).1, .bool (bd l name).2]):=by
 have c1:=xW (G:=G) l name hl;rcases kQ name l 0 with ⟨h1,h2⟩ | ⟨k,a,h1,h2,h3⟩
 ·rw [h1] at c1;have e:bd l name=(ac0,false):=by unfold bd;rw [h2]
  rw [e];refine aZ seat Tryz.func173 19 ?_;refine ae ?_;(iterate 6 ((all_goals(refine ae ?_));(all_goals(first | (refine ai rfl (fun _ h=>h) rfl (aa (c1)) rfl rfl ?_) | ((first | refine ah rfl rfl ?_ rfl ?_ | refine ad rfl ?_ ?_);all_goals(intro h;(try simp only [pl] at h);(try (exfalso;omega)))) | skip))));all_goals(refine av ?_)
  all_goals rfl
 ·rw [h1,a₄] at c1;have e:bd l name=(a,true):=by unfold bd;rw [h3]
  rw [e];obtain⟨hk,ha⟩:=c₀.1 h2;have hel:=eN hk;rw [ha] at hel;obtain⟨nm,bal,seq⟩:=a;replace hel:cS (l.map aV) l.length (k:Int)=some (.st [.str nm, .int .u64 bal, .int .u64 seq]):=hel;have hel:=al.mk hel;clear h1 h2 h3 e ha;refine aZ seat Tryz.func173 19 ?_;refine ae ?_;(iterate 6 ((all_goals(refine ae ?_));(all_goals(first | (refine ai rfl (fun _ h=>h) rfl (aa (c1)) rfl rfl ?_) | ((first | refine ah rfl rfl ?_ rfl ?_ | refine ad rfl ?_ ?_);all_goals(intro h;(try simp only [pl] at h);(try (exfalso;omega)))) | skip))));all_goals(refine av ?_)
  all_goals rfl
def totS:List aW→Nat→Nat×Bool
 | [],s=>(s,true)
 | a :: r,s=>if (iz s a.bal).2 then totS r (iz s a.bal).1 else(0,false)
theorem tT {a b:Nat}:bh (iz a b).1:=by
 unfold iz bh;split
 ·assumption
 ·show 0 < _;omega
theorem DJ (l:List aW) (col:Nat) (hc:bh col) (hl:l.length≤1000000) (hs: ∀a∈l,bh a.bal):aD Tryz.prog G 129 [.st [.sl l.length (l.map aV), .int .u64 col]] (.tup [.int .u64 (totS l col).1, .bool (totS l col).2]):=by
 generalize hr:totS l col=r;obtain⟨R,okk⟩:=r;dsimp only;refine aZ seat Tryz.func129 30 ?_;refine ae ?_;refine ar (Nat×Nat) (fun x=> [(14, .int .i64 x.1),(13, .int .i64 l.length),(12, .sl l.length (l.map aV)),(4, .int .u64 x.2)]) (fun _=> []) 0 (fun x=>x.1≤l.length∧bh x.2∧totS (l.drop x.1) x.2=(R,okk)) (fun x=>l.length - x.1) (0,col) ⟨a₆ _,hc,by rw [a₅];exact hr⟩ (by dsimp only;exact(vm [] [])) ?_;rintro⟨k,s⟩ ⟨hk,hsU,hR⟩;try dsimp only
 dsimp only at hk hsU hR;refine ae ?_;refine ad rfl ?_ ?_ <;> intro h
 ·have hk':k < l.length:=by have:=ot h;omega
  have hel:=eN hk';have hb:=hs _ (b₀ hk');rw [a₁ hk',totS] at hR;generalize l[k] =a at *;obtain⟨nm,bal,seq⟩:=a;replace hel:cS (l.map aV) l.length (k:Int)=some (.st [.str nm, .int .u64 bal, .int .u64 seq]):=hel;have hel:=al.mk hel;dsimp only at hR hb;have c1:=Mg (G:=G) s bal hsU hb;have hU:= @tT s bal;generalize iz s bal=p at *;obtain⟨v,b⟩:=p;dsimp only at c1 hR hU;cases b with
  | true=>
   rw [if_pos rfl] at hR;refine ae ?_;(iterate 6 ((all_goals(refine ae ?_));(all_goals(first | (refine ai rfl (fun _ h=>h) rfl (aa (c1)) rfl rfl ?_) | ((first | refine ah rfl rfl ?_ rfl ?_ | refine ad rfl ?_ ?_);all_goals(intro h;(try simp only [pl] at h);(try (exfalso;omega)))) | skip))));exact⟨(k + 1,v),⟨by show k + 1≤l.length;omega,hU,hR⟩,by show l.length - (k + 1) < l.length - k;omega,(by dsimp only;exact(vm [] []))⟩
  | false=>
   rw [if_neg sm] at hR;simp only [a₀] at hR;obtain⟨rfl,rfl⟩:=hR;refine ae ?_;(iterate 6 ((all_goals(refine ae ?_));(all_goals(first | (refine ai rfl (fun _ h=>h) rfl (aa (c1)) rfl rfl ?_) | ((first | refine ah rfl rfl ?_ rfl ?_ | refine ad rfl ?_ ?_);all_goals(intro h;(try simp only [pl] at h);(try (exfalso;omega)))) | skip))));all_goals(refine av ?_)
   all_goals rfl
 ·have hk':k=l.length:=by have:=oF h;omega
  subst hk';rw [a₂,totS] at hR;simp only [a₀] at hR;obtain⟨rfl,rfl⟩:=hR;refine ae ?_;refine av ?_;rfl
end
section
variable {G:GS}
attribute [local irreducible] aj aC aG aL aO vC aU au
def o8 (a:aW):List aW→List aW
 | [] => [a]
 | b :: r=>if Op.bytesLess b.name a.name then b :: o8 a r else a :: b :: r
def eP (a:aW) (l:List aW):List aW:=if 0≤eO a.name l 0 then l.set (eO a.name l 0).toNat a else o8 a l
theorem xX (a:aW): ∀(l:List aW) (k:Nat),k≤l.length→(∀j (hj:j < l.length),j < k→Op.bytesLess l[j].name a.name=true)→(∀hk:k < l.length,Op.bytesLess l[k].name a.name=false)→o8 a l=l.take k ++ a :: l.drop k
 | [],k,h,_,_=>by
  have:k=0:=by simpa using h
  subst this;rfl
 | b :: r,0,_,_,h2=>by
  have:=h2 sm
  simp only [c₄] at this
  rw [o8,if_neg (by rw [this];simp)]
  rfl
 | b :: r,k + 1,h,h1,h2=>by
  have hb:=h1 0 sm om
  simp only [c₄] at hb
  rw [o8,if_pos hb,xX a r k (by simpa using h) (fun j hj hjk=>by have:=h1 (j + 1) (by simpa using hj) om;simpa using this) (fun hk=>by have:=h2 (by simpa using hk);simpa using this)]
  rfl
theorem kR (l:List aW):bE (l.map aV) 3=true:=by cases l <;> rfl
theorem tU (a:aW): ∀l,(o8 a l).length=l.length + 1
 | [] =>rfl
 | b :: r=>by
  rw [o8]
  split
  ·simp [tU a r]
  ·simp
theorem mh (a:aW) (l:List aW):(eP a l).length≤l.length + 1:=by
 unfold eP;split
 ·simp
 ·rw [tU];omega
theorem H3 (a:aW) (l:List aW) (hl:l.length≤1000000):aH Tryz.prog G 128 [.sl l.length (l.map aV),aV a] [] 0 (.sl (eP a l).length ((eP a l).map aV)) [] 0:=by
 have c1:=xW (G:=G) l a.name hl;obtain⟨nm,bal,seq⟩:=a;dsimp only at c1;have hspec:=kQ nm l 0;have hput:eP ⟨nm,bal,seq⟩ l=if 0≤eO nm l 0 then l.set (eO nm l 0).toNat ⟨nm,bal,seq⟩ else o8 ⟨nm,bal,seq⟩ l:=rfl
 by_cases hf:eO nm l 0= -1
 ·rw [hf] at c1 hput;rw [if_neg om] at hput;rw [hput];clear hspec hf hput;have hins:=xX ⟨nm,bal,seq⟩ l;have hil:=tU ⟨nm,bal,seq⟩ l;dsimp only at hins;generalize o8 ⟨nm,bal,seq⟩ l=Z at *;refine bR seat Tryz.func128 50 ?_;refine ae ?_;(iterate 3 ((all_goals(refine ae ?_));(all_goals(first | (refine ai rfl (fun _ h=>h) rfl (aa (c1)) rfl rfl ?_) | ((first | refine ah rfl rfl ?_ rfl ?_ | refine ad rfl ?_ ?_);all_goals(intro h;(try simp only [pl] at h);(try (exfalso;omega)))) | skip))));refine ar Nat (fun k=> [(7, .int .i64 k),(3, .ptr 0 3 0 0 []),(0, .sl l.length (l.map aV))]) (fun _=> [(0,⟨87,3,false,0,[.st [.str nm, .int .u64 bal, .int .u64 seq]]⟩)]) 1 (fun k=>k≤l.length∧∀j (hj:j < l.length),j < k→Op.bytesLess l[j].name nm=true) (fun k=>l.length - k) 0 ⟨a₆ _,fun j hj h=>absurd h (Nat.not_lt_zero _)⟩ (vm [(0,_)] []) ?_;rintro k ⟨hki,hpre⟩;try dsimp only
  have step: ∀hk:k < l.length,Op.bytesLess l[k].name nm=true→(k + 1≤l.length∧∀j (hj:j < l.length),j < k + 1→Op.bytesLess l[j].name nm=true):=fun hk hb=>⟨om,fun j hj hjk=>by
   rcases b₄ j k with h | h
   ·exact hpre j hj h
   ·have:j=k:=om;subst this;exact hb⟩
  have done:(∀hk:k < l.length,Op.bytesLess l[k].name nm=false)→Z=l.take k ++ ⟨nm,bal,seq⟩ :: l.drop k:=fun h=>hins k hki hpre h
  clear hins;refine ae ?_;refine aw [ag 0,ag 1,ag 2,ag 3,ag 4,ag 5,ag 6,ag 7,ag 8,ag 9,ag 10,ag 11,ag 12,ag 13] ?_;refine ae ?_;refine gO rfl rfl ?_ rfl ?_ <;> intro h
  ·have hk:k < l.length:=by have:=ot h;omega
   have hel:=eN hk;replace step:=step hk;generalize he:l[k] =b at *;obtain⟨nm',bal',seq'⟩:=b;replace hel:cS (l.map aV) l.length (k:Int)=some (.st [.str nm', .int .u64 bal', .int .u64 seq']):=hel;have hel:=al.mk hel;dsimp only at step;refine ae ?_;refine ad rfl ?_ ?_ <;> intro h
   ·refine ae ?_;exact⟨k + 1,step h,by show l.length - (k + 1) < l.length - k;omega,(by dsimp only;exact(vm [(0,_)] []))⟩
   ·have hfin:=done (fun _=>by rw [he];exact h);have fb1:=al.mk (nt (κ:= .i64) hki);have fb2:=al.mk (gm (κ:= .i64) hki);have fb3:=bN.mk (kR l);refine ae ?_;refine aw [ag 0,ag 1,ag 2,ag 3,ag 4,ag 5,ag 6,ag 7,ag 8,ag 9,ag 10,ag 11,ag 12] ?_;refine ae ?_;refine bO rfl (by intro R hR;refine dM hR ?_;refine a₃ ((by show bE (cutL _ 0 k) 3=true;rw [cut_take];exact kR _)) ?_;refine a₃ ⟨rfl,aE (by kernel_rfl) pf⟩ ?_;refine⟨(l.take k).map aV,sv (by show [] ++ cutL _ 0 k=_;rw [b₃,cut_take]),k,sv pf,?_⟩;exact hR) rfl ?_;refine ae ?_;refine bO rfl (by intro R hR;refine dM hR ?_;(refine a₃ (c₃ _) ?_;refine⟨_,rfl,?_⟩;refine a₃ ⟨(by simp <;> omega),aE (by kernel_rfl) pf⟩ ?_;refine⟨(l.take k ++ [(⟨nm,bal,seq⟩:aW)]).map aV,sv (by simp;rfl),k+1,sv pf,?_⟩);exact hR) rfl ?_;refine ae ?_;refine bO rfl (by intro R hR;refine dM hR ?_;refine a₃ ((by show bE (cutL _ k l.length) 3=true;rw [ej];exact kR _)) ?_;refine a₃ ⟨(by simp <;> omega),aE (by kernel_rfl) pf⟩ ?_;refine⟨Z.map aV,sv (by rw [hfin];show _ ++ cutL _ k l.length=_;rw [ej];simp),Z.length,sv pf,?_⟩;exact hR) rfl ?_;refine ae ?_;refine⟨[_],[],[(26,Z.length)],rfl,rfl,?_,rfl,⟨?_,trivial⟩,?_⟩
    ·exact⟨by show Z.length≤(Z.map aV).length;simp,trivial⟩
    ·exact .inr ⟨rfl,rfl,rfl,c₈ (a₄ _),bT aV Z⟩
    ·exact mm
  ·have hk:k=l.length:=by have:=oF h;omega
   have hfin:=done (fun h=>absurd h om);refine ae ?_;have fb1:=al.mk (nt (κ:= .i64) hki);have fb2:=al.mk (gm (κ:= .i64) hki);have fb3:=bN.mk (kR l);refine ae ?_;refine aw [ag 0,ag 1,ag 2,ag 3,ag 4,ag 5,ag 6,ag 7,ag 8,ag 9,ag 10,ag 11,ag 12] ?_;refine ae ?_;refine bO rfl (by intro R hR;refine dM hR ?_;refine a₃ ((by show bE (cutL _ 0 k) 3=true;rw [cut_take];exact kR _)) ?_;refine a₃ ⟨rfl,aE (by kernel_rfl) pf⟩ ?_;refine⟨(l.take k).map aV,sv (by show [] ++ cutL _ 0 k=_;rw [b₃,cut_take]),k,sv pf,?_⟩;exact hR) rfl ?_;refine ae ?_;refine bO rfl (by intro R hR;refine dM hR ?_;(refine a₃ (c₃ _) ?_;refine⟨_,rfl,?_⟩;refine a₃ ⟨(by simp <;> omega),aE (by kernel_rfl) pf⟩ ?_;refine⟨(l.take k ++ [(⟨nm,bal,seq⟩:aW)]).map aV,sv (by simp;rfl),k+1,sv pf,?_⟩);exact hR) rfl ?_;refine ae ?_;refine bO rfl (by intro R hR;refine dM hR ?_;refine a₃ ((by show bE (cutL _ k l.length) 3=true;rw [ej];exact kR _)) ?_;refine a₃ ⟨(by simp <;> omega),aE (by kernel_rfl) pf⟩ ?_;refine⟨Z.map aV,sv (by rw [hfin];show _ ++ cutL _ k l.length=_;rw [ej];simp),Z.length,sv pf,?_⟩;exact hR) rfl ?_;refine ae ?_;refine⟨[_],[],[(26,Z.length)],rfl,rfl,?_,rfl,⟨?_,trivial⟩,?_⟩
   ·exact⟨by show Z.length≤(Z.map aV).length;simp,trivial⟩
   ·exact .inr ⟨rfl,rfl,rfl,c₈ (a₄ _),bT aV Z⟩
   ·exact mm
 ·obtain⟨k,b,h1,h2,_⟩:=hspec.resolve_left (fun h=>hf h.1);have hk:=(c₀.1 h2).1;rw [h1] at c1 hput;rw [if_pos om,c₉,a₄] at hput;rw [a₄] at c1;rw [hput];clear h1 h2 hspec hf hput;rw [d₆];have f1:=al.mk (ca hk);have hrow:bH (l.map aV) (0 + k)=some (aV l[k]):=by rw [bD,a₄];simp [hk]
  generalize l[k] =b' at hrow;obtain⟨nm',bal',seq'⟩:=b';have hrow:=al.mk (show bH (l.map aV) (0 + k)=some (.st [.str nm', .int .u64 bal', .int .u64 seq']) from hrow);refine bR seat Tryz.func128 50 ?_;refine ae ?_;(iterate 3 ((all_goals(refine ae ?_));(all_goals(first | (refine ai rfl (fun _ h=>h) rfl (aa (c1)) rfl rfl ?_) | ((first | refine ah rfl rfl ?_ rfl ?_ | refine ad rfl ?_ ?_);all_goals(intro h;(try simp only [pl] at h);(try (exfalso;omega)))) | skip))));refine aY rfl rfl (by intro R hR;refine dM hR ?_;refine a₃ ((kR l)) ?_;refine a₃ ⟨rfl,aE (by kernel_rfl) pf⟩ ?_;refine⟨l.map aV,sv (by show [] ++ l.map aV=_;rw [b₃]),l.length,sv pf,?_⟩;exact hR) rfl ?_;refine ae ?_;refine⟨[_],[],[(10,l.length)],rfl,rfl,?_,rfl,⟨?_,trivial⟩,?_⟩
  ·exact⟨by show l.length≤(setL (l.map aV) (0 + k) _).length;rw [setL_eq];simp,trivial⟩
  ·refine .inr ⟨rfl,rfl,rfl,c₈ (a₄ _),?_⟩
   show cutL (setL (l.map aV) (0 + k) (aV ⟨nm,bal,seq⟩)) 0 (0 + l.length)=(l.set k ⟨nm,bal,seq⟩).map aV
   rw [setL_eq,a₄,← List.map_set,cut_take,a₄];rw [List.take_of_length_le (by rw [d₆];omega)]
  ·exact mm
end
section
variable {G:GS}
attribute [local irreducible] aj aC aG aL aO vC aU au
def sumG:List Nat→Nat→Nat×Bool
 | [],s=>(s,true)
 | x :: r,s=>if (iz s x).2 then sumG r (iz s x).1 else(0,false)
def eH (l:List Nat):List MV:=l.map fun(n:Nat)=>MV.int .u64 (n:Int)
theorem DM {l:List Nat} {k:Nat} (hk:k < l.length):cS (eH l) l.length (k:Int)=some (.int .u64 (l[k] :Int)):=eh hk (by simp [eH,hk])
theorem gG (m:Nat):((m:Int).fdiv (2 ^ (min (32:Int).toNat IntKind.u64.bits)))=((m / 4294967296:Nat):Int):=by
 rw [show min (32:Int).toNat IntKind.u64.bits=32 by rfl,b₂ _ (by decide)];exact(c₁ m 4294967296).symm
theorem gP {m:Nat} (hm:m < 18446744073709551616):IntKind.u64.wrap ((BitVec.ofInt IntKind.u64.bits (m:Int) &&& BitVec.ofInt IntKind.u64.bits (4294967295:Int)).toNat:Int)=((m % 4294967296:Nat):Int):=by
 have e:=b₈ m 32;rw [BitVec.toNat_and,ei _ _ (show m < 2 ^ IntKind.u64.bits from hm),show (4294967295:Int)=((4294967295:Nat):Int) by rfl,ei _ _ (show 4294967295 < 2 ^ IntKind.u64.bits by decide),show (4294967295:Nat)=2 ^ 32 - 1 by rfl,e,wu64];omega
theorem MQ {h l:Nat} (hh:h < 4294967296) (hl:l < 4294967296):IntKind.u64.wrap ((BitVec.ofInt IntKind.u64.bits ((h * 4294967296:Nat):Int) ||| BitVec.ofInt IntKind.u64.bits (l:Int)).toNat:Int)=((h * 4294967296 + l:Nat):Int):=by
 have e:h * 4294967296 ||| l=h * 4294967296 + l:=by
  have:=b₉ (i:=32) hl h;rw [d₃] at this;exact this.symm
 rw [BitVec.toNat_or,ei _ _ (show h * 4294967296 < 2 ^ IntKind.u64.bits by show _ < 18446744073709551616;omega),ei _ _ (show l < 2 ^ IntKind.u64.bits by show _ < 18446744073709551616;omega),e,wu64];omega
theorem MR (m:Nat):IntKind.u64.wrap ((m:Int) * 2 ^ (min (32:Int).toNat IntKind.u64.bits))=((m % 4294967296 * 4294967296:Nat):Int):=by
 rw [show min (32:Int).toNat IntKind.u64.bits=32 by rfl,wu64];omega
def dZ (a b c:Nat):Nat×Bool:=if c=0∨c≤a * b / 18446744073709551616 then(0,false) else(a * b / c,true)
theorem Cn (a b:Nat) (ha:bh a) (hb:bh b): ∃w p q r:Nat,a / 4294967296 * (b / 4294967296)=w∧a % 4294967296 * (b % 4294967296)=p∧a / 4294967296 * (b % 4294967296)=q∧a % 4294967296 * (b / 4294967296)=r∧w < 18446744065119617026∧p < 18446744065119617026∧q < 18446744065119617026∧r < 18446744065119617026∧a * b=w * 18446744073709551616 + (q + r) * 4294967296 + p∧a * b / 18446744073709551616 < 18446744073709551616:=by
 unfold bh at ha hb;have b1: ∀x y:Nat,x≤4294967295→y≤4294967295→x * y < 18446744065119617026:=fun x y hx hy=>by
  have:=Nat.mul_le_mul hx hy;omega
 refine⟨_,_,_,_,rfl,rfl,rfl,rfl,b1 _ _ om om,b1 _ _ om om,b1 _ _ om om,b1 _ _ om om,?_,?_⟩
 ·have e1:a=a / 4294967296 * 4294967296 + a % 4294967296:=om;have e2:b=b / 4294967296 * 4294967296 + b % 4294967296:=om;generalize a / 4294967296=x at *;generalize a % 4294967296=y at *;generalize b / 4294967296=u at *;generalize b % 4294967296=v at *;subst e1;subst e2;rw [Nat.add_mul,d₁,d₁,Nat.add_mul];have h1:x * 4294967296 * (u * 4294967296)=x * u * 18446744073709551616:=by rw [Nat.mul_mul_mul_comm]
  have h2:x * 4294967296 * v=x * v * 4294967296:=by rw [Nat.mul_right_comm]
  have h3:y * (u * 4294967296)=y * u * 4294967296:=by rw [Nat.mul_assoc]
  rw [h1,h2,h3];omega
 ·rw [b₇ om];have:=Nat.mul_le_mul (show a≤18446744073709551615 by omega) (show b≤18446744073709551615 by omega);omega
theorem FE (a b:Nat) (ha:bh a) (hb:bh b):aD Tryz.prog G 221 [.int .u64 a, .int .u64 b] (.tup [.int .u64 (a * b / 18446744073709551616:Nat), .int .u64 (a * b % 18446744073709551616:Nat)]):=by
 obtain⟨w,p,q,r,hw,hp,hq,hr,bw,bp,bq,br,hab,hhi⟩:=Cn a b ha hb;unfold bh at ha hb;have mk: ∀x y z:Nat,x * y=z→z < 18446744065119617026→IntKind.u64.wrap ((x:Int) * (y:Int))=(z:Int):=fun x y z h hz=>by
  rw [← d₅,h];exact bt _ om om
 have m1:=aT.mk (mk _ _ _ hw bw);have m2:=aT.mk (mk _ _ _ hp bp);have m3:=aT.mk (mk _ _ _ hq bq);have m4:=aT.mk (mk _ _ _ hr br);have s1:=aT.mk (gG a);have s2:=aT.mk (gG b);have s3:=aT.mk (gG p);have s4:=aT.mk (gG q);have s5:=aT.mk (gG r);have l1:=aT.mk (gP (m:=a) ha);have l2:=aT.mk (gP (m:=b) hb);have l3:=aT.mk (gP (m:=p) om);have l4:=aT.mk (gP (m:=q) om);have l5:=aT.mk (gP (m:=r) om);clear hw hp hq hr mk;generalize a * b=n at *;subst hab;have hm:p / 4294967296 + q % 4294967296 + r % 4294967296 < 18446744073709551616:=om;have a1:=aT.mk (show IntKind.u64.wrap (((p / 4294967296:Nat):Int) + ((q % 4294967296:Nat):Int))=((p / 4294967296 + q % 4294967296:Nat):Int) from bt _ om om);have a2:=aT.mk (show IntKind.u64.wrap (((p / 4294967296 + q % 4294967296:Nat):Int) + ((r % 4294967296:Nat):Int))=((p / 4294967296 + q % 4294967296 + r % 4294967296:Nat):Int) from bt _ om om);have s6:=aT.mk (gG (p / 4294967296 + q % 4294967296 + r % 4294967296));have s7:=aT.mk (MR (p / 4294967296 + q % 4294967296 + r % 4294967296));have o1:=aT.mk (MQ (h:=(p / 4294967296 + q % 4294967296 + r % 4294967296) % 4294967296) (l:=p % 4294967296) om om);refine aZ seat Tryz.func221 56 ?_;refine ae ?_;(iterate 4 ((all_goals(refine ae ?_));(all_goals(first | ((first | refine ah rfl rfl ?_ rfl ?_ | refine ad rfl ?_ ?_);all_goals(intro h;(try simp only [pl] at h);(try (exfalso;omega)))) | skip))));all_goals(refine av ?_)
 refine congrArg MV.tup ?_;refine d₀.2 ⟨congrArg (MV.int .u64) ?_,d₀.2 ⟨congrArg (MV.int .u64) ?_,rfl⟩⟩
 ·omega
 ·omega
theorem Ov (m:Nat):((m:Int).fdiv (2 ^ (min (63:Int).toNat IntKind.u64.bits)))=((m / 9223372036854775808:Nat):Int):=by
 rw [show min (63:Int).toNat IntKind.u64.bits=63 by rfl,b₂ _ (by decide)];exact(c₁ m 9223372036854775808).symm
theorem Ow (m:Nat) {i:Nat} (hi:i < 64):((m:Int).fdiv (2 ^ (min (i:Int).toNat IntKind.u64.bits)))=((m / 2 ^ i:Nat):Int):=by
 rw [show min (i:Int).toNat IntKind.u64.bits=i by rw [c₉];exact Nat.min_eq_left (Nat.le_of_lt hi),b₂ _ (by exact Int.le_of_lt (Int.pow_pos (by decide)))];rw [c₁,Int.natCast_pow];rfl
theorem Pm {m:Nat} (hm:m < 18446744073709551616):IntKind.u64.wrap ((BitVec.ofInt IntKind.u64.bits (m:Int) &&& BitVec.ofInt IntKind.u64.bits (1:Int)).toNat:Int)=((m % 2:Nat):Int):=by
 have e:=b₈ m 1;rw [BitVec.toNat_and,ei _ _ (show m < 2 ^ IntKind.u64.bits from hm),show (1:Int)=((1:Nat):Int) by rfl,ei _ _ (show 1 < 2 ^ IntKind.u64.bits by decide),show (1:Nat)=2 ^ 1 - 1 by rfl,e,wu64];omega
theorem DO (m:Nat):IntKind.u64.wrap ((m:Int) * 2 ^ (min (1:Int).toNat IntKind.u64.bits))=((2 * m % 18446744073709551616:Nat):Int):=by
 rw [show min (1:Int).toNat IntKind.u64.bits=1 by rfl,wu64];omega
theorem H4 {m b:Nat} (hm:m % 2=0) (hb:b < 2) (h:m < 18446744073709551616):IntKind.u64.wrap ((BitVec.ofInt IntKind.u64.bits (m:Int) ||| BitVec.ofInt IntKind.u64.bits (b:Int)).toNat:Int)=((m + b:Nat):Int):=by
 have e:m ||| b=m + b:=by
  have:=b₉ (i:=1) hb (m / 2);rw [d₃,show m / 2 * 2 ^ 1=m by omega] at this;exact this.symm
 rw [BitVec.toNat_or,ei _ _ (show m < 2 ^ IntKind.u64.bits from h),ei _ _ (show b < 2 ^ IntKind.u64.bits by show _ < 18446744073709551616;omega),e,wu64];omega
theorem MS {m:Nat} (hm:m % 2=0) (h:m < 18446744073709551616):IntKind.u64.wrap ((BitVec.ofInt IntKind.u64.bits (m:Int) ||| BitVec.ofInt IntKind.u64.bits (1:Int)).toNat:Int)=((m + 1:Nat):Int):=H4 (b:=1) hm om h
theorem K0 {N c i out rest bit:Nat} (hb:N / 2 ^ i % 2=bit) (h:N / 2 ^ (i + 1)=c * out + rest):N / 2 ^ i=c * (2 * out) + (2 * rest + bit):=by
 have e:N / 2 ^ (i + 1)=N / 2 ^ i / 2:=by rw [Nat.pow_succ,Nat.div_div_eq_div_mul]
 rw [e] at h;rw [show c * (2 * out)=2 * (c * out) by rw [Nat.mul_left_comm]];omega
theorem K5 (N:Nat) {i:Nat} (hi:i < 64):N % 18446744073709551616 / 2 ^ i % 2=N / 2 ^ i % 2:=by
 have h1:=Nat.testBit_mod_two_pow N 64 i;rw [b₆,b₆,decide_eq_true hi,b₁,decide_eq_decide] at h1;have e:(2:Nat) ^ 64=18446744073709551616:=by rfl
 rw [e] at h1;omega
theorem H5 (a b c:Nat) (ha:bh a) (hb:bh b) (hc:bh c):aD Tryz.prog G 176 [.int .u64 a, .int .u64 b, .int .u64 c] (.tup [.int .u64 (dZ a b c).1, .bool (dZ a b c).2]):=by
 have c1:=FE (G:=G) a b ha hb;obtain⟨_,_,_,_,_,_,_,_,_,_,_,_,_,hhi⟩:=Cn a b ha hb;unfold bh at ha hb hc;generalize hr:dZ a b c=r;obtain⟨R,okk⟩:=r;dsimp only;unfold dZ at hr;have hlow:=fun i hi=>K5 (a * b) (i:=i) hi
 have hlt:(a * b) % 18446744073709551616 < 18446744073709551616:=Nat.mod_lt _ om;by_cases h0:c=0∨c≤a * b / 18446744073709551616
 ·rw [if_pos h0] at hr;simp only [a₀] at hr;obtain⟨rfl,rfl⟩:=hr;generalize a * b / 18446744073709551616=hi at *;refine aZ seat Tryz.func176 54 ?_;refine ae ?_;(iterate 6 ((all_goals(refine ae ?_));(all_goals(first | (refine ai rfl (fun _ h=>h) rfl (aa (c1)) rfl rfl ?_) | ((first | refine ah rfl rfl ?_ rfl ?_ | refine ad rfl ?_ ?_);all_goals(intro h;(try simp only [pl] at h);(try (exfalso;omega)))) | skip))));all_goals(refine av ?_)
  all_goals rfl
 ·rw [if_neg h0] at hr;simp only [a₀] at hr;obtain⟨rfl,rfl⟩:=hr;have hbig:a * b < 18446744073709551616 * c:=by rw [c₆ 18446744073709551616 c];exact(b₇ om).1 om
  generalize a * b=N at *;generalize hhi':N / 18446744073709551616=hi at *;generalize N % 18446744073709551616=low at *;have hi0:N / 2 ^ 64=c * 0 + hi:=by rw [Nat.mul_zero,a₄];exact hhi'
  have hc0:0 < c:=om;refine aZ seat Tryz.func176 54 ?_;refine ae ?_;(iterate 6 ((all_goals(refine ae ?_));(all_goals(first | (refine ai rfl (fun _ h=>h) rfl (aa (c1)) rfl rfl ?_) | ((first | refine ah rfl rfl ?_ rfl ?_ | refine ad rfl ?_ ?_);all_goals(intro h;(try simp only [pl] at h);(try (exfalso;omega)))) | skip))));refine ar (Nat×Nat×Nat) (fun x=> [(11, .int .i64 ((x.1:Int) - 1)),(10, .int .u64 x.2.2),(9, .int .u64 low),(8, .int .u64 x.2.1),(2, .int .u64 c)]) (fun _=> []) 0 (fun x=>x.1≤64∧x.2.1 < c∧N / 2 ^ x.1=c * x.2.2 + x.2.1) (fun x=>x.1) (64,hi,0) ⟨dm,dm,hi0⟩ (by dsimp only;exact(vm [] [])) ?_;rintro⟨j,rest,out⟩ ⟨hj,hrest,hq⟩;try dsimp only
  dsimp only at hj hrest hq;cases j with
  | zero=>
   rw [Nat.pow_zero,Nat.div_one] at hq;have hout:N / c=out:=by rw [hq,Nat.mul_add_div hc0,Nat.div_eq_of_lt hrest,Nat.add_zero]
   rw [hout];refine ae ?_;(iterate 4 ((all_goals(refine ae ?_));(all_goals(first | ((first | refine ah rfl rfl ?_ rfl ?_ | refine ad rfl ?_ ?_);all_goals(intro h;(try simp only [pl] at h);(try (exfalso;omega)))) | skip))));all_goals(refine av ?_)
   all_goals rfl
  | succ i=>
   have hi6:i < 64:=om;have hcast:((i + 1:Nat):Int) - 1=(i:Int):=om;rw [hcast];obtain⟨bit,hbit⟩: ∃bit,bit=low / 2 ^ i % 2:=⟨_,rfl⟩
   have hb2:bit < 2:=om;have hstep:=K0 (bit:=bit) (by rw [hbit];exact(hlow i hi6).symm) hq;have hsm:low / 2 ^ i < 18446744073709551616:=c₇ (c₂ _ _) hlt;have e1:=aT.mk (Ov rest);have e2:=aT.mk (DO rest);have e3:=aT.mk (Ow low hi6);have e4:=aT.mk (Pm hsm);rw [← hbit] at e4;have e5:=aT.mk (H4 (m:=2 * rest % 18446744073709551616) om hb2 om);have e6:=aT.mk (DO out);have hcap: ∀o r,N / 2 ^ i=c * o + r→o < 18446744073709551616:=fun o r h=>by
    have h1:N / 2 ^ i≤N:=c₂ _ _;refine Nat.lt_of_mul_lt_mul_left (a:=c) ?_;rw [c₆ c 18446744073709551616];omega
   have ho:=hcap _ _ hstep;by_cases hge:c≤2 * rest + bit
   ·have h2:N / 2 ^ i=c * (2 * out + 1) + (2 * rest + bit - c):=by rw [hstep,d₁,Nat.mul_one];omega
    have ho2:=hcap _ _ h2;have e7:=aT.mk (show IntKind.u64.wrap (((2 * rest % 18446744073709551616 + bit:Nat):Int) - (c:Int))=((2 * rest + bit - c:Nat):Int) by rw [wu64];omega);have e8:=aT.mk (MS (m:=2 * out % 18446744073709551616) om om);have e9:2 * out % 18446744073709551616 + 1=2 * out + 1:=om;rw [e9] at e8;have hlt2:2 * rest + bit - c < c:=om;clear hlow hbit hstep hcap hq;generalize 2 * rest + bit - c=r2 at *;generalize 2 * out + 1=o2 at *;refine ae ?_;(iterate 6 ((all_goals(refine ae ?_));(all_goals(first | ((first | refine ah rfl rfl ?_ rfl ?_ | refine ad rfl ?_ ?_);all_goals(intro h;(try simp only [pl] at h);(try (exfalso;omega)))) | skip))));all_goals(exact⟨(i,r2,o2),⟨by dsimp only;omega,hlt2,h2⟩,by dsimp only;omega,(by dsimp only;exact(vm [] []))⟩)
   ·have e9:2 * out % 18446744073709551616=2 * out:=om;rw [e9] at e6;have e10:2 * rest % 18446744073709551616 + bit=2 * rest + bit:=om;rw [e10] at e5;clear hlow hbit hcap hq;refine ae ?_;(iterate 6 ((all_goals(refine ae ?_));(all_goals(first | ((first | refine ah rfl rfl ?_ rfl ?_ | refine ad rfl ?_ ?_);all_goals(intro h;(try simp only [pl] at h);(try (exfalso;omega)))) | skip))));all_goals(exact⟨(i,2 * rest + bit,2 * out),⟨by dsimp only;omega,by dsimp only;omega,hstep⟩,by dsimp only;omega,(by dsimp only;exact(vm [] []))⟩)
def o9 (fee gas:Nat):Nat:=if gas=0 then 0 else if (dZ fee 1000 gas).2 then(dZ fee 1000 gas).1 else 18446744073709551615
end
section
variable {G:GS}
attribute [local irreducible] aj aC aG aL aO vC aU au
theorem Ox (l:List Nat) (hl:l.length≤1000000) (hs: ∀a∈l,bh a):aD Tryz.prog G 177 [.sl l.length (eH l)] (.tup [.int .u64 (sumG l 0).1, .bool (sumG l 0).2]):=by
 generalize hr:sumG l 0=r;obtain⟨R,okk⟩:=r;dsimp only;refine aZ seat Tryz.func177 26 ?_;refine ae ?_;refine ar (Nat×Nat) (fun x=> [(11, .int .i64 x.1),(10, .int .i64 l.length),(9, .sl l.length (eH l)),(4, .int .u64 x.2)]) (fun _=> []) 0 (fun x=>x.1≤l.length∧bh x.2∧sumG (l.drop x.1) x.2=(R,okk)) (fun x=>l.length - x.1) (0,0) ⟨a₆ _,by unfold bh;omega,by rw [a₅];exact hr⟩ (by dsimp only;exact(vm [] [])) ?_;rintro⟨k,s⟩ ⟨hk,hsU,hR⟩;try dsimp only
 dsimp only at hk hsU hR;refine ae ?_;refine ad rfl ?_ ?_ <;> intro h
 ·have hk':k < l.length:=by have:=ot h;omega
  have hel:=DM hk';have hb:=hs _ (b₀ hk');rw [a₁ hk',sumG] at hR;generalize l[k] =a at *;have hel:=al.mk hel;have c1:=Mg (G:=G) s a hsU hb;have hU:= @tT s a;generalize iz s a=p at *;obtain⟨v,b⟩:=p;dsimp only at c1 hR hU;cases b with
  | true=>
   rw [if_pos rfl] at hR;refine ae ?_;(iterate 6 ((all_goals(refine ae ?_));(all_goals(first | (refine ai rfl (fun _ h=>h) rfl (aa (c1)) rfl rfl ?_) | ((first | refine ah rfl rfl ?_ rfl ?_ | refine ad rfl ?_ ?_);all_goals(intro h;(try simp only [pl] at h);(try (exfalso;omega)))) | skip))));exact⟨(k + 1,v),⟨by show k + 1≤l.length;omega,hU,hR⟩,by show l.length - (k + 1) < l.length - k;omega,(by dsimp only;exact(vm [] []))⟩
  | false=>
   rw [if_neg sm] at hR;simp only [a₀] at hR;obtain⟨rfl,rfl⟩:=hR;refine ae ?_;(iterate 6 ((all_goals(refine ae ?_));(all_goals(first | (refine ai rfl (fun _ h=>h) rfl (aa (c1)) rfl rfl ?_) | ((first | refine ah rfl rfl ?_ rfl ?_ | refine ad rfl ?_ ?_);all_goals(intro h;(try simp only [pl] at h);(try (exfalso;omega)))) | skip))));all_goals(refine av ?_)
   all_goals rfl
 ·have hk':k=l.length:=by have:=oF h;omega
  subst hk';rw [a₂,sumG] at hR;simp only [a₀] at hR;obtain⟨rfl,rfl⟩:=hR;refine ae ?_;refine av ?_;rfl
theorem MT (fee gas:Nat) (h1:bh fee) (h2:bh gas):aD Tryz.prog G 149 [.int .u64 fee, .int .u64 gas] (.int .u64 (o9 fee gas)):=by
 have c1:=H5 (G:=G) fee 1000 gas h1 (by unfold bh;omega) h2;unfold o9;generalize dZ fee 1000 gas=p at *;obtain⟨v,b⟩:=p;dsimp only at c1 ⊢;by_cases hg:gas=0
 ·subst hg;rw [if_pos rfl];refine aZ seat Tryz.func149 17 ?_;refine ae ?_;(iterate 6 ((all_goals(refine ae ?_));(all_goals(first | (refine ai rfl (fun _ h=>h) rfl (aa (c1)) rfl rfl ?_) | ((first | refine ah rfl rfl ?_ rfl ?_ | refine ad rfl ?_ ?_);all_goals(intro h;(try simp only [pl] at h);(try (exfalso;omega)))) | skip))));all_goals(refine av ?_)
  all_goals rfl
 ·rw [if_neg hg];cases b with
  | true=>
   rw [if_pos rfl];refine aZ seat Tryz.func149 17 ?_;refine ae ?_;(iterate 6 ((all_goals(refine ae ?_));(all_goals(first | (refine ai rfl (fun _ h=>h) rfl (aa (c1)) rfl rfl ?_) | ((first | refine ah rfl rfl ?_ rfl ?_ | refine ad rfl ?_ ?_);all_goals(intro h;(try simp only [pl] at h);(try (exfalso;omega)))) | skip))));all_goals(refine av ?_)
   all_goals rfl
  | false=>
   rw [if_neg sm];refine aZ seat Tryz.func149 17 ?_;refine ae ?_;(iterate 6 ((all_goals(refine ae ?_));(all_goals(first | (refine ai rfl (fun _ h=>h) rfl (aa (c1)) rfl rfl ?_) | ((first | refine ah rfl rfl ?_ rfl ?_ | refine ad rfl ?_ ?_);all_goals(intro h;(try simp only [pl] at h);(try (exfalso;omega)))) | skip))));all_goals(refine av ?_)
   all_goals rfl
theorem MU (a b:Nat) (ha:bh a) (hb:bh b):aD Tryz.prog G 175 [.int .u64 a, .int .u64 b] (.tup [.int .u64 (jW a b).1, .bool (jW a b).2]):=by
 have c1:=Ou (G:=G) a b ha hb;generalize jW a b=p at *;obtain⟨v,b⟩:=p;dsimp only at c1 ⊢;refine aZ seat Tryz.func175 11 ?_;refine ae ?_;(iterate 6 ((all_goals(refine ae ?_));(all_goals(first | (refine ai rfl (fun _ h=>h) rfl (aa (c1)) rfl rfl ?_) | ((first | refine ah rfl rfl ?_ rfl ?_ | refine ad rfl ?_ ?_);all_goals(intro h;(try simp only [pl] at h);(try (exfalso;omega)))) | skip))));all_goals(refine av ?_)
 all_goals rfl
theorem FF (n:Nat) (hn:bh n):aD Tryz.prog G 107 [.int .u64 n] (.int .i64 (bW n).length):=by
 have c1:=Ab (G:=G) [] n sm hn;rw [b₃,List.length_nil,a₄] at c1;refine aZ seat Tryz.func107 6 ?_;refine ae ?_;refine yc (c1) [] ?_;refine ae ?_;refine av ?_;rfl
def i6 (n:Nat):Nat:=1 + (bW n).length + n
theorem K6 (n:Nat) (hn:n < 4611686018427387904):aD Tryz.prog G 57 [.int .i64 n] (.int .i64 (i6 n)):=by
 have c1:=FF (G:=G) n (by unfold bh;omega);have h2:=(da (n:=n) om).2;unfold i6;generalize (bW n).length=v at *;have hw:=aT.mk (show IntKind.u64.wrap (n:Int)=(n:Int) from bt _ om om);refine aZ seat Tryz.func57 11 ?_;refine ae ?_;(iterate 6 ((all_goals(refine ae ?_));(all_goals(first | (refine ai rfl (fun _ h=>h) rfl (aa (c1)) rfl rfl ?_) | ((first | refine ah rfl rfl ?_ rfl ?_ | refine ad rfl ?_ ?_);all_goals(intro h;(try simp only [pl] at h);(try (exfalso;omega)))) | skip))));all_goals(refine av ?_)
 all_goals(refine congrArg (MV.int .i64) ?_;omega)
theorem H6 (l:List Int) (n:Int) (hl:l.length < 1000000000):aD Tryz.prog G 108 [bM l, .int .i64 n] (.bool (decide (n∈l))):=by
 generalize hr:decide (n∈l)=R;unfold bM;refine aZ seat Tryz.func108 17 ?_;refine ae ?_;refine ar Nat (fun k=> [(9, .int .i64 k),(8, .int .i64 l.length),(7, .sl l.length (l.map (MV.int .i64))),(1, .int .i64 n)]) (fun _=> []) 0 (fun k=>k≤l.length∧decide (n∈l.drop k)=R) (fun k=>l.length - k) 0 ⟨a₆ _,by rw [a₅];exact hr⟩ (vm [] []) ?_;rintro k ⟨hk,hR⟩;try dsimp only
 refine ae ?_;refine ad rfl ?_ ?_ <;> intro h
 ·have hk':k < l.length:=by have:=ot h;omega
  have hel:=jR hk';rw [a₁ hk'] at hR;generalize l[k] =a at *;have hel:=al.mk hel;by_cases he:a=n
  ·subst he;have:R=true:=by rw [← hR];simp
   subst this;refine fP ?_;refine av ?_;rfl
  ·have hR2:decide (n∈l.drop (k + 1))=R:=by rw [← hR];simp [Ne.symm he]
   refine ae ?_;refine ad rfl ?_ ?_ <;> intro h
   ·exact absurd (eq_of_beq h) he
   ·refine ae ?_;exact⟨k + 1,⟨by show k + 1≤l.length;omega,hR2⟩,by show l.length - (k + 1) < l.length - k;omega,(by dsimp only;exact(vm [] []))⟩
 ·have hk':k=l.length:=by have:=oF h;omega
  subst hk';rw [a₂] at hR;have:R=false:=by rw [← hR];simp
  subst this;refine ae ?_;refine av ?_;rfl
def DP (l:List (List UInt8)):MV:= .sl l.length (l.map qj)
theorem Ao (a b:List (List UInt8)) (ha:a.length < 1000000000) (hb:b.length < 1000000000):aD Tryz.prog G 68 [DP a,DP b] (.bool (decide (a=b))):=by
 generalize hr:decide (a=b)=R;unfold DP;by_cases hlen:a.length=b.length
 ·refine aZ seat Tryz.func68 27 ?_;refine ae ?_;(iterate 2 ((all_goals(refine ae ?_));(all_goals(first | ((first | refine ah rfl rfl ?_ rfl ?_ | refine ad rfl ?_ ?_);all_goals(intro h;(try simp only [pl] at h);(try (exfalso;omega)))) | skip))));refine ar Nat (fun k=> [(13, .int .i64 k),(12, .int .i64 a.length),(1, .sl b.length (b.map qj)),(0, .sl a.length (a.map qj))]) (fun _=> []) 0 (fun k=>k≤a.length∧decide (a.drop k=b.drop k)=R) (fun k=>a.length - k) 0 ⟨a₆ _,by rw [a₅,a₅];exact hr⟩ (vm [] []) ?_;rintro k ⟨hk,hR⟩;try dsimp only
  refine ae ?_;refine ad rfl ?_ ?_ <;> intro h
  ·have hk':k < a.length:=by have:=ot h;omega
   have hk2:k < b.length:=om;have h1:=rV hk';have h2:=rV hk2;rw [a₁ hk',a₁ hk2] at hR;generalize a[k] =x at *;generalize b[k] =y at *;have h1:cS (a.map qj) a.length (k:Int)=some (.sl x.length (u8s x)):=h1;have h2:cS (b.map qj) b.length (k:Int)=some (.sl y.length (u8s y)):=h2;have h1:=al.mk h1;have h2:=al.mk h2;have c1:=xU (G:=G) x y;refine ae ?_;refine aw [ag 0,ag 1,ag 2,ag 3,ag 4,ag 5,ag 6,ag 7,de 8,ag 9] ?_;refine ae ?_;refine OX (c1) ?_;have hxy:(x == y)=true↔x=y:=sm;generalize (x == y)=e at *;cases e with
   | true=>
    have hxy:=hxy.1 rfl;subst hxy;have hR2:decide (a.drop (k + 1)=b.drop (k + 1))=R:=by rw [← hR];simp
    refine ae ?_;exact⟨k + 1,⟨by show k + 1≤a.length;omega,hR2⟩,by show a.length - (k + 1) < a.length - k;omega,(by dsimp only;exact(vm [] []))⟩
   | false=>
    have:R=false:=by rw [← hR];simp;exact fun e=>absurd (hxy.2 e) sm
    subst this;refine ae ?_;refine av ?_;rfl
  ·have hk':k=a.length:=by have:=oF h;omega
   have:R=true:=by rw [← hR,hk',a₂,hlen,a₂];simp
   subst this;refine ae ?_;refine av ?_;rfl
 ·have:R=false:=by rw [← hr];simp;exact fun e=>hlen (by rw [e])
  subst this;refine aZ seat Tryz.func68 27 ?_;refine ae ?_;(iterate 2 ((all_goals(refine ae ?_));(all_goals(first | ((first | refine ah rfl rfl ?_ rfl ?_ | refine ad rfl ?_ ?_);all_goals(intro h;(try simp only [pl] at h);(try (exfalso;omega)))) | skip))));all_goals(refine av ?_)
  all_goals rfl
end
end Go.Proofs.YthdhlcicpcnbhaaGreatDoor
